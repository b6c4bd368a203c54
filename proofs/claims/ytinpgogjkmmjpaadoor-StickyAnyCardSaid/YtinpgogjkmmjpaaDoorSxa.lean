/- What the arguments of the sticky law Any read as. No condition. -/
import Derived.Test.YtinpgogjkmmjpaaDoorSxr
set_option linter.unusedVariables false
set_option linter.unusedSimpArgs false
namespace Go.Proofs.YtinpgogjkmmjpaaDoor.Sx
open Go Go.RowKit Go.Proofs.YtinpgogjkmmjpaaDoor.Vc Go.Proofs.YtinpgogjkmmjpaaDoor.Ax Go.Proofs.YtinpgogjkmmjpaaDoor.Ky Go.Proofs.YtinpgogjkmmjpaaDoor.Id Go.Proofs.YtinpgogjkmmjpaaDoor.Sp

section
variable {H : Type} {enc : TypeId × Value → H} {w : World}
theorem rdd_str {t : TypeId} {cs : List Value} {d : DataW H} (ht : Tryd.prog.underlying t = some .string) (h : RdD enc Tryd.prog w t cs d) : ∃ s : ByteArray, cs = [.string s] ∧ d = .lit (.string s.data.toList) := by
  obtain ⟨held, fuel, p, h⟩ := h
  obtain ⟨s, h1, h2, _⟩ := DataW.trod_string ht h
  injection h2 with h2
  exact ⟨s, h1, h2⟩
theorem each_ok {P : Program} : ∀ {ts : List TypeId} {ds : List (DataW H)} {B : Nat}, (∀ x ∈ DataW.weightsEach P ts ds, x ≤ B) → ∀ (j : Nat) t d, ts[j]? = some t → ds[j]? = some d → ∀ x ∈ d.weights P t, x ≤ B := by
  intro ts
  induction ts with
  | nil => intro ds B _ j t d h; simp at h
  | cons t ts ih =>
    intro ds B h j u d h1 h2
    cases ds with
    | nil => simp at h2
    | cons e ds =>
      simp only [DataW.weightsEach, List.mem_append] at h
      cases j with
      | zero =>
        simp only [List.getElem?_cons_zero, Option.some.injEq] at h1 h2
        subst h1; subst h2
        exact fun x hx => h x (.inl hx)
      | succ j => exact ih (fun x hx => h x (.inr hx)) j u d (by simpa using h1) (by simpa using h2)
theorem str_ok {P : Program} {t : TypeId} {s : ByteArray} (h : ∀ x ∈ (DataW.lit (.string s.data.toList) : DataW H).weights P t, x ≤ reachBytes) : strOK s.size := by
  have h1 := h s.data.toList.length (by simp [DataW.weights])
  have h2 : s.data.toList.length = s.size := by simp
  have h3 : reachBytes = 140737488351232 := rfl
  show s.size ≤ 140737488355328
  omega
set_option maxRecDepth 100000 in
theorem rdd_link {cs : List Value} {d : DataW H} (h : RdD enc Tryd.prog w 40 cs d) (hB : ∀ x ∈ d.weights Tryd.prog 40, x ≤ reachBytes) : ∃ k : Lk, cs = lkc k ∧ strOK k.a.size ∧ strOK k.b.size := by
  obtain ⟨held, fuel, p, h⟩ := h
  obtain ⟨xs, n, rfl, hd, hcl, hxl, hel⟩ := DataW.trod_struct rfl h
  injection hd with hd
  subst hd
  have h0 := hel 0 _ rfl
  have h1 := hel 1 _ rfl
  have h2 := hel 2 _ rfl
  have hcl' : cs.length = 3 := hcl
  have hxl' : xs.length = 3 := hxl
  match cs, hcl', xs, hxl' with
  | [c0, c1, c2], _, [x0, x1, x2], _ =>
    obtain ⟨a, e0, f0, _⟩ := DataW.trod_string (t := 9) rfl (show DataW.trod _ _ _ _ _ _ _ 9 [c0] = some x0 from h0)
    obtain ⟨b, e1, f1, _⟩ := DataW.trod_string (t := 9) rfl (show DataW.trod _ _ _ _ _ _ _ 9 [c1] = some x1 from h1)
    obtain ⟨t, e2, f2, _⟩ := DataW.trod_int (t := 3) (k := .i64) rfl (show DataW.trod _ _ _ _ _ _ _ 3 [c2] = some x2 from h2)
    subst f0; subst f1; subst f2
    have hE : ∀ x ∈ DataW.weightsEach Tryd.prog [9, 9, 3] [(.lit (.string a.data.toList) : DataW H), .lit (.string b.data.toList), .lit (.int .i64 t)], x ≤ reachBytes := hB
    refine ⟨⟨a, b, t⟩, ?_, str_ok (each_ok hE 0 _ _ rfl rfl), str_ok (each_ok hE 1 _ _ rfl rfl)⟩
    injection e0 with e0; injection e1 with e1; injection e2 with e2
    rw [e0, e1, e2]; rfl
set_option maxRecDepth 100000 in
theorem rdd_slot {cs : List Value} {d : DataW H} (h : RdD enc Tryd.prog w 43 cs d) (hB : ∀ x ∈ d.weights Tryd.prog 43, x ≤ reachBytes) : ∃ k : Sl, cs = slc k ∧ strOK k.id.size ∧ strOK k.layer.size ∧ strOK k.exp.size := by
  obtain ⟨held, fuel, p, h⟩ := h
  obtain ⟨xs, n, rfl, hd, hcl, hxl, hel⟩ := DataW.trod_struct rfl h
  injection hd with hd
  subst hd
  have h0 := hel 0 _ rfl
  have h1 := hel 1 _ rfl
  have h2 := hel 2 _ rfl
  have h3 := hel 3 _ rfl
  have h4 := hel 4 _ rfl
  have h5 := hel 5 _ rfl
  have h6 := hel 6 _ rfl
  have hcl' : cs.length = 7 := hcl
  have hxl' : xs.length = 7 := hxl
  match cs, hcl', xs, hxl' with
  | [c0, c1, c2, c3, c4, c5, c6], _, [x0, x1, x2, x3, x4, x5, x6], _ =>
    obtain ⟨a, e0, f0, _⟩ := DataW.trod_string (t := 9) rfl (show DataW.trod _ _ _ _ _ _ _ 9 [c0] = some x0 from h0)
    obtain ⟨b, e1, f1, _⟩ := DataW.trod_string (t := 9) rfl (show DataW.trod _ _ _ _ _ _ _ 9 [c1] = some x1 from h1)
    obtain ⟨c, e2, f2, _⟩ := DataW.trod_string (t := 9) rfl (show DataW.trod _ _ _ _ _ _ _ 9 [c2] = some x2 from h2)
    obtain ⟨k3, e3, f3, _⟩ := DataW.trod_int (t := 3) (k := .i64) rfl (show DataW.trod _ _ _ _ _ _ _ 3 [c3] = some x3 from h3)
    obtain ⟨k4, e4, f4, _⟩ := DataW.trod_int (t := 3) (k := .i64) rfl (show DataW.trod _ _ _ _ _ _ _ 3 [c4] = some x4 from h4)
    obtain ⟨k5, e5, f5, _⟩ := DataW.trod_int (t := 3) (k := .i64) rfl (show DataW.trod _ _ _ _ _ _ _ 3 [c5] = some x5 from h5)
    obtain ⟨k6, e6, f6, _⟩ := DataW.trod_int (t := 3) (k := .i64) rfl (show DataW.trod _ _ _ _ _ _ _ 3 [c6] = some x6 from h6)
    subst f0; subst f1; subst f2; subst f3; subst f4; subst f5; subst f6
    have hE : ∀ x ∈ DataW.weightsEach Tryd.prog [9, 9, 9, 3, 3, 3, 3] [(.lit (.string a.data.toList) : DataW H), .lit (.string b.data.toList), .lit (.string c.data.toList), .lit (.int .i64 k3), .lit (.int .i64 k4), .lit (.int .i64 k5), .lit (.int .i64 k6)], x ≤ reachBytes := hB
    refine ⟨⟨a, b, c, k3, k4, k5, k6⟩, ?_, str_ok (each_ok hE 0 _ _ rfl rfl), str_ok (each_ok hE 1 _ _ rfl rfl), str_ok (each_ok hE 2 _ _ rfl rfl)⟩
    injection e0 with e0; injection e1 with e1; injection e2 with e2; injection e3 with e3; injection e4 with e4; injection e5 with e5; injection e6 with e6
    rw [e0, e1, e2, e3, e4, e5, e6]; rfl
/-- the elements of a slice, each with its datum -/
theorem rows_of {α : Type} {c : α → List Value} {ok : α → Prop} {e : TypeId} (one : ∀ cs (d : DataW H), RdD enc Tryd.prog w e cs d → (∀ x ∈ d.weights Tryd.prog e, x ≤ reachBytes) → ∃ k : α, cs = c k ∧ ok k) :
    ∀ (css : List (List Value)) (ds : List (DataW H)), ds.length = css.length → (∀ (i : Nat) c d', css[i]? = some c → ds[i]? = some d' → RdD enc Tryd.prog w e c d') → (∀ x ∈ DataW.weightsAll Tryd.prog e ds, x ≤ reachBytes) → ∃ l : List α, l.length = css.length ∧ css.flatten = recs c l ∧ ∀ k ∈ l, ok k := by
  intro css
  induction css with
  | nil => intro ds _ _ _; exact ⟨[], rfl, rfl, fun k h => by cases h⟩
  | cons a css ih =>
    intro ds hl h hB
    cases ds with
    | nil => simp at hl
    | cons d ds =>
      simp only [DataW.weightsAll, List.mem_append] at hB
      obtain ⟨k, e1, hk⟩ := one a d (h 0 a d rfl rfl) fun x hx => hB x (.inl hx)
      obtain ⟨l, h1, h2, h3⟩ := ih ds (by simpa using hl) (fun i c d' hc hd => h (i + 1) c d' (by simpa using hc) (by simpa using hd)) fun x hx => hB x (.inr hx)
      refine ⟨k :: l, by simp [h1], by rw [List.flatten_cons, h2, e1]; rfl, fun y hy => ?_⟩
      rcases List.mem_cons.1 hy with rfl | hy
      · exact hk
      · exact h3 y hy
set_option maxRecDepth 100000 in
theorem rdd_links {cs : List Value} {d : DataW H} (h : RdD enc Tryd.prog w 24 cs d) (hB : ∀ x ∈ d.weights Tryd.prog 24, x ≤ reachBytes) :
    ∃ (oa : Option Addr) (l : List Lk) (cap : Nat), cs = [.slice oa l.length cap] ∧ (∀ k ∈ l, strOK k.a.size ∧ strOK k.b.size) ∧ ARep 0 loc0 (Here w) w (lksA l) (.slice oa l.length cap) := by
  obtain ⟨oa, len, cap, css, ds, h1, hlc, hcm, hn, hcl, hr, _, hdl, hd, hel⟩ := rdd_slice (e := 40) rfl h
  have hA : ∀ x ∈ DataW.weightsAll Tryd.prog 40 ds, x ≤ reachBytes := by
    rcases hd with ⟨_, h0⟩ | ⟨rest, rfl⟩
    · have : ds = [] := List.eq_nil_of_length_eq_zero (by omega)
      subst this
      intro x hx; simp [DataW.weightsAll] at hx
    · intro x hx
      refine hB x ?_
      have hu : Tryd.prog.underlying 24 = some (.slice 40) := rfl
      simp only [DataW.weights, hu, List.mem_cons, List.mem_append]
      exact .inr (.inl hx)
  obtain ⟨l, h2, h3, h4⟩ := rows_of (c := lkc) (fun cs d => rdd_link) css ds (by omega) hel hA
  rw [h3] at hr
  have e : len = l.length := by omega
  subst e
  refine ⟨oa, l, cap, h1, h4, .lst (frep_flat (c := lkc) (fun _ => rfl) lkc_len (fun a v hv => ?_) hlc hn hr (fun b hb => hb) (by decide))⟩
  simp only [lkc, List.mem_cons, List.not_mem_nil, or_false] at hv
  rcases hv with rfl | rfl | rfl <;> rfl
set_option maxRecDepth 100000 in
theorem rdd_slots {cs : List Value} {d : DataW H} (h : RdD enc Tryd.prog w 25 cs d) (hB : ∀ x ∈ d.weights Tryd.prog 25, x ≤ reachBytes) :
    ∃ (oa : Option Addr) (l : List Sl) (cap : Nat), cs = [.slice oa l.length cap] ∧ (∀ k ∈ l, strOK k.id.size ∧ strOK k.layer.size ∧ strOK k.exp.size) ∧ ARep 0 loc0 (Here w) w (slsA l) (.slice oa l.length cap) := by
  obtain ⟨oa, len, cap, css, ds, h1, hlc, hcm, hn, hcl, hr, _, hdl, hd, hel⟩ := rdd_slice (e := 43) rfl h
  have hA : ∀ x ∈ DataW.weightsAll Tryd.prog 43 ds, x ≤ reachBytes := by
    rcases hd with ⟨_, h0⟩ | ⟨rest, rfl⟩
    · have : ds = [] := List.eq_nil_of_length_eq_zero (by omega)
      subst this
      intro x hx; simp [DataW.weightsAll] at hx
    · intro x hx
      refine hB x ?_
      have hu : Tryd.prog.underlying 25 = some (.slice 43) := rfl
      simp only [DataW.weights, hu, List.mem_cons, List.mem_append]
      exact .inr (.inl hx)
  obtain ⟨l, h2, h3, h4⟩ := rows_of (c := slc) (fun cs d => rdd_slot) css ds (by omega) hel hA
  rw [h3] at hr
  have e : len = l.length := by omega
  subst e
  refine ⟨oa, l, cap, h1, h4, .lst (frep_flat (c := slc) (fun _ => rfl) slc_len (fun a v hv => ?_) hlc hn hr (fun b hb => hb) (by decide))⟩
  simp only [slc, List.mem_cons, List.not_mem_nil, or_false] at hv
  rcases hv with rfl | rfl | rfl | rfl | rfl | rfl | rfl <;> rfl
set_option maxRecDepth 100000 in
theorem rdd_reg {cs : List Value} {d : DataW H} (h : RdD enc Tryd.prog w 27 cs d) (hB : ∀ x ∈ d.weights Tryd.prog 27, x ≤ reachBytes) : ∃ r : Rg, RegS r ∧ ARep 0 loc0 (Here w) w (rgA r) (.agg cs.toArray) := by
  obtain ⟨held, fuel, p, h⟩ := h
  obtain ⟨xs, n, rfl, hd, hcl, hxl, hel⟩ := DataW.trod_struct rfl h
  injection hd with hd
  subst hd
  have h0 := hel 0 _ rfl
  have h1 := hel 1 _ rfl
  have h2 := hel 2 _ rfl
  have hcl' : cs.length = 3 := hcl
  have hxl' : xs.length = 3 := hxl
  match cs, hcl', xs, hxl' with
  | [c0, c1, c2], _, [x0, x1, x2], _ =>
    obtain ⟨k0, e0, f0, _⟩ := DataW.trod_int (t := 3) (k := .i64) rfl (show DataW.trod _ _ _ _ _ _ _ 3 [c0] = some x0 from h0)
    have hE : ∀ x ∈ DataW.weightsEach Tryd.prog [3, 24, 25] [x0.1, x1.1, x2.1], x ≤ reachBytes := hB
    obtain ⟨oa, ls, ca, e1, g1, r1⟩ := rdd_links (H := H) (d := x1.1) ⟨held, n, x1.2, (show DataW.trod _ _ _ _ _ _ _ 24 [c1] = some x1 from h1)⟩ (each_ok hE 1 _ _ rfl rfl)
    obtain ⟨ob, ss, cb, e2, g2, r2⟩ := rdd_slots (H := H) (d := x2.1) ⟨held, n, x2.2, (show DataW.trod _ _ _ _ _ _ _ 25 [c2] = some x2 from h2)⟩ (each_ok hE 2 _ _ rfl rfl)
    injection e0 with e0; injection e1 with e1; injection e2 with e2
    rw [e0, e1, e2]
    exact ⟨⟨k0, ls, ss⟩, ⟨g1, g2⟩, RepL.agg ⟨.v _, r1, r2, trivial⟩⟩
set_option maxRecDepth 100000 in
theorem rdd_asg {cs : List Value} {d : DataW H} (h : RdD enc Tryd.prog w 64 cs d) (hB : ∀ x ∈ d.weights Tryd.prog 64, x ≤ reachBytes) : ∃ (l e : ByteArray) (b a : Int) (held : Bool), cs = [.string l, .string e, .int .i64 b, .int .i64 a, .bool held] ∧ strOK l.size ∧ strOK e.size := by
  obtain ⟨hh, fuel, p, h⟩ := h
  obtain ⟨xs, n, rfl, hd, hcl, hxl, hel⟩ := DataW.trod_struct rfl h
  injection hd with hd
  subst hd
  have h0 := hel 0 _ rfl
  have h1 := hel 1 _ rfl
  have h2 := hel 2 _ rfl
  have h3 := hel 3 _ rfl
  have h4 := hel 4 _ rfl
  have hcl' : cs.length = 5 := hcl
  have hxl' : xs.length = 5 := hxl
  match cs, hcl', xs, hxl' with
  | [c0, c1, c2, c3, c4], _, [x0, x1, x2, x3, x4], _ =>
    obtain ⟨a, e0, f0, _⟩ := DataW.trod_string (t := 9) rfl (show DataW.trod _ _ _ _ _ _ _ 9 [c0] = some x0 from h0)
    obtain ⟨b, e1, f1, _⟩ := DataW.trod_string (t := 9) rfl (show DataW.trod _ _ _ _ _ _ _ 9 [c1] = some x1 from h1)
    obtain ⟨k2, e2, f2, _⟩ := DataW.trod_int (t := 3) (k := .i64) rfl (show DataW.trod _ _ _ _ _ _ _ 3 [c2] = some x2 from h2)
    obtain ⟨k3, e3, f3, _⟩ := DataW.trod_int (t := 3) (k := .i64) rfl (show DataW.trod _ _ _ _ _ _ _ 3 [c3] = some x3 from h3)
    obtain ⟨k4, e4, f4⟩ := DataW.trod_bool (t := 4) rfl (show DataW.trod _ _ _ _ _ _ _ 4 [c4] = some x4 from h4)
    subst f0; subst f1; subst f2; subst f3; subst f4
    have hE : ∀ x ∈ DataW.weightsEach Tryd.prog [9, 9, 3, 3, 4] [(.lit (.string a.data.toList) : DataW H), .lit (.string b.data.toList), .lit (.int .i64 k2), .lit (.int .i64 k3), .lit (.bool k4)], x ≤ reachBytes := hB
    refine ⟨a, b, k2, k3, k4, ?_, str_ok (each_ok hE 0 _ _ rfl rfl), str_ok (each_ok hE 1 _ _ rfl rfl)⟩
    injection e0 with e0; injection e1 with e1; injection e2 with e2; injection e3 with e3; injection e4 with e4
    rw [e0, e1, e2, e3, e4]
end
end Go.Proofs.YtinpgogjkmmjpaaDoor.Sx
