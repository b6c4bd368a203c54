/- What a law's arguments read as, in the reckoner's words; and the last step of a law's row out of its walk. No condition. -/
import Derived.Test.YthnncehddnfjmaaDoorVc6
import Derived.ProofKit
set_option linter.unusedVariables false
set_option linter.unusedSimpArgs false
namespace Go.Proofs.YthnncehddnfjmaaDoor.Vc
open Go Go.RowKit Go.ChangeShapes Go.WideShapes Go.ChangeAt

section
variable {H : Type} {enc : TypeId × Value → H} {P : Program} {w : World} {t : TypeId} {cs : List Value}
/-- these cells read as a datum of the type -/
def RdD (enc : TypeId × Value → H) (P : Program) (w : World) (t : TypeId) (cs : List Value) (d : DataW H) : Prop := ∃ held fuel p, DataW.trod enc P w 0 (fun _ => true) held fuel t cs = some (d, p)
def Rd (enc : TypeId × Value → H) (P : Program) (w : World) (t : TypeId) (cs : List Value) : Prop := ∃ d, RdD enc P w t cs d
theorem rdd_int {k : IntKind} {d : DataW H} (ht : P.underlying t = some (.int k)) (h : RdD enc P w t cs d) : ∃ n, cs = [.int k n] ∧ d = .lit (.int k n) ∧ (Lit.int k n).wf = true := by
  obtain ⟨held, fuel, p, hx⟩ := h
  obtain ⟨n, h1, h2, h3⟩ := DataW.trod_int ht hx
  injection h2 with h2
  exact ⟨n, h1, h2, h3⟩

theorem rd_int {k : IntKind} (ht : P.underlying t = some (.int k)) (h : Rd enc P w t cs) : ∃ n, cs = [.int k n] ∧ (Lit.int k n).wf = true := by
  obtain ⟨d, h⟩ := h
  obtain ⟨n, h1, _, h2⟩ := rdd_int ht h
  exact ⟨n, h1, h2⟩
theorem flat_get {α : Type} {sz : Nat} : ∀ (css : List (List α)) (k : Nat) (v : α), (∀ c ∈ css, c.length = sz) → css.flatten[k]? = some v →
    ∃ i j c, j < sz ∧ k = i * sz + j ∧ css[i]? = some c ∧ c[j]? = some v := by
  intro css
  induction css with
  | nil => intro k v _ h; simp at h
  | cons c r ih =>
    intro k v hl h
    have hc : c.length = sz := hl c (by simp)
    rw [List.flatten_cons, List.getElem?_append] at h
    split at h
    · rename_i hk
      exact ⟨0, k, c, by omega, by omega, by simp, h⟩
    · rename_i hk
      obtain ⟨i, j, c', hj, hk', hi, hv⟩ := ih _ v (fun c hc => hl c (by simp [hc])) h
      refine ⟨i + 1, j, c', hj, ?_, by simpa using hi, hv⟩
      rw [Nat.add_mul]
      omega
theorem cells_get {a : Addr} {n : Nat} {cs : List Value} (h : w.cells? 0 a n = some cs) : cs.length = n ∧ ∀ j v, cs[j]? = some v → w.cell? (a.add j) = some v := by
  unfold World.cells? at h
  rw [if_pos (Nat.zero_le _)] at h
  refine ⟨by rw [mapM_some_length h]; simp, fun j v hj => ?_⟩
  have hlt : j < n := by
    have := (List.getElem?_eq_some_iff.1 hj).1
    rw [mapM_some_length h] at this
    simpa using this
  have := mapM_some_get h j j (by simp [hlt])
  rw [this, hj]
theorem rdd_slice {e : TypeId} {d : DataW H} (ht : P.underlying t = some (.slice e)) (h : RdD enc P w t cs d) :
    ∃ (oa : Option Addr) (len cap : Nat) (css : List (List Value)) (ds : List (DataW H)), cs = [.slice oa len cap] ∧ len ≤ cap ∧ cap ≤ maxLen ∧ (oa = none → cap = 0) ∧ css.length = len ∧ Row w oa css.flatten ∧
      (∀ c ∈ css, c.length = P.cellsOf e ∧ Rd enc P w e c) ∧ ds.length = len ∧ ((d = .nil ∧ len = 0) ∨ ∃ rest, d = .slice ds rest) ∧ ∀ (i : Nat) (c : List Value) (d' : DataW H), css[i]? = some c → ds[i]? = some d' → RdD enc P w e c d' := by
  obtain ⟨held, fuel, pp, hx⟩ := h
  rcases DataW.trod_slice ht hx with ⟨h1, hd⟩ | ⟨a, len, cap, elems, rest, n, _, h1, hd, _, hlc, hcm, hlen, hel, _, _⟩
  · injection hd with hd
    exact ⟨none, 0, 0, [], [], h1, Nat.le_refl _, Nat.zero_le _, fun _ => rfl, rfl, Row.nil _ _, by simp, rfl, .inl ⟨hd, rfl⟩, fun i c d' h => by simp at h⟩
  · have each : ∀ i, i < len → ∃ ci, w.cells? 0 (a.add (i * P.cellsOf e)) (P.cellsOf e) = some ci ∧ Rd enc P w e ci ∧ ∀ d', (elems.map (·.1))[i]? = some d' → RdD enc P w e ci d' := by
      intro i hi
      have h1 := hel i hi
      rw [List.getElem?_eq_getElem (by omega)] at h1
      obtain ⟨ci, hc, ht⟩ := Option.bind_eq_some_iff.1 h1
      refine ⟨ci, hc, ⟨_, held, n, _, ht⟩, fun d' hd' => ?_⟩
      rw [List.getElem?_map, List.getElem?_eq_getElem (by omega)] at hd'
      simp only [Option.map_some, Option.some.injEq] at hd'
      subst hd'
      exact ⟨held, n, _, ht⟩
    obtain ⟨css, hcl, hcss⟩ : ∃ css : List (List Value), css.length = len ∧ ∀ (i : Nat) (c : List Value), css[i]? = some c → w.cells? 0 (a.add (i * P.cellsOf e)) (P.cellsOf e) = some c ∧ Rd enc P w e c ∧ ∀ d', (elems.map (·.1))[i]? = some d' → RdD enc P w e c d' := by
      refine ⟨(List.range len).map fun i => (w.cells? 0 (a.add (i * P.cellsOf e)) (P.cellsOf e)).getD [], by simp, fun i c hc => ?_⟩
      have hlt : i < len := by simpa using (List.getElem?_eq_some_iff.1 hc).1
      obtain ⟨ci, h1, h2⟩ := each i hlt
      simp only [List.getElem?_map, List.getElem?_range hlt, Option.map_some, h1, Option.getD_some, Option.some.injEq] at hc
      subst hc
      exact ⟨h1, h2⟩
    have hall : ∀ c ∈ css, c.length = P.cellsOf e ∧ Rd enc P w e c := by
      intro c hc
      obtain ⟨i, hi⟩ := List.mem_iff_getElem?.1 hc
      exact ⟨(cells_get (hcss i c hi).1).1, (hcss i c hi).2.1⟩
    refine ⟨some a, len, cap, css, elems.map (·.1), h1, hlc, hcm, (fun e => by cases e), hcl, ?_, hall, by simp [hlen], .inr ⟨rest.map (·.1), by injection hd⟩, fun i c d' h1 h2 => (hcss i c h1).2.2 d' h2⟩
    by_cases hne : css.flatten = []
    · exact .inl hne
    · right
      have cell : ∀ k v, css.flatten[k]? = some v → ∃ i j, j < P.cellsOf e ∧ k = i * P.cellsOf e + j ∧ w.cell? ((a.add (i * P.cellsOf e)).add j) = some v := by
        intro k v hk
        obtain ⟨i, j, c, hj, hkk, hi, hv⟩ := flat_get css k v (fun c hc => (hall c hc).1) hk
        exact ⟨i, j, hj, hkk, (cells_get (hcss i c hi).1).2 j v hv⟩
      have hspot : a.spot = none := by
        obtain ⟨v, hv⟩ : ∃ v, css.flatten[0]? = some v := by
          cases hf : css.flatten with
          | nil => exact absurd hf hne
          | cons v r => exact ⟨v, by simp⟩
        obtain ⟨i, j, hj, hk, hc⟩ := cell 0 v hv
        have hj0 : j = 0 := by omega
        have hi0 : i * P.cellsOf e = 0 := by omega
        rw [hi0, hj0] at hc
        have : (a.add 0).add 0 = a := by simp [Addr.add]
        rw [this] at hc
        cases hs : a.spot with
        | none => rfl
        | some s =>
          unfold World.cell? at hc
          split at hc <;> simp [hs] at hc
      obtain ⟨b, o, s⟩ := a
      simp only at hspot
      subst hspot
      refine ⟨b, o, rfl, ?_, fun k v hk => ?_⟩
      · obtain ⟨v, hv⟩ : ∃ v, css.flatten[0]? = some v := by
          cases hf : css.flatten with
          | nil => exact absurd hf hne
          | cons v r => exact ⟨v, by simp⟩
        obtain ⟨i, j, _, _, hc⟩ := cell 0 v hv
        rw [add0, add0] at hc
        exact World.block_lt_of_cell? w _ hc
      · obtain ⟨i, j, _, hkk, hc⟩ := cell k v hk
        rw [add0, add0] at hc
        rw [hkk, ← Nat.add_assoc]
        exact hc
theorem rd_slice {e : TypeId} (ht : P.underlying t = some (.slice e)) (h : Rd enc P w t cs) :
    ∃ (oa : Option Addr) (len cap : Nat) (css : List (List Value)), cs = [.slice oa len cap] ∧ len ≤ cap ∧ cap ≤ maxLen ∧ (oa = none → cap = 0) ∧ css.length = len ∧ Row w oa css.flatten ∧
      ∀ c ∈ css, c.length = P.cellsOf e ∧ Rd enc P w e c := by
  obtain ⟨d, h⟩ := h
  obtain ⟨oa, len, cap, css, _, a, b, c, d, e, f, g, _⟩ := rdd_slice ht h
  exact ⟨oa, len, cap, css, a, b, c, d, e, f, g⟩
theorem rd_top {v : Value} {d : DataW H} {p : List MemPlace} (h : DataW.Trod enc P w 0 (fun _ => true) true t v d p) : Rd enc P w t v.cells.toList := ⟨_, true, h.choose, _, h.choose_spec⟩

theorem trodAll_five {base : Nat} {spare : Nat → Bool} {held : Bool} {t0 t1 t2 t3 t4 : TypeId} {args : Array Value} {ds : List (DataW H)} {ps : List MemPlace} (h : DataW.TrodAll enc P w base spare held [t0, t1, t2, t3, t4] args.toList ds ps) :
    ∃ v0 v1 v2 v3 v4 d0 d1 d2 d3 d4 p0 p1 p2 p3 p4, args = #[v0, v1, v2, v3, v4] ∧ ds = [d0, d1, d2, d3, d4] ∧ ps = p0 ++ p1 ++ p2 ++ p3 ++ p4 ∧ DataW.Trod enc P w base spare held t0 v0 d0 p0 ∧ DataW.Trod enc P w base spare held t1 v1 d1 p1 ∧ DataW.Trod enc P w base spare held t2 v2 d2 p2 ∧ DataW.Trod enc P w base spare held t3 v3 d3 p3 ∧ DataW.Trod enc P w base spare held t4 v4 d4 p4 := by
  obtain ⟨v0, vs0, d0, ds0, p0, q0, hargs, rfl, rfl, h0, r0⟩ := trodAll_cons h
  obtain ⟨v1, vs1, d1, ds1, p1, q1, rfl, rfl, rfl, h1, r1⟩ := trodAll_cons r0
  obtain ⟨v2, vs2, d2, ds2, p2, q2, rfl, rfl, rfl, h2, r2⟩ := trodAll_cons r1
  obtain ⟨v3, vs3, d3, ds3, p3, q3, rfl, rfl, rfl, h3, r3⟩ := trodAll_cons r2
  obtain ⟨v4, vs4, d4, ds4, p4, q4, rfl, rfl, rfl, h4, r4⟩ := trodAll_cons r3
  obtain ⟨rfl, rfl, rfl⟩ := trodAll_nil r4
  exact ⟨v0, v1, v2, v3, v4, d0, d1, d2, d3, d4, p0, p1, p2, p3, p4, by cases args; simp_all, rfl, by simp, h0, h1, h2, h3, h4⟩
theorem trodAll_six {base : Nat} {spare : Nat → Bool} {held : Bool} {t0 t1 t2 t3 t4 t5 : TypeId} {args : Array Value} {ds : List (DataW H)} {ps : List MemPlace} (h : DataW.TrodAll enc P w base spare held [t0, t1, t2, t3, t4, t5] args.toList ds ps) :
    ∃ v0 v1 v2 v3 v4 v5 d0 d1 d2 d3 d4 d5 p0 p1 p2 p3 p4 p5, args = #[v0, v1, v2, v3, v4, v5] ∧ ds = [d0, d1, d2, d3, d4, d5] ∧ ps = p0 ++ p1 ++ p2 ++ p3 ++ p4 ++ p5 ∧ DataW.Trod enc P w base spare held t0 v0 d0 p0 ∧ DataW.Trod enc P w base spare held t1 v1 d1 p1 ∧ DataW.Trod enc P w base spare held t2 v2 d2 p2 ∧ DataW.Trod enc P w base spare held t3 v3 d3 p3 ∧ DataW.Trod enc P w base spare held t4 v4 d4 p4 ∧ DataW.Trod enc P w base spare held t5 v5 d5 p5 := by
  obtain ⟨v0, vs0, d0, ds0, p0, q0, hargs, rfl, rfl, h0, r0⟩ := trodAll_cons h
  obtain ⟨v1, vs1, d1, ds1, p1, q1, rfl, rfl, rfl, h1, r1⟩ := trodAll_cons r0
  obtain ⟨v2, vs2, d2, ds2, p2, q2, rfl, rfl, rfl, h2, r2⟩ := trodAll_cons r1
  obtain ⟨v3, vs3, d3, ds3, p3, q3, rfl, rfl, rfl, h3, r3⟩ := trodAll_cons r2
  obtain ⟨v4, vs4, d4, ds4, p4, q4, rfl, rfl, rfl, h4, r4⟩ := trodAll_cons r3
  obtain ⟨v5, vs5, d5, ds5, p5, q5, rfl, rfl, rfl, h5, r5⟩ := trodAll_cons r4
  obtain ⟨rfl, rfl, rfl⟩ := trodAll_nil r5
  exact ⟨v0, v1, v2, v3, v4, v5, d0, d1, d2, d3, d4, d5, p0, p1, p2, p3, p4, p5, by cases args; simp_all, rfl, by simp, h0, h1, h2, h3, h4, h5⟩
theorem trodAll_seven {base : Nat} {spare : Nat → Bool} {held : Bool} {t0 t1 t2 t3 t4 t5 t6 : TypeId} {args : Array Value} {ds : List (DataW H)} {ps : List MemPlace} (h : DataW.TrodAll enc P w base spare held [t0, t1, t2, t3, t4, t5, t6] args.toList ds ps) :
    ∃ v0 v1 v2 v3 v4 v5 v6 d0 d1 d2 d3 d4 d5 d6 p0 p1 p2 p3 p4 p5 p6, args = #[v0, v1, v2, v3, v4, v5, v6] ∧ ds = [d0, d1, d2, d3, d4, d5, d6] ∧ ps = p0 ++ p1 ++ p2 ++ p3 ++ p4 ++ p5 ++ p6 ∧ DataW.Trod enc P w base spare held t0 v0 d0 p0 ∧ DataW.Trod enc P w base spare held t1 v1 d1 p1 ∧ DataW.Trod enc P w base spare held t2 v2 d2 p2 ∧ DataW.Trod enc P w base spare held t3 v3 d3 p3 ∧ DataW.Trod enc P w base spare held t4 v4 d4 p4 ∧ DataW.Trod enc P w base spare held t5 v5 d5 p5 ∧ DataW.Trod enc P w base spare held t6 v6 d6 p6 := by
  obtain ⟨v0, vs0, d0, ds0, p0, q0, hargs, rfl, rfl, h0, r0⟩ := trodAll_cons h
  obtain ⟨v1, vs1, d1, ds1, p1, q1, rfl, rfl, rfl, h1, r1⟩ := trodAll_cons r0
  obtain ⟨v2, vs2, d2, ds2, p2, q2, rfl, rfl, rfl, h2, r2⟩ := trodAll_cons r1
  obtain ⟨v3, vs3, d3, ds3, p3, q3, rfl, rfl, rfl, h3, r3⟩ := trodAll_cons r2
  obtain ⟨v4, vs4, d4, ds4, p4, q4, rfl, rfl, rfl, h4, r4⟩ := trodAll_cons r3
  obtain ⟨v5, vs5, d5, ds5, p5, q5, rfl, rfl, rfl, h5, r5⟩ := trodAll_cons r4
  obtain ⟨v6, vs6, d6, ds6, p6, q6, rfl, rfl, rfl, h6, r6⟩ := trodAll_cons r5
  obtain ⟨rfl, rfl, rfl⟩ := trodAll_nil r6
  exact ⟨v0, v1, v2, v3, v4, v5, v6, d0, d1, d2, d3, d4, d5, d6, p0, p1, p2, p3, p4, p5, p6, by cases args; simp_all, rfl, by simp, h0, h1, h2, h3, h4, h5, h6⟩
theorem trodAll_eight {base : Nat} {spare : Nat → Bool} {held : Bool} {t0 t1 t2 t3 t4 t5 t6 t7 : TypeId} {args : Array Value} {ds : List (DataW H)} {ps : List MemPlace} (h : DataW.TrodAll enc P w base spare held [t0, t1, t2, t3, t4, t5, t6, t7] args.toList ds ps) :
    ∃ v0 v1 v2 v3 v4 v5 v6 v7 d0 d1 d2 d3 d4 d5 d6 d7 p0 p1 p2 p3 p4 p5 p6 p7, args = #[v0, v1, v2, v3, v4, v5, v6, v7] ∧ ds = [d0, d1, d2, d3, d4, d5, d6, d7] ∧ ps = p0 ++ p1 ++ p2 ++ p3 ++ p4 ++ p5 ++ p6 ++ p7 ∧ DataW.Trod enc P w base spare held t0 v0 d0 p0 ∧ DataW.Trod enc P w base spare held t1 v1 d1 p1 ∧ DataW.Trod enc P w base spare held t2 v2 d2 p2 ∧ DataW.Trod enc P w base spare held t3 v3 d3 p3 ∧ DataW.Trod enc P w base spare held t4 v4 d4 p4 ∧ DataW.Trod enc P w base spare held t5 v5 d5 p5 ∧ DataW.Trod enc P w base spare held t6 v6 d6 p6 ∧ DataW.Trod enc P w base spare held t7 v7 d7 p7 := by
  obtain ⟨v0, vs0, d0, ds0, p0, q0, hargs, rfl, rfl, h0, r0⟩ := trodAll_cons h
  obtain ⟨v1, vs1, d1, ds1, p1, q1, rfl, rfl, rfl, h1, r1⟩ := trodAll_cons r0
  obtain ⟨v2, vs2, d2, ds2, p2, q2, rfl, rfl, rfl, h2, r2⟩ := trodAll_cons r1
  obtain ⟨v3, vs3, d3, ds3, p3, q3, rfl, rfl, rfl, h3, r3⟩ := trodAll_cons r2
  obtain ⟨v4, vs4, d4, ds4, p4, q4, rfl, rfl, rfl, h4, r4⟩ := trodAll_cons r3
  obtain ⟨v5, vs5, d5, ds5, p5, q5, rfl, rfl, rfl, h5, r5⟩ := trodAll_cons r4
  obtain ⟨v6, vs6, d6, ds6, p6, q6, rfl, rfl, rfl, h6, r6⟩ := trodAll_cons r5
  obtain ⟨v7, vs7, d7, ds7, p7, q7, rfl, rfl, rfl, h7, r7⟩ := trodAll_cons r6
  obtain ⟨rfl, rfl, rfl⟩ := trodAll_nil r7
  exact ⟨v0, v1, v2, v3, v4, v5, v6, v7, d0, d1, d2, d3, d4, d5, d6, d7, p0, p1, p2, p3, p4, p5, p6, p7, by cases args; simp_all, rfl, by simp, h0, h1, h2, h3, h4, h5, h6, h7⟩
/-- a slice of bytes -/
theorem rd_bytes {e : TypeId} (ht : P.underlying t = some (.slice e)) (he : P.underlying e = some (.int .u8)) (h : Rd enc P w t cs) :
    ∃ (oa : Option Addr) (l : List UInt8) (cap : Nat), cs = [.slice oa l.length cap] ∧ l.length ≤ cap ∧ (oa = none → cap = 0) ∧ Row w oa (bvals l) := by
  obtain ⟨oa, len, cap, css, h1, hlc, _, hn, hcl, hr, hall⟩ := rd_slice ht h
  have hb : ∃ l : List UInt8, css = (bvals l).map fun v => [v] := by
    clear hr hcl h1
    induction css with
    | nil => exact ⟨[], rfl⟩
    | cons c r ih =>
      obtain ⟨l, hl⟩ := ih (fun c hc => hall c (by simp [hc]))
      obtain ⟨n, hc, hw⟩ := rd_int he (hall c (by simp)).2
      have hb : 0 ≤ n ∧ n ≤ 255 := by simpa [Lit.wf, IntKind.min, IntKind.max, IntKind.signed, IntKind.bits] using hw
      refine ⟨UInt8.ofNat n.toNat :: l, ?_⟩
      rw [hl, hc]
      simp [bvals]
      omega
  obtain ⟨l, rfl⟩ := hb
  have hl : len = l.length := by rw [← hcl]; simp
  subst hl
  refine ⟨oa, l, cap, h1, hlc, hn, ?_⟩
  have hf : ((bvals l).map fun v => [v]).flatten = bvals l := by
    induction bvals l with
    | nil => rfl
    | cons v r ih => simp only [List.map_cons, List.flatten_cons, ih]; rfl
  rw [hf] at hr
  exact hr
/-- the value of a slice's type is the slice that its cells are -/
theorem val_slice {r : Reach} {b0 : Nat} {e : TypeId} {v : Value} {oa : Option Addr} {n c : Nat} (ht : P.underlying t = some (.slice e)) (hval : Value.okWide P w r b0 t v) (h : v.cells.toList = [.slice oa n c]) : v = .slice oa n c := by
  obtain ⟨a, len, cap, rfl⟩ := okWide_slice ht hval
  simpa [Value.cells] using h

theorem trodAll_stays {W W' : World} (hl : laidOutB P = true) (hb : Below W.heap.size W W') : ∀ (ts : List TypeId) (vs : List Value) (ds : List (DataW H)) (ps : List MemPlace),
    (ts.all fun t => P.readableRec t && Nat.blt t P.types.size) = true → (∀ x ∈ ps, x.block < W.heap.size) → DataW.TrodAll enc P W 0 (fun _ => true) true ts vs ds ps →
    DataW.TrodAll enc P W' 0 (fun b => decide (b < W.heap.size)) true ts vs ds ps := by
  intro ts
  induction ts with
  | nil => intro vs ds ps _ _ h; cases vs <;> cases ds <;> simp_all [DataW.TrodAll]
  | cons t ts ih =>
    intro vs ds ps hrd hlt h
    obtain ⟨v, vs', d, ds', p, q, rfl, rfl, rfl, h1, h2⟩ := trodAll_cons h
    simp only [List.all_cons, Bool.and_eq_true] at hrd
    refine ⟨p, q, Below.trod hl hrd.1.1 (Nat.le_of_ble_eq_true hrd.1.2) h1 hb (fun x hx => hlt x (by simp [hx])), ih _ _ _ hrd.2 (fun x hx => hlt x (by simp [hx])) h2, rfl⟩
end

/-- A law's last step: it has answered true, and below the heap's old size nothing has turned. -/
theorem law_post {H : Type} {enc : TypeId × Value → H} {P : Program} {fn : Func} {s : ChangeSpec} {tb : TypeId} (hl : laidOutB P = true)
    (hrd : (fn.params.toList.all fun t => P.readableRec t && Nat.blt t P.types.size) = true) (hres : fn.resultTypes = #[tb]) (hb : P.underlying tb = some .bool) (hv : s.vars = [])
    (hfn : ∀ ds : List (DataW H), ds.length = fn.params.size → s.fn H ds = { results := [.lit (.bool true)], args := ds })
    {W W' : World} {args : Array Value} {ds gs : List (DataW H)} {before : List MemPlace} (hW : DataW.Whole enc P fn.params.toList s.vars false W args.toList ds gs before) (hB : Below W.heap.size W W') :
    s.post enc P fn false true false false W args (.bool true) W' := by
  have hlt : ∀ x ∈ before, x.block < W.heap.size := fun x hx => hW.lt x hx
  have hW' := hW
  obtain ⟨p, q, hA, hV, rfl, _, _⟩ := hW'
  rw [hv] at hV
  obtain ⟨rfl, rfl⟩ := trodVars_none hV
  have hlen : ds.length = fn.params.size := by
    have : ∀ (ts : List TypeId) (vs : List Value) (ds : List (DataW H)) (ps : List MemPlace), DataW.TrodAll enc P W 0 (fun _ => true) true ts vs ds ps → ds.length = ts.length := by
      intro ts
      induction ts with
      | nil => intro vs ds ps h; cases vs <;> cases ds <;> simp_all [DataW.TrodAll]
      | cons t ts ih =>
        intro vs ds ps h
        obtain ⟨v, vs', d, ds', p, q, rfl, rfl, rfl, _, h2⟩ := trodAll_cons h
        simp [ih _ _ _ h2]
    rw [this _ _ _ _ hA]; simp
  have hspec := hfn ds hlen
  refine ⟨ds, [], p ++ [], [], p, [], hW, ?_, ?_, ?_, World.keptBut_mono (fun x hx => ⟨hx, .inr (.inl (by simpa using hx))⟩) (hB.frame (· ∈ p ++ [])), (fun h => by cases h)⟩
  · rw [List.append_nil, hspec, hres]
    exact ⟨[], [], ⟨1, by unfold DataW.trod; simp [hb, Value.cells]⟩, rfl, rfl⟩
  · rw [List.append_nil, hspec]
    exact trodAll_stays hl hB _ _ _ _ hrd (fun x hx => hlt x (by simp [hx])) hA
  · rw [List.append_nil, hspec, hv]
    rfl

end Go.Proofs.YthnncehddnfjmaaDoor.Vc
