/- Joined parts of the proof. What arguments of any type built of numbers, truth values, texts, slices and structs read as: rows of values that change -/
import Derived.Test.YtgfgndaoocfpdaaGreatDoorPk20
import Derived.Test.YtgfgndaoocfpdaaGreatDoorPk10
import Derived.OpenShut
import Derived.Test.YtgfgndaoocfpdaaGreatDoorPk13
import Derived.Test.YtgfgndaoocfpdaaGreatDoorRows
import Derived.LaidMore
import Derived.Stop.Joined
set_option linter.unusedVariables false
set_option linter.unusedSimpArgs false
set_option maxRecDepth 100000
set_option maxHeartbeats 16000000
namespace Go.Proofs.YtgfgndaoocfpdaaGreatDoor.Vc
open Go Go.RowKit Go.Proofs.YtgfgndaoocfpdaaGreatDoor.Ax
inductive Sh where
 | n (k : IntKind)
 | b
 | s
 | l (by_ : Nat) (es : List Sh)
inductive OkV : Sh → FV → Prop
 | n {k : IntKind} {x : Int} (h : (Lit.int k x).wf = true) : OkV (.n k) (.v (.int k x))
 | b (x : Bool) : OkV .b (.v (.bool x))
 | s (x : ByteArray) (h : x.size ≤ 140737488351232) : OkV .s (.v (.string x))
 | l {by_ : Nat} {es : List Sh} {rows : List (List FV)} (hn : rows.length ≤ maxLen) (hb : rows.length * by_ ≤ 140737488351232) (h : ∀ row ∈ rows, row.length = es.length) (hr : ∀ row ∈ rows, ∀ (j : Nat) e a, es[j]? = some e → row[j]? = some a → OkV e a) : OkV (.l by_ es) (.lst es.length rows)
def OkR (es : List Sh) (row : List FV) : Prop := row.length = es.length ∧ ∀ (j : Nat) e a, es[j]? = some e → row[j]? = some a → OkV e a
theorem OkR.nil : OkR [] [] := ⟨rfl, fun j e a h => by simp at h⟩
theorem OkR.app {e1 e2 : List Sh} {r1 r2 : List FV} (h1 : OkR e1 r1) (h2 : OkR e2 r2) : OkR (e1 ++ e2) (r1 ++ r2) := by
 refine ⟨by simp [h1.1, h2.1], fun j e a he ha => ?_⟩
 rw [List.getElem?_append] at he ha
 rw [h1.1] at ha
 split at he
 ·rename_i h; rw [if_pos h] at ha; exact h1.2 j e a he ha
 ·rename_i h; rw [if_neg h] at ha; exact h2.2 _ e a he ha
theorem OkR.one {e : Sh} {a : FV} (h : OkV e a) : OkR [e] [a] := ⟨rfl, fun j e' a' he ha => by
 match j, he, ha with
 | 0, he, ha => simp at he ha; subst he; subst ha; exact h⟩
theorem OkR.nil_inv {row : List FV} (h : OkR [] row) : row = [] := List.eq_nil_of_length_eq_zero h.1
theorem OkR.cons_inv {e : Sh} {es : List Sh} {row : List FV} (h : OkR (e :: es) row) : ∃ a r, row = a :: r ∧ OkV e a ∧ OkR es r := by
 cases row with
 | nil => have := h.1; simp at this
 | cons a r => exact ⟨a, r, rfl, h.2 0 e a rfl rfl, by have := h.1; simpa using this, fun j e' a' he ha => h.2 (j + 1) e' a' (by simpa using he) (by simpa using ha)⟩
theorem OkV.l_inv {by_ : Nat} {es : List Sh} {a : FV} (h : OkV (.l by_ es) a) : ∃ rows : List (List FV), a = .lst es.length rows ∧ (rows.length ≤ maxLen ∧ rows.length * by_ ≤ 140737488351232) ∧ ∀ row ∈ rows, OkR es row := by
 cases h with
 | l hn hb h hr => exact ⟨_, rfl, ⟨hn, hb⟩, fun row hrow => ⟨h row hrow, hr row hrow⟩⟩
def shFs (f : TypeId → Option (List Sh)) (P : Program) : List Field → Nat → Option (List Sh)
 | [], _ => some []
 | x :: r, o => bif Nat.beq x.offset o then
   match f x.type with
   | some es => bif Nat.beq es.length (P.cellsOf x.type) then
     match shFs f P r (o + es.length) with
     | some rs => some (es ++ rs)
     | none => none
    else none
   | none => none
  else none
def shT (P : Program) : Nat → TypeId → Option (List Sh)
 | 0, _ => none
 | n + 1, t => match P.underlying t with
  | some (.int k) => some [.n k]
  | some .bool => some [.b]
  | some .string => some [.s]
  | some (.slice e) => match shT P n e with
   | some es => bif Nat.beq es.length (P.cellsOf e) && Nat.ble 1 es.length then some [.l (P.bytesOf e) es] else none
   | none => none
  | some (.struct fs) => match shFs (shT P n) P fs.toList 0 with
   | some es => bif Nat.beq es.length (P.cellsOf t) then some es else none
   | none => none
  | _ => none
section
variable {H : Type} {enc : TypeId × Value → H} {P : Program} {w : World}
def One (w : World) (es : List Sh) (cs : List Value) : Prop := ∃ row, OkR es row ∧ FRepL (Here w) w row cs ∧ ∀ v ∈ cs, v.oneCell' = true
theorem One.nil : One w [] [] := ⟨[], OkR.nil, ⟨rfl, fun j a v h => by simp at h⟩, fun v h => by cases h⟩
theorem One.app {e1 e2 : List Sh} {c1 c2 : List Value} (h1 : One w e1 c1) (h2 : One w e2 c2) : One w (e1 ++ e2) (c1 ++ c2) := by
 obtain ⟨r1, k1, f1, o1⟩ := h1
 obtain ⟨r2, k2, f2, o2⟩ := h2
 refine ⟨r1 ++ r2, k1.app k2, ⟨by simp [f1.1, f2.1], fun j a v ha hv => ?_⟩, fun v hv => (List.mem_append.1 hv).elim (o1 v) (o2 v)⟩
 rw [List.getElem?_append] at ha hv
 rw [f1.1] at hv
 split at ha
 ·rename_i h; rw [if_pos h] at hv; exact f1.2 j a v ha hv
 ·rename_i h; rw [if_neg h] at hv; exact f2.2 _ a v ha hv
theorem One.one {e : Sh} {a : FV} {v : Value} (h : OkV e a) (hf : FRep (Here w) w a v) (ho : v.oneCell' = true) : One w [e] [v] :=
 ⟨[a], .one h, ⟨rfl, fun j a' v' ha hv => by
  match j, ha, hv with
  | 0, ha, hv => simp at ha hv; subst ha; subst hv; exact hf⟩, fun u hu => by rw [List.mem_singleton.1 hu]; exact ho⟩
theorem flat_at {sz : Nat} : ∀ (css : List (List Value)) (i j : Nat) (c : List Value) (v : Value), (∀ c ∈ css, c.length = sz) → css[i]? = some c → c[j]? = some v → css.flatten[i * sz + j]? = some v := by
 intro css
 induction css with
 | nil => intro i j c v _ h; simp at h
 | cons a r ih =>
  intro i j c v hl hi hj
  have ha : a.length = sz := hl a (by simp)
  rw [List.flatten_cons, List.getElem?_append]
  cases i with
  | zero =>
   simp only [List.getElem?_cons_zero, Option.some.injEq] at hi
   subst hi
   have := (List.getElem?_eq_some_iff.1 hj).1
   rw [if_pos (by omega)]
   simpa using hj
  | succ i =>
   rw [if_neg (by rw [ha, Nat.add_mul]; omega), ha]
   have := ih i j c v (fun c hc => hl c (by simp [hc])) (by simpa using hi) hj
   rw [show (i + 1) * sz + j - sz = i * sz + j by rw [Nat.add_mul]; omega]
   exact this
theorem one_fields {f : TypeId → Option (List Sh)} {cs : List Value} : ∀ (fs : List Field) (o : Nat) (es : List Sh), shFs f P fs o = some es →
  (∀ x ∈ fs, ∀ e', f x.type = some e' → e'.length = P.cellsOf x.type → One w e' ((cs.drop x.offset).take (P.cellsOf x.type))) → One w es ((cs.drop o).take es.length) := by
 intro fs
 induction fs with
 | nil => intro o es h _; injection h with h; subst h; simpa using One.nil
 | cons x r ih =>
  intro o es h hx
  unfold shFs at h
  cases ho : Nat.beq x.offset o with
  | false => rw [ho] at h; cases h
  | true =>
   rw [ho] at h
   simp only [cond_true] at h
   have ho := Nat.eq_of_beq_eq_true ho
   cases hf : f x.type with
   | none => rw [hf] at h; cases h
   | some e1 =>
    rw [hf] at h
    simp only at h
    cases hl : Nat.beq e1.length (P.cellsOf x.type) with
    | false => rw [hl] at h; cases h
    | true =>
     rw [hl] at h
     simp only [cond_true] at h
     have hl := Nat.eq_of_beq_eq_true hl
     cases hr : shFs f P r (o + e1.length) with
     | none => rw [hr] at h; cases h
     | some e2 =>
      rw [hr] at h
      simp only [Option.some.injEq] at h
      subst h
      have h1 := hx x (by simp) e1 hf hl
      have h2 := ih (o + e1.length) e2 hr fun y hy => hx y (by simp [hy])
      rw [ho, ← hl] at h1
      have := h1.app h2
      rw [List.length_append, List.take_add, List.drop_drop]
      exact this
theorem one_rows {es : List Sh} {e : TypeId} (one : ∀ cs (d : DataW H), RdD enc P w e cs d → (∀ x ∈ d.weights P e, x ≤ reachBytes) → One w es cs) :
  ∀ (css : List (List Value)) (ds : List (DataW H)), ds.length = css.length → (∀ (i : Nat) c d', css[i]? = some c → ds[i]? = some d' → RdD enc P w e c d') → (∀ x ∈ DataW.weightsAll P e ds, x ≤ reachBytes) →
   ∃ rows : List (List FV), rows.length = css.length ∧ (∀ row ∈ rows, OkR es row) ∧ ∀ (i : Nat) c row, css[i]? = some c → rows[i]? = some row → FRepL (Here w) w row c ∧ ∀ v ∈ c, v.oneCell' = true := by
 intro css
 induction css with
 | nil => intro ds _ _ _; exact ⟨[], rfl, (fun k h => by cases h), fun i c row h => by simp at h⟩
 | cons a css ih =>
  intro ds hl h hB
  cases ds with
  | nil => simp at hl
  | cons d ds =>
   simp only [DataW.weightsAll, List.mem_append] at hB
   obtain ⟨row, k1, k2, k3⟩ := one a d (h 0 a d rfl rfl) fun x hx => hB x (.inl hx)
   obtain ⟨rows, h1, h2, h3⟩ := ih ds (by simpa using hl) (fun i c d' hc hd => h (i + 1) c d' (by simpa using hc) (by simpa using hd)) fun x hx => hB x (.inr hx)
   refine ⟨row :: rows, by simp [h1], fun y hy => ?_, fun i c r hc hr => ?_⟩
   ·rcases List.mem_cons.1 hy with rfl | hy
    ·exact k1
    ·exact h2 y hy
   ·cases i with
    | zero => simp at hc hr; subst hc; subst hr; exact ⟨k2, k3⟩
    | succ i => exact h3 i c r (by simpa using hc) (by simpa using hr)
theorem rdg : ∀ (n : Nat) (t : TypeId) (es : List Sh), shT P n t = some es → ∀ (cs : List Value) (d : DataW H), RdD enc P w t cs d → (∀ x ∈ d.weights P t, x ≤ reachBytes) → One w es cs := by
 intro n
 induction n with
 | zero => intro t es h; cases h
 | succ n ih =>
  intro t es h cs d hd hB
  unfold shT at h
  cases hu : P.underlying t with
  | none => rw [hu] at h; cases h
  | some u =>
   rw [hu] at h
   cases u with
   | int k =>
    simp only [Option.some.injEq] at h
    subst h
    obtain ⟨x, e, _, hw⟩ := rdd_int hu hd
    subst e
    exact .one (.n hw) (.v _) rfl
   | bool =>
    simp only [Option.some.injEq] at h
    subst h
    obtain ⟨held, fuel, p, hx⟩ := hd
    obtain ⟨b, e, _⟩ := DataW.trod_bool hu hx
    subst e
    exact .one (.b b) (.v _) rfl
   | string =>
    simp only [Option.some.injEq] at h
    subst h
    obtain ⟨held, fuel, p, hx⟩ := hd
    obtain ⟨s, e, hd, _⟩ := DataW.trod_string hu hx
    injection hd with hd
    subst hd
    subst e
    have h1 := hB s.data.toList.length (by simp [DataW.weights])
    have h2 : s.data.toList.length = s.size := by simp
    have h3 : reachBytes = 140737488351232 := rfl
    exact .one (.s s (by omega)) (.v _) rfl
   | slice e =>
    simp only at h
    cases hs : shT P n e with
    | none => rw [hs] at h; cases h
    | some ee =>
     rw [hs] at h
     simp only at h
     cases hc : Nat.beq ee.length (P.cellsOf e) && Nat.ble 1 ee.length with
     | false => rw [hc] at h; cases h
     | true =>
      rw [hc] at h
      simp only [cond_true, Option.some.injEq] at h
      subst h
      simp only [Bool.and_eq_true] at hc
      have hsz := Nat.eq_of_beq_eq_true hc.1
      have hpos := Nat.le_of_ble_eq_true hc.2
      obtain ⟨oa, len, cap, css, ds, h1, hlc, hcm, hn, hcl, hr, hall, hdl, hdd, hel⟩ := rdd_slice hu hd
      obtain ⟨rows, k1, k2, k3⟩ := one_rows (fun cs d => ih e ee hs cs d) css ds (by omega) hel (slice_w hu hdl hdd hB)
      subst h1
      have hsz' : ∀ c ∈ css, c.length = ee.length := fun c hc => by rw [(hall c hc).1, hsz]
      have cell : ∀ i j, i < len → j < ee.length → ∃ b o row a v, oa = some ⟨b, o, none⟩ ∧ b < w.heap.size ∧ rows[i]? = some row ∧ row[j]? = some a ∧ w.cell? ⟨b, o + (i * ee.length + j), none⟩ = some v ∧ FRep (Here w) w a v ∧ v.oneCell' = true := by
       intro i j hi hj
       have hic : i < css.length := by omega
       have hir : i < rows.length := by omega
       have hci := List.getElem?_eq_getElem hic
       have hri := List.getElem?_eq_getElem hir
       have hjc : j < css[i].length := by rw [hsz' _ (List.getElem_mem hic)]; exact hj
       have hjr : j < rows[i].length := by rw [(k2 _ (List.getElem_mem hir)).1]; exact hj
       have hfl := flat_at css i j css[i] css[i][j] hsz' hci (List.getElem?_eq_getElem hjc)
       rcases hr with h0 | ⟨b, o, rfl, hb, hcc⟩
       ·rw [h0] at hfl; simp at hfl
       ·obtain ⟨f1, f2⟩ := k3 i css[i] rows[i] hci hri
        exact ⟨b, o, rows[i], rows[i][j], css[i][j], rfl, hb, hri, List.getElem?_eq_getElem hjr, hcc _ _ hfl, f1.2 j _ _ (List.getElem?_eq_getElem hjr) (List.getElem?_eq_getElem hjc), f2 _ (List.getElem_mem hjc)⟩
      have hb : ∃ b o, (0 < len → oa = some ⟨b, o, none⟩ ∧ Here w b) := by
       rcases Nat.eq_zero_or_pos len with h0 | h0
       ·exact ⟨0, 0, fun h => by omega⟩
       ·obtain ⟨b, o, _, _, _, e, hb, _⟩ := cell 0 0 h0 hpos
        exact ⟨b, o, fun _ => ⟨e, hb⟩⟩
      obtain ⟨b, o, hbo⟩ := hb
      have hbb : rows.length * P.bytesOf e ≤ 140737488351232 := by
       rcases hdd with ⟨_, h0⟩ | ⟨rest, hdd⟩
       ·rw [show rows.length = 0 by omega, Nat.zero_mul]; exact Nat.zero_le _
       ·subst hdd
        have := hB ((ds.length + rest.length) * P.bytesOf e) (by simp only [DataW.weights, hu, List.mem_cons, true_or])
        rw [show rows.length = ds.length by omega]
        exact Nat.le_trans (Nat.mul_le_mul_right _ (Nat.le_add_right _ _)) this
      refine .one (a := .lst ee.length rows) (.l (by omega) hbb (fun row hrow => (k2 row hrow).1) fun row hrow => (k2 row hrow).2) ?_ rfl
      refine .lst ee.length rows oa len cap b o (by omega) hlc hn hbo (fun row hrow => (k2 row hrow).1) (fun i j hi hj => ?_) fun i j row a v hi hj hv => ?_
      ·obtain ⟨b', o', _, _, v, e, _, _, _, h4, _, h6⟩ := cell i j hi hj
       obtain ⟨rfl, rfl⟩ : b' = b ∧ o' = o := by
        have := (hbo (by omega)).1
        rw [e] at this; injection this with this; injection this with h1 h2; exact ⟨h1, h2⟩
       exact ⟨v, h4, h6⟩
      ·have hil := (List.getElem?_eq_some_iff.1 hi).1
       have hjl : j < ee.length := by rw [← (k2 row (List.mem_of_getElem? hi)).1]; exact (List.getElem?_eq_some_iff.1 hj).1
       obtain ⟨b', o', row', a', v', e, _, h2, h3, h4, h5, _⟩ := cell i j (by omega) hjl
       obtain ⟨rfl, rfl⟩ : b' = b ∧ o' = o := by
        have := (hbo (by omega)).1
        rw [e] at this; injection this with this; injection this with h1 h2; exact ⟨h1, h2⟩
       rw [hi] at h2; injection h2 with h2; subst h2
       rw [hj] at h3; injection h3 with h3; subst h3
       rw [hv] at h4; injection h4 with h4; subst h4
       exact h5
   | struct fs =>
    simp only at h
    cases hs : shFs (shT P n) P fs.toList 0 with
    | none => rw [hs] at h; cases h
    | some ee =>
     rw [hs] at h
     simp only at h
     cases hc : Nat.beq ee.length (P.cellsOf t) with
     | false => rw [hc] at h; cases h
     | true =>
      rw [hc] at h
      simp only [cond_true, Option.some.injEq] at h
      subst h
      have hsz := Nat.eq_of_beq_eq_true hc
      obtain ⟨held, fuel, p, hx⟩ := hd
      obtain ⟨xs, m, rfl, hdd, hcl, hxl, hel⟩ := DataW.trod_struct hu hx
      injection hdd with hdd
      subst hdd
      have := one_fields (w := w) (cs := cs) fs.toList 0 ee hs fun x hx e' he' hle => by
       obtain ⟨i, hi⟩ := List.mem_iff_getElem?.1 hx
       have hi' : fs[i]? = some x := by simpa using hi
       have hil : i < xs.length := by rw [hxl]; exact (Array.getElem?_eq_some_iff.1 hi').1
       have h1 := hel i x hi'
       rw [List.getElem?_eq_getElem hil] at h1
       refine ih x.type e' he' _ xs[i].1 ⟨held, m, xs[i].2, h1⟩ ?_
       have hE : ∀ y ∈ DataW.weightsEach P (fs.toList.map (·.type)) (xs.map (·.1)), y ≤ reachBytes := by
        intro y hy
        refine hB y ?_
        simp only [DataW.weights, hu]
        exact hy
       exact each_ok hE i x.type xs[i].1 (by rw [List.getElem?_map, hi]; rfl) (by rw [List.getElem?_map, List.getElem?_eq_getElem hil]; rfl)
      rw [List.drop_zero, List.take_of_length_le (by omega)] at this
      exact this
   | _ => cases h
theorem rdg_arg {t : TypeId} {es : List Sh} {fs : Array Field} {v : Value} {r : Reach} {b0 : Nat} {d : DataW H} {p : List MemPlace} (n : Nat) (ht : P.underlying t = some (.struct fs)) (hs : shT P n t = some es) (hval : Value.okWide P w r b0 t v)
  (h : DataW.Trod enc P w 0 (fun _ => true) true t v d p) (hB : ∀ x ∈ d.weights P t, x ≤ reachBytes) : ∃ row, OkR es row ∧ ARep 0 loc0 (Here w) w (.agg (row.map FV.up)) v := by
 unfold Value.okWide at hval
 rw [ht] at hval
 obtain ⟨cs, rfl, _, _⟩ := hval
 obtain ⟨row, h1, h2, h3⟩ := rdg n t es hs cs.toList d ⟨_, _, _, h.choose_spec⟩ hB
 refine ⟨row, h1, ?_⟩
 have := ARep.agg (n := 0) (σ := loc0) (F := Here w) (w := w) (row.map FV.up) cs.toList (by rw [List.length_map]; exact h2.1) fun j a v ha hv => by
  rw [List.getElem?_map] at ha
  cases hj : row[j]? with
  | none => rw [hj] at ha; cases ha
  | some a' =>
   rw [hj] at ha
   simp only [Option.map_some, Option.some.injEq] at ha
   subst ha
   exact (h2.2 j a' v hj hv).up
 simpa using this
end
end Go.Proofs.YtgfgndaoocfpdaaGreatDoor.Vc
namespace Go.Proofs.YtgfgndaoocfpdaaGreatDoor.Cl
open Go Go.RowKit Go.Proofs Go.Proofs.YtgfgndaoocfpdaaGreatDoor.Vc Go.Proofs.YtgfgndaoocfpdaaGreatDoor.Ax
section
variable {P : Program} {H : Type} {enc : TypeId × Value → H} {w : World}
theorem rd_bool {t : TypeId} {cs : List Value} (ht : P.underlying t = some .bool) (h : Rd enc P w t cs) : ∃ b : Bool, cs = [.bool b] := by
 obtain ⟨d, held, fuel, p, h⟩ := h
 obtain ⟨b, e, _⟩ := DataW.trod_bool ht h
 exact ⟨b, e⟩
theorem rd_lst {α : Type} {en : α → Value} {Q : α → Prop} {t e : TypeId} {cs : List Value} (ht : P.underlying t = some (.slice e)) (one : ∀ c, Rd enc P w e c → ∃ a : α, c = [en a] ∧ Q a) (h1 : ∀ a, (en a).oneCell' = true) (h : Rd enc P w t cs) :
  ∃ (oa : Option Addr) (l : List α) (cap : Nat), cs = [.slice oa l.length cap] ∧ (∀ a ∈ l, Q a) ∧ ARep 0 loc0 (Here w) w (.lst 1 (l.map (Ax.en1 en))) (.slice oa l.length cap) := by
 obtain ⟨oa, len, cap, css, hcs, hlc, hcm, hn, hcl, hr, hall⟩ := rd_slice ht h
 have : ∃ l : List α, l.length = css.length ∧ css.flatten = recs (fun a => [en a]) l ∧ ∀ a ∈ l, Q a := by
  clear hr hcl
  induction css with
  | nil => exact ⟨[], rfl, rfl, fun x h => by cases h⟩
  | cons c r ih =>
   obtain ⟨l, h2, h3, h4⟩ := ih fun c hc => hall c (by simp [hc])
   obtain ⟨x, e, hx⟩ := one c (hall c (by simp)).2
   refine ⟨x :: l, by simp [h2], by rw [List.flatten_cons, h3, e]; rfl, fun y hy => ?_⟩
   rcases List.mem_cons.1 hy with rfl | hy
   ·exact hx
   ·exact h4 y hy
 obtain ⟨l, h2, h3, h4⟩ := this
 rw [h3] at hr
 have e : len = l.length := by omega
 subst e
 exact ⟨oa, l, cap, hcs, h4, .lst (frep_flat (enc := Ax.en1 en) (c := fun a => [en a]) (fun _ => rfl) (fun _ => rfl) (fun a v hv => by rw [List.mem_singleton.1 hv]; exact h1 a) hlc hn hr (fun b hb => hb) (by decide))⟩
theorem i64_of {n : Int} (h : (Lit.int .i64 n).wf = true) : I64 n := by
 have : -9223372036854775808 ≤ n ∧ n ≤ 9223372036854775807 := by simpa [Lit.wf, IntKind.min, IntKind.max, IntKind.signed, IntKind.bits] using h
 exact this
theorem u8_of {n : Int} (h : (Lit.int .u8 n).wf = true) : ∃ k : Nat, n = k ∧ k < 256 := by
 have : 0 ≤ n ∧ n ≤ 255 := by simpa [Lit.wf, IntKind.min, IntKind.max, IntKind.signed, IntKind.bits] using h
 exact ⟨n.toNat, by omega, by omega⟩
theorem u16_of {n : Int} (h : (Lit.int .u16 n).wf = true) : ∃ k : Nat, n = k ∧ k < 65536 := by
 have : 0 ≤ n ∧ n ≤ 65535 := by simpa [Lit.wf, IntKind.min, IntKind.max, IntKind.signed, IntKind.bits] using h
 exact ⟨n.toNat, by omega, by omega⟩
theorem i16_of {n : Int} (h : (Lit.int .i16 n).wf = true) : -32768 ≤ n ∧ n ≤ 32767 := by
 simpa [Lit.wf, IntKind.min, IntKind.max, IntKind.signed, IntKind.bits] using h
theorem rd_ints {t e : TypeId} {cs : List Value} (ht : P.underlying t = some (.slice e)) (he : P.underlying e = some (.int .i64)) (h : Rd enc P w t cs) :
  ∃ (oa : Option Addr) (l : Li) (cap : Nat), cs = [.slice oa l.length cap] ∧ AllI l ∧ ARep 0 loc0 (Here w) w (li l) (.slice oa l.length cap) :=
 rd_lst (en := Value.int .i64) (Q := I64) ht (fun c hc => by obtain ⟨n, e, hw⟩ := rd_int he hc; exact ⟨n, e, i64_of hw⟩) (fun _ => rfl) h
theorem rd_i16s {t e : TypeId} {cs : List Value} (ht : P.underlying t = some (.slice e)) (he : P.underlying e = some (.int .i16)) (h : Rd enc P w t cs) :
  ∃ (oa : Option Addr) (l : Li) (cap : Nat), cs = [.slice oa l.length cap] ∧ (∀ x ∈ l, -32768 ≤ x ∧ x ≤ 32767) ∧ ARep 0 loc0 (Here w) w (.lst 1 (l.map (Ax.en1 (Value.int .i16)))) (.slice oa l.length cap) :=
 rd_lst (en := Value.int .i16) (Q := fun x => -32768 ≤ x ∧ x ≤ 32767) ht (fun c hc => by obtain ⟨n, e, hw⟩ := rd_int he hc; exact ⟨n, e, i16_of hw⟩) (fun _ => rfl) h
theorem rd_bools {t e : TypeId} {cs : List Value} (ht : P.underlying t = some (.slice e)) (he : P.underlying e = some .bool) (h : Rd enc P w t cs) :
  ∃ (oa : Option Addr) (l : List Bool) (cap : Nat), cs = [.slice oa l.length cap] ∧ True ∧ ARep 0 loc0 (Here w) w (.lst 1 (l.map enBo)) (.slice oa l.length cap) := by
 obtain ⟨oa, l, cap, h1, _, h3⟩ := rd_lst (en := Value.bool) (Q := fun _ => True) ht (fun c hc => by obtain ⟨n, e⟩ := rd_bool he hc; exact ⟨n, e, trivial⟩) (fun _ => rfl) h
 exact ⟨oa, l, cap, h1, trivial, h3⟩
theorem rd_bys {t e : TypeId} {cs : List Value} (ht : P.underlying t = some (.slice e)) (he : P.underlying e = some (.int .u8)) (h : Rd enc P w t cs) :
  ∃ (oa : Option Addr) (l : By) (cap : Nat), cs = [.slice oa l.length cap] ∧ True ∧ ARep 0 loc0 (Here w) w (bs l) (.slice oa l.length cap) := by
 obtain ⟨oa, l, cap, h1, _, h3⟩ := rd_lst (en := fun c : UInt8 => Value.int .u8 (c.toNat : Int)) (Q := fun _ => True) ht (fun c hc => by
  obtain ⟨n, e, hw⟩ := rd_int he hc
  obtain ⟨k, rfl, hk⟩ := u8_of hw
  exact ⟨UInt8.ofNat k, by rw [e, toNat_ofNat hk], trivial⟩) (fun _ => rfl) h
 exact ⟨oa, l, cap, h1, trivial, h3⟩
theorem gc_of (W : World) : GC.holds W := ⟨Nat.zero_le _, (fun _ _ h => by cases h), fun _ _ h => by cases h⟩
end
section
open Go.Proofs.YtgfgndaoocfpdaaGreatDoor.Ky Go.Proofs.YtgfgndaoocfpdaaGreatDoor.Id
theorem i8_of {n : Int} (h : (Lit.int .i8 n).wf = true) : -128 ≤ n ∧ n ≤ 127 := by
 simpa [Lit.wf, IntKind.min, IntKind.max, IntKind.signed, IntKind.bits] using h
theorem gAsc : Tryz.prog.globalNamed "strings.asciiSpace" = some 0 := by kernel_rfl
theorem tAsc : (Tryz.prog.globals[0]?).map (·.type) = some 140 := by kernel_rfl
theorem ascL : (Rows.laid_strings_asciiSpace : DataW Unit) = .agg ((List.range 256).map fun c => .lit (.int .u8 (spT c))) := by kernel_rfl
theorem gs_of {W : World} (h : laidMetH Tryz.prog [("unicode.White_Space", Rows.laid_unicode_White_Space), ("strings.asciiSpace", Rows.laid_strings_asciiSpace)] W) : GS.holds W := by
 rw [MakeChecks.laidMetH_plain _ _ _ (by kernel_rfl)] at h
 obtain ⟨ps, ⟨_, _, _, _, _, _, _, _, _, _, ⟨g0, t0, cs0, f0, p0, q0, hg0, ht0, hv0, hd0, _⟩, _⟩, _, _⟩ := h
 obtain rfl := Option.some.inj (gAsc.symm.trans hg0)
 obtain rfl := Option.some.inj (tAsc.symm.trans ht0)
 rw [ascL] at hd0
 obtain ⟨xs, m, rfl, hd, hcl, hxl, hel⟩ := DataW.trod_array (e := 5) (n := 256) rfl hd0
 injection hd with hd _
 injection hd with hd
 have key : ∀ i, i < 256 → W.cell? ⟨0, i, none⟩ = some (.int .u8 (spT i)) := fun i hi => by
  have h1 := hel i hi
  have hx : xs[i]? = some xs[i] := List.getElem?_eq_getElem (by omega)
  rw [hx] at h1
  obtain ⟨k, e, f, _⟩ := DataW.trod_int (t := 5) (k := .u8) rfl h1
  have hf : (xs.map (·.1))[i]? = some (.lit (.int .u8 k)) := by rw [List.getElem?_map, hx, f]; rfl
  rw [← hd, List.getElem?_map, List.getElem?_range hi] at hf
  simp only [Option.map_some, Option.some.injEq, DataW.lit.injEq, Lit.int.injEq, true_and] at hf
  rw [World.var?_cell hg0 hv0 i, ← Array.getElem?_toList]
  have e1 : Tryz.prog.cellsOf 5 = 1 := by kernel_rfl
  rw [e1, Nat.mul_one] at e
  have : (cs0.toList.drop i)[0]? = some (.int .u8 k) := by
   cases hdr : cs0.toList.drop i with
   | nil => rw [hdr] at e; cases e
   | cons a r => rw [hdr] at e; injection e with e; rw [e]; rfl
  rw [List.getElem?_drop, Nat.add_zero] at this
  rw [this, hf]
 have hsz : 0 < W.heap.size := World.block_lt_of_cell? W _ (key 0 (by decide))
 refine ⟨hsz, fun g cs hg => ?_, fun _ _ h => by cases h⟩
 simp only [GS] at hg
 split at hg
 ·rename_i e
  injection hg with hg
  subst e; subst hg
  refine ⟨Nat.lt_succ_self _, fun j v hj => ?_⟩
  unfold spL at hj
  rw [List.getElem?_map] at hj
  rcases Nat.lt_or_ge j 256 with h1 | h1
  ·rw [List.getElem?_range h1] at hj
   simp only [Option.map_some, Option.some.injEq] at hj
   rw [key j h1, hj]
  ·rw [List.getElem?_eq_none (by simpa using h1)] at hj
   cases hj
 ·cases hg
end
end Go.Proofs.YtgfgndaoocfpdaaGreatDoor.Cl
namespace Go.Proofs.YtgfgndaoocfpdaaGreatDoor.Vc
open Go Go.RowKit Go.ChangeShapes
section
variable {H : Type} {enc : TypeId × Value → H} {P : Program} {w : World}
theorem trodAll_nine {base : Nat} {spare : Nat → Bool} {held : Bool} {t0 t1 t2 t3 t4 t5 t6 t7 t8 : TypeId} {args : Array Value} {ds : List (DataW H)} {ps : List MemPlace} (h : DataW.TrodAll enc P w base spare held [t0, t1, t2, t3, t4, t5, t6, t7, t8] args.toList ds ps) :
  ∃ v0 v1 v2 v3 v4 v5 v6 v7 v8 d0 d1 d2 d3 d4 d5 d6 d7 d8 p0 p1 p2 p3 p4 p5 p6 p7 p8, args = #[v0, v1, v2, v3, v4, v5, v6, v7, v8] ∧ ds = [d0, d1, d2, d3, d4, d5, d6, d7, d8] ∧ ps = p0 ++ p1 ++ p2 ++ p3 ++ p4 ++ p5 ++ p6 ++ p7 ++ p8 ∧ DataW.Trod enc P w base spare held t0 v0 d0 p0 ∧ DataW.Trod enc P w base spare held t1 v1 d1 p1 ∧ DataW.Trod enc P w base spare held t2 v2 d2 p2 ∧ DataW.Trod enc P w base spare held t3 v3 d3 p3 ∧ DataW.Trod enc P w base spare held t4 v4 d4 p4 ∧ DataW.Trod enc P w base spare held t5 v5 d5 p5 ∧ DataW.Trod enc P w base spare held t6 v6 d6 p6 ∧ DataW.Trod enc P w base spare held t7 v7 d7 p7 ∧ DataW.Trod enc P w base spare held t8 v8 d8 p8 := by
 obtain ⟨v0, w0, d0, e0, p0, q0, hargs, rfl, rfl, h0, r0⟩ := trodAll_cons h
 obtain ⟨v1, w1, d1, e1, p1, q1, rfl, rfl, rfl, h1, r1⟩ := trodAll_cons r0
 obtain ⟨v2, w2, d2, e2, p2, q2, rfl, rfl, rfl, h2, r2⟩ := trodAll_cons r1
 obtain ⟨v3, w3, d3, e3, p3, q3, rfl, rfl, rfl, h3, r3⟩ := trodAll_cons r2
 obtain ⟨v4, w4, d4, e4, p4, q4, rfl, rfl, rfl, h4, r4⟩ := trodAll_cons r3
 obtain ⟨v5, w5, d5, e5, p5, q5, rfl, rfl, rfl, h5, r5⟩ := trodAll_cons r4
 obtain ⟨v6, w6, d6, e6, p6, q6, rfl, rfl, rfl, h6, r6⟩ := trodAll_cons r5
 obtain ⟨v7, w7, d7, e7, p7, q7, rfl, rfl, rfl, h7, r7⟩ := trodAll_cons r6
 obtain ⟨v8, w8, d8, e8, p8, q8, rfl, rfl, rfl, h8, r8⟩ := trodAll_cons r7
 obtain ⟨rfl, rfl, rfl⟩ := trodAll_nil r8
 exact ⟨v0, v1, v2, v3, v4, v5, v6, v7, v8, d0, d1, d2, d3, d4, d5, d6, d7, d8, p0, p1, p2, p3, p4, p5, p6, p7, p8, by cases args; simp_all, rfl, by simp, h0, h1, h2, h3, h4, h5, h6, h7, h8⟩
theorem trodAll_twelve {base : Nat} {spare : Nat → Bool} {held : Bool} {t0 t1 t2 t3 t4 t5 t6 t7 t8 t9 t10 t11 : TypeId} {args : Array Value} {ds : List (DataW H)} {ps : List MemPlace} (h : DataW.TrodAll enc P w base spare held [t0, t1, t2, t3, t4, t5, t6, t7, t8, t9, t10, t11] args.toList ds ps) :
  ∃ v0 v1 v2 v3 v4 v5 v6 v7 v8 v9 v10 v11 d0 d1 d2 d3 d4 d5 d6 d7 d8 d9 d10 d11 p0 p1 p2 p3 p4 p5 p6 p7 p8 p9 p10 p11, args = #[v0, v1, v2, v3, v4, v5, v6, v7, v8, v9, v10, v11] ∧ ds = [d0, d1, d2, d3, d4, d5, d6, d7, d8, d9, d10, d11] ∧ ps = p0 ++ p1 ++ p2 ++ p3 ++ p4 ++ p5 ++ p6 ++ p7 ++ p8 ++ p9 ++ p10 ++ p11 ∧ DataW.Trod enc P w base spare held t0 v0 d0 p0 ∧ DataW.Trod enc P w base spare held t1 v1 d1 p1 ∧ DataW.Trod enc P w base spare held t2 v2 d2 p2 ∧ DataW.Trod enc P w base spare held t3 v3 d3 p3 ∧ DataW.Trod enc P w base spare held t4 v4 d4 p4 ∧ DataW.Trod enc P w base spare held t5 v5 d5 p5 ∧ DataW.Trod enc P w base spare held t6 v6 d6 p6 ∧ DataW.Trod enc P w base spare held t7 v7 d7 p7 ∧ DataW.Trod enc P w base spare held t8 v8 d8 p8 ∧ DataW.Trod enc P w base spare held t9 v9 d9 p9 ∧ DataW.Trod enc P w base spare held t10 v10 d10 p10 ∧ DataW.Trod enc P w base spare held t11 v11 d11 p11 := by
 obtain ⟨v0, w0, d0, e0, p0, q0, hargs, rfl, rfl, h0, r0⟩ := trodAll_cons h
 obtain ⟨v1, w1, d1, e1, p1, q1, rfl, rfl, rfl, h1, r1⟩ := trodAll_cons r0
 obtain ⟨v2, w2, d2, e2, p2, q2, rfl, rfl, rfl, h2, r2⟩ := trodAll_cons r1
 obtain ⟨v3, w3, d3, e3, p3, q3, rfl, rfl, rfl, h3, r3⟩ := trodAll_cons r2
 obtain ⟨v4, w4, d4, e4, p4, q4, rfl, rfl, rfl, h4, r4⟩ := trodAll_cons r3
 obtain ⟨v5, w5, d5, e5, p5, q5, rfl, rfl, rfl, h5, r5⟩ := trodAll_cons r4
 obtain ⟨v6, w6, d6, e6, p6, q6, rfl, rfl, rfl, h6, r6⟩ := trodAll_cons r5
 obtain ⟨v7, w7, d7, e7, p7, q7, rfl, rfl, rfl, h7, r7⟩ := trodAll_cons r6
 obtain ⟨v8, w8, d8, e8, p8, q8, rfl, rfl, rfl, h8, r8⟩ := trodAll_cons r7
 obtain ⟨v9, w9, d9, e9, p9, q9, rfl, rfl, rfl, h9, r9⟩ := trodAll_cons r8
 obtain ⟨v10, w10, d10, e10, p10, q10, rfl, rfl, rfl, h10, r10⟩ := trodAll_cons r9
 obtain ⟨v11, w11, d11, e11, p11, q11, rfl, rfl, rfl, h11, r11⟩ := trodAll_cons r10
 obtain ⟨rfl, rfl, rfl⟩ := trodAll_nil r11
 exact ⟨v0, v1, v2, v3, v4, v5, v6, v7, v8, v9, v10, v11, d0, d1, d2, d3, d4, d5, d6, d7, d8, d9, d10, d11, p0, p1, p2, p3, p4, p5, p6, p7, p8, p9, p10, p11, by cases args; simp_all, rfl, by simp, h0, h1, h2, h3, h4, h5, h6, h7, h8, h9, h10, h11⟩
end
end Go.Proofs.YtgfgndaoocfpdaaGreatDoor.Vc
namespace Go.Proofs.YtgfgndaoocfpdaaGreatDoor.Cl
open Go Go.RowKit Go.Proofs Go.Proofs.YtgfgndaoocfpdaaGreatDoor.Vc Go.Proofs.YtgfgndaoocfpdaaGreatDoor.Ax
def llsh : List Sh := [.l 1 [.n .u8], .n .i16, .n .i16]
def lpsh : List Sh := [.n .u8, .n .u8, .n .u8, .n .u8, .n .u8, .l 32 llsh]
theorem rows_mapG {α : Type} {es : List Sh} {enc : α → List FV} {ok : α → Prop} (one : ∀ row, OkR es row → ∃ a, row = enc a ∧ ok a) : ∀ rows : List (List FV), (∀ row ∈ rows, OkR es row) → ∃ l : List α, rows = l.map enc ∧ ∀ a ∈ l, ok a := by
 intro rows
 induction rows with
 | nil => intro _; exact ⟨[], rfl, fun a h => by cases h⟩
 | cons r rs ih =>
  intro h
  obtain ⟨a, e, ha⟩ := one r (h r (by simp))
  obtain ⟨l, e2, hl⟩ := ih fun row hrow => h row (by simp [hrow])
  refine ⟨a :: l, by rw [e, e2]; rfl, fun b hb => ?_⟩
  rcases List.mem_cons.1 hb with rfl | hb
  ·exact ha
  ·exact hl b hb
theorem u8_inv {a : FV} (h : OkV (.n .u8) a) : ∃ k : Nat, a = .v (.int .u8 k) ∧ k < 256 := by
 cases h with
 | n hw => obtain ⟨k, rfl, hk⟩ := u8_of hw; exact ⟨k, rfl, hk⟩
theorem by_inv {a : FV} {b : Nat} (h : OkV (.l b [.n .u8]) a) : ∃ l : By, a = .lst 1 (l.map enB) := by
 obtain ⟨rows, rfl, _, hr⟩ := h.l_inv
 obtain ⟨l, rfl, _⟩ := rows_mapG (α := UInt8) (enc := enB) (ok := fun _ => True) (fun row h => by
  obtain ⟨a, r, rfl, ha, h⟩ := h.cons_inv
  obtain rfl := h.nil_inv
  obtain ⟨k, rfl, hk⟩ := u8_inv ha
  exact ⟨UInt8.ofNat k, by unfold enB; rw [toNat_ofNat hk], trivial⟩) rows hr
 exact ⟨l, rfl⟩
theorem ll_row (row : List FV) (h : OkR llsh row) : ∃ x : LL, row = llF x ∧ ((-32768 ≤ x.lo ∧ x.lo ≤ 32767) ∧ (-32768 ≤ x.hi ∧ x.hi ≤ 32767)) := by
 obtain ⟨a, r, rfl, ha, h⟩ := h.cons_inv
 obtain ⟨b, r, rfl, hb, h⟩ := h.cons_inv
 obtain ⟨c, r, rfl, hc, h⟩ := h.cons_inv
 obtain rfl := h.nil_inv
 obtain ⟨m, rfl⟩ := by_inv ha
 cases hb with
 | n hb =>
 cases hc with
 | n hc => exact ⟨⟨m, _, _⟩, rfl, i16_of hb, i16_of hc⟩
theorem lp_row {row : List FV} (h : OkR lpsh row) : ∃ p : LP, .agg (row.map FV.up) = lpA p ∧ LpZ p := by
 obtain ⟨a0, r, rfl, h0, h⟩ := h.cons_inv
 obtain ⟨a1, r, rfl, h1, h⟩ := h.cons_inv
 obtain ⟨a2, r, rfl, h2, h⟩ := h.cons_inv
 obtain ⟨a3, r, rfl, h3, h⟩ := h.cons_inv
 obtain ⟨a4, r, rfl, h4, h⟩ := h.cons_inv
 obtain ⟨a5, r, rfl, h5, h⟩ := h.cons_inv
 obtain rfl := h.nil_inv
 obtain ⟨k0, rfl, b0⟩ := u8_inv h0
 obtain ⟨k1, rfl, b1⟩ := u8_inv h1
 obtain ⟨k2, rfl, b2⟩ := u8_inv h2
 obtain ⟨k3, rfl, b3⟩ := u8_inv h3
 obtain ⟨k4, rfl, b4⟩ := u8_inv h4
 obtain ⟨rows, rfl, hrl, hr⟩ := h5.l_inv
 obtain ⟨l, rfl, hl⟩ := rows_mapG ll_row rows hr
 rw [List.length_map] at hrl
 exact ⟨⟨k0, k1, k2, k3, k4, l⟩, rfl, b0, b1, b2, b3, b4, by have := hrl.2; dsimp only; omega, hl⟩
end Go.Proofs.YtgfgndaoocfpdaaGreatDoor.Cl
