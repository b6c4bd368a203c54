/- What arguments of any type built of numbers, truth values, texts, slices and structs read as: rows of values that change no more, each of its kind. No condition. -/
import Derived.Test.YthnncehddnfjmaaDoorWt
set_option linter.unusedVariables false
set_option linter.unusedSimpArgs false
namespace Go.Proofs.YthnncehddnfjmaaDoor.Vc
open Go Go.RowKit Go.Proofs.YthnncehddnfjmaaDoor.Ax

/-- the kind of a cell -/
inductive Sh where
  | n (k : IntKind)
  | b
  | s
  | l (by_ : Nat) (es : List Sh)
inductive OkV : Sh → FV → Prop
  | n {k : IntKind} {x : Int} (h : (Lit.int k x).wf = true) : OkV (.n k) (.v (.int k x))
  | b (x : Bool) : OkV .b (.v (.bool x))
  | s (x : ByteArray) (h : x.size ≤ 140737488351232) : OkV .s (.v (.string x))
  | l {by_ : Nat} {es : List Sh} {rows : List (List FV)} (hn : rows.length ≤ maxLen) (hb : rows.length * by_ ≤ 140737488351232) (h : ∀ row ∈ rows, row.length = es.length) (hr : ∀ row ∈ rows, ∀ (j : Nat) e a, es[j]? = some e → row[j]? = some a → OkV e a) : OkV (.l by_ es) (.lst es.length rows)
def OkR (es : List Sh) (row : List FV) : Prop := row.length = es.length ∧ ∀ (j : Nat) e a, es[j]? = some e → row[j]? = some a → OkV e a
theorem OkR.nil : OkR [] [] := ⟨rfl, fun j e a h => by simp at h⟩
theorem OkR.app {e1 e2 : List Sh} {r1 r2 : List FV} (h1 : OkR e1 r1) (h2 : OkR e2 r2) : OkR (e1 ++ e2) (r1 ++ r2) := by
  refine ⟨by simp [h1.1, h2.1], fun j e a he ha => ?_⟩
  rw [List.getElem?_append] at he ha
  rw [h1.1] at ha
  split at he
  · rename_i h; rw [if_pos h] at ha; exact h1.2 j e a he ha
  · rename_i h; rw [if_neg h] at ha; exact h2.2 _ e a he ha
theorem OkR.one {e : Sh} {a : FV} (h : OkV e a) : OkR [e] [a] := ⟨rfl, fun j e' a' he ha => by
  match j, he, ha with
  | 0, he, ha => simp at he ha; subst he; subst ha; exact h⟩
theorem OkR.nil_inv {row : List FV} (h : OkR [] row) : row = [] := List.eq_nil_of_length_eq_zero h.1
theorem OkR.cons_inv {e : Sh} {es : List Sh} {row : List FV} (h : OkR (e :: es) row) : ∃ a r, row = a :: r ∧ OkV e a ∧ OkR es r := by
  cases row with
  | nil => have := h.1; simp at this
  | cons a r => exact ⟨a, r, rfl, h.2 0 e a rfl rfl, by have := h.1; simpa using this, fun j e' a' he ha => h.2 (j + 1) e' a' (by simpa using he) (by simpa using ha)⟩
theorem OkV.l_inv {by_ : Nat} {es : List Sh} {a : FV} (h : OkV (.l by_ es) a) : ∃ rows : List (List FV), a = .lst es.length rows ∧ (rows.length ≤ maxLen ∧ rows.length * by_ ≤ 140737488351232) ∧ ∀ row ∈ rows, OkR es row := by
  cases h with
  | l hn hb h hr => exact ⟨_, rfl, ⟨hn, hb⟩, fun row hrow => ⟨h row hrow, hr row hrow⟩⟩

def shFs (f : TypeId → Option (List Sh)) (P : Program) : List Field → Nat → Option (List Sh)
  | [], _ => some []
  | x :: r, o => bif Nat.beq x.offset o then
      match f x.type with
      | some es => bif Nat.beq es.length (P.cellsOf x.type) then
          match shFs f P r (o + es.length) with
          | some rs => some (es ++ rs)
          | none => none
        else none
      | none => none
    else none
def shT (P : Program) : Nat → TypeId → Option (List Sh)
  | 0, _ => none
  | n + 1, t => match P.underlying t with
    | some (.int k) => some [.n k]
    | some .bool => some [.b]
    | some .string => some [.s]
    | some (.slice e) => match shT P n e with
      | some es => bif Nat.beq es.length (P.cellsOf e) && Nat.ble 1 es.length then some [.l (P.bytesOf e) es] else none
      | none => none
    | some (.struct fs) => match shFs (shT P n) P fs.toList 0 with
      | some es => bif Nat.beq es.length (P.cellsOf t) then some es else none
      | none => none
    | _ => none

section
variable {H : Type} {enc : TypeId × Value → H} {P : Program} {w : World}
def One (w : World) (es : List Sh) (cs : List Value) : Prop := ∃ row, OkR es row ∧ FRepL (Here w) w row cs ∧ ∀ v ∈ cs, v.oneCell' = true
theorem One.nil : One w [] [] := ⟨[], OkR.nil, ⟨rfl, fun j a v h => by simp at h⟩, fun v h => by cases h⟩
theorem One.app {e1 e2 : List Sh} {c1 c2 : List Value} (h1 : One w e1 c1) (h2 : One w e2 c2) : One w (e1 ++ e2) (c1 ++ c2) := by
  obtain ⟨r1, k1, f1, o1⟩ := h1
  obtain ⟨r2, k2, f2, o2⟩ := h2
  refine ⟨r1 ++ r2, k1.app k2, ⟨by simp [f1.1, f2.1], fun j a v ha hv => ?_⟩, fun v hv => (List.mem_append.1 hv).elim (o1 v) (o2 v)⟩
  rw [List.getElem?_append] at ha hv
  rw [f1.1] at hv
  split at ha
  · rename_i h; rw [if_pos h] at hv; exact f1.2 j a v ha hv
  · rename_i h; rw [if_neg h] at hv; exact f2.2 _ a v ha hv
theorem One.one {e : Sh} {a : FV} {v : Value} (h : OkV e a) (hf : FRep (Here w) w a v) (ho : v.oneCell' = true) : One w [e] [v] :=
  ⟨[a], .one h, ⟨rfl, fun j a' v' ha hv => by
    match j, ha, hv with
    | 0, ha, hv => simp at ha hv; subst ha; subst hv; exact hf⟩, fun u hu => by rw [List.mem_singleton.1 hu]; exact ho⟩
theorem flat_at {sz : Nat} : ∀ (css : List (List Value)) (i j : Nat) (c : List Value) (v : Value), (∀ c ∈ css, c.length = sz) → css[i]? = some c → c[j]? = some v → css.flatten[i * sz + j]? = some v := by
  intro css
  induction css with
  | nil => intro i j c v _ h; simp at h
  | cons a r ih =>
    intro i j c v hl hi hj
    have ha : a.length = sz := hl a (by simp)
    rw [List.flatten_cons, List.getElem?_append]
    cases i with
    | zero =>
      simp only [List.getElem?_cons_zero, Option.some.injEq] at hi
      subst hi
      have := (List.getElem?_eq_some_iff.1 hj).1
      rw [if_pos (by omega)]
      simpa using hj
    | succ i =>
      rw [if_neg (by rw [ha, Nat.add_mul]; omega), ha]
      have := ih i j c v (fun c hc => hl c (by simp [hc])) (by simpa using hi) hj
      rw [show (i + 1) * sz + j - sz = i * sz + j by rw [Nat.add_mul]; omega]
      exact this
theorem one_fields {f : TypeId → Option (List Sh)} {cs : List Value} : ∀ (fs : List Field) (o : Nat) (es : List Sh), shFs f P fs o = some es →
    (∀ x ∈ fs, ∀ e', f x.type = some e' → e'.length = P.cellsOf x.type → One w e' ((cs.drop x.offset).take (P.cellsOf x.type))) → One w es ((cs.drop o).take es.length) := by
  intro fs
  induction fs with
  | nil => intro o es h _; injection h with h; subst h; simpa using One.nil
  | cons x r ih =>
    intro o es h hx
    unfold shFs at h
    cases ho : Nat.beq x.offset o with
    | false => rw [ho] at h; cases h
    | true =>
      rw [ho] at h
      simp only [cond_true] at h
      have ho := Nat.eq_of_beq_eq_true ho
      cases hf : f x.type with
      | none => rw [hf] at h; cases h
      | some e1 =>
        rw [hf] at h
        simp only at h
        cases hl : Nat.beq e1.length (P.cellsOf x.type) with
        | false => rw [hl] at h; cases h
        | true =>
          rw [hl] at h
          simp only [cond_true] at h
          have hl := Nat.eq_of_beq_eq_true hl
          cases hr : shFs f P r (o + e1.length) with
          | none => rw [hr] at h; cases h
          | some e2 =>
            rw [hr] at h
            simp only [Option.some.injEq] at h
            subst h
            have h1 := hx x (by simp) e1 hf hl
            have h2 := ih (o + e1.length) e2 hr fun y hy => hx y (by simp [hy])
            rw [ho, ← hl] at h1
            have := h1.app h2
            rw [List.length_append, List.take_add, List.drop_drop]
            exact this
theorem one_rows {es : List Sh} {e : TypeId} (one : ∀ cs (d : DataW H), RdD enc P w e cs d → (∀ x ∈ d.weights P e, x ≤ reachBytes) → One w es cs) :
    ∀ (css : List (List Value)) (ds : List (DataW H)), ds.length = css.length → (∀ (i : Nat) c d', css[i]? = some c → ds[i]? = some d' → RdD enc P w e c d') → (∀ x ∈ DataW.weightsAll P e ds, x ≤ reachBytes) →
      ∃ rows : List (List FV), rows.length = css.length ∧ (∀ row ∈ rows, OkR es row) ∧ ∀ (i : Nat) c row, css[i]? = some c → rows[i]? = some row → FRepL (Here w) w row c ∧ ∀ v ∈ c, v.oneCell' = true := by
  intro css
  induction css with
  | nil => intro ds _ _ _; exact ⟨[], rfl, (fun k h => by cases h), fun i c row h => by simp at h⟩
  | cons a css ih =>
    intro ds hl h hB
    cases ds with
    | nil => simp at hl
    | cons d ds =>
      simp only [DataW.weightsAll, List.mem_append] at hB
      obtain ⟨row, k1, k2, k3⟩ := one a d (h 0 a d rfl rfl) fun x hx => hB x (.inl hx)
      obtain ⟨rows, h1, h2, h3⟩ := ih ds (by simpa using hl) (fun i c d' hc hd => h (i + 1) c d' (by simpa using hc) (by simpa using hd)) fun x hx => hB x (.inr hx)
      refine ⟨row :: rows, by simp [h1], fun y hy => ?_, fun i c r hc hr => ?_⟩
      · rcases List.mem_cons.1 hy with rfl | hy
        · exact k1
        · exact h2 y hy
      · cases i with
        | zero => simp at hc hr; subst hc; subst hr; exact ⟨k2, k3⟩
        | succ i => exact h3 i c r (by simpa using hc) (by simpa using hr)
/-- any argument -/
theorem rdg : ∀ (n : Nat) (t : TypeId) (es : List Sh), shT P n t = some es → ∀ (cs : List Value) (d : DataW H), RdD enc P w t cs d → (∀ x ∈ d.weights P t, x ≤ reachBytes) → One w es cs := by
  intro n
  induction n with
  | zero => intro t es h; cases h
  | succ n ih =>
    intro t es h cs d hd hB
    unfold shT at h
    cases hu : P.underlying t with
    | none => rw [hu] at h; cases h
    | some u =>
      rw [hu] at h
      cases u with
      | int k =>
        simp only [Option.some.injEq] at h
        subst h
        obtain ⟨x, e, _, hw⟩ := rdd_int hu hd
        subst e
        exact .one (.n hw) (.v _) rfl
      | bool =>
        simp only [Option.some.injEq] at h
        subst h
        obtain ⟨held, fuel, p, hx⟩ := hd
        obtain ⟨b, e, _⟩ := DataW.trod_bool hu hx
        subst e
        exact .one (.b b) (.v _) rfl
      | string =>
        simp only [Option.some.injEq] at h
        subst h
        obtain ⟨held, fuel, p, hx⟩ := hd
        obtain ⟨s, e, hd, _⟩ := DataW.trod_string hu hx
        injection hd with hd
        subst hd
        subst e
        have h1 := hB s.data.toList.length (by simp [DataW.weights])
        have h2 : s.data.toList.length = s.size := by simp
        have h3 : reachBytes = 140737488351232 := rfl
        exact .one (.s s (by omega)) (.v _) rfl
      | slice e =>
        simp only at h
        cases hs : shT P n e with
        | none => rw [hs] at h; cases h
        | some ee =>
          rw [hs] at h
          simp only at h
          cases hc : Nat.beq ee.length (P.cellsOf e) && Nat.ble 1 ee.length with
          | false => rw [hc] at h; cases h
          | true =>
            rw [hc] at h
            simp only [cond_true, Option.some.injEq] at h
            subst h
            simp only [Bool.and_eq_true] at hc
            have hsz := Nat.eq_of_beq_eq_true hc.1
            have hpos := Nat.le_of_ble_eq_true hc.2
            obtain ⟨oa, len, cap, css, ds, h1, hlc, hcm, hn, hcl, hr, hall, hdl, hdd, hel⟩ := rdd_slice hu hd
            obtain ⟨rows, k1, k2, k3⟩ := one_rows (fun cs d => ih e ee hs cs d) css ds (by omega) hel (slice_w hu hdl hdd hB)
            subst h1
            have hsz' : ∀ c ∈ css, c.length = ee.length := fun c hc => by rw [(hall c hc).1, hsz]
            have cell : ∀ i j, i < len → j < ee.length → ∃ b o row a v, oa = some ⟨b, o, none⟩ ∧ b < w.heap.size ∧ rows[i]? = some row ∧ row[j]? = some a ∧ w.cell? ⟨b, o + (i * ee.length + j), none⟩ = some v ∧ FRep (Here w) w a v ∧ v.oneCell' = true := by
              intro i j hi hj
              have hic : i < css.length := by omega
              have hir : i < rows.length := by omega
              have hci := List.getElem?_eq_getElem hic
              have hri := List.getElem?_eq_getElem hir
              have hjc : j < css[i].length := by rw [hsz' _ (List.getElem_mem hic)]; exact hj
              have hjr : j < rows[i].length := by rw [(k2 _ (List.getElem_mem hir)).1]; exact hj
              have hfl := flat_at css i j css[i] css[i][j] hsz' hci (List.getElem?_eq_getElem hjc)
              rcases hr with h0 | ⟨b, o, rfl, hb, hcc⟩
              · rw [h0] at hfl; simp at hfl
              · obtain ⟨f1, f2⟩ := k3 i css[i] rows[i] hci hri
                exact ⟨b, o, rows[i], rows[i][j], css[i][j], rfl, hb, hri, List.getElem?_eq_getElem hjr, hcc _ _ hfl, f1.2 j _ _ (List.getElem?_eq_getElem hjr) (List.getElem?_eq_getElem hjc), f2 _ (List.getElem_mem hjc)⟩
            have hb : ∃ b o, (0 < len → oa = some ⟨b, o, none⟩ ∧ Here w b) := by
              rcases Nat.eq_zero_or_pos len with h0 | h0
              · exact ⟨0, 0, fun h => by omega⟩
              · obtain ⟨b, o, _, _, _, e, hb, _⟩ := cell 0 0 h0 hpos
                exact ⟨b, o, fun _ => ⟨e, hb⟩⟩
            obtain ⟨b, o, hbo⟩ := hb
            have hbb : rows.length * P.bytesOf e ≤ 140737488351232 := by
              rcases hdd with ⟨_, h0⟩ | ⟨rest, hdd⟩
              · rw [show rows.length = 0 by omega, Nat.zero_mul]; exact Nat.zero_le _
              · subst hdd
                have := hB ((ds.length + rest.length) * P.bytesOf e) (by simp only [DataW.weights, hu, List.mem_cons, true_or])
                rw [show rows.length = ds.length by omega]
                exact Nat.le_trans (Nat.mul_le_mul_right _ (Nat.le_add_right _ _)) this
            refine .one (a := .lst ee.length rows) (.l (by omega) hbb (fun row hrow => (k2 row hrow).1) fun row hrow => (k2 row hrow).2) ?_ rfl
            refine .lst ee.length rows oa len cap b o (by omega) hlc hn hbo (fun row hrow => (k2 row hrow).1) (fun i j hi hj => ?_) fun i j row a v hi hj hv => ?_
            · obtain ⟨b', o', _, _, v, e, _, _, _, h4, _, h6⟩ := cell i j hi hj
              obtain ⟨rfl, rfl⟩ : b' = b ∧ o' = o := by
                have := (hbo (by omega)).1
                rw [e] at this; injection this with this; injection this with h1 h2; exact ⟨h1, h2⟩
              exact ⟨v, h4, h6⟩
            · have hil := (List.getElem?_eq_some_iff.1 hi).1
              have hjl : j < ee.length := by rw [← (k2 row (List.mem_of_getElem? hi)).1]; exact (List.getElem?_eq_some_iff.1 hj).1
              obtain ⟨b', o', row', a', v', e, _, h2, h3, h4, h5, _⟩ := cell i j (by omega) hjl
              obtain ⟨rfl, rfl⟩ : b' = b ∧ o' = o := by
                have := (hbo (by omega)).1
                rw [e] at this; injection this with this; injection this with h1 h2; exact ⟨h1, h2⟩
              rw [hi] at h2; injection h2 with h2; subst h2
              rw [hj] at h3; injection h3 with h3; subst h3
              rw [hv] at h4; injection h4 with h4; subst h4
              exact h5
      | struct fs =>
        simp only at h
        cases hs : shFs (shT P n) P fs.toList 0 with
        | none => rw [hs] at h; cases h
        | some ee =>
          rw [hs] at h
          simp only at h
          cases hc : Nat.beq ee.length (P.cellsOf t) with
          | false => rw [hc] at h; cases h
          | true =>
            rw [hc] at h
            simp only [cond_true, Option.some.injEq] at h
            subst h
            have hsz := Nat.eq_of_beq_eq_true hc
            obtain ⟨held, fuel, p, hx⟩ := hd
            obtain ⟨xs, m, rfl, hdd, hcl, hxl, hel⟩ := DataW.trod_struct hu hx
            injection hdd with hdd
            subst hdd
            have := one_fields (w := w) (cs := cs) fs.toList 0 ee hs fun x hx e' he' hle => by
              obtain ⟨i, hi⟩ := List.mem_iff_getElem?.1 hx
              have hi' : fs[i]? = some x := by simpa using hi
              have hil : i < xs.length := by rw [hxl]; exact (Array.getElem?_eq_some_iff.1 hi').1
              have h1 := hel i x hi'
              rw [List.getElem?_eq_getElem hil] at h1
              refine ih x.type e' he' _ xs[i].1 ⟨held, m, xs[i].2, h1⟩ ?_
              have hE : ∀ y ∈ DataW.weightsEach P (fs.toList.map (·.type)) (xs.map (·.1)), y ≤ reachBytes := by
                intro y hy
                refine hB y ?_
                simp only [DataW.weights, hu]
                exact hy
              exact each_ok hE i x.type xs[i].1 (by rw [List.getElem?_map, hi]; rfl) (by rw [List.getElem?_map, List.getElem?_eq_getElem hil]; rfl)
            rw [List.drop_zero, List.take_of_length_le (by omega)] at this
            exact this
      | _ => cases h
/-- an argument of a struct's type -/
theorem rdg_arg {t : TypeId} {es : List Sh} {fs : Array Field} {v : Value} {r : Reach} {b0 : Nat} {d : DataW H} {p : List MemPlace} (n : Nat) (ht : P.underlying t = some (.struct fs)) (hs : shT P n t = some es) (hval : Value.okWide P w r b0 t v)
    (h : DataW.Trod enc P w 0 (fun _ => true) true t v d p) (hB : ∀ x ∈ d.weights P t, x ≤ reachBytes) : ∃ row, OkR es row ∧ ARep 0 loc0 (Here w) w (.agg (row.map FV.up)) v := by
  unfold Value.okWide at hval
  rw [ht] at hval
  obtain ⟨cs, rfl, _, _⟩ := hval
  obtain ⟨row, h1, h2, h3⟩ := rdg n t es hs cs.toList d ⟨_, _, _, h.choose_spec⟩ hB
  refine ⟨row, h1, ?_⟩
  have := ARep.agg (n := 0) (σ := loc0) (F := Here w) (w := w) (row.map FV.up) cs.toList (by rw [List.length_map]; exact h2.1) fun j a v ha hv => by
    rw [List.getElem?_map] at ha
    cases hj : row[j]? with
    | none => rw [hj] at ha; cases ha
    | some a' =>
      rw [hj] at ha
      simp only [Option.map_some, Option.some.injEq] at ha
      subst ha
      exact (h2.2 j a' v hj hv).up
  simpa using this
end
end Go.Proofs.YthnncehddnfjmaaDoor.Vc
