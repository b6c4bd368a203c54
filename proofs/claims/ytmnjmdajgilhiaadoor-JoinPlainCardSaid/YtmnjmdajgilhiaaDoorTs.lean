/- Lists of texts in plain Lean: sorted without repetitions. slices.Sort and slices.Compact over texts on a list of the caller's own. Condition: the list is not empty; sizes. -/
import Derived.Test.YtmnjmdajgilhiaaDoorAx11
import Derived.Test.YtmnjmdajgilhiaaDoorShl
import Derived.Test.YtmnjmdajgilhiaaDoorJb
import Derived.Sort.Walk0
set_option linter.unusedVariables false
set_option linter.unusedSimpArgs false
namespace Go.Proofs.YtmnjmdajgilhiaaDoor.Cl
theorem tlt_irr (a : By) : ¬ a < a := List.lt_irrefl a
theorem tlt_tr {a b c : By} (h1 : a < b) (h2 : b < c) : a < c := List.lt_trans h1 h2
theorem tlt_tri {a b : By} (h1 : ¬ a < b) (h2 : a ≠ b) : b < a := by
  by_cases h : b < a
  · exact h
  · exact absurd (List.le_antisymm (List.not_lt.1 h) (List.not_lt.1 h1)) h2
theorem tlt_asym {a b : By} (h1 : a < b) (h2 : b < a) : False := tlt_irr a (tlt_tr h1 h2)
/-- the different texts in ascending order -/
def insT (d : Tx) (x : By) : Tx :=
  match d with
  | [] => [x]
  | y :: r => if y < x then y :: insT r x else if y = x then y :: r else x :: y :: r
def dsT (l : Tx) : Tx := l.foldl insT []
def idxT : Tx → By → Nat
  | [], _ => 0
  | y :: r, x => if y = x then 0 else idxT r x + 1
def SST (d : Tx) : Prop := d.Pairwise (· < ·)
theorem insT_mem (d : Tx) (x y : By) : y ∈ insT d x ↔ y ∈ d ∨ y = x := by
  induction d with
  | nil => simp [insT]
  | cons z r ih =>
    unfold insT
    split
    · simp only [List.mem_cons, ih, or_assoc]
    · split
      · rename_i e; subst e; simp only [List.mem_cons]; constructor
        · intro h; exact .inl h
        · rintro (h | rfl)
          · exact h
          · exact .inl rfl
      · simp only [List.mem_cons]; constructor
        · rintro (h | h | h)
          · exact .inr h
          · exact .inl (.inl h)
          · exact .inl (.inr h)
        · rintro ((h | h) | h)
          · exact .inr (.inl h)
          · exact .inr (.inr h)
          · exact .inl h
theorem insT_ss {d : Tx} {x : By} (h : SST d) : SST (insT d x) := by
  induction d with
  | nil => simp [insT, SST]
  | cons z r ih =>
    have h1 := List.pairwise_cons.1 h
    unfold insT
    split
    · rename_i hz
      refine List.pairwise_cons.2 ⟨fun a ha => ?_, ih h1.2⟩
      rcases (insT_mem r x a).1 ha with h2 | h2
      · exact h1.1 a h2
      · rw [h2]; exact hz
    · split
      · exact h
      · rename_i n1 n2
        have hx := tlt_tri n1 n2
        refine List.pairwise_cons.2 ⟨fun a ha => ?_, h⟩
        rcases List.mem_cons.1 ha with h2 | h2
        · rw [h2]; exact hx
        · exact tlt_tr hx (h1.1 a h2)
theorem dsT_snoc (l : Tx) (x : By) : dsT (l ++ [x]) = insT (dsT l) x := by simp [dsT]
theorem dsT_fold (l : Tx) : ∀ d, SST d → SST (l.foldl insT d) ∧ ∀ y, y ∈ l.foldl insT d ↔ y ∈ d ∨ y ∈ l := by
  induction l with
  | nil => intro d h; simp [h]
  | cons x r ih =>
    intro d h
    have := ih (insT d x) (insT_ss h)
    refine ⟨this.1, fun y => ?_⟩
    rw [List.foldl_cons, this.2 y, insT_mem, List.mem_cons, or_assoc]
theorem dsT_ss (l : Tx) : SST (dsT l) := (dsT_fold l [] List.Pairwise.nil).1
theorem dsT_mem (l : Tx) (y : By) : y ∈ dsT l ↔ y ∈ l := by rw [dsT, (dsT_fold l [] List.Pairwise.nil).2 y]; simp
theorem ssT_uniq {a : Tx} : ∀ {b : Tx}, SST a → SST b → (∀ y, y ∈ a ↔ y ∈ b) → a = b := by
  induction a with
  | nil => intro b _ _ h; cases b with
    | nil => rfl
    | cons y r => exact absurd ((h y).2 List.mem_cons_self) (by simp)
  | cons x r ih =>
    intro b ha hb h
    have h1 := List.pairwise_cons.1 ha
    cases b with
    | nil => exact absurd ((h x).1 List.mem_cons_self) (by simp)
    | cons y s =>
      have h2 := List.pairwise_cons.1 hb
      have e : x = y := by
        have m1 := (h x).1 List.mem_cons_self
        have m2 := (h y).2 List.mem_cons_self
        rcases List.mem_cons.1 m1 with e | e
        · exact e
        · rcases List.mem_cons.1 m2 with e2 | e2
          · exact e2.symm
          · exact (tlt_asym (h1.1 y e2) (h2.1 x e)).elim
      subst e
      congr 1
      refine ih h1.2 h2.2 fun z => ⟨fun hz => ?_, fun hz => ?_⟩
      · rcases List.mem_cons.1 ((h z).1 (List.mem_cons_of_mem _ hz)) with e | e
        · have := h1.1 z hz; rw [e] at this; exact (tlt_irr _ this).elim
        · exact e
      · rcases List.mem_cons.1 ((h z).2 (List.mem_cons_of_mem _ hz)) with e | e
        · have := h2.1 z hz; rw [e] at this; exact (tlt_irr _ this).elim
        · exact e
theorem dsT_of {l d : Tx} (h1 : SST d) (h2 : ∀ y, y ∈ d ↔ y ∈ l) : d = dsT l := ssT_uniq h1 (dsT_ss l) fun y => by rw [h2, dsT_mem]
theorem insT_len (d : Tx) (x : By) : (insT d x).length ≤ d.length + 1 := by
  induction d with
  | nil => simp [insT]
  | cons y r ih => unfold insT; split
                   · simp only [List.length_cons]; omega
                   · split <;> simp
theorem dsT_len (l : Tx) : (dsT l).length ≤ l.length := by
  have : ∀ (l d : Tx), (l.foldl insT d).length ≤ d.length + l.length := by
    intro l
    induction l with
    | nil => intro d; simp
    | cons x r ih => intro d; have h1 := ih (insT d x); have h2 := insT_len d x; simp only [List.foldl_cons, List.length_cons]; omega
  have := this l []
  simpa [dsT] using this
theorem idxT_lt {d : Tx} {x : By} (h : x ∈ d) : idxT d x < d.length ∧ d[idxT d x]? = some x := by
  induction d with
  | nil => cases h
  | cons y r ih =>
    unfold idxT
    by_cases e : y = x
    · rw [if_pos e]; simp [e]
    · rw [if_neg e]
      have := ih (by rcases List.mem_cons.1 h with h | h; exact absurd h.symm e; exact h)
      simp only [List.length_cons, List.getElem?_cons_succ]
      exact ⟨by omega, this.2⟩
theorem ssT_lt {d : Tx} (hd : SST d) {i j : Nat} {x y : By} (h : i < j) (h1 : d[i]? = some x) (h2 : d[j]? = some y) : x < y := by
  obtain ⟨hi, e1⟩ := List.getElem?_eq_some_iff.1 h1
  obtain ⟨hj, e2⟩ := List.getElem?_eq_some_iff.1 h2
  rw [← e1, ← e2]
  exact List.pairwise_iff_getElem.1 hd i j hi hj h
theorem insT_split : ∀ (d : Tx) (x : By) (k : Nat), k ≤ d.length → (∀ j (h1 : j < k) (h2 : j < d.length), d[j] < x) → (∀ h : k < d.length, ¬ d[k] < x) → insT d x = if ∃ h : k < d.length, d[k] = x then d else d.take k ++ [x] ++ d.drop k := by
  intro d
  induction d with
  | nil => intro x k hk _ _; have : k = 0 := by simpa using hk
           subst this; simp [insT]
  | cons y r ih =>
    intro x k hk h1 h2
    unfold insT
    cases k with
    | zero =>
      have h3 : ¬ y < x := h2 (by simp)
      rw [if_neg h3]
      by_cases e : y = x
      · rw [if_pos e, if_pos ⟨by simp, e⟩]
      · rw [if_neg e, if_neg (by rintro ⟨_, h⟩; exact e h)]; simp
    | succ k =>
      have h3 : y < x := h1 0 (by omega) (by simp)
      rw [if_pos h3]
      have := ih x k (by simpa using hk) (fun j hj hjl => h1 (j + 1) (by omega) (by simp; omega)) (fun h => h2 (by simp; omega))
      rw [this]
      by_cases e : ∃ h : k < r.length, r[k] = x
      · rw [if_pos e, if_pos (by obtain ⟨h, e⟩ := e; exact ⟨by simp; omega, e⟩)]
      · rw [if_neg e, if_neg (by rintro ⟨h, e2⟩; exact e ⟨by simpa using h, e2⟩)]; simp
theorem idxT_first {d : Tx} {k : Nat} {x : By} {h : k < d.length} (e : d[k] = x) : idxT d x ≤ k := by
  induction d generalizing k with
  | nil => simp at h
  | cons y r ih =>
    unfold idxT
    split
    · omega
    · rename_i hy
      cases k with
      | zero => exact absurd e hy
      | succ k => have := ih (k := k) (h := by simpa using h) (by simpa using e); omega
/-! sorting and striking repeated ones -/
def srtT (l : Tx) : Tx := l.mergeSort fun x y => decide (x ≤ y)
theorem srtT_len (l : Tx) : (srtT l).length = l.length := List.length_mergeSort l
theorem srtT_mem (l : Tx) (y : By) : y ∈ srtT l ↔ y ∈ l := List.mem_mergeSort
theorem srtT_sorted (l : Tx) : (srtT l).Pairwise (· ≤ ·) := by
  have := List.pairwise_mergeSort (le := fun x y : By => decide (x ≤ y)) (fun a b c h1 h2 => by simp only [decide_eq_true_eq] at *; exact List.le_trans h1 h2) (fun a b => by simp only [Bool.or_eq_true, decide_eq_true_eq]; exact List.le_total a b) l
  exact this.imp fun h => by simpa using h
theorem cmpT_spec (z : Tx) (hs : z.Pairwise (· ≤ ·)) : ∀ m, m ≤ z.length → SST (Go.Lib.compactUpTo z.toArray m) ∧ ∀ y, y ∈ Go.Lib.compactUpTo z.toArray m ↔ y ∈ z.take m := by
  intro m
  induction m with
  | zero => intro _; simp [Go.Lib.compactUpTo, SST]
  | succ m ih =>
    intro hm
    have hlt : m < z.length := by omega
    obtain ⟨h1, h2⟩ := ih (by omega)
    have em : z.toArray[m]! = z[m] := by simp [hlt]
    have le : ∀ j (hj : j < m), z[j]'(by omega) ≤ z[m] := fun j hj => List.pairwise_iff_getElem.1 hs j m (by omega) hlt hj
    rw [Go.Lib.compactUpTo_succ, List.take_succ_eq_append_getElem hlt, em]
    by_cases hk : Go.Lib.keeps z.toArray m = true
    · rw [if_pos hk]
      refine ⟨List.pairwise_append.2 ⟨h1, List.pairwise_singleton _ _, fun a ha b hb => ?_⟩, fun y => by simp only [List.mem_append, h2, List.mem_singleton]⟩
      rw [List.mem_singleton.1 hb]
      obtain ⟨j, hj, e⟩ := List.getElem_of_mem ((h2 a).1 ha)
      rw [List.length_take] at hj
      rw [List.getElem_take] at e
      have hjm : j < m := by omega
      have hne : z[m - 1]'(by omega) ≠ z[m] := by
        unfold Go.Lib.keeps at hk
        rw [decide_eq_true_eq] at hk
        rcases hk with h | h
        · omega
        · rw [em] at h
          have e1 : z.toArray[m - 1]! = z[m - 1]'(by omega) := by simp [show m - 1 < z.length by omega]
          rw [e1] at h
          exact fun e => h e.symm
      have l1 : z[m - 1]'(by omega) ≤ z[m] := le (m - 1) (by omega)
      have l2 : z[j]'(by omega) ≤ z[m - 1]'(by omega) := by
        rcases Nat.lt_or_ge j (m - 1) with h | h
        · exact List.pairwise_iff_getElem.1 hs j (m - 1) (by omega) (by omega) h
        · have : j = m - 1 := by omega
          subst this; exact List.le_refl _
      have l3 : z[m - 1]'(by omega) < z[m] := by
        by_cases h : z[m - 1]'(by omega) < z[m]
        · exact h
        · exact absurd (List.le_antisymm l1 (List.not_lt.1 h)) hne
      rw [← e]
      exact List.lt_of_le_of_lt l2 l3
    · rw [if_neg hk, List.append_nil]
      refine ⟨h1, fun y => ?_⟩
      rw [h2, List.mem_append, List.mem_singleton]
      constructor
      · exact .inl
      · rintro (h | h)
        · exact h
        · unfold Go.Lib.keeps at hk
          rw [decide_eq_true_eq] at hk
          have h0 : 0 < m := by
            rcases Nat.eq_zero_or_pos m with e | e
            · exact absurd (.inl e) hk
            · exact e
          have e1 : z.toArray[m - 1]! = z[m - 1]'(by omega) := by simp [show m - 1 < z.length by omega]
          have e2 : z[m] = z[m - 1]'(by omega) := by
            rw [em, e1] at hk
            exact Classical.byContradiction fun h => hk (.inr h)
          rw [h, e2]
          exact List.mem_iff_getElem.2 ⟨m - 1, by rw [List.length_take]; omega, by rw [List.getElem_take]⟩
theorem compact_dsT (l : Tx) : Go.Lib.compact (srtT l) = dsT l := by
  have h := cmpT_spec (srtT l) (srtT_sorted l) (srtT l).length (Nat.le_refl _)
  rw [List.take_length] at h
  exact dsT_of h.1 fun y => by
    have := h.2 y
    rw [srtT_mem] at this
    exact this
end Go.Proofs.YtmnjmdajgilhiaaDoor.Cl

namespace Go.Proofs.YtmnjmdajgilhiaaDoor.Cl
open Go Go.RowKit Go.Proofs Go.Proofs.YtmnjmdajgilhiaaDoor.Vc Go.Proofs.YtmnjmdajgilhiaaDoor.Ax
attribute [local irreducible] loadVar storeVar Instr.indexAt Instr.index Instr.sliceAt Instr.makeSlice Instr.lookup Instr.mapUpdate Instr.range Instr.next Instr.entry Instr.makeMap Builtin.append_ Builtin.copy_ Builtin.len_ Builtin.min_ Builtin.max_ Builtin.cap_ Builtin.delete_ Builtin.clear_ convert binOp eqGuard Op.unary Calls
abbrev tv (s : By) : AV := .v (.string ⟨s.toArray⟩)
def enT (s : By) : List FV := [.v (.string ⟨s.toArray⟩)]
abbrev tl (l : Tx) : AV := .lst 1 (l.map enT)
theorem enT_snoc (l : Tx) (s : By) : (l ++ [s]).map enT = l.map enT ++ [[FV.v (.string ⟨s.toArray⟩)]] := by rw [List.map_append]; rfl
theorem sLt_by (a b : By) : sLt ⟨a.toArray⟩ ⟨b.toArray⟩ = decide (a < b) := by
  unfold sLt
  rw [bytesLess_eq, Lib.toList_data, Lib.toList_data]
section
variable {G : Glob}
theorem oneT (a : By) : (encStr a).oneCell' = true := rfl
theorem sortTA (l : Tx) (hne : l ≠ []) (hs : l.length ≤ 1000000) : AFn Tryd.prog G 71 [.own 0] 1 [(0, .rows 9 1 (l.map enT))] (fun a n H => a = .tup [] ∧ n = 1 ∧ H = [(0, .rows 9 1 ((srtT l).map enT))]) :=
  afn_place (enc := encStr) (V := fun _ _ v => v = .tuple #[]) oneT hne (srtT_len l)
    (fun w blk cap hH hb _ => Calls.mono (Tryd.slices_Sort_string blk 0 cap l w hH hb (by omega)) fun e w' ⟨h1, h2⟩ => ⟨_, h1, rfl, h2⟩)
    (fun w σ F blk cap v _ _ hv => by subst hv; exact RepL.tup («as» := []) (vs := []) trivial)
theorem compactTA (l : Tx) (hne : l ≠ []) (hs : l.length ≤ 1000000) : AFn Tryd.prog G 72 [.own 0] 1 [(0, .rows 9 1 ((srtT l).map enT))] (fun a n H => a = .sub 0 0 (dsT l).length ∧ n = 1 ∧ H = [(0, .rows 9 1 ((dsT l ++ List.replicate (l.length - (dsT l).length) []).map enT))]) :=
  afn_place (enc := encStr) (zs' := dsT l ++ List.replicate (l.length - (dsT l).length) []) (V := fun blk cap v => v = .slice (some ⟨blk, 0, none⟩) (dsT l).length cap) oneT (by intro h; have := srtT_len l; rw [h] at this; exact hne (List.eq_nil_of_length_eq_zero this.symm))
    (by have := dsT_len l; rw [srtT_len, List.length_append, List.length_replicate]; omega)
    (fun w blk cap hH hb hc => Calls.mono (Tryd.slices_Compact_string blk 0 cap (srtT l) w hH (by rw [srtT_len]; omega) hc) fun e w' ⟨h1, q, h2⟩ => ⟨_, h1, by rw [compact_dsT], q, #[], by rw [h2, compact_dsT, Sort.grow_empty, srtT_len]⟩)
    (fun w σ F blk cap v hσ hc hv => by
      subst hv
      have hd := dsT_len l
      rw [srtT_len] at hσ hc
      refine .sub 0 0 _ _ cap (by decide) (by rw [hσ]; show 0 + _ ≤ l.length; omega) (by omega) (fun h => by cases h) fun _ => ⟨blk, by rw [hσ], by rw [Nat.zero_mul]⟩)
theorem take_dsT (l : Tx) (x : Tx) : (((dsT l ++ x).map enT).drop 0).take (dsT l).length = (dsT l).map enT := by
  rw [List.drop_zero, List.map_append]
  exact List.take_left' (List.length_map _)
end
end Go.Proofs.YtmnjmdajgilhiaaDoor.Cl
