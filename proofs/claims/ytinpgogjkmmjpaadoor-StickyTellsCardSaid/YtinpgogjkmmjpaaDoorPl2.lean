/- A valid register, told plainly; both Valids say it. No condition. What Merge does, told plainly: which slots end. No condition. -/
import Derived.Test.YtinpgogjkmmjpaaDoorSx3
import Derived.Test.YtinpgogjkmmjpaaDoorSx6
set_option linter.unusedVariables false
set_option linter.unusedSimpArgs false
namespace Go.Proofs.YtinpgogjkmmjpaaDoor.Sx
open Go Go.RowKit Go.Proofs.YtinpgogjkmmjpaaDoor.Vc Go.Proofs.YtinpgogjkmmjpaaDoor.Ky Go.Proofs.YtinpgogjkmmjpaaDoor.Id Go.Proofs.YtinpgogjkmmjpaaDoor.Sp

def linkG (now : Int) (k : Lk) : Prop := keyB k.a = true ∧ keyB k.b = true ∧ k.a ≠ k.b ∧ 0 ≤ k.t ∧ k.t ≤ now
structure Good (r : Rg) : Prop where
  now : 0 ≤ r.now ∧ r.now ≤ 1099511627776
  len : r.links.length ≤ 64 ∧ r.slots.length ≤ 128
  l : ∀ i (h : i < r.links.length), linkG r.now r.links[i]
  lo : ∀ i (h : i + 1 < r.links.length), r.links[i].t ≤ r.links[i + 1].t
  s : ∀ i (h : i < r.slots.length), slotB r.now r.slots[i] = true
  so : ∀ i (h : i + 1 < r.slots.length), r.slots[i].from_ ≤ r.slots[i + 1].from_
  alone : ∀ i j (h : i < r.slots.length) (hj : j < i), r.slots[i].fin = 0 → r.slots[j].fin = 0 → r.slots[i].layer = r.slots[j].layer → rt r.links r.slots[i].id ≠ rt r.links r.slots[j].id
theorem linksB_iff (now : Int) : ∀ (l : List Lk) (b : Int), 0 ≤ b → (linksB now b l = true ↔ (∀ i (h : i < l.length), linkG now l[i] ∧ b ≤ l[i].t) ∧ ∀ i (h : i + 1 < l.length), l[i].t ≤ l[i + 1].t) := by
  intro l
  induction l with
  | nil => intro b _; simp [linksB]
  | cons k l ih =>
    intro b hb
    simp only [linksB, Bool.and_eq_true, decide_eq_true_eq]
    constructor
    · rintro ⟨⟨⟨h1, h2⟩, h3, h4, h5⟩, h6⟩
      obtain ⟨g1, g2⟩ := (ih k.t (by omega)).1 h6
      refine ⟨fun i h => ?_, fun i h => ?_⟩
      · cases i with
        | zero => exact ⟨⟨h1, h2, h3, by simp only [List.getElem_cons_zero]; omega, h5⟩, h4⟩
        | succ i =>
          have := g1 i (by simpa using h)
          simp only [List.getElem_cons_succ]
          exact ⟨this.1, by omega⟩
      · cases i with
        | zero => simp only [List.getElem_cons_zero, List.getElem_cons_succ]; exact (g1 0 (by simpa using h)).2
        | succ i => simp only [List.getElem_cons_succ]; exact g2 i (by simpa using h)
    · rintro ⟨h1, h2⟩
      obtain ⟨⟨a1, a2, a3, a4, a5⟩, a6⟩ := h1 0 (by simp)
      simp only [List.getElem_cons_zero] at a1 a2 a3 a4 a5 a6
      refine ⟨⟨⟨a1, a2⟩, a3, a6, a5⟩, (ih k.t (by omega)).2 ⟨fun i h => ⟨?_, ?_⟩, fun i h => ?_⟩⟩
      · have := (h1 (i + 1) (by simpa using h)).1
        simpa only [List.getElem_cons_succ] using this
      · clear ih a1 a2 a3
        induction i with
        | zero => have := h2 0 (by simpa using h); simpa only [List.getElem_cons_zero, List.getElem_cons_succ, Nat.zero_add] using this
        | succ i ih2 =>
          have := h2 (i + 1) (by simpa using h)
          simp only [List.getElem_cons_succ] at this
          have := ih2 (by omega)
          omega
      · have := h2 (i + 1) (by simpa using h)
        simpa only [List.getElem_cons_succ] using this
theorem slotsB_iff (now : Int) : ∀ (l : List Sl) (b : Int), 0 ≤ b → (slotsB now b l = true ↔ (∀ i (h : i < l.length), slotB now l[i] = true ∧ b ≤ l[i].from_) ∧ ∀ i (h : i + 1 < l.length), l[i].from_ ≤ l[i + 1].from_) := by
  intro l
  induction l with
  | nil => intro b _; simp [slotsB]
  | cons k l ih =>
    intro b hb
    simp only [slotsB, Bool.and_eq_true, decide_eq_true_eq]
    constructor
    · rintro ⟨⟨h1, h2⟩, h6⟩
      obtain ⟨g1, g2⟩ := (ih k.from_ (by omega)).1 h6
      refine ⟨fun i h => ?_, fun i h => ?_⟩
      · cases i with
        | zero => exact ⟨h1, h2⟩
        | succ i =>
          have := g1 i (by simpa using h)
          simp only [List.getElem_cons_succ]
          exact ⟨this.1, by omega⟩
      · cases i with
        | zero => simp only [List.getElem_cons_zero, List.getElem_cons_succ]; exact (g1 0 (by simpa using h)).2
        | succ i => simp only [List.getElem_cons_succ]; exact g2 i (by simpa using h)
    · rintro ⟨h1, h2⟩
      obtain ⟨a1, a6⟩ := h1 0 (by simp)
      simp only [List.getElem_cons_zero] at a1 a6
      refine ⟨⟨a1, a6⟩, (ih k.from_ (by omega)).2 ⟨fun i h => ⟨?_, ?_⟩, fun i h => ?_⟩⟩
      · have := (h1 (i + 1) (by simpa using h)).1
        simpa only [List.getElem_cons_succ] using this
      · clear ih a1
        induction i with
        | zero => have := h2 0 (by simpa using h); simpa only [List.getElem_cons_zero, List.getElem_cons_succ, Nat.zero_add] using this
        | succ i ih2 =>
          have := h2 (i + 1) (by simpa using h)
          simp only [List.getElem_cons_succ] at this
          have := ih2 (by omega)
          omega
      · have := h2 (i + 1) (by simpa using h)
        simpa only [List.getElem_cons_succ] using this
theorem openB_iff (links : List Lk) : ∀ (l : List Sl) (L : List (ByteArray × ByteArray)), openB links L l = true ↔
    (∀ i (h : i < l.length), l[i].fin = 0 → (l[i].layer, rt links l[i].id) ∉ L) ∧ ∀ i j (h : i < l.length) (hj : j < i), l[i].fin = 0 → l[j].fin = 0 → l[i].layer = l[j].layer → rt links l[i].id ≠ rt links l[j].id := by
  intro l
  induction l with
  | nil => intro L; simp [openB]
  | cons s l ih =>
    intro L
    unfold openB
    by_cases hf : s.fin = 0
    · rw [if_pos hf]
      by_cases hp : hasP L (s.layer, rt links s.id) = true
      · rw [if_pos hp]
        refine ⟨fun h => absurd h Bool.false_ne_true, fun h => ?_⟩
        exact absurd ((hasP_iff _ _).1 hp) (h.1 0 (by simp) hf)
      · rw [if_neg hp, ih]
        have hp' : (s.layer, rt links s.id) ∉ L := fun h => hp ((hasP_iff _ _).2 h)
        constructor
        · rintro ⟨h1, h2⟩
          refine ⟨fun i h hfi => ?_, fun i j h hj hfi hfj he => ?_⟩
          · cases i with
            | zero => exact hp'
            | succ i => have := h1 i (by simpa using h) hfi; exact fun q => this (List.mem_append.2 (.inl q))
          · cases i with
            | zero => omega
            | succ i =>
              simp only [List.getElem_cons_succ] at hfi he ⊢
              cases j with
              | zero =>
                simp only [List.getElem_cons_zero] at he ⊢
                exact fun q => h1 i (by simpa using h) hfi (List.mem_append.2 (.inr (by simp [he, q])))
              | succ j => simp only [List.getElem_cons_succ] at hfj he ⊢; exact h2 i j (by simpa using h) (by omega) hfi hfj he
        · rintro ⟨h1, h2⟩
          refine ⟨fun i h hfi hm => ?_, fun i j h hj hfi hfj he => ?_⟩
          · rcases List.mem_append.1 hm with hm | hm
            · exact h1 (i + 1) (by simpa using h) hfi hm
            · simp only [List.mem_singleton, Prod.mk.injEq] at hm
              exact h2 (i + 1) 0 (by simpa using h) (by omega) hfi hf hm.1 hm.2
          · exact h2 (i + 1) (j + 1) (by simpa using h) (by omega) hfi hfj he
    · rw [if_neg hf, ih]
      constructor
      · rintro ⟨h1, h2⟩
        refine ⟨fun i h hfi => ?_, fun i j h hj hfi hfj he => ?_⟩
        · cases i with
          | zero => exact absurd hfi hf
          | succ i => exact h1 i (by simpa using h) hfi
        · cases i with
          | zero => omega
          | succ i =>
            cases j with
            | zero => exact absurd hfj hf
            | succ j => exact h2 i j (by simpa using h) (by omega) hfi hfj he
      · rintro ⟨h1, h2⟩
        exact ⟨fun i h => h1 (i + 1) (by simpa using h), fun i j h hj => h2 (i + 1) (j + 1) (by simpa using h) (by omega)⟩
theorem slotB_from {now : Int} {s : Sl} (h : slotB now s = true) : 0 ≤ s.from_ ∧ s.from_ ≤ now := by
  unfold slotB at h
  simp only [Bool.and_eq_true, decide_eq_true_eq] at h
  exact ⟨h.2.2.2.1, h.2.2.2.2.1⟩
theorem valid_iff (r : Rg) : validB r = true ↔ Good r := by
  unfold validB boundB
  rw [Bool.and_eq_true, Bool.and_eq_true, Bool.and_eq_true, decide_eq_true_eq, linksB_iff _ _ _ (Int.le_refl _), slotsB_iff _ _ _ (Int.le_refl _), openB_iff]
  constructor
  · rintro ⟨⟨⟨h1, h2, h3⟩, h4, h5⟩, h6⟩
    exact ⟨⟨h1.1, h1.2.1⟩, h1.2.2, fun i h => (h2 i h).1, h3, fun i h => (h4 i h).1, h5, h6.2⟩
  · intro g
    exact ⟨⟨⟨⟨g.now.1, g.now.2, g.len.1, g.len.2⟩, fun i h => ⟨g.l i h, (g.l i h).2.2.2.1⟩, g.lo⟩, fun i h => ⟨g.s i h, (slotB_from (g.s i h)).1⟩, g.so⟩, fun i h _ => by simp, g.alone⟩
theorem all_range {f : Nat → Bool} {n : Nat} : (List.range n).all f = true ↔ ∀ i, i < n → f i = true := by
  rw [List.all_eq_true]
  exact ⟨fun h i hi => h i (List.mem_range.2 hi), fun h i hi => h i (List.mem_range.1 hi)⟩
theorem valid2_iff (r : Rg) : valid2B r = true ↔ Good r := by
  unfold valid2B boundB links2B slots2B
  rw [Bool.and_eq_true, Bool.and_eq_true, decide_eq_true_eq, all_range, all_range]
  have d1 : ∀ i (h : i < r.links.length), link2B r i r.links[i] = true ↔ linkG r.now r.links[i] ∧ (i = 0 ∨ (r.links[i - 1]'(by omega)).t ≤ r.links[i].t) := fun i h => by
    unfold link2B linkG
    rw [List.getElem?_eq_getElem (by omega : i - 1 < r.links.length), Bool.and_eq_true, Bool.and_eq_true, decide_eq_true_eq]
    simp only [Option.getD_some, and_assoc]
  have d2 : ∀ i (h : i < r.slots.length), slot2B r i r.slots[i] = true ↔ slotB r.now r.slots[i] = true ∧ (i = 0 ∨ (r.slots[i - 1]'(by omega)).from_ ≤ r.slots[i].from_) ∧ ∀ j (hj : j < i), r.slots[i].fin = 0 → r.slots[j].fin = 0 → r.slots[i].layer = r.slots[j].layer → rt r.links r.slots[i].id ≠ rt r.links r.slots[j].id := fun i h => by
    unfold slot2B prevB aloneB
    rw [List.getElem?_eq_getElem (by omega : i - 1 < r.slots.length), Bool.and_eq_true, Bool.and_eq_true, List.all_eq_true, Bool.or_eq_true, decide_eq_true_eq, decide_eq_true_eq, and_assoc]
    refine and_congr Iff.rfl (and_congr Iff.rfl ⟨fun q j hj h1 h2 h3 h4 => ?_, fun q t ht => ?_⟩)
    · have := q r.slots[j] (List.mem_take_iff_getElem.2 ⟨j, by omega, rfl⟩)
      simp [h1, h2, h3, h4] at this
    · obtain ⟨j, hj, rfl⟩ := List.mem_take_iff_getElem.1 ht
      have := q j (by omega)
      rw [Bool.not_eq_true', Bool.and_eq_false_iff, Bool.and_eq_false_iff, Bool.and_eq_false_iff, decide_eq_false_iff_not, decide_eq_false_iff_not, decide_eq_false_iff_not, decide_eq_false_iff_not]
      by_cases h1 : r.slots[i].fin = 0
      · by_cases h2 : r.slots[j].fin = 0
        · by_cases h3 : r.slots[i].layer = r.slots[j].layer
          · exact .inr (this h1 h2 h3)
          · exact .inl (.inr h3)
        · exact .inl (.inl (.inr h2))
      · exact .inl (.inl (.inl h1))
  constructor
  · rintro ⟨⟨h1, h2⟩, h3⟩
    refine ⟨⟨h1.1, h1.2.1⟩, h1.2.2, fun i h => ?_, fun i h => ?_, fun i h => ?_, fun i h => ?_, fun i j h hj => ?_⟩
    · have := h2 i h; simp only [List.getElem?_eq_getElem h] at this; exact ((d1 i h).1 this).1
    · have := h2 (i + 1) h; simp only [List.getElem?_eq_getElem h] at this
      rcases ((d1 _ h).1 this).2 with q | q
      · omega
      · exact q
    · have := h3 i h; simp only [List.getElem?_eq_getElem h] at this; exact ((d2 i h).1 this).1
    · have := h3 (i + 1) h; simp only [List.getElem?_eq_getElem h] at this
      rcases ((d2 _ h).1 this).2.1 with q | q
      · omega
      · exact q
    · have := h3 i h; simp only [List.getElem?_eq_getElem h] at this; exact ((d2 i h).1 this).2.2 j hj
  · intro g
    refine ⟨⟨⟨g.now.1, g.now.2, g.len.1, g.len.2⟩, fun i h => ?_⟩, fun i h => ?_⟩
    · simp only [List.getElem?_eq_getElem h]
      refine (d1 i h).2 ⟨g.l i h, ?_⟩
      cases i with
      | zero => exact .inl rfl
      | succ i => exact .inr (g.lo i h)
    · simp only [List.getElem?_eq_getElem h]
      refine (d2 i h).2 ⟨g.s i h, ?_, fun j hj => g.alone i j h hj⟩
      cases i with
      | zero => exact .inl rfl
      | succ i => exact .inr (g.so i h)
theorem valid_same (r : Rg) : valid2B r = validB r := by
  have := (valid2_iff r).trans (valid_iff r).symm
  cases h1 : valid2B r <;> cases h2 : validB r <;> simp_all
/-- from within the list, times ascend -/
theorem Good.from_le {r : Rg} (g : Good r) : ∀ i j (h : j < r.slots.length) (hij : i ≤ j), r.slots[i].from_ ≤ r.slots[j].from_ := by
  intro i j
  induction j with
  | zero => intro h hij; have : i = 0 := by omega
            subst this; exact Int.le_refl _
  | succ j ih =>
    intro h hij
    rcases Nat.lt_or_ge i (j + 1) with h1 | h1
    · exact Int.le_trans (ih (by omega) (by omega)) (g.so j h)
    · have : i = j + 1 := by omega
      subst this; exact Int.le_refl _
end Go.Proofs.YtinpgogjkmmjpaaDoor.Sx

namespace Go.Proofs.YtinpgogjkmmjpaaDoor.Sx
open Go Go.RowKit Go.Proofs.YtinpgogjkmmjpaaDoor.Vc Go.Proofs.YtinpgogjkmmjpaaDoor.Ax Go.Proofs.YtinpgogjkmmjpaaDoor.Ky Go.Proofs.YtinpgogjkmmjpaaDoor.Id Go.Proofs.YtinpgogjkmmjpaaDoor.Sp

def mark (now : Int) (s : Sl) : Sl := { s with to_ := now, fin := 2 }
/-- the slots behind k rounds, when d tells which of them end -/
def mrgL (d : Nat → Bool) (now : Int) (l : List Sl) (k : Nat) : List Sl := l.mapIdx fun i s => if i < k ∧ d i = true then mark now s else s
/-- what ended by then -/
def mrgE (d : Nat → Bool) (now : Int) (l : List Sl) (k : Nat) : List Sl := ((List.range k).filter d).map fun i => mark now (l.getD i sl0)
theorem mrgL_len (d : Nat → Bool) (now : Int) (l : List Sl) (k : Nat) : (mrgL d now l k).length = l.length := by unfold mrgL; simp
theorem mrgL_get (d : Nat → Bool) (now : Int) (l : List Sl) (k i : Nat) (h : i < l.length) : (mrgL d now l k)[i]? = some (if i < k ∧ d i = true then mark now l[i] else l[i]) := by
  unfold mrgL
  rw [List.getElem?_mapIdx, List.getElem?_eq_getElem h]; rfl
theorem mrgL_at (d : Nat → Bool) (now : Int) (l : List Sl) (k : Nat) (h : k < l.length) : (mrgL d now l k)[k]? = some l[k] := by
  rw [mrgL_get _ _ _ _ _ h, if_neg (fun q => Nat.lt_irrefl _ q.1)]
theorem mrgL_0 (d : Nat → Bool) (now : Int) (l : List Sl) : mrgL d now l 0 = l := by
  refine List.ext_getElem? fun i => ?_
  rcases Nat.lt_or_ge i l.length with h | h
  · rw [mrgL_get _ _ _ _ _ h, if_neg (fun q => absurd q.1 (Nat.not_lt_zero _)), List.getElem?_eq_getElem h]
  · rw [List.getElem?_eq_none (by rw [mrgL_len]; exact h), List.getElem?_eq_none h]
theorem mrgL_yes (d : Nat → Bool) (now : Int) (l : List Sl) (k : Nat) (h : k < l.length) (hd : d k = true) : mrgL d now l (k + 1) = (mrgL d now l k).set k (mark now l[k]) := by
  refine List.ext_getElem? fun i => ?_
  rw [List.getElem?_set]
  rcases Nat.lt_or_ge i l.length with hi | hi
  · rw [mrgL_get _ _ _ _ _ hi, mrgL_get _ _ _ _ _ hi, mrgL_len]
    by_cases e : k = i
    · subst e; rw [if_pos ⟨by omega, hd⟩, if_pos rfl, if_pos h]
    · rw [if_neg e]
      by_cases h2 : i < k
      · by_cases h3 : d i = true
        · rw [if_pos ⟨by omega, h3⟩, if_pos ⟨h2, h3⟩]
        · rw [if_neg (fun q => h3 q.2), if_neg (fun q => h3 q.2)]
      · rw [if_neg (fun q => by omega), if_neg (fun q => h2 q.1)]
  · rw [List.getElem?_eq_none (by rw [mrgL_len]; exact hi), if_neg (by omega), List.getElem?_eq_none (by rw [mrgL_len]; exact hi)]
theorem mrgL_no (d : Nat → Bool) (now : Int) (l : List Sl) (k : Nat) (h : k < l.length) (hd : d k = false) : mrgL d now l (k + 1) = mrgL d now l k := by
  refine List.ext_getElem? fun i => ?_
  rcases Nat.lt_or_ge i l.length with hi | hi
  · rw [mrgL_get _ _ _ _ _ hi, mrgL_get _ _ _ _ _ hi]
    by_cases e : k = i
    · subst e; rw [if_neg (fun q => by rw [hd] at q; cases q.2), if_neg (fun q => by rw [hd] at q; cases q.2)]
    · by_cases h2 : i < k
      · by_cases h3 : d i = true
        · rw [if_pos ⟨by omega, h3⟩, if_pos ⟨h2, h3⟩]
        · rw [if_neg (fun q => h3 q.2), if_neg (fun q => h3 q.2)]
      · rw [if_neg (fun q => by omega), if_neg (fun q => h2 q.1)]
  · rw [List.getElem?_eq_none (by rw [mrgL_len]; exact hi), List.getElem?_eq_none (by rw [mrgL_len]; exact hi)]
theorem mrgE_yes (d : Nat → Bool) (now : Int) (l : List Sl) (k : Nat) (h : k < l.length) (hd : d k = true) : mrgE d now l (k + 1) = mrgE d now l k ++ [mark now l[k]] := by
  unfold mrgE
  rw [List.range_succ, List.filter_append, List.map_append]
  simp [hd, List.getElem?_eq_getElem h]
theorem mrgE_no (d : Nat → Bool) (now : Int) (l : List Sl) (k : Nat) (hd : d k = false) : mrgE d now l (k + 1) = mrgE d now l k := by
  unfold mrgE
  rw [List.range_succ, List.filter_append, List.map_append]
  simp [hd]
theorem mrgE_len (d : Nat → Bool) (now : Int) (l : List Sl) (k : Nat) : (mrgE d now l k).length ≤ k := by
  unfold mrgE
  rw [List.length_map]
  exact Nat.le_trans (List.length_filter_le _ _) (by rw [List.length_range]; exact Nat.le_refl _)
theorem mrgL_congr {d e : Nat → Bool} (now : Int) (l : List Sl) (k : Nat) (h : ∀ i, i < k → i < l.length → d i = e i) : mrgL d now l k = mrgL e now l k := by
  refine List.ext_getElem? fun i => ?_
  rcases Nat.lt_or_ge i l.length with hi | hi
  · rw [mrgL_get _ _ _ _ _ hi, mrgL_get _ _ _ _ _ hi]
    by_cases h2 : i < k
    · rw [h i h2 hi]
    · rw [if_neg (fun q => h2 q.1), if_neg (fun q => h2 q.1)]
  · rw [List.getElem?_eq_none (by rw [mrgL_len]; exact hi), List.getElem?_eq_none (by rw [mrgL_len]; exact hi)]
theorem mrgE_congr {d e : Nat → Bool} (now : Int) (l : List Sl) (k : Nat) (h : ∀ i, i < k → d i = e i) : mrgE d now l k = mrgE e now l k := by
  unfold mrgE
  rw [List.filter_congr fun i hi => h i (List.mem_range.1 hi)]

/-- the program: open and of the joined component, behind another such slot of the layer -/
def mP (ls : List Lk) (a : ByteArray) (s : Sl) : Bool := decide (s.fin = 0) && decide (rt ls s.id = rt ls a)
def heldB (ls : List Lk) (a : ByteArray) (l : List Sl) (y : ByteArray) : Bool := l.any fun t => mP ls a t && decide (t.layer = y)
def d1 (ls : List Lk) (a : ByteArray) (l : List Sl) (i : Nat) : Bool := match l[i]? with | some s => mP ls a s && heldB ls a (l.take i) s.layer | none => false
theorem d1_at {ls : List Lk} {a : ByteArray} {l : List Sl} {i : Nat} (h : i < l.length) : d1 ls a l i = (mP ls a l[i] && heldB ls a (l.take i) l[i].layer) := by
  unfold d1; rw [List.getElem?_eq_getElem h]
theorem heldB_succ {ls : List Lk} {a : ByteArray} {l : List Sl} {i : Nat} (h : i < l.length) (y : ByteArray) : heldB ls a (l.take (i + 1)) y = (heldB ls a (l.take i) y || (mP ls a l[i] && decide (l[i].layer = y))) := by
  unfold heldB
  rw [List.take_succ_eq_append_getElem h, List.any_append]
  simp
/-- the reference: open, and the open slot of the other one is older -/
def oth (r : Rg) (a b : ByteArray) (s : Sl) : Int := if rt r.links s.id = rt r.links a then curI r b s.layer else if rt r.links s.id = rt r.links b then curI r a s.layer else -1
def d2 (r : Rg) (a b : ByteArray) (i : Nat) : Bool := match r.slots[i]? with
  | some s => decide (s.fin = 0) && decide (0 ≤ oth r a b s) && !(decide (s.from_ < (r.slots.getD (oth r a b s).toNat sl0).from_) || (decide (s.from_ = (r.slots.getD (oth r a b s).toNat sl0).from_) && decide ((i : Int) < oth r a b s)))
  | none => false
theorem d2_at {r : Rg} {a b : ByteArray} {i : Nat} (h : i < r.slots.length) : d2 r a b i = (decide (r.slots[i].fin = 0) && decide (0 ≤ oth r a b r.slots[i]) && !(decide (r.slots[i].from_ < (r.slots.getD (oth r a b r.slots[i]).toNat sl0).from_) || (decide (r.slots[i].from_ = (r.slots.getD (oth r a b r.slots[i]).toNat sl0).from_) && decide ((i : Int) < oth r a b r.slots[i])))) := by
  unfold d2; rw [List.getElem?_eq_getElem h]
/-- what curI says -/
theorem curI_spec (r : Rg) (id layer : ByteArray) : (curI r id layer = -1 ∧ ∀ j (hj : j < r.slots.length), curP r.links id layer r.slots[j] = false) ∨
    ∃ i, ∃ h : i < r.slots.length, curI r id layer = (i : Int) ∧ curP r.links id layer r.slots[i] = true ∧ ∀ j (hj : j < i), curP r.links id layer (r.slots[j]'(by omega)) = false := by
  unfold curI
  cases h : r.slots.findIdx? (curP r.links id layer) with
  | none =>
    refine .inl ⟨rfl, fun j hj => ?_⟩
    exact List.findIdx?_eq_none_iff.1 h _ (List.getElem_mem hj)
  | some i =>
    obtain ⟨h1, h2, h3⟩ := List.findIdx?_eq_some_iff_getElem.1 h
    exact .inr ⟨i, h1, rfl, h2, fun j hj => by have := h3 j hj; simpa using this⟩
theorem curP_iff {ls : List Lk} {id layer : ByteArray} {s : Sl} : curP ls id layer s = true ↔ s.fin = 0 ∧ s.layer = layer ∧ rt ls s.id = rt ls id := by
  unfold curP
  simp only [Bool.and_eq_true, decide_eq_true_eq, and_assoc]
theorem mP_iff {ls : List Lk} {a : ByteArray} {s : Sl} : mP ls a s = true ↔ s.fin = 0 ∧ rt ls s.id = rt ls a := by
  unfold mP
  simp only [Bool.and_eq_true, decide_eq_true_eq]
theorem mP_snoc {ls : List Lk} {a b : ByteArray} {now : Int} {s : Sl} (hne : rt ls a ≠ rt ls b) : mP (ls ++ [⟨a, b, now⟩]) a s = true ↔ s.fin = 0 ∧ (rt ls s.id = rt ls a ∨ rt ls s.id = rt ls b) := by
  rw [mP_iff]
  have := con_snoc ls ⟨a, b, now⟩ s.id a
  unfold con at this
  rw [this]
  refine and_congr Iff.rfl ⟨fun h => ?_, fun h => ?_⟩
  · rcases h with h | h | h
    · exact .inl h
    · exact .inl h.1
    · exact .inr h.1
  · rcases h with h | h
    · exact .inl h
    · exact .inr (.inr ⟨h, rfl⟩)
/-- an open slot of the layer in the component is the one that curI finds -/
theorem Good.cur_uniq {r : Rg} (g : Good r) {id : ByteArray} {i : Nat} (h : i < r.slots.length) (hf : r.slots[i].fin = 0) (hr : rt r.links r.slots[i].id = rt r.links id) : curI r id r.slots[i].layer = i := by
  rcases curI_spec r id r.slots[i].layer with ⟨_, h2⟩ | ⟨k, hk, h1, h2, h3⟩
  · have := h2 i h
    rw [curP_iff.2 ⟨hf, rfl, hr⟩] at this; cases this
  · obtain ⟨q1, q2, q3⟩ := curP_iff.1 h2
    have : k = i := by
      rcases Nat.lt_trichotomy k i with h4 | h4 | h4
      · exact absurd (hr.trans q3.symm) (g.alone i k h h4 hf q1 q2.symm)
      · exact h4
      · exact absurd (q3.trans hr.symm) (g.alone k i hk h4 q1 hf q2)
    rw [h1, this]
theorem merge_same {r : Rg} (g : Good r) {a b : ByteArray} {now : Int} (hne : rt r.links a ≠ rt r.links b) (i : Nat) (h : i < r.slots.length) : d1 (r.links ++ [⟨a, b, now⟩]) a r.slots i = d2 r a b i := by
  rw [d1_at h, d2_at h]
  obtain ⟨s, hs⟩ : ∃ s, s = r.slots[i] := ⟨_, rfl⟩
  by_cases hf : r.slots[i].fin = 0
  rotate_left 1
  · have : mP (r.links ++ [⟨a, b, now⟩]) a r.slots[i] = false := by
      cases hq : mP (r.links ++ [⟨a, b, now⟩]) a r.slots[i] with
      | false => rfl
      | true => exact absurd (mP_iff.1 hq).1 hf
    rw [this, decide_eq_false hf]; rfl
  -- the two components alike
  have key : ∀ x y : ByteArray, rt r.links r.slots[i].id = rt r.links x → rt r.links x ≠ rt r.links y → (∀ t : Sl, mP (r.links ++ [⟨a, b, now⟩]) a t = true ↔ t.fin = 0 ∧ (rt r.links t.id = rt r.links x ∨ rt r.links t.id = rt r.links y)) → oth r a b r.slots[i] = curI r y r.slots[i].layer →
      (mP (r.links ++ [⟨a, b, now⟩]) a r.slots[i] && heldB (r.links ++ [⟨a, b, now⟩]) a (r.slots.take i) r.slots[i].layer) = (decide (r.slots[i].fin = 0) && decide (0 ≤ oth r a b r.slots[i]) && !(decide (r.slots[i].from_ < (r.slots.getD (oth r a b r.slots[i]).toNat sl0).from_) || (decide (r.slots[i].from_ = (r.slots.getD (oth r a b r.slots[i]).toNat sl0).from_) && decide ((i : Int) < oth r a b r.slots[i])))) := by
    intro x y hx hxy hm ho
    rw [(hm _).2 ⟨hf, .inl hx⟩, ho, decide_eq_true hf, Bool.true_and, Bool.true_and]
    rcases curI_spec r y r.slots[i].layer with ⟨h1, h2⟩ | ⟨k, hk, h1, h2, h3⟩
    · rw [h1]
      have : heldB (r.links ++ [⟨a, b, now⟩]) a (r.slots.take i) r.slots[i].layer = false := by
        unfold heldB
        rw [List.any_eq_false]
        intro t ht
        obtain ⟨j, hj, rfl⟩ := List.mem_take_iff_getElem.1 ht
        intro q
        rw [Bool.and_eq_true, decide_eq_true_eq, hm] at q
        obtain ⟨⟨q1, q2⟩, q3⟩ := q
        rcases q2 with q2 | q2
        · exact g.alone i j h (by omega) hf q1 q3.symm (hx.trans q2.symm)
        · have := h2 j (by omega)
          rw [curP_iff.2 ⟨q1, q3, q2⟩] at this; cases this
      rw [this]; rfl
    · obtain ⟨q1, q2, q3⟩ := curP_iff.1 h2
      rw [h1]
      have e0 : r.slots.getD (k : Int).toNat sl0 = r.slots[k] := by simp [List.getD, List.getElem?_eq_getElem hk]
      rw [e0]
      have hki : k ≠ i := fun e => by
        subst e
        exact hxy (hx.symm.trans q3)
      rcases Nat.lt_or_ge k i with h4 | h4
      · have : heldB (r.links ++ [⟨a, b, now⟩]) a (r.slots.take i) r.slots[i].layer = true := by
          unfold heldB
          rw [List.any_eq_true]
          exact ⟨r.slots[k], List.mem_take_iff_getElem.2 ⟨k, by omega, rfl⟩, by rw [Bool.and_eq_true, decide_eq_true_eq, hm]; exact ⟨⟨q1, .inr q3⟩, q2⟩⟩
        rw [this]
        have hle := g.from_le k i h (by omega)
        rw [decide_eq_true (by omega : (0 : Int) ≤ k), decide_eq_false (by omega : ¬ r.slots[i].from_ < r.slots[k].from_), decide_eq_false (by omega : ¬ ((i : Int) < k)), Bool.and_false]; rfl
      · have : heldB (r.links ++ [⟨a, b, now⟩]) a (r.slots.take i) r.slots[i].layer = false := by
          unfold heldB
          rw [List.any_eq_false]
          intro t ht
          obtain ⟨j, hj, rfl⟩ := List.mem_take_iff_getElem.1 ht
          intro q
          rw [Bool.and_eq_true, decide_eq_true_eq, hm] at q
          obtain ⟨⟨p1, p2⟩, p3⟩ := q
          rcases p2 with p2 | p2
          · exact g.alone i j h (by omega) hf p1 p3.symm (hx.trans p2.symm)
          · have := h3 j (by omega)
            rw [curP_iff.2 ⟨p1, p3, p2⟩] at this; cases this
        rw [this]
        have hle := g.from_le i k hk h4
        rcases Int.lt_or_le r.slots[i].from_ r.slots[k].from_ with h5 | h5
        · rw [decide_eq_true h5]; simp
        · rw [decide_eq_true (by omega : r.slots[i].from_ = r.slots[k].from_), decide_eq_true (by omega : (i : Int) < k)]; simp
  by_cases ha : rt r.links r.slots[i].id = rt r.links a
  · exact key a b ha hne (fun t => mP_snoc hne) (by unfold oth; rw [if_pos ha])
  · by_cases hb : rt r.links r.slots[i].id = rt r.links b
    · exact key b a hb (Ne.symm hne) (fun t => by rw [mP_snoc hne]; exact and_congr Iff.rfl or_comm) (by unfold oth; rw [if_neg ha, if_pos hb])
    · have e1 : mP (r.links ++ [⟨a, b, now⟩]) a r.slots[i] = false := by
        cases hq : mP (r.links ++ [⟨a, b, now⟩]) a r.slots[i] with
        | false => rfl
        | true => exact absurd ((mP_snoc hne).1 hq).2 (fun q => q.elim ha hb)
      have e2 : oth r a b r.slots[i] = -1 := by unfold oth; rw [if_neg ha, if_neg hb]
      rw [e1, e2]
      simp
end Go.Proofs.YtinpgogjkmmjpaaDoor.Sx
