/- A valid register, told plainly; both Valids say it. No condition. -/
import Derived.Test.YtinpgogjkmmjpaaDoorSx3
namespace Go.Proofs.YtinpgogjkmmjpaaDoor.Sx
open Go Go.RowKit Go.Proofs.YtinpgogjkmmjpaaDoor.Vc Go.Proofs.YtinpgogjkmmjpaaDoor.Ky Go.Proofs.YtinpgogjkmmjpaaDoor.Id Go.Proofs.YtinpgogjkmmjpaaDoor.Sp

def linkG (now : Int) (k : Lk) : Prop := keyB k.a = true ∧ keyB k.b = true ∧ k.a ≠ k.b ∧ 0 ≤ k.t ∧ k.t ≤ now
structure Good (r : Rg) : Prop where
  now : 0 ≤ r.now ∧ r.now ≤ 1099511627776
  len : r.links.length ≤ 64 ∧ r.slots.length ≤ 128
  l : ∀ i (h : i < r.links.length), linkG r.now r.links[i]
  lo : ∀ i (h : i + 1 < r.links.length), r.links[i].t ≤ r.links[i + 1].t
  s : ∀ i (h : i < r.slots.length), slotB r.now r.slots[i] = true
  so : ∀ i (h : i + 1 < r.slots.length), r.slots[i].from_ ≤ r.slots[i + 1].from_
  alone : ∀ i j (h : i < r.slots.length) (hj : j < i), r.slots[i].fin = 0 → r.slots[j].fin = 0 → r.slots[i].layer = r.slots[j].layer → rt r.links r.slots[i].id ≠ rt r.links r.slots[j].id
theorem linksB_iff (now : Int) : ∀ (l : List Lk) (b : Int), 0 ≤ b → (linksB now b l = true ↔ (∀ i (h : i < l.length), linkG now l[i] ∧ b ≤ l[i].t) ∧ ∀ i (h : i + 1 < l.length), l[i].t ≤ l[i + 1].t) := by
  intro l
  induction l with
  | nil => intro b _; simp [linksB]
  | cons k l ih =>
    intro b hb
    simp only [linksB, Bool.and_eq_true, decide_eq_true_eq]
    constructor
    · rintro ⟨⟨⟨h1, h2⟩, h3, h4, h5⟩, h6⟩
      obtain ⟨g1, g2⟩ := (ih k.t (by omega)).1 h6
      refine ⟨fun i h => ?_, fun i h => ?_⟩
      · cases i with
        | zero => exact ⟨⟨h1, h2, h3, by simp only [List.getElem_cons_zero]; omega, h5⟩, h4⟩
        | succ i =>
          have := g1 i (by simpa using h)
          simp only [List.getElem_cons_succ]
          exact ⟨this.1, by omega⟩
      · cases i with
        | zero => simp only [List.getElem_cons_zero, List.getElem_cons_succ]; exact (g1 0 (by simpa using h)).2
        | succ i => simp only [List.getElem_cons_succ]; exact g2 i (by simpa using h)
    · rintro ⟨h1, h2⟩
      obtain ⟨⟨a1, a2, a3, a4, a5⟩, a6⟩ := h1 0 (by simp)
      simp only [List.getElem_cons_zero] at a1 a2 a3 a4 a5 a6
      refine ⟨⟨⟨a1, a2⟩, a3, a6, a5⟩, (ih k.t (by omega)).2 ⟨fun i h => ⟨?_, ?_⟩, fun i h => ?_⟩⟩
      · have := (h1 (i + 1) (by simpa using h)).1
        simpa only [List.getElem_cons_succ] using this
      · clear ih a1 a2 a3
        induction i with
        | zero => have := h2 0 (by simpa using h); simpa only [List.getElem_cons_zero, List.getElem_cons_succ, Nat.zero_add] using this
        | succ i ih2 =>
          have := h2 (i + 1) (by simpa using h)
          simp only [List.getElem_cons_succ] at this
          have := ih2 (by omega)
          omega
      · have := h2 (i + 1) (by simpa using h)
        simpa only [List.getElem_cons_succ] using this
theorem slotsB_iff (now : Int) : ∀ (l : List Sl) (b : Int), 0 ≤ b → (slotsB now b l = true ↔ (∀ i (h : i < l.length), slotB now l[i] = true ∧ b ≤ l[i].from_) ∧ ∀ i (h : i + 1 < l.length), l[i].from_ ≤ l[i + 1].from_) := by
  intro l
  induction l with
  | nil => intro b _; simp [slotsB]
  | cons k l ih =>
    intro b hb
    simp only [slotsB, Bool.and_eq_true, decide_eq_true_eq]
    constructor
    · rintro ⟨⟨h1, h2⟩, h6⟩
      obtain ⟨g1, g2⟩ := (ih k.from_ (by omega)).1 h6
      refine ⟨fun i h => ?_, fun i h => ?_⟩
      · cases i with
        | zero => exact ⟨h1, h2⟩
        | succ i =>
          have := g1 i (by simpa using h)
          simp only [List.getElem_cons_succ]
          exact ⟨this.1, by omega⟩
      · cases i with
        | zero => simp only [List.getElem_cons_zero, List.getElem_cons_succ]; exact (g1 0 (by simpa using h)).2
        | succ i => simp only [List.getElem_cons_succ]; exact g2 i (by simpa using h)
    · rintro ⟨h1, h2⟩
      obtain ⟨a1, a6⟩ := h1 0 (by simp)
      simp only [List.getElem_cons_zero] at a1 a6
      refine ⟨⟨a1, a6⟩, (ih k.from_ (by omega)).2 ⟨fun i h => ⟨?_, ?_⟩, fun i h => ?_⟩⟩
      · have := (h1 (i + 1) (by simpa using h)).1
        simpa only [List.getElem_cons_succ] using this
      · clear ih a1
        induction i with
        | zero => have := h2 0 (by simpa using h); simpa only [List.getElem_cons_zero, List.getElem_cons_succ, Nat.zero_add] using this
        | succ i ih2 =>
          have := h2 (i + 1) (by simpa using h)
          simp only [List.getElem_cons_succ] at this
          have := ih2 (by omega)
          omega
      · have := h2 (i + 1) (by simpa using h)
        simpa only [List.getElem_cons_succ] using this
theorem openB_iff (links : List Lk) : ∀ (l : List Sl) (L : List (ByteArray × ByteArray)), openB links L l = true ↔
    (∀ i (h : i < l.length), l[i].fin = 0 → (l[i].layer, rt links l[i].id) ∉ L) ∧ ∀ i j (h : i < l.length) (hj : j < i), l[i].fin = 0 → l[j].fin = 0 → l[i].layer = l[j].layer → rt links l[i].id ≠ rt links l[j].id := by
  intro l
  induction l with
  | nil => intro L; simp [openB]
  | cons s l ih =>
    intro L
    unfold openB
    by_cases hf : s.fin = 0
    · rw [if_pos hf]
      by_cases hp : hasP L (s.layer, rt links s.id) = true
      · rw [if_pos hp]
        refine ⟨fun h => absurd h Bool.false_ne_true, fun h => ?_⟩
        exact absurd ((hasP_iff _ _).1 hp) (h.1 0 (by simp) hf)
      · rw [if_neg hp, ih]
        have hp' : (s.layer, rt links s.id) ∉ L := fun h => hp ((hasP_iff _ _).2 h)
        constructor
        · rintro ⟨h1, h2⟩
          refine ⟨fun i h hfi => ?_, fun i j h hj hfi hfj he => ?_⟩
          · cases i with
            | zero => exact hp'
            | succ i => have := h1 i (by simpa using h) hfi; exact fun q => this (List.mem_append.2 (.inl q))
          · cases i with
            | zero => omega
            | succ i =>
              simp only [List.getElem_cons_succ] at hfi he ⊢
              cases j with
              | zero =>
                simp only [List.getElem_cons_zero] at he ⊢
                exact fun q => h1 i (by simpa using h) hfi (List.mem_append.2 (.inr (by simp [he, q])))
              | succ j => simp only [List.getElem_cons_succ] at hfj he ⊢; exact h2 i j (by simpa using h) (by omega) hfi hfj he
        · rintro ⟨h1, h2⟩
          refine ⟨fun i h hfi hm => ?_, fun i j h hj hfi hfj he => ?_⟩
          · rcases List.mem_append.1 hm with hm | hm
            · exact h1 (i + 1) (by simpa using h) hfi hm
            · simp only [List.mem_singleton, Prod.mk.injEq] at hm
              exact h2 (i + 1) 0 (by simpa using h) (by omega) hfi hf hm.1 hm.2
          · exact h2 (i + 1) (j + 1) (by simpa using h) (by omega) hfi hfj he
    · rw [if_neg hf, ih]
      constructor
      · rintro ⟨h1, h2⟩
        refine ⟨fun i h hfi => ?_, fun i j h hj hfi hfj he => ?_⟩
        · cases i with
          | zero => exact absurd hfi hf
          | succ i => exact h1 i (by simpa using h) hfi
        · cases i with
          | zero => omega
          | succ i =>
            cases j with
            | zero => exact absurd hfj hf
            | succ j => exact h2 i j (by simpa using h) (by omega) hfi hfj he
      · rintro ⟨h1, h2⟩
        exact ⟨fun i h => h1 (i + 1) (by simpa using h), fun i j h hj => h2 (i + 1) (j + 1) (by simpa using h) (by omega)⟩
theorem slotB_from {now : Int} {s : Sl} (h : slotB now s = true) : 0 ≤ s.from_ ∧ s.from_ ≤ now := by
  unfold slotB at h
  simp only [Bool.and_eq_true, decide_eq_true_eq] at h
  exact ⟨h.2.2.2.1, h.2.2.2.2.1⟩
theorem valid_iff (r : Rg) : validB r = true ↔ Good r := by
  unfold validB boundB
  rw [Bool.and_eq_true, Bool.and_eq_true, Bool.and_eq_true, decide_eq_true_eq, linksB_iff _ _ _ (Int.le_refl _), slotsB_iff _ _ _ (Int.le_refl _), openB_iff]
  constructor
  · rintro ⟨⟨⟨h1, h2, h3⟩, h4, h5⟩, h6⟩
    exact ⟨⟨h1.1, h1.2.1⟩, h1.2.2, fun i h => (h2 i h).1, h3, fun i h => (h4 i h).1, h5, h6.2⟩
  · intro g
    exact ⟨⟨⟨⟨g.now.1, g.now.2, g.len.1, g.len.2⟩, fun i h => ⟨g.l i h, (g.l i h).2.2.2.1⟩, g.lo⟩, fun i h => ⟨g.s i h, (slotB_from (g.s i h)).1⟩, g.so⟩, fun i h _ => by simp, g.alone⟩
theorem all_range {f : Nat → Bool} {n : Nat} : (List.range n).all f = true ↔ ∀ i, i < n → f i = true := by
  rw [List.all_eq_true]
  exact ⟨fun h i hi => h i (List.mem_range.2 hi), fun h i hi => h i (List.mem_range.1 hi)⟩
theorem valid2_iff (r : Rg) : valid2B r = true ↔ Good r := by
  unfold valid2B boundB links2B slots2B
  rw [Bool.and_eq_true, Bool.and_eq_true, decide_eq_true_eq, all_range, all_range]
  have d1 : ∀ i (h : i < r.links.length), link2B r i r.links[i] = true ↔ linkG r.now r.links[i] ∧ (i = 0 ∨ (r.links[i - 1]'(by omega)).t ≤ r.links[i].t) := fun i h => by
    unfold link2B linkG
    rw [List.getElem?_eq_getElem (by omega : i - 1 < r.links.length), Bool.and_eq_true, Bool.and_eq_true, decide_eq_true_eq]
    simp only [Option.getD_some, and_assoc]
  have d2 : ∀ i (h : i < r.slots.length), slot2B r i r.slots[i] = true ↔ slotB r.now r.slots[i] = true ∧ (i = 0 ∨ (r.slots[i - 1]'(by omega)).from_ ≤ r.slots[i].from_) ∧ ∀ j (hj : j < i), r.slots[i].fin = 0 → r.slots[j].fin = 0 → r.slots[i].layer = r.slots[j].layer → rt r.links r.slots[i].id ≠ rt r.links r.slots[j].id := fun i h => by
    unfold slot2B prevB aloneB
    rw [List.getElem?_eq_getElem (by omega : i - 1 < r.slots.length), Bool.and_eq_true, Bool.and_eq_true, List.all_eq_true, Bool.or_eq_true, decide_eq_true_eq, decide_eq_true_eq, and_assoc]
    refine and_congr Iff.rfl (and_congr Iff.rfl ⟨fun q j hj h1 h2 h3 h4 => ?_, fun q t ht => ?_⟩)
    · have := q r.slots[j] (List.mem_take_iff_getElem.2 ⟨j, by omega, rfl⟩)
      simp [h1, h2, h3, h4] at this
    · obtain ⟨j, hj, rfl⟩ := List.mem_take_iff_getElem.1 ht
      have := q j (by omega)
      rw [Bool.not_eq_true', Bool.and_eq_false_iff, Bool.and_eq_false_iff, Bool.and_eq_false_iff, decide_eq_false_iff_not, decide_eq_false_iff_not, decide_eq_false_iff_not, decide_eq_false_iff_not]
      by_cases h1 : r.slots[i].fin = 0
      · by_cases h2 : r.slots[j].fin = 0
        · by_cases h3 : r.slots[i].layer = r.slots[j].layer
          · exact .inr (this h1 h2 h3)
          · exact .inl (.inr h3)
        · exact .inl (.inl (.inr h2))
      · exact .inl (.inl (.inl h1))
  constructor
  · rintro ⟨⟨h1, h2⟩, h3⟩
    refine ⟨⟨h1.1, h1.2.1⟩, h1.2.2, fun i h => ?_, fun i h => ?_, fun i h => ?_, fun i h => ?_, fun i j h hj => ?_⟩
    · have := h2 i h; simp only [List.getElem?_eq_getElem h] at this; exact ((d1 i h).1 this).1
    · have := h2 (i + 1) h; simp only [List.getElem?_eq_getElem h] at this
      rcases ((d1 _ h).1 this).2 with q | q
      · omega
      · exact q
    · have := h3 i h; simp only [List.getElem?_eq_getElem h] at this; exact ((d2 i h).1 this).1
    · have := h3 (i + 1) h; simp only [List.getElem?_eq_getElem h] at this
      rcases ((d2 _ h).1 this).2.1 with q | q
      · omega
      · exact q
    · have := h3 i h; simp only [List.getElem?_eq_getElem h] at this; exact ((d2 i h).1 this).2.2 j hj
  · intro g
    refine ⟨⟨⟨g.now.1, g.now.2, g.len.1, g.len.2⟩, fun i h => ?_⟩, fun i h => ?_⟩
    · simp only [List.getElem?_eq_getElem h]
      refine (d1 i h).2 ⟨g.l i h, ?_⟩
      cases i with
      | zero => exact .inl rfl
      | succ i => exact .inr (g.lo i h)
    · simp only [List.getElem?_eq_getElem h]
      refine (d2 i h).2 ⟨g.s i h, ?_, fun j hj => g.alone i j h hj⟩
      cases i with
      | zero => exact .inl rfl
      | succ i => exact .inr (g.so i h)
theorem valid_same (r : Rg) : valid2B r = validB r := by
  have := (valid2_iff r).trans (valid_iff r).symm
  cases h1 : valid2B r <;> cases h2 : validB r <;> simp_all
/-- from within the list, times ascend -/
theorem Good.from_le {r : Rg} (g : Good r) : ∀ i j (h : j < r.slots.length) (hij : i ≤ j), r.slots[i].from_ ≤ r.slots[j].from_ := by
  intro i j
  induction j with
  | zero => intro h hij; have : i = 0 := by omega
            subst this; exact Int.le_refl _
  | succ j ih =>
    intro h hij
    rcases Nat.lt_or_ge i (j + 1) with h1 | h1
    · exact Int.le_trans (ih (by omega) (by omega)) (g.so j h)
    · have : i = j + 1 := by omega
      subst this; exact Int.le_refl _
end Go.Proofs.YtinpgogjkmmjpaaDoor.Sx
