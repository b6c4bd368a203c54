/- What Merge does, told plainly: which slots end. No condition. -/
import Derived.Test.YtinpgogjkmmjpaaDoorPl1
import Derived.Test.YtinpgogjkmmjpaaDoorSx5
namespace Go.Proofs.YtinpgogjkmmjpaaDoor.Sx
open Go Go.RowKit Go.Proofs.YtinpgogjkmmjpaaDoor.Vc Go.Proofs.YtinpgogjkmmjpaaDoor.Ax Go.Proofs.YtinpgogjkmmjpaaDoor.Ky Go.Proofs.YtinpgogjkmmjpaaDoor.Id Go.Proofs.YtinpgogjkmmjpaaDoor.Sp

def mark (now : Int) (s : Sl) : Sl := { s with to_ := now, fin := 2 }
/-- the slots behind k rounds, when d tells which of them end -/
def mrgL (d : Nat → Bool) (now : Int) (l : List Sl) (k : Nat) : List Sl := l.mapIdx fun i s => if i < k ∧ d i = true then mark now s else s
/-- what ended by then -/
def mrgE (d : Nat → Bool) (now : Int) (l : List Sl) (k : Nat) : List Sl := ((List.range k).filter d).map fun i => mark now (l.getD i sl0)
theorem mrgL_len (d : Nat → Bool) (now : Int) (l : List Sl) (k : Nat) : (mrgL d now l k).length = l.length := by unfold mrgL; simp
theorem mrgL_get (d : Nat → Bool) (now : Int) (l : List Sl) (k i : Nat) (h : i < l.length) : (mrgL d now l k)[i]? = some (if i < k ∧ d i = true then mark now l[i] else l[i]) := by
  unfold mrgL
  rw [List.getElem?_mapIdx, List.getElem?_eq_getElem h]; rfl
theorem mrgL_at (d : Nat → Bool) (now : Int) (l : List Sl) (k : Nat) (h : k < l.length) : (mrgL d now l k)[k]? = some l[k] := by
  rw [mrgL_get _ _ _ _ _ h, if_neg (fun q => Nat.lt_irrefl _ q.1)]
theorem mrgL_0 (d : Nat → Bool) (now : Int) (l : List Sl) : mrgL d now l 0 = l := by
  refine List.ext_getElem? fun i => ?_
  rcases Nat.lt_or_ge i l.length with h | h
  · rw [mrgL_get _ _ _ _ _ h, if_neg (fun q => absurd q.1 (Nat.not_lt_zero _)), List.getElem?_eq_getElem h]
  · rw [List.getElem?_eq_none (by rw [mrgL_len]; exact h), List.getElem?_eq_none h]
theorem mrgL_yes (d : Nat → Bool) (now : Int) (l : List Sl) (k : Nat) (h : k < l.length) (hd : d k = true) : mrgL d now l (k + 1) = (mrgL d now l k).set k (mark now l[k]) := by
  refine List.ext_getElem? fun i => ?_
  rw [List.getElem?_set]
  rcases Nat.lt_or_ge i l.length with hi | hi
  · rw [mrgL_get _ _ _ _ _ hi, mrgL_get _ _ _ _ _ hi, mrgL_len]
    by_cases e : k = i
    · subst e; rw [if_pos ⟨by omega, hd⟩, if_pos rfl, if_pos h]
    · rw [if_neg e]
      by_cases h2 : i < k
      · by_cases h3 : d i = true
        · rw [if_pos ⟨by omega, h3⟩, if_pos ⟨h2, h3⟩]
        · rw [if_neg (fun q => h3 q.2), if_neg (fun q => h3 q.2)]
      · rw [if_neg (fun q => by omega), if_neg (fun q => h2 q.1)]
  · rw [List.getElem?_eq_none (by rw [mrgL_len]; exact hi), if_neg (by omega), List.getElem?_eq_none (by rw [mrgL_len]; exact hi)]
theorem mrgL_no (d : Nat → Bool) (now : Int) (l : List Sl) (k : Nat) (h : k < l.length) (hd : d k = false) : mrgL d now l (k + 1) = mrgL d now l k := by
  refine List.ext_getElem? fun i => ?_
  rcases Nat.lt_or_ge i l.length with hi | hi
  · rw [mrgL_get _ _ _ _ _ hi, mrgL_get _ _ _ _ _ hi]
    by_cases e : k = i
    · subst e; rw [if_neg (fun q => by rw [hd] at q; cases q.2), if_neg (fun q => by rw [hd] at q; cases q.2)]
    · by_cases h2 : i < k
      · by_cases h3 : d i = true
        · rw [if_pos ⟨by omega, h3⟩, if_pos ⟨h2, h3⟩]
        · rw [if_neg (fun q => h3 q.2), if_neg (fun q => h3 q.2)]
      · rw [if_neg (fun q => by omega), if_neg (fun q => h2 q.1)]
  · rw [List.getElem?_eq_none (by rw [mrgL_len]; exact hi), List.getElem?_eq_none (by rw [mrgL_len]; exact hi)]
theorem mrgE_yes (d : Nat → Bool) (now : Int) (l : List Sl) (k : Nat) (h : k < l.length) (hd : d k = true) : mrgE d now l (k + 1) = mrgE d now l k ++ [mark now l[k]] := by
  unfold mrgE
  rw [List.range_succ, List.filter_append, List.map_append]
  simp [hd, List.getElem?_eq_getElem h]
theorem mrgE_no (d : Nat → Bool) (now : Int) (l : List Sl) (k : Nat) (hd : d k = false) : mrgE d now l (k + 1) = mrgE d now l k := by
  unfold mrgE
  rw [List.range_succ, List.filter_append, List.map_append]
  simp [hd]
theorem mrgE_len (d : Nat → Bool) (now : Int) (l : List Sl) (k : Nat) : (mrgE d now l k).length ≤ k := by
  unfold mrgE
  rw [List.length_map]
  exact Nat.le_trans (List.length_filter_le _ _) (by rw [List.length_range]; exact Nat.le_refl _)
theorem mrgL_congr {d e : Nat → Bool} (now : Int) (l : List Sl) (k : Nat) (h : ∀ i, i < k → i < l.length → d i = e i) : mrgL d now l k = mrgL e now l k := by
  refine List.ext_getElem? fun i => ?_
  rcases Nat.lt_or_ge i l.length with hi | hi
  · rw [mrgL_get _ _ _ _ _ hi, mrgL_get _ _ _ _ _ hi]
    by_cases h2 : i < k
    · rw [h i h2 hi]
    · rw [if_neg (fun q => h2 q.1), if_neg (fun q => h2 q.1)]
  · rw [List.getElem?_eq_none (by rw [mrgL_len]; exact hi), List.getElem?_eq_none (by rw [mrgL_len]; exact hi)]
theorem mrgE_congr {d e : Nat → Bool} (now : Int) (l : List Sl) (k : Nat) (h : ∀ i, i < k → d i = e i) : mrgE d now l k = mrgE e now l k := by
  unfold mrgE
  rw [List.filter_congr fun i hi => h i (List.mem_range.1 hi)]

/-- the program: open and of the joined component, behind another such slot of the layer -/
def mP (ls : List Lk) (a : ByteArray) (s : Sl) : Bool := decide (s.fin = 0) && decide (rt ls s.id = rt ls a)
def heldB (ls : List Lk) (a : ByteArray) (l : List Sl) (y : ByteArray) : Bool := l.any fun t => mP ls a t && decide (t.layer = y)
def d1 (ls : List Lk) (a : ByteArray) (l : List Sl) (i : Nat) : Bool := match l[i]? with | some s => mP ls a s && heldB ls a (l.take i) s.layer | none => false
theorem d1_at {ls : List Lk} {a : ByteArray} {l : List Sl} {i : Nat} (h : i < l.length) : d1 ls a l i = (mP ls a l[i] && heldB ls a (l.take i) l[i].layer) := by
  unfold d1; rw [List.getElem?_eq_getElem h]
theorem heldB_succ {ls : List Lk} {a : ByteArray} {l : List Sl} {i : Nat} (h : i < l.length) (y : ByteArray) : heldB ls a (l.take (i + 1)) y = (heldB ls a (l.take i) y || (mP ls a l[i] && decide (l[i].layer = y))) := by
  unfold heldB
  rw [List.take_succ_eq_append_getElem h, List.any_append]
  simp
/-- the reference: open, and the open slot of the other one is older -/
def oth (r : Rg) (a b : ByteArray) (s : Sl) : Int := if rt r.links s.id = rt r.links a then curI r b s.layer else if rt r.links s.id = rt r.links b then curI r a s.layer else -1
def d2 (r : Rg) (a b : ByteArray) (i : Nat) : Bool := match r.slots[i]? with
  | some s => decide (s.fin = 0) && decide (0 ≤ oth r a b s) && !(decide (s.from_ < (r.slots.getD (oth r a b s).toNat sl0).from_) || (decide (s.from_ = (r.slots.getD (oth r a b s).toNat sl0).from_) && decide ((i : Int) < oth r a b s)))
  | none => false
theorem d2_at {r : Rg} {a b : ByteArray} {i : Nat} (h : i < r.slots.length) : d2 r a b i = (decide (r.slots[i].fin = 0) && decide (0 ≤ oth r a b r.slots[i]) && !(decide (r.slots[i].from_ < (r.slots.getD (oth r a b r.slots[i]).toNat sl0).from_) || (decide (r.slots[i].from_ = (r.slots.getD (oth r a b r.slots[i]).toNat sl0).from_) && decide ((i : Int) < oth r a b r.slots[i])))) := by
  unfold d2; rw [List.getElem?_eq_getElem h]
/-- what curI says -/
theorem curI_spec (r : Rg) (id layer : ByteArray) : (curI r id layer = -1 ∧ ∀ j (hj : j < r.slots.length), curP r.links id layer r.slots[j] = false) ∨
    ∃ i, ∃ h : i < r.slots.length, curI r id layer = (i : Int) ∧ curP r.links id layer r.slots[i] = true ∧ ∀ j (hj : j < i), curP r.links id layer (r.slots[j]'(by omega)) = false := by
  unfold curI
  cases h : r.slots.findIdx? (curP r.links id layer) with
  | none =>
    refine .inl ⟨rfl, fun j hj => ?_⟩
    exact List.findIdx?_eq_none_iff.1 h _ (List.getElem_mem hj)
  | some i =>
    obtain ⟨h1, h2, h3⟩ := List.findIdx?_eq_some_iff_getElem.1 h
    exact .inr ⟨i, h1, rfl, h2, fun j hj => by have := h3 j hj; simpa using this⟩
theorem curP_iff {ls : List Lk} {id layer : ByteArray} {s : Sl} : curP ls id layer s = true ↔ s.fin = 0 ∧ s.layer = layer ∧ rt ls s.id = rt ls id := by
  unfold curP
  simp only [Bool.and_eq_true, decide_eq_true_eq, and_assoc]
theorem mP_iff {ls : List Lk} {a : ByteArray} {s : Sl} : mP ls a s = true ↔ s.fin = 0 ∧ rt ls s.id = rt ls a := by
  unfold mP
  simp only [Bool.and_eq_true, decide_eq_true_eq]
theorem mP_snoc {ls : List Lk} {a b : ByteArray} {now : Int} {s : Sl} (hne : rt ls a ≠ rt ls b) : mP (ls ++ [⟨a, b, now⟩]) a s = true ↔ s.fin = 0 ∧ (rt ls s.id = rt ls a ∨ rt ls s.id = rt ls b) := by
  rw [mP_iff]
  have := con_snoc ls ⟨a, b, now⟩ s.id a
  unfold con at this
  rw [this]
  refine and_congr Iff.rfl ⟨fun h => ?_, fun h => ?_⟩
  · rcases h with h | h | h
    · exact .inl h
    · exact .inl h.1
    · exact .inr h.1
  · rcases h with h | h
    · exact .inl h
    · exact .inr (.inr ⟨h, rfl⟩)
/-- an open slot of the layer in the component is the one that curI finds -/
theorem Good.cur_uniq {r : Rg} (g : Good r) {id : ByteArray} {i : Nat} (h : i < r.slots.length) (hf : r.slots[i].fin = 0) (hr : rt r.links r.slots[i].id = rt r.links id) : curI r id r.slots[i].layer = i := by
  rcases curI_spec r id r.slots[i].layer with ⟨_, h2⟩ | ⟨k, hk, h1, h2, h3⟩
  · have := h2 i h
    rw [curP_iff.2 ⟨hf, rfl, hr⟩] at this; cases this
  · obtain ⟨q1, q2, q3⟩ := curP_iff.1 h2
    have : k = i := by
      rcases Nat.lt_trichotomy k i with h4 | h4 | h4
      · exact absurd (hr.trans q3.symm) (g.alone i k h h4 hf q1 q2.symm)
      · exact h4
      · exact absurd (q3.trans hr.symm) (g.alone k i hk h4 q1 hf q2)
    rw [h1, this]
theorem merge_same {r : Rg} (g : Good r) {a b : ByteArray} {now : Int} (hne : rt r.links a ≠ rt r.links b) (i : Nat) (h : i < r.slots.length) : d1 (r.links ++ [⟨a, b, now⟩]) a r.slots i = d2 r a b i := by
  rw [d1_at h, d2_at h]
  obtain ⟨s, hs⟩ : ∃ s, s = r.slots[i] := ⟨_, rfl⟩
  by_cases hf : r.slots[i].fin = 0
  rotate_left 1
  · have : mP (r.links ++ [⟨a, b, now⟩]) a r.slots[i] = false := by
      cases hq : mP (r.links ++ [⟨a, b, now⟩]) a r.slots[i] with
      | false => rfl
      | true => exact absurd (mP_iff.1 hq).1 hf
    rw [this, decide_eq_false hf]; rfl
  -- the two components alike
  have key : ∀ x y : ByteArray, rt r.links r.slots[i].id = rt r.links x → rt r.links x ≠ rt r.links y → (∀ t : Sl, mP (r.links ++ [⟨a, b, now⟩]) a t = true ↔ t.fin = 0 ∧ (rt r.links t.id = rt r.links x ∨ rt r.links t.id = rt r.links y)) → oth r a b r.slots[i] = curI r y r.slots[i].layer →
      (mP (r.links ++ [⟨a, b, now⟩]) a r.slots[i] && heldB (r.links ++ [⟨a, b, now⟩]) a (r.slots.take i) r.slots[i].layer) = (decide (r.slots[i].fin = 0) && decide (0 ≤ oth r a b r.slots[i]) && !(decide (r.slots[i].from_ < (r.slots.getD (oth r a b r.slots[i]).toNat sl0).from_) || (decide (r.slots[i].from_ = (r.slots.getD (oth r a b r.slots[i]).toNat sl0).from_) && decide ((i : Int) < oth r a b r.slots[i])))) := by
    intro x y hx hxy hm ho
    rw [(hm _).2 ⟨hf, .inl hx⟩, ho, decide_eq_true hf, Bool.true_and, Bool.true_and]
    rcases curI_spec r y r.slots[i].layer with ⟨h1, h2⟩ | ⟨k, hk, h1, h2, h3⟩
    · rw [h1]
      have : heldB (r.links ++ [⟨a, b, now⟩]) a (r.slots.take i) r.slots[i].layer = false := by
        unfold heldB
        rw [List.any_eq_false]
        intro t ht
        obtain ⟨j, hj, rfl⟩ := List.mem_take_iff_getElem.1 ht
        intro q
        rw [Bool.and_eq_true, decide_eq_true_eq, hm] at q
        obtain ⟨⟨q1, q2⟩, q3⟩ := q
        rcases q2 with q2 | q2
        · exact g.alone i j h (by omega) hf q1 q3.symm (hx.trans q2.symm)
        · have := h2 j (by omega)
          rw [curP_iff.2 ⟨q1, q3, q2⟩] at this; cases this
      rw [this]; rfl
    · obtain ⟨q1, q2, q3⟩ := curP_iff.1 h2
      rw [h1]
      have e0 : r.slots.getD (k : Int).toNat sl0 = r.slots[k] := by simp [List.getD, List.getElem?_eq_getElem hk]
      rw [e0]
      have hki : k ≠ i := fun e => by
        subst e
        exact hxy (hx.symm.trans q3)
      rcases Nat.lt_or_ge k i with h4 | h4
      · have : heldB (r.links ++ [⟨a, b, now⟩]) a (r.slots.take i) r.slots[i].layer = true := by
          unfold heldB
          rw [List.any_eq_true]
          exact ⟨r.slots[k], List.mem_take_iff_getElem.2 ⟨k, by omega, rfl⟩, by rw [Bool.and_eq_true, decide_eq_true_eq, hm]; exact ⟨⟨q1, .inr q3⟩, q2⟩⟩
        rw [this]
        have hle := g.from_le k i h (by omega)
        rw [decide_eq_true (by omega : (0 : Int) ≤ k), decide_eq_false (by omega : ¬ r.slots[i].from_ < r.slots[k].from_), decide_eq_false (by omega : ¬ ((i : Int) < k)), Bool.and_false]; rfl
      · have : heldB (r.links ++ [⟨a, b, now⟩]) a (r.slots.take i) r.slots[i].layer = false := by
          unfold heldB
          rw [List.any_eq_false]
          intro t ht
          obtain ⟨j, hj, rfl⟩ := List.mem_take_iff_getElem.1 ht
          intro q
          rw [Bool.and_eq_true, decide_eq_true_eq, hm] at q
          obtain ⟨⟨p1, p2⟩, p3⟩ := q
          rcases p2 with p2 | p2
          · exact g.alone i j h (by omega) hf p1 p3.symm (hx.trans p2.symm)
          · have := h3 j (by omega)
            rw [curP_iff.2 ⟨p1, p3, p2⟩] at this; cases this
        rw [this]
        have hle := g.from_le i k hk h4
        rcases Int.lt_or_le r.slots[i].from_ r.slots[k].from_ with h5 | h5
        · rw [decide_eq_true h5]; simp
        · rw [decide_eq_true (by omega : r.slots[i].from_ = r.slots[k].from_), decide_eq_true (by omega : (i : Int) < k)]; simp
  by_cases ha : rt r.links r.slots[i].id = rt r.links a
  · exact key a b ha hne (fun t => mP_snoc hne) (by unfold oth; rw [if_pos ha])
  · by_cases hb : rt r.links r.slots[i].id = rt r.links b
    · exact key b a hb (Ne.symm hne) (fun t => by rw [mP_snoc hne]; exact and_congr Iff.rfl or_comm) (by unfold oth; rw [if_neg ha, if_pos hb])
    · have e1 : mP (r.links ++ [⟨a, b, now⟩]) a r.slots[i] = false := by
        cases hq : mP (r.links ++ [⟨a, b, now⟩]) a r.slots[i] with
        | false => rfl
        | true => exact absurd ((mP_snoc hne).1 hq).2 (fun q => q.elim ha hb)
      have e2 : oth r a b r.slots[i] = -1 := by unfold oth; rw [if_neg ha, if_neg hb]
      rw [e1, e2]
      simp
end Go.Proofs.YtinpgogjkmmjpaaDoor.Sx
