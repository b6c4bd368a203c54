/- What the changes leave is valid again. No condition. -/
import Derived.Test.YtinpgogjkmmjpaaDoorSx11
set_option linter.unusedVariables false
set_option linter.unusedSimpArgs false
namespace Go.Proofs.YtinpgogjkmmjpaaDoor.Sx
open Go Go.RowKit Go.Proofs.YtinpgogjkmmjpaaDoor.Vc Go.Proofs.YtinpgogjkmmjpaaDoor.Ax Go.Proofs.YtinpgogjkmmjpaaDoor.Ky Go.Proofs.YtinpgogjkmmjpaaDoor.Id Go.Proofs.YtinpgogjkmmjpaaDoor.Sp

theorem slotB_iff {now : Int} {s : Sl} : slotB now s = true ↔ keyB s.id = true ∧ keyB s.layer = true ∧ keyB s.exp = true ∧ slotA now s := by
  unfold slotB
  simp only [Bool.and_eq_true, decide_eq_true_eq, and_assoc]
theorem slotB_now {now n' : Int} {s : Sl} (h : slotB now s = true) (hn : now ≤ n') : slotB n' s = true := by
  rw [slotB_iff] at h ⊢
  obtain ⟨h1, h2, h3, h4⟩ := h
  refine ⟨h1, h2, h3, ?_⟩
  unfold slotA at h4 ⊢
  omega
theorem linkG_now {now n' : Int} {k : Lk} (h : linkG now k) (hn : now ≤ n') : linkG n' k := by
  unfold linkG at h ⊢
  exact ⟨h.1, h.2.1, h.2.2.1, h.2.2.2.1, by have := h.2.2.2.2; omega⟩
theorem Good.at_now {r : Rg} (g : Good r) {n' : Int} (h1 : r.now ≤ n') (h2 : n' ≤ 1099511627776) : Good ⟨n', r.links, r.slots⟩ :=
  ⟨⟨by have := g.now.1; show 0 ≤ n'; omega, h2⟩, g.len, fun i h => linkG_now (g.l i h) h1, g.lo, fun i h => slotB_now (g.s i h) h1, g.so, g.alone⟩
theorem good_nil : Good rg0 := ⟨by decide, by decide, fun i h => absurd h (Nat.not_lt_zero i), fun i h => absurd h (Nat.not_lt_zero _), fun i h => absurd h (Nat.not_lt_zero i), fun i h => absurd h (Nat.not_lt_zero _), fun i j h => absurd h (Nat.not_lt_zero i)⟩
theorem Good.from_now {r : Rg} (g : Good r) (i : Nat) (h : i < r.slots.length) : r.slots[i].from_ ≤ r.now := (slotB_from (g.s i h)).2
theorem Good.add {r : Rg} (g : Good r) {id layer exp : ByteArray} {arm now : Int} (h1 : r.now ≤ now) (h2 : now ≤ 1099511627776) (k1 : keyB id = true) (k2 : keyB layer = true) (k3 : keyB exp = true) (ha : 1 ≤ arm ∧ arm ≤ 8) (hc : ¬ 0 ≤ curI r id layer) (hl : ¬ 128 ≤ r.slots.length) :
    Good ⟨now, r.links, r.slots ++ [⟨id, layer, exp, arm, now, 0, 0⟩]⟩ := by
  have g' := g.at_now h1 h2
  have hno : ∀ j (hj : j < r.slots.length), curP r.links id layer r.slots[j] = false := by
    rcases curI_spec r id layer with ⟨_, h⟩ | ⟨i, hi, e, _⟩
    · exact h
    · rw [e] at hc; omega
  have old : ∀ i (h : i < r.slots.length), (r.slots ++ [(⟨id, layer, exp, arm, now, 0, 0⟩ : Sl)])[i]'(by simp; omega) = r.slots[i] := fun i h => List.getElem_append_left h
  have new : ∀ i (h : i < (r.slots ++ [(⟨id, layer, exp, arm, now, 0, 0⟩ : Sl)]).length), ¬ i < r.slots.length → (r.slots ++ [(⟨id, layer, exp, arm, now, 0, 0⟩ : Sl)])[i] = ⟨id, layer, exp, arm, now, 0, 0⟩ := fun i h hn => by
    rw [List.getElem_append_right (by omega)]
    simp
  have hn0 := g'.now
  refine ⟨g'.now, ⟨g.len.1, by simp; omega⟩, g'.l, g.lo, fun i h => ?_, fun i h => ?_, fun i j h hj h3 h4 h5 => ?_⟩
  · by_cases hi : i < r.slots.length
    · simp only [old i hi]; exact g'.s i hi
    · simp only [new i h hi]
      exact slotB_iff.2 ⟨k1, k2, k3, ha.1, ha.2, hn0.1, Int.le_refl _, .inl ⟨rfl, rfl⟩⟩
  · have hlt : i < r.slots.length := by simp at h; omega
    simp only [old i hlt]
    by_cases hi : i + 1 < r.slots.length
    · simp only [old (i + 1) hi]; exact g.so i hi
    · simp only [new (i + 1) h hi]
      have := g.from_now i hlt
      show r.slots[i].from_ ≤ now
      omega
  · have hjl : j < r.slots.length := by simp at h; omega
    simp only [old j hjl] at h4 h5 ⊢
    by_cases hi : i < r.slots.length
    · simp only [old i hi] at h3 h5 ⊢
      exact g.alone i j hi hj h3 h4 h5
    · simp only [new i h hi] at h3 h5 ⊢
      intro q
      have := hno j hjl
      rw [curP_iff.2 ⟨h4, h5.symm, q.symm⟩] at this
      cases this
theorem Good.stop {r : Rg} (g : Good r) {x : ByteArray} {now : Int} (h1 : r.now ≤ now) (h2 : now ≤ 1099511627776) : Good ⟨now, r.links, r.slots.map (stp x now)⟩ := by
  have g' := g.at_now h1 h2
  have at_ : ∀ i (h : i < r.slots.length), (r.slots.map (stp x now))[i]'(by simpa using h) = stp x now r.slots[i] := fun i h => by simp
  have same : ∀ s : Sl, (stp x now s).id = s.id ∧ (stp x now s).layer = s.layer ∧ (stp x now s).exp = s.exp ∧ (stp x now s).from_ = s.from_ ∧ ((stp x now s).fin = 0 → s.fin = 0) := fun s => by
    unfold stp
    split
    · exact ⟨rfl, rfl, rfl, rfl, fun h => by cases h⟩
    · exact ⟨rfl, rfl, rfl, rfl, id⟩
  refine ⟨g'.now, ⟨g.len.1, by simpa using g.len.2⟩, g'.l, g.lo, fun i h => ?_, fun i h => ?_, fun i j h hj h3 h4 h5 => ?_⟩
  · have hi : i < r.slots.length := by simpa using h
    simp only [at_ i hi]
    have hs := slotB_iff.1 (g'.s i hi)
    simp only at hs
    unfold stp
    split
    · rename_i hf
      obtain ⟨a1, a2, a3, a4⟩ := hs
      unfold slotA at a4
      exact slotB_iff.2 ⟨a1, a2, a3, a4.1, a4.2.1, a4.2.2.1, a4.2.2.2.1, .inr ⟨.inl rfl, a4.2.2.2.1, Int.le_refl _⟩⟩
    · exact g'.s i hi
  · have hi : i + 1 < r.slots.length := by simpa using h
    simp only [at_ i (by omega), at_ (i + 1) hi, (same _).2.2.2.1]
    exact g.so i hi
  · have hi : i < r.slots.length := by simpa using h
    simp only [at_ i hi, at_ j (by omega)] at h3 h4 h5 ⊢
    rw [(same r.slots[i]).2.1, (same r.slots[j]).2.1] at h5
    rw [(same r.slots[i]).1, (same r.slots[j]).1]
    exact g.alone i j hi hj ((same _).2.2.2.2 h3) ((same _).2.2.2.2 h4) h5
theorem mark_same (now : Int) (s : Sl) (b : Prop) [Decidable b] : (if b then mark now s else s).id = s.id ∧ (if b then mark now s else s).layer = s.layer ∧ (if b then mark now s else s).from_ = s.from_ ∧ ((if b then mark now s else s).fin = 0 → ¬ b ∧ s.fin = 0) := by
  split
  · exact ⟨rfl, rfl, rfl, fun h => by cases h⟩
  · rename_i h; exact ⟨rfl, rfl, rfl, fun q => ⟨h, q⟩⟩
theorem Good.merge {r : Rg} (g : Good r) {a b : ByteArray} {now : Int} (h1 : r.now ≤ now) (h2 : now ≤ 1099511627776) (k1 : keyB a = true) (k2 : keyB b = true) (hab : a ≠ b) (hne : rt r.links a ≠ rt r.links b) (hl : ¬ 64 ≤ r.links.length) :
    Good ⟨now, r.links ++ [⟨a, b, now⟩], mrgL (d1 (r.links ++ [⟨a, b, now⟩]) a r.slots) now r.slots r.slots.length⟩ := by
  have g' := g.at_now h1 h2
  have hn0 := g'.now
  obtain ⟨d, hd⟩ : ∃ d, d = d1 (r.links ++ [⟨a, b, now⟩]) a r.slots := ⟨_, rfl⟩
  have at_ : ∀ i (h : i < r.slots.length), (mrgL d now r.slots r.slots.length)[i]'(by rw [mrgL_len]; exact h) = if d i = true then mark now r.slots[i] else r.slots[i] := fun i h => by
    have := mrgL_get d now r.slots r.slots.length i h
    rw [List.getElem?_eq_getElem (by rw [mrgL_len]; exact h)] at this
    injection this with this
    rw [this]
    by_cases hq : d i = true
    · rw [if_pos ⟨h, hq⟩, if_pos hq]
    · rw [if_neg (fun q => hq q.2), if_neg hq]
  rw [← hd]
  have oldL : ∀ i (h : i < r.links.length), (r.links ++ [(⟨a, b, now⟩ : Lk)])[i]'(by simp; omega) = r.links[i] := fun i h => List.getElem_append_left h
  have newL : ∀ i (h : i < (r.links ++ [(⟨a, b, now⟩ : Lk)]).length), ¬ i < r.links.length → (r.links ++ [(⟨a, b, now⟩ : Lk)])[i] = ⟨a, b, now⟩ := fun i h hn => by
    rw [List.getElem_append_right (by omega)]
    simp
  refine ⟨g'.now, ⟨by simp; omega, by rw [mrgL_len]; exact g.len.2⟩, fun i h => ?_, fun i h => ?_, fun i h => ?_, fun i h => ?_, fun i j h hj h3 h4 h5 => ?_⟩
  · by_cases hi : i < r.links.length
    · simp only [oldL i hi]; exact g'.l i hi
    · simp only [newL i h hi]; exact ⟨k1, k2, hab, hn0.1, Int.le_refl _⟩
  · have hlt : i < r.links.length := by simp at h; omega
    simp only [oldL i hlt]
    by_cases hi : i + 1 < r.links.length
    · simp only [oldL (i + 1) hi]; exact g.lo i hi
    · simp only [newL (i + 1) h hi]
      have := (g.l i hlt).2.2.2.2
      show r.links[i].t ≤ now
      omega
  · have hi : i < r.slots.length := by rw [mrgL_len] at h; exact h
    simp only [at_ i hi]
    have hs := slotB_iff.1 (g'.s i hi)
    simp only at hs
    split
    · obtain ⟨a1, a2, a3, a4⟩ := hs
      unfold slotA at a4
      exact slotB_iff.2 ⟨a1, a2, a3, a4.1, a4.2.1, a4.2.2.1, a4.2.2.2.1, .inr ⟨.inr rfl, a4.2.2.2.1, Int.le_refl _⟩⟩
    · exact g'.s i hi
  · have hi : i + 1 < r.slots.length := by rw [mrgL_len] at h; exact h
    simp only [at_ i (by omega), at_ (i + 1) hi, (mark_same now _ _).2.2.1]
    exact g.so i hi
  · have hi : i < r.slots.length := by rw [mrgL_len] at h; exact h
    have hjl : j < r.slots.length := by omega
    simp only [at_ i hi, at_ j hjl] at h3 h4 h5 ⊢
    rw [(mark_same now r.slots[i] _).2.1, (mark_same now r.slots[j] _).2.1] at h5
    rw [(mark_same now r.slots[i] _).1, (mark_same now r.slots[j] _).1]
    obtain ⟨n3, f3⟩ := (mark_same now r.slots[i] _).2.2.2 h3
    obtain ⟨n4, f4⟩ := (mark_same now r.slots[j] _).2.2.2 h4
    intro q
    have hcs := (con_snoc r.links ⟨a, b, now⟩ r.slots[i].id r.slots[j].id).1 q
    have both : (rt r.links r.slots[i].id = rt r.links a ∨ rt r.links r.slots[i].id = rt r.links b) → (rt r.links r.slots[j].id = rt r.links a ∨ rt r.links r.slots[j].id = rt r.links b) → False := fun q1 q2 => n3 (by
      rw [hd, d1_at hi, (mP_snoc hne).2 ⟨f3, q1⟩, Bool.true_and]
      unfold heldB
      rw [List.any_eq_true]
      exact ⟨r.slots[j], List.mem_take_iff_getElem.2 ⟨j, by omega, rfl⟩, by rw [Bool.and_eq_true, decide_eq_true_eq]; exact ⟨(mP_snoc hne).2 ⟨f4, q2⟩, h5.symm⟩⟩)
    rcases hcs with hcs | hcs | hcs
    · exact g.alone i j hi hj f3 f4 h5 hcs
    · exact both (.inl hcs.1) (.inr hcs.2)
    · exact both (.inr hcs.1) (.inl hcs.2)
/-- the merged register of both -/
theorem mrgR_same {r : Rg} {a b : ByteArray} {now e : Int} {kb : Bool} (h : e = 0 → Good r) : mrgR e kb r a b now (d2 r a b) = mrgR e kb r a b now (d1 (r.links ++ [⟨a, b, now⟩]) a r.slots) := by
  unfold mrgR
  by_cases he : e ≠ 0
  · rw [if_pos he, if_pos he]
  rw [if_neg he, if_neg he]
  have g := h (by simpa using he)
  cases kb
  · rfl
  by_cases hab : a = b
  · rw [if_pos hab, if_pos hab]
  rw [if_neg hab, if_neg hab]
  by_cases hne : rt r.links a = rt r.links b
  · rw [if_pos hne, if_pos hne]
  rw [if_neg hne, if_neg hne]
  by_cases hl : 64 ≤ r.links.length
  · rw [if_pos hl, if_pos hl]
  rw [if_neg hl, if_neg hl, mrgL_congr now r.slots r.slots.length fun i _ h2 => merge_same (now := now) g hne i h2, mrgE_congr now r.slots r.slots.length fun i h2 => merge_same (now := now) g hne i h2]
end Go.Proofs.YtinpgogjkmmjpaaDoor.Sx
