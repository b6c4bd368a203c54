/- What Merge leaves to each layer, told plainly. No condition. -/
import Derived.Test.YtinpgogjkmmjpaaDoorSx15
set_option linter.unusedVariables false
set_option linter.unusedSimpArgs false
namespace Go.Proofs.YtinpgogjkmmjpaaDoor.Sx
open Go Go.RowKit Go.Proofs.YtinpgogjkmmjpaaDoor.Vc Go.Proofs.YtinpgogjkmmjpaaDoor.Ax Go.Proofs.YtinpgogjkmmjpaaDoor.Ky Go.Proofs.YtinpgogjkmmjpaaDoor.Id Go.Proofs.YtinpgogjkmmjpaaDoor.Sp

/-- slot k is open, of the layer, and of the component of the id -/
def isP (r : Rg) (id y : ByteArray) (k : Nat) : Prop := ∃ h : k < r.slots.length, r.slots[k].fin = 0 ∧ r.slots[k].layer = y ∧ rt r.links r.slots[k].id = rt r.links id
theorem isP_uniq {r : Rg} (g : Good r) {id y : ByteArray} {i k : Nat} (h1 : isP r id y i) (h2 : isP r id y k) : i = k := by
  obtain ⟨hi, a1, a2, a3⟩ := h1
  obtain ⟨hk, b1, b2, b3⟩ := h2
  rcases Nat.lt_trichotomy i k with h | h | h
  · exact absurd (b3.trans a3.symm) (g.alone k i hk h b1 a1 (b2.trans a2.symm))
  · exact h
  · exact absurd (a3.trans b3.symm) (g.alone i k hi h a1 b1 (a2.trans b2.symm))
theorem cur_idx (r : Rg) (id y : ByteArray) : (curO r id y = none ∧ ∀ k, ¬ isP r id y k) ∨ ∃ i, isP r id y i ∧ curO r id y = r.slots[i]? := by
  rcases curI_spec r id y with ⟨_, h⟩ | ⟨i, hi, _, h, hj⟩
  · refine .inl ⟨?_, fun k ⟨hk, a1, a2, a3⟩ => ?_⟩
    · unfold curO
      have : r.slots.findIdx? (curP r.links id y) = none := by
        rw [List.findIdx?_eq_none_iff]
        intro x hx
        obtain ⟨j, hj, rfl⟩ := List.getElem_of_mem hx
        exact h j hj
      rw [this]
    · have := h k hk
      rw [curP_iff.2 ⟨a1, a2, a3⟩] at this; cases this
  · obtain ⟨a1, a2, a3⟩ := curP_iff.1 h
    refine .inr ⟨i, ⟨hi, a1, a2, a3⟩, ?_⟩
    unfold curO
    have : r.slots.findIdx? (curP r.links id y) = some i := by
      rw [List.findIdx?_eq_some_iff_getElem]
      exact ⟨hi, h, fun j hj' => by rw [hj j hj']; simp⟩
    rw [this]
theorem cur_some {r : Rg} (g : Good r) {id y : ByteArray} {i : Nat} (h : isP r id y i) : curO r id y = r.slots[i]? := by
  rcases cur_idx r id y with ⟨_, h2⟩ | ⟨k, hk, e⟩
  · exact absurd h (h2 i)
  · rw [e, isP_uniq g hk h]
theorem cur_none {r : Rg} {id y : ByteArray} (h : ∀ k, ¬ isP r id y k) : curO r id y = none := by
  rcases cur_idx r id y with ⟨e, _⟩ | ⟨k, hk, _⟩
  · exact e
  · exact absurd hk (h k)
theorem cur_congr {r : Rg} (g : Good r) {a b y : ByteArray} (h : rt r.links a = rt r.links b) : curO r a y = curO r b y := by
  have key : ∀ k, isP r a y k ↔ isP r b y k := fun k => by unfold isP; rw [h]
  rcases cur_idx r a y with ⟨e, h2⟩ | ⟨k, hk, e⟩
  · rw [e, cur_none fun k hk => h2 k ((key k).2 hk)]
  · rw [e, cur_some g ((key k).1 hk)]
theorem count_eq (M : Nat) : ∀ n : Nat, (List.range n).countP (fun k => k == M) = if M < n then 1 else 0 := by
  intro n
  induction n with
  | zero => simp
  | succ n ih =>
    rw [List.range_succ, List.countP_append, ih, List.countP_cons, List.countP_nil]
    simp only [beq_iff_eq]
    split <;> split <;> split <;> omega
theorem count_one {p : Nat → Bool} {n M : Nat} (hM : M < n) (h : ∀ k, k < n → (p k = true ↔ k = M)) : (List.range n).countP p = 1 := by
  have e : (List.range n).countP p = (List.range n).countP (fun k => k == M) := List.countP_congr fun k hk => by
    rw [h k (List.mem_range.1 hk)]; simp
  rw [e, count_eq, if_pos hM]
section
variable {r : Rg} (g : Good r) {a b : ByteArray} (hne : rt r.links a ≠ rt r.links b) (hq : Good ⟨r.now, r.links ++ [⟨a, b, r.now⟩], mrgL (d1 (r.links ++ [⟨a, b, r.now⟩]) a r.slots) r.now r.slots r.slots.length⟩)
abbrev lsQ (r : Rg) (a b : ByteArray) : List Lk := r.links ++ [⟨a, b, r.now⟩]
abbrev rgQ (r : Rg) (a b : ByteArray) : Rg := ⟨r.now, lsQ r a b, mrgL (d1 (lsQ r a b) a r.slots) r.now r.slots r.slots.length⟩
include g hne
theorem ends_iff (k : Nat) (y : ByteArray) : (d1 (lsQ r a b) a r.slots k = true ∧ ∃ h : k < r.slots.length, r.slots[k].layer = y) ↔ ∃ i j, isP r a y i ∧ isP r b y j ∧ k = max i j := by
  constructor
  · rintro ⟨hd, hk, rfl⟩
    rw [d1_at hk, Bool.and_eq_true, mP_snoc hne] at hd
    obtain ⟨⟨f1, c1⟩, hh⟩ := hd
    unfold heldB at hh
    rw [List.any_eq_true] at hh
    obtain ⟨t, ht, hh⟩ := hh
    obtain ⟨j, hj, rfl⟩ := List.mem_take_iff_getElem.1 ht
    rw [Bool.and_eq_true, mP_snoc hne, decide_eq_true_eq] at hh
    obtain ⟨⟨f2, c2⟩, l2⟩ := hh
    have hjk : j < k := by omega
    have dif : rt r.links r.slots[k].id ≠ rt r.links r.slots[j].id := g.alone k j hk hjk f1 f2 l2.symm
    rcases c1 with c1 | c1 <;> rcases c2 with c2 | c2
    · exact absurd (c1.trans c2.symm) dif
    · exact ⟨k, j, ⟨hk, f1, rfl, c1⟩, ⟨by omega, f2, l2, c2⟩, by omega⟩
    · exact ⟨j, k, ⟨by omega, f2, l2, c2⟩, ⟨hk, f1, rfl, c1⟩, by omega⟩
    · exact absurd (c1.trans c2.symm) dif
  · rintro ⟨i, j, ⟨hi, a1, a2, a3⟩, ⟨hj, b1, b2, b3⟩, rfl⟩
    have hij : i ≠ j := fun e => by subst e; exact hne (a3.symm.trans b3)
    rcases Nat.lt_or_ge i j with h | h
    · have e : max i j = j := by omega
      rw [e]
      refine ⟨?_, hj, b2⟩
      rw [d1_at hj, Bool.and_eq_true, mP_snoc hne]
      refine ⟨⟨b1, .inr b3⟩, ?_⟩
      unfold heldB
      rw [List.any_eq_true]
      exact ⟨r.slots[i], List.mem_take_iff_getElem.2 ⟨i, by omega, rfl⟩, by rw [Bool.and_eq_true, mP_snoc hne, decide_eq_true_eq]; exact ⟨⟨a1, .inl a3⟩, a2.trans b2.symm⟩⟩
    · have e : max i j = i := by omega
      rw [e]
      refine ⟨?_, hi, a2⟩
      rw [d1_at hi, Bool.and_eq_true, mP_snoc hne]
      refine ⟨⟨a1, .inl a3⟩, ?_⟩
      unfold heldB
      rw [List.any_eq_true]
      exact ⟨r.slots[j], List.mem_take_iff_getElem.2 ⟨j, by omega, rfl⟩, by rw [Bool.and_eq_true, mP_snoc hne, decide_eq_true_eq]; exact ⟨⟨b1, .inr b3⟩, b2.trans a2.symm⟩⟩
omit g hne in
theorem isQ_iff (y : ByteArray) (k : Nat) : isP (rgQ r a b) a y k ↔ d1 (lsQ r a b) a r.slots k = false ∧ (isP r a y k ∨ isP r b y k) := by
  have hat : ∀ (h : k < r.slots.length), (rgQ r a b).slots[k]? = some (if d1 (lsQ r a b) a r.slots k = true then mark r.now r.slots[k] else r.slots[k]) := fun h => by
    rw [mrgL_get _ _ _ _ _ h]
    by_cases hd : d1 (lsQ r a b) a r.slots k = true
    · rw [if_pos ⟨h, hd⟩, if_pos hd]
    · rw [if_neg (fun q => hd q.2), if_neg hd]
  constructor
  · rintro ⟨hk, c1, c2, c3⟩
    have hkr : k < r.slots.length := by rw [mrgL_len] at hk; exact hk
    have e := hat hkr
    rw [List.getElem?_eq_getElem hk] at e
    injection e with e
    rw [e] at c1 c2 c3
    cases hd : d1 (lsQ r a b) a r.slots k with
    | true => rw [if_pos hd] at c1; cases c1
    | false =>
      rw [if_neg (by rw [hd]; simp)] at c1 c2 c3
      have := (con_snoc r.links ⟨a, b, r.now⟩ r.slots[k].id a).1 c3
      refine ⟨rfl, ?_⟩
      rcases this with h | h | h
      · exact .inl ⟨hkr, c1, c2, h⟩
      · exact .inl ⟨hkr, c1, c2, h.1⟩
      · exact .inr ⟨hkr, c1, c2, h.1⟩
  · rintro ⟨hd, h⟩
    obtain ⟨hkr, c1, c2, c3⟩ : ∃ h : k < r.slots.length, r.slots[k].fin = 0 ∧ r.slots[k].layer = y ∧ (rt r.links r.slots[k].id = rt r.links a ∨ rt r.links r.slots[k].id = rt r.links b) := by
      rcases h with ⟨h, a1, a2, a3⟩ | ⟨h, a1, a2, a3⟩
      · exact ⟨h, a1, a2, .inl a3⟩
      · exact ⟨h, a1, a2, .inr a3⟩
    have hk : k < (rgQ r a b).slots.length := by rw [mrgL_len]; exact hkr
    have e := hat hkr
    rw [List.getElem?_eq_getElem hk, if_neg (by rw [hd]; simp)] at e
    injection e with e
    refine ⟨hk, by rw [e]; exact c1, by rw [e]; exact c2, ?_⟩
    rw [e]
    refine (con_snoc r.links ⟨a, b, r.now⟩ r.slots[k].id a).2 ?_
    rcases c3 with c3 | c3
    · exact .inl c3
    · exact .inr (.inr ⟨c3, rfl⟩)
omit g hne in
theorem slot_keep {k : Nat} (h : k < r.slots.length) (hd : d1 (lsQ r a b) a r.slots k = false) : (rgQ r a b).slots[k]? = some r.slots[k] := by
  rw [mrgL_get _ _ _ _ _ h, if_neg (fun q => by rw [hd] at q; cases q.2)]
include hq
theorem merge_layer (y : ByteArray) : curO (rgQ r a b) b y = curO (rgQ r a b) a y ∧
    (match curO r a y, curO r b y with
    | none, none => curO (rgQ r a b) a y = none
    | some s, none => curO (rgQ r a b) a y = some s
    | none, some t => curO (rgQ r a b) a y = some t
    | some s, some t => s ≠ t ∧ ∃ u, curO (rgQ r a b) a y = some u ∧ (u = s ∨ u = t) ∧ u.from_ = min s.from_ t.from_) := by
  have hab : rt (rgQ r a b).links b = rt (rgQ r a b).links a := (con_snoc r.links ⟨a, b, r.now⟩ b a).2 (.inr (.inr ⟨rfl, rfl⟩))
  refine ⟨cur_congr hq hab, ?_⟩
  rcases cur_idx r a y with ⟨e1, h1⟩ | ⟨i, hi, e1⟩ <;> rcases cur_idx r b y with ⟨e2, h2⟩ | ⟨j, hj, e2⟩
  · rw [e1, e2]
    exact cur_none fun k hk => (((isQ_iff y k).1 hk).2).elim (h1 k) (h2 k)
  · obtain ⟨hjl, _⟩ := id hj
    rw [e1, e2, List.getElem?_eq_getElem hjl]
    have hd : d1 (lsQ r a b) a r.slots j = false := by
      cases hd : d1 (lsQ r a b) a r.slots j with
      | false => rfl
      | true =>
        obtain ⟨i', _, hi', _⟩ := (ends_iff g hne j y).1 ⟨hd, hjl, hj.2.2.1⟩
        exact absurd hi' (h1 i')
    show curO (rgQ r a b) a y = some r.slots[j]
    rw [cur_some hq ((isQ_iff y j).2 ⟨hd, .inr hj⟩), slot_keep hjl hd]
  · obtain ⟨hil, _⟩ := id hi
    rw [e1, e2, List.getElem?_eq_getElem hil]
    have hd : d1 (lsQ r a b) a r.slots i = false := by
      cases hd : d1 (lsQ r a b) a r.slots i with
      | false => rfl
      | true =>
        obtain ⟨_, j', _, hj', _⟩ := (ends_iff g hne i y).1 ⟨hd, hil, hi.2.2.1⟩
        exact absurd hj' (h2 j')
    show curO (rgQ r a b) a y = some r.slots[i]
    rw [cur_some hq ((isQ_iff y i).2 ⟨hd, .inl hi⟩), slot_keep hil hd]
  · obtain ⟨hil, a1, a2, a3⟩ := id hi
    obtain ⟨hjl, b1, b2, b3⟩ := id hj
    rw [e1, e2, List.getElem?_eq_getElem hil, List.getElem?_eq_getElem hjl]
    have hij : i ≠ j := fun e => by subst e; exact hne (a3.symm.trans b3)
    have hst : r.slots[i] ≠ r.slots[j] := fun e => hne (by rw [← a3, ← b3, e])
    have hd : d1 (lsQ r a b) a r.slots (min i j) = false := by
      cases hd : d1 (lsQ r a b) a r.slots (min i j) with
      | false => rfl
      | true =>
        have hl : ∃ h : min i j < r.slots.length, r.slots[min i j].layer = y := by
          rcases Nat.lt_or_ge i j with h | h
          · have e : min i j = i := by omega
            simp only [e]; exact ⟨hil, a2⟩
          · have e : min i j = j := by omega
            simp only [e]; exact ⟨hjl, b2⟩
        obtain ⟨i', j', hi', hj', e⟩ := (ends_iff g hne _ y).1 ⟨hd, hl⟩
        have := isP_uniq g hi hi'
        have := isP_uniq g hj hj'
        omega
    refine ⟨hst, ?_⟩
    rcases Nat.lt_or_ge i j with h | h
    · have e : min i j = i := by omega
      rw [e] at hd
      refine ⟨r.slots[i], ?_, .inl rfl, ?_⟩
      · rw [cur_some hq ((isQ_iff y i).2 ⟨hd, .inl hi⟩), slot_keep hil hd]
      · have := g.from_le i j hjl (by omega); omega
    · have e : min i j = j := by omega
      rw [e] at hd
      refine ⟨r.slots[j], ?_, .inr rfl, ?_⟩
      · rw [cur_some hq ((isQ_iff y j).2 ⟨hd, .inr hj⟩), slot_keep hjl hd]
      · have := g.from_le j i hil (by omega); omega
omit hq
def cntY (r : Rg) (a b y : ByteArray) : Nat := if (curO r a y).isSome = true ∧ (curO r b y).isSome = true then 1 else 0
theorem count_layer (y : ByteArray) : (List.range r.slots.length).countP (fun k => d1 (lsQ r a b) a r.slots k && decide ((r.slots.getD k sl0).layer = y)) = cntY r a b y := by
  have hp : ∀ k, k < r.slots.length → ((d1 (lsQ r a b) a r.slots k && decide ((r.slots.getD k sl0).layer = y)) = true ↔ ∃ i j, isP r a y i ∧ isP r b y j ∧ k = max i j) := fun k hk => by
    rw [← ends_iff g hne k y, Bool.and_eq_true, decide_eq_true_eq]
    have e : r.slots.getD k sl0 = r.slots[k] := by simp [List.getD, List.getElem?_eq_getElem hk]
    rw [e]
    exact ⟨fun ⟨h1, h2⟩ => ⟨h1, hk, h2⟩, fun ⟨h1, _, h2⟩ => ⟨h1, h2⟩⟩
  unfold cntY
  rcases cur_idx r a y with ⟨e1, h1⟩ | ⟨i, hi, e1⟩
  · rw [e1, if_neg (by simp), List.countP_eq_zero]
    intro k hk h
    obtain ⟨i, _, hi, _⟩ := (hp k (List.mem_range.1 hk)).1 h
    exact h1 i hi
  · rcases cur_idx r b y with ⟨e2, h2⟩ | ⟨j, hj, e2⟩
    · rw [e2, if_neg (by simp), List.countP_eq_zero]
      intro k hk h
      obtain ⟨_, j, _, hj, _⟩ := (hp k (List.mem_range.1 hk)).1 h
      exact h2 j hj
    · obtain ⟨hil, _⟩ := id hi
      obtain ⟨hjl, _⟩ := id hj
      rw [e1, e2, List.getElem?_eq_getElem hil, List.getElem?_eq_getElem hjl, if_pos ⟨rfl, rfl⟩]
      refine count_one (M := max i j) (by omega) fun k hk => ?_
      rw [hp k hk]
      constructor
      · rintro ⟨i', j', hi', hj', e⟩
        have := isP_uniq g hi hi'
        have := isP_uniq g hj hj'
        omega
      · intro e; exact ⟨i, j, hi, hj, e⟩
/-- as many slots ended as layers had both -/
theorem ended_count (hl : lays r) : (mrgE (d1 (lsQ r a b) a r.slots) r.now r.slots r.slots.length).length = cntY r a b (layOf 0) + cntY r a b (layOf 1) := by
  unfold mrgE
  rw [List.length_map, ← List.countP_eq_length_filter, ← count_layer g hne (layOf 0), ← count_layer g hne (layOf 1)]
  have hdif : layOf 0 ≠ layOf 1 := by unfold layOf layL; decide
  have hmem : ∀ k, k < r.slots.length → (r.slots.getD k sl0).layer = layOf 0 ∨ (r.slots.getD k sl0).layer = layOf 1 := fun k hk => by
    have e : r.slots.getD k sl0 = r.slots[k] := by simp [List.getD, List.getElem?_eq_getElem hk]
    rw [e]
    have := hl _ (List.getElem_mem hk)
    unfold layL at this
    simp only [List.mem_cons, List.not_mem_nil, or_false] at this
    unfold layOf layL
    exact this
  have : ∀ (L : List Nat), (∀ k ∈ L, k < r.slots.length) → L.countP (d1 (lsQ r a b) a r.slots) = L.countP (fun k => d1 (lsQ r a b) a r.slots k && decide ((r.slots.getD k sl0).layer = layOf 0)) + L.countP (fun k => d1 (lsQ r a b) a r.slots k && decide ((r.slots.getD k sl0).layer = layOf 1)) := by
    intro L
    induction L with
    | nil => intro _; rfl
    | cons k L ih =>
      intro h
      rw [List.countP_cons, List.countP_cons, List.countP_cons, ih fun k hk => h k (by simp [hk])]
      rcases hmem k (h k (by simp)) with e | e
      · have e2 : ¬ (r.slots.getD k sl0).layer = layOf 1 := fun q => hdif (e.symm.trans q)
        rw [decide_eq_true e, decide_eq_false e2]
        cases d1 (lsQ r a b) a r.slots k <;> simp <;> omega
      · have e2 : ¬ (r.slots.getD k sl0).layer = layOf 0 := fun q => hdif (q.symm.trans e)
        rw [decide_eq_true e, decide_eq_false e2]
        cases d1 (lsQ r a b) a r.slots k <;> simp <;> omega
  exact this _ fun k hk => List.mem_range.1 hk
end
end Go.Proofs.YtinpgogjkmmjpaaDoor.Sx
