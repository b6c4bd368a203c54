/- The walk of the sticky law Any. Condition: as Sx1's. -/
import Derived.Test.YtinpgogjkmmjpaaDoorSx15
set_option linter.unusedVariables false
set_option linter.unusedSimpArgs false
namespace Go.Proofs.YtinpgogjkmmjpaaDoor.Sx
open Go Go.RowKit Go.Proofs.YtinpgogjkmmjpaaDoor.Vc Go.Proofs.YtinpgogjkmmjpaaDoor.Ax Go.Proofs.YtinpgogjkmmjpaaDoor.Ky Go.Proofs.YtinpgogjkmmjpaaDoor.Id Go.Proofs.YtinpgogjkmmjpaaDoor.Sp

theorem optA_eq (o : Option Sl) : optA o = .tup [slA (o.getD sl0), bv o.isSome] := by cases o <;> rfl
theorem asg_len (e : Int) (kb bad : Bool) (r : Rg) (id layer exp : ByteArray) (arm gap now : Int) : (asgR e kb bad r id layer exp arm gap now).1.slots.length ≤ r.slots.length + 1 ∧ (asgR e kb bad r id layer exp arm gap now).1.links.length ≤ r.links.length := by
  unfold asgR
  generalize r.slots.any (barP r.links id layer gap now) = q
  split
  · exact ⟨Nat.zero_le _, Nat.zero_le _⟩
  split
  · exact ⟨Nat.zero_le _, Nat.zero_le _⟩
  cases kb
  · exact ⟨Nat.zero_le _, Nat.zero_le _⟩
  simp only [Bool.not_true, cond_false]
  split
  · exact ⟨Nat.le_succ _, Nat.le_refl _⟩
  cases bad
  · cases q
    · simp only [cond_false]
      split
      · exact ⟨Nat.zero_le _, Nat.zero_le _⟩
      · exact ⟨by simp, Nat.le_refl _⟩
    · exact ⟨Nat.zero_le _, Nat.zero_le _⟩
  · exact ⟨Nat.zero_le _, Nat.zero_le _⟩
theorem mrg_len (e : Int) (kb : Bool) (r : Rg) (a b : ByteArray) (now : Int) (d : Nat → Bool) : (mrgR e kb r a b now d).1.slots.length ≤ r.slots.length ∧ (mrgR e kb r a b now d).1.links.length ≤ r.links.length + 1 := by
  unfold mrgR
  split
  · exact ⟨Nat.zero_le _, Nat.zero_le _⟩
  cases kb
  · exact ⟨Nat.zero_le _, Nat.zero_le _⟩
  simp only [Bool.not_true, cond_false]
  split
  · exact ⟨Nat.zero_le _, Nat.zero_le _⟩
  split
  · exact ⟨Nat.le_refl _, Nat.le_succ _⟩
  split
  · exact ⟨Nat.zero_le _, Nat.zero_le _⟩
  · exact ⟨by simp [mrgL_len], by simp⟩
theorem stp_len (e : Int) (kb : Bool) (r : Rg) (x : ByteArray) (now : Int) : (stopR e kb r x now).1.slots.length ≤ r.slots.length ∧ (stopR e kb r x now).1.links.length ≤ r.links.length := by
  unfold stopR
  split
  · exact ⟨Nat.zero_le _, Nat.zero_le _⟩
  cases kb
  · exact ⟨Nat.zero_le _, Nat.zero_le _⟩
  · exact ⟨by simp, Nat.le_refl _⟩
set_option maxHeartbeats 16000000 in
set_option maxRecDepth 100000 in
theorem anyA (r : Rg) (id other layer al ae : ByteArray) (ab arm cool now : Int) (held : Bool) (hS : RegS r) (h1 : strOK id.size) (h2 : strOK other.size) (h3 : strOK layer.size) (h4 : strOK al.size) (h5 : strOK ae.size) :
    AFn Tryd.prog GS 10 [rgA r, sv id, sv other, sv layer, asA al ae ab arm held, iv cool, iv now] 0 [] (Is (bv true)) := by
  refine afn_of Tryd.func10 rfl mixed (by kernel_rfl) ?_
  conv => whnf
  (refine acall [] (by kernel_rfl) (awakeA) rfl ?_ ?_; (focus ((repeat' (first | rfl | trivial | apply And.intro)); done)); (conv => whnf))
  (repeat' (first | (refine And.intro ?_ ?_ <;> (conv => whnf)) | (refine vif_split (fun h => ?_) (fun h => ?_) <;> (try simp only [sEqD, cond_true, cond_false, Bool.not_eq_true', Bool.not_eq_false', decide_eq_true_eq, decide_eq_false_iff_not, beq_iff_eq, bne_iff_ne, beq_eq_false_iff_ne, bne_eq_false_iff_eq, ne_eq, Bool.not_eq_eq_eq_not, Bool.not_true, Bool.not_false, Bool.false_eq_true, Bool.true_eq_false, Decidable.not_not, gt_iff_lt, ge_iff_le, Int.not_lt, Int.not_le] at h) <;> (conv => whnf)) | (refine AAr.i64 (by omega) ?_; conv => whnf) | (refine AIn.mk' _ rfl (by simp only [List.length_map, List.length_append, List.length_cons, List.length_nil, List.length_take, List.length_drop, List.length_set]; omega) ?_; conv => whnf) | (refine ARd.mapAt (by assumption) ?_; conv => whnf) | (refine ARd.set (by (try simp only [List.length_map, List.length_append, List.length_cons, List.length_nil, List.length_take, List.length_drop, List.length_set] at *); omega) ?_; conv => whnf) | (refine ARd.map (by omega) ?_; conv => whnf) | (refine VReq.mk (by first | decide | omega) ?_; conv => whnf) | (refine AEq.mk (by kernel_rfl) rfl rfl ?_; conv => whnf) | (refine VReq.mk (app_ok (by (try simp only [List.length_map, List.length_append, List.length_cons, List.length_nil, List.length_take, List.length_drop, List.length_set] at *); omega) (by kernel_rfl)) ?_; conv => whnf)))
  all_goals try exact aret [] (by repeat' (first | rfl | trivial | apply And.intro))
  have hln : r.slots.length ≤ 140 ∧ r.links.length ≤ 70 := by simp only [List.length_map] at *; omega
  have hlm : r.slots.length ≤ 1000000 ∧ r.links.length ≤ 1000000 := by omega
  have a1 := at1A r id layer now hS hlm
  have a2 := at2A r id layer now hS hlm
  have c1 := cur1A r id layer hS hlm
  have c2 := cur2A r id layer hS hlm
  have s1 := assign1A r id al ae ab arm cool now held h1 h4 h5 hS hlm
  have s2 := assign2A r id al ae ab arm cool now held h1 h4 h5 hS hlm
  have m1 := merge1A r id other now h1 h2 hS hlm
  have m2 := merge2A r id other now h1 h2 hS hlm
  have p1 := stop1A r ae now h5 hS hlm
  have p2 := stop2A r ae now h5 hS hlm
  have v1 := valid1A r hS
  have v2 := valid2A r hS hlm
  rw [valid_same] at a2 c2 s2 m2 p2 v2
  rw [mrgR_same fun h => (ready_good (valid_iff r).1 h).1] at m2
  rw [optA_eq] at a1 a2 c1 c2
  have l3 := asg_len (readyE (validB r) r now) (keyB id && keyB al) (held || !keyB ae || decide (arm < 1 ∨ 8 < arm)) r id al ae arm cool now
  have l4 := mrg_len (readyE (validB r) r now) (keyB id && keyB other) r id other now (d1 (r.links ++ [⟨id, other, now⟩]) id r.slots)
  have l4' := mrg_list (readyE (validB r) r now) (keyB id && keyB other) r id other now (d1 (r.links ++ [⟨id, other, now⟩]) id r.slots)
  have l5 := stp_len (readyE (validB r) r now) (keyB ae) r ae now
  unfold asgE at s1 s2
  unfold stopA at p1 p2
  generalize asgR (readyE (validB r) r now) (keyB id && keyB al) (held || !keyB ae || decide (arm < 1 ∨ 8 < arm)) r id al ae arm cool now = t3 at s1 s2 l3
  generalize mrgR (readyE (validB r) r now) (keyB id && keyB other) r id other now (d1 (r.links ++ [⟨id, other, now⟩]) id r.slots) = t4 at m1 m2 l4 l4'
  generalize stopR (readyE (validB r) r now) (keyB ae) r ae now = t5 at p1 p2 l5
  generalize (at1O (validB r) r id layer now).isSome = b1 at a1 a2
  generalize (at1O (validB r) r id layer now).getD sl0 = o1 at a1 a2
  generalize (cur1O (validB r) r id layer).isSome = b2 at c1 c2
  generalize (cur1O (validB r) r id layer).getD sl0 = o2 at c1 c2
  generalize validB r = vb at v1 v2
  obtain ⟨q3, z3, e3⟩ := t3
  obtain ⟨q4, z4, e4⟩ := t4
  obtain ⟨q5, z5, e5⟩ := t5
  simp only at l3 l4 l4' l5
  have r3 := sameRA q3 q3 (by omega) (by omega)
  have r4 := sameRA q4 q4 (by omega) (by omega)
  have r5 := sameRA q5 q5 (by omega) (by omega)
  have r6 := sameSA z4 z4 (by omega) (by omega)
  rw [decide_eq_true rfl] at r3 r4 r5 r6
  clear l3 l4 l4' l5
  (refine acall [] (by kernel_rfl) (a1) rfl ?_ ?_; (focus ((repeat' (first | rfl | trivial | apply And.intro)); done)); (conv => whnf))
  (refine acall [] (by kernel_rfl) (a2) rfl ?_ ?_; (focus ((repeat' (first | rfl | trivial | apply And.intro)); done)); (conv => whnf))
  (refine acall [] (by kernel_rfl) (c1) rfl ?_ ?_; (focus ((repeat' (first | rfl | trivial | apply And.intro)); done)); (conv => whnf))
  (refine acall [] (by kernel_rfl) (c2) rfl ?_ ?_; (focus ((repeat' (first | rfl | trivial | apply And.intro)); done)); (conv => whnf))
  (refine acallF [] (by kernel_rfl) (s1) ?_ ?_; (focus ((repeat' (first | rfl | trivial | apply And.intro)); done)); rintro _ _ _ ⟨rfl, rfl, rfl⟩; (conv => whnf))
  (refine acallF [] (by kernel_rfl) (s2) ?_ ?_; (focus ((repeat' (first | rfl | trivial | apply And.intro)); done)); rintro _ _ _ ⟨rfl, rfl, rfl⟩; (conv => whnf))
  (refine acallF [] (by kernel_rfl) (m1) ?_ ?_; (focus ((repeat' (first | rfl | trivial | apply And.intro)); done)); rintro _ _ _ ⟨rfl, rfl, rfl⟩; (conv => whnf))
  (refine acallF [] (by kernel_rfl) (m2) ?_ ?_; (focus ((repeat' (first | rfl | trivial | apply And.intro)); done)); rintro _ _ _ ⟨rfl, rfl, rfl⟩; (conv => whnf))
  (refine acallF [] (by kernel_rfl) (p1) ?_ ?_; (focus ((repeat' (first | rfl | trivial | apply And.intro)); done)); rintro _ _ _ ⟨rfl, rfl, rfl⟩; (conv => whnf))
  (refine acallF [] (by kernel_rfl) (p2) ?_ ?_; (focus ((repeat' (first | rfl | trivial | apply And.intro)); done)); rintro _ _ _ ⟨rfl, rfl, rfl⟩; (conv => whnf))
  refine adraw pln10 [] (by kernel_rfl) ?_
  conv => whnf
  (refine acall [] (by kernel_rfl) (v1) rfl ?_ ?_; (focus ((repeat' (first | rfl | trivial | apply And.intro)); done)); (conv => whnf))
  (refine acall [] (by kernel_rfl) (v2) rfl ?_ ?_; (focus ((repeat' (first | rfl | trivial | apply And.intro)); done)); (conv => whnf))
  repeat' (first
    | (refine And.intro ?_ ?_ <;> (conv => whnf))
    | (refine vif_split (fun h => ?_) (fun h => ?_) <;> (try simp only [sEqD, cond_true, cond_false, Bool.not_eq_true', Bool.not_eq_false', decide_eq_true_eq, decide_eq_false_iff_not, beq_iff_eq, bne_iff_ne, beq_eq_false_iff_ne, bne_eq_false_iff_eq, ne_eq, Bool.not_eq_eq_eq_not, Bool.not_true, Bool.not_false, Bool.false_eq_true, Bool.true_eq_false, Decidable.not_not, gt_iff_lt, ge_iff_le, Int.not_lt, Int.not_le] at h) <;> (conv => whnf))
    | (refine AEq.mk (by kernel_rfl) rfl rfl ?_; conv => whnf)
    | (refine acall [] (by kernel_rfl) (r3) rfl ?_ ?_; (focus ((repeat' (first | rfl | trivial | apply And.intro)); done)); (conv => whnf))
    | (refine acall [] (by kernel_rfl) (r4) rfl ?_ ?_; (focus ((repeat' (first | rfl | trivial | apply And.intro)); done)); (conv => whnf))
    | (refine acall [] (by kernel_rfl) (r5) rfl ?_ ?_; (focus ((repeat' (first | rfl | trivial | apply And.intro)); done)); (conv => whnf))
    | (refine acall [] (by kernel_rfl) (r6) rfl ?_ ?_; (focus ((repeat' (first | rfl | trivial | apply And.intro)); done)); (conv => whnf)))
  all_goals first
    | (exfalso; exact h trivial)
    | (exfalso; simp at h; done)
    | (refine aret [] ?_; (repeat' (first | rfl | trivial | apply And.intro)); done)
end Go.Proofs.YtinpgogjkmmjpaaDoor.Sx
