/- The walks of Clone, copied, fresh and of Assign's refusals. Condition: as Sx1's. -/
import Derived.Test.YtinpgogjkmmjpaaDoorSx5
namespace Go.Proofs.YtinpgogjkmmjpaaDoor.Sx
open Go Go.RowKit Go.Proofs.YtinpgogjkmmjpaaDoor.Vc Go.Proofs.YtinpgogjkmmjpaaDoor.Ax Go.Proofs.YtinpgogjkmmjpaaDoor.Ky Go.Proofs.YtinpgogjkmmjpaaDoor.Id Go.Proofs.YtinpgogjkmmjpaaDoor.Sp

set_option maxHeartbeats 4000000 in
set_option maxRecDepth 100000 in
theorem cloneL (l : List Lk) (hl : l.length ≤ 1000000) : AFn Tryd.prog GS 68 [.lst 3 (l.map lkF)] 0 [] (Own1 40 3 (l.map lkF)) := by
  refine afn_of Tryd.func68 rfl mixed (by kernel_rfl) ?_
  conv => whnf
  refine ANil.mk fun b hb => ?_
  cases b
  · conv => whnf
    (repeat' (first | (refine And.intro ?_ ?_ <;> (conv => whnf)) | (refine vif_split (fun h => ?_) (fun h => ?_) <;> (try simp only [sEqD, cond_true, cond_false, Bool.not_eq_true', Bool.not_eq_false', decide_eq_true_eq, decide_eq_false_iff_not, beq_iff_eq, bne_iff_ne, beq_eq_false_iff_ne, bne_eq_false_iff_eq, ne_eq, Bool.not_eq_eq_eq_not, Bool.not_true, Bool.not_false, Bool.false_eq_true, Bool.true_eq_false, Decidable.not_not, gt_iff_lt, ge_iff_le, Int.not_lt, Int.not_le] at h) <;> (conv => whnf)) | (refine AAr.i64 (by omega) ?_; conv => whnf) | (refine AIn.mk' _ rfl (by simp only [List.length_map, List.length_append, List.length_cons, List.length_nil, List.length_take, List.length_drop, List.length_set]; omega) ?_; conv => whnf) | (refine ARd.mapAt (by assumption) ?_; conv => whnf) | (refine ARd.set (by (try simp only [List.length_map, List.length_append, List.length_cons, List.length_nil, List.length_take, List.length_drop, List.length_set] at *); omega) ?_; conv => whnf) | (refine ARd.map (by omega) ?_; conv => whnf) | (refine VReq.mk (by first | decide | omega) ?_; conv => whnf) | (refine AEq.mk rfl rfl rfl ?_; conv => whnf) | (refine VReq.mk (app_ok (by (try simp only [List.length_map, List.length_append, List.length_cons, List.length_nil, List.length_take, List.length_drop, List.length_set] at *); omega) (by kernel_rfl)) ?_; conv => whnf)))
    exact aend (.own 0) 1 _ [(0, .lab 1)] [] ⟨rfl, rfl, rfl⟩ rfl (by repeat' (first | rfl | trivial | apply And.intro)) (by repeat' (first | rfl | trivial | apply And.intro))
  · have h0 : l = [] := by
      cases l with
      | nil => rfl
      | cons a r => exact absurd (hb (by simp)) (by simp)
    subst h0
    conv => whnf
    exact aend (.own 0) 1 [(0, .rows 40 3 [])] [(0, .nil)] [] ⟨rfl, rfl, rfl⟩ rfl (by repeat' (first | rfl | trivial | apply And.intro)) (by repeat' (first | rfl | trivial | apply And.intro))
set_option maxHeartbeats 4000000 in
set_option maxRecDepth 100000 in
theorem cloneS (l : List Sl) (hl : l.length ≤ 1000000) : AFn Tryd.prog GS 69 [.lst 7 (l.map slF)] 0 [] (Own1 43 7 (l.map slF)) := by
  refine afn_of Tryd.func69 rfl mixed (by kernel_rfl) ?_
  conv => whnf
  refine ANil.mk fun b hb => ?_
  cases b
  · conv => whnf
    (repeat' (first | (refine And.intro ?_ ?_ <;> (conv => whnf)) | (refine vif_split (fun h => ?_) (fun h => ?_) <;> (try simp only [sEqD, cond_true, cond_false, Bool.not_eq_true', Bool.not_eq_false', decide_eq_true_eq, decide_eq_false_iff_not, beq_iff_eq, bne_iff_ne, beq_eq_false_iff_ne, bne_eq_false_iff_eq, ne_eq, Bool.not_eq_eq_eq_not, Bool.not_true, Bool.not_false, Bool.false_eq_true, Bool.true_eq_false, Decidable.not_not, gt_iff_lt, ge_iff_le, Int.not_lt, Int.not_le] at h) <;> (conv => whnf)) | (refine AAr.i64 (by omega) ?_; conv => whnf) | (refine AIn.mk' _ rfl (by simp only [List.length_map, List.length_append, List.length_cons, List.length_nil, List.length_take, List.length_drop, List.length_set]; omega) ?_; conv => whnf) | (refine ARd.mapAt (by assumption) ?_; conv => whnf) | (refine ARd.set (by (try simp only [List.length_map, List.length_append, List.length_cons, List.length_nil, List.length_take, List.length_drop, List.length_set] at *); omega) ?_; conv => whnf) | (refine ARd.map (by omega) ?_; conv => whnf) | (refine VReq.mk (by first | decide | omega) ?_; conv => whnf) | (refine AEq.mk rfl rfl rfl ?_; conv => whnf) | (refine VReq.mk (app_ok (by (try simp only [List.length_map, List.length_append, List.length_cons, List.length_nil, List.length_take, List.length_drop, List.length_set] at *); omega) (by kernel_rfl)) ?_; conv => whnf)))
    exact aend (.own 0) 1 _ [(0, .lab 1)] [] ⟨rfl, rfl, rfl⟩ rfl (by repeat' (first | rfl | trivial | apply And.intro)) (by repeat' (first | rfl | trivial | apply And.intro))
  · have h0 : l = [] := by
      cases l with
      | nil => rfl
      | cons a r => exact absurd (hb (by simp)) (by simp)
    subst h0
    conv => whnf
    exact aend (.own 0) 1 [(0, .rows 43 7 [])] [(0, .nil)] [] ⟨rfl, rfl, rfl⟩ rfl (by repeat' (first | rfl | trivial | apply And.intro)) (by repeat' (first | rfl | trivial | apply And.intro))

/-- a register with lists of its own -/
def RgO (now : Int) (ls : List Lk) (ss : List Sl) (a : AV) (n : Nat) (H : AHeap) : Prop := a = .agg [iv now, .own 0, .own 1] ∧ n = 2 ∧ H = [(0, .rows 40 3 (ls.map lkF)), (1, .rows 43 7 (ss.map slF))]
set_option maxHeartbeats 4000000 in
set_option maxRecDepth 100000 in
theorem copiedA (r : Rg) (now : Int) (hln : r.slots.length ≤ 1000000 ∧ r.links.length ≤ 1000000) : AFn Tryd.prog GS 51 [rgA r, iv now] 0 [] (RgO now r.links r.slots) := by
  refine afn_of Tryd.func51 rfl mixed (by kernel_rfl) ?_
  conv => whnf
  (refine adraw pln51 [] (by kernel_rfl) ?_; conv => whnf)
  (refine acallF [] (by kernel_rfl) (cloneL r.links hln.2) ?_ ?_; (focus (repeat' (first | rfl | trivial | apply And.intro))))
  rintro _ _ _ ⟨rfl, rfl, rfl⟩
  conv => whnf
  (refine acallF [] (by kernel_rfl) (cloneS r.slots hln.1) ?_ ?_; (focus (repeat' (first | rfl | trivial | apply And.intro))))
  rintro _ _ _ ⟨rfl, rfl, rfl⟩
  conv => whnf
  exact aend _ 2 _ [(0, .lab 2), (1, .lab 3)] [] ⟨rfl, rfl, rfl⟩ rfl (by repeat' (first | rfl | trivial | apply And.intro)) (by repeat' (first | rfl | trivial | apply And.intro))
set_option maxHeartbeats 4000000 in
set_option maxRecDepth 100000 in
theorem freshA (r : Rg) (now : Int) (hln : r.slots.length ≤ 1000000 ∧ r.links.length ≤ 1000000) : AFn Tryd.prog GS 58 [rgA r, iv now] 0 [] (RgO now r.links r.slots) := by
  refine afn_of Tryd.func58 rfl mixed (by kernel_rfl) ?_
  conv => whnf
  (refine adraw pln58 [2, 3, 4, 5] (by kernel_rfl) ?_; conv => whnf)
  (repeat' (first | (refine And.intro ?_ ?_ <;> (conv => whnf)) | (refine vif_split (fun h => ?_) (fun h => ?_) <;> (try simp only [sEqD, cond_true, cond_false, Bool.not_eq_true', Bool.not_eq_false', decide_eq_true_eq, decide_eq_false_iff_not, beq_iff_eq, bne_iff_ne, beq_eq_false_iff_ne, bne_eq_false_iff_eq, ne_eq, Bool.not_eq_eq_eq_not, Bool.not_true, Bool.not_false, Bool.false_eq_true, Bool.true_eq_false, Decidable.not_not, gt_iff_lt, ge_iff_le, Int.not_lt, Int.not_le] at h) <;> (conv => whnf)) | (refine AAr.i64 (by omega) ?_; conv => whnf) | (refine AIn.mk' _ rfl (by simp only [List.length_map, List.length_append, List.length_cons, List.length_nil, List.length_take, List.length_drop, List.length_set]; omega) ?_; conv => whnf) | (refine ARd.mapAt (by assumption) ?_; conv => whnf) | (refine ARd.set (by (try simp only [List.length_map, List.length_append, List.length_cons, List.length_nil, List.length_take, List.length_drop, List.length_set] at *); omega) ?_; conv => whnf) | (refine ARd.map (by omega) ?_; conv => whnf) | (refine VReq.mk (by first | decide | omega) ?_; conv => whnf) | (refine AEq.mk rfl rfl rfl ?_; conv => whnf) | (refine VReq.mk (app_ok (by (try simp only [List.length_map, List.length_append, List.length_cons, List.length_nil, List.length_take, List.length_drop, List.length_set] at *); omega) (by kernel_rfl)) ?_; conv => whnf)))
  all_goals first
    | (refine aend _ 2 _ [(0, .lab 3), (1, .lab 5)] [] ⟨rfl, rfl, rfl⟩ ?_ ?_ ?_; (focus rfl); (focus (repeat' (first | rfl | trivial | apply And.intro))); (focus (repeat' (first | rfl | trivial | apply And.intro))); done)
    | (refine aend _ 2 _ [(0, .lab 5), (1, .lab 3)] [] ⟨rfl, rfl, rfl⟩ ?_ ?_ ?_; (focus rfl); (focus (repeat' (first | rfl | trivial | apply And.intro))); (focus (repeat' (first | rfl | trivial | apply And.intro))); done)
    | (refine aend _ 2 _ [(0, .lab 4), (1, .lab 5)] [] ⟨rfl, rfl, rfl⟩ ?_ ?_ ?_; (focus rfl); (focus (repeat' (first | rfl | trivial | apply And.intro))); (focus (repeat' (first | rfl | trivial | apply And.intro))); done)
    | (refine aend _ 2 _ [(0, .lab 5), (1, .lab 4)] [] ⟨rfl, rfl, rfl⟩ ?_ ?_ ?_; (focus rfl); (focus (repeat' (first | rfl | trivial | apply And.intro))); (focus (repeat' (first | rfl | trivial | apply And.intro))); done)
end Go.Proofs.YtinpgogjkmmjpaaDoor.Sx
