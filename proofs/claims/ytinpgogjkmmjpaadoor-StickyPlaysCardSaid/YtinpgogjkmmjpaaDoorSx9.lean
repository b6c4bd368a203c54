/- The walks of Assign: its answers' encodings and the failing closure. Condition: as Sx1's. -/
import Derived.Test.YtinpgogjkmmjpaaDoorSx8
namespace Go.Proofs.YtinpgogjkmmjpaaDoor.Sx
open Go Go.RowKit Go.Proofs.YtinpgogjkmmjpaaDoor.Vc Go.Proofs.YtinpgogjkmmjpaaDoor.Ax Go.Proofs.YtinpgogjkmmjpaaDoor.Ky Go.Proofs.YtinpgogjkmmjpaaDoor.Id Go.Proofs.YtinpgogjkmmjpaaDoor.Sp

/-- Assign's answer: the register, the slot, the error -/
def asgA (r : Rg) (s : Sl) (e : Int) : AV := .tup [rgA r, slA s, iv e]
set_option maxHeartbeats 4000000 in
set_option maxRecDepth 100000 in
theorem fail1A (e : Int) : AFn Tryd.prog GS 56 [iv e] 0 [] (Is (asgA rg0 sl0 e)) := by
  refine afn_of Tryd.func56 rfl mixed (by kernel_rfl) ?_
  conv => whnf
  (repeat' (first | (refine And.intro ?_ ?_ <;> (conv => whnf)) | (refine vif_split (fun h => ?_) (fun h => ?_) <;> (try simp only [sEqD, cond_true, cond_false, Bool.not_eq_true', Bool.not_eq_false', decide_eq_true_eq, decide_eq_false_iff_not, beq_iff_eq, bne_iff_ne, beq_eq_false_iff_ne, bne_eq_false_iff_eq, ne_eq, Bool.not_eq_eq_eq_not, Bool.not_true, Bool.not_false, Bool.false_eq_true, Bool.true_eq_false, Decidable.not_not, gt_iff_lt, ge_iff_le, Int.not_lt, Int.not_le] at h) <;> (conv => whnf)) | (refine AAr.i64 (by omega) ?_; conv => whnf) | (refine AIn.mk' _ rfl (by simp only [List.length_map, List.length_append, List.length_cons, List.length_nil, List.length_take, List.length_drop, List.length_set]; omega) ?_; conv => whnf) | (refine ARd.mapAt (by assumption) ?_; conv => whnf) | (refine ARd.set (by (try simp only [List.length_map, List.length_append, List.length_cons, List.length_nil, List.length_take, List.length_drop, List.length_set] at *); omega) ?_; conv => whnf) | (refine ARd.map (by omega) ?_; conv => whnf) | (refine VReq.mk (by first | decide | omega) ?_; conv => whnf) | (refine AEq.mk rfl rfl rfl ?_; conv => whnf) | (refine VReq.mk (app_ok (by (try simp only [List.length_map, List.length_append, List.length_cons, List.length_nil, List.length_take, List.length_drop, List.length_set] at *); omega) (by kernel_rfl)) ?_; conv => whnf)))
  exact aret [] (by repeat' (first | rfl | trivial | apply And.intro))
/-- a slot that still bars the layer for the person: closed, within the gap, same root -/
def barP (ls : List Lk) (id layer : ByteArray) (gap now : Int) (s : Sl) : Bool :=
  decide (s.layer = layer) && decide (s.fin ≠ 0) && decide (now - s.to_ < gap) && decide (rt ls s.id = rt ls id)
/-- what both Assigns answer: e is what ready says, kb whether both keys stand, bad whether the assignment is refused (held, a bad experiment key, an arm outside 1 .. 8) -/
def asgR (e : Int) (kb bad : Bool) (r : Rg) (id layer exp : ByteArray) (arm gap now : Int) : Rg × Sl × Int :=
  if e ≠ 0 then (rg0, sl0, e)
  else if gap < 0 then (rg0, sl0, 3)
  else bif !kb then (rg0, sl0, 6)
  else if 0 ≤ curI r id layer then (⟨now, r.links, r.slots⟩, r.slots.getD (curI r id layer).toNat sl0, 0)
  else bif bad then (rg0, sl0, 11)
  else bif r.slots.any (barP r.links id layer gap now) then (rg0, sl0, 28)
  else if 128 ≤ r.slots.length then (rg0, sl0, 19)
  else (⟨now, r.links, r.slots ++ [⟨id, layer, exp, arm, now, 0, 0⟩]⟩, ⟨id, layer, exp, arm, now, 0, 0⟩, 0)
def asgV (x : Rg × Sl × Int) : AV := asgA x.1 x.2.1 x.2.2
def asgE (e : Int) (kb bad : Bool) (r : Rg) (id layer exp : ByteArray) (arm gap now : Int) : AV := asgV (asgR e kb bad r id layer exp arm gap now)
end Go.Proofs.YtinpgogjkmmjpaaDoor.Sx
