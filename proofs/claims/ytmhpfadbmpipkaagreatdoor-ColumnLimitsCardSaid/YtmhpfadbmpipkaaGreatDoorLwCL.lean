/- The law ColumnLimits holds, with its card: api.MaxEvents events make a table and one more do not. No condition beyond the card's. -/
import Derived.Test.YtmhpfadbmpipkaaGreatDoorCards
import Derived.Test.YtmhpfadbmpipkaaGreatDoorTie
import Derived.Test.YtmhpfadbmpipkaaGreatDoorKgr
import Derived.Test.YtmhpfadbmpipkaaGreatDoorTb9
import Derived.ProofKit
import Derived.SevenTiedAt
set_option linter.unusedVariables false
set_option linter.unusedSimpArgs false
namespace Go.Proofs.YtmhpfadbmpipkaaGreatDoor
open Go Go.RowKit Go.ChangeShapes Go.WideShapes Go.ChangeAt Go.Proofs.YtmhpfadbmpipkaaGreatDoor.Vc

theorem columnLimits_own : ownKnob Tryz.prog.godebug = none := by kernel_rfl
theorem columnLimits_laid : laidOutB Tryz.prog = true := by kernel_rfl
theorem columnLimits_rd : (Tryz.f4.params.toList.all fun t => Tryz.prog.readableRec t && Nat.blt t Tryz.prog.types.size) = true := by kernel_rfl
theorem columnLimits_met (os : Os) (args : Array Value) : laidMetH Tryz.prog Rows.columnLimitsRow.laid ((World.doorLaid Tryz.prog 400 os).forCall (fun _ _ => 0) ⟨#[], args, []⟩).memory :=
  laidMetH_of_parts3 (fuel := 8) (laidMet_of_run' 8 (by kernel_rfl) (by kernel_rfl)) (by kernel_rfl) (by kernel_rfl)

set_option maxRecDepth 100000 in
theorem columnLimits_lifted (os : Os) (started : os.Started) (H : Type) (enc : TypeId × Value → H) :
    ReturnsInHanded {} Tryz.checked os 4 .any (fun w args => (Rows.columnLimitsSpec.pre enc Tryz.prog Tryz.f4 [] false w args ∧ laidMetH Tryz.prog Rows.columnLimitsRow.laid w) ∧ sizedMet enc Tryz.prog Tryz.f4 (OpenSpec.ofChange Rows.columnLimitsSpec) false w args)
      (Rows.columnLimitsSpec.post enc Tryz.prog Tryz.f4 false true false false) := by
  refine returnsInHanded_of_change_and (C := Tryz.checked) (X := fun w _ => laidMetH Tryz.prog Rows.columnLimitsRow.laid w) (fun _ _ _ hh h => h.of_heap hh) columnLimits_own started (by kernel_rfl) Tryz.func4
    (ChangeSpec.witness_shaped (enc := enc) (C := Tryz.checked) (os := os) (X := fun w _ => laidMetH Tryz.prog Rows.columnLimitsRow.laid w) false (World.doorLaid Tryz.prog 400 os) #[.bool false, .int .u8 0] 8 rfl (World.shaped_of_RefB (by kernel_rfl) (by kernel_rfl)) (by kernel_rfl) (by kernel_rfl) (by kernel_rfl) (columnLimits_met os _)) ?_
  intro W base args ds gs before hval0 hW _ hwt hL _
  have hval : ∀ (j : Nat) t v, Tryz.f4.params[j]? = some t → args[j]? = some v → Value.okWide Tryz.prog W .any base t v := hval0
  obtain ⟨p, q, hA0, hV, hpq, hfz, hnd⟩ := id hW
  have hA : DataW.TrodAll enc Tryz.prog W 0 (fun _ => true) true Tryz.f4.params.toList args.toList ds p := hA0
  rw [Tryz.params4] at hA hval
  obtain ⟨v0, v1, d0, d1, p0, p1, rfl, rfl, rfl, h0, h1⟩ := trodAll_two hA
  obtain ⟨k0, rfl, _, _⟩ := open_bool Tryz.underlying4 (hval 0 4 v0 rfl rfl) h0
  obtain ⟨k1, rfl, _, _, w1⟩ := open_int (k := .u8) rfl (hval 1 5 v1 rfl rfl) h1
  obtain ⟨n1, rfl, b1⟩ := Cl.u8_of w1
  refine Calls.mono (Ax.ret_of_afn (Cl.lawLimitsA k0 n1 b1) W (Cl.gs_of hL) _ ⟨.v _, .v _, trivial⟩) ?_
  rintro e W' ⟨v, rfl, rfl, hB⟩
  exact ⟨_, rfl, law_post columnLimits_laid columnLimits_rd rfl rfl rfl (fun ds h => by
    match ds, h with
    | [_, _], _ => rfl) hW hB⟩

theorem columnLimits_holds0 : Rows.ColumnLimitsSaid :=
  OpenClaim.holds_of_wide 4 Tryz.f4 rfl rfl rfl rfl rfl rfl rfl ⟨rfl, rfl, rfl, rfl, rfl⟩ rfl rfl rfl rfl rfl (by kernel_rfl) Tryz.func4 (by kernel_rfl)
    (of_decide_eq_true (by kernel_rfl)) (by unfold Func.isWrapper; first | (rw [if_pos (by decide +kernel)]; kernel_rfl) | (rw [if_neg (by decide +kernel)]; exact ⟨rfl, rfl⟩))
    (fun os started H enc _ => columnLimits_lifted os started H enc)
theorem columnLimits_holds : Rows.ColumnLimitsCardSaid :=
  Claim7.holds_tied_plain_at .later [] Rows.columnLimitsCard.laidKinds true Rows.columnLimitsCard.stood.harness false
    columnLimits_holds0 (fun _ h => by cases h) (by kernel_rfl) (fun _ h => by cases h) columnLimits_row_tie rfl ⟨rfl, rfl⟩ (by kernel_rfl) rfl
    (fun f fn hf hfn => by
      obtain rfl : f = 4 := Option.some.inj ((show Tryz.prog.funcNamed "flagstone/flagstonelaw31.ColumnLimits" = some 4 by kernel_rfl).symm.trans hf) |>.symm
      obtain rfl : fn = Tryz.f4 := (Option.some.inj (Tryz.func4.symm.trans hfn)).symm
      exact ⟨by kernel_rfl, fun j t ht => by
        have hm : t ∈ Tryz.f4.params.toList := by simpa using Array.mem_of_getElem? ht
        have hall : (Tryz.f4.params.toList.all fun u => !Tryz.prog.wantsStandIn u) = true := by kernel_rfl
        exact (show Tryz.prog.wantsStandIn t = false by simpa using List.all_eq_true.1 hall t hm)⟩)
    (by kernel_rfl)
end Go.Proofs.YtmhpfadbmpipkaaGreatDoor

