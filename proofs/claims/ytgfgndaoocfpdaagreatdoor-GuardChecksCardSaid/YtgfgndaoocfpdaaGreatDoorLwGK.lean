/- both Checks return the same error, of any rollout and of made ones that were changed. No condition beyond the card's. -/
import Derived.Test.YtgfgndaoocfpdaaGreatDoorCards
import Derived.Test.YtgfgndaoocfpdaaGreatDoorTie
import Derived.Test.YtgfgndaoocfpdaaGreatDoorGx
import Derived.Test.YtgfgndaoocfpdaaGreatDoorGh
import Derived.ProofKit
import Derived.SevenTiedAt
set_option linter.unusedVariables false
set_option linter.unusedSimpArgs false
set_option maxRecDepth 100000
set_option maxHeartbeats 16000000
namespace Go.Proofs.YtgfgndaoocfpdaaGreatDoor
open Go Go.RowKit Go.ChangeShapes Go.WideShapes Go.ChangeAt Go.Proofs.YtgfgndaoocfpdaaGreatDoor.Vc
theorem guardChecks_own : ownKnob Tryz.prog.godebug = none := by kernel_rfl
theorem guardChecks_laid : laidOutB Tryz.prog = true := by kernel_rfl
theorem guardChecks_rd : (Tryz.f3.params.toList.all fun t => Tryz.prog.readableRec t && Nat.blt t Tryz.prog.types.size) = true := by kernel_rfl
theorem guardChecks_met (os : Os) (args : Array Value) : laidMetH Tryz.prog Rows.guardChecksRow.laid ((World.doorLaid Tryz.prog 400 os).forCall (fun _ _ => 0) ⟨#[], args, []⟩).memory :=
 laidMetH_of_parts3 (fuel := 8) (laidMet_of_run' 8 (by kernel_rfl) (by kernel_rfl)) (by kernel_rfl) (by kernel_rfl)
theorem guardChecks_lifted (os : Os) (started : os.Started) (H : Type) (enc : TypeId × Value → H) :
  ReturnsInHanded {} Tryz.checked os 3 .any (fun w args => (Rows.guardChecksSpec.pre enc Tryz.prog Tryz.f3 [] false w args ∧ laidMetH Tryz.prog Rows.guardChecksRow.laid w) ∧ sizedMet enc Tryz.prog Tryz.f3 (OpenSpec.ofChange Rows.guardChecksSpec) false w args)
   (Rows.guardChecksSpec.post enc Tryz.prog Tryz.f3 false true false false) := by
 refine returnsInHanded_of_change_and (C := Tryz.checked) (X := fun w _ => laidMetH Tryz.prog Rows.guardChecksRow.laid w) (fun _ _ _ hh h => h.of_heap hh) guardChecks_own started (by kernel_rfl) Tryz.func3
  (ChangeSpec.witness_shaped (enc := enc) (C := Tryz.checked) (os := os) (X := fun w _ => laidMetH Tryz.prog Rows.guardChecksRow.laid w) false (World.doorLaid Tryz.prog 400 os) #[.agg #[.string ⟨#[]⟩, .int .i64 0, .int .i64 0, .int .i64 0, .int .i64 0, .slice none 0 0], .agg #[.int .u8 0, .int .u8 0, .int .u8 0, .int .u8 0, .int .u8 0, .slice none 0 0], .int .u8 0, .int .u8 0, .int .i64 0, .string ⟨#[]⟩] 8 rfl (World.shaped_of_RefB (by kernel_rfl) (by kernel_rfl)) (by kernel_rfl) (by kernel_rfl) (by kernel_rfl) (guardChecks_met os _)) ?_
 intro W base args ds gs before hval0 hW _ hwt hL _
 have hval : ∀ (j : Nat) t v, Tryz.f3.params[j]? = some t → args[j]? = some v → Value.okWide Tryz.prog W .any base t v := hval0
 obtain ⟨p, q, hA0, hV, hpq, hfz, hnd⟩ := id hW
 have hA : DataW.TrodAll enc Tryz.prog W 0 (fun _ => true) true Tryz.f3.params.toList args.toList ds p := hA0
 rw [Tryz.params3] at hA hval
 have hwe := fun x hx => of_decide_eq_true (List.all_eq_true.1 hwt x hx)
 obtain ⟨v0, v1, v2, v3, v4, v5, d0, d1, d2, d3, d4, d5, p0, p1, p2, p3, p4, p5, rfl, rfl, rfl, h0, h1, h2, h3, h4, h5⟩ := trodAll_six hA
 obtain ⟨row0, o0, r0⟩ := rdg_arg (t := 24) (es := Cl.rosh) 8 rfl (by kernel_rfl) (hval 0 24 v0 rfl rfl) h0 (each_ok hwe 0 _ _ rfl rfl)
 obtain ⟨ro0, e0, b0⟩ := Cl.ro_row o0
 rw [e0] at r0
 obtain ⟨row1, o1, r1⟩ := rdg_arg (t := 27) (es := Cl.lpsh) 8 rfl (by kernel_rfl) (hval 1 27 v1 rfl rfl) h1 (each_ok hwe 1 _ _ rfl rfl)
 obtain ⟨pl1, e1, b1⟩ := Cl.lp_row o1
 rw [e1] at r1
 obtain ⟨k2, rfl, _, _, w2⟩ := open_int (k := .u8) rfl (hval 2 5 v2 rfl rfl) h2
 obtain ⟨n2, rfl, b2⟩ := Cl.u8_of w2
 obtain ⟨k3, rfl, _, _, w3⟩ := open_int (k := .u8) rfl (hval 3 5 v3 rfl rfl) h3
 obtain ⟨n3, rfl, b3⟩ := Cl.u8_of w3
 obtain ⟨k4, rfl, _, _, w4⟩ := open_int (k := .i64) rfl (hval 4 3 v4 rfl rfl) h4
 have b4 := Cl.i64_of w4
 obtain ⟨k5, rfl, _, _⟩ := ChangeMaps.open_string Tryz.underlying9 (hval 5 9 v5 rfl rfl) h5
 refine Calls.mono (Ax.ret_of_afn (Cl.lawChecksA ro0 pl1 n2 n3 k4 k5.data.toList b0 b1 b2 b3 b4) W (Cl.gs_of hL) _ ⟨r0, r1, .v _, .v _, .v _, .v _, trivial⟩) ?_
 rintro e W' ⟨v, rfl, rfl, hB⟩
 exact ⟨_, rfl, law_post guardChecks_laid guardChecks_rd rfl rfl rfl (fun ds h => by
  match ds, h with
  | [_, _, _, _, _, _], _ => rfl) hW hB⟩
theorem guardChecks_holds0 : Rows.GuardChecksSaid :=
 OpenClaim.holds_of_wide 3 Tryz.f3 rfl rfl rfl rfl rfl rfl rfl ⟨rfl, rfl, rfl, rfl, rfl⟩ rfl rfl rfl rfl rfl (by kernel_rfl) Tryz.func3 (by kernel_rfl)
  (of_decide_eq_true (by kernel_rfl)) (by unfold Func.isWrapper; first | (rw [if_pos (by decide +kernel)]; kernel_rfl) | (rw [if_neg (by decide +kernel)]; exact ⟨rfl, rfl⟩))
  (fun os started H enc _ => guardChecks_lifted os started H enc)
theorem guardChecks_holds : Rows.GuardChecksCardSaid :=
 Claim7.holds_tied_plain_at .later [] Rows.guardChecksCard.laidKinds true Rows.guardChecksCard.stood.harness false
  guardChecks_holds0 (fun _ h => by cases h) (by kernel_rfl) (fun _ h => by cases h) guardChecks_row_tie rfl ⟨rfl, rfl⟩ (by kernel_rfl) rfl
  (fun f fn hf hfn => by
   obtain rfl : f = 3 := Option.some.inj ((show Tryz.prog.funcNamed "flagstone/flagstonelaw43.GuardChecks" = some 3 by kernel_rfl).symm.trans hf) |>.symm
   obtain rfl : fn = Tryz.f3 := (Option.some.inj (Tryz.func3.symm.trans hfn)).symm
   exact ⟨by kernel_rfl, fun j t ht => by
    have hm : t ∈ Tryz.f3.params.toList := by simpa using Array.mem_of_getElem? ht
    have hall : (Tryz.f3.params.toList.all fun u => !Tryz.prog.wantsStandIn u) = true := by kernel_rfl
    exact (show Tryz.prog.wantsStandIn t = false by simpa using List.all_eq_true.1 hall t hm)⟩)
  (by kernel_rfl)
end Go.Proofs.YtgfgndaoocfpdaaGreatDoor
