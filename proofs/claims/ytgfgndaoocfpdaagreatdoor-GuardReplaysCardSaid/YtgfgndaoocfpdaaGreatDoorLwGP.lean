/- Joined parts of the proof. each Action of the first Run is what the first Look returns for the events ahead of its mark -/
import Derived.Test.YtgfgndaoocfpdaaGreatDoorCards
import Derived.Test.YtgfgndaoocfpdaaGreatDoorTie
import Derived.Test.YtgfgndaoocfpdaaGreatDoorQk21
import Derived.Test.YtgfgndaoocfpdaaGreatDoorGe
import Derived.ProofKit
import Derived.SevenTiedAt
set_option linter.unusedVariables false
set_option linter.unusedSimpArgs false
set_option maxRecDepth 100000
set_option maxHeartbeats 16000000
namespace Go.Proofs.YtgfgndaoocfpdaaGreatDoor
open Go Go.RowKit Go.ChangeShapes Go.WideShapes Go.ChangeAt Go.Proofs.YtgfgndaoocfpdaaGreatDoor.Vc
theorem guardReplays_own : ownKnob Tryz.prog.godebug = none := by kernel_rfl
theorem guardReplays_laid : laidOutB Tryz.prog = true := by kernel_rfl
theorem guardReplays_rd : (Tryz.f6.params.toList.all fun t => Tryz.prog.readableRec t && Nat.blt t Tryz.prog.types.size) = true := by kernel_rfl
theorem guardReplays_met (os : Os) (args : Array Value) : laidMetH Tryz.prog Rows.guardReplaysRow.laid ((World.doorLaid Tryz.prog 400 os).forCall (fun _ _ => 0) ⟨#[], args, []⟩).memory :=
 laidMetH_of_parts3 (fuel := 8) (laidMet_of_run' 8 (by kernel_rfl) (by kernel_rfl)) (by kernel_rfl) (by kernel_rfl)
theorem guardReplays_lifted (os : Os) (started : os.Started) (H : Type) (enc : TypeId × Value → H) :
  ReturnsInHanded {} Tryz.checked os 6 .any (fun w args => (Rows.guardReplaysSpec.pre enc Tryz.prog Tryz.f6 [] false w args ∧ laidMetH Tryz.prog Rows.guardReplaysRow.laid w) ∧ sizedMet enc Tryz.prog Tryz.f6 (OpenSpec.ofChange Rows.guardReplaysSpec) false w args)
   (Rows.guardReplaysSpec.post enc Tryz.prog Tryz.f6 false true false false) := by
 refine returnsInHanded_of_change_and (C := Tryz.checked) (X := fun w _ => laidMetH Tryz.prog Rows.guardReplaysRow.laid w) (fun _ _ _ hh h => h.of_heap hh) guardReplays_own started (by kernel_rfl) Tryz.func6
  (ChangeSpec.witness_shaped (enc := enc) (C := Tryz.checked) (os := os) (X := fun w _ => laidMetH Tryz.prog Rows.guardReplaysRow.laid w) false (World.doorLaid Tryz.prog 400 os) #[.agg #[.int .u8 0, .int .u8 0, .int .u8 0, .int .u8 0, .int .u8 0, .slice none 0 0], .slice none 0 0, .int .u8 0, .int .u8 0, .int .u8 0, .int .u8 0, .slice none 0 0] 8 rfl (World.shaped_of_RefB (by kernel_rfl) (by kernel_rfl)) (by kernel_rfl) (by kernel_rfl) (by kernel_rfl) (guardReplays_met os _)) ?_
 intro W base args ds gs before hval0 hW _ hwt hL _
 have hval : ∀ (j : Nat) t v, Tryz.f6.params[j]? = some t → args[j]? = some v → Value.okWide Tryz.prog W .any base t v := hval0
 obtain ⟨p, q, hA0, hV, hpq, hfz, hnd⟩ := id hW
 have hA : DataW.TrodAll enc Tryz.prog W 0 (fun _ => true) true Tryz.f6.params.toList args.toList ds p := hA0
 rw [Tryz.params6] at hA hval
 have hwe := fun x hx => of_decide_eq_true (List.all_eq_true.1 hwt x hx)
 obtain ⟨v0, v1, v2, v3, v4, v5, v6, d0, d1, d2, d3, d4, d5, d6, p0, p1, p2, p3, p4, p5, p6, rfl, rfl, rfl, h0, h1, h2, h3, h4, h5, h6⟩ := trodAll_seven hA
 obtain ⟨row0, o0, r0⟩ := rdg_arg (t := 27) (es := Cl.lpsh) 8 rfl (by kernel_rfl) (hval 0 27 v0 rfl rfl) h0 (each_ok hwe 0 _ _ rfl rfl)
 obtain ⟨pl0, e0, b0⟩ := Cl.lp_row o0
 rw [e0] at r0
 obtain ⟨oa1, l1, c1, hc1, b1, r1⟩ := Cl.rd_bys (t := 40) (e := 5) rfl rfl (rd_top h1)
 obtain rfl := val_slice (t := 40) (e := 5) rfl (hval 1 40 v1 rfl rfl) hc1
 obtain ⟨k2, rfl, _, _, w2⟩ := open_int (k := .u8) rfl (hval 2 5 v2 rfl rfl) h2
 obtain ⟨n2, rfl, b2⟩ := Cl.u8_of w2
 obtain ⟨k3, rfl, _, _, w3⟩ := open_int (k := .u8) rfl (hval 3 5 v3 rfl rfl) h3
 obtain ⟨n3, rfl, b3⟩ := Cl.u8_of w3
 obtain ⟨k4, rfl, _, _, w4⟩ := open_int (k := .u8) rfl (hval 4 5 v4 rfl rfl) h4
 obtain ⟨n4, rfl, b4⟩ := Cl.u8_of w4
 obtain ⟨k5, rfl, _, _, w5⟩ := open_int (k := .u8) rfl (hval 5 5 v5 rfl rfl) h5
 obtain ⟨n5, rfl, b5⟩ := Cl.u8_of w5
 obtain ⟨oa6, l6, c6, hc6, b6, r6⟩ := Cl.rd_bys (t := 40) (e := 5) rfl rfl (rd_top h6)
 obtain rfl := val_slice (t := 40) (e := 5) rfl (hval 6 40 v6 rfl rfl) hc6
 refine Calls.mono (Ax.ret_of_afn (Cl.lawReplaysA pl0 l1 n2 n3 n4 n5 l6 b0 b2 b3 b4 b5) W (Cl.gs_of hL) _ ⟨r0, r1, .v _, .v _, .v _, .v _, r6, trivial⟩) ?_
 rintro e W' ⟨v, rfl, rfl, hB⟩
 exact ⟨_, rfl, law_post guardReplays_laid guardReplays_rd rfl rfl rfl (fun ds h => by
  match ds, h with
  | [_, _, _, _, _, _, _], _ => rfl) hW hB⟩
theorem guardReplays_holds0 : Rows.GuardReplaysSaid :=
 OpenClaim.holds_of_wide 6 Tryz.f6 rfl rfl rfl rfl rfl rfl rfl ⟨rfl, rfl, rfl, rfl, rfl⟩ rfl rfl rfl rfl rfl (by kernel_rfl) Tryz.func6 (by kernel_rfl)
  (of_decide_eq_true (by kernel_rfl)) (by unfold Func.isWrapper; first | (rw [if_pos (by decide +kernel)]; kernel_rfl) | (rw [if_neg (by decide +kernel)]; exact ⟨rfl, rfl⟩))
  (fun os started H enc _ => guardReplays_lifted os started H enc)
theorem guardReplays_holds : Rows.GuardReplaysCardSaid :=
 Claim7.holds_tied_plain_at .later [] Rows.guardReplaysCard.laidKinds true Rows.guardReplaysCard.stood.harness false
  guardReplays_holds0 (fun _ h => by cases h) (by kernel_rfl) (fun _ h => by cases h) guardReplays_row_tie rfl ⟨rfl, rfl⟩ (by kernel_rfl) rfl
  (fun f fn hf hfn => by
   obtain rfl : f = 6 := Option.some.inj ((show Tryz.prog.funcNamed "flagstone/flagstonelaw43.GuardReplays" = some 6 by kernel_rfl).symm.trans hf) |>.symm
   obtain rfl : fn = Tryz.f6 := (Option.some.inj (Tryz.func6.symm.trans hfn)).symm
   exact ⟨by kernel_rfl, fun j t ht => by
    have hm : t ∈ Tryz.f6.params.toList := by simpa using Array.mem_of_getElem? ht
    have hall : (Tryz.f6.params.toList.all fun u => !Tryz.prog.wantsStandIn u) = true := by kernel_rfl
    exact (show Tryz.prog.wantsStandIn t = false by simpa using List.all_eq_true.1 hall t hm)⟩)
  (by kernel_rfl)
end Go.Proofs.YtgfgndaoocfpdaaGreatDoor
