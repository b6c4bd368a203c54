/- The law JoinSamples holds, with its card: Samples and Tally answer as specified. No condition beyond the card's. -/
import Derived.Test.YtmnjmdajgilhiaaDoorCards
import Derived.Test.YtmnjmdajgilhiaaDoorTie
import Derived.Test.YtmnjmdajgilhiaaDoorKgr
import Derived.Test.YtmnjmdajgilhiaaDoorJh
import Derived.ProofKit
import Derived.SevenTiedAt
set_option linter.unusedVariables false
set_option linter.unusedSimpArgs false
namespace Go.Proofs.YtmnjmdajgilhiaaDoor
open Go Go.RowKit Go.ChangeShapes Go.WideShapes Go.ChangeAt Go.Proofs.YtmnjmdajgilhiaaDoor.Vc

theorem joinSamples_own : ownKnob Tryd.prog.godebug = none := by kernel_rfl
theorem joinSamples_laid : laidOutB Tryd.prog = true := by kernel_rfl
theorem joinSamples_rd : (Tryd.f8.params.toList.all fun t => Tryd.prog.readableRec t && Nat.blt t Tryd.prog.types.size) = true := by kernel_rfl
theorem joinSamples_met (os : Os) (args : Array Value) : laidMetH Tryd.prog Rows.joinSamplesRow.laid ((World.doorLaid Tryd.prog 400 os).forCall (fun _ _ => 0) ⟨#[], args, []⟩).memory :=
  laidMetH_of_parts3 (fuel := 8) (laidMet_of_run' 8 (by kernel_rfl) (by kernel_rfl)) (by kernel_rfl) (by kernel_rfl)

set_option maxRecDepth 100000 in
theorem joinSamples_lifted (os : Os) (started : os.Started) (H : Type) (enc : TypeId × Value → H) :
    ReturnsInHanded {} Tryd.checked os 8 .any (fun w args => (Rows.joinSamplesSpec.pre enc Tryd.prog Tryd.f8 [] false w args ∧ laidMetH Tryd.prog Rows.joinSamplesRow.laid w) ∧ sizedMet enc Tryd.prog Tryd.f8 (OpenSpec.ofChange Rows.joinSamplesSpec) false w args)
      (Rows.joinSamplesSpec.post enc Tryd.prog Tryd.f8 false true false false) := by
  refine returnsInHanded_of_change_and (C := Tryd.checked) (X := fun w _ => laidMetH Tryd.prog Rows.joinSamplesRow.laid w) (fun _ _ _ hh h => h.of_heap hh) joinSamples_own started (by kernel_rfl) Tryd.func8
    (ChangeSpec.witness_shaped (enc := enc) (C := Tryd.checked) (os := os) (X := fun w _ => laidMetH Tryd.prog Rows.joinSamplesRow.laid w) false (World.doorLaid Tryd.prog 400 os) #[.slice none 0 0, .slice none 0 0, .int .u8 0, .int .i16 0, .int .i8 0] 8 rfl (World.shaped_of_RefB (by kernel_rfl) (by kernel_rfl)) (by kernel_rfl) (by kernel_rfl) (by kernel_rfl) (joinSamples_met os _)) ?_
  intro W base args ds gs before hval0 hW _ hwt hL _
  have hval : ∀ (j : Nat) t v, Tryd.f8.params[j]? = some t → args[j]? = some v → Value.okWide Tryd.prog W .any base t v := hval0
  obtain ⟨p, q, hA0, hV, hpq, hfz, hnd⟩ := id hW
  have hA : DataW.TrodAll enc Tryd.prog W 0 (fun _ => true) true Tryd.f8.params.toList args.toList ds p := hA0
  rw [Tryd.params8] at hA hval
  obtain ⟨v0, v1, v2, v3, v4, d0, d1, d2, d3, d4, p0, p1, p2, p3, p4, rfl, rfl, rfl, h0, h1, h2, h3, h4⟩ := trodAll_five hA
  obtain ⟨oa0, l0, c0, hc0, b0, r0⟩ := Cl.rd_bys (t := 22) (e := 5) rfl rfl (rd_top h0)
  obtain rfl := val_slice (t := 22) (e := 5) rfl (hval 0 22 v0 rfl rfl) hc0
  obtain ⟨oa1, l1, c1, hc1, b1, r1⟩ := Cl.rd_bys (t := 22) (e := 5) rfl rfl (rd_top h1)
  obtain rfl := val_slice (t := 22) (e := 5) rfl (hval 1 22 v1 rfl rfl) hc1
  obtain ⟨k2, rfl, _, _, w2⟩ := open_int (k := .u8) rfl (hval 2 5 v2 rfl rfl) h2
  obtain ⟨n2, rfl, b2⟩ := Cl.u8_of w2
  obtain ⟨k3, rfl, _, _, w3⟩ := open_int (k := .i16) rfl (hval 3 57 v3 rfl rfl) h3
  have b3 := Cl.i16_of w3
  obtain ⟨k4, rfl, _, _, w4⟩ := open_int (k := .i8) rfl (hval 4 58 v4 rfl rfl) h4
  have b4 := Cl.i8_of w4
  refine Calls.mono (Ax.ret_of_afn (Cl.lawSamplesA l0 l1 n2 k3 k4 b2 b3 b4) W (Cl.gs_of hL) _ ⟨r0, r1, .v _, .v _, .v _, trivial⟩) ?_
  rintro e W' ⟨v, rfl, rfl, hB⟩
  exact ⟨_, rfl, law_post joinSamples_laid joinSamples_rd rfl rfl rfl (fun ds h => by
    match ds, h with
    | [_, _, _, _, _], _ => rfl) hW hB⟩

theorem joinSamples_holds0 : Rows.JoinSamplesSaid :=
  OpenClaim.holds_of_wide 8 Tryd.f8 rfl rfl rfl rfl rfl rfl rfl ⟨rfl, rfl, rfl, rfl, rfl⟩ rfl rfl rfl rfl rfl (by kernel_rfl) Tryd.func8 (by kernel_rfl)
    (of_decide_eq_true (by kernel_rfl)) (by unfold Func.isWrapper; first | (rw [if_pos (by decide +kernel)]; kernel_rfl) | (rw [if_neg (by decide +kernel)]; exact ⟨rfl, rfl⟩))
    (fun os started H enc _ => joinSamples_lifted os started H enc)
theorem joinSamples_holds : Rows.JoinSamplesCardSaid :=
  Claim7.holds_tied_plain_at .later [] Rows.joinSamplesCard.laidKinds true Rows.joinSamplesCard.stood.harness false
    joinSamples_holds0 (fun _ h => by cases h) (by kernel_rfl) (fun _ h => by cases h) joinSamples_row_tie rfl ⟨rfl, rfl⟩ (by kernel_rfl) rfl
    (fun f fn hf hfn => by
      obtain rfl : f = 8 := Option.some.inj ((show Tryd.prog.funcNamed "flagstone/flagstonelaw35.JoinSamples" = some 8 by kernel_rfl).symm.trans hf) |>.symm
      obtain rfl : fn = Tryd.f8 := (Option.some.inj (Tryd.func8.symm.trans hfn)).symm
      exact ⟨by kernel_rfl, fun j t ht => by
        have hm : t ∈ Tryd.f8.params.toList := by simpa using Array.mem_of_getElem? ht
        have hall : (Tryd.f8.params.toList.all fun u => !Tryd.prog.wantsStandIn u) = true := by kernel_rfl
        exact (show Tryd.prog.wantsStandIn t = false by simpa using List.all_eq_true.1 hall t hm)⟩)
    (by kernel_rfl)
end Go.Proofs.YtmnjmdajgilhiaaDoor

