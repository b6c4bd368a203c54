/- The law JoinTallies holds, with its card: Tally counts each sample once in its arm. No condition beyond the card's. -/
import Derived.Test.YtmnjmdajgilhiaaDoorCards
import Derived.Test.YtmnjmdajgilhiaaDoorTie
import Derived.Test.YtmnjmdajgilhiaaDoorKgr
import Derived.Test.YtmnjmdajgilhiaaDoorJ8
import Derived.ProofKit
import Derived.SevenTiedAt
set_option linter.unusedVariables false
set_option linter.unusedSimpArgs false
namespace Go.Proofs.YtmnjmdajgilhiaaDoor
open Go Go.RowKit Go.ChangeShapes Go.WideShapes Go.ChangeAt Go.Proofs.YtmnjmdajgilhiaaDoor.Vc

theorem joinTallies_own : ownKnob Tryd.prog.godebug = none := by kernel_rfl
theorem joinTallies_laid : laidOutB Tryd.prog = true := by kernel_rfl
theorem joinTallies_rd : (Tryd.f9.params.toList.all fun t => Tryd.prog.readableRec t && Nat.blt t Tryd.prog.types.size) = true := by kernel_rfl
theorem joinTallies_met (os : Os) (args : Array Value) : laidMetH Tryd.prog Rows.joinTalliesRow.laid ((World.doorLaid Tryd.prog 400 os).forCall (fun _ _ => 0) ⟨#[], args, []⟩).memory :=
  laidMetH_of_parts3 (fuel := 8) (laidMet_of_run' 8 (by kernel_rfl) (by kernel_rfl)) (by kernel_rfl) (by kernel_rfl)

set_option maxRecDepth 100000 in
theorem joinTallies_lifted (os : Os) (started : os.Started) (H : Type) (enc : TypeId × Value → H) :
    ReturnsInHanded {} Tryd.checked os 9 .any (fun w args => (Rows.joinTalliesSpec.pre enc Tryd.prog Tryd.f9 [] false w args ∧ laidMetH Tryd.prog Rows.joinTalliesRow.laid w) ∧ sizedMet enc Tryd.prog Tryd.f9 (OpenSpec.ofChange Rows.joinTalliesSpec) false w args)
      (Rows.joinTalliesSpec.post enc Tryd.prog Tryd.f9 false true false false) := by
  refine returnsInHanded_of_change_and (C := Tryd.checked) (X := fun w _ => laidMetH Tryd.prog Rows.joinTalliesRow.laid w) (fun _ _ _ hh h => h.of_heap hh) joinTallies_own started (by kernel_rfl) Tryd.func9
    (ChangeSpec.witness_shaped (enc := enc) (C := Tryd.checked) (os := os) (X := fun w _ => laidMetH Tryd.prog Rows.joinTalliesRow.laid w) false (World.doorLaid Tryd.prog 400 os) #[.slice none 0 0, .int .u8 0] 8 rfl (World.shaped_of_RefB (by kernel_rfl) (by kernel_rfl)) (by kernel_rfl) (by kernel_rfl) (by kernel_rfl) (joinTallies_met os _)) ?_
  intro W base args ds gs before hval0 hW _ hwt hL _
  have hval : ∀ (j : Nat) t v, Tryd.f9.params[j]? = some t → args[j]? = some v → Value.okWide Tryd.prog W .any base t v := hval0
  obtain ⟨p, q, hA0, hV, hpq, hfz, hnd⟩ := id hW
  have hA : DataW.TrodAll enc Tryd.prog W 0 (fun _ => true) true Tryd.f9.params.toList args.toList ds p := hA0
  rw [Tryd.params9] at hA hval
  obtain ⟨v0, v1, d0, d1, p0, p1, rfl, rfl, rfl, h0, h1⟩ := trodAll_two hA
  obtain ⟨oa0, l0, c0, hc0, b0, r0⟩ := Cl.rd_bys (t := 22) (e := 5) rfl rfl (rd_top h0)
  obtain rfl := val_slice (t := 22) (e := 5) rfl (hval 0 22 v0 rfl rfl) hc0
  obtain ⟨k1, rfl, _, _, w1⟩ := open_int (k := .u8) rfl (hval 1 5 v1 rfl rfl) h1
  obtain ⟨n1, rfl, b1⟩ := Cl.u8_of w1
  refine Calls.mono (Ax.ret_of_afn (Cl.lawTalliesA l0 n1 b1) W (Cl.gs_of hL) _ ⟨r0, .v _, trivial⟩) ?_
  rintro e W' ⟨v, rfl, rfl, hB⟩
  exact ⟨_, rfl, law_post joinTallies_laid joinTallies_rd rfl rfl rfl (fun ds h => by
    match ds, h with
    | [_, _], _ => rfl) hW hB⟩

theorem joinTallies_holds0 : Rows.JoinTalliesSaid :=
  OpenClaim.holds_of_wide 9 Tryd.f9 rfl rfl rfl rfl rfl rfl rfl ⟨rfl, rfl, rfl, rfl, rfl⟩ rfl rfl rfl rfl rfl (by kernel_rfl) Tryd.func9 (by kernel_rfl)
    (of_decide_eq_true (by kernel_rfl)) (by unfold Func.isWrapper; first | (rw [if_pos (by decide +kernel)]; kernel_rfl) | (rw [if_neg (by decide +kernel)]; exact ⟨rfl, rfl⟩))
    (fun os started H enc _ => joinTallies_lifted os started H enc)
theorem joinTallies_holds : Rows.JoinTalliesCardSaid :=
  Claim7.holds_tied_plain_at .later [] Rows.joinTalliesCard.laidKinds true Rows.joinTalliesCard.stood.harness false
    joinTallies_holds0 (fun _ h => by cases h) (by kernel_rfl) (fun _ h => by cases h) joinTallies_row_tie rfl ⟨rfl, rfl⟩ (by kernel_rfl) rfl
    (fun f fn hf hfn => by
      obtain rfl : f = 9 := Option.some.inj ((show Tryd.prog.funcNamed "flagstone/flagstonelaw35.JoinTallies" = some 9 by kernel_rfl).symm.trans hf) |>.symm
      obtain rfl : fn = Tryd.f9 := (Option.some.inj (Tryd.func9.symm.trans hfn)).symm
      exact ⟨by kernel_rfl, fun j t ht => by
        have hm : t ∈ Tryd.f9.params.toList := by simpa using Array.mem_of_getElem? ht
        have hall : (Tryd.f9.params.toList.all fun u => !Tryd.prog.wantsStandIn u) = true := by kernel_rfl
        exact (show Tryd.prog.wantsStandIn t = false by simpa using List.all_eq_true.1 hall t hm)⟩)
    (by kernel_rfl)
end Go.Proofs.YtmnjmdajgilhiaaDoor

