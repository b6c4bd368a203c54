/- The law JoinShares holds, with its card: no event is counted for two samples. No condition beyond the card's. -/
import Derived.Test.YtmnjmdajgilhiaaDoorCards
import Derived.Test.YtmnjmdajgilhiaaDoorTie
import Derived.Test.YtmnjmdajgilhiaaDoorClr
import Derived.Test.YtmnjmdajgilhiaaDoorKgr
import Derived.Test.YtmnjmdajgilhiaaDoorJ6
import Derived.ProofKit
import Derived.SevenTiedAt
set_option linter.unusedVariables false
set_option linter.unusedSimpArgs false
namespace Go.Proofs.YtmnjmdajgilhiaaDoor
open Go Go.RowKit Go.ChangeShapes Go.WideShapes Go.ChangeAt Go.Proofs.YtmnjmdajgilhiaaDoor.Vc

theorem joinShares_own : ownKnob Tryd.prog.godebug = none := by kernel_rfl
theorem joinShares_laid : laidOutB Tryd.prog = true := by kernel_rfl
theorem joinShares_rd : (Tryd.f4.params.toList.all fun t => Tryd.prog.readableRec t && Nat.blt t Tryd.prog.types.size) = true := by kernel_rfl
theorem joinShares_met (os : Os) (args : Array Value) : laidMetH Tryd.prog Rows.joinSharesRow.laid ((World.doorLaid Tryd.prog 400 os).forCall (fun _ _ => 0) ⟨#[], args, []⟩).memory :=
  laidMetH_of_parts3 (fuel := 8) (laidMet_of_run' 8 (by kernel_rfl) (by kernel_rfl)) (by kernel_rfl) (by kernel_rfl)

set_option maxRecDepth 100000 in
theorem joinShares_lifted (os : Os) (started : os.Started) (H : Type) (enc : TypeId × Value → H) :
    ReturnsInHanded {} Tryd.checked os 4 .any (fun w args => (Rows.joinSharesSpec.pre enc Tryd.prog Tryd.f4 [] false w args ∧ laidMetH Tryd.prog Rows.joinSharesRow.laid w) ∧ sizedMet enc Tryd.prog Tryd.f4 (OpenSpec.ofChange Rows.joinSharesSpec) false w args)
      (Rows.joinSharesSpec.post enc Tryd.prog Tryd.f4 false true false false) := by
  refine returnsInHanded_of_change_and (C := Tryd.checked) (X := fun w _ => laidMetH Tryd.prog Rows.joinSharesRow.laid w) (fun _ _ _ hh h => h.of_heap hh) joinShares_own started (by kernel_rfl) Tryd.func4
    (ChangeSpec.witness_shaped (enc := enc) (C := Tryd.checked) (os := os) (X := fun w _ => laidMetH Tryd.prog Rows.joinSharesRow.laid w) false (World.doorLaid Tryd.prog 400 os) #[.slice none 0 0, .int .u8 0, .int .u8 0, .int .u8 0] 8 rfl (World.shaped_of_RefB (by kernel_rfl) (by kernel_rfl)) (by kernel_rfl) (by kernel_rfl) (by kernel_rfl) (joinShares_met os _)) ?_
  intro W base args ds gs before hval0 hW _ hwt hL _
  have hval : ∀ (j : Nat) t v, Tryd.f4.params[j]? = some t → args[j]? = some v → Value.okWide Tryd.prog W .any base t v := hval0
  obtain ⟨p, q, hA0, hV, hpq, hfz, hnd⟩ := id hW
  have hA : DataW.TrodAll enc Tryd.prog W 0 (fun _ => true) true Tryd.f4.params.toList args.toList ds p := hA0
  rw [Tryd.params4] at hA hval
  obtain ⟨v0, v1, v2, v3, d0, d1, d2, d3, p0, p1, p2, p3, rfl, rfl, rfl, h0, h1, h2, h3⟩ := trodAll_four hA
  obtain ⟨oa0, l0, c0, hc0, b0, r0⟩ := Cl.rd_bys (t := 22) (e := 5) rfl rfl (rd_top h0)
  obtain rfl := val_slice (t := 22) (e := 5) rfl (hval 0 22 v0 rfl rfl) hc0
  obtain ⟨k1, rfl, _, _, w1⟩ := open_int (k := .u8) rfl (hval 1 5 v1 rfl rfl) h1
  obtain ⟨n1, rfl, b1⟩ := Cl.u8_of w1
  obtain ⟨k2, rfl, _, _, w2⟩ := open_int (k := .u8) rfl (hval 2 5 v2 rfl rfl) h2
  obtain ⟨n2, rfl, b2⟩ := Cl.u8_of w2
  obtain ⟨k3, rfl, _, _, w3⟩ := open_int (k := .u8) rfl (hval 3 5 v3 rfl rfl) h3
  obtain ⟨n3, rfl, b3⟩ := Cl.u8_of w3
  refine Calls.mono (Ax.ret_of_afn (Cl.lawSharesA l0 n1 n2 n3 b1 b2 b3) W (Cl.gs_of hL) _ ⟨r0, .v _, .v _, .v _, trivial⟩) ?_
  rintro e W' ⟨v, rfl, rfl, hB⟩
  exact ⟨_, rfl, law_post joinShares_laid joinShares_rd rfl rfl rfl (fun ds h => by
    match ds, h with
    | [_, _, _, _], _ => rfl) hW hB⟩

theorem joinShares_holds0 : Rows.JoinSharesSaid :=
  OpenClaim.holds_of_wide 4 Tryd.f4 rfl rfl rfl rfl rfl rfl rfl ⟨rfl, rfl, rfl, rfl, rfl⟩ rfl rfl rfl rfl rfl (by kernel_rfl) Tryd.func4 (by kernel_rfl)
    (of_decide_eq_true (by kernel_rfl)) (by unfold Func.isWrapper; first | (rw [if_pos (by decide +kernel)]; kernel_rfl) | (rw [if_neg (by decide +kernel)]; exact ⟨rfl, rfl⟩))
    (fun os started H enc _ => joinShares_lifted os started H enc)
theorem joinShares_holds : Rows.JoinSharesCardSaid :=
  Claim7.holds_tied_plain_at .later [] Rows.joinSharesCard.laidKinds true Rows.joinSharesCard.stood.harness false
    joinShares_holds0 (fun _ h => by cases h) (by kernel_rfl) (fun _ h => by cases h) joinShares_row_tie rfl ⟨rfl, rfl⟩ (by kernel_rfl) rfl
    (fun f fn hf hfn => by
      obtain rfl : f = 4 := Option.some.inj ((show Tryd.prog.funcNamed "flagstone/flagstonelaw35.JoinShares" = some 4 by kernel_rfl).symm.trans hf) |>.symm
      obtain rfl : fn = Tryd.f4 := (Option.some.inj (Tryd.func4.symm.trans hfn)).symm
      exact ⟨by kernel_rfl, fun j t ht => by
        have hm : t ∈ Tryd.f4.params.toList := by simpa using Array.mem_of_getElem? ht
        have hall : (Tryd.f4.params.toList.all fun u => !Tryd.prog.wantsStandIn u) = true := by kernel_rfl
        exact (show Tryd.prog.wantsStandIn t = false by simpa using List.all_eq_true.1 hall t hm)⟩)
    (by kernel_rfl)
end Go.Proofs.YtmnjmdajgilhiaaDoor

