/- The law JoinPlain holds, with its card: without links each id is a subject of its own. No condition beyond the card's. -/
import Derived.Test.YtmnjmdajgilhiaaDoorCards
import Derived.Test.YtmnjmdajgilhiaaDoorTie
import Derived.Test.YtmnjmdajgilhiaaDoorKgr
import Derived.Test.YtmnjmdajgilhiaaDoorJi2
import Derived.ProofKit
import Derived.SevenTiedAt
set_option linter.unusedVariables false
set_option linter.unusedSimpArgs false
namespace Go.Proofs.YtmnjmdajgilhiaaDoor
open Go Go.RowKit Go.ChangeShapes Go.WideShapes Go.ChangeAt Go.Proofs.YtmnjmdajgilhiaaDoor.Vc

theorem joinPlain_own : ownKnob Tryd.prog.godebug = none := by kernel_rfl
theorem joinPlain_laid : laidOutB Tryd.prog = true := by kernel_rfl
theorem joinPlain_rd : (Tryd.f5.params.toList.all fun t => Tryd.prog.readableRec t && Nat.blt t Tryd.prog.types.size) = true := by kernel_rfl
theorem joinPlain_met (os : Os) (args : Array Value) : laidMetH Tryd.prog Rows.joinPlainRow.laid ((World.doorLaid Tryd.prog 400 os).forCall (fun _ _ => 0) ⟨#[], args, []⟩).memory :=
  laidMetH_of_parts3 (fuel := 8) (laidMet_of_run' 8 (by kernel_rfl) (by kernel_rfl)) (by kernel_rfl) (by kernel_rfl)

set_option maxRecDepth 100000 in
theorem joinPlain_lifted (os : Os) (started : os.Started) (H : Type) (enc : TypeId × Value → H) :
    ReturnsInHanded {} Tryd.checked os 5 .any (fun w args => (Rows.joinPlainSpec.pre enc Tryd.prog Tryd.f5 [] false w args ∧ laidMetH Tryd.prog Rows.joinPlainRow.laid w) ∧ sizedMet enc Tryd.prog Tryd.f5 (OpenSpec.ofChange Rows.joinPlainSpec) false w args)
      (Rows.joinPlainSpec.post enc Tryd.prog Tryd.f5 false true false false) := by
  refine returnsInHanded_of_change_and (C := Tryd.checked) (X := fun w _ => laidMetH Tryd.prog Rows.joinPlainRow.laid w) (fun _ _ _ hh h => h.of_heap hh) joinPlain_own started (by kernel_rfl) Tryd.func5
    (ChangeSpec.witness_shaped (enc := enc) (C := Tryd.checked) (os := os) (X := fun w _ => laidMetH Tryd.prog Rows.joinPlainRow.laid w) false (World.doorLaid Tryd.prog 400 os) #[.slice none 0 0, .slice none 0 0, .int .u8 0] 8 rfl (World.shaped_of_RefB (by kernel_rfl) (by kernel_rfl)) (by kernel_rfl) (by kernel_rfl) (by kernel_rfl) (joinPlain_met os _)) ?_
  intro W base args ds gs before hval0 hW _ hwt hL _
  have hval : ∀ (j : Nat) t v, Tryd.f5.params[j]? = some t → args[j]? = some v → Value.okWide Tryd.prog W .any base t v := hval0
  obtain ⟨p, q, hA0, hV, hpq, hfz, hnd⟩ := id hW
  have hA : DataW.TrodAll enc Tryd.prog W 0 (fun _ => true) true Tryd.f5.params.toList args.toList ds p := hA0
  rw [Tryd.params5] at hA hval
  obtain ⟨v0, v1, v2, d0, d1, d2, p0, p1, p2, rfl, rfl, rfl, h0, h1, h2⟩ := trodAll_three hA
  obtain ⟨oa0, l0, c0, hc0, b0, r0⟩ := Cl.rd_bys (t := 22) (e := 5) rfl rfl (rd_top h0)
  obtain rfl := val_slice (t := 22) (e := 5) rfl (hval 0 22 v0 rfl rfl) hc0
  obtain ⟨oa1, l1, c1, hc1, b1, r1⟩ := Cl.rd_bys (t := 22) (e := 5) rfl rfl (rd_top h1)
  obtain rfl := val_slice (t := 22) (e := 5) rfl (hval 1 22 v1 rfl rfl) hc1
  obtain ⟨k2, rfl, _, _, w2⟩ := open_int (k := .u8) rfl (hval 2 5 v2 rfl rfl) h2
  obtain ⟨n2, rfl, b2⟩ := Cl.u8_of w2
  refine Calls.mono (Ax.ret_of_afn (Cl.lawPlainA l0 l1 n2 b2) W (Cl.gs_of hL) _ ⟨r0, r1, .v _, trivial⟩) ?_
  rintro e W' ⟨v, rfl, rfl, hB⟩
  exact ⟨_, rfl, law_post joinPlain_laid joinPlain_rd rfl rfl rfl (fun ds h => by
    match ds, h with
    | [_, _, _], _ => rfl) hW hB⟩

theorem joinPlain_holds0 : Rows.JoinPlainSaid :=
  OpenClaim.holds_of_wide 5 Tryd.f5 rfl rfl rfl rfl rfl rfl rfl ⟨rfl, rfl, rfl, rfl, rfl⟩ rfl rfl rfl rfl rfl (by kernel_rfl) Tryd.func5 (by kernel_rfl)
    (of_decide_eq_true (by kernel_rfl)) (by unfold Func.isWrapper; first | (rw [if_pos (by decide +kernel)]; kernel_rfl) | (rw [if_neg (by decide +kernel)]; exact ⟨rfl, rfl⟩))
    (fun os started H enc _ => joinPlain_lifted os started H enc)
theorem joinPlain_holds : Rows.JoinPlainCardSaid :=
  Claim7.holds_tied_plain_at .later [] Rows.joinPlainCard.laidKinds true Rows.joinPlainCard.stood.harness false
    joinPlain_holds0 (fun _ h => by cases h) (by kernel_rfl) (fun _ h => by cases h) joinPlain_row_tie rfl ⟨rfl, rfl⟩ (by kernel_rfl) rfl
    (fun f fn hf hfn => by
      obtain rfl : f = 5 := Option.some.inj ((show Tryd.prog.funcNamed "flagstone/flagstonelaw35.JoinPlain" = some 5 by kernel_rfl).symm.trans hf) |>.symm
      obtain rfl : fn = Tryd.f5 := (Option.some.inj (Tryd.func5.symm.trans hfn)).symm
      exact ⟨by kernel_rfl, fun j t ht => by
        have hm : t ∈ Tryd.f5.params.toList := by simpa using Array.mem_of_getElem? ht
        have hall : (Tryd.f5.params.toList.all fun u => !Tryd.prog.wantsStandIn u) = true := by kernel_rfl
        exact (show Tryd.prog.wantsStandIn t = false by simpa using List.all_eq_true.1 hall t hm)⟩)
    (by kernel_rfl)
end Go.Proofs.YtmnjmdajgilhiaaDoor

