/- The law StickyStays holds, with its card: a slot never changes but for its end, and slots and links are only added. No condition beyond the card's. -/
import Derived.Test.YtinpgogjkmmjpaaDoorCards
import Derived.Test.YtinpgogjkmmjpaaDoorTie
import Derived.Test.YtinpgogjkmmjpaaDoorSxr
import Derived.Test.YtinpgogjkmmjpaaDoorSx16
import Derived.ProofKit
import Derived.SevenTiedAt
set_option linter.unusedVariables false
set_option linter.unusedSimpArgs false
namespace Go.Proofs.YtinpgogjkmmjpaaDoor
open Go Go.RowKit Go.ChangeShapes Go.WideShapes Go.ChangeAt Go.Proofs.YtinpgogjkmmjpaaDoor.Vc

theorem stickyStays_own : ownKnob Tryd.prog.godebug = none := by kernel_rfl
theorem stickyStays_laid : laidOutB Tryd.prog = true := by kernel_rfl
theorem stickyStays_rd : (Tryd.f6.params.toList.all fun t => Tryd.prog.readableRec t && Nat.blt t Tryd.prog.types.size) = true := by kernel_rfl
theorem stickyStays_met (os : Os) (args : Array Value) : laidMetH Tryd.prog Rows.stickyStaysRow.laid ((World.doorLaid Tryd.prog 400 os).forCall (fun _ _ => 0) ⟨#[], args, []⟩).memory :=
  laidMetH_of_parts3 (fuel := 8) (laidMet_of_run' 8 (by kernel_rfl) (by kernel_rfl)) (by kernel_rfl) (by kernel_rfl)

set_option maxRecDepth 100000 in
theorem stickyStays_lifted (os : Os) (started : os.Started) (H : Type) (enc : TypeId × Value → H) :
    ReturnsInHanded {} Tryd.checked os 6 .any (fun w args => (Rows.stickyStaysSpec.pre enc Tryd.prog Tryd.f6 [] false w args ∧ laidMetH Tryd.prog Rows.stickyStaysRow.laid w) ∧ sizedMet enc Tryd.prog Tryd.f6 (OpenSpec.ofChange Rows.stickyStaysSpec) false w args)
      (Rows.stickyStaysSpec.post enc Tryd.prog Tryd.f6 false true false false) := by
  refine returnsInHanded_of_change_and (C := Tryd.checked) (X := fun w _ => laidMetH Tryd.prog Rows.stickyStaysRow.laid w) (fun _ _ _ hh h => h.of_heap hh) stickyStays_own started (by kernel_rfl) Tryd.func6
    (ChangeSpec.witness_shaped (enc := enc) (C := Tryd.checked) (os := os) (X := fun w _ => laidMetH Tryd.prog Rows.stickyStaysRow.laid w) false (World.doorLaid Tryd.prog 400 os) #[.slice none 0 0] 8 rfl (World.shaped_of_RefB (by kernel_rfl) (by kernel_rfl)) (by kernel_rfl) (by kernel_rfl) (by kernel_rfl) (stickyStays_met os _)) ?_
  intro W base args ds gs before hval0 hW _ hwt hL _
  have hval : ∀ (j : Nat) t v, Tryd.f6.params[j]? = some t → args[j]? = some v → Value.okWide Tryd.prog W .any base t v := hval0
  obtain ⟨p, q, hA0, hV, hpq, hfz, hnd⟩ := id hW
  have hA : DataW.TrodAll enc Tryd.prog W 0 (fun _ => true) true Tryd.f6.params.toList args.toList ds p := hA0
  rw [Tryd.params6] at hA hval
  obtain ⟨v0, d0, rfl, rfl, h0⟩ := trodAll_one hA
  obtain ⟨oa0, l0, c0, hc0, hk0, hp0⟩ := Sx.rd_chgs (rd_top h0)
  obtain rfl := val_slice (t := 22) (e := 31) rfl (hval 0 22 v0 rfl rfl) hc0
  refine Calls.mono (Ax.ret_of_afn (Sx.staysA l0 hk0) W (Sx.gs_of hL) _ hp0) ?_
  rintro e W' ⟨v, rfl, rfl, hB⟩
  exact ⟨_, rfl, law_post stickyStays_laid stickyStays_rd rfl rfl rfl (fun ds h => by
    match ds, h with
    | [_], _ => rfl) hW hB⟩

theorem stickyStays_holds0 : Rows.StickyStaysSaid :=
  OpenClaim.holds_of_wide 6 Tryd.f6 rfl rfl rfl rfl rfl rfl rfl ⟨rfl, rfl, rfl, rfl, rfl⟩ rfl rfl rfl rfl rfl (by kernel_rfl) Tryd.func6 (by kernel_rfl)
    (of_decide_eq_true (by kernel_rfl)) (by unfold Func.isWrapper; first | (rw [if_pos (by decide +kernel)]; kernel_rfl) | (rw [if_neg (by decide +kernel)]; exact ⟨rfl, rfl⟩))
    (fun os started H enc _ => stickyStays_lifted os started H enc)
theorem stickyStays_holds : Rows.StickyStaysCardSaid :=
  Claim7.holds_tied_plain_at .later [] Rows.stickyStaysCard.laidKinds true Rows.stickyStaysCard.stood.harness false
    stickyStays_holds0 (fun _ h => by cases h) (by kernel_rfl) (fun _ h => by cases h) stickyStays_row_tie rfl ⟨rfl, rfl⟩ (by kernel_rfl) rfl
    (fun f fn hf hfn => by
      obtain rfl : f = 6 := Option.some.inj ((show Tryd.prog.funcNamed "flagstone/flagstonelaw27.StickyStays" = some 6 by kernel_rfl).symm.trans hf) |>.symm
      obtain rfl : fn = Tryd.f6 := (Option.some.inj (Tryd.func6.symm.trans hfn)).symm
      exact ⟨by kernel_rfl, fun j t ht => by
        have hm : t ∈ Tryd.f6.params.toList := by simpa using Array.mem_of_getElem? ht
        have hall : (Tryd.f6.params.toList.all fun u => !Tryd.prog.wantsStandIn u) = true := by kernel_rfl
        exact (show Tryd.prog.wantsStandIn t = false by simpa using List.all_eq_true.1 hall t hm)⟩)
    (by kernel_rfl)
end Go.Proofs.YtinpgogjkmmjpaaDoor
