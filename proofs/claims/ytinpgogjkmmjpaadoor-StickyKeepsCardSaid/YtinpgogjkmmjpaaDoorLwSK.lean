/- The law StickyKeeps holds, with its card: a subject that has a slot keeps it until it ends. No condition beyond the card's. -/
import Derived.Test.YtinpgogjkmmjpaaDoorCards
import Derived.Test.YtinpgogjkmmjpaaDoorTie
import Derived.Test.YtinpgogjkmmjpaaDoorSxr
import Derived.Test.YtinpgogjkmmjpaaDoorSx17
import Derived.ProofKit
import Derived.SevenTiedAt
set_option linter.unusedVariables false
set_option linter.unusedSimpArgs false
namespace Go.Proofs.YtinpgogjkmmjpaaDoor
open Go Go.RowKit Go.ChangeShapes Go.WideShapes Go.ChangeAt Go.Proofs.YtinpgogjkmmjpaaDoor.Vc

theorem stickyKeeps_own : ownKnob Tryd.prog.godebug = none := by kernel_rfl
theorem stickyKeeps_laid : laidOutB Tryd.prog = true := by kernel_rfl
theorem stickyKeeps_rd : (Tryd.f11.params.toList.all fun t => Tryd.prog.readableRec t && Nat.blt t Tryd.prog.types.size) = true := by kernel_rfl
theorem stickyKeeps_met (os : Os) (args : Array Value) : laidMetH Tryd.prog Rows.stickyKeepsRow.laid ((World.doorLaid Tryd.prog 400 os).forCall (fun _ _ => 0) ⟨#[], args, []⟩).memory :=
  laidMetH_of_parts3 (fuel := 8) (laidMet_of_run' 8 (by kernel_rfl) (by kernel_rfl)) (by kernel_rfl) (by kernel_rfl)

set_option maxRecDepth 100000 in
theorem stickyKeeps_lifted (os : Os) (started : os.Started) (H : Type) (enc : TypeId × Value → H) :
    ReturnsInHanded {} Tryd.checked os 11 .any (fun w args => (Rows.stickyKeepsSpec.pre enc Tryd.prog Tryd.f11 [] false w args ∧ laidMetH Tryd.prog Rows.stickyKeepsRow.laid w) ∧ sizedMet enc Tryd.prog Tryd.f11 (OpenSpec.ofChange Rows.stickyKeepsSpec) false w args)
      (Rows.stickyKeepsSpec.post enc Tryd.prog Tryd.f11 false true false false) := by
  refine returnsInHanded_of_change_and (C := Tryd.checked) (X := fun w _ => laidMetH Tryd.prog Rows.stickyKeepsRow.laid w) (fun _ _ _ hh h => h.of_heap hh) stickyKeeps_own started (by kernel_rfl) Tryd.func11
    (ChangeSpec.witness_shaped (enc := enc) (C := Tryd.checked) (os := os) (X := fun w _ => laidMetH Tryd.prog Rows.stickyKeepsRow.laid w) false (World.doorLaid Tryd.prog 400 os) #[.slice none 0 0, .agg #[.int .u8 0, .int .u8 0, .int .u8 0, .int .u8 0, .int .u8 0, .int .u8 0, .int .u8 0]] 8 rfl (World.shaped_of_RefB (by kernel_rfl) (by kernel_rfl)) (by kernel_rfl) (by kernel_rfl) (by kernel_rfl) (stickyKeeps_met os _)) ?_
  intro W base args ds gs before hval0 hW _ hwt hL _
  have hval : ∀ (j : Nat) t v, Tryd.f11.params[j]? = some t → args[j]? = some v → Value.okWide Tryd.prog W .any base t v := hval0
  obtain ⟨p, q, hA0, hV, hpq, hfz, hnd⟩ := id hW
  have hA : DataW.TrodAll enc Tryd.prog W 0 (fun _ => true) true Tryd.f11.params.toList args.toList ds p := hA0
  rw [Tryd.params11] at hA hval
  obtain ⟨v0, v1, d0, d1, p0, p1, rfl, rfl, rfl, h0, h1⟩ := trodAll_two hA
  obtain ⟨oa0, l0, c0, hc0, hk0, hp0⟩ := Sx.rd_chgs (rd_top h0)
  obtain rfl := val_slice (t := 22) (e := 31) rfl (hval 0 22 v0 rfl rfl) hc0
  obtain ⟨x1, e1, ho1⟩ := Sx.rd_chg (rd_top h1)
  obtain ⟨cs1, rfl, _⟩ := okWide_struct rfl (hval 1 31 v1 rfl rfl)
  obtain rfl : cs1 = (Sx.chc x1).toArray := by
    apply Array.ext'
    simpa [Value.cells] using e1
  refine Calls.mono (Ax.ret_of_afn (Sx.keepsA l0 x1 hk0 ho1) W (Sx.gs_of hL) _ ⟨hp0.1, (Ax.map_v_rep (Sx.chc x1)).agg, trivial⟩) ?_
  rintro e W' ⟨v, rfl, rfl, hB⟩
  exact ⟨_, rfl, law_post stickyKeeps_laid stickyKeeps_rd rfl rfl rfl (fun ds h => by
    match ds, h with
    | [_, _], _ => rfl) hW hB⟩

theorem stickyKeeps_holds0 : Rows.StickyKeepsSaid :=
  OpenClaim.holds_of_wide 11 Tryd.f11 rfl rfl rfl rfl rfl rfl rfl ⟨rfl, rfl, rfl, rfl, rfl⟩ rfl rfl rfl rfl rfl (by kernel_rfl) Tryd.func11 (by kernel_rfl)
    (of_decide_eq_true (by kernel_rfl)) (by unfold Func.isWrapper; first | (rw [if_pos (by decide +kernel)]; kernel_rfl) | (rw [if_neg (by decide +kernel)]; exact ⟨rfl, rfl⟩))
    (fun os started H enc _ => stickyKeeps_lifted os started H enc)
theorem stickyKeeps_holds : Rows.StickyKeepsCardSaid :=
  Claim7.holds_tied_plain_at .later [] Rows.stickyKeepsCard.laidKinds true Rows.stickyKeepsCard.stood.harness false
    stickyKeeps_holds0 (fun _ h => by cases h) (by kernel_rfl) (fun _ h => by cases h) stickyKeeps_row_tie rfl ⟨rfl, rfl⟩ (by kernel_rfl) rfl
    (fun f fn hf hfn => by
      obtain rfl : f = 11 := Option.some.inj ((show Tryd.prog.funcNamed "flagstone/flagstonelaw27.StickyKeeps" = some 11 by kernel_rfl).symm.trans hf) |>.symm
      obtain rfl : fn = Tryd.f11 := (Option.some.inj (Tryd.func11.symm.trans hfn)).symm
      exact ⟨by kernel_rfl, fun j t ht => by
        have hm : t ∈ Tryd.f11.params.toList := by simpa using Array.mem_of_getElem? ht
        have hall : (Tryd.f11.params.toList.all fun u => !Tryd.prog.wantsStandIn u) = true := by kernel_rfl
        exact (show Tryd.prog.wantsStandIn t = false by simpa using List.all_eq_true.1 hall t hm)⟩)
    (by kernel_rfl)
end Go.Proofs.YtinpgogjkmmjpaaDoor
