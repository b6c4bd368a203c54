/- The law StickyTells holds, with its card: Valid, Current, At and Forced return what the reference returns, for every id, layer and time of a register that was reached. No condition beyond the card's. -/
import Derived.Test.YtinpgogjkmmjpaaDoorCards
import Derived.Test.YtinpgogjkmmjpaaDoorTie
import Derived.Test.YtinpgogjkmmjpaaDoorSxr
import Derived.Test.YtinpgogjkmmjpaaDoorSx21
import Derived.ProofKit
import Derived.SevenTiedAt
import Derived.ChangeMaps5
set_option linter.unusedVariables false
set_option linter.unusedSimpArgs false
namespace Go.Proofs.YtinpgogjkmmjpaaDoor
open Go Go.RowKit Go.ChangeShapes Go.WideShapes Go.ChangeAt Go.Proofs.YtinpgogjkmmjpaaDoor.Vc

theorem stickyTells_own : ownKnob Tryd.prog.godebug = none := by kernel_rfl
theorem stickyTells_laid : laidOutB Tryd.prog = true := by kernel_rfl
theorem stickyTells_rd : (Tryd.f12.params.toList.all fun t => Tryd.prog.readableRec t && Nat.blt t Tryd.prog.types.size) = true := by kernel_rfl
theorem stickyTells_met (os : Os) (args : Array Value) : laidMetH Tryd.prog Rows.stickyTellsRow.laid ((World.doorLaid Tryd.prog 400 os).forCall (fun _ _ => 0) ⟨#[], args, []⟩).memory :=
  laidMetH_of_parts3 (fuel := 8) (laidMet_of_run' 8 (by kernel_rfl) (by kernel_rfl)) (by kernel_rfl) (by kernel_rfl)

set_option maxRecDepth 100000 in
theorem stickyTells_lifted (os : Os) (started : os.Started) (H : Type) (enc : TypeId × Value → H) :
    ReturnsInHanded {} Tryd.checked os 12 .any (fun w args => (Rows.stickyTellsSpec.pre enc Tryd.prog Tryd.f12 [] false w args ∧ laidMetH Tryd.prog Rows.stickyTellsRow.laid w) ∧ sizedMet enc Tryd.prog Tryd.f12 (OpenSpec.ofChange Rows.stickyTellsSpec) false w args)
      (Rows.stickyTellsSpec.post enc Tryd.prog Tryd.f12 false true false false) := by
  refine returnsInHanded_of_change_and (C := Tryd.checked) (X := fun w _ => laidMetH Tryd.prog Rows.stickyTellsRow.laid w) (fun _ _ _ hh h => h.of_heap hh) stickyTells_own started (by kernel_rfl) Tryd.func12
    (ChangeSpec.witness_shaped (enc := enc) (C := Tryd.checked) (os := os) (X := fun w _ => laidMetH Tryd.prog Rows.stickyTellsRow.laid w) false (World.doorLaid Tryd.prog 400 os) #[.slice none 0 0, .int .u8 0, .int .u8 0] 8 rfl (World.shaped_of_RefB (by kernel_rfl) (by kernel_rfl)) (by kernel_rfl) (by kernel_rfl) (by kernel_rfl) (stickyTells_met os _)) ?_
  intro W base args ds gs before hval0 hW _ hwt hL _
  have hval : ∀ (j : Nat) t v, Tryd.f12.params[j]? = some t → args[j]? = some v → Value.okWide Tryd.prog W .any base t v := hval0
  obtain ⟨p, q, hA0, hV, hpq, hfz, hnd⟩ := id hW
  have hA : DataW.TrodAll enc Tryd.prog W 0 (fun _ => true) true Tryd.f12.params.toList args.toList ds p := hA0
  rw [Tryd.params12] at hA hval
  obtain ⟨v0, v1, v2, d0, d1, d2, p0, p1, p2, rfl, rfl, rfl, h0, h1, h2⟩ := trodAll_three hA
  obtain ⟨oa0, l0, c0, hc0, hk0, hp0⟩ := Sx.rd_chgs (rd_top h0)
  obtain rfl := val_slice (t := 22) (e := 31) rfl (hval 0 22 v0 rfl rfl) hc0
  obtain ⟨k1, rfl, _, _, w1⟩ := open_int (k := .u8) rfl (hval 1 5 v1 rfl rfl) h1
  obtain ⟨n1, rfl, b1⟩ := Sx.u8_of w1
  obtain ⟨k2, rfl, _, _, w2⟩ := open_int (k := .u8) rfl (hval 2 5 v2 rfl rfl) h2
  obtain ⟨n2, rfl, b2⟩ := Sx.u8_of w2
  refine Calls.mono (Ax.ret_of_afn (Sx.tellsA l0 n1 n2 hk0 b1 b2) W (Sx.gs_of hL) _ ⟨hp0.1, .v _, .v _, trivial⟩) ?_
  rintro e W' ⟨v, rfl, rfl, hB⟩
  exact ⟨_, rfl, law_post stickyTells_laid stickyTells_rd rfl rfl rfl (fun ds h => by
    match ds, h with
    | [_, _, _], _ => rfl) hW hB⟩

theorem stickyTells_holds0 : Rows.StickyTellsSaid :=
  OpenClaim.holds_of_wide 12 Tryd.f12 rfl rfl rfl rfl rfl rfl rfl ⟨rfl, rfl, rfl, rfl, rfl⟩ rfl rfl rfl rfl rfl (by kernel_rfl) Tryd.func12 (by kernel_rfl)
    (of_decide_eq_true (by kernel_rfl)) (by unfold Func.isWrapper; first | (rw [if_pos (by decide +kernel)]; kernel_rfl) | (rw [if_neg (by decide +kernel)]; exact ⟨rfl, rfl⟩))
    (fun os started H enc _ => stickyTells_lifted os started H enc)
theorem stickyTells_holds : Rows.StickyTellsCardSaid :=
  Claim7.holds_tied_plain_at .later [] Rows.stickyTellsCard.laidKinds true Rows.stickyTellsCard.stood.harness false
    stickyTells_holds0 (fun _ h => by cases h) (by kernel_rfl) (fun _ h => by cases h) stickyTells_row_tie rfl ⟨rfl, rfl⟩ (by kernel_rfl) rfl
    (fun f fn hf hfn => by
      obtain rfl : f = 12 := Option.some.inj ((show Tryd.prog.funcNamed "flagstone/flagstonelaw27.StickyTells" = some 12 by kernel_rfl).symm.trans hf) |>.symm
      obtain rfl : fn = Tryd.f12 := (Option.some.inj (Tryd.func12.symm.trans hfn)).symm
      exact ⟨by kernel_rfl, fun j t ht => by
        have hm : t ∈ Tryd.f12.params.toList := by simpa using Array.mem_of_getElem? ht
        have hall : (Tryd.f12.params.toList.all fun u => !Tryd.prog.wantsStandIn u) = true := by kernel_rfl
        exact (show Tryd.prog.wantsStandIn t = false by simpa using List.all_eq_true.1 hall t hm)⟩)
    (by kernel_rfl)
end Go.Proofs.YtinpgogjkmmjpaaDoor
