/- Sectors and Bytes return what is specified, for any numbers and bytes. No condition beyond the card's. -/
import Derived.Test.YtocckceefcmeaaaGreatDoorCards
import Derived.Test.YtocckceefcmeaaaGreatDoorTie
import Derived.Test.YtocckceefcmeaaaGreatDoorPk11
import Derived.Test.YtocckceefcmeaaaGreatDoorPk20
import Derived.ProofKit
import Derived.SevenTiedAt
set_option linter.unusedVariables false
set_option linter.unusedSimpArgs false
set_option maxRecDepth 100000
set_option maxHeartbeats 16000000
namespace Go.Proofs.YtocckceefcmeaaaGreatDoor
open Go Go.RowKit Go.ChangeShapes Go.WideShapes Go.ChangeAt Go.Proofs.YtocckceefcmeaaaGreatDoor.Vc
theorem storeSectors_own : ownKnob Tryz.prog.godebug = none := by kernel_rfl
theorem storeSectors_laid : laidOutB Tryz.prog = true := by kernel_rfl
theorem storeSectors_rd : (Tryz.f3.params.toList.all fun t => Tryz.prog.readableRec t && Nat.blt t Tryz.prog.types.size) = true := by kernel_rfl
theorem storeSectors_met (os : Os) (args : Array Value) : laidMetH Tryz.prog Rows.storeSectorsRow.laid ((World.doorLaid Tryz.prog 400 os).forCall (fun _ _ => 0) ⟨#[], args, []⟩).memory :=
 laidMetH_of_parts3 (fuel := 8) (laidMet_of_run' 8 (by kernel_rfl) (by kernel_rfl)) (by kernel_rfl) (by kernel_rfl)
theorem storeSectors_lifted (os : Os) (started : os.Started) (H : Type) (enc : TypeId × Value → H) :
  ReturnsInHanded {} Tryz.checked os 3 .any (fun w args => (Rows.storeSectorsSpec.pre enc Tryz.prog Tryz.f3 [] false w args ∧ laidMetH Tryz.prog Rows.storeSectorsRow.laid w) ∧ sizedMet enc Tryz.prog Tryz.f3 (OpenSpec.ofChange Rows.storeSectorsSpec) false w args)
   (Rows.storeSectorsSpec.post enc Tryz.prog Tryz.f3 false true false false) := by
 refine returnsInHanded_of_change_and (C := Tryz.checked) (X := fun w _ => laidMetH Tryz.prog Rows.storeSectorsRow.laid w) (fun _ _ _ hh h => h.of_heap hh) storeSectors_own started (by kernel_rfl) Tryz.func3
  (ChangeSpec.witness_shaped (enc := enc) (C := Tryz.checked) (os := os) (X := fun w _ => laidMetH Tryz.prog Rows.storeSectorsRow.laid w) false (World.doorLaid Tryz.prog 400 os) #[.int .i64 0, .int .i64 0, .int .u8 0, .slice none 0 0] 8 rfl (World.shaped_of_RefB (by kernel_rfl) (by kernel_rfl)) (by kernel_rfl) (by kernel_rfl) (by kernel_rfl) (storeSectors_met os _)) ?_
 intro W base args ds gs before hval0 hW _ hwt hL _
 have hval : ∀ (j : Nat) t v, Tryz.f3.params[j]? = some t → args[j]? = some v → Value.okWide Tryz.prog W .any base t v := hval0
 obtain ⟨p, q, hA0, hV, hpq, hfz, hnd⟩ := id hW
 have hA : DataW.TrodAll enc Tryz.prog W 0 (fun _ => true) true Tryz.f3.params.toList args.toList ds p := hA0
 rw [Tryz.params3] at hA hval
 obtain ⟨v0, v1, v2, v3, d0, d1, d2, d3, p0, p1, p2, p3, rfl, rfl, rfl, h0, h1, h2, h3⟩ := trodAll_four hA
 obtain ⟨k0, rfl, _, _, w0⟩ := open_int (k := .i64) rfl (hval 0 3 v0 rfl rfl) h0
 have b0 := Cl.i64_of w0
 obtain ⟨k1, rfl, _, _, w1⟩ := open_int (k := .i64) rfl (hval 1 3 v1 rfl rfl) h1
 have b1 := Cl.i64_of w1
 obtain ⟨k2, rfl, _, _, w2⟩ := open_int (k := .u8) rfl (hval 2 5 v2 rfl rfl) h2
 obtain ⟨n2, rfl, b2⟩ := Cl.u8_of w2
 obtain ⟨oa3, l3, c3, hc3, b3, r3⟩ := Cl.rd_bys (t := 22) (e := 5) rfl rfl (rd_top h3)
 obtain rfl := val_slice (t := 22) (e := 5) rfl (hval 3 22 v3 rfl rfl) hc3
 refine Calls.mono (Ax.ret_of_afn (Cl.lawSectorsA k0 k1 n2 l3 b0 b1 b2) W (Cl.gs_of hL) _ ⟨.v _, .v _, .v _, r3, trivial⟩) ?_
 rintro e W' ⟨v, rfl, rfl, hB⟩
 exact ⟨_, rfl, law_post storeSectors_laid storeSectors_rd rfl rfl rfl (fun ds h => by
  match ds, h with
  | [_, _, _, _], _ => rfl) hW hB⟩
theorem storeSectors_holds0 : Rows.StoreSectorsSaid :=
 OpenClaim.holds_of_wide 3 Tryz.f3 rfl rfl rfl rfl rfl rfl rfl ⟨rfl, rfl, rfl, rfl, rfl⟩ rfl rfl rfl rfl rfl (by kernel_rfl) Tryz.func3 (by kernel_rfl)
  (of_decide_eq_true (by kernel_rfl)) (by unfold Func.isWrapper; first | (rw [if_pos (by decide +kernel)]; kernel_rfl) | (rw [if_neg (by decide +kernel)]; exact ⟨rfl, rfl⟩))
  (fun os started H enc _ => storeSectors_lifted os started H enc)
theorem storeSectors_holds : Rows.StoreSectorsCardSaid :=
 Claim7.holds_tied_plain_at .later [] Rows.storeSectorsCard.laidKinds true Rows.storeSectorsCard.stood.harness false
  storeSectors_holds0 (fun _ h => by cases h) (by kernel_rfl) (fun _ h => by cases h) storeSectors_row_tie rfl ⟨rfl, rfl⟩ (by kernel_rfl) rfl
  (fun f fn hf hfn => by
   obtain rfl : f = 3 := Option.some.inj ((show Tryz.prog.funcNamed "flagstone/flagstonelaw33.StoreSectors" = some 3 by kernel_rfl).symm.trans hf) |>.symm
   obtain rfl : fn = Tryz.f3 := (Option.some.inj (Tryz.func3.symm.trans hfn)).symm
   exact ⟨by kernel_rfl, fun j t ht => by
    have hm : t ∈ Tryz.f3.params.toList := by simpa using Array.mem_of_getElem? ht
    have hall : (Tryz.f3.params.toList.all fun u => !Tryz.prog.wantsStandIn u) = true := by kernel_rfl
    exact (show Tryz.prog.wantsStandIn t = false by simpa using List.all_eq_true.1 hall t hm)⟩)
  (by kernel_rfl)
end Go.Proofs.YtocckceefcmeaaaGreatDoor
