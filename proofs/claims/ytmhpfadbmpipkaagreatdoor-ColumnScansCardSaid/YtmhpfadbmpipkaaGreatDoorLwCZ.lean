/- The law ColumnScans holds, with its card: Scan returns the events of a range of times and the number of chunks. No condition beyond the card's. -/
import Derived.Test.YtmhpfadbmpipkaaGreatDoorCards
import Derived.Test.YtmhpfadbmpipkaaGreatDoorTie
import Derived.Test.YtmhpfadbmpipkaaGreatDoorPk21
import Derived.ProofKit
import Derived.SevenTiedAt
set_option linter.unusedVariables false
set_option linter.unusedSimpArgs false
set_option maxRecDepth 100000
set_option maxHeartbeats 16000000
namespace Go.Proofs.YtmhpfadbmpipkaaGreatDoor
open Go Go.RowKit Go.ChangeShapes Go.WideShapes Go.ChangeAt Go.Proofs.YtmhpfadbmpipkaaGreatDoor.Vc
theorem columnScans_own : ownKnob Tryz.prog.godebug = none := by kernel_rfl
theorem columnScans_laid : laidOutB Tryz.prog = true := by kernel_rfl
theorem columnScans_rd : (Tryz.f5.params.toList.all fun t => Tryz.prog.readableRec t && Nat.blt t Tryz.prog.types.size) = true := by kernel_rfl
theorem columnScans_met (os : Os) (args : Array Value) : laidMetH Tryz.prog Rows.columnScansRow.laid ((World.doorLaid Tryz.prog 400 os).forCall (fun _ _ => 0) ⟨#[], args, []⟩).memory :=
 laidMetH_of_parts3 (fuel := 8) (laidMet_of_run' 8 (by kernel_rfl) (by kernel_rfl)) (by kernel_rfl) (by kernel_rfl)
theorem columnScans_lifted (os : Os) (started : os.Started) (H : Type) (enc : TypeId × Value → H) :
  ReturnsInHanded {} Tryz.checked os 5 .any (fun w args => (Rows.columnScansSpec.pre enc Tryz.prog Tryz.f5 [] false w args ∧ laidMetH Tryz.prog Rows.columnScansRow.laid w) ∧ sizedMet enc Tryz.prog Tryz.f5 (OpenSpec.ofChange Rows.columnScansSpec) false w args)
   (Rows.columnScansSpec.post enc Tryz.prog Tryz.f5 false true false false) := by
 refine returnsInHanded_of_change_and (C := Tryz.checked) (X := fun w _ => laidMetH Tryz.prog Rows.columnScansRow.laid w) (fun _ _ _ hh h => h.of_heap hh) columnScans_own started (by kernel_rfl) Tryz.func5
  (ChangeSpec.witness_shaped (enc := enc) (C := Tryz.checked) (os := os) (X := fun w _ => laidMetH Tryz.prog Rows.columnScansRow.laid w) false (World.doorLaid Tryz.prog 400 os) #[.slice none 0 0, .int .i8 0, .int .i8 0, .slice none 0 0] 8 rfl (World.shaped_of_RefB (by kernel_rfl) (by kernel_rfl)) (by kernel_rfl) (by kernel_rfl) (by kernel_rfl) (columnScans_met os _)) ?_
 intro W base args ds gs before hval0 hW _ hwt hL _
 have hval : ∀ (j : Nat) t v, Tryz.f5.params[j]? = some t → args[j]? = some v → Value.okWide Tryz.prog W .any base t v := hval0
 obtain ⟨p, q, hA0, hV, hpq, hfz, hnd⟩ := id hW
 have hA : DataW.TrodAll enc Tryz.prog W 0 (fun _ => true) true Tryz.f5.params.toList args.toList ds p := hA0
 rw [Tryz.params5] at hA hval
 obtain ⟨v0, v1, v2, v3, d0, d1, d2, d3, p0, p1, p2, p3, rfl, rfl, rfl, h0, h1, h2, h3⟩ := trodAll_four hA
 obtain ⟨oa0, l0, c0, hc0, b0, r0⟩ := Cl.rd_bys (t := 23) (e := 5) rfl rfl (rd_top h0)
 obtain rfl := val_slice (t := 23) (e := 5) rfl (hval 0 23 v0 rfl rfl) hc0
 obtain ⟨k1, rfl, _, _, w1⟩ := open_int (k := .i8) rfl (hval 1 40 v1 rfl rfl) h1
 have b1 := Cl.i8_of w1
 obtain ⟨k2, rfl, _, _, w2⟩ := open_int (k := .i8) rfl (hval 2 40 v2 rfl rfl) h2
 have b2 := Cl.i8_of w2
 obtain ⟨oa3, l3, c3, hc3, b3, r3⟩ := Cl.rd_bys (t := 23) (e := 5) rfl rfl (rd_top h3)
 obtain rfl := val_slice (t := 23) (e := 5) rfl (hval 3 23 v3 rfl rfl) hc3
 refine Calls.mono (Ax.ret_of_afn (Cl.lawScansA l0 k1 k2 l3 b1 b2) W (Cl.gs_of hL) _ ⟨r0, .v _, .v _, r3, trivial⟩) ?_
 rintro e W' ⟨v, rfl, rfl, hB⟩
 exact ⟨_, rfl, law_post columnScans_laid columnScans_rd rfl rfl rfl (fun ds h => by
  match ds, h with
  | [_, _, _, _], _ => rfl) hW hB⟩
theorem columnScans_holds0 : Rows.ColumnScansSaid :=
 OpenClaim.holds_of_wide 5 Tryz.f5 rfl rfl rfl rfl rfl rfl rfl ⟨rfl, rfl, rfl, rfl, rfl⟩ rfl rfl rfl rfl rfl (by kernel_rfl) Tryz.func5 (by kernel_rfl)
  (of_decide_eq_true (by kernel_rfl)) (by unfold Func.isWrapper; first | (rw [if_pos (by decide +kernel)]; kernel_rfl) | (rw [if_neg (by decide +kernel)]; exact ⟨rfl, rfl⟩))
  (fun os started H enc _ => columnScans_lifted os started H enc)
theorem columnScans_holds : Rows.ColumnScansCardSaid :=
 Claim7.holds_tied_plain_at .later [] Rows.columnScansCard.laidKinds true Rows.columnScansCard.stood.harness false
  columnScans_holds0 (fun _ h => by cases h) (by kernel_rfl) (fun _ h => by cases h) columnScans_row_tie rfl ⟨rfl, rfl⟩ (by kernel_rfl) rfl
  (fun f fn hf hfn => by
   obtain rfl : f = 5 := Option.some.inj ((show Tryz.prog.funcNamed "flagstone/flagstonelaw31.ColumnScans" = some 5 by kernel_rfl).symm.trans hf) |>.symm
   obtain rfl : fn = Tryz.f5 := (Option.some.inj (Tryz.func5.symm.trans hfn)).symm
   exact ⟨by kernel_rfl, fun j t ht => by
    have hm : t ∈ Tryz.f5.params.toList := by simpa using Array.mem_of_getElem? ht
    have hall : (Tryz.f5.params.toList.all fun u => !Tryz.prog.wantsStandIn u) = true := by kernel_rfl
    exact (show Tryz.prog.wantsStandIn t = false by simpa using List.all_eq_true.1 hall t hm)⟩)
  (by kernel_rfl)
end Go.Proofs.YtmhpfadbmpipkaaGreatDoor
