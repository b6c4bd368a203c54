/- The law ColumnTables holds, with its card: Table and ReadTable return what is specified. No condition beyond the card's. -/
import Derived.Test.YtmhpfadbmpipkaaGreatDoorCards
import Derived.Test.YtmhpfadbmpipkaaGreatDoorTie
import Derived.Test.YtmhpfadbmpipkaaGreatDoorPk21
import Derived.ProofKit
import Derived.SevenTiedAt
set_option linter.unusedVariables false
set_option linter.unusedSimpArgs false
set_option maxRecDepth 100000
set_option maxHeartbeats 16000000
namespace Go.Proofs.YtmhpfadbmpipkaaGreatDoor
open Go Go.RowKit Go.ChangeShapes Go.WideShapes Go.ChangeAt Go.Proofs.YtmhpfadbmpipkaaGreatDoor.Vc
theorem columnTables_own : ownKnob Tryz.prog.godebug = none := by kernel_rfl
theorem columnTables_laid : laidOutB Tryz.prog = true := by kernel_rfl
theorem columnTables_rd : (Tryz.f3.params.toList.all fun t => Tryz.prog.readableRec t && Nat.blt t Tryz.prog.types.size) = true := by kernel_rfl
theorem columnTables_met (os : Os) (args : Array Value) : laidMetH Tryz.prog Rows.columnTablesRow.laid ((World.doorLaid Tryz.prog 400 os).forCall (fun _ _ => 0) ⟨#[], args, []⟩).memory :=
 laidMetH_of_parts3 (fuel := 8) (laidMet_of_run' 8 (by kernel_rfl) (by kernel_rfl)) (by kernel_rfl) (by kernel_rfl)
theorem columnTables_lifted (os : Os) (started : os.Started) (H : Type) (enc : TypeId × Value → H) :
  ReturnsInHanded {} Tryz.checked os 3 .any (fun w args => (Rows.columnTablesSpec.pre enc Tryz.prog Tryz.f3 [] false w args ∧ laidMetH Tryz.prog Rows.columnTablesRow.laid w) ∧ sizedMet enc Tryz.prog Tryz.f3 (OpenSpec.ofChange Rows.columnTablesSpec) false w args)
   (Rows.columnTablesSpec.post enc Tryz.prog Tryz.f3 false true false false) := by
 refine returnsInHanded_of_change_and (C := Tryz.checked) (X := fun w _ => laidMetH Tryz.prog Rows.columnTablesRow.laid w) (fun _ _ _ hh h => h.of_heap hh) columnTables_own started (by kernel_rfl) Tryz.func3
  (ChangeSpec.witness_shaped (enc := enc) (C := Tryz.checked) (os := os) (X := fun w _ => laidMetH Tryz.prog Rows.columnTablesRow.laid w) false (World.doorLaid Tryz.prog 400 os) #[.slice none 0 0, .slice none 0 0, .slice none 0 0, .int .u16 0, .int .u16 0, .int .u8 0] 8 rfl (World.shaped_of_RefB (by kernel_rfl) (by kernel_rfl)) (by kernel_rfl) (by kernel_rfl) (by kernel_rfl) (columnTables_met os _)) ?_
 intro W base args ds gs before hval0 hW _ hwt hL _
 have hval : ∀ (j : Nat) t v, Tryz.f3.params[j]? = some t → args[j]? = some v → Value.okWide Tryz.prog W .any base t v := hval0
 obtain ⟨p, q, hA0, hV, hpq, hfz, hnd⟩ := id hW
 have hA : DataW.TrodAll enc Tryz.prog W 0 (fun _ => true) true Tryz.f3.params.toList args.toList ds p := hA0
 rw [Tryz.params3] at hA hval
 have hwe := fun x hx => of_decide_eq_true (List.all_eq_true.1 hwt x hx)
 obtain ⟨v0, v1, v2, v3, v4, v5, d0, d1, d2, d3, d4, d5, p0, p1, p2, p3, p4, p5, rfl, rfl, rfl, h0, h1, h2, h3, h4, h5⟩ := trodAll_six hA
 obtain ⟨oa0, l0, c0, hc0, b0, r0⟩ := Cl.rdd_evs (d := d0) ⟨_, _, _, h0.choose_spec⟩ (each_ok hwe 0 _ _ rfl rfl)
 obtain rfl := val_slice (t := 22) (e := 38) rfl (hval 0 22 v0 rfl rfl) hc0
 obtain ⟨oa1, l1, c1, hc1, b1, r1⟩ := Cl.rd_bys (t := 23) (e := 5) rfl rfl (rd_top h1)
 obtain rfl := val_slice (t := 23) (e := 5) rfl (hval 1 23 v1 rfl rfl) hc1
 obtain ⟨oa2, l2, c2, hc2, b2, r2⟩ := Cl.rd_bys (t := 23) (e := 5) rfl rfl (rd_top h2)
 obtain rfl := val_slice (t := 23) (e := 5) rfl (hval 2 23 v2 rfl rfl) hc2
 obtain ⟨k3, rfl, _, _, w3⟩ := open_int (k := .u16) rfl (hval 3 24 v3 rfl rfl) h3
 obtain ⟨n3, rfl, b3⟩ := Cl.u16_of w3
 obtain ⟨k4, rfl, _, _, w4⟩ := open_int (k := .u16) rfl (hval 4 24 v4 rfl rfl) h4
 obtain ⟨n4, rfl, b4⟩ := Cl.u16_of w4
 obtain ⟨k5, rfl, _, _, w5⟩ := open_int (k := .u8) rfl (hval 5 5 v5 rfl rfl) h5
 obtain ⟨n5, rfl, b5⟩ := Cl.u8_of w5
 refine Calls.mono (Ax.ret_of_afn (Cl.lawTablesA l0 l1 l2 n3 n4 n5 b0 b3 b4 b5) W (Cl.gs_of hL) _ ⟨r0, r1, r2, .v _, .v _, .v _, trivial⟩) ?_
 rintro e W' ⟨v, rfl, rfl, hB⟩
 exact ⟨_, rfl, law_post columnTables_laid columnTables_rd rfl rfl rfl (fun ds h => by
  match ds, h with
  | [_, _, _, _, _, _], _ => rfl) hW hB⟩
theorem columnTables_holds0 : Rows.ColumnTablesSaid :=
 OpenClaim.holds_of_wide 3 Tryz.f3 rfl rfl rfl rfl rfl rfl rfl ⟨rfl, rfl, rfl, rfl, rfl⟩ rfl rfl rfl rfl rfl (by kernel_rfl) Tryz.func3 (by kernel_rfl)
  (of_decide_eq_true (by kernel_rfl)) (by unfold Func.isWrapper; first | (rw [if_pos (by decide +kernel)]; kernel_rfl) | (rw [if_neg (by decide +kernel)]; exact ⟨rfl, rfl⟩))
  (fun os started H enc _ => columnTables_lifted os started H enc)
theorem columnTables_holds : Rows.ColumnTablesCardSaid :=
 Claim7.holds_tied_plain_at .later [] Rows.columnTablesCard.laidKinds true Rows.columnTablesCard.stood.harness false
  columnTables_holds0 (fun _ h => by cases h) (by kernel_rfl) (fun _ h => by cases h) columnTables_row_tie rfl ⟨rfl, rfl⟩ (by kernel_rfl) rfl
  (fun f fn hf hfn => by
   obtain rfl : f = 3 := Option.some.inj ((show Tryz.prog.funcNamed "flagstone/flagstonelaw31.ColumnTables" = some 3 by kernel_rfl).symm.trans hf) |>.symm
   obtain rfl : fn = Tryz.f3 := (Option.some.inj (Tryz.func3.symm.trans hfn)).symm
   exact ⟨by kernel_rfl, fun j t ht => by
    have hm : t ∈ Tryz.f3.params.toList := by simpa using Array.mem_of_getElem? ht
    have hall : (Tryz.f3.params.toList.all fun u => !Tryz.prog.wantsStandIn u) = true := by kernel_rfl
    exact (show Tryz.prog.wantsStandIn t = false by simpa using List.all_eq_true.1 hall t hm)⟩)
  (by kernel_rfl)
end Go.Proofs.YtmhpfadbmpipkaaGreatDoor
