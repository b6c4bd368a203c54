/- The law GuardLooks holds, with its card: both Looks return the same Action. No condition beyond the card's. -/
import Derived.Test.YtgfgndaoocfpdaaGreatDoorCards
import Derived.Test.YtgfgndaoocfpdaaGreatDoorTie
import Derived.Test.YtgfgndaoocfpdaaGreatDoorPk21
import Derived.ProofKit
import Derived.SevenTiedAt
set_option linter.unusedVariables false
set_option linter.unusedSimpArgs false
set_option maxRecDepth 100000
set_option maxHeartbeats 16000000
namespace Go.Proofs.YtgfgndaoocfpdaaGreatDoor
open Go Go.RowKit Go.ChangeShapes Go.WideShapes Go.ChangeAt Go.Proofs.YtgfgndaoocfpdaaGreatDoor.Vc
theorem guardLooks_own : ownKnob Tryz.prog.godebug = none := by kernel_rfl
theorem guardLooks_laid : laidOutB Tryz.prog = true := by kernel_rfl
theorem guardLooks_rd : (Tryz.f4.params.toList.all fun t => Tryz.prog.readableRec t && Nat.blt t Tryz.prog.types.size) = true := by kernel_rfl
theorem guardLooks_met (os : Os) (args : Array Value) : laidMetH Tryz.prog Rows.guardLooksRow.laid ((World.doorLaid Tryz.prog 400 os).forCall (fun _ _ => 0) ⟨#[], args, []⟩).memory :=
 laidMetH_of_parts3 (fuel := 8) (laidMet_of_run' 8 (by kernel_rfl) (by kernel_rfl)) (by kernel_rfl) (by kernel_rfl)
theorem guardLooks_lifted (os : Os) (started : os.Started) (H : Type) (enc : TypeId × Value → H) :
  ReturnsInHanded {} Tryz.checked os 4 .any (fun w args => (Rows.guardLooksSpec.pre enc Tryz.prog Tryz.f4 [] false w args ∧ laidMetH Tryz.prog Rows.guardLooksRow.laid w) ∧ sizedMet enc Tryz.prog Tryz.f4 (OpenSpec.ofChange Rows.guardLooksSpec) false w args)
   (Rows.guardLooksSpec.post enc Tryz.prog Tryz.f4 false true false false) := by
 refine returnsInHanded_of_change_and (C := Tryz.checked) (X := fun w _ => laidMetH Tryz.prog Rows.guardLooksRow.laid w) (fun _ _ _ hh h => h.of_heap hh) guardLooks_own started (by kernel_rfl) Tryz.func4
  (ChangeSpec.witness_shaped (enc := enc) (C := Tryz.checked) (os := os) (X := fun w _ => laidMetH Tryz.prog Rows.guardLooksRow.laid w) false (World.doorLaid Tryz.prog 400 os) #[.agg #[.int .u8 0, .int .u8 0, .int .u8 0, .int .u8 0, .int .u8 0, .slice none 0 0], .slice none 0 0, .int .u8 0, .int .u8 0, .int .u8 0, .int .u8 0, .int .i64 0, .int .i64 0, .int .i64 0, .int .u8 0, .int .u8 0, .int .u8 0] 8 rfl (World.shaped_of_RefB (by kernel_rfl) (by kernel_rfl)) (by kernel_rfl) (by kernel_rfl) (by kernel_rfl) (guardLooks_met os _)) ?_
 intro W base args ds gs before hval0 hW _ hwt hL _
 have hval : ∀ (j : Nat) t v, Tryz.f4.params[j]? = some t → args[j]? = some v → Value.okWide Tryz.prog W .any base t v := hval0
 obtain ⟨p, q, hA0, hV, hpq, hfz, hnd⟩ := id hW
 have hA : DataW.TrodAll enc Tryz.prog W 0 (fun _ => true) true Tryz.f4.params.toList args.toList ds p := hA0
 rw [Tryz.params4] at hA hval
 have hwe := fun x hx => of_decide_eq_true (List.all_eq_true.1 hwt x hx)
 obtain ⟨v0, v1, v2, v3, v4, v5, v6, v7, v8, v9, v10, v11, d0, d1, d2, d3, d4, d5, d6, d7, d8, d9, d10, d11, p0, p1, p2, p3, p4, p5, p6, p7, p8, p9, p10, p11, rfl, rfl, rfl, h0, h1, h2, h3, h4, h5, h6, h7, h8, h9, h10, h11⟩ := trodAll_twelve hA
 obtain ⟨row0, o0, r0⟩ := rdg_arg (t := 27) (es := Cl.lpsh) 8 rfl (by kernel_rfl) (hval 0 27 v0 rfl rfl) h0 (each_ok hwe 0 _ _ rfl rfl)
 obtain ⟨pl0, e0, b0⟩ := Cl.lp_row o0
 rw [e0] at r0
 obtain ⟨oa1, l1, c1, hc1, b1, r1⟩ := Cl.rd_bys (t := 40) (e := 5) rfl rfl (rd_top h1)
 obtain rfl := val_slice (t := 40) (e := 5) rfl (hval 1 40 v1 rfl rfl) hc1
 obtain ⟨k2, rfl, _, _, w2⟩ := open_int (k := .u8) rfl (hval 2 5 v2 rfl rfl) h2
 obtain ⟨n2, rfl, b2⟩ := Cl.u8_of w2
 obtain ⟨k3, rfl, _, _, w3⟩ := open_int (k := .u8) rfl (hval 3 5 v3 rfl rfl) h3
 obtain ⟨n3, rfl, b3⟩ := Cl.u8_of w3
 obtain ⟨k4, rfl, _, _, w4⟩ := open_int (k := .u8) rfl (hval 4 5 v4 rfl rfl) h4
 obtain ⟨n4, rfl, b4⟩ := Cl.u8_of w4
 obtain ⟨k5, rfl, _, _, w5⟩ := open_int (k := .u8) rfl (hval 5 5 v5 rfl rfl) h5
 obtain ⟨n5, rfl, b5⟩ := Cl.u8_of w5
 obtain ⟨k6, rfl, _, _, w6⟩ := open_int (k := .i64) rfl (hval 6 3 v6 rfl rfl) h6
 have b6 := Cl.i64_of w6
 obtain ⟨k7, rfl, _, _, w7⟩ := open_int (k := .i64) rfl (hval 7 3 v7 rfl rfl) h7
 have b7 := Cl.i64_of w7
 obtain ⟨k8, rfl, _, _, w8⟩ := open_int (k := .i64) rfl (hval 8 3 v8 rfl rfl) h8
 have b8 := Cl.i64_of w8
 obtain ⟨k9, rfl, _, _, w9⟩ := open_int (k := .u8) rfl (hval 9 5 v9 rfl rfl) h9
 obtain ⟨n9, rfl, b9⟩ := Cl.u8_of w9
 obtain ⟨k10, rfl, _, _, w10⟩ := open_int (k := .u8) rfl (hval 10 5 v10 rfl rfl) h10
 obtain ⟨n10, rfl, b10⟩ := Cl.u8_of w10
 obtain ⟨k11, rfl, _, _, w11⟩ := open_int (k := .u8) rfl (hval 11 5 v11 rfl rfl) h11
 obtain ⟨n11, rfl, b11⟩ := Cl.u8_of w11
 refine Calls.mono (Ax.ret_of_afn (Cl.lawLooksA pl0 l1 n2 n3 n4 n5 k6 k7 k8 n9 n10 n11 b0 b2 b3 b4 b5 b6 b7 b8 b9 b10 b11) W (Cl.gs_of hL) _ ⟨r0, r1, .v _, .v _, .v _, .v _, .v _, .v _, .v _, .v _, .v _, .v _, trivial⟩) ?_
 rintro e W' ⟨v, rfl, rfl, hB⟩
 exact ⟨_, rfl, law_post guardLooks_laid guardLooks_rd rfl rfl rfl (fun ds h => by
  match ds, h with
  | [_, _, _, _, _, _, _, _, _, _, _, _], _ => rfl) hW hB⟩
theorem guardLooks_holds0 : Rows.GuardLooksSaid :=
 OpenClaim.holds_of_wide 4 Tryz.f4 rfl rfl rfl rfl rfl rfl rfl ⟨rfl, rfl, rfl, rfl, rfl⟩ rfl rfl rfl rfl rfl (by kernel_rfl) Tryz.func4 (by kernel_rfl)
  (of_decide_eq_true (by kernel_rfl)) (by unfold Func.isWrapper; first | (rw [if_pos (by decide +kernel)]; kernel_rfl) | (rw [if_neg (by decide +kernel)]; exact ⟨rfl, rfl⟩))
  (fun os started H enc _ => guardLooks_lifted os started H enc)
theorem guardLooks_holds : Rows.GuardLooksCardSaid :=
 Claim7.holds_tied_plain_at .later [] Rows.guardLooksCard.laidKinds true Rows.guardLooksCard.stood.harness false
  guardLooks_holds0 (fun _ h => by cases h) (by kernel_rfl) (fun _ h => by cases h) guardLooks_row_tie rfl ⟨rfl, rfl⟩ (by kernel_rfl) rfl
  (fun f fn hf hfn => by
   obtain rfl : f = 4 := Option.some.inj ((show Tryz.prog.funcNamed "flagstone/flagstonelaw43.GuardLooks" = some 4 by kernel_rfl).symm.trans hf) |>.symm
   obtain rfl : fn = Tryz.f4 := (Option.some.inj (Tryz.func4.symm.trans hfn)).symm
   exact ⟨by kernel_rfl, fun j t ht => by
    have hm : t ∈ Tryz.f4.params.toList := by simpa using Array.mem_of_getElem? ht
    have hall : (Tryz.f4.params.toList.all fun u => !Tryz.prog.wantsStandIn u) = true := by kernel_rfl
    exact (show Tryz.prog.wantsStandIn t = false by simpa using List.all_eq_true.1 hall t hm)⟩)
  (by kernel_rfl)
end Go.Proofs.YtgfgndaoocfpdaaGreatDoor
