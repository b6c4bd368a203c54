/- The law BucketHashes holds, with its card: the bucket of any text with any salt, and the text by which any value is hashed. No condition beyond the card's. -/
import Derived.Test.YthnncehddnfjmaaDoorCards
import Derived.Test.YthnncehddnfjmaaDoorTie
import Derived.Test.YthnncehddnfjmaaDoorHdr
import Derived.Test.YthnncehddnfjmaaDoorHd4
import Derived.ProofKit
import Derived.SevenTiedAt
set_option linter.unusedVariables false
set_option linter.unusedSimpArgs false
namespace Go.Proofs.YthnncehddnfjmaaDoor
open Go Go.RowKit Go.ChangeShapes Go.WideShapes Go.ChangeAt Go.Proofs.YthnncehddnfjmaaDoor.Vc

theorem bucketHashes_own : ownKnob Tryd.prog.godebug = none := by kernel_rfl
theorem bucketHashes_laid : laidOutB Tryd.prog = true := by kernel_rfl
theorem bucketHashes_rd : (Tryd.f8.params.toList.all fun t => Tryd.prog.readableRec t && Nat.blt t Tryd.prog.types.size) = true := by kernel_rfl
theorem bucketHashes_met (os : Os) (args : Array Value) : laidMetH Tryd.prog Rows.bucketHashesRow.laid ((World.doorLaid Tryd.prog 400 os).forCall (fun _ _ => 0) ⟨#[], args, []⟩).memory :=
  laidMetH_of_parts3 (fuel := 8) (laidMet_of_run' 8 (by kernel_rfl) (by kernel_rfl)) (by kernel_rfl) (by kernel_rfl)

set_option maxRecDepth 100000 in
theorem bucketHashes_lifted (os : Os) (started : os.Started) (H : Type) (enc : TypeId × Value → H) :
    ReturnsInHanded {} Tryd.checked os 8 .any (fun w args => (Rows.bucketHashesSpec.pre enc Tryd.prog Tryd.f8 [] false w args ∧ laidMetH Tryd.prog Rows.bucketHashesRow.laid w) ∧ sizedMet enc Tryd.prog Tryd.f8 (OpenSpec.ofChange Rows.bucketHashesSpec) false w args)
      (Rows.bucketHashesSpec.post enc Tryd.prog Tryd.f8 false true false false) := by
  refine returnsInHanded_of_change_and (C := Tryd.checked) (X := fun w _ => laidMetH Tryd.prog Rows.bucketHashesRow.laid w) (fun _ _ _ hh h => h.of_heap hh) bucketHashes_own started (by kernel_rfl) Tryd.func8
    (ChangeSpec.witness_shaped (enc := enc) (C := Tryd.checked) (os := os) (X := fun w _ => laidMetH Tryd.prog Rows.bucketHashesRow.laid w) false (World.doorLaid Tryd.prog 400 os) #[.string ⟨#[]⟩, .string ⟨#[]⟩, .agg #[.int .i64 0, .int .i64 0, .string ⟨#[]⟩, .slice none 0 0], .slice none 0 0] 8 rfl (World.shaped_of_RefB (by kernel_rfl) (by kernel_rfl)) (by kernel_rfl) (by kernel_rfl) (by kernel_rfl) (bucketHashes_met os _)) ?_
  intro W base args ds gs before hval0 hW _ hwt hL _
  have hval : ∀ (j : Nat) t v, Tryd.f8.params[j]? = some t → args[j]? = some v → Value.okWide Tryd.prog W .any base t v := hval0
  obtain ⟨p, q, hA0, hV, hpq, hfz, hnd⟩ := id hW
  have hA : DataW.TrodAll enc Tryd.prog W 0 (fun _ => true) true Tryd.f8.params.toList args.toList ds p := hA0
  rw [Tryd.params8] at hA hval
  have hwe := fun x hx => of_decide_eq_true (List.all_eq_true.1 hwt x hx)
  obtain ⟨v0, v1, v2, v3, d0, d1, d2, d3, p0, p1, p2, p3, rfl, rfl, rfl, h0, h1, h2, h3⟩ := trodAll_four hA
  obtain ⟨k0, rfl, _, _⟩ := ChangeMaps.open_string Tryd.underlying9 (hval 0 9 v0 rfl rfl) h0
  obtain ⟨k1, rfl, _, _⟩ := ChangeMaps.open_string Tryd.underlying9 (hval 1 9 v1 rfl rfl) h1
  obtain ⟨row2, o2, r2⟩ := rdg_arg (t := 49) (es := Dw.vsh) 8 rfl (by kernel_rfl) (hval 2 49 v2 rfl rfl) h2 (each_ok hwe 2 _ _ rfl rfl)
  obtain ⟨vk2, vn2, vt2, vx2, rfl, b2, bt2⟩ := Dw.value_row o2
  obtain ⟨oa3, l3, c3, hc3, b3, r3⟩ := Dw.rd_bysW (t := 24) (e := 5) rfl rfl (rd_top h3)
  obtain rfl := val_slice (t := 24) (e := 5) rfl (hval 3 24 v3 rfl rfl) hc3
  refine Calls.mono (Ax.ret_of_afn (Dw.lawHashesW (Dw.lw_of hL) k0 k1 vk2 vn2 vt2 vx2 b2 l3) W (Dw.gw_holds W) _ ⟨.v _, .v _, r2, r3, trivial⟩) ?_
  rintro e W' ⟨v, rfl, rfl, hB⟩
  exact ⟨_, rfl, law_post bucketHashes_laid bucketHashes_rd rfl rfl rfl (fun ds h => by
    match ds, h with
    | [_, _, _, _], _ => rfl) hW hB⟩

theorem bucketHashes_holds0 : Rows.BucketHashesSaid :=
  OpenClaim.holds_of_wide 8 Tryd.f8 rfl rfl rfl rfl rfl rfl rfl ⟨rfl, rfl, rfl, rfl, rfl⟩ rfl rfl rfl rfl rfl (by kernel_rfl) Tryd.func8 (by kernel_rfl)
    (of_decide_eq_true (by kernel_rfl)) (by unfold Func.isWrapper; first | (rw [if_pos (by decide +kernel)]; kernel_rfl) | (rw [if_neg (by decide +kernel)]; exact ⟨rfl, rfl⟩))
    (fun os started H enc _ => bucketHashes_lifted os started H enc)
theorem bucketHashes_holds : Rows.BucketHashesCardSaid :=
  Claim7.holds_tied_plain_at .later [] Rows.bucketHashesCard.laidKinds true Rows.bucketHashesCard.stood.harness false
    bucketHashes_holds0 (fun _ h => by cases h) (by kernel_rfl) (fun _ h => by cases h) bucketHashes_row_tie rfl ⟨rfl, rfl⟩ (by kernel_rfl) rfl
    (fun f fn hf hfn => by
      obtain rfl : f = 8 := Option.some.inj ((show Tryd.prog.funcNamed "flagstone/flagstonelaw13.BucketHashes" = some 8 by kernel_rfl).symm.trans hf) |>.symm
      obtain rfl : fn = Tryd.f8 := (Option.some.inj (Tryd.func8.symm.trans hfn)).symm
      exact ⟨by kernel_rfl, fun j t ht => by
        have hm : t ∈ Tryd.f8.params.toList := by simpa using Array.mem_of_getElem? ht
        have hall : (Tryd.f8.params.toList.all fun u => !Tryd.prog.wantsStandIn u) = true := by kernel_rfl
        exact (show Tryd.prog.wantsStandIn t = false by simpa using List.all_eq_true.1 hall t hm)⟩)
    (by kernel_rfl)
end Go.Proofs.YthnncehddnfjmaaDoor

