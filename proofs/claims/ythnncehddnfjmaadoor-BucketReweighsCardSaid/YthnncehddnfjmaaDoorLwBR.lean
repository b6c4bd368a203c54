/- The law BucketReweighs holds, with its card: the split with other weights, or the error, is the reference's for any split and weights. No condition beyond the card's. -/
import Derived.Test.YthnncehddnfjmaaDoorCards
import Derived.Test.YthnncehddnfjmaaDoorTie
import Derived.Test.YthnncehddnfjmaaDoorBk16
import Derived.Test.YthnncehddnfjmaaDoorBkr
import Derived.ProofKit
import Derived.SevenTiedAt
namespace Go.Proofs.YthnncehddnfjmaaDoor
open Go Go.RowKit Go.ChangeShapes Go.WideShapes Go.ChangeAt Go.Proofs.YthnncehddnfjmaaDoor.Vc

theorem bucketReweighs_own : ownKnob Tryd.prog.godebug = none := by kernel_rfl
theorem bucketReweighs_laid : laidOutB Tryd.prog = true := by kernel_rfl
theorem bucketReweighs_rd : (Tryd.f3.params.toList.all fun t => Tryd.prog.readableRec t && Nat.blt t Tryd.prog.types.size) = true := by kernel_rfl
theorem bucketReweighs_met (os : Os) (args : Array Value) : laidMetH Tryd.prog Rows.bucketReweighsRow.laid ((World.doorLaid Tryd.prog 400 os).forCall (fun _ _ => 0) ⟨#[], args, []⟩).memory :=
  laidMetH_of_parts3 (fuel := 8) (laidMet_of_run' 8 (by kernel_rfl) (by kernel_rfl)) (by kernel_rfl) (by kernel_rfl)

set_option maxRecDepth 100000 in
theorem bucketReweighs_lifted (os : Os) (started : os.Started) (H : Type) (enc : TypeId × Value → H) :
    ReturnsInHanded {} Tryd.checked os 3 .any (fun w args => (Rows.bucketReweighsSpec.pre enc Tryd.prog Tryd.f3 [] false w args ∧ laidMetH Tryd.prog Rows.bucketReweighsRow.laid w) ∧ sizedMet enc Tryd.prog Tryd.f3 (OpenSpec.ofChange Rows.bucketReweighsSpec) false w args)
      (Rows.bucketReweighsSpec.post enc Tryd.prog Tryd.f3 false true false false) := by
  refine returnsInHanded_of_change_and (C := Tryd.checked) (X := fun w _ => laidMetH Tryd.prog Rows.bucketReweighsRow.laid w) (fun _ _ _ hh h => h.of_heap hh) bucketReweighs_own started (by kernel_rfl) Tryd.func3
    (ChangeSpec.witness_shaped (enc := enc) (C := Tryd.checked) (os := os) (X := fun w _ => laidMetH Tryd.prog Rows.bucketReweighsRow.laid w) false (World.doorLaid Tryd.prog 400 os) #[.slice none 0 0, .slice none 0 0, .slice none 0 0] 8 rfl (World.shaped_of_RefB (by kernel_rfl) (by kernel_rfl)) (by kernel_rfl) (by kernel_rfl) (by kernel_rfl) (bucketReweighs_met os _)) ?_
  intro W base args ds gs before hval0 hW _ _ hL _
  have hval : ∀ (j : Nat) t v, Tryd.f3.params[j]? = some t → args[j]? = some v → Value.okWide Tryd.prog W .any base t v := hval0
  obtain ⟨p, q, hA0, hV, hpq, hfz, hnd⟩ := id hW
  have hA : DataW.TrodAll enc Tryd.prog W 0 (fun _ => true) true Tryd.f3.params.toList args.toList ds p := hA0
  rw [Tryd.params3] at hA hval
  obtain ⟨v0, v1, v2, d0, d1, d2, p0, p1, p2, rfl, rfl, rfl, h0, h1, h2⟩ := trodAll_three hA
  obtain ⟨oa0, ls0, c0, hc0, hlc0, hcm0, hr0⟩ := Bk.rd_ranges (rd_top h0)
  obtain rfl := val_slice (t := 22) (e := 69) rfl (hval 0 22 v0 rfl rfl) hc0
  obtain ⟨oa1, n1, c1, vs1, W1, hc1, hlc1, hcm1, hr1, hW1⟩ := Bk.rd_ints (rd_top h1)
  obtain rfl := val_slice (t := 23) (e := 3) rfl (hval 1 23 v1 rfl rfl) hc1
  obtain ⟨oa2, l2, c2, hc2, hlc2, hn2, hr2⟩ := rd_bytes (t := 24) (e := 5) rfl rfl (rd_top h2)
  obtain rfl := val_slice (t := 24) (e := 5) rfl (hval 2 24 v2 rfl rfl) hc2
  refine Calls.mono (Bk.lawReweighs_ok oa0 oa1 oa2 c0 n1 c1 c2 ls0 vs1 W1 l2 W (Bk.hal_of hL) hr0 hr1 hW1 hr2 hlc2) ?_
  rintro e W' ⟨v, rfl, rfl, hB⟩
  exact ⟨_, rfl, law_post bucketReweighs_laid bucketReweighs_rd rfl rfl rfl (fun ds h => by
    match ds, h with
    | [_, _, _], _ => rfl) hW hB⟩

theorem bucketReweighs_holds0 : Rows.BucketReweighsSaid :=
  OpenClaim.holds_of_wide 3 Tryd.f3 rfl rfl rfl rfl rfl rfl rfl ⟨rfl, rfl, rfl, rfl, rfl⟩ rfl rfl rfl rfl rfl (by kernel_rfl) Tryd.func3 (by kernel_rfl)
    (of_decide_eq_true (by kernel_rfl)) (by unfold Func.isWrapper; first | (rw [if_pos (by decide +kernel)]; kernel_rfl) | (rw [if_neg (by decide +kernel)]; exact ⟨rfl, rfl⟩))
    (fun os started H enc _ => bucketReweighs_lifted os started H enc)
theorem bucketReweighs_holds : Rows.BucketReweighsCardSaid :=
  Claim7.holds_tied_plain_at .later [] Rows.bucketReweighsCard.laidKinds true Rows.bucketReweighsCard.stood.harness false
    bucketReweighs_holds0 (fun _ h => by cases h) (by kernel_rfl) (fun _ h => by cases h) bucketReweighs_row_tie rfl ⟨rfl, rfl⟩ (by kernel_rfl) rfl
    (fun f fn hf hfn => by
      obtain rfl : f = 3 := Option.some.inj ((show Tryd.prog.funcNamed "flagstone/flagstonelaw13.BucketReweighs" = some 3 by kernel_rfl).symm.trans hf) |>.symm
      obtain rfl : fn = Tryd.f3 := (Option.some.inj (Tryd.func3.symm.trans hfn)).symm
      exact ⟨by kernel_rfl, fun j t ht => by
        have hm : t ∈ Tryd.f3.params.toList := by simpa using Array.mem_of_getElem? ht
        have hall : (Tryd.f3.params.toList.all fun u => !Tryd.prog.wantsStandIn u) = true := by kernel_rfl
        exact (show Tryd.prog.wantsStandIn t = false by simpa using List.all_eq_true.1 hall t hm)⟩)
    (by kernel_rfl)
end Go.Proofs.YthnncehddnfjmaaDoor
