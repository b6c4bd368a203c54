/- The law BucketWeights holds, with its card: the split of any weights, or the error, is the reference's and has these weights. No condition beyond the card's. -/
import Derived.Test.YthnncehddnfjmaaDoorCards
import Derived.Test.YthnncehddnfjmaaDoorTie
import Derived.Test.YthnncehddnfjmaaDoorBk15
import Derived.Test.YthnncehddnfjmaaDoorBkr
import Derived.ProofKit
import Derived.SevenTiedAt
namespace Go.Proofs.YthnncehddnfjmaaDoor
open Go Go.RowKit Go.ChangeShapes Go.WideShapes Go.ChangeAt Go.Proofs.YthnncehddnfjmaaDoor.Vc

theorem bucketWeights_own : ownKnob Tryd.prog.godebug = none := by kernel_rfl
theorem bucketWeights_laid : laidOutB Tryd.prog = true := by kernel_rfl
theorem bucketWeights_rd : (Tryd.f6.params.toList.all fun t => Tryd.prog.readableRec t && Nat.blt t Tryd.prog.types.size) = true := by kernel_rfl
theorem bucketWeights_met (os : Os) (args : Array Value) : laidMetH Tryd.prog Rows.bucketWeightsRow.laid ((World.doorLaid Tryd.prog 400 os).forCall (fun _ _ => 0) ⟨#[], args, []⟩).memory :=
  laidMetH_of_parts3 (fuel := 8) (laidMet_of_run' 8 (by kernel_rfl) (by kernel_rfl)) (by kernel_rfl) (by kernel_rfl)

set_option maxRecDepth 100000 in
theorem bucketWeights_lifted (os : Os) (started : os.Started) (H : Type) (enc : TypeId × Value → H) :
    ReturnsInHanded {} Tryd.checked os 6 .any (fun w args => (Rows.bucketWeightsSpec.pre enc Tryd.prog Tryd.f6 [] false w args ∧ laidMetH Tryd.prog Rows.bucketWeightsRow.laid w) ∧ sizedMet enc Tryd.prog Tryd.f6 (OpenSpec.ofChange Rows.bucketWeightsSpec) false w args)
      (Rows.bucketWeightsSpec.post enc Tryd.prog Tryd.f6 false true false false) := by
  refine returnsInHanded_of_change_and (C := Tryd.checked) (X := fun w _ => laidMetH Tryd.prog Rows.bucketWeightsRow.laid w) (fun _ _ _ hh h => h.of_heap hh) bucketWeights_own started (by kernel_rfl) Tryd.func6
    (ChangeSpec.witness_shaped (enc := enc) (C := Tryd.checked) (os := os) (X := fun w _ => laidMetH Tryd.prog Rows.bucketWeightsRow.laid w) false (World.doorLaid Tryd.prog 400 os) #[.slice none 0 0, .slice none 0 0] 8 rfl (World.shaped_of_RefB (by kernel_rfl) (by kernel_rfl)) (by kernel_rfl) (by kernel_rfl) (by kernel_rfl) (bucketWeights_met os _)) ?_
  intro W base args ds gs before hval0 hW _ _ hL _
  have hval : ∀ (j : Nat) t v, Tryd.f6.params[j]? = some t → args[j]? = some v → Value.okWide Tryd.prog W .any base t v := hval0
  obtain ⟨p, q, hA0, hV, hpq, hfz, hnd⟩ := id hW
  have hA : DataW.TrodAll enc Tryd.prog W 0 (fun _ => true) true Tryd.f6.params.toList args.toList ds p := hA0
  rw [Tryd.params6] at hA hval
  obtain ⟨v0, v1, d0, d1, p0, p1, rfl, rfl, rfl, h0, h1⟩ := trodAll_two hA
  obtain ⟨oa0, n0, c0, vs0, W0, hc0, hlc0, hcm0, hr0, hW0⟩ := Bk.rd_ints (rd_top h0)
  obtain rfl := val_slice (t := 23) (e := 3) rfl (hval 0 23 v0 rfl rfl) hc0
  obtain ⟨oa1, l1, c1, hc1, hlc1, hn1, hr1⟩ := rd_bytes (t := 24) (e := 5) rfl rfl (rd_top h1)
  obtain rfl := val_slice (t := 24) (e := 5) rfl (hval 1 24 v1 rfl rfl) hc1
  refine Calls.mono (Bk.lawWeights_ok oa0 oa1 n0 c0 c1 vs0 W0 l1 W (Bk.hal_of hL) hr0 hW0 hr1 hlc1) ?_
  rintro e W' ⟨v, rfl, rfl, hB⟩
  exact ⟨_, rfl, law_post bucketWeights_laid bucketWeights_rd rfl rfl rfl (fun ds h => by
    match ds, h with
    | [_, _], _ => rfl) hW hB⟩

theorem bucketWeights_holds0 : Rows.BucketWeightsSaid :=
  OpenClaim.holds_of_wide 6 Tryd.f6 rfl rfl rfl rfl rfl rfl rfl ⟨rfl, rfl, rfl, rfl, rfl⟩ rfl rfl rfl rfl rfl (by kernel_rfl) Tryd.func6 (by kernel_rfl)
    (of_decide_eq_true (by kernel_rfl)) (by unfold Func.isWrapper; first | (rw [if_pos (by decide +kernel)]; kernel_rfl) | (rw [if_neg (by decide +kernel)]; exact ⟨rfl, rfl⟩))
    (fun os started H enc _ => bucketWeights_lifted os started H enc)
theorem bucketWeights_holds : Rows.BucketWeightsCardSaid :=
  Claim7.holds_tied_plain_at .later [] Rows.bucketWeightsCard.laidKinds true Rows.bucketWeightsCard.stood.harness false
    bucketWeights_holds0 (fun _ h => by cases h) (by kernel_rfl) (fun _ h => by cases h) bucketWeights_row_tie rfl ⟨rfl, rfl⟩ (by kernel_rfl) rfl
    (fun f fn hf hfn => by
      obtain rfl : f = 6 := Option.some.inj ((show Tryd.prog.funcNamed "flagstone/flagstonelaw13.BucketWeights" = some 6 by kernel_rfl).symm.trans hf) |>.symm
      obtain rfl : fn = Tryd.f6 := (Option.some.inj (Tryd.func6.symm.trans hfn)).symm
      exact ⟨by kernel_rfl, fun j t ht => by
        have hm : t ∈ Tryd.f6.params.toList := by simpa using Array.mem_of_getElem? ht
        have hall : (Tryd.f6.params.toList.all fun u => !Tryd.prog.wantsStandIn u) = true := by kernel_rfl
        exact (show Tryd.prog.wantsStandIn t = false by simpa using List.all_eq_true.1 hall t hm)⟩)
    (by kernel_rfl)
end Go.Proofs.YthnncehddnfjmaaDoor
