/- The law BucketDistance holds, with its card: the number of buckets that differ is the reference's and a distance, and no split with the new weights is nearer than Reweigh's. No condition beyond the card's. -/
import Derived.Test.YthnncehddnfjmaaDoorCards
import Derived.Test.YthnncehddnfjmaaDoorTie
import Derived.Test.YthnncehddnfjmaaDoorBk18
import Derived.Test.YthnncehddnfjmaaDoorBkr
import Derived.ProofKit
import Derived.SevenTiedAt
namespace Go.Proofs.YthnncehddnfjmaaDoor
open Go Go.RowKit Go.ChangeShapes Go.WideShapes Go.ChangeAt Go.Proofs.YthnncehddnfjmaaDoor.Vc

theorem bucketDistance_own : ownKnob Tryd.prog.godebug = none := by kernel_rfl
theorem bucketDistance_laid : laidOutB Tryd.prog = true := by kernel_rfl
theorem bucketDistance_rd : (Tryd.f5.params.toList.all fun t => Tryd.prog.readableRec t && Nat.blt t Tryd.prog.types.size) = true := by kernel_rfl
theorem bucketDistance_met (os : Os) (args : Array Value) : laidMetH Tryd.prog Rows.bucketDistanceRow.laid ((World.doorLaid Tryd.prog 400 os).forCall (fun _ _ => 0) ⟨#[], args, []⟩).memory :=
  laidMetH_of_parts3 (fuel := 8) (laidMet_of_run' 8 (by kernel_rfl) (by kernel_rfl)) (by kernel_rfl) (by kernel_rfl)

set_option maxRecDepth 100000 in
theorem bucketDistance_lifted (os : Os) (started : os.Started) (H : Type) (enc : TypeId × Value → H) :
    ReturnsInHanded {} Tryd.checked os 5 .any (fun w args => (Rows.bucketDistanceSpec.pre enc Tryd.prog Tryd.f5 [] false w args ∧ laidMetH Tryd.prog Rows.bucketDistanceRow.laid w) ∧ sizedMet enc Tryd.prog Tryd.f5 (OpenSpec.ofChange Rows.bucketDistanceSpec) false w args)
      (Rows.bucketDistanceSpec.post enc Tryd.prog Tryd.f5 false true false false) := by
  refine returnsInHanded_of_change_and (C := Tryd.checked) (X := fun w _ => laidMetH Tryd.prog Rows.bucketDistanceRow.laid w) (fun _ _ _ hh h => h.of_heap hh) bucketDistance_own started (by kernel_rfl) Tryd.func5
    (ChangeSpec.witness_shaped (enc := enc) (C := Tryd.checked) (os := os) (X := fun w _ => laidMetH Tryd.prog Rows.bucketDistanceRow.laid w) false (World.doorLaid Tryd.prog 400 os) #[.slice none 0 0, .slice none 0 0, .slice none 0 0, .slice none 0 0] 8 rfl (World.shaped_of_RefB (by kernel_rfl) (by kernel_rfl)) (by kernel_rfl) (by kernel_rfl) (by kernel_rfl) (bucketDistance_met os _)) ?_
  intro W base args ds gs before hval0 hW _ _ hL _
  have hval : ∀ (j : Nat) t v, Tryd.f5.params[j]? = some t → args[j]? = some v → Value.okWide Tryd.prog W .any base t v := hval0
  obtain ⟨p, q, hA0, hV, hpq, hfz, hnd⟩ := id hW
  have hA : DataW.TrodAll enc Tryd.prog W 0 (fun _ => true) true Tryd.f5.params.toList args.toList ds p := hA0
  rw [Tryd.params5] at hA hval
  obtain ⟨v0, v1, v2, v3, d0, d1, d2, d3, p0, p1, p2, p3, rfl, rfl, rfl, h0, h1, h2, h3⟩ := trodAll_four hA
  obtain ⟨oa0, ls0, c0, hc0, hlc0, hcm0, hr0⟩ := Bk.rd_ranges (rd_top h0)
  obtain rfl := val_slice (t := 22) (e := 69) rfl (hval 0 22 v0 rfl rfl) hc0
  obtain ⟨oa1, l1, c1, hc1, hlc1, hn1, hr1⟩ := rd_bytes (t := 24) (e := 5) rfl rfl (rd_top h1)
  obtain rfl := val_slice (t := 24) (e := 5) rfl (hval 1 24 v1 rfl rfl) hc1
  obtain ⟨oa2, l2, c2, hc2, hlc2, hn2, hr2⟩ := rd_bytes (t := 24) (e := 5) rfl rfl (rd_top h2)
  obtain rfl := val_slice (t := 24) (e := 5) rfl (hval 2 24 v2 rfl rfl) hc2
  obtain ⟨oa3, l3, c3, hc3, hlc3, hn3, hr3⟩ := rd_bytes (t := 24) (e := 5) rfl rfl (rd_top h3)
  obtain rfl := val_slice (t := 24) (e := 5) rfl (hval 3 24 v3 rfl rfl) hc3
  refine Calls.mono (Bk.lawDistance_ok oa0 oa1 oa2 oa3 c0 c1 c2 c3 ls0 l1 l2 l3 W (Bk.hal_of hL) hr0 hr1 hlc1 hr2 hlc2 hr3 hlc3) ?_
  rintro e W' ⟨v, rfl, rfl, hB⟩
  exact ⟨_, rfl, law_post bucketDistance_laid bucketDistance_rd rfl rfl rfl (fun ds h => by
    match ds, h with
    | [_, _, _, _], _ => rfl) hW hB⟩

theorem bucketDistance_holds0 : Rows.BucketDistanceSaid :=
  OpenClaim.holds_of_wide 5 Tryd.f5 rfl rfl rfl rfl rfl rfl rfl ⟨rfl, rfl, rfl, rfl, rfl⟩ rfl rfl rfl rfl rfl (by kernel_rfl) Tryd.func5 (by kernel_rfl)
    (of_decide_eq_true (by kernel_rfl)) (by unfold Func.isWrapper; first | (rw [if_pos (by decide +kernel)]; kernel_rfl) | (rw [if_neg (by decide +kernel)]; exact ⟨rfl, rfl⟩))
    (fun os started H enc _ => bucketDistance_lifted os started H enc)
theorem bucketDistance_holds : Rows.BucketDistanceCardSaid :=
  Claim7.holds_tied_plain_at .later [] Rows.bucketDistanceCard.laidKinds true Rows.bucketDistanceCard.stood.harness false
    bucketDistance_holds0 (fun _ h => by cases h) (by kernel_rfl) (fun _ h => by cases h) bucketDistance_row_tie rfl ⟨rfl, rfl⟩ (by kernel_rfl) rfl
    (fun f fn hf hfn => by
      obtain rfl : f = 5 := Option.some.inj ((show Tryd.prog.funcNamed "flagstone/flagstonelaw13.BucketDistance" = some 5 by kernel_rfl).symm.trans hf) |>.symm
      obtain rfl : fn = Tryd.f5 := (Option.some.inj (Tryd.func5.symm.trans hfn)).symm
      exact ⟨by kernel_rfl, fun j t ht => by
        have hm : t ∈ Tryd.f5.params.toList := by simpa using Array.mem_of_getElem? ht
        have hall : (Tryd.f5.params.toList.all fun u => !Tryd.prog.wantsStandIn u) = true := by kernel_rfl
        exact (show Tryd.prog.wantsStandIn t = false by simpa using List.all_eq_true.1 hall t hm)⟩)
    (by kernel_rfl)
end Go.Proofs.YthnncehddnfjmaaDoor
