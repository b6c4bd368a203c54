/- The law BucketPicks holds, with its card: for any ranges, bucket, number and choices the program's answers are the reference's. No condition beyond the card's. -/
import Derived.Test.YthnncehddnfjmaaDoorCards
import Derived.Test.YthnncehddnfjmaaDoorTie
import Derived.Test.YthnncehddnfjmaaDoorBk13
import Derived.Test.YthnncehddnfjmaaDoorBkr
import Derived.ProofKit
import Derived.SevenTiedAt
namespace Go.Proofs.YthnncehddnfjmaaDoor
open Go Go.RowKit Go.ChangeShapes Go.WideShapes Go.ChangeAt Go.Proofs.YthnncehddnfjmaaDoor.Vc

theorem bucketPicks_own : ownKnob Tryd.prog.godebug = none := by kernel_rfl
theorem bucketPicks_laid : laidOutB Tryd.prog = true := by kernel_rfl
theorem bucketPicks_rd : (Tryd.f4.params.toList.all fun t => Tryd.prog.readableRec t && Nat.blt t Tryd.prog.types.size) = true := by kernel_rfl
theorem bucketPicks_met (os : Os) (args : Array Value) : laidMetH Tryd.prog Rows.bucketPicksRow.laid ((World.doorLaid Tryd.prog 400 os).forCall (fun _ _ => 0) ⟨#[], args, []⟩).memory :=
  laidMetH_of_parts3 (fuel := 8) (laidMet_of_run' 8 (by kernel_rfl) (by kernel_rfl)) (by kernel_rfl) (by kernel_rfl)

set_option maxRecDepth 100000 in
theorem bucketPicks_lifted (os : Os) (started : os.Started) (H : Type) (enc : TypeId × Value → H) :
    ReturnsInHanded {} Tryd.checked os 4 .any (fun w args => (Rows.bucketPicksSpec.pre enc Tryd.prog Tryd.f4 [] false w args ∧ laidMetH Tryd.prog Rows.bucketPicksRow.laid w) ∧ sizedMet enc Tryd.prog Tryd.f4 (OpenSpec.ofChange Rows.bucketPicksSpec) false w args)
      (Rows.bucketPicksSpec.post enc Tryd.prog Tryd.f4 false true false false) := by
  refine returnsInHanded_of_change_and (C := Tryd.checked) (X := fun w _ => laidMetH Tryd.prog Rows.bucketPicksRow.laid w) (fun _ _ _ hh h => h.of_heap hh) bucketPicks_own started (by kernel_rfl) Tryd.func4
    (ChangeSpec.witness_shaped (enc := enc) (C := Tryd.checked) (os := os) (X := fun w _ => laidMetH Tryd.prog Rows.bucketPicksRow.laid w) false (World.doorLaid Tryd.prog 400 os) #[.slice none 0 0, .int .i64 0, .int .i64 0, .slice none 0 0] 8 rfl (World.shaped_of_RefB (by kernel_rfl) (by kernel_rfl)) (by kernel_rfl) (by kernel_rfl) (by kernel_rfl) (bucketPicks_met os _)) ?_
  intro W base args ds gs before hval0 hW _ _ hL _
  have hval : ∀ (j : Nat) t v, Tryd.f4.params[j]? = some t → args[j]? = some v → Value.okWide Tryd.prog W .any base t v := hval0
  obtain ⟨p, q, hA0, hV, hpq, hfz, hnd⟩ := id hW
  have hA : DataW.TrodAll enc Tryd.prog W 0 (fun _ => true) true Tryd.f4.params.toList args.toList ds p := hA0
  rw [Tryd.params4] at hA hval
  obtain ⟨v0, v1, v2, v3, d0, d1, d2, d3, p0, p1, p2, p3, rfl, rfl, rfl, h0, h1, h2, h3⟩ := trodAll_four hA
  obtain ⟨oa0, ls0, c0, hc0, hlc0, hcm0, hr0⟩ := Bk.rd_ranges (rd_top h0)
  obtain rfl := val_slice (t := 22) (e := 69) rfl (hval 0 22 v0 rfl rfl) hc0
  obtain ⟨k1, rfl, _, _, _⟩ := open_int Tryd.underlying3 (hval 1 3 v1 rfl rfl) h1
  obtain ⟨k2, rfl, _, _, _⟩ := open_int Tryd.underlying3 (hval 2 3 v2 rfl rfl) h2
  obtain ⟨oa3, l3, c3, hc3, hlc3, hn3, hr3⟩ := rd_bytes (t := 24) (e := 5) rfl rfl (rd_top h3)
  obtain rfl := val_slice (t := 24) (e := 5) rfl (hval 3 24 v3 rfl rfl) hc3
  refine Calls.mono (Bk.lawPicks_ok oa0 oa3 c0 c3 ls0 l3 k1 k2 W (Bk.hal_of hL) hr0 hr3 hlc3) ?_
  rintro e W' ⟨v, rfl, rfl, hB⟩
  exact ⟨_, rfl, law_post bucketPicks_laid bucketPicks_rd rfl rfl rfl (fun ds h => by
    match ds, h with
    | [_, _, _, _], _ => rfl) hW hB⟩

theorem bucketPicks_holds0 : Rows.BucketPicksSaid :=
  OpenClaim.holds_of_wide 4 Tryd.f4 rfl rfl rfl rfl rfl rfl rfl ⟨rfl, rfl, rfl, rfl, rfl⟩ rfl rfl rfl rfl rfl (by kernel_rfl) Tryd.func4 (by kernel_rfl)
    (of_decide_eq_true (by kernel_rfl)) (by unfold Func.isWrapper; first | (rw [if_pos (by decide +kernel)]; kernel_rfl) | (rw [if_neg (by decide +kernel)]; exact ⟨rfl, rfl⟩))
    (fun os started H enc _ => bucketPicks_lifted os started H enc)
theorem bucketPicks_holds : Rows.BucketPicksCardSaid :=
  Claim7.holds_tied_plain_at .later [] Rows.bucketPicksCard.laidKinds true Rows.bucketPicksCard.stood.harness false
    bucketPicks_holds0 (fun _ h => by cases h) (by kernel_rfl) (fun _ h => by cases h) bucketPicks_row_tie rfl ⟨rfl, rfl⟩ (by kernel_rfl) rfl
    (fun f fn hf hfn => by
      obtain rfl : f = 4 := Option.some.inj ((show Tryd.prog.funcNamed "flagstone/flagstonelaw13.BucketPicks" = some 4 by kernel_rfl).symm.trans hf) |>.symm
      obtain rfl : fn = Tryd.f4 := (Option.some.inj (Tryd.func4.symm.trans hfn)).symm
      exact ⟨by kernel_rfl, fun j t ht => by
        have hm : t ∈ Tryd.f4.params.toList := by simpa using Array.mem_of_getElem? ht
        have hall : (Tryd.f4.params.toList.all fun u => !Tryd.prog.wantsStandIn u) = true := by kernel_rfl
        exact (show Tryd.prog.wantsStandIn t = false by simpa using List.all_eq_true.1 hall t hm)⟩)
    (by kernel_rfl)
end Go.Proofs.YthnncehddnfjmaaDoor
