/- The law BucketSubjects holds, with its card: the bucket of any subject by any of its attributes, or that it has none. No condition beyond the card's. -/
import Derived.Test.YthnncehddnfjmaaDoorCards
import Derived.Test.YthnncehddnfjmaaDoorTie
import Derived.Test.YthnncehddnfjmaaDoorHd8
import Derived.Test.YthnncehddnfjmaaDoorHd7
import Derived.ProofKit
import Derived.SevenTiedAt
set_option linter.unusedVariables false
set_option linter.unusedSimpArgs false
namespace Go.Proofs.YthnncehddnfjmaaDoor
open Go Go.RowKit Go.ChangeShapes Go.WideShapes Go.ChangeAt Go.Proofs.YthnncehddnfjmaaDoor.Vc

theorem bucketSubjects_own : ownKnob Tryd.prog.godebug = none := by kernel_rfl
theorem bucketSubjects_laid : laidOutB Tryd.prog = true := by kernel_rfl
theorem bucketSubjects_rd : (Tryd.f9.params.toList.all fun t => Tryd.prog.readableRec t && Nat.blt t Tryd.prog.types.size) = true := by kernel_rfl
theorem bucketSubjects_met (os : Os) (args : Array Value) : laidMetH Tryd.prog Rows.bucketSubjectsRow.laid ((World.doorLaid Tryd.prog 400 os).forCall (fun _ _ => 0) ⟨#[], args, []⟩).memory :=
  laidMetH_of_parts3 (fuel := 8) (laidMet_of_run' 8 (by kernel_rfl) (by kernel_rfl)) (by kernel_rfl) (by kernel_rfl)

set_option maxRecDepth 100000 in
theorem bucketSubjects_lifted (os : Os) (started : os.Started) (H : Type) (enc : TypeId × Value → H) :
    ReturnsInHanded {} Tryd.checked os 9 .any (fun w args => (Rows.bucketSubjectsSpec.pre enc Tryd.prog Tryd.f9 [] false w args ∧ laidMetH Tryd.prog Rows.bucketSubjectsRow.laid w) ∧ sizedMet enc Tryd.prog Tryd.f9 (OpenSpec.ofChange Rows.bucketSubjectsSpec) false w args)
      (Rows.bucketSubjectsSpec.post enc Tryd.prog Tryd.f9 false true false false) := by
  refine returnsInHanded_of_change_and (C := Tryd.checked) (X := fun w _ => laidMetH Tryd.prog Rows.bucketSubjectsRow.laid w) (fun _ _ _ hh h => h.of_heap hh) bucketSubjects_own started (by kernel_rfl) Tryd.func9
    (ChangeSpec.witness_shaped (enc := enc) (C := Tryd.checked) (os := os) (X := fun w _ => laidMetH Tryd.prog Rows.bucketSubjectsRow.laid w) false (World.doorLaid Tryd.prog 400 os) #[.slice none 0 0, .agg #[.slice none 0 0], .string ⟨#[]⟩, .string ⟨#[]⟩, .string ⟨#[]⟩] 8 rfl (World.shaped_of_RefB (by kernel_rfl) (by kernel_rfl)) (by kernel_rfl) (by kernel_rfl) (by kernel_rfl) (bucketSubjects_met os _)) ?_
  intro W base args ds gs before hval0 hW _ hwt hL _
  have hval : ∀ (j : Nat) t v, Tryd.f9.params[j]? = some t → args[j]? = some v → Value.okWide Tryd.prog W .any base t v := hval0
  obtain ⟨p, q, hA0, hV, hpq, hfz, hnd⟩ := id hW
  have hA : DataW.TrodAll enc Tryd.prog W 0 (fun _ => true) true Tryd.f9.params.toList args.toList ds p := hA0
  rw [Tryd.params9] at hA hval
  have hwe := fun x hx => of_decide_eq_true (List.all_eq_true.1 hwt x hx)
  obtain ⟨v0, v1, v2, v3, v4, d0, d1, d2, d3, d4, p0, p1, p2, p3, p4, rfl, rfl, rfl, h0, h1, h2, h3, h4⟩ := trodAll_five hA
  obtain ⟨oa0, l0, c0, hc0, b0, r0⟩ := Dw.rd_bysW (t := 24) (e := 5) rfl rfl (rd_top h0)
  obtain rfl := val_slice (t := 24) (e := 5) rfl (hval 0 24 v0 rfl rfl) hc0
  obtain ⟨row1, o1, r1⟩ := rdg_arg (t := 58) (es := Dw.ssh) 8 rfl (by kernel_rfl) (hval 1 58 v1 rfl rfl) h1 (each_ok hwe 1 _ _ rfl rfl)
  obtain ⟨sj1, rfl, b1⟩ := Dw.subj_row o1
  obtain ⟨k2, rfl, _, _⟩ := ChangeMaps.open_string Tryd.underlying9 (hval 2 9 v2 rfl rfl) h2
  obtain ⟨k3, rfl, _, _⟩ := ChangeMaps.open_string Tryd.underlying9 (hval 3 9 v3 rfl rfl) h3
  obtain ⟨k4, rfl, _, _⟩ := ChangeMaps.open_string Tryd.underlying9 (hval 4 9 v4 rfl rfl) h4
  refine Calls.mono (Ax.ret_of_afn (Dw.lawSubjectsW (Dw.lw_of hL) l0 sj1 b1 k2 k3 k4) W (Dw.gw_holds W) _ ⟨r0, r1, .v _, .v _, .v _, trivial⟩) ?_
  rintro e W' ⟨v, rfl, rfl, hB⟩
  exact ⟨_, rfl, law_post bucketSubjects_laid bucketSubjects_rd rfl rfl rfl (fun ds h => by
    match ds, h with
    | [_, _, _, _, _], _ => rfl) hW hB⟩

theorem bucketSubjects_holds0 : Rows.BucketSubjectsSaid :=
  OpenClaim.holds_of_wide 9 Tryd.f9 rfl rfl rfl rfl rfl rfl rfl ⟨rfl, rfl, rfl, rfl, rfl⟩ rfl rfl rfl rfl rfl (by kernel_rfl) Tryd.func9 (by kernel_rfl)
    (of_decide_eq_true (by kernel_rfl)) (by unfold Func.isWrapper; first | (rw [if_pos (by decide +kernel)]; kernel_rfl) | (rw [if_neg (by decide +kernel)]; exact ⟨rfl, rfl⟩))
    (fun os started H enc _ => bucketSubjects_lifted os started H enc)
theorem bucketSubjects_holds : Rows.BucketSubjectsCardSaid :=
  Claim7.holds_tied_plain_at .later [] Rows.bucketSubjectsCard.laidKinds true Rows.bucketSubjectsCard.stood.harness false
    bucketSubjects_holds0 (fun _ h => by cases h) (by kernel_rfl) (fun _ h => by cases h) bucketSubjects_row_tie rfl ⟨rfl, rfl⟩ (by kernel_rfl) rfl
    (fun f fn hf hfn => by
      obtain rfl : f = 9 := Option.some.inj ((show Tryd.prog.funcNamed "flagstone/flagstonelaw13.BucketSubjects" = some 9 by kernel_rfl).symm.trans hf) |>.symm
      obtain rfl : fn = Tryd.f9 := (Option.some.inj (Tryd.func9.symm.trans hfn)).symm
      exact ⟨by kernel_rfl, fun j t ht => by
        have hm : t ∈ Tryd.f9.params.toList := by simpa using Array.mem_of_getElem? ht
        have hall : (Tryd.f9.params.toList.all fun u => !Tryd.prog.wantsStandIn u) = true := by kernel_rfl
        exact (show Tryd.prog.wantsStandIn t = false by simpa using List.all_eq_true.1 hall t hm)⟩)
    (by kernel_rfl)
end Go.Proofs.YthnncehddnfjmaaDoor

