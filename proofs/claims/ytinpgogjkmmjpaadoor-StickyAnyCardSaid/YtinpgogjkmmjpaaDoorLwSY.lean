/- The law StickyAny holds, with its card: all functions return what the reference returns, for any register and arguments. No condition beyond the card's. -/
import Derived.Test.YtinpgogjkmmjpaaDoorCards
import Derived.Test.YtinpgogjkmmjpaaDoorTie
import Derived.Test.YtinpgogjkmmjpaaDoorSxa
import Derived.Test.YtinpgogjkmmjpaaDoorSx20
import Derived.ProofKit
import Derived.SevenTiedAt
import Derived.ChangeMaps5
set_option linter.unusedVariables false
set_option linter.unusedSimpArgs false
namespace Go.Proofs.YtinpgogjkmmjpaaDoor
open Go Go.RowKit Go.ChangeShapes Go.WideShapes Go.ChangeAt Go.Proofs.YtinpgogjkmmjpaaDoor.Vc

theorem stickyAny_own : ownKnob Tryd.prog.godebug = none := by kernel_rfl
theorem stickyAny_laid : laidOutB Tryd.prog = true := by kernel_rfl
theorem stickyAny_rd : (Tryd.f10.params.toList.all fun t => Tryd.prog.readableRec t && Nat.blt t Tryd.prog.types.size) = true := by kernel_rfl
theorem stickyAny_met (os : Os) (args : Array Value) : laidMetH Tryd.prog Rows.stickyAnyRow.laid ((World.doorLaid Tryd.prog 400 os).forCall (fun _ _ => 0) ⟨#[], args, []⟩).memory :=
  laidMetH_of_parts3 (fuel := 8) (laidMet_of_run' 8 (by kernel_rfl) (by kernel_rfl)) (by kernel_rfl) (by kernel_rfl)

set_option maxRecDepth 100000 in
theorem stickyAny_lifted (os : Os) (started : os.Started) (H : Type) (enc : TypeId × Value → H) :
    ReturnsInHanded {} Tryd.checked os 10 .any (fun w args => (Rows.stickyAnySpec.pre enc Tryd.prog Tryd.f10 [] false w args ∧ laidMetH Tryd.prog Rows.stickyAnyRow.laid w) ∧ sizedMet enc Tryd.prog Tryd.f10 (OpenSpec.ofChange Rows.stickyAnySpec) false w args)
      (Rows.stickyAnySpec.post enc Tryd.prog Tryd.f10 false true false false) := by
  refine returnsInHanded_of_change_and (C := Tryd.checked) (X := fun w _ => laidMetH Tryd.prog Rows.stickyAnyRow.laid w) (fun _ _ _ hh h => h.of_heap hh) stickyAny_own started (by kernel_rfl) Tryd.func10
    (ChangeSpec.witness_shaped (enc := enc) (C := Tryd.checked) (os := os) (X := fun w _ => laidMetH Tryd.prog Rows.stickyAnyRow.laid w) false (World.doorLaid Tryd.prog 400 os) #[.agg #[.int .i64 0, .slice none 0 0, .slice none 0 0], .string ⟨#[]⟩, .string ⟨#[]⟩, .string ⟨#[]⟩, .agg #[.string ⟨#[]⟩, .string ⟨#[]⟩, .int .i64 0, .int .i64 0, .bool false], .int .i64 0, .int .i64 0] 8 rfl (World.shaped_of_RefB (by kernel_rfl) (by kernel_rfl)) (by kernel_rfl) (by kernel_rfl) (by kernel_rfl) (stickyAny_met os _)) ?_
  intro W base args ds gs before hval0 hW _ hwt hL _
  have hval : ∀ (j : Nat) t v, Tryd.f10.params[j]? = some t → args[j]? = some v → Value.okWide Tryd.prog W .any base t v := hval0
  obtain ⟨p, q, hA0, hV, hpq, hfz, hnd⟩ := id hW
  have hA : DataW.TrodAll enc Tryd.prog W 0 (fun _ => true) true Tryd.f10.params.toList args.toList ds p := hA0
  rw [Tryd.params10] at hA hval
  obtain ⟨v0, v1, v2, v3, v4, v5, v6, d0, d1, d2, d3, d4, d5, d6, p0, p1, p2, p3, p4, p5, p6, rfl, rfl, rfl, h0, h1, h2, h3, h4, h5, h6⟩ := trodAll_seven hA
  have hwe := fun x hx => of_decide_eq_true (List.all_eq_true.1 hwt x hx)
  obtain ⟨cs0, rfl, _⟩ := okWide_struct rfl (hval 0 27 v0 rfl rfl)
  obtain ⟨r0, hS0, hp0⟩ := Sx.rdd_reg (cs := cs0.toList) (d := d0) ⟨true, h0.choose, _, h0.choose_spec⟩ (Sx.each_ok hwe 0 _ _ rfl rfl)
  obtain ⟨k1, rfl, rfl, _, _⟩ := ChangeMaps.open_string Tryd.underlying9 (hval 1 9 v1 rfl rfl) h1
  have b1 := Sx.str_ok (Sx.each_ok hwe 1 _ _ rfl rfl)
  obtain ⟨k2, rfl, rfl, _, _⟩ := ChangeMaps.open_string Tryd.underlying9 (hval 2 9 v2 rfl rfl) h2
  have b2 := Sx.str_ok (Sx.each_ok hwe 2 _ _ rfl rfl)
  obtain ⟨k3, rfl, rfl, _, _⟩ := ChangeMaps.open_string Tryd.underlying9 (hval 3 9 v3 rfl rfl) h3
  have b3 := Sx.str_ok (Sx.each_ok hwe 3 _ _ rfl rfl)
  obtain ⟨cs4, rfl, _⟩ := okWide_struct rfl (hval 4 64 v4 rfl rfl)
  obtain ⟨l4, x4, u4, a4, g4, e4, b4, bb4⟩ := Sx.rdd_asg (cs := cs4.toList) (d := d4) ⟨true, h4.choose, _, h4.choose_spec⟩ (Sx.each_ok hwe 4 _ _ rfl rfl)
  rw [Array.toArray_toList] at hp0
  obtain rfl : cs4 = #[.string l4, .string x4, .int .i64 u4, .int .i64 a4, .bool g4] := by
    apply Array.ext'
    simpa using e4
  obtain ⟨k5, rfl, _, _, _⟩ := open_int Tryd.underlying3 (hval 5 3 v5 rfl rfl) h5
  obtain ⟨k6, rfl, _, _, _⟩ := open_int Tryd.underlying3 (hval 6 3 v6 rfl rfl) h6
  refine Calls.mono (Ax.ret_of_afn (Sx.anyA r0 k1 k2 k3 l4 x4 u4 a4 k5 k6 g4 hS0 b1 b2 b3 b4 bb4) W (Sx.gs_of hL) _ ⟨hp0, .v _, .v _, .v _, Ax.RepL.agg ⟨.v _, .v _, .v _, .v _, .v _, trivial⟩, .v _, .v _, trivial⟩) ?_
  rintro e W' ⟨v, rfl, rfl, hB⟩
  exact ⟨_, rfl, law_post stickyAny_laid stickyAny_rd rfl rfl rfl (fun ds h => by
    match ds, h with
    | [_, _, _, _, _, _, _], _ => rfl) hW hB⟩

theorem stickyAny_holds0 : Rows.StickyAnySaid :=
  OpenClaim.holds_of_wide 10 Tryd.f10 rfl rfl rfl rfl rfl rfl rfl ⟨rfl, rfl, rfl, rfl, rfl⟩ rfl rfl rfl rfl rfl (by kernel_rfl) Tryd.func10 (by kernel_rfl)
    (of_decide_eq_true (by kernel_rfl)) (by unfold Func.isWrapper; first | (rw [if_pos (by decide +kernel)]; kernel_rfl) | (rw [if_neg (by decide +kernel)]; exact ⟨rfl, rfl⟩))
    (fun os started H enc _ => stickyAny_lifted os started H enc)
theorem stickyAny_holds : Rows.StickyAnyCardSaid :=
  Claim7.holds_tied_plain_at .later [] Rows.stickyAnyCard.laidKinds true Rows.stickyAnyCard.stood.harness false
    stickyAny_holds0 (fun _ h => by cases h) (by kernel_rfl) (fun _ h => by cases h) stickyAny_row_tie rfl ⟨rfl, rfl⟩ (by kernel_rfl) rfl
    (fun f fn hf hfn => by
      obtain rfl : f = 10 := Option.some.inj ((show Tryd.prog.funcNamed "flagstone/flagstonelaw27.StickyAny" = some 10 by kernel_rfl).symm.trans hf) |>.symm
      obtain rfl : fn = Tryd.f10 := (Option.some.inj (Tryd.func10.symm.trans hfn)).symm
      exact ⟨by kernel_rfl, fun j t ht => by
        have hm : t ∈ Tryd.f10.params.toList := by simpa using Array.mem_of_getElem? ht
        have hall : (Tryd.f10.params.toList.all fun u => !Tryd.prog.wantsStandIn u) = true := by kernel_rfl
        exact (show Tryd.prog.wantsStandIn t = false by simpa using List.all_eq_true.1 hall t hm)⟩)
    (by kernel_rfl)
end Go.Proofs.YtinpgogjkmmjpaaDoor
