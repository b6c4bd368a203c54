/- The law ColumnTexts holds: Texts and ReadTexts return what is specified, and texts are read as they were encoded. No condition. -/
import Derived.Test.YtmhpfadbmpipkaaGreatRows
import Derived.Test.YtmhpfadbmpipkaaGreatCtr
import Derived.Test.YtmhpfadbmpipkaaGreatCt7
import Derived.OpenShut
set_option linter.unusedVariables false
set_option linter.unusedSimpArgs false
namespace Go.Proofs.YtmhpfadbmpipkaaGreat
open Go Go.RowKit Go.ChangeShapes Go.WideShapes Go.ChangeAt Go.Proofs.YtmhpfadbmpipkaaGreat.Vc

theorem columnTexts_own : ownKnob Tryz.prog.godebug = none := by kernel_rfl
theorem columnTexts_laid : laidOutB Tryz.prog = true := by kernel_rfl
theorem columnTexts_rd : (Tryz.f3.params.toList.all fun t => Tryz.prog.readableRec t && Nat.blt t Tryz.prog.types.size) = true := by kernel_rfl

set_option maxRecDepth 100000 in
theorem columnTexts_lifted (os : Os) (started : os.Started) (H : Type) (enc : TypeId × Value → H) :
    ReturnsInHanded {} Tryz.checked os 3 .any (Rows.columnTextsSpec.pre6 enc Tryz.prog Tryz.f3 Rows.columnTextsRow.domain false)
      (Rows.columnTextsSpec.post enc Tryz.prog Tryz.f3 false true false false) := by
  refine returnsInHanded_of_change (C := Tryz.checked) columnTexts_own started (by kernel_rfl) Tryz.func3
    (ChangeSpec.witness6 (enc := enc) (C := Tryz.checked) false ⟨#[], #[.slice none 0 0, .slice none 0 0, .slice none 0 0, .int .u16 0, .int .u16 0, .int .u8 0], []⟩ 8 (by kernel_rfl) (by kernel_rfl) (by kernel_rfl) (by kernel_rfl)) ?_
  intro W base args ds gs before hval0 hW _ _
  have hval : ∀ (j : Nat) t v, Tryz.f3.params[j]? = some t → args[j]? = some v → Value.okWide Tryz.prog W .any base t v := hval0
  obtain ⟨p, q, hA0, hV, hpq, hfz, hnd⟩ := id hW
  have hA : DataW.TrodAll enc Tryz.prog W 0 (fun _ => true) true Tryz.f3.params.toList args.toList ds p := hA0
  rw [Tryz.params3] at hA hval
  obtain ⟨v0, v1, v2, v3, v4, v5, d0, d1, d2, d3, d4, d5, p0, p1, p2, p3, p4, p5, rfl, rfl, rfl, h0, h1, h2, h3, h4, h5⟩ := trodAll_six hA
  obtain ⟨oa0, l0, c0, hc0, b0, r0⟩ := Cl.rd_texts (t := 22) (e := 9) rfl rfl (rd_top h0)
  obtain rfl := val_slice (t := 22) (e := 9) rfl (hval 0 22 v0 rfl rfl) hc0
  obtain ⟨oa1, l1, c1, hc1, b1, r1⟩ := Cl.rd_bys (t := 23) (e := 5) rfl rfl (rd_top h1)
  obtain rfl := val_slice (t := 23) (e := 5) rfl (hval 1 23 v1 rfl rfl) hc1
  obtain ⟨oa2, l2, c2, hc2, b2, r2⟩ := Cl.rd_bys (t := 23) (e := 5) rfl rfl (rd_top h2)
  obtain rfl := val_slice (t := 23) (e := 5) rfl (hval 2 23 v2 rfl rfl) hc2
  obtain ⟨k3, rfl, _, _, w3⟩ := open_int (k := .u16) rfl (hval 3 24 v3 rfl rfl) h3
  obtain ⟨n3, rfl, b3⟩ := Cl.u16_of w3
  obtain ⟨k4, rfl, _, _, w4⟩ := open_int (k := .u16) rfl (hval 4 24 v4 rfl rfl) h4
  obtain ⟨n4, rfl, b4⟩ := Cl.u16_of w4
  obtain ⟨k5, rfl, _, _, w5⟩ := open_int (k := .u8) rfl (hval 5 5 v5 rfl rfl) h5
  obtain ⟨n5, rfl, b5⟩ := Cl.u8_of w5
  refine Calls.mono (Ax.ret_of_afn (Cl.lawTextsA l0 l1 l2 n3 n4 n5 b3 b4 b5) W (Cl.gc_of W) _ ⟨r0, r1, r2, .v _, .v _, .v _, trivial⟩) ?_
  rintro e W' ⟨v, rfl, rfl, hB⟩
  exact ⟨_, rfl, law_post columnTexts_laid columnTexts_rd rfl rfl rfl (fun ds h => by
    match ds, h with
    | [_, _, _, _, _, _], _ => rfl) hW hB⟩

theorem columnTexts_holds : Rows.ColumnTextsSaid :=
  OpenClaim.holds_of_wide 3 Tryz.f3 rfl rfl rfl rfl rfl rfl rfl ⟨rfl, rfl, rfl, rfl, rfl⟩ rfl rfl rfl rfl rfl (by kernel_rfl) Tryz.func3 (by kernel_rfl)
    (of_decide_eq_true (by kernel_rfl)) (by unfold Func.isWrapper; first | (rw [if_pos (by decide +kernel)]; kernel_rfl) | (rw [if_neg (by decide +kernel)]; exact ⟨rfl, rfl⟩))
    (fun os started H enc _ => columnTexts_lifted os started H enc)
end Go.Proofs.YtmhpfadbmpipkaaGreat
