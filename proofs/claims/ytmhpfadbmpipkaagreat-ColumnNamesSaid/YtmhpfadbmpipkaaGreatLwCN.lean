/- The law ColumnNames holds: Texts and ReadTexts return what is specified for lists of a few texts, which have several encodings of their indexes. No condition. -/
import Derived.Test.YtmhpfadbmpipkaaGreatRows
import Derived.Test.YtmhpfadbmpipkaaGreatCtr
import Derived.Test.YtmhpfadbmpipkaaGreatCt8
import Derived.OpenShut
set_option linter.unusedVariables false
set_option linter.unusedSimpArgs false
namespace Go.Proofs.YtmhpfadbmpipkaaGreat
open Go Go.RowKit Go.ChangeShapes Go.WideShapes Go.ChangeAt Go.Proofs.YtmhpfadbmpipkaaGreat.Vc

theorem columnNames_own : ownKnob Tryz.prog.godebug = none := by kernel_rfl
theorem columnNames_laid : laidOutB Tryz.prog = true := by kernel_rfl
theorem columnNames_rd : (Tryz.f4.params.toList.all fun t => Tryz.prog.readableRec t && Nat.blt t Tryz.prog.types.size) = true := by kernel_rfl

set_option maxRecDepth 100000 in
theorem columnNames_lifted (os : Os) (started : os.Started) (H : Type) (enc : TypeId × Value → H) :
    ReturnsInHanded {} Tryz.checked os 4 .any (Rows.columnNamesSpec.pre6 enc Tryz.prog Tryz.f4 Rows.columnNamesRow.domain false)
      (Rows.columnNamesSpec.post enc Tryz.prog Tryz.f4 false true false false) := by
  refine returnsInHanded_of_change (C := Tryz.checked) columnNames_own started (by kernel_rfl) Tryz.func4
    (ChangeSpec.witness6 (enc := enc) (C := Tryz.checked) false ⟨#[], #[.slice none 0 0, .int .u16 0, .int .u16 0, .int .u8 0], []⟩ 8 (by kernel_rfl) (by kernel_rfl) (by kernel_rfl) (by kernel_rfl)) ?_
  intro W base args ds gs before hval0 hW _ _
  have hval : ∀ (j : Nat) t v, Tryz.f4.params[j]? = some t → args[j]? = some v → Value.okWide Tryz.prog W .any base t v := hval0
  obtain ⟨p, q, hA0, hV, hpq, hfz, hnd⟩ := id hW
  have hA : DataW.TrodAll enc Tryz.prog W 0 (fun _ => true) true Tryz.f4.params.toList args.toList ds p := hA0
  rw [Tryz.params4] at hA hval
  obtain ⟨v0, v1, v2, v3, d0, d1, d2, d3, p0, p1, p2, p3, rfl, rfl, rfl, h0, h1, h2, h3⟩ := trodAll_four hA
  obtain ⟨oa0, l0, c0, hc0, b0, r0⟩ := Cl.rd_bys (t := 23) (e := 5) rfl rfl (rd_top h0)
  obtain rfl := val_slice (t := 23) (e := 5) rfl (hval 0 23 v0 rfl rfl) hc0
  obtain ⟨k1, rfl, _, _, w1⟩ := open_int (k := .u16) rfl (hval 1 24 v1 rfl rfl) h1
  obtain ⟨n1, rfl, b1⟩ := Cl.u16_of w1
  obtain ⟨k2, rfl, _, _, w2⟩ := open_int (k := .u16) rfl (hval 2 24 v2 rfl rfl) h2
  obtain ⟨n2, rfl, b2⟩ := Cl.u16_of w2
  obtain ⟨k3, rfl, _, _, w3⟩ := open_int (k := .u8) rfl (hval 3 5 v3 rfl rfl) h3
  obtain ⟨n3, rfl, b3⟩ := Cl.u8_of w3
  refine Calls.mono (Ax.ret_of_afn (Cl.lawNamesA l0 n1 n2 n3 b1 b2 b3) W (Cl.gc_of W) _ ⟨r0, .v _, .v _, .v _, trivial⟩) ?_
  rintro e W' ⟨v, rfl, rfl, hB⟩
  exact ⟨_, rfl, law_post columnNames_laid columnNames_rd rfl rfl rfl (fun ds h => by
    match ds, h with
    | [_, _, _, _], _ => rfl) hW hB⟩

theorem columnNames_holds : Rows.ColumnNamesSaid :=
  OpenClaim.holds_of_wide 4 Tryz.f4 rfl rfl rfl rfl rfl rfl rfl ⟨rfl, rfl, rfl, rfl, rfl⟩ rfl rfl rfl rfl rfl (by kernel_rfl) Tryz.func4 (by kernel_rfl)
    (of_decide_eq_true (by kernel_rfl)) (by unfold Func.isWrapper; first | (rw [if_pos (by decide +kernel)]; kernel_rfl) | (rw [if_neg (by decide +kernel)]; exact ⟨rfl, rfl⟩))
    (fun os started H enc _ => columnNames_lifted os started H enc)
end Go.Proofs.YtmhpfadbmpipkaaGreat
