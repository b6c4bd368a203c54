/- The law ColumnShort holds: equal numbers, numbers in equal steps and numbers of a narrow range have short encodings. No condition. -/
import Derived.Test.YtmhpfadbmpipkaaRows
import Derived.Test.YtmhpfadbmpipkaaClr
import Derived.OpenShut
set_option linter.unusedVariables false
set_option linter.unusedSimpArgs false
namespace Go.Proofs.Ytmhpfadbmpipkaa
open Go Go.RowKit Go.ChangeShapes Go.WideShapes Go.ChangeAt Go.Proofs.Ytmhpfadbmpipkaa.Vc

theorem columnShort_own : ownKnob Try.prog.godebug = none := by kernel_rfl
theorem columnShort_laid : laidOutB Try.prog = true := by kernel_rfl
theorem columnShort_rd : (Try.f4.params.toList.all fun t => Try.prog.readableRec t && Nat.blt t Try.prog.types.size) = true := by kernel_rfl

set_option maxRecDepth 100000 in
theorem columnShort_lifted (os : Os) (started : os.Started) (H : Type) (enc : TypeId × Value → H) :
    ReturnsInHanded {} Try.checked os 4 .any (Rows.columnShortSpec.pre6 enc Try.prog Try.f4 Rows.columnShortRow.domain false)
      (Rows.columnShortSpec.post enc Try.prog Try.f4 false true false false) := by
  refine returnsInHanded_of_change (C := Try.checked) columnShort_own started (by kernel_rfl) Try.func4
    (ChangeSpec.witness6 (enc := enc) (C := Try.checked) false ⟨#[], #[.int .i64 0, .int .i64 0, .int .u8 0, .slice none 0 0], []⟩ 8 (by kernel_rfl) (by kernel_rfl) (by kernel_rfl) (by kernel_rfl)) ?_
  intro W base args ds gs before hval0 hW _ _
  have hval : ∀ (j : Nat) t v, Try.f4.params[j]? = some t → args[j]? = some v → Value.okWide Try.prog W .any base t v := hval0
  obtain ⟨p, q, hA0, hV, hpq, hfz, hnd⟩ := id hW
  have hA : DataW.TrodAll enc Try.prog W 0 (fun _ => true) true Try.f4.params.toList args.toList ds p := hA0
  rw [Try.params4] at hA hval
  obtain ⟨v0, v1, v2, v3, d0, d1, d2, d3, p0, p1, p2, p3, rfl, rfl, rfl, h0, h1, h2, h3⟩ := trodAll_four hA
  obtain ⟨k0, rfl, _, _, w0⟩ := open_int (k := .i64) rfl (hval 0 3 v0 rfl rfl) h0
  have b0 := Cl.i64_of w0
  obtain ⟨k1, rfl, _, _, w1⟩ := open_int (k := .i64) rfl (hval 1 3 v1 rfl rfl) h1
  have b1 := Cl.i64_of w1
  obtain ⟨k2, rfl, _, _, w2⟩ := open_int (k := .u8) rfl (hval 2 5 v2 rfl rfl) h2
  obtain ⟨n2, rfl, b2⟩ := Cl.u8_of w2
  obtain ⟨oa3, l3, c3, hc3, b3, r3⟩ := Cl.rd_bools (t := 29) (e := 4) rfl rfl (rd_top h3)
  obtain rfl := val_slice (t := 29) (e := 4) rfl (hval 3 29 v3 rfl rfl) hc3
  refine Calls.mono (Ax.ret_of_afn (Cl.shortA k0 k1 n2 l3 b0 b1 b2) W (Cl.gc_of W) _ ⟨.v _, .v _, .v _, r3, trivial⟩) ?_
  rintro e W' ⟨v, rfl, rfl, hB⟩
  exact ⟨_, rfl, law_post columnShort_laid columnShort_rd rfl rfl rfl (fun ds h => by
    match ds, h with
    | [_, _, _, _], _ => rfl) hW hB⟩

theorem columnShort_holds : Rows.ColumnShortSaid :=
  OpenClaim.holds_of_wide 4 Try.f4 rfl rfl rfl rfl rfl rfl rfl ⟨rfl, rfl, rfl, rfl, rfl⟩ rfl rfl rfl rfl rfl (by kernel_rfl) Try.func4 (by kernel_rfl)
    (of_decide_eq_true (by kernel_rfl)) (by unfold Func.isWrapper; first | (rw [if_pos (by decide +kernel)]; kernel_rfl) | (rw [if_neg (by decide +kernel)]; exact ⟨rfl, rfl⟩))
    (fun os started H enc _ => columnShort_lifted os started H enc)
end Go.Proofs.Ytmhpfadbmpipkaa
