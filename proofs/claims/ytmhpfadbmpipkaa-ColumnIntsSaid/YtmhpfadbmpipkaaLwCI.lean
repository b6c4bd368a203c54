/- The law ColumnInts holds: Ints returns the specified encoding, for any numbers and for lists of several kinds. No condition. -/
import Derived.Test.YtmhpfadbmpipkaaRows
import Derived.Test.YtmhpfadbmpipkaaClr
import Derived.Test.YtmhpfadbmpipkaaCl17
import Derived.OpenShut
set_option linter.unusedVariables false
set_option linter.unusedSimpArgs false
namespace Go.Proofs.Ytmhpfadbmpipkaa
open Go Go.RowKit Go.ChangeShapes Go.WideShapes Go.ChangeAt Go.Proofs.Ytmhpfadbmpipkaa.Vc

theorem columnInts_own : ownKnob Try.prog.godebug = none := by kernel_rfl
theorem columnInts_laid : laidOutB Try.prog = true := by kernel_rfl
theorem columnInts_rd : (Try.f3.params.toList.all fun t => Try.prog.readableRec t && Nat.blt t Try.prog.types.size) = true := by kernel_rfl

set_option maxRecDepth 100000 in
theorem columnInts_lifted (os : Os) (started : os.Started) (H : Type) (enc : TypeId × Value → H) :
    ReturnsInHanded {} Try.checked os 3 .any (Rows.columnIntsSpec.pre6 enc Try.prog Try.f3 Rows.columnIntsRow.domain false)
      (Rows.columnIntsSpec.post enc Try.prog Try.f3 false true false false) := by
  refine returnsInHanded_of_change (C := Try.checked) columnInts_own started (by kernel_rfl) Try.func3
    (ChangeSpec.witness6 (enc := enc) (C := Try.checked) false ⟨#[], #[.slice none 0 0, .slice none 0 0, .int .u8 0], []⟩ 8 (by kernel_rfl) (by kernel_rfl) (by kernel_rfl) (by kernel_rfl)) ?_
  intro W base args ds gs before hval0 hW _ _
  have hval : ∀ (j : Nat) t v, Try.f3.params[j]? = some t → args[j]? = some v → Value.okWide Try.prog W .any base t v := hval0
  obtain ⟨p, q, hA0, hV, hpq, hfz, hnd⟩ := id hW
  have hA : DataW.TrodAll enc Try.prog W 0 (fun _ => true) true Try.f3.params.toList args.toList ds p := hA0
  rw [Try.params3] at hA hval
  obtain ⟨v0, v1, v2, d0, d1, d2, p0, p1, p2, rfl, rfl, rfl, h0, h1, h2⟩ := trodAll_three hA
  obtain ⟨oa0, l0, c0, hc0, b0, r0⟩ := Cl.rd_ints (t := 22) (e := 3) rfl rfl (rd_top h0)
  obtain rfl := val_slice (t := 22) (e := 3) rfl (hval 0 22 v0 rfl rfl) hc0
  obtain ⟨oa1, l1, c1, hc1, b1, r1⟩ := Cl.rd_i16s (t := 23) (e := 42) rfl rfl (rd_top h1)
  obtain rfl := val_slice (t := 23) (e := 42) rfl (hval 1 23 v1 rfl rfl) hc1
  obtain ⟨k2, rfl, _, _, w2⟩ := open_int (k := .u8) rfl (hval 2 5 v2 rfl rfl) h2
  obtain ⟨n2, rfl, b2⟩ := Cl.u8_of w2
  refine Calls.mono (Ax.ret_of_afn (Cl.lawIntsA l0 l1 n2 b0 b1 b2) W (Cl.gc_of W) _ ⟨r0, r1, .v _, trivial⟩) ?_
  rintro e W' ⟨v, rfl, rfl, hB⟩
  exact ⟨_, rfl, law_post columnInts_laid columnInts_rd rfl rfl rfl (fun ds h => by
    match ds, h with
    | [_, _, _], _ => rfl) hW hB⟩

theorem columnInts_holds : Rows.ColumnIntsSaid :=
  OpenClaim.holds_of_wide 3 Try.f3 rfl rfl rfl rfl rfl rfl rfl ⟨rfl, rfl, rfl, rfl, rfl⟩ rfl rfl rfl rfl rfl (by kernel_rfl) Try.func3 (by kernel_rfl)
    (of_decide_eq_true (by kernel_rfl)) (by unfold Func.isWrapper; first | (rw [if_pos (by decide +kernel)]; kernel_rfl) | (rw [if_neg (by decide +kernel)]; exact ⟨rfl, rfl⟩))
    (fun os started H enc _ => columnInts_lifted os started H enc)
end Go.Proofs.Ytmhpfadbmpipkaa
