/- The law ColumnReads holds: ReadInts returns the specified numbers, length or error for all bytes, and for encodings that were changed at one place. No condition. -/
import Derived.Test.YtmhpfadbmpipkaaRows
import Derived.Test.YtmhpfadbmpipkaaClr
import Derived.Test.YtmhpfadbmpipkaaCl29
import Derived.OpenShut
set_option linter.unusedVariables false
set_option linter.unusedSimpArgs false
namespace Go.Proofs.Ytmhpfadbmpipkaa
open Go Go.RowKit Go.ChangeShapes Go.WideShapes Go.ChangeAt Go.Proofs.Ytmhpfadbmpipkaa.Vc

theorem columnReads_own : ownKnob Try.prog.godebug = none := by kernel_rfl
theorem columnReads_laid : laidOutB Try.prog = true := by kernel_rfl
theorem columnReads_rd : (Try.f5.params.toList.all fun t => Try.prog.readableRec t && Nat.blt t Try.prog.types.size) = true := by kernel_rfl

set_option maxRecDepth 100000 in
theorem columnReads_lifted (os : Os) (started : os.Started) (H : Type) (enc : TypeId × Value → H) :
    ReturnsInHanded {} Try.checked os 5 .any (Rows.columnReadsSpec.pre6 enc Try.prog Try.f5 Rows.columnReadsRow.domain false)
      (Rows.columnReadsSpec.post enc Try.prog Try.f5 false true false false) := by
  refine returnsInHanded_of_change (C := Try.checked) columnReads_own started (by kernel_rfl) Try.func5
    (ChangeSpec.witness6 (enc := enc) (C := Try.checked) false ⟨#[], #[.slice none 0 0, .slice none 0 0, .int .u8 0, .int .u16 0, .int .u16 0, .int .u8 0], []⟩ 8 (by kernel_rfl) (by kernel_rfl) (by kernel_rfl) (by kernel_rfl)) ?_
  intro W base args ds gs before hval0 hW _ _
  have hval : ∀ (j : Nat) t v, Try.f5.params[j]? = some t → args[j]? = some v → Value.okWide Try.prog W .any base t v := hval0
  obtain ⟨p, q, hA0, hV, hpq, hfz, hnd⟩ := id hW
  have hA : DataW.TrodAll enc Try.prog W 0 (fun _ => true) true Try.f5.params.toList args.toList ds p := hA0
  rw [Try.params5] at hA hval
  obtain ⟨v0, v1, v2, v3, v4, v5, d0, d1, d2, d3, d4, d5, p0, p1, p2, p3, p4, p5, rfl, rfl, rfl, h0, h1, h2, h3, h4, h5⟩ := trodAll_six hA
  obtain ⟨oa0, l0, c0, hc0, b0, r0⟩ := Cl.rd_bys (t := 26) (e := 5) rfl rfl (rd_top h0)
  obtain rfl := val_slice (t := 26) (e := 5) rfl (hval 0 26 v0 rfl rfl) hc0
  obtain ⟨oa1, l1, c1, hc1, b1, r1⟩ := Cl.rd_i16s (t := 23) (e := 42) rfl rfl (rd_top h1)
  obtain rfl := val_slice (t := 23) (e := 42) rfl (hval 1 23 v1 rfl rfl) hc1
  obtain ⟨k2, rfl, _, _, w2⟩ := open_int (k := .u8) rfl (hval 2 5 v2 rfl rfl) h2
  obtain ⟨n2, rfl, b2⟩ := Cl.u8_of w2
  obtain ⟨k3, rfl, _, _, w3⟩ := open_int (k := .u16) rfl (hval 3 32 v3 rfl rfl) h3
  obtain ⟨n3, rfl, b3⟩ := Cl.u16_of w3
  obtain ⟨k4, rfl, _, _, w4⟩ := open_int (k := .u16) rfl (hval 4 32 v4 rfl rfl) h4
  obtain ⟨n4, rfl, b4⟩ := Cl.u16_of w4
  obtain ⟨k5, rfl, _, _, w5⟩ := open_int (k := .u8) rfl (hval 5 5 v5 rfl rfl) h5
  obtain ⟨n5, rfl, b5⟩ := Cl.u8_of w5
  refine Calls.mono (Ax.ret_of_afn (Cl.lawReadsA l0 l1 n2 n3 n4 n5 b1 b2 b3 b4 b5) W (Cl.gc_of W) _ ⟨r0, r1, .v _, .v _, .v _, .v _, trivial⟩) ?_
  rintro e W' ⟨v, rfl, rfl, hB⟩
  exact ⟨_, rfl, law_post columnReads_laid columnReads_rd rfl rfl rfl (fun ds h => by
    match ds, h with
    | [_, _, _, _, _, _], _ => rfl) hW hB⟩

theorem columnReads_holds : Rows.ColumnReadsSaid :=
  OpenClaim.holds_of_wide 5 Try.f5 rfl rfl rfl rfl rfl rfl rfl ⟨rfl, rfl, rfl, rfl, rfl⟩ rfl rfl rfl rfl rfl (by kernel_rfl) Try.func5 (by kernel_rfl)
    (of_decide_eq_true (by kernel_rfl)) (by unfold Func.isWrapper; first | (rw [if_pos (by decide +kernel)]; kernel_rfl) | (rw [if_neg (by decide +kernel)]; exact ⟨rfl, rfl⟩))
    (fun os started H enc _ => columnReads_lifted os started H enc)
end Go.Proofs.Ytmhpfadbmpipkaa
