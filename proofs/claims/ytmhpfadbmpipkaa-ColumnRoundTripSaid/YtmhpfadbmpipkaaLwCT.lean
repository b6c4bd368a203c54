/- The law ColumnRoundTrip holds: numbers are read as they were encoded, whatever follows, and an encoding is short. No condition. -/
import Derived.Test.YtmhpfadbmpipkaaRows
import Derived.Test.YtmhpfadbmpipkaaClr
import Derived.Test.YtmhpfadbmpipkaaCl24
import Derived.OpenShut
set_option linter.unusedVariables false
set_option linter.unusedSimpArgs false
namespace Go.Proofs.Ytmhpfadbmpipkaa
open Go Go.RowKit Go.ChangeShapes Go.WideShapes Go.ChangeAt Go.Proofs.Ytmhpfadbmpipkaa.Vc

theorem columnRoundTrip_own : ownKnob Try.prog.godebug = none := by kernel_rfl
theorem columnRoundTrip_laid : laidOutB Try.prog = true := by kernel_rfl
theorem columnRoundTrip_rd : (Try.f6.params.toList.all fun t => Try.prog.readableRec t && Nat.blt t Try.prog.types.size) = true := by kernel_rfl

set_option maxRecDepth 100000 in
theorem columnRoundTrip_lifted (os : Os) (started : os.Started) (H : Type) (enc : TypeId × Value → H) :
    ReturnsInHanded {} Try.checked os 6 .any (Rows.columnRoundTripSpec.pre6 enc Try.prog Try.f6 Rows.columnRoundTripRow.domain false)
      (Rows.columnRoundTripSpec.post enc Try.prog Try.f6 false true false false) := by
  refine returnsInHanded_of_change (C := Try.checked) columnRoundTrip_own started (by kernel_rfl) Try.func6
    (ChangeSpec.witness6 (enc := enc) (C := Try.checked) false ⟨#[], #[.slice none 0 0, .slice none 0 0, .int .u8 0, .slice none 0 0], []⟩ 8 (by kernel_rfl) (by kernel_rfl) (by kernel_rfl) (by kernel_rfl)) ?_
  intro W base args ds gs before hval0 hW _ _
  have hval : ∀ (j : Nat) t v, Try.f6.params[j]? = some t → args[j]? = some v → Value.okWide Try.prog W .any base t v := hval0
  obtain ⟨p, q, hA0, hV, hpq, hfz, hnd⟩ := id hW
  have hA : DataW.TrodAll enc Try.prog W 0 (fun _ => true) true Try.f6.params.toList args.toList ds p := hA0
  rw [Try.params6] at hA hval
  obtain ⟨v0, v1, v2, v3, d0, d1, d2, d3, p0, p1, p2, p3, rfl, rfl, rfl, h0, h1, h2, h3⟩ := trodAll_four hA
  obtain ⟨oa0, l0, c0, hc0, b0, r0⟩ := Cl.rd_ints (t := 22) (e := 3) rfl rfl (rd_top h0)
  obtain rfl := val_slice (t := 22) (e := 3) rfl (hval 0 22 v0 rfl rfl) hc0
  obtain ⟨oa1, l1, c1, hc1, b1, r1⟩ := Cl.rd_i16s (t := 23) (e := 42) rfl rfl (rd_top h1)
  obtain rfl := val_slice (t := 23) (e := 42) rfl (hval 1 23 v1 rfl rfl) hc1
  obtain ⟨k2, rfl, _, _, w2⟩ := open_int (k := .u8) rfl (hval 2 5 v2 rfl rfl) h2
  obtain ⟨n2, rfl, b2⟩ := Cl.u8_of w2
  obtain ⟨oa3, l3, c3, hc3, b3, r3⟩ := Cl.rd_bys (t := 26) (e := 5) rfl rfl (rd_top h3)
  obtain rfl := val_slice (t := 26) (e := 5) rfl (hval 3 26 v3 rfl rfl) hc3
  refine Calls.mono (Ax.ret_of_afn (Cl.tripA l0 l1 n2 l3 b0 b1 b2) W (Cl.gc_of W) _ ⟨r0, r1, .v _, r3, trivial⟩) ?_
  rintro e W' ⟨v, rfl, rfl, hB⟩
  exact ⟨_, rfl, law_post columnRoundTrip_laid columnRoundTrip_rd rfl rfl rfl (fun ds h => by
    match ds, h with
    | [_, _, _, _], _ => rfl) hW hB⟩

theorem columnRoundTrip_holds : Rows.ColumnRoundTripSaid :=
  OpenClaim.holds_of_wide 6 Try.f6 rfl rfl rfl rfl rfl rfl rfl ⟨rfl, rfl, rfl, rfl, rfl⟩ rfl rfl rfl rfl rfl (by kernel_rfl) Try.func6 (by kernel_rfl)
    (of_decide_eq_true (by kernel_rfl)) (by unfold Func.isWrapper; first | (rw [if_pos (by decide +kernel)]; kernel_rfl) | (rw [if_neg (by decide +kernel)]; exact ⟨rfl, rfl⟩))
    (fun os started H enc _ => columnRoundTrip_lifted os started H enc)
end Go.Proofs.Ytmhpfadbmpipkaa
