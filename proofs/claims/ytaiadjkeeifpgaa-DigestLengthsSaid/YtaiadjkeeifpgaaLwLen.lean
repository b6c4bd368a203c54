/- The law DigestLengths holds: the hash values of n and of n + 1 zero bytes are the reference's, and their frames differ. No condition. -/
import Derived.Test.YtaiadjkeeifpgaaRows
import Derived.Test.YtaiadjkeeifpgaaDgl
import Derived.Test.YtaiadjkeeifpgaaVc7
import Derived.OpenShut
namespace Go.Proofs.Ytaiadjkeeifpgaa
open Go Go.RowKit Go.ChangeShapes Go.WideShapes Go.ChangeAt Go.Proofs.Ytaiadjkeeifpgaa.Vc

theorem digestLengths_own : ownKnob Try.prog.godebug = none := by kernel_rfl
theorem digestLengths_laid : laidOutB Try.prog = true := by kernel_rfl
theorem digestLengths_rd : (Try.f6.params.toList.all fun t => Try.prog.readableRec t && Nat.blt t Try.prog.types.size) = true := by kernel_rfl

theorem digestLengths_lifted (os : Os) (started : os.Started) (H : Type) (enc : TypeId × Value → H) :
    ReturnsInHanded {} Try.checked os 6 .any (Rows.digestLengthsSpec.pre6 enc Try.prog Try.f6 Rows.digestLengthsRow.domain false)
      (Rows.digestLengthsSpec.post enc Try.prog Try.f6 false true false false) := by
  refine returnsInHanded_of_change (C := Try.checked) digestLengths_own started (by kernel_rfl) Try.func6
    (ChangeSpec.witness6 (enc := enc) (C := Try.checked) false ⟨#[], #[.int .u64 0, .int .i64 0], []⟩ 8 (by kernel_rfl) (by kernel_rfl) (by kernel_rfl) (by kernel_rfl)) ?_
  intro W base args ds gs before hval0 hW _ _
  have hval : ∀ (j : Nat) t v, Try.f6.params[j]? = some t → args[j]? = some v → Value.okWide Try.prog W .any base t v := hval0
  obtain ⟨p, q, hA0, hV, hpq, hfz, hnd⟩ := id hW
  have hA : DataW.TrodAll enc Try.prog W 0 (fun _ => true) true Try.f6.params.toList args.toList ds p := hA0
  rw [Try.params6] at hA hval
  obtain ⟨v0, v1, d0, d1, p0, p1, rfl, rfl, rfl, h0, h1⟩ := trodAll_two hA
  obtain ⟨k0, rfl, _, _, _⟩ := open_int Try.underlying22 (hval 0 22 v0 rfl rfl) h0
  obtain ⟨k1, rfl, _, _, _⟩ := open_int Try.underlying3 (hval 1 3 v1 rfl rfl) h1
  refine Calls.mono (Dg.lawLen_ok k0 k1 W) ?_
  rintro e W' ⟨v, rfl, rfl, hB⟩
  exact ⟨_, rfl, law_post digestLengths_laid digestLengths_rd rfl rfl rfl (fun ds h => by
    match ds, h with
    | [_, _], _ => rfl) hW hB⟩

theorem digestLengths_holds : Rows.DigestLengthsSaid :=
  OpenClaim.holds_of_wide 6 Try.f6 rfl rfl rfl rfl rfl rfl rfl ⟨rfl, rfl, rfl, rfl, rfl⟩ rfl rfl rfl rfl rfl (by kernel_rfl) Try.func6 (by kernel_rfl)
    (of_decide_eq_true (by kernel_rfl)) (by unfold Func.isWrapper; first | (rw [if_pos (by decide +kernel)]; kernel_rfl) | (rw [if_neg (by decide +kernel)]; exact ⟨rfl, rfl⟩))
    (fun os started H enc _ => digestLengths_lifted os started H enc)

end Go.Proofs.Ytaiadjkeeifpgaa
