/- The law DigestSum holds: for every key and every bytes the program's hash value is the reference's, also of every beginning. No condition. -/
import Derived.Test.YtaiadjkeeifpgaaRows
import Derived.Test.YtaiadjkeeifpgaaDg7
import Derived.Test.YtaiadjkeeifpgaaVc7
import Derived.OpenShut
namespace Go.Proofs.Ytaiadjkeeifpgaa
open Go Go.RowKit Go.ChangeShapes Go.WideShapes Go.ChangeAt Go.Proofs.Ytaiadjkeeifpgaa.Vc

theorem digestSum_own : ownKnob Try.prog.godebug = none := by kernel_rfl
theorem digestSum_laid : laidOutB Try.prog = true := by kernel_rfl
theorem digestSum_rd : (Try.f3.params.toList.all fun t => Try.prog.readableRec t && Nat.blt t Try.prog.types.size) = true := by kernel_rfl

theorem digestSum_lifted (os : Os) (started : os.Started) (H : Type) (enc : TypeId × Value → H) :
    ReturnsInHanded {} Try.checked os 3 .any (Rows.digestSumSpec.pre6 enc Try.prog Try.f3 Rows.digestSumRow.domain false)
      (Rows.digestSumSpec.post enc Try.prog Try.f3 false true false false) := by
  refine returnsInHanded_of_change (C := Try.checked) digestSum_own started (by kernel_rfl) Try.func3
    (ChangeSpec.witness6 (enc := enc) (C := Try.checked) false ⟨#[], #[.int .u64 0, .int .u64 0, .slice none 0 0], []⟩ 8 (by kernel_rfl) (by kernel_rfl) (by kernel_rfl) (by kernel_rfl)) ?_
  intro W base args ds gs before hval0 hW _ _
  have hval : ∀ (j : Nat) t v, Try.f3.params[j]? = some t → args[j]? = some v → Value.okWide Try.prog W .any base t v := hval0
  obtain ⟨p, q, hA0, hV, hpq, hfz, hnd⟩ := id hW
  have hA : DataW.TrodAll enc Try.prog W 0 (fun _ => true) true Try.f3.params.toList args.toList ds p := hA0
  rw [Try.params3] at hA hval
  obtain ⟨v0, v1, v2, d0, d1, d2, p0, p1, p2, rfl, rfl, rfl, h0, h1, h2⟩ := trodAll_three hA
  obtain ⟨k0, rfl, _, _, _⟩ := open_int Try.underlying22 (hval 0 22 v0 rfl rfl) h0
  obtain ⟨k1, rfl, _, _, _⟩ := open_int Try.underlying22 (hval 1 22 v1 rfl rfl) h1
  obtain ⟨oa, l, c, hc, hlc, hn, hr⟩ := rd_bytes (t := 23) (e := 5) rfl rfl (rd_top h2)
  obtain rfl := val_slice (t := 23) (e := 5) rfl (hval 2 23 v2 rfl rfl) hc
  refine Calls.mono (Dg.lawSum_ok k0 k1 oa c l W hlc hr) ?_
  rintro e W' ⟨v, rfl, rfl, hB⟩
  exact ⟨_, rfl, law_post digestSum_laid digestSum_rd rfl rfl rfl (fun ds h => by
    match ds, h with
    | [_, _, _], _ => rfl) hW hB⟩

theorem digestSum_holds : Rows.DigestSumSaid :=
  OpenClaim.holds_of_wide 3 Try.f3 rfl rfl rfl rfl rfl rfl rfl ⟨rfl, rfl, rfl, rfl, rfl⟩ rfl rfl rfl rfl rfl (by kernel_rfl) Try.func3 (by kernel_rfl)
    (of_decide_eq_true (by kernel_rfl)) (by unfold Func.isWrapper; first | (rw [if_pos (by decide +kernel)]; kernel_rfl) | (rw [if_neg (by decide +kernel)]; exact ⟨rfl, rfl⟩))
    (fun os started H enc _ => digestSum_lifted os started H enc)

end Go.Proofs.Ytaiadjkeeifpgaa
