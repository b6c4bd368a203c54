/- The law DigestFrame holds: for any two lists of fields the program gives the frame that the reference gives, and the frame of both lists is the two frames. No condition. -/
import Derived.Test.YtaiadjkeeifpgaaRows
import Derived.Test.YtaiadjkeeifpgaaDg9
import Derived.Test.YtaiadjkeeifpgaaDgr
import Derived.OpenShut
namespace Go.Proofs.Ytaiadjkeeifpgaa
open Go Go.RowKit Go.ChangeShapes Go.WideShapes Go.ChangeAt Go.Proofs.Ytaiadjkeeifpgaa.Vc

theorem digestFrame_own : ownKnob Try.prog.godebug = none := by kernel_rfl
theorem digestFrame_laid : laidOutB Try.prog = true := by kernel_rfl
theorem digestFrame_rd : (Try.f4.params.toList.all fun t => Try.prog.readableRec t && Nat.blt t Try.prog.types.size) = true := by kernel_rfl

theorem digestFrame_lifted (os : Os) (started : os.Started) (H : Type) (enc : TypeId × Value → H) :
    ReturnsInHanded {} Try.checked os 4 .any (Rows.digestFrameSpec.pre6 enc Try.prog Try.f4 Rows.digestFrameRow.domain false)
      (Rows.digestFrameSpec.post enc Try.prog Try.f4 false true false false) := by
  refine returnsInHanded_of_change (C := Try.checked) digestFrame_own started (by kernel_rfl) Try.func4
    (ChangeSpec.witness6 (enc := enc) (C := Try.checked) false ⟨#[], #[.slice none 0 0, .slice none 0 0], []⟩ 8 (by kernel_rfl) (by kernel_rfl) (by kernel_rfl) (by kernel_rfl)) ?_
  intro W base args ds gs before hval0 hW _ _
  have hval : ∀ (j : Nat) t v, Try.f4.params[j]? = some t → args[j]? = some v → Value.okWide Try.prog W .any base t v := hval0
  obtain ⟨p, q, hA0, hV, hpq, hfz, hnd⟩ := id hW
  have hA : DataW.TrodAll enc Try.prog W 0 (fun _ => true) true Try.f4.params.toList args.toList ds p := hA0
  rw [Try.params4] at hA hval
  obtain ⟨v0, v1, d0, d1, p0, p1, rfl, rfl, rfl, h0, h1⟩ := trodAll_two hA
  obtain ⟨oa, c, vs, ls, hc, hlc, hn, hr, hf⟩ := Dg.rd_fields (t := 27) (e := 23) (b := 5) rfl rfl rfl (rd_top h0)
  obtain ⟨ob, d, us, ks, hd, hld, hm, hs, hg⟩ := Dg.rd_fields (t := 27) (e := 23) (b := 5) rfl rfl rfl (rd_top h1)
  obtain rfl := val_slice (t := 27) (e := 23) rfl (hval 0 27 v0 rfl rfl) hc
  obtain rfl := val_slice (t := 27) (e := 23) rfl (hval 1 27 v1 rfl rfl) hd
  refine Calls.mono (Dg.lawFrame_ok oa ob c d vs us ls ks W hlc hr hf hld hs hg) ?_
  rintro e W' ⟨v, rfl, rfl, hB⟩
  exact ⟨_, rfl, law_post digestFrame_laid digestFrame_rd rfl rfl rfl (fun ds h => by
    match ds, h with
    | [_, _], _ => rfl) hW hB⟩

theorem digestFrame_holds : Rows.DigestFrameSaid :=
  OpenClaim.holds_of_wide 4 Try.f4 rfl rfl rfl rfl rfl rfl rfl ⟨rfl, rfl, rfl, rfl, rfl⟩ rfl rfl rfl rfl rfl (by kernel_rfl) Try.func4 (by kernel_rfl)
    (of_decide_eq_true (by kernel_rfl)) (by unfold Func.isWrapper; first | (rw [if_pos (by decide +kernel)]; kernel_rfl) | (rw [if_neg (by decide +kernel)]; exact ⟨rfl, rfl⟩))
    (fun os started H enc _ => digestFrame_lifted os started H enc)

end Go.Proofs.Ytaiadjkeeifpgaa
