/- The law DigestInjective holds: the frames of two lists of fields are equal exactly if the lists are. No condition. -/
import Derived.Test.YtaiadjkeeifpgaaRows
import Derived.Test.YtaiadjkeeifpgaaDgj
import Derived.Test.YtaiadjkeeifpgaaDgr
import Derived.OpenShut
namespace Go.Proofs.Ytaiadjkeeifpgaa
open Go Go.RowKit Go.ChangeShapes Go.WideShapes Go.ChangeAt Go.Proofs.Ytaiadjkeeifpgaa.Vc

theorem digestInjective_own : ownKnob Try.prog.godebug = none := by kernel_rfl
theorem digestInjective_laid : laidOutB Try.prog = true := by kernel_rfl
theorem digestInjective_rd : (Try.f5.params.toList.all fun t => Try.prog.readableRec t && Nat.blt t Try.prog.types.size) = true := by kernel_rfl

theorem digestInjective_lifted (os : Os) (started : os.Started) (H : Type) (enc : TypeId × Value → H) :
    ReturnsInHanded {} Try.checked os 5 .any (Rows.digestInjectiveSpec.pre6 enc Try.prog Try.f5 Rows.digestInjectiveRow.domain false)
      (Rows.digestInjectiveSpec.post enc Try.prog Try.f5 false true false false) := by
  refine returnsInHanded_of_change (C := Try.checked) digestInjective_own started (by kernel_rfl) Try.func5
    (ChangeSpec.witness6 (enc := enc) (C := Try.checked) false ⟨#[], #[.slice none 0 0, .slice none 0 0, .int .i64 0, .int .i64 0], []⟩ 8 (by kernel_rfl) (by kernel_rfl) (by kernel_rfl) (by kernel_rfl)) ?_
  intro W base args ds gs before hval0 hW _ _
  have hval : ∀ (j : Nat) t v, Try.f5.params[j]? = some t → args[j]? = some v → Value.okWide Try.prog W .any base t v := hval0
  obtain ⟨p, q, hA0, hV, hpq, hfz, hnd⟩ := id hW
  have hA : DataW.TrodAll enc Try.prog W 0 (fun _ => true) true Try.f5.params.toList args.toList ds p := hA0
  rw [Try.params5] at hA hval
  obtain ⟨v0, v1, v2, v3, d0, d1, d2, d3, p0, p1, p2, p3, rfl, rfl, rfl, h0, h1, h2, h3⟩ := trodAll_four hA
  obtain ⟨k0, rfl, _, _, _⟩ := open_int Try.underlying3 (hval 2 3 v2 rfl rfl) h2
  obtain ⟨k1, rfl, _, _, _⟩ := open_int Try.underlying3 (hval 3 3 v3 rfl rfl) h3
  obtain ⟨oa, c, vs, ls, hc, hlc, hn, hr, hf⟩ := Dg.rd_fields (t := 27) (e := 23) (b := 5) rfl rfl rfl (rd_top h0)
  obtain ⟨ob, d, us, ks, hd, hld, hm, hs, hg⟩ := Dg.rd_fields (t := 27) (e := 23) (b := 5) rfl rfl rfl (rd_top h1)
  obtain rfl := val_slice (t := 27) (e := 23) rfl (hval 0 27 v0 rfl rfl) hc
  obtain rfl := val_slice (t := 27) (e := 23) rfl (hval 1 27 v1 rfl rfl) hd
  refine Calls.mono (Dg.lawInj_ok oa ob c d vs us ls ks k0 k1 W hlc hr hf hld hs hg) ?_
  rintro e W' ⟨v, rfl, rfl, hB⟩
  exact ⟨_, rfl, law_post digestInjective_laid digestInjective_rd rfl rfl rfl (fun ds h => by
    match ds, h with
    | [_, _, _, _], _ => rfl) hW hB⟩

theorem digestInjective_holds : Rows.DigestInjectiveSaid :=
  OpenClaim.holds_of_wide 5 Try.f5 rfl rfl rfl rfl rfl rfl rfl ⟨rfl, rfl, rfl, rfl, rfl⟩ rfl rfl rfl rfl rfl (by kernel_rfl) Try.func5 (by kernel_rfl)
    (of_decide_eq_true (by kernel_rfl)) (by unfold Func.isWrapper; first | (rw [if_pos (by decide +kernel)]; kernel_rfl) | (rw [if_neg (by decide +kernel)]; exact ⟨rfl, rfl⟩))
    (fun os started H enc _ => digestInjective_lifted os started H enc)

end Go.Proofs.Ytaiadjkeeifpgaa
