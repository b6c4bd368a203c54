/- A law's argument that is a list of byte lists, read as such. No condition. -/
import Derived.Test.YtaiadjkeeifpgaaDg3
import Derived.Test.YtaiadjkeeifpgaaVc7
namespace Go.Proofs.Ytaiadjkeeifpgaa.Dg
open Go Go.RowKit Go.ChangeShapes Go.WideShapes Go.ChangeAt Go.Proofs.Ytaiadjkeeifpgaa.Vc

theorem rd_fields {H : Type} {enc : TypeId × Value → H} {P : Program} {w : World} {t e b : TypeId} {cs : List Value} (ht : P.underlying t = some (.slice e)) (he : P.underlying e = some (.slice b)) (hb : P.underlying b = some (.int .u8)) (h : Rd enc P w t cs) :
    ∃ (oa : Option Addr) (cap : Nat) (vs : List Value) (ls : List (List UInt8)), cs = [.slice oa ls.length cap] ∧ ls.length ≤ cap ∧ (oa = none → cap = 0) ∧ Row w oa vs ∧ Fld w vs ls := by
  obtain ⟨oa, len, cap, css, h1, hlc, _, hn, hcl, hr, hall⟩ := rd_slice ht h
  have key : ∃ ls : List (List UInt8), ls.length = css.length ∧ Fld w css.flatten ls := by
    clear hr hcl h1
    induction css with
    | nil => exact ⟨[], rfl, rfl, fun i hi => by simp at hi⟩
    | cons c r ih =>
      obtain ⟨ls, hl, hf⟩ := ih (fun c hc => hall c (by simp [hc]))
      obtain ⟨oa', l, cap', hc, hlc', hn', hr'⟩ := rd_bytes he hb (hall c (by simp)).2
      refine ⟨l :: ls, by simp [hl], by rw [hc]; simp [hf.1], fun i hi => ?_⟩
      cases i with
      | zero => exact ⟨oa', cap', by rw [hc]; rfl, hlc', hn', hr'⟩
      | succ i =>
        obtain ⟨oa2, c2, h1, h2, h3, h4⟩ := hf.2 i (by simpa using hi)
        exact ⟨oa2, c2, by rw [hc]; simpa using h1, h2, h3, h4⟩
  obtain ⟨ls, hl, hf⟩ := key
  have : len = ls.length := by rw [← hcl, hl]
  subst this
  exact ⟨oa, cap, css.flatten, ls, h1, hlc, hn, hr, hf⟩

end Go.Proofs.Ytaiadjkeeifpgaa.Dg
