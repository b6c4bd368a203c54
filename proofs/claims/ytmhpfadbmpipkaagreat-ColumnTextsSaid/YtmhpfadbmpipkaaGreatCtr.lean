/- What a list of texts as argument reads as. No condition. -/
import Derived.Test.YtmhpfadbmpipkaaGreatClr
import Derived.Test.YtmhpfadbmpipkaaGreatCt2
set_option linter.unusedVariables false
set_option linter.unusedSimpArgs false
namespace Go.Proofs.YtmhpfadbmpipkaaGreat.Cl
open Go Go.RowKit Go.Proofs Go.Proofs.YtmhpfadbmpipkaaGreat.Vc Go.Proofs.YtmhpfadbmpipkaaGreat.Ax
section
variable {P : Program} {H : Type} {enc : TypeId × Value → H} {w : World}
theorem rd_string {t : TypeId} {cs : List Value} (ht : P.underlying t = some .string) (h : Rd enc P w t cs) : ∃ s : By, cs = [.string ⟨s.toArray⟩] := by
  obtain ⟨d, held, fuel, p, h⟩ := h
  obtain ⟨s, e, _⟩ := DataW.trod_string ht h
  exact ⟨s.data.toList, by rw [e]⟩
theorem rd_texts {t e : TypeId} {cs : List Value} (ht : P.underlying t = some (.slice e)) (he : P.underlying e = some .string) (h : Rd enc P w t cs) :
    ∃ (oa : Option Addr) (l : Tx) (cap : Nat), cs = [.slice oa l.length cap] ∧ True ∧ ARep 0 loc0 (Here w) w (tl l) (.slice oa l.length cap) := by
  obtain ⟨oa, l, cap, h1, _, h3⟩ := rd_lst (en := fun s : By => Value.string ⟨s.toArray⟩) (Q := fun _ => True) ht (fun c hc => by obtain ⟨n, e⟩ := rd_string he hc; exact ⟨n, e, trivial⟩) (fun _ => rfl) h
  exact ⟨oa, l, cap, h1, trivial, h3⟩
end
end Go.Proofs.YtmhpfadbmpipkaaGreat.Cl
