/- A quick reckoning of what an operation waits for: masks of bits, built once in the order of the operations. No condition. -/
import Derived.Test.YthnncehddnfjmaaDoorVc3
set_option linter.unusedVariables false
set_option linter.unusedSimpArgs false
namespace Go.Proofs.YthnncehddnfjmaaDoor.Vc
open Go Go.RowKit

/-- the mask of what an operation waits for, out of the masks of those before it -/
def ancGo (ms : List Nat) : List Edge → Nat
  | [] => 0
  | e :: r => bif Region.binds .any e then Nat.lor (Nat.lor (Nat.shiftLeft 1 e.on) (ms.getD e.on 0)) (ancGo ms r) else ancGo ms r
def ancs (ms : List Nat) : List Oper → List Nat
  | [] => ms
  | o :: r => ancs (ms ++ [ancGo ms o.after.toList]) r
def AncOK (ops : Array Oper) (ms : List Nat) : Prop := ∀ i j, (ms.getD i 0).testBit j = true → Anc ops i j
theorem ancGo_bit {ms : List Nat} {j : Nat} : ∀ {es : List Edge}, (ancGo ms es).testBit j = true → ∃ e ∈ es, Region.binds .any e = true ∧ (e.on = j ∨ (ms.getD e.on 0).testBit j = true)
  | [], h => by simp [ancGo] at h
  | e :: r, h => by
    unfold ancGo at h
    cases hb : Region.binds .any e with
    | false =>
      rw [hb, cond_false] at h
      obtain ⟨x, hx, h1, h2⟩ := ancGo_bit h
      exact ⟨x, by simp [hx], h1, h2⟩
    | true =>
      rw [hb, cond_true] at h
      have h : ((1 <<< e.on ||| ms.getD e.on 0) ||| ancGo ms r).testBit j = true := h
      simp only [Nat.testBit_or, Bool.or_eq_true] at h
      rcases h with (h | h) | h
      · refine ⟨e, by simp, hb, .inl ?_⟩
        rw [Nat.one_shiftLeft, Nat.testBit_two_pow] at h
        simpa using h
      · exact ⟨e, by simp, hb, .inr h⟩
      · obtain ⟨x, hx, h1, h2⟩ := ancGo_bit h
        exact ⟨x, by simp [hx], h1, h2⟩
theorem anc_trans {ops : Array Oper} {i j k : Nat} (h : Anc ops i j) (h' : Anc ops j k) : Anc ops i k := by
  induction h' with
  | one ho he hb => exact .more h ho he hb
  | more _ ho he hb ih => exact .more ih ho he hb
theorem ancs_ok {ops : Array Oper} : ∀ (os : List Oper) (ms : List Nat), AncOK ops ms → (∀ k, os[k]? = ops[ms.length + k]?) → AncOK ops (ancs ms os)
  | [], ms, h, _ => h
  | o :: r, ms, h, ho => by
    refine ancs_ok r _ ?_ (fun k => by have := ho (k + 1); simp only [List.getElem?_cons_succ] at this; rw [this, List.length_append, List.length_singleton]; congr 1; omega)
    intro i j hb
    rcases Nat.lt_trichotomy i ms.length with hi | hi | hi
    · rw [List.getD_eq_getElem?_getD, List.getElem?_append_left hi, ← List.getD_eq_getElem?_getD] at hb
      exact h i j hb
    · subst hi
      rw [List.getD_eq_getElem?_getD, List.getElem?_append_right (Nat.le_refl _)] at hb
      simp only [Nat.sub_self, List.getElem?_cons_zero, Option.getD_some] at hb
      obtain ⟨e, he, h1, h2⟩ := ancGo_bit hb
      have h0 := ho 0
      simp only [List.getElem?_cons_zero, Nat.add_zero] at h0
      have hx : Anc ops ms.length e.on := .one h0.symm (by simpa using he) h1
      rcases h2 with rfl | h2
      · exact hx
      · exact anc_trans hx (h _ _ h2)
    · rw [List.getD_eq_getElem?_getD, List.getElem?_eq_none (by simp; omega)] at hb
      simp at hb
/-- an operation that waits for all of T, by the masks -/
def postAtM (ms : List Nat) (T : List Nat) (i : Nat) : Bool := T.all fun j => Nat.beq j i || (ms.getD i 0).testBit j
theorem postAtM_anc {ops : Array Oper} {T : List Nat} {i j : Nat} (h : postAtM (ancs [] ops.toList) T i = true) (hj : j ∈ T) (hne : j ≠ i) : Anc ops i j := by
  have hok : AncOK ops (ancs [] ops.toList) := ancs_ok ops.toList [] (fun i j h => by simp at h) (fun k => by simp)
  simp only [postAtM, List.all_eq_true, Bool.or_eq_true] at h
  rcases h j hj with e | e
  · exact absurd (Nat.eq_of_beq_eq_true e) hne
  · exact hok _ _ e
end Go.Proofs.YthnncehddnfjmaaDoor.Vc
