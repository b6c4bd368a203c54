/- What the walk of the law DigestInjective needs: slices from a place on, and that a frame tells its fields. Conditions: fields are shorter than 2^64. -/
import Derived.Test.YtaiadjkeeifpgaaDg9
namespace Go.Proofs.Ytaiadjkeeifpgaa.Vc
open Go Go.RowKit
/-- where x[lo:] begins, for cells of one word -/
def loA (oa : Option Addr) (lo c : Nat) : Option Addr := if c = lo then oa else oa.map fun a => a.add (lo * 1)
theorem vs_sliceLo1 {P : Program} {w : World} {K : Value → World → Prop} {t E : TypeId} {n c lo : Nat} {oa : Option Addr} {kl : IntKind} {li : Int} (ht : P.underlying t = some (.slice E)) (hs : szB P E = some 1)
    (he : li = lo) (hh : lo ≤ n) (_hc : n ≤ c) (k : K (.slice (loA oa lo c) (n - lo) (c - lo)) w) : VSem P (Instr.sliceAt t (.slice oa n c) (some (.int kl li)) none none) w K := by
  refine vsem ?_ k
  subst he
  have h1 : (0 : Int) ≤ lo ∧ (lo : Int) ≤ n := ⟨by omega, by omega⟩
  unfold Instr.sliceAt
  rw [Sem.run_bind, run_under ht]
  simp only [Result.andThen_ok]
  unfold Instr.slice
  rw [Sem.run_bind, run_under ht]
  simp only [Result.andThen_ok, Instr.sliceBounds, Instr.sliceBound, asIntOf, Sem.run_bind, Sem.run_pure, if_pos h1, run_size hs]
  simp [loA]
theorem loA_none {oa : Option Addr} {lo c n : Nat} (h : oa = none → c = 0) (_hn : n ≤ c) : loA oa lo c = none → c - lo = 0 := by
  intro e
  unfold loA at e
  split at e
  · omega
  · have := h (by simpa using e)
    omega
theorem Row.lo {w : World} {oa : Option Addr} {vs : List Value} {lo c : Nat} (h : Row w oa vs) (hl : vs.length ≤ c) : Row w (loA oa lo c) (vs.drop lo) := by
  rcases h with rfl | ⟨b, o, rfl, hlt, hc⟩
  · exact .inl (by simp)
  · unfold loA
    split
    · exact .inl (by rw [List.drop_eq_nil_iff]; omega)
    · refine .inr ⟨b, o + lo, by simp [add0], hlt, fun j v hj => ?_⟩
      rw [List.getElem?_drop] at hj
      rw [Nat.add_assoc]
      exact hc _ v hj
end Go.Proofs.Ytaiadjkeeifpgaa.Vc
namespace Go.Proofs.Ytaiadjkeeifpgaa.Dg
open Go Go.RowKit Go.Proofs.Ytaiadjkeeifpgaa.Vc

theorem byte_inj {a b : Nat} (h : UInt8.ofNat (a % 256) = UInt8.ofNat (b % 256)) : a % 256 = b % 256 := by
  have := congrArg UInt8.toNat h
  simp only [UInt8.toNat_ofNat'] at this
  omega
theorem lenTo_inj {n m : Nat} (hn : n < 18446744073709551616) (hm : m < 18446744073709551616) (h : lenTo n 8 = lenTo m 8) : n = m := by
  simp only [lenTo, List.nil_append, List.cons_append, List.cons.injEq, lenByte, and_true] at h
  obtain ⟨h7, h6, h5, h4, h3, h2, h1, h0⟩ := h
  replace h7 := byte_inj h7
  replace h6 := byte_inj h6
  replace h5 := byte_inj h5
  replace h4 := byte_inj h4
  replace h3 := byte_inj h3
  replace h2 := byte_inj h2
  replace h1 := byte_inj h1
  replace h0 := byte_inj h0
  simp only [Nat.reduceSub, Nat.reduceMul, Nat.reducePow] at h7 h6 h5 h4 h3 h2 h1 h0
  omega
theorem frame_inj : ∀ (a b : List (List UInt8)), (∀ l ∈ a, l.length < 18446744073709551616) → (∀ l ∈ b, l.length < 18446744073709551616) → frame a = frame b → a = b := by
  intro a
  induction a with
  | nil =>
    intro b _ _ h
    cases b with
    | nil => rfl
    | cons k r =>
      have := congrArg List.length h
      simp [frame, lenTo_len] at this
      omega
  | cons l q ih =>
    intro b ha hb h
    cases b with
    | nil =>
      have := congrArg List.length h
      simp [frame, lenTo_len] at this
    | cons k r =>
      simp only [frame, List.append_assoc] at h
      obtain ⟨h1, h2⟩ := List.append_inj h (by simp [lenTo_len])
      have hl := lenTo_inj (ha l (by simp)) (hb k (by simp)) h1
      obtain ⟨h3, h4⟩ := List.append_inj h2 hl
      rw [h3, ih r (fun x hx => ha x (by simp [hx])) (fun x hx => hb x (by simp [hx])) h4]

end Go.Proofs.Ytaiadjkeeifpgaa.Dg
