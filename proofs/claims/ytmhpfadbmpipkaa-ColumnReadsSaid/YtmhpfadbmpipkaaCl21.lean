/- The walk of column's decoder of packed bits. Condition: sizes. -/
import Derived.Test.YtmhpfadbmpipkaaCl20
set_option linter.unusedVariables false
set_option linter.unusedSimpArgs false
namespace Go.Proofs.Ytmhpfadbmpipkaa.Cl
open Go Go.RowKit Go.Proofs Go.Proofs.Ytmhpfadbmpipkaa.Vc Go.Proofs.Ytmhpfadbmpipkaa.Ax
attribute [local irreducible] loadVar storeVar Instr.indexAt Instr.index Instr.sliceAt Instr.makeSlice Instr.lookup Instr.mapUpdate Instr.range Instr.next Instr.entry Instr.makeMap Builtin.append_ Builtin.copy_ Builtin.len_ Builtin.min_ Builtin.max_ Builtin.cap_ Builtin.delete_ Builtin.clear_ convert binOp eqGuard Op.unary Calls
theorem bitv8 (c : UInt8) {s : Nat} (hs : s < 8) : IntKind.u64.wrap (bitsOp .and .u8 (Int.fdiv (c.toNat : Int) (2 ^ min (Int.toNat (s : Int)) IntKind.u8.bits)) 1) = (((if c.toNat.testBit s = true then 1 else 0) : Nat) : Int) := by
  have e : IntKind.u8.bits = 8 := rfl
  have e1 : (1 : Int) = ((1 : Nat) : Int) := rfl
  have hc := c.toNat_lt
  have hd : c.toNat / 2 ^ s ≤ c.toNat := Nat.div_le_self _ _
  have e2 : Int.fdiv (c.toNat : Int) (2 ^ s) = ((c.toNat / 2 ^ s : Nat) : Int) := by rw [Int.fdiv_eq_ediv_of_nonneg _ (Int.pow_nonneg (by decide))]; simp
  rw [e, Int.toNat_natCast, Nat.min_eq_left (by omega), e2, e1, bo_and8 _ _ (by omega) (by decide), and1, bit_of, wr_u64 (by split <;> omega)]
theorem shl64 {c k : Nat} (hc : c ≤ 1) (hk : k < 64) : IntKind.u64.wrap ((c : Int) * 2 ^ min (Int.toNat (k : Int)) IntKind.u64.bits) = ((c * 2 ^ k : Nat) : Int) ∧ c * 2 ^ k < 18446744073709551616 := by
  have e : IntKind.u64.bits = 64 := rfl
  have h1 : 2 ^ k ≤ 2 ^ 63 := Nat.pow_le_pow_right (by decide) (by omega)
  have h2 := Nat.mul_le_mul hc h1
  have h3 : (1 : Nat) * 2 ^ 63 < 18446744073709551616 := by decide
  have e2 : (c : Int) * 2 ^ k = ((c * 2 ^ k : Nat) : Int) := by simp
  rw [e, Int.toNat_natCast, Nat.min_eq_left (by omega), e2]
  exact ⟨wr_u64 (by omega), by omega⟩
theorem or_bit {d c k : Nat} (hd : d < 2 ^ k) (hk : k < 64) (hc : c * 2 ^ k < 18446744073709551616) : bitsOp .or .u64 (d : Int) ((c * 2 ^ k : Nat) : Int) = ((d + c * 2 ^ k : Nat) : Int) := by
  have h1 : 2 ^ k ≤ 2 ^ 63 := Nat.pow_le_pow_right (by decide) (by omega)
  have h3 : (2 : Nat) ^ 63 < 18446744073709551616 := by decide
  rw [bo_or64 d _ (by omega) hc, or_add _ _ hd]
theorem add_ud (x : Int) (d : Nat) : IntKind.i64.wrap (IntKind.u64.wrap (IntKind.u64.wrap x + (d : Int))) = w64 (x + (d : Int)) := by
  have e : IntKind.u64.bits = 64 := rfl
  have e1 : IntKind.u64.signed = false := rfl
  have := w64_of (IntKind.u64.wrap (IntKind.u64.wrap x + (d : Int)))
  unfold w64 at this
  rw [this, w64_of]
  simp only [IntKind.wrap, e, e1, Bool.false_and, Bool.false_eq_true, if_false]
  omega
/-- two numbers ahead of the bits -/
theorem rd_two {b : By} (h : (cnT (b.drop (rnT b 0).2.1) (rnT b 0).2.2 64 5).2.2 = 0) : ∃ (w : Nat) (rest : By), w ≤ 64 ∧ (cnT (b.drop (rnT b 0).2.1) (rnT b 0).2.2 64 5).1 = (w : Int) ∧ I64 (rnT b 0).1 ∧ b = num (rnT b 0).1 ++ (num (w : Int) ++ rest) := by
  have hr := cnT_rng (b.drop (rnT b 0).2.1) (rnT b 0).2.2 64 5 (by decide) (by decide)
  have h2 := hr.2.2.2 h
  have o2 := (rnT_ok (b.drop (rnT b 0).2.1) (rnT b 0).2.2).2.2.1 h2.1
  have o1 := rnT_ok b 0
  have o3 := o1.2.2.1 o2.1
  refine ⟨(cnT (b.drop (rnT b 0).2.1) (rnT b 0).2.2 64 5).1.toNat, (b.drop (rnT b 0).2.1).drop (rnT (b.drop (rnT b 0).2.1) (rnT b 0).2.2).2.1, by omega, by omega, o1.1, ?_⟩
  have e : (((cnT (b.drop (rnT b 0).2.1) (rnT b 0).2.2 64 5).1.toNat : Nat) : Int) = (rnT (b.drop (rnT b 0).2.1) (rnT b 0).2.2).1 := by omega
  rw [e, ← o2.2.1]
  exact o3.2.1
theorem q5_start {b rest : By} {least : Int} {n w : Nat} (hi : I64 least) (hw : w ≤ 64) (hb : b = num least ++ (num (w : Int) ++ rest)) : Pr b n b5 (Q5 least w rest) := fun l0 r ha hl h => by
  rw [hb] at h
  have hlw := wd_le l0 ha
  cases l0 with
  | nil =>
    have e0 : b5 [] = num 0 ++ (num ((0 : Nat) : Int) ++ []) := by decide
    have r1 := rnT_num hi (num (w : Int) ++ rest)
    have r2 := rnT_num (n := 0) (by unfold I64; omega) (num ((0 : Nat) : Int) ++ r)
    rw [h, e0] at r1
    simp only [List.append_nil, List.append_assoc] at r1
    rw [r2] at r1
    have e1 : least = 0 := by injection r1 with h _; exact h.symm
    subst e1
    rw [e0] at h
    simp only [List.append_nil, List.append_assoc] at h
    have h := List.append_cancel_left h
    have r3 := rnT_num (n := (w : Int)) (i64_nat (by omega)) rest
    have r4 := rnT_num (n := ((0 : Nat) : Int)) (by unfold I64; omega) r
    rw [h, r4] at r3
    have e2 : w = 0 := by injection r3 with h _; omega
    subst e2
    have h := List.append_cancel_left h
    exact ⟨by decide, by decide, by rw [h]; rfl⟩
  | cons x t =>
    have hlo := ha _ (lo_le (l := x :: t) (x := x) List.mem_cons_self).2
    have e0 : b5 (x :: t) ++ r = num (lo (x :: t)) ++ (num (wd (x :: t) : Int) ++ (pk (bitA (lo (x :: t)) (wd (x :: t)) (x :: t)) (sz5 (x :: t).length (wd (x :: t))) ((x :: t).length * wd (x :: t)) ++ r)) := by unfold b5; simp only [List.append_assoc]
    rw [e0] at h
    have r1 := rnT_num hi (num (w : Int) ++ rest)
    rw [h, rnT_num hlo] at r1
    have e1 : lo (x :: t) = least := by injection r1
    rw [e1] at h
    have h := List.append_cancel_left h
    have r3 := rnT_num (n := (w : Int)) (i64_nat (by omega)) rest
    rw [h, rnT_num (n := ((wd (x :: t) : Nat) : Int)) (i64_nat (by omega))] at r3
    have e2 : wd (x :: t) = w := by injection r3 with h _; omega
    rw [e2] at h
    have h := List.append_cancel_left h
    exact ⟨e1.symm, e2.symm, by rw [h, e1, e2]⟩
theorem q5_err {b : By} {n : Nat} : Pr b n b5 fun _ _ => (cnT (b.drop (rnT b 0).2.1) (rnT b 0).2.2 64 5).2.2 = 0 := fun l0 r ha hl h => by
  have hlw := wd_le l0 ha
  have hlo : I64 (lo l0) := by
    cases l0 with
    | nil => show I64 0; unfold I64; omega
    | cons x t => exact ha _ (lo_le (l := x :: t) (x := x) List.mem_cons_self).2
  have r1 := rd1 (b := b) (e := 0) (z := num (wd l0 : Int) ++ (pk (bitA (lo l0) (wd l0) l0) (sz5 l0.length (wd l0)) (l0.length * wd l0) ++ r)) hlo rfl (by rw [h]; unfold b5; simp only [List.append_assoc])
  rw [r1.2.1, r1.2.2]
  have r2 := rd1 (e := 0) (i64_nat (by omega : wd l0 ≤ 9223372036854775807)) rfl (rfl : num (wd l0 : Int) ++ (pk (bitA (lo l0) (wd l0) l0) (sz5 l0.length (wd l0)) (l0.length * wd l0) ++ r) = _)
  rw [cnT_def]
  simp only
  rw [r2.1, r2.2.1, if_pos rfl, if_neg (by omega), if_neg (by omega)]
end Go.Proofs.Ytmhpfadbmpipkaa.Cl
