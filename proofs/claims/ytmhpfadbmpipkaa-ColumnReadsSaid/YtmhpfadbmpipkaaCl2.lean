/- Operations on bits in plain Lean: and, or, xor of numbers as sums, remainders and negations. No condition. -/
import Derived.Test.YtmhpfadbmpipkaaCl1
set_option linter.unusedVariables false
set_option linter.unusedSimpArgs false
namespace Go.Proofs.Ytmhpfadbmpipkaa.Cl
open Go Go.RowKit Go.Proofs.Ytmhpfadbmpipkaa.Vc

theorem wr_u64 {n : Nat} (h : n < 18446744073709551616) : IntKind.u64.wrap (n : Int) = n := by
  have e : IntKind.u64.bits = 64 := rfl
  have s : IntKind.u64.signed = false := rfl
  simp only [IntKind.wrap, e, s, Bool.false_and, Bool.false_eq_true, if_false]
  omega
theorem wr_u8 {n : Nat} (h : n < 256) : IntKind.u8.wrap (n : Int) = n := by
  have e : IntKind.u8.bits = 8 := rfl
  have s : IntKind.u8.signed = false := rfl
  simp only [IntKind.wrap, e, s, Bool.false_and, Bool.false_eq_true, if_false]
  omega
theorem ofInt_nat (k n : Nat) : BitVec.ofInt k (n : Int) = BitVec.ofNat k n := by
  apply BitVec.eq_of_toNat_eq
  simp
theorem bo_or64 (a b : Nat) (ha : a < 18446744073709551616) (hb : b < 18446744073709551616) : bitsOp .or .u64 a b = ((a ||| b : Nat) : Int) := by
  have e : IntKind.u64.bits = 64 := rfl
  have h := Nat.or_lt_two_pow (n := 64) ha hb
  simp only [bitsOp, e, ofInt_nat, BitVec.toNat_or, BitVec.toNat_ofNat]
  rw [Nat.mod_eq_of_lt ha, Nat.mod_eq_of_lt hb, wr_u64 h]
theorem bo_and64 (a b : Nat) (ha : a < 18446744073709551616) (hb : b < 18446744073709551616) : bitsOp .and .u64 a b = ((a &&& b : Nat) : Int) := by
  have e : IntKind.u64.bits = 64 := rfl
  have h := Nat.and_lt_two_pow (n := 64) a hb
  simp only [bitsOp, e, ofInt_nat, BitVec.toNat_and, BitVec.toNat_ofNat]
  rw [Nat.mod_eq_of_lt ha, Nat.mod_eq_of_lt hb, wr_u64 h]
theorem bo_xor64 (a b : Nat) (ha : a < 18446744073709551616) (hb : b < 18446744073709551616) : bitsOp .xor .u64 a b = ((a ^^^ b : Nat) : Int) := by
  have e : IntKind.u64.bits = 64 := rfl
  have h := Nat.xor_lt_two_pow (n := 64) ha hb
  simp only [bitsOp, e, ofInt_nat, BitVec.toNat_xor, BitVec.toNat_ofNat]
  rw [Nat.mod_eq_of_lt ha, Nat.mod_eq_of_lt hb, wr_u64 h]
theorem bo_or8 (a b : Nat) (ha : a < 256) (hb : b < 256) : bitsOp .or .u8 a b = ((a ||| b : Nat) : Int) := by
  have e : IntKind.u8.bits = 8 := rfl
  have h := Nat.or_lt_two_pow (n := 8) ha hb
  simp only [bitsOp, e, ofInt_nat, BitVec.toNat_or, BitVec.toNat_ofNat]
  rw [Nat.mod_eq_of_lt ha, Nat.mod_eq_of_lt hb, wr_u8 h]
theorem bo_and8 (a b : Nat) (ha : a < 256) (hb : b < 256) : bitsOp .and .u8 a b = ((a &&& b : Nat) : Int) := by
  have e : IntKind.u8.bits = 8 := rfl
  have h := Nat.and_lt_two_pow (n := 8) a hb
  simp only [bitsOp, e, ofInt_nat, BitVec.toNat_and, BitVec.toNat_ofNat]
  rw [Nat.mod_eq_of_lt ha, Nat.mod_eq_of_lt hb, wr_u8 h]
theorem and127 (a : Nat) : a &&& 127 = a % 128 := Nat.and_two_pow_sub_one_eq_mod a 7
theorem and1 (a : Nat) : a &&& 1 = a % 2 := Nat.and_two_pow_sub_one_eq_mod a 1
/-- disjoint bits are added -/
theorem or_add {a : Nat} (k c : Nat) (ha : a < 2 ^ k) : a ||| c * 2 ^ k = a + c * 2 ^ k := by
  rw [Nat.or_comm, Nat.mul_comm, ← Nat.two_pow_add_eq_or_of_lt ha, Nat.add_comm]
theorem or128 {a : Nat} (h : a < 256) : a ||| 128 = 128 + a % 128 := by
  have e : a ||| 128 = (a % 128) ||| 1 * 2 ^ 7 ||| (a / 128) * 2 ^ 7 := by
    have h1 : a = a % 128 ||| (a / 128) * 2 ^ 7 := by rw [or_add 7 _ (by omega)]; omega
    have h2 : a ||| 128 = (a % 128 ||| (a / 128) * 2 ^ 7) ||| 128 := by rw [← h1]
    rw [h2, Nat.or_assoc, Nat.or_assoc, Nat.or_comm (a / 128 * 2 ^ 7)]
  rw [e, or_add 7 1 (by omega)]
  have : a / 128 = 0 ∨ a / 128 = 1 := by omega
  rcases this with h0 | h0
  · rw [h0]; simp; omega
  · rw [h0]
    have e2 : a % 128 + 1 * 2 ^ 7 = a % 128 ||| 1 * 2 ^ 7 := (or_add 7 1 (by omega)).symm
    rw [e2, Nat.or_assoc, Nat.or_self, ← e2]; omega
theorem xor_ones {a : Nat} (h : a < 18446744073709551616) : a ^^^ 18446744073709551615 = 18446744073709551615 - a := by
  have h1 : (BitVec.ofNat 64 a ^^^ BitVec.allOnes 64).toNat = (~~~ (BitVec.ofNat 64 a)).toNat := by rw [BitVec.xor_allOnes]
  simp only [BitVec.toNat_xor, BitVec.toNat_not, BitVec.toNat_ofNat, BitVec.toNat_allOnes] at h1
  have e : (2 : Nat) ^ 64 = 18446744073709551616 := by decide
  rw [e, Nat.mod_eq_of_lt h] at h1
  omega
/-- the two's complement pattern -/
def pat (n : Int) : Nat := (n % 18446744073709551616).toNat
theorem wr_i64_pat (n : Int) (h : -9223372036854775808 ≤ n ∧ n ≤ 9223372036854775807) : IntKind.i64.wrap ((pat n : Nat) : Int) = n := by
  have e : IntKind.i64.bits = 64 := rfl
  have s : IntKind.i64.signed = true := rfl
  unfold pat
  simp only [IntKind.wrap, e, s, Bool.true_and, decide_eq_true_eq]
  split <;> omega
theorem ofInt_pat (n : Int) : BitVec.ofInt 64 n = BitVec.ofNat 64 (pat n) := by
  apply BitVec.eq_of_toNat_eq
  simp only [BitVec.toNat_ofInt, BitVec.toNat_ofNat, pat]
  omega
theorem bo_xi0 (a : Int) (h : -9223372036854775808 ≤ a ∧ a ≤ 9223372036854775807) : bitsOp .xor .i64 a 0 = a := by
  show IntKind.i64.wrap ((BitVec.ofInt 64 a ^^^ BitVec.ofInt 64 0).toNat : Int) = a
  have : BitVec.ofInt 64 a ^^^ BitVec.ofInt 64 0 = BitVec.ofInt 64 a := by simp
  rw [this, ofInt_pat, BitVec.toNat_ofNat, Nat.mod_eq_of_lt (by unfold pat; omega), wr_i64_pat a h]
theorem bo_xi1 (a : Int) (h : -9223372036854775808 ≤ a ∧ a ≤ 9223372036854775807) : bitsOp .xor .i64 a (-1) = -a - 1 := by
  show IntKind.i64.wrap ((BitVec.ofInt 64 a ^^^ BitVec.ofInt 64 (-1)).toNat : Int) = -a - 1
  have h1 : BitVec.ofInt 64 (-1) = BitVec.allOnes 64 := by decide
  rw [h1, BitVec.xor_allOnes, BitVec.toNat_not, ofInt_pat, BitVec.toNat_ofNat]
  have e2 : 2 ^ 64 - 1 - pat a % 2 ^ 64 = pat (-a - 1) := by unfold pat; omega
  rw [e2, wr_i64_pat _ (by omega)]
theorem pw128 (i : Nat) : 2 ^ (7 * i) = 128 ^ i := by rw [Nat.pow_mul]
/-- seven bits at their place -/
theorem shl_at {x i : Nat} (hi : i ≤ 9) (hx : x < 128) (h9 : i = 9 → x ≤ 1) : IntKind.u64.wrap ((x : Int) * 2 ^ min (7 * (i : Int)).toNat IntKind.u64.bits) = ((x * 128 ^ i : Nat) : Int) ∧ x * 128 ^ i < 18446744073709551616 := by
  have e : IntKind.u64.bits = 64 := rfl
  have e2 : (7 * (i : Int)).toNat = 7 * i := by omega
  have e3 : min (7 * i) 64 = 7 * i := by omega
  have hb : x * 128 ^ i < 18446744073709551616 := by
    rcases Nat.lt_or_ge i 9 with h | h
    · have : 128 ^ i ≤ 128 ^ 8 := Nat.pow_le_pow_right (by decide) (by omega)
      calc x * 128 ^ i < 128 * 128 ^ i := Nat.mul_lt_mul_of_pos_right hx (Nat.pow_pos (by decide))
        _ ≤ 128 * 128 ^ 8 := Nat.mul_le_mul_left _ this
        _ ≤ 18446744073709551616 := by decide
    · have : i = 9 := by omega
      subst this
      have := h9 rfl
      calc x * 128 ^ 9 ≤ 1 * 128 ^ 9 := Nat.mul_le_mul_right _ this
        _ < 18446744073709551616 := by decide
  refine ⟨?_, hb⟩
  rw [e, e2, e3]
  have e4 : (x : Int) * 2 ^ (7 * i) = ((x * 128 ^ i : Nat) : Int) := by rw [← pw128]; simp
  rw [e4, wr_u64 hb]
theorem or_at {u x i : Nat} (hu : u < 128 ^ i) (hi : i ≤ 9) (hx : x * 128 ^ i < 18446744073709551616) : bitsOp .or .u64 (u : Int) ((x * 128 ^ i : Nat) : Int) = ((u + x * 128 ^ i : Nat) : Int) := by
  have h1 : 128 ^ i ≤ 128 ^ 9 := Nat.pow_le_pow_right (by decide) hi
  have h2 : (128 : Nat) ^ 9 < 18446744073709551616 := by decide
  rw [bo_or64 u _ (by omega) hx]
  rw [← pw128] at hu ⊢
  rw [or_add _ _ hu]
theorem zz_bits {u : Nat} (h : u < 18446744073709551616) : bitsOp .xor .i64 ((u / 2 : Nat) : Int) (0 - ((u % 2 : Nat) : Int)) = zz u := by
  unfold zz
  have hr : -9223372036854775808 ≤ ((u / 2 : Nat) : Int) ∧ ((u / 2 : Nat) : Int) ≤ 9223372036854775807 := by omega
  by_cases h1 : u % 2 = 1
  · rw [if_pos h1, h1]; exact bo_xi1 _ hr
  · have h0 : u % 2 = 0 := by omega
    rw [if_neg h1, h0]; exact bo_xi0 _ hr
/-- the number's bits, as they are written -/
theorem zu_bits (n : Int) (h : I64 n) : bitsOp .xor .u64 (IntKind.u64.wrap (IntKind.u64.wrap n * 2)) (IntKind.u64.wrap (n.fdiv 9223372036854775808)) = (zu n : Int) := by
  have e : IntKind.u64.bits = 64 := rfl
  have s : IntKind.u64.signed = false := rfl
  unfold I64 at h
  unfold zu
  by_cases hn : n < 0
  · rw [if_pos hn]
    have e1 : IntKind.u64.wrap (IntKind.u64.wrap n * 2) = ((18446744073709551616 - (-2 * n).toNat : Nat) : Int) := by
      simp only [IntKind.wrap, e, s, Bool.false_and, Bool.false_eq_true, if_false]; omega
    have e2 : n.fdiv 9223372036854775808 = -1 := by rw [Int.fdiv_eq_ediv]; simp; omega
    have e3 : IntKind.u64.wrap (-1) = ((18446744073709551615 : Nat) : Int) := by decide
    rw [e1, e2, e3, bo_xor64 _ _ (by omega) (by omega), xor_ones (by omega)]
    omega
  · rw [if_neg hn]
    have e1 : IntKind.u64.wrap (IntKind.u64.wrap n * 2) = (((2 * n).toNat : Nat) : Int) := by
      simp only [IntKind.wrap, e, s, Bool.false_and, Bool.false_eq_true, if_false]; omega
    have e2 : n.fdiv 9223372036854775808 = 0 := by rw [Int.fdiv_eq_ediv]; simp; omega
    have e3 : IntKind.u64.wrap 0 = ((0 : Nat) : Int) := by decide
    rw [e1, e2, e3, bo_xor64 _ _ (by omega) (by omega), Nat.xor_zero]
/-- a byte that is followed by others -/
theorem grp_byte {u : Nat} : bitsOp .or .u8 (IntKind.u8.wrap (u : Int)) 128 = ((UInt8.ofNat (128 + u % 128)).toNat : Int) := by
  have e : IntKind.u8.wrap (u : Int) = ((u % 256 : Nat) : Int) := by
    have e : IntKind.u8.bits = 8 := rfl
    have s : IntKind.u8.signed = false := rfl
    simp only [IntKind.wrap, e, s, Bool.false_and, Bool.false_eq_true, if_false]
    omega
  have e2 : (128 : Int) = ((128 : Nat) : Int) := rfl
  rw [e, e2, bo_or8 _ _ (by omega) (by omega), or128 (by omega), toNat_ofNat (by omega)]
  congr 1
  omega
theorem last_byte {u : Nat} (h : u < 128) : IntKind.u8.wrap (u : Int) = ((UInt8.ofNat u).toNat : Int) := by
  rw [wr_u8 (by omega), toNat_ofNat (by omega)]
theorem shr7 (u : Nat) : Int.fdiv (u : Int) 128 = ((u / 128 : Nat) : Int) := by rw [Int.fdiv_eq_ediv_of_nonneg _ (by decide)]; rfl
theorem shr1 (u : Nat) : Int.fdiv (u : Int) 2 = ((u / 2 : Nat) : Int) := by rw [Int.fdiv_eq_ediv_of_nonneg _ (by decide)]; rfl
end Go.Proofs.Ytmhpfadbmpipkaa.Cl
