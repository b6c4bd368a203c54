/- Numbers as bytes in plain Lean: how a number is written, that it is read as it was written, and that what is read was written so. No condition. Operations on bits in plain Lean: and, or, xor of numbers as sums, remainders and negations. No condition. How lists of numbers are written, in plain Lean: the five encodings and the shortest of them. No condition. How long the encodings of lists of numbers are, in plain Lean. No condition. How lists of numbers are read again, in plain Lean: what is known at each step if the bytes are an encoding. No condition. -/
import Derived.Test.YtmhpfadbmpipkaaGreatDoorVc3
set_option linter.unusedVariables false
set_option linter.unusedSimpArgs false
namespace Go.Proofs.YtmhpfadbmpipkaaGreatDoor.Cl

abbrev By := List UInt8
def I64 (n : Int) : Prop := -9223372036854775808 ≤ n ∧ n ≤ 9223372036854775807
def zu (n : Int) : Nat := if n < 0 then (-2 * n - 1).toNat else (2 * n).toNat
def zz (u : Nat) : Int := if u % 2 = 1 then -((u / 2 : Nat) : Int) - 1 else ((u / 2 : Nat) : Int)
theorem zz_zu (n : Int) : zz (zu n) = n := by
  unfold zz zu
  by_cases h : n < 0
  · rw [if_pos h]; split <;> omega
  · rw [if_neg h]; split <;> omega
theorem zu_zz (u : Nat) : zu (zz u) = u := by
  unfold zz zu
  split <;> split <;> omega
theorem zu_lt {n : Int} (h : I64 n) : zu n < 18446744073709551616 := by
  unfold zu I64 at *
  split <;> omega
theorem zz_i64 {u : Nat} (h : u < 18446744073709551616) : I64 (zz u) := by
  unfold zz I64
  split <;> omega
def grp : Nat → Nat → By
  | 0, u => [UInt8.ofNat u]
  | f + 1, u => if u < 128 then [UInt8.ofNat u] else UInt8.ofNat (128 + u % 128) :: grp f (u / 128)
def num (n : Int) : By := grp 9 (zu n)
/-- what a reading answers: an error, or a number and how many bytes it took -/
inductive RN where
  | bad (e : Int)
  | ok (n : Int) (k : Nat)
def rdN : By → Nat → Nat → RN
  | [], _, _ => .bad 16
  | c :: r, i, u => if i = 9 ∧ 1 < c.toNat then .bad 3 else if 128 ≤ c.toNat then rdN r (i + 1) (u + c.toNat % 128 * 128 ^ i) else if c.toNat = 0 ∧ 0 < i then .bad 1 else .ok (zz (u + c.toNat % 128 * 128 ^ i)) (i + 1)
theorem grp_ne (f u : Nat) : grp f u ≠ [] := by
  cases f with
  | zero => simp [grp]
  | succ f => unfold grp; split <;> simp
theorem grp_pos (f u : Nat) : 0 < (grp f u).length := by
  have := grp_ne f u
  cases h : grp f u with
  | nil => exact absurd h this
  | cons a r => simp
theorem grp_len (f u : Nat) : (grp f u).length ≤ f + 1 := by
  induction f generalizing u with
  | zero => simp [grp]
  | succ f ih => unfold grp; split
                 · simp
                 · have := ih (u / 128); simp; omega
theorem toNat_ofNat {u : Nat} (h : u < 256) : (UInt8.ofNat u).toNat = u := by
  simp [UInt8.toNat_ofNat', Nat.mod_eq_of_lt h]
theorem pow128 (i : Nat) : 128 ^ (i + 1) = 128 * 128 ^ i := by rw [Nat.pow_succ, Nat.mul_comm]
theorem rd_grp (r : By) : ∀ (f u i acc : Nat), i + f = 9 → u < 2 * 128 ^ f → (i = 0 ∨ u ≠ 0) → rdN (grp f u ++ r) i acc = .ok (zz (acc + u * 128 ^ i)) (i + (grp f u).length) := by
  intro f
  induction f with
  | zero =>
    intro u i acc hi hu h0
    have hu2 : u < 2 := by simpa using hu
    simp only [grp, List.cons_append, List.nil_append, rdN]
    rw [toNat_ofNat (by omega)]
    rw [if_neg (by omega), if_neg (by omega), if_neg (by omega), Nat.mod_eq_of_lt (by omega : u < 128)]
    simp
  | succ f ih =>
    intro u i acc hi hu h0
    unfold grp
    by_cases h : u < 128
    · rw [if_pos h]
      simp only [List.cons_append, List.nil_append, rdN]
      rw [toNat_ofNat (by omega)]
      rw [if_neg (by omega), if_neg (by omega), if_neg (by omega), Nat.mod_eq_of_lt h]
      simp
    · rw [if_neg h]
      have hm : u % 128 < 128 := Nat.mod_lt _ (by decide)
      simp only [List.cons_append, rdN]
      rw [toNat_ofNat (by omega)]
      rw [if_neg (by omega), if_pos (by omega)]
      rw [pow128] at hu
      rw [ih (u / 128) (i + 1) _ (by omega) (by omega) (by omega)]
      have e1 : (128 + u % 128) % 128 = u % 128 := by omega
      have e2 : u % 128 * 128 ^ i + u / 128 * 128 ^ (i + 1) = u * 128 ^ i := by
        rw [pow128, ← Nat.mul_assoc, ← Nat.add_mul]
        have : u % 128 + u / 128 * 128 = u := by omega
        rw [this]
      rw [e1, Nat.add_assoc, e2]
      simp only [List.length_cons]
      congr 1
      omega
theorem rd_num (n : Int) (hn : I64 n) (r : By) : rdN (num n ++ r) 0 0 = .ok n (num n).length := by
  unfold num
  rw [rd_grp r 9 (zu n) 0 0 rfl (by have := zu_lt hn; omega) (.inl rfl)]
  simp [zz_zu]
theorem rd_back : ∀ (b : By) (i acc : Nat) (n : Int) (k : Nat), i ≤ 9 → rdN b i acc = .ok n k → ∃ u, u < 2 * 128 ^ (9 - i) ∧ b.take (k - i) = grp (9 - i) u ∧ n = zz (acc + u * 128 ^ i) ∧ i < k ∧ k - i ≤ b.length ∧ (i = 0 ∨ u ≠ 0) := by
  intro b
  induction b with
  | nil => intro i acc n k _ h; cases h
  | cons c r ih =>
    intro i acc n k hi h
    simp only [rdN] at h
    have hc : c.toNat < 256 := c.toNat_lt
    have ec : UInt8.ofNat c.toNat = c := by simp
    split at h
    · cases h
    rename_i h9
    split at h
    · rename_i h128
      have hi9 : i ≠ 9 := fun e => h9 ⟨e, by omega⟩
      obtain ⟨u, h1, h2, h3, h4, h5, h6⟩ := ih (i + 1) _ n k (by omega) h
      obtain ⟨f, hf⟩ : ∃ f, 9 - i = f + 1 := ⟨8 - i, by omega⟩
      have hf' : 9 - (i + 1) = f := by omega
      rw [hf'] at h1 h2
      have hu : u ≠ 0 := h6.resolve_left (by omega)
      refine ⟨c.toNat - 128 + 128 * u, ?_, ?_, ?_, by omega, by simp only [List.length_cons]; omega, .inr (by omega)⟩
      · rw [hf, pow128]; omega
      · rw [hf]
        have ek : k - i = (k - (i + 1)) + 1 := by omega
        rw [ek, List.take_succ_cons, h2]
        unfold grp
        rw [if_neg (by omega)]
        have e1 : 128 + (c.toNat - 128 + 128 * u) % 128 = c.toNat := by omega
        have e2 : (c.toNat - 128 + 128 * u) / 128 = u := by omega
        rw [e1, e2, ec]
        cases f <;> rfl
      · rw [h3]
        have e1 : c.toNat % 128 = c.toNat - 128 := by omega
        rw [e1, pow128, Nat.add_mul, Nat.add_assoc]
        congr 2
        rw [← Nat.mul_assoc, Nat.mul_comm u 128]
    · rename_i h128
      split at h
      · cases h
      · rename_i h0
        injection h with e1 e2
        subst e2
        have hc1 : c.toNat < 128 := by omega
        refine ⟨c.toNat, ?_, ?_, ?_, by omega, by simp, by omega⟩
        · rcases Nat.lt_or_ge i 9 with hl | hl
          · obtain ⟨f, hf⟩ : ∃ f, 9 - i = f + 1 := ⟨8 - i, by omega⟩
            rw [hf, pow128]
            have : 0 < 128 ^ f := Nat.pow_pos (by decide)
            omega
          · have : i = 9 := by omega
            subst this
            have : ¬ 1 < c.toNat := fun h => h9 ⟨rfl, h⟩
            simp; omega
        · have e3 : i + 1 - i = 1 := by omega
          rw [e3]
          simp only [List.take_succ_cons, List.take_zero]
          cases hf : 9 - i with
          | zero => simp [grp]
          | succ f => unfold grp; rw [if_pos hc1, ec]
        · rw [← e1, Nat.mod_eq_of_lt hc1]
theorem rd_num_of {b : By} {n : Int} {k : Nat} (h : rdN b 0 0 = .ok n k) : b = num n ++ b.drop k ∧ k = (num n).length ∧ I64 n ∧ 0 < k ∧ k ≤ b.length := by
  obtain ⟨u, h1, h2, h3, h4, h5, _⟩ := rd_back b 0 0 n k (by omega) h
  have e : n = zz u := by simpa using h3
  have hg : num n = grp 9 u := by unfold num; rw [e, zu_zz]
  simp only [Nat.sub_zero] at h2 h5
  refine ⟨by rw [hg, ← h2, List.take_append_drop], ?_, ?_, h4, h5⟩
  · rw [hg, ← h2, List.length_take]; omega
  · rw [e]; exact zz_i64 (by simp only [Nat.sub_zero] at h1; omega)
theorem num_len (n : Int) : 0 < (num n).length ∧ (num n).length ≤ 10 := ⟨grp_pos _ _, grp_len _ _⟩
/-- a reading behind an error gives nothing -/
def rnT (b : By) (e : Int) : Int × Nat × Int :=
  if e = 0 then (match rdN b 0 0 with
    | .bad e' => (0, 0, e')
    | .ok n k => (n, k, 0)) else (0, 0, e)
theorem rdN_bad : ∀ {b : By} {i u : Nat} {e : Int}, rdN b i u = .bad e → e = 16 ∨ e = 3 ∨ e = 1 := by
  intro b
  induction b with
  | nil => intro i u e h; injection h with h; exact .inl h.symm
  | cons c r ih =>
    intro i u e h
    simp only [rdN] at h
    split at h
    · injection h with h; exact .inr (.inl h.symm)
    · split at h
      · exact ih h
      · split at h
        · injection h with h; exact .inr (.inr h.symm)
        · cases h
theorem rnT_num {n : Int} (hn : I64 n) (r : By) : rnT (num n ++ r) 0 = (n, (num n).length, 0) := by
  unfold rnT
  rw [if_pos rfl, rd_num n hn r]
theorem rnT_ok (b : By) (e : Int) : I64 (rnT b e).1 ∧ (rnT b e).2.1 ≤ b.length ∧ ((rnT b e).2.2 = 0 → e = 0 ∧ b = num (rnT b e).1 ++ b.drop (rnT b e).2.1 ∧ (rnT b e).2.1 = (num (rnT b e).1).length) ∧ ((rnT b e).2.2 ≠ 0 → (rnT b e).1 = 0 ∧ (rnT b e).2.1 = 0) := by
  have z : I64 0 := by unfold I64; omega
  unfold rnT
  by_cases h : e = 0
  · rw [if_pos h]
    cases hr : rdN b 0 0 with
    | bad e' => exact ⟨z, Nat.zero_le _, fun h => by have := rdN_bad hr; simp only at h; omega, fun _ => ⟨rfl, rfl⟩⟩
    | ok n k =>
      have := rd_num_of hr
      exact ⟨this.2.2.1, this.2.2.2.2, fun _ => ⟨h, this.1, this.2.1⟩, fun h => absurd rfl h⟩
  · rw [if_neg h]
    exact ⟨z, Nat.zero_le _, fun h' => absurd h' h, fun _ => ⟨rfl, rfl⟩⟩
/-- a number from 0 to most -/
def cnT (b : By) (e most em : Int) : Int × Nat × Int :=
  let t := rnT b e
  let e1 := if t.2.2 = 0 then (if t.1 < 0 then 3 else if most < t.1 then em else 0) else t.2.2
  (if e1 = 0 then t.1 else 0, t.2.1, e1)
end Go.Proofs.YtmhpfadbmpipkaaGreatDoor.Cl

namespace Go.Proofs.YtmhpfadbmpipkaaGreatDoor.Cl
open Go Go.RowKit Go.Proofs.YtmhpfadbmpipkaaGreatDoor.Vc

theorem wr_u64 {n : Nat} (h : n < 18446744073709551616) : IntKind.u64.wrap (n : Int) = n := by
  have e : IntKind.u64.bits = 64 := rfl
  have s : IntKind.u64.signed = false := rfl
  simp only [IntKind.wrap, e, s, Bool.false_and, Bool.false_eq_true, if_false]
  omega
theorem wr_u8 {n : Nat} (h : n < 256) : IntKind.u8.wrap (n : Int) = n := by
  have e : IntKind.u8.bits = 8 := rfl
  have s : IntKind.u8.signed = false := rfl
  simp only [IntKind.wrap, e, s, Bool.false_and, Bool.false_eq_true, if_false]
  omega
theorem ofInt_nat (k n : Nat) : BitVec.ofInt k (n : Int) = BitVec.ofNat k n := by
  apply BitVec.eq_of_toNat_eq
  simp
theorem bo_or64 (a b : Nat) (ha : a < 18446744073709551616) (hb : b < 18446744073709551616) : bitsOp .or .u64 a b = ((a ||| b : Nat) : Int) := by
  have e : IntKind.u64.bits = 64 := rfl
  have h := Nat.or_lt_two_pow (n := 64) ha hb
  simp only [bitsOp, e, ofInt_nat, BitVec.toNat_or, BitVec.toNat_ofNat]
  rw [Nat.mod_eq_of_lt ha, Nat.mod_eq_of_lt hb, wr_u64 h]
theorem bo_and64 (a b : Nat) (ha : a < 18446744073709551616) (hb : b < 18446744073709551616) : bitsOp .and .u64 a b = ((a &&& b : Nat) : Int) := by
  have e : IntKind.u64.bits = 64 := rfl
  have h := Nat.and_lt_two_pow (n := 64) a hb
  simp only [bitsOp, e, ofInt_nat, BitVec.toNat_and, BitVec.toNat_ofNat]
  rw [Nat.mod_eq_of_lt ha, Nat.mod_eq_of_lt hb, wr_u64 h]
theorem bo_xor64 (a b : Nat) (ha : a < 18446744073709551616) (hb : b < 18446744073709551616) : bitsOp .xor .u64 a b = ((a ^^^ b : Nat) : Int) := by
  have e : IntKind.u64.bits = 64 := rfl
  have h := Nat.xor_lt_two_pow (n := 64) ha hb
  simp only [bitsOp, e, ofInt_nat, BitVec.toNat_xor, BitVec.toNat_ofNat]
  rw [Nat.mod_eq_of_lt ha, Nat.mod_eq_of_lt hb, wr_u64 h]
theorem bo_or8 (a b : Nat) (ha : a < 256) (hb : b < 256) : bitsOp .or .u8 a b = ((a ||| b : Nat) : Int) := by
  have e : IntKind.u8.bits = 8 := rfl
  have h := Nat.or_lt_two_pow (n := 8) ha hb
  simp only [bitsOp, e, ofInt_nat, BitVec.toNat_or, BitVec.toNat_ofNat]
  rw [Nat.mod_eq_of_lt ha, Nat.mod_eq_of_lt hb, wr_u8 h]
theorem bo_and8 (a b : Nat) (ha : a < 256) (hb : b < 256) : bitsOp .and .u8 a b = ((a &&& b : Nat) : Int) := by
  have e : IntKind.u8.bits = 8 := rfl
  have h := Nat.and_lt_two_pow (n := 8) a hb
  simp only [bitsOp, e, ofInt_nat, BitVec.toNat_and, BitVec.toNat_ofNat]
  rw [Nat.mod_eq_of_lt ha, Nat.mod_eq_of_lt hb, wr_u8 h]
theorem and127 (a : Nat) : a &&& 127 = a % 128 := Nat.and_two_pow_sub_one_eq_mod a 7
theorem and1 (a : Nat) : a &&& 1 = a % 2 := Nat.and_two_pow_sub_one_eq_mod a 1
/-- disjoint bits are added -/
theorem or_add {a : Nat} (k c : Nat) (ha : a < 2 ^ k) : a ||| c * 2 ^ k = a + c * 2 ^ k := by
  rw [Nat.or_comm, Nat.mul_comm, ← Nat.two_pow_add_eq_or_of_lt ha, Nat.add_comm]
theorem or128 {a : Nat} (h : a < 256) : a ||| 128 = 128 + a % 128 := by
  have e : a ||| 128 = (a % 128) ||| 1 * 2 ^ 7 ||| (a / 128) * 2 ^ 7 := by
    have h1 : a = a % 128 ||| (a / 128) * 2 ^ 7 := by rw [or_add 7 _ (by omega)]; omega
    have h2 : a ||| 128 = (a % 128 ||| (a / 128) * 2 ^ 7) ||| 128 := by rw [← h1]
    rw [h2, Nat.or_assoc, Nat.or_assoc, Nat.or_comm (a / 128 * 2 ^ 7)]
  rw [e, or_add 7 1 (by omega)]
  have : a / 128 = 0 ∨ a / 128 = 1 := by omega
  rcases this with h0 | h0
  · rw [h0]; simp; omega
  · rw [h0]
    have e2 : a % 128 + 1 * 2 ^ 7 = a % 128 ||| 1 * 2 ^ 7 := (or_add 7 1 (by omega)).symm
    rw [e2, Nat.or_assoc, Nat.or_self, ← e2]; omega
theorem xor_ones {a : Nat} (h : a < 18446744073709551616) : a ^^^ 18446744073709551615 = 18446744073709551615 - a := by
  have h1 : (BitVec.ofNat 64 a ^^^ BitVec.allOnes 64).toNat = (~~~ (BitVec.ofNat 64 a)).toNat := by rw [BitVec.xor_allOnes]
  simp only [BitVec.toNat_xor, BitVec.toNat_not, BitVec.toNat_ofNat, BitVec.toNat_allOnes] at h1
  have e : (2 : Nat) ^ 64 = 18446744073709551616 := by decide
  rw [e, Nat.mod_eq_of_lt h] at h1
  omega
/-- the two's complement pattern -/
def pat (n : Int) : Nat := (n % 18446744073709551616).toNat
theorem wr_i64_pat (n : Int) (h : -9223372036854775808 ≤ n ∧ n ≤ 9223372036854775807) : IntKind.i64.wrap ((pat n : Nat) : Int) = n := by
  have e : IntKind.i64.bits = 64 := rfl
  have s : IntKind.i64.signed = true := rfl
  unfold pat
  simp only [IntKind.wrap, e, s, Bool.true_and, decide_eq_true_eq]
  split <;> omega
theorem ofInt_pat (n : Int) : BitVec.ofInt 64 n = BitVec.ofNat 64 (pat n) := by
  apply BitVec.eq_of_toNat_eq
  simp only [BitVec.toNat_ofInt, BitVec.toNat_ofNat, pat]
  omega
theorem bo_xi0 (a : Int) (h : -9223372036854775808 ≤ a ∧ a ≤ 9223372036854775807) : bitsOp .xor .i64 a 0 = a := by
  show IntKind.i64.wrap ((BitVec.ofInt 64 a ^^^ BitVec.ofInt 64 0).toNat : Int) = a
  have : BitVec.ofInt 64 a ^^^ BitVec.ofInt 64 0 = BitVec.ofInt 64 a := by simp
  rw [this, ofInt_pat, BitVec.toNat_ofNat, Nat.mod_eq_of_lt (by unfold pat; omega), wr_i64_pat a h]
theorem bo_xi1 (a : Int) (h : -9223372036854775808 ≤ a ∧ a ≤ 9223372036854775807) : bitsOp .xor .i64 a (-1) = -a - 1 := by
  show IntKind.i64.wrap ((BitVec.ofInt 64 a ^^^ BitVec.ofInt 64 (-1)).toNat : Int) = -a - 1
  have h1 : BitVec.ofInt 64 (-1) = BitVec.allOnes 64 := by decide
  rw [h1, BitVec.xor_allOnes, BitVec.toNat_not, ofInt_pat, BitVec.toNat_ofNat]
  have e2 : 2 ^ 64 - 1 - pat a % 2 ^ 64 = pat (-a - 1) := by unfold pat; omega
  rw [e2, wr_i64_pat _ (by omega)]
theorem pw128 (i : Nat) : 2 ^ (7 * i) = 128 ^ i := by rw [Nat.pow_mul]
/-- seven bits at their place -/
theorem shl_at {x i : Nat} (hi : i ≤ 9) (hx : x < 128) (h9 : i = 9 → x ≤ 1) : IntKind.u64.wrap ((x : Int) * 2 ^ min (7 * (i : Int)).toNat IntKind.u64.bits) = ((x * 128 ^ i : Nat) : Int) ∧ x * 128 ^ i < 18446744073709551616 := by
  have e : IntKind.u64.bits = 64 := rfl
  have e2 : (7 * (i : Int)).toNat = 7 * i := by omega
  have e3 : min (7 * i) 64 = 7 * i := by omega
  have hb : x * 128 ^ i < 18446744073709551616 := by
    rcases Nat.lt_or_ge i 9 with h | h
    · have : 128 ^ i ≤ 128 ^ 8 := Nat.pow_le_pow_right (by decide) (by omega)
      calc x * 128 ^ i < 128 * 128 ^ i := Nat.mul_lt_mul_of_pos_right hx (Nat.pow_pos (by decide))
        _ ≤ 128 * 128 ^ 8 := Nat.mul_le_mul_left _ this
        _ ≤ 18446744073709551616 := by decide
    · have : i = 9 := by omega
      subst this
      have := h9 rfl
      calc x * 128 ^ 9 ≤ 1 * 128 ^ 9 := Nat.mul_le_mul_right _ this
        _ < 18446744073709551616 := by decide
  refine ⟨?_, hb⟩
  rw [e, e2, e3]
  have e4 : (x : Int) * 2 ^ (7 * i) = ((x * 128 ^ i : Nat) : Int) := by rw [← pw128]; simp
  rw [e4, wr_u64 hb]
theorem or_at {u x i : Nat} (hu : u < 128 ^ i) (hi : i ≤ 9) (hx : x * 128 ^ i < 18446744073709551616) : bitsOp .or .u64 (u : Int) ((x * 128 ^ i : Nat) : Int) = ((u + x * 128 ^ i : Nat) : Int) := by
  have h1 : 128 ^ i ≤ 128 ^ 9 := Nat.pow_le_pow_right (by decide) hi
  have h2 : (128 : Nat) ^ 9 < 18446744073709551616 := by decide
  rw [bo_or64 u _ (by omega) hx]
  rw [← pw128] at hu ⊢
  rw [or_add _ _ hu]
theorem zz_bits {u : Nat} (h : u < 18446744073709551616) : bitsOp .xor .i64 ((u / 2 : Nat) : Int) (0 - ((u % 2 : Nat) : Int)) = zz u := by
  unfold zz
  have hr : -9223372036854775808 ≤ ((u / 2 : Nat) : Int) ∧ ((u / 2 : Nat) : Int) ≤ 9223372036854775807 := by omega
  by_cases h1 : u % 2 = 1
  · rw [if_pos h1, h1]; exact bo_xi1 _ hr
  · have h0 : u % 2 = 0 := by omega
    rw [if_neg h1, h0]; exact bo_xi0 _ hr
/-- the number's bits, as they are written -/
theorem zu_bits (n : Int) (h : I64 n) : bitsOp .xor .u64 (IntKind.u64.wrap (IntKind.u64.wrap n * 2)) (IntKind.u64.wrap (n.fdiv 9223372036854775808)) = (zu n : Int) := by
  have e : IntKind.u64.bits = 64 := rfl
  have s : IntKind.u64.signed = false := rfl
  unfold I64 at h
  unfold zu
  by_cases hn : n < 0
  · rw [if_pos hn]
    have e1 : IntKind.u64.wrap (IntKind.u64.wrap n * 2) = ((18446744073709551616 - (-2 * n).toNat : Nat) : Int) := by
      simp only [IntKind.wrap, e, s, Bool.false_and, Bool.false_eq_true, if_false]; omega
    have e2 : n.fdiv 9223372036854775808 = -1 := by rw [Int.fdiv_eq_ediv]; simp; omega
    have e3 : IntKind.u64.wrap (-1) = ((18446744073709551615 : Nat) : Int) := by decide
    rw [e1, e2, e3, bo_xor64 _ _ (by omega) (by omega), xor_ones (by omega)]
    omega
  · rw [if_neg hn]
    have e1 : IntKind.u64.wrap (IntKind.u64.wrap n * 2) = (((2 * n).toNat : Nat) : Int) := by
      simp only [IntKind.wrap, e, s, Bool.false_and, Bool.false_eq_true, if_false]; omega
    have e2 : n.fdiv 9223372036854775808 = 0 := by rw [Int.fdiv_eq_ediv]; simp; omega
    have e3 : IntKind.u64.wrap 0 = ((0 : Nat) : Int) := by decide
    rw [e1, e2, e3, bo_xor64 _ _ (by omega) (by omega), Nat.xor_zero]
/-- a byte that is followed by others -/
theorem grp_byte {u : Nat} : bitsOp .or .u8 (IntKind.u8.wrap (u : Int)) 128 = ((UInt8.ofNat (128 + u % 128)).toNat : Int) := by
  have e : IntKind.u8.wrap (u : Int) = ((u % 256 : Nat) : Int) := by
    have e : IntKind.u8.bits = 8 := rfl
    have s : IntKind.u8.signed = false := rfl
    simp only [IntKind.wrap, e, s, Bool.false_and, Bool.false_eq_true, if_false]
    omega
  have e2 : (128 : Int) = ((128 : Nat) : Int) := rfl
  rw [e, e2, bo_or8 _ _ (by omega) (by omega), or128 (by omega), toNat_ofNat (by omega)]
  congr 1
  omega
theorem last_byte {u : Nat} (h : u < 128) : IntKind.u8.wrap (u : Int) = ((UInt8.ofNat u).toNat : Int) := by
  rw [wr_u8 (by omega), toNat_ofNat (by omega)]
theorem shr7 (u : Nat) : Int.fdiv (u : Int) 128 = ((u / 128 : Nat) : Int) := by rw [Int.fdiv_eq_ediv_of_nonneg _ (by decide)]; rfl
theorem shr1 (u : Nat) : Int.fdiv (u : Int) 2 = ((u / 2 : Nat) : Int) := by rw [Int.fdiv_eq_ediv_of_nonneg _ (by decide)]; rfl
end Go.Proofs.YtmhpfadbmpipkaaGreatDoor.Cl

namespace Go.Proofs.YtmhpfadbmpipkaaGreatDoor.Cl

abbrev Li := List Int
def AllI (l : Li) : Prop := ∀ x ∈ l, I64 x
def w64 (n : Int) : Int := Go.IntKind.i64.wrap n
def b1 (l : Li) : By := l.flatMap num
/-- runs of equal numbers -/
def rl : Li → List (Int × Nat)
  | [] => []
  | x :: r => match rl r with
    | [] => [(x, 1)]
    | p :: t => if x = p.1 then (x, p.2 + 1) :: t else (x, 1) :: p :: t
def enP (p : Int × Nat) : By := num p.1 ++ num p.2
def b2 (l : Li) : By := (rl l).flatMap enP
def st : Int → Li → By
  | _, [] => []
  | p, x :: r => num (w64 (x - p)) ++ st x r
def b3 (l : Li) : By := st 0 l
/-- the different numbers in ascending order -/
def ins (d : Li) (x : Int) : Li :=
  match d with
  | [] => [x]
  | y :: r => if y < x then y :: ins r x else if y = x then y :: r else x :: y :: r
def ds (l : Li) : Li := l.foldl ins []
def idx : Li → Int → Nat
  | [], _ => 0
  | y :: r, x => if y = x then 0 else idx r x + 1
def b4 (l : Li) : By := num (ds l).length ++ b1 (ds l) ++ l.flatMap fun x => num (idx (ds l) x)
/-- the number of bits -/
def wid : Nat → Nat → Nat
  | 0, _ => 0
  | f + 1, u => if u = 0 then 0 else wid f (u / 2) + 1
def pt (n : Int) : Nat := (n % 18446744073709551616).toNat
/-- how far a number lies above the least one -/
def dif (lo x : Int) : Nat := (x - lo).toNat
/-- the bit p of the list's bits, w for each number -/
def bitA (lo : Int) (w : Nat) (l : Li) (p : Nat) : Bool := (dif lo (l.getD (p / w) 0)).testBit (p % w)
/-- the byte j if only the bits below p are set -/
def byA (bit : Nat → Bool) (p j : Nat) : Nat → Nat
  | 0 => 0
  | t + 1 => byA bit p j t + (if 8 * j + t < p ∧ bit (8 * j + t) = true then 2 ^ t else 0)
def pk (bit : Nat → Bool) (n p : Nat) : By := (List.range n).map fun j => UInt8.ofNat (byA bit p j 8)
def lo (l : Li) : Int := (ds l).headD 0
def hi (l : Li) : Int := (ds l).getLastD 0
def wd (l : Li) : Nat := wid 64 (dif (lo l) (hi l))
def sz5 (n w : Nat) : Nat := (n * w + 7) / 8
def b5 (l : Li) : By := num (lo l) ++ num (wd l) ++ pk (bitA (lo l) (wd l) l) (sz5 l.length (wd l)) (l.length * wd l)
def bd : Nat → Li → By
  | 1, l => b1 l
  | 2, l => b2 l
  | 3, l => b3 l
  | 4, l => b4 l
  | _, l => b5 l
def en (k : Nat) (l : Li) : By := num k ++ num l.length ++ bd k l
def sh (a b : By) : By := if b.length < a.length then b else a
def best (l : Li) : Nat → By
  | 0 => en 1 l
  | k + 1 => sh (best l k) (en (k + 2) l)
def ints (l : Li) : By := if l = [] then num 1 ++ num 0 else best l 4
example : ints [7, 7, 7, 7] = [4, 8, 14, 8] := by decide
example : ints [] = [2, 0] := by decide
/-! runs -/
theorem rl_ne {x : Int} {r : Li} : ∃ k t, rl (x :: r) = (x, k + 1) :: t := by
  simp only [rl]
  split
  · exact ⟨0, [], rfl⟩
  · rename_i p t _
    split
    · exact ⟨p.2, t, rfl⟩
    · exact ⟨0, p :: t, rfl⟩
theorem rl_rep (x : Int) (m : Nat) (r : Li) (h : r.head? ≠ some x) : rl (List.replicate (m + 1) x ++ r) = (x, m + 1) :: rl r := by
  induction m with
  | zero =>
    simp only [List.replicate, List.cons_append, List.nil_append, rl]
    cases r with
    | nil => rfl
    | cons y r =>
      obtain ⟨k, t, e⟩ := rl_ne (x := y) (r := r)
      rw [e]
      have hne : x ≠ y := fun e => h (by rw [e]; rfl)
      simp only [hne, if_false]
  | succ m ih =>
    rw [List.replicate_succ, List.cons_append]
    simp only [rl]
    rw [ih]
    simp
theorem rl_all {l : Li} {p : Int × Nat} (h : p ∈ rl l) : p.1 ∈ l ∧ 0 < p.2 ∧ p.2 ≤ l.length := by
  induction l generalizing p with
  | nil => cases h
  | cons x r ih =>
    simp only [rl] at h
    split at h
    · simp only [List.mem_singleton] at h; subst h; simp
    · rename_i q t e
      have hq := ih (p := q) (by rw [e]; exact List.mem_cons_self)
      split at h
      · rename_i hx
        rcases List.mem_cons.1 h with h | h
        · subst h; simp; omega
        · have := ih (by rw [e]; exact List.mem_cons_of_mem _ h)
          exact ⟨List.mem_cons_of_mem _ this.1, this.2.1, by simp; omega⟩
      · rcases List.mem_cons.1 h with h | h
        · subst h; simp
        · have := ih (by rw [e]; exact h)
          exact ⟨List.mem_cons_of_mem _ this.1, this.2.1, by simp; omega⟩
/-! the different numbers -/
def SS (d : Li) : Prop := d.Pairwise (· < ·)
theorem ins_mem (d : Li) (x y : Int) : y ∈ ins d x ↔ y ∈ d ∨ y = x := by
  induction d with
  | nil => simp [ins]
  | cons z r ih =>
    unfold ins
    split
    · simp only [List.mem_cons, ih, or_assoc]
    · split
      · rename_i e; subst e; simp only [List.mem_cons]; constructor
        · intro h; exact .inl h
        · rintro (h | rfl)
          · exact h
          · exact .inl rfl
      · simp only [List.mem_cons]; constructor
        · rintro (h | h | h)
          · exact .inr h
          · exact .inl (.inl h)
          · exact .inl (.inr h)
        · rintro ((h | h) | h)
          · exact .inr (.inl h)
          · exact .inr (.inr h)
          · exact .inl h
theorem ins_ss {d : Li} {x : Int} (h : SS d) : SS (ins d x) := by
  induction d with
  | nil => simp [ins, SS]
  | cons z r ih =>
    have h1 := List.pairwise_cons.1 h
    unfold ins
    split
    · rename_i hz
      refine List.pairwise_cons.2 ⟨fun a ha => ?_, ih h1.2⟩
      rcases (ins_mem r x a).1 ha with h2 | h2
      · exact h1.1 a h2
      · omega
    · split
      · exact h
      · refine List.pairwise_cons.2 ⟨fun a ha => ?_, h⟩
        rcases List.mem_cons.1 ha with h2 | h2
        · omega
        · have := h1.1 a h2; omega
theorem ds_snoc (l : Li) (x : Int) : ds (l ++ [x]) = ins (ds l) x := by simp [ds]
theorem ds_fold (l : Li) : ∀ d, SS d → SS (l.foldl ins d) ∧ ∀ y, y ∈ l.foldl ins d ↔ y ∈ d ∨ y ∈ l := by
  induction l with
  | nil => intro d h; simp [h]
  | cons x r ih =>
    intro d h
    have := ih (ins d x) (ins_ss h)
    refine ⟨this.1, fun y => ?_⟩
    rw [List.foldl_cons, this.2 y, ins_mem, List.mem_cons, or_assoc]
theorem ds_ss (l : Li) : SS (ds l) := (ds_fold l [] List.Pairwise.nil).1
theorem ds_mem (l : Li) (y : Int) : y ∈ ds l ↔ y ∈ l := by rw [ds, (ds_fold l [] List.Pairwise.nil).2 y]; simp
theorem ss_uniq {a : Li} : ∀ {b : Li}, SS a → SS b → (∀ y, y ∈ a ↔ y ∈ b) → a = b := by
  induction a with
  | nil => intro b _ _ h; cases b with
    | nil => rfl
    | cons y r => exact absurd ((h y).2 List.mem_cons_self) (by simp)
  | cons x r ih =>
    intro b ha hb h
    have h1 := List.pairwise_cons.1 ha
    cases b with
    | nil => exact absurd ((h x).1 List.mem_cons_self) (by simp)
    | cons y s =>
      have h2 := List.pairwise_cons.1 hb
      have e : x = y := by
        have m1 := (h x).1 List.mem_cons_self
        have m2 := (h y).2 List.mem_cons_self
        rcases List.mem_cons.1 m1 with e | e
        · exact e
        · rcases List.mem_cons.1 m2 with e2 | e2
          · exact e2.symm
          · have := h1.1 y e2; have := h2.1 x e; omega
      subst e
      congr 1
      refine ih h1.2 h2.2 fun z => ⟨fun hz => ?_, fun hz => ?_⟩
      · rcases List.mem_cons.1 ((h z).1 (List.mem_cons_of_mem _ hz)) with e | e
        · have := h1.1 z hz; omega
        · exact e
      · rcases List.mem_cons.1 ((h z).2 (List.mem_cons_of_mem _ hz)) with e | e
        · have := h2.1 z hz; omega
        · exact e
theorem ds_of {l d : Li} (h1 : SS d) (h2 : ∀ y, y ∈ d ↔ y ∈ l) : d = ds l := ss_uniq h1 (ds_ss l) fun y => by rw [h2, ds_mem]
theorem ins_len (d : Li) (x : Int) : (ins d x).length ≤ d.length + 1 := by
  induction d with
  | nil => simp [ins]
  | cons y r ih => unfold ins; split
                   · simp only [List.length_cons]; omega
                   · split <;> simp
theorem ds_len (l : Li) : (ds l).length ≤ l.length := by
  have : ∀ (l d : Li), (l.foldl ins d).length ≤ d.length + l.length := by
    intro l
    induction l with
    | nil => intro d; simp
    | cons x r ih => intro d; have h1 := ih (ins d x); have h2 := ins_len d x; simp only [List.foldl_cons, List.length_cons]; omega
  have := this l []
  simpa [ds] using this
theorem idx_lt {d : Li} {x : Int} (h : x ∈ d) : idx d x < d.length ∧ d[idx d x]? = some x := by
  induction d with
  | nil => cases h
  | cons y r ih =>
    unfold idx
    by_cases e : y = x
    · rw [if_pos e]; simp [e]
    · rw [if_neg e]
      have := ih (by rcases List.mem_cons.1 h with h | h; exact absurd h.symm e; exact h)
      simp only [List.length_cons, List.getElem?_cons_succ]
      exact ⟨by omega, this.2⟩
theorem idx_at {d : Li} {i : Nat} {x : Int} (hs : SS d) (h : d[i]? = some x) : idx d x = i := by
  induction d generalizing i with
  | nil => simp at h
  | cons y r ih =>
    have h1 := List.pairwise_cons.1 hs
    unfold idx
    cases i with
    | zero => simp at h; rw [if_pos h]
    | succ i =>
      simp only [List.getElem?_cons_succ] at h
      have := h1.1 x (List.mem_of_getElem? h)
      rw [if_neg (by omega), ih h1.2 h]
theorem ds_ne {l : Li} (h : l ≠ []) : ds l ≠ [] := by
  cases l with
  | nil => exact absurd rfl h
  | cons x r => intro e; have := (ds_mem (x :: r) x).2 List.mem_cons_self; rw [e] at this; cases this
theorem lo_le {l : Li} {x : Int} (h : x ∈ l) : lo l ≤ x ∧ lo l ∈ l := by
  have hm := (ds_mem l x).2 h
  have hs := ds_ss l
  have hb := fun y => (ds_mem l y)
  unfold lo
  cases hd : ds l with
  | nil => rw [hd] at hm; cases hm
  | cons y r =>
    rw [hd] at hm hs
    have h1 := List.pairwise_cons.1 hs
    refine ⟨?_, (hb y).1 (by rw [hd]; exact List.mem_cons_self)⟩
    show y ≤ x
    rcases List.mem_cons.1 hm with e | e
    · omega
    · have := h1.1 x e; omega
theorem last_ge {d : Li} (hs : SS d) {x : Int} (h : x ∈ d) : x ≤ d.getLastD 0 ∧ d.getLastD 0 ∈ d := by
  induction d generalizing x with
  | nil => cases h
  | cons y r ih =>
    have h1 := List.pairwise_cons.1 hs
    cases r with
    | nil => simp at h ⊢; omega
    | cons z s =>
      have e : (y :: z :: s).getLastD 0 = (z :: s).getLastD 0 := by simp [List.getLastD]
      rw [e]
      have hz := ih h1.2 (x := z) List.mem_cons_self
      rcases List.mem_cons.1 h with h2 | h2
      · have := h1.1 z List.mem_cons_self
        exact ⟨by omega, List.mem_cons_of_mem _ hz.2⟩
      · have := ih h1.2 h2
        exact ⟨this.1, List.mem_cons_of_mem _ this.2⟩
theorem hi_ge {l : Li} {x : Int} (h : x ∈ l) : x ≤ hi l ∧ hi l ∈ l := by
  have := last_ge (ds_ss l) ((ds_mem l x).2 h)
  exact ⟨this.1, (ds_mem l _).1 this.2⟩
theorem wid_spec : ∀ (f u : Nat), u < 2 ^ f → u < 2 ^ wid f u ∧ wid f u ≤ f := by
  intro f
  induction f with
  | zero => intro u h; simp [wid] at h ⊢; omega
  | succ f ih =>
    intro u h
    unfold wid
    split
    · simp [*]
    · have := ih (u / 2) (by rw [Nat.pow_succ] at h; omega)
      refine ⟨?_, by omega⟩
      rw [Nat.pow_succ]
      omega
theorem wid_min : ∀ (f u k : Nat), u < 2 ^ k → wid f u ≤ k := by
  intro f
  induction f with
  | zero => intro u k _; simp [wid]
  | succ f ih =>
    intro u k h
    unfold wid
    split
    · omega
    · cases k with
      | zero => simp at h; omega
      | succ k => have := ih (u / 2) k (by rw [Nat.pow_succ] at h; omega); omega
/-! packed bits -/
theorem byA_lt (bit : Nat → Bool) (p j : Nat) : ∀ t, byA bit p j t < 2 ^ t := by
  intro t
  induction t with
  | zero => simp [byA]
  | succ t ih => unfold byA; rw [Nat.pow_succ]; split <;> omega
theorem byA_bit (bit : Nat → Bool) (p j : Nat) : ∀ t s, s < t → (byA bit p j t).testBit s = (decide (8 * j + s < p) && bit (8 * j + s)) := by
  intro t
  induction t with
  | zero => intro s h; omega
  | succ t ih =>
    intro s hs
    unfold byA
    have hl := byA_lt bit p j t
    have key : ∀ c : Nat, c ≤ 1 → (byA bit p j t + c * 2 ^ t).testBit s = if s < t then (byA bit p j t).testBit s else decide (c = 1) := by
      intro c hc
      rw [Nat.add_comm, Nat.mul_comm, Nat.testBit_two_pow_mul_add c hl]
      split
      · rfl
      · have : s - t = 0 := by omega
        rw [this]
        have : c = 0 ∨ c = 1 := by omega
        rcases this with rfl | rfl <;> rfl
    by_cases hb : 8 * j + t < p ∧ bit (8 * j + t) = true
    · rw [if_pos hb]
      have := key 1 (Nat.le_refl _)
      rw [Nat.one_mul] at this
      rw [this]
      split
      · exact ih s (by assumption)
      · have e : s = t := by omega
        subst e
        simp [hb.1, hb.2]
    · rw [if_neg hb]
      have := key 0 (Nat.zero_le _)
      rw [Nat.zero_mul] at this
      rw [this]
      split
      · exact ih s (by assumption)
      · have e : s = t := by omega
        subst e
        by_cases h1 : 8 * j + s < p
        · have : bit (8 * j + s) = false := by
            cases hbb : bit (8 * j + s) with
            | false => rfl
            | true => exact absurd ⟨h1, hbb⟩ hb
          simp [this]
        · simp [h1]
theorem byA_step (bit : Nat → Bool) (p j : Nat) : ∀ t, byA bit (p + 1) j t = byA bit p j t + (if 8 * j ≤ p ∧ p < 8 * j + t ∧ bit p = true then 2 ^ (p - 8 * j) else 0) := by
  intro t
  induction t with
  | zero => simp only [byA]; rw [if_neg (by omega)]
  | succ t ih =>
    unfold byA
    rw [ih]
    by_cases hp : p = 8 * j + t
    · subst hp
      have e : 8 * j + t - 8 * j = t := by omega
      rw [e, if_neg (show ¬(8 * j ≤ 8 * j + t ∧ 8 * j + t < 8 * j + t ∧ bit (8 * j + t) = true) by omega), if_neg (show ¬(8 * j + t < 8 * j + t ∧ bit (8 * j + t) = true) by omega)]
      by_cases hb : bit (8 * j + t) = true
      · rw [if_pos ⟨by omega, hb⟩, if_pos ⟨by omega, by omega, hb⟩]
      · rw [if_neg (by simp [hb]), if_neg (by simp [hb])]
    · have e1 : (8 * j + t < p + 1 ∧ bit (8 * j + t) = true) ↔ (8 * j + t < p ∧ bit (8 * j + t) = true) := by
        constructor <;> rintro ⟨a, b⟩ <;> exact ⟨by omega, b⟩
      have e2 : (8 * j ≤ p ∧ p < 8 * j + (t + 1) ∧ bit p = true) ↔ (8 * j ≤ p ∧ p < 8 * j + t ∧ bit p = true) := by
        constructor <;> rintro ⟨a, b, c⟩ <;> exact ⟨by omega, by omega, c⟩
      simp only [e1, e2]
      omega
theorem byA_zero (bit : Nat → Bool) (j : Nat) : ∀ t, byA bit 0 j t = 0 := by
  intro t
  induction t with
  | zero => rfl
  | succ t ih => unfold byA; rw [ih, if_neg (by omega)]
theorem pk_len (bit : Nat → Bool) (n p : Nat) : (pk bit n p).length = n := by simp [pk]
theorem pk_zero (bit : Nat → Bool) (n : Nat) : pk bit n 0 = List.replicate n 0 := by
  apply List.ext_getElem
  · simp [pk]
  · intro i h1 h2; simp [pk, byA_zero]
theorem pk_step (bit : Nat → Bool) (n p : Nat) : pk bit n (p + 1) = (pk bit n p).set (p / 8) (UInt8.ofNat (byA bit p (p / 8) 8 + (if bit p = true then 2 ^ (p % 8) else 0))) := by
  apply List.ext_getElem
  · simp [pk]
  · intro i h1 h2
    rw [List.getElem_set]
    simp only [pk, List.getElem_map, List.getElem_range]
    rw [byA_step]
    by_cases e : p / 8 = i
    · rw [if_pos e]
      subst e
      have e1 : p - 8 * (p / 8) = p % 8 := by omega
      rw [e1]
      by_cases hb : bit p = true
      · rw [if_pos ⟨by omega, by omega, hb⟩, if_pos hb]
      · rw [if_neg (by simp [hb]), if_neg hb]
    · rw [if_neg e, if_neg (by omega)]; rfl
end Go.Proofs.YtmhpfadbmpipkaaGreatDoor.Cl

namespace Go.Proofs.YtmhpfadbmpipkaaGreatDoor.Cl

theorem zu_nat (n : Nat) : zu (n : Int) = 2 * n := by unfold zu; rw [if_neg (by omega)]; omega
theorem i64_nat {n : Nat} (h : n ≤ 9223372036854775807) : I64 (n : Int) := by unfold I64; omega
theorem num_one {n : Int} (h : zu n < 128) : (num n).length = 1 := by unfold num grp; rw [if_pos h]; rfl
theorem num_two {n : Int} (h : zu n < 16384) : (num n).length ≤ 2 := by
  unfold num grp
  split
  · simp
  · unfold grp; rw [if_pos (by omega)]; simp
theorem fm_len {α : Type} (f : α → By) (c : Nat) : ∀ l : List α, (∀ x ∈ l, (f x).length ≤ c) → (l.flatMap f).length ≤ c * l.length := by
  intro l
  induction l with
  | nil => intro _; simp
  | cons x r ih =>
    intro h
    have h1 := h x List.mem_cons_self
    have h2 := ih fun y hy => h y (List.mem_cons_of_mem _ hy)
    rw [List.flatMap_cons, List.length_append, List.length_cons, Nat.mul_succ]
    omega
theorem b1_len (l : Li) : (b1 l).length ≤ 10 * l.length := fm_len num 10 l fun x _ => (num_len x).2
theorem rl_len (l : Li) : (rl l).length ≤ l.length := by
  induction l with
  | nil => simp [rl]
  | cons x r ih =>
    simp only [rl]
    split
    · simp
    · rename_i p t e
      rw [e] at ih
      simp only [List.length_cons] at ih
      split <;> simp only [List.length_cons] <;> omega
theorem enP_len (p : Int × Nat) : (enP p).length ≤ 20 := by
  have h1 := num_len p.1; have h2 := num_len p.2
  unfold enP; rw [List.length_append]; omega
theorem b2_len (l : Li) : (b2 l).length ≤ 20 * l.length := by
  have h1 := fm_len enP 20 (rl l) fun x _ => enP_len x
  have h2 := rl_len l
  unfold b2; omega
theorem st_len (l : Li) : ∀ p, (st p l).length ≤ 10 * l.length := by
  induction l with
  | nil => intro p; simp [st]
  | cons x r ih => intro p; have h1 := ih x; have h2 := num_len (w64 (x - p)); simp only [st, List.length_append, List.length_cons]; omega
theorem b4_len (l : Li) : (b4 l).length ≤ 10 + 20 * l.length := by
  have h1 := num_len (ds l).length
  have h2 := b1_len (ds l)
  have h3 := ds_len l
  have h4 := fm_len (fun x => num (idx (ds l) x)) 10 l fun x _ => (num_len _).2
  unfold b4
  simp only [List.length_append]
  omega
theorem wd_le (l : Li) (h : AllI l) : wd l ≤ 64 := by
  unfold wd
  cases l with
  | nil => decide
  | cons x r =>
    have h1 := lo_le (l := x :: r) (x := x) List.mem_cons_self
    have h2 := hi_ge (l := x :: r) (x := x) List.mem_cons_self
    have h3 := h _ h1.2
    have h4 := h _ h2.2
    unfold I64 at h3 h4
    exact (wid_spec 64 _ (by unfold dif; omega)).2
theorem sz5_le (n w : Nat) (h : w ≤ 64) : sz5 n w ≤ 8 * n + 1 := by
  unfold sz5
  have := Nat.mul_le_mul_left n h
  omega
theorem b5_len (l : Li) (h : AllI l) : (b5 l).length ≤ 21 + 8 * l.length := by
  have h1 := num_len (lo l)
  have h2 := num_len (wd l)
  have h3 := sz5_le l.length (wd l) (wd_le l h)
  unfold b5
  simp only [List.length_append, pk_len]
  omega
theorem bd_len (k : Nat) (l : Li) (h : AllI l) : (bd k l).length ≤ 21 + 20 * l.length := by
  have h1 := b1_len l; have h2 := b2_len l; have h3 := st_len l 0; have h4 := b4_len l; have h5 := b5_len l h
  unfold bd
  split
  · omega
  · omega
  · unfold b3; omega
  · omega
  · omega
theorem en_len (k : Nat) (l : Li) (h : AllI l) : (en k l).length ≤ 41 + 20 * l.length := by
  have h1 := bd_len k l h; have h2 := num_len k; have h3 := num_len l.length
  unfold en; simp only [List.length_append]; omega
theorem en_pos (k : Nat) (l : Li) : 0 < (en k l).length := by
  have h2 := num_len k
  unfold en; simp only [List.length_append]; omega
theorem sh_le (a b : By) : (sh a b).length ≤ a.length ∧ (sh a b).length ≤ b.length := by unfold sh; split <;> omega
theorem sh_or (a b : By) : sh a b = a ∨ sh a b = b := by unfold sh; split; exact .inr rfl; exact .inl rfl
theorem best_le (l : Li) : ∀ k j, j ≤ k → (best l k).length ≤ (en (j + 1) l).length := by
  intro k
  induction k with
  | zero => intro j h; have : j = 0 := by omega
            subst this; exact Nat.le_refl _
  | succ k ih =>
    intro j h
    have h1 := sh_le (best l k) (en (k + 2) l)
    show (sh _ _).length ≤ _
    by_cases e : j = k + 1
    · subst e; exact h1.2
    · exact Nat.le_trans h1.1 (ih j (by omega))
theorem best_in (l : Li) : ∀ k, ∃ j, j ≤ k ∧ best l k = en (j + 1) l := by
  intro k
  induction k with
  | zero => exact ⟨0, Nat.le_refl _, rfl⟩
  | succ k ih =>
    obtain ⟨j, h1, h2⟩ := ih
    rcases sh_or (best l k) (en (k + 2) l) with e | e
    · exact ⟨j, by omega, by rw [← h2]; exact e⟩
    · exact ⟨k + 1, Nat.le_refl _, e⟩
theorem ints_le {l : Li} (h : l ≠ []) {k : Nat} (h1 : 1 ≤ k) (h2 : k ≤ 5) : (ints l).length ≤ (en k l).length := by
  unfold ints
  rw [if_neg h]
  obtain ⟨j, rfl⟩ : ∃ j, k = j + 1 := ⟨k - 1, by omega⟩
  exact best_le l 4 j (by omega)
theorem ints_in {l : Li} (h : l ≠ []) : ∃ k : Nat, 1 ≤ k ∧ k ≤ 5 ∧ ints l = en k l := by
  unfold ints
  rw [if_neg h]
  obtain ⟨j, h1, h2⟩ := best_in l 4
  exact ⟨j + 1, by omega, by omega, h2⟩
theorem ints_len (l : Li) (h : l.length ≤ 512) : (ints l).length ≤ 10 * l.length + 4 := by
  by_cases e : l = []
  · subst e; decide
  · refine Nat.le_trans (ints_le e (k := 1) (by omega) (by omega)) ?_
    have h1 := b1_len l
    have h2 : (num (1 : Nat)).length = 1 := num_one (by rw [zu_nat]; omega)
    have h3 : (num l.length).length ≤ 2 := num_two (by rw [zu_nat]; omega)
    show (num (1 : Nat) ++ num l.length ++ b1 l).length ≤ _
    simp only [List.length_append]
    omega
theorem ints_short (l : Li) (h : l.length ≤ 512) : (ints l).length ≤ 5124 := by have := ints_len l h; omega
/-! what is short -/
theorem short_same (x : Int) (k : Nat) (h1 : 1 ≤ k) (h2 : k ≤ 512) : (ints (List.replicate k x)).length ≤ 16 := by
  obtain ⟨m, rfl⟩ : ∃ m, k = m + 1 := ⟨k - 1, by omega⟩
  refine Nat.le_trans (ints_le (by simp) (k := 2) (by omega) (by omega)) ?_
  have e : rl (List.replicate (m + 1) x) = [(x, m + 1)] := by have := rl_rep x m [] (by simp); simpa [rl] using this
  have h3 : (num (2 : Nat)).length = 1 := num_one (by rw [zu_nat]; omega)
  have h4 : (num ((List.replicate (m + 1) x).length : Nat)).length ≤ 2 := num_two (by rw [zu_nat, List.length_replicate]; omega)
  have h5 := num_len x
  have h6 : (num ((m + 1 : Nat) : Int)).length ≤ 2 := num_two (by rw [zu_nat]; omega)
  show (num (2 : Nat) ++ num (List.replicate (m + 1) x).length ++ b2 (List.replicate (m + 1) x)).length ≤ _
  unfold b2
  rw [e]
  simp only [List.flatMap_cons, List.flatMap_nil, List.append_nil, List.length_append, enP]
  omega
/-- numbers in equal steps -/
def stp (x s : Int) : Nat → Li
  | 0 => []
  | n + 1 => x :: stp (w64 (x + s)) s n
theorem stp_len (s : Int) : ∀ n x, (stp x s n).length = n := by
  intro n
  induction n with
  | zero => intro x; rfl
  | succ n ih => intro x; simp [stp, ih]
theorem w64_of (n : Int) : w64 n = (n + 9223372036854775808) % 18446744073709551616 - 9223372036854775808 := by
  have e : Go.IntKind.i64.bits = 64 := rfl
  have s : Go.IntKind.i64.signed = true := rfl
  simp only [w64, Go.IntKind.wrap, e, s, Bool.true_and, decide_eq_true_eq]
  split <;> omega
theorem w64_i (n : Int) : I64 (w64 n) := by rw [w64_of]; unfold I64; omega
theorem w64_id {n : Int} (h : I64 n) : w64 n = n := by rw [w64_of]; unfold I64 at h; omega
theorem w64_step {x s : Int} (hs : I64 s) : w64 (w64 (x + s) - x) = s := by
  simp only [w64_of]; unfold I64 at hs; omega
theorem stp_all (s : Int) : ∀ n x, I64 x → AllI (stp x s n) := by
  intro n
  induction n with
  | zero => intro x _ y h; cases h
  | succ n ih => intro x hx y h; rcases List.mem_cons.1 h with e | e
                 · rw [e]; exact hx
                 · exact ih _ (w64_i _) y e
theorem stp_st {s : Int} (hs : I64 s) (c : Nat) (hc : (num s).length ≤ c) : ∀ n x, (st x (stp (w64 (x + s)) s n)).length ≤ c * n := by
  intro n
  induction n with
  | zero => intro x; simp [stp, st]
  | succ n ih =>
    intro x
    have := ih (w64 (x + s))
    simp only [stp, st, List.length_append, w64_step hs]
    rw [Nat.mul_succ]
    omega
theorem short_stp {x s : Int} (hs : I64 s) (k c : Nat) (hc : (num s).length ≤ c) (h1 : 1 ≤ k) (h2 : k ≤ 512) : (ints (stp x s k)).length ≤ 13 + c * (k - 1) := by
  obtain ⟨m, rfl⟩ : ∃ m, k = m + 1 := ⟨k - 1, by omega⟩
  refine Nat.le_trans (ints_le (by simp [stp]) (k := 3) (by omega) (by omega)) ?_
  have h3 : (num (3 : Nat)).length = 1 := num_one (by rw [zu_nat]; omega)
  have h4 : (num ((stp x s (m + 1)).length : Nat)).length ≤ 2 := num_two (by rw [zu_nat, stp_len]; omega)
  have h5 := num_len (w64 (x - 0))
  have h6 := stp_st hs c hc m x
  show (num (3 : Nat) ++ num (stp x s (m + 1)).length ++ b3 (stp x s (m + 1))).length ≤ _
  unfold b3
  simp only [stp, st, List.length_append]
  simp only [stp] at h4
  rw [show m + 1 - 1 = m by omega]
  omega
theorem short_bits (l : Li) (y : Int) (h : ∀ x ∈ l, x = y ∨ x = y + 1) (h2 : l.length ≤ 512) : (ints l).length ≤ 14 + (l.length + 7) / 8 := by
  by_cases e : l = []
  · subst e; decide
  refine Nat.le_trans (ints_le e (k := 5) (by omega) (by omega)) ?_
  have h3 : (num (5 : Nat)).length = 1 := num_one (by rw [zu_nat]; omega)
  have h4 : (num (l.length : Nat)).length ≤ 2 := num_two (by rw [zu_nat]; omega)
  have h5 := num_len (lo l)
  obtain ⟨a, ha⟩ := List.exists_mem_of_ne_nil l e
  have h6 := h _ (lo_le ha).2
  have h7 := h _ (hi_ge ha).2
  have hw : wd l ≤ 1 := wid_min 64 _ 1 (by unfold dif; omega)
  have h8 : (num (wd l : Nat)).length = 1 := num_one (by rw [zu_nat]; omega)
  have h9 : sz5 l.length (wd l) ≤ (l.length + 7) / 8 := by
    unfold sz5
    have : l.length * wd l ≤ l.length * 1 := Nat.mul_le_mul_left _ hw
    omega
  show (num (5 : Nat) ++ num l.length ++ b5 l).length ≤ _
  unfold b5
  simp only [List.length_append, pk_len]
  omega
end Go.Proofs.YtmhpfadbmpipkaaGreatDoor.Cl

namespace Go.Proofs.YtmhpfadbmpipkaaGreatDoor.Cl

/-- what is known of a reading if the bytes are an encoding -/
def Pr (b : By) (n : Nat) (body : Li → By) (Q : Li → By → Prop) : Prop := ∀ l0 r, AllI l0 → l0.length = n → b = body l0 ++ r → Q l0 r
theorem Pr.mono {b : By} {n : Nat} {body : Li → By} {Q Q' : Li → By → Prop} (h : Pr b n body Q) (k : ∀ l0 r, AllI l0 → l0.length = n → Q l0 r → Q' l0 r) : Pr b n body Q' :=
  fun l0 r h1 h2 h3 => k l0 r h1 h2 (h l0 r h1 h2 h3)
theorem Pr.start (b : By) (n : Nat) (body : Li → By) : Pr b n body fun l0 r => b = body l0 ++ r := fun _ _ _ _ h => h
/-- what a reading of a body answers -/
def DecR (body : Li → By) (b : By) (n : Nat) (l : Li) (ok : Bool) : Prop := AllI l ∧ l.length ≤ n ∧ Pr b n body fun l0 _ => ok = true ∧ l = l0
theorem rd1 {y : Int} {z b : By} {e : Int} (hy : I64 y) (he : e = 0) (h : b = num y ++ z) : (rnT b e).1 = y ∧ (rnT b e).2.2 = 0 ∧ b.drop (rnT b e).2.1 = z := by
  subst he; subst h
  rw [rnT_num hy]
  exact ⟨rfl, rfl, List.drop_left⟩
theorem AllI.at {l : Li} {i : Nat} {x : Int} (h : AllI l) (e : l[i]? = some x) : I64 x := h x (List.mem_of_getElem? e)
theorem AllI.snoc {l : Li} {x : Int} (h : AllI l) (hx : I64 x) : AllI (l ++ [x]) := fun y hy => by
  rcases List.mem_append.1 hy with e | e
  · exact h y e
  · rw [List.mem_singleton.1 e]; exact hx
theorem AllI.app {l m : Li} (h : AllI l) (hm : AllI m) : AllI (l ++ m) := fun y hy => (List.mem_append.1 hy).elim (h y) (hm y)
theorem AllI.nil : AllI [] := fun _ h => absurd h (by simp)
theorem AllI.rep {x : Int} (hx : I64 x) (k : Nat) : AllI (List.replicate k x) := fun y hy => by rw [List.eq_of_mem_replicate hy]; exact hx
/-! numbers one after another -/
def Q1 (b' : By) (out : Li) (e : Int) (l0 : Li) (r : By) : Prop := e = 0 ∧ ∃ rest, l0 = out ++ rest ∧ b' = b1 rest ++ r
theorem Q1.start {b : By} {l0 : Li} {r : By} (h : b = b1 l0 ++ r) : Q1 b [] 0 l0 r := ⟨rfl, l0, rfl, h⟩
theorem Q1.step {b' : By} {out : Li} {e : Int} {l0 : Li} {r : By} (ha : AllI l0) (hlt : out.length < l0.length) (h : Q1 b' out e l0 r) :
    Q1 (b'.drop (rnT b' e).2.1) (out ++ [(rnT b' e).1]) (rnT b' e).2.2 l0 r := by
  obtain ⟨he, rest, h1, h2⟩ := h
  cases rest with
  | nil => rw [h1] at hlt; simp at hlt
  | cons y rest =>
    have hy : I64 y := ha y (by rw [h1]; simp)
    have := rd1 (b := b') (z := b1 rest ++ r) hy he (by rw [h2]; simp [b1])
    rw [this.1, this.2.1, this.2.2]
    exact ⟨rfl, rest, by rw [h1]; simp, rfl⟩
theorem Q1.fin {b' : By} {out : Li} {e : Int} {l0 : Li} {r : By} (hlen : e = 0 → out.length = l0.length) (h : Q1 b' out e l0 r) : e = 0 ∧ out = l0 ∧ b' = r := by
  obtain ⟨he, rest, h1, h2⟩ := h
  have := hlen he
  have hr : rest = [] := by
    rw [h1, List.length_append] at this
    exact List.eq_nil_of_length_eq_zero (by omega)
  subst hr
  exact ⟨he, by rw [h1]; simp, by rw [h2]; simp [b1]⟩
/-! steps -/
def dl : Int → Li → Li
  | _, [] => []
  | p, x :: r => w64 (x - p) :: dl x r
theorem st_dl (l : Li) : ∀ p, st p l = b1 (dl p l) := by
  induction l with
  | nil => intro p; rfl
  | cons x r ih => intro p; simp only [st, dl, b1, List.flatMap_cons]; rw [ih x]; rfl
theorem dl_len (l : Li) : ∀ p, (dl p l).length = l.length := by
  induction l with
  | nil => intro p; rfl
  | cons x r ih => intro p; simp [dl, ih]
theorem dl_all (l : Li) : ∀ p, AllI (dl p l) := by
  induction l with
  | nil => intro p; exact AllI.nil
  | cons x r ih => intro p y hy; rcases List.mem_cons.1 hy with e | e
                   · rw [e]; exact w64_i _
                   · exact ih x y e
/-- sums -/
def sm : Int → Li → Li
  | _, [] => []
  | p, y :: r => w64 (p + y) :: sm (w64 (p + y)) r
theorem w64_back {p x : Int} (h : I64 x) : w64 (p + w64 (x - p)) = x := by simp only [w64_of]; unfold I64 at h; omega
theorem sm_dl (l : Li) : ∀ p, AllI l → sm p (dl p l) = l := by
  induction l with
  | nil => intro p _; rfl
  | cons x r ih =>
    intro p h
    have hx : I64 x := h x List.mem_cons_self
    simp only [dl, sm, w64_back hx]
    rw [ih x fun y hy => h y (List.mem_cons_of_mem _ hy)]
theorem sm_len (d : Li) : ∀ p, (sm p d).length = d.length := by
  induction d with
  | nil => intro p; rfl
  | cons x r ih => intro p; simp [sm, ih]
theorem sm_all (d : Li) : ∀ p, AllI (sm p d) := by
  induction d with
  | nil => intro p; exact AllI.nil
  | cons x r ih => intro p y hy; rcases List.mem_cons.1 hy with e | e
                   · rw [e]; exact w64_i _
                   · exact ih _ y e
theorem sm_at (d : Li) : ∀ (p : Int) (i : Nat), i + 1 < d.length → (sm p d)[i + 1]? = some (w64 ((sm p d).getD i 0 + d.getD (i + 1) 0)) := by
  induction d with
  | nil => intro p i h; simp at h
  | cons x r ih =>
    intro p i h
    cases i with
    | zero =>
      cases r with
      | nil => simp at h
      | cons y r => simp [sm]
    | succ i =>
      have := ih (w64 (p + x)) i (by simp at h ⊢; omega)
      simp only [sm, List.getElem?_cons_succ]
      rw [this]
      simp
/-! runs -/
theorem rl_split (l : Li) (h : l ≠ []) : ∃ y m t, l = List.replicate (m + 1) y ++ t ∧ rl l = (y, m + 1) :: rl t := by
  induction l with
  | nil => exact absurd rfl h
  | cons x r ih =>
    by_cases hr : r = []
    · subst hr; exact ⟨x, 0, [], rfl, rfl⟩
    · obtain ⟨y, m, t, h1, h2⟩ := ih hr
      by_cases e : x = y
      · subst e
        refine ⟨x, m + 1, t, ?_, ?_⟩
        · rw [h1, List.replicate_succ (n := m + 1)]; rfl
        · simp only [rl, h2]; simp
      · refine ⟨x, 0, r, rfl, ?_⟩
        simp only [rl, h2]
        rw [if_neg e]
def Q2 (b' : By) (out : Li) (e : Int) (l0 : Li) (r : By) : Prop := e = 0 ∧ ∃ rest, l0 = out ++ rest ∧ b' = b2 rest ++ r
theorem Q2.start {b : By} {l0 : Li} {r : By} (h : b = b2 l0 ++ r) : Q2 b [] 0 l0 r := ⟨rfl, l0, rfl, h⟩
theorem Q2.step {b' : By} {out : Li} {e : Int} {l0 : Li} {r : By} (ha : AllI l0) (hl : l0.length ≤ 9223372036854775807) (hlt : out.length < l0.length) (h : Q2 b' out e l0 r) :
    ∃ m : Nat, (rnT (b'.drop (rnT b' e).2.1) (rnT b' e).2.2).2.2 = 0 ∧ (rnT (b'.drop (rnT b' e).2.1) (rnT b' e).2.2).1 = ((m + 1 : Nat) : Int) ∧ m + 1 + out.length ≤ l0.length ∧
      Q2 ((b'.drop (rnT b' e).2.1).drop (rnT (b'.drop (rnT b' e).2.1) (rnT b' e).2.2).2.1) (out ++ List.replicate (m + 1) (rnT b' e).1) 0 l0 r := by
  obtain ⟨he, rest, h1, h2⟩ := h
  have hne : rest ≠ [] := by rintro rfl; rw [h1] at hlt; simp at hlt
  obtain ⟨y, m, t, h3, h4⟩ := rl_split rest hne
  have hy : I64 y := ha y (by rw [h1, h3]; simp)
  have hlen : m + 1 + out.length ≤ l0.length := by rw [h1, h3]; simp; omega
  have r1 := rd1 (b := b') (z := num ((m + 1 : Nat) : Int) ++ (b2 t ++ r)) hy he (by rw [h2, b2, h4]; simp [enP, b2])
  rw [r1.1, r1.2.1, r1.2.2]
  have r2 := rd1 (e := 0) (i64_nat (by omega : m + 1 ≤ 9223372036854775807)) rfl (rfl : num ((m + 1 : Nat) : Int) ++ (b2 t ++ r) = _)
  refine ⟨m, r2.2.1, r2.1, hlen, ?_⟩
  rw [r2.2.2]
  exact ⟨rfl, t, by rw [h1, h3]; simp, rfl⟩
theorem Q2.fin {b' : By} {out : Li} {e : Int} {l0 : Li} {r : By} (hlen : out.length = l0.length) (h : Q2 b' out e l0 r) : out = l0 ∧ b' = r := by
  obtain ⟨_, rest, h1, h2⟩ := h
  have hr : rest = [] := by
    rw [h1, List.length_append] at hlen
    exact List.eq_nil_of_length_eq_zero (by omega)
  subst hr
  exact ⟨by rw [h1]; simp, by rw [h2]; simp [b2, rl]⟩
/-! keys and indexes -/
def ixs (d l : Li) : By := l.flatMap fun x => num (idx d x)
/-- behind the count -/
def Q4k (k : Int) (b' : By) (keys : Li) (e : Int) (l0 : Li) (r : By) : Prop := k = (ds l0).length ∧ Q1 b' keys e (ds l0) (ixs (ds l0) l0 ++ r)
theorem Q4k.start {b : By} {n : Nat} (hn : n ≤ 512) {most em : Int} (hm : (n : Int) ≤ most) : Pr b n b4 fun l0 r => (cnT b 0 most em).2.2 = 0 ∧ Q4k (cnT b 0 most em).1 (b.drop (cnT b 0 most em).2.1) [] (cnT b 0 most em).2.2 l0 r := fun l0 r _ hl h => by
  have hd := ds_len l0
  have r1 := rd1 (b := b) (z := b1 (ds l0) ++ (ixs (ds l0) l0 ++ r)) (e := 0) (i64_nat (by omega : (ds l0).length ≤ 9223372036854775807)) rfl (by rw [h]; simp [b4, ixs])
  have e1 : (cnT b 0 most em).2.2 = 0 := by
    simp only [cnT]
    rw [r1.1, r1.2.1, if_pos rfl, if_neg (by omega), if_neg (by omega)]
  have e2 : (cnT b 0 most em).1 = (ds l0).length := by
    have : (cnT b 0 most em).1 = if (cnT b 0 most em).2.2 = 0 then (rnT b 0).1 else 0 := rfl
    rw [this, if_pos e1, r1.1]
  have e3 : (cnT b 0 most em).2.1 = (rnT b 0).2.1 := rfl
  refine ⟨e1, ?_⟩
  rw [e2, e1, e3, r1.2.2]
  exact ⟨rfl, Q1.start rfl⟩
def Q4 (keys : Li) (b' : By) (out : Li) (e : Int) (l0 : Li) (r : By) : Prop := keys = ds l0 ∧ e = 0 ∧ ∃ rest, l0 = out ++ rest ∧ b' = ixs (ds l0) rest ++ r
theorem Q4.start {k : Int} {b' : By} {keys : Li} {e : Int} {l0 : Li} {r : By} (hlen : e = 0 → (keys.length : Int) = k) (h : Q4k k b' keys e l0 r) : Q4 keys b' [] e l0 r := by
  obtain ⟨h1, h2⟩ := h
  have := h2.fin fun he => by have := hlen he; omega
  exact ⟨this.2.1, this.1, l0, rfl, this.2.2⟩
theorem Q4.step {keys : Li} {b' : By} {out : Li} {e : Int} {l0 : Li} {r : By} (hl : l0.length ≤ 512) (hlt : out.length < l0.length) (h : Q4 keys b' out e l0 r) :
    ∃ (i : Nat) (x : Int), (rnT b' e).2.2 = 0 ∧ (rnT b' e).1 = (i : Int) ∧ keys[i]? = some x ∧ Q4 keys (b'.drop (rnT b' e).2.1) (out ++ [x]) 0 l0 r := by
  obtain ⟨hk, he, rest, h1, h2⟩ := h
  cases rest with
  | nil => rw [h1] at hlt; simp at hlt
  | cons y rest =>
    have hm : y ∈ ds l0 := (ds_mem l0 y).2 (by rw [h1]; simp)
    have hi := idx_lt hm
    have hd := ds_len l0
    have r1 := rd1 (b := b') (z := ixs (ds l0) rest ++ r) (i64_nat (by omega : idx (ds l0) y ≤ 9223372036854775807)) he (by rw [h2]; simp [ixs])
    refine ⟨idx (ds l0) y, y, r1.2.1, r1.1, by rw [hk]; exact hi.2, hk, rfl, rest, by rw [h1]; simp, r1.2.2⟩
theorem Q4.fin {keys : Li} {b' : By} {out : Li} {e : Int} {l0 : Li} {r : By} (hlen : out.length = l0.length) (h : Q4 keys b' out e l0 r) : out = l0 ∧ b' = r := by
  obtain ⟨_, _, rest, h1, h2⟩ := h
  have hr : rest = [] := by
    rw [h1, List.length_append] at hlen
    exact List.eq_nil_of_length_eq_zero (by omega)
  subst hr
  exact ⟨by rw [h1]; simp, by rw [h2]; simp [ixs]⟩
/-! packed bits -/
def Q5 (least : Int) (w : Nat) (b' : By) (l0 : Li) (r : By) : Prop := least = lo l0 ∧ w = wd l0 ∧ b' = pk (bitA (lo l0) (wd l0) l0) (sz5 l0.length (wd l0)) (l0.length * wd l0) ++ r
theorem dif_lt {l : Li} (h : AllI l) {x : Int} (hx : x ∈ l) : dif (lo l) x < 2 ^ wd l := by
  have h1 := lo_le hx
  have h2 := hi_ge hx
  have h3 := h _ h1.2
  have h4 := h _ h2.2
  unfold I64 at h3 h4
  have h5 := (wid_spec 64 (dif (lo l) (hi l)) (by unfold dif; omega)).1
  refine Nat.lt_of_le_of_lt ?_ h5
  unfold dif; omega
theorem Q5.bit {least : Int} {w : Nat} {b' : By} {l0 : Li} {r : By} (h : Q5 least w b' l0 r) {i k : Nat} (hi : i < l0.length) (hk : k < w) :
    ∃ c, b'[(i * w + k) / 8]? = some c ∧ c.toNat.testBit ((i * w + k) % 8) = (dif least (l0.getD i 0)).testBit k := by
  obtain ⟨h1, h2, h3⟩ := h
  subst h2
  have hw : 0 < wd l0 := by omega
  have hat : i * wd l0 + k < l0.length * wd l0 := by
    have := Nat.mul_le_mul_right (wd l0) (show i + 1 ≤ l0.length from hi)
    rw [Nat.add_mul, Nat.one_mul] at this; omega
  have h8 : (i * wd l0 + k) / 8 < sz5 l0.length (wd l0) := by unfold sz5; omega
  refine ⟨UInt8.ofNat (byA (bitA (lo l0) (wd l0) l0) (l0.length * wd l0) ((i * wd l0 + k) / 8) 8), by rw [h3, List.getElem?_append_left (by rw [pk_len]; exact h8)]; simp only [pk, List.getElem?_map, List.getElem?_range h8, Option.map_some], ?_⟩
  have hlt := byA_lt (bitA (lo l0) (wd l0) l0) (l0.length * wd l0) ((i * wd l0 + k) / 8) 8
  rw [toNat_ofNat (by omega), byA_bit _ _ _ _ _ (by omega)]
  have e : 8 * ((i * wd l0 + k) / 8) + (i * wd l0 + k) % 8 = i * wd l0 + k := by omega
  rw [e, decide_eq_true hat, Bool.true_and, h1]
  unfold bitA
  have e1 : (i * wd l0 + k) / wd l0 = i := by rw [Nat.mul_comm, Nat.mul_add_div hw, Nat.div_eq_of_lt hk, Nat.add_zero]
  have e2 : (i * wd l0 + k) % wd l0 = k := by rw [Nat.mul_comm, Nat.mul_add_mod, Nat.mod_eq_of_lt hk]
  rw [e1, e2]
theorem bit_of (c s : Nat) : c / 2 ^ s % 2 = if c.testBit s = true then 1 else 0 := by
  rw [Nat.testBit_eq_decide_div_mod_eq]
  by_cases h : c / 2 ^ s % 2 = 1
  · simp [h]
  · have : c / 2 ^ s % 2 = 0 := by omega
    simp [this]
theorem bit_sum (x k : Nat) : x % 2 ^ (k + 1) = x % 2 ^ k + (if x.testBit k = true then 1 else 0) * 2 ^ k := by
  rw [Nat.pow_succ, Nat.mod_mul, bit_of, Nat.mul_comm (2 ^ k)]
theorem Q5.val {least : Int} {w : Nat} {b' : By} {l0 : Li} {r : By} (h : Q5 least w b' l0 r) (ha : AllI l0) {i : Nat} {x : Int} (hx : l0[i]? = some x) : w64 (least + (dif least (l0.getD i 0) % 2 ^ w : Nat)) = x := by
  obtain ⟨h1, h2, _⟩ := h
  have hm := List.mem_of_getElem? hx
  have e : l0.getD i 0 = x := by rw [List.getD_eq_getElem?_getD, hx]; rfl
  have h3 := dif_lt ha hm
  have h4 := lo_le hm
  rw [e, h1, h2, Nat.mod_eq_of_lt h3]
  have : lo l0 + (dif (lo l0) x : Nat) = x := by unfold dif; omega
  rw [this]
  exact w64_id (ha x hm)
theorem Q5.size {least : Int} {w : Nat} {b' : By} {l0 : Li} {r : By} (h : Q5 least w b' l0 r) : sz5 l0.length w ≤ b'.length := by
  obtain ⟨_, h2, h3⟩ := h
  rw [h3, h2, List.length_append, pk_len]; omega
end Go.Proofs.YtmhpfadbmpipkaaGreatDoor.Cl
