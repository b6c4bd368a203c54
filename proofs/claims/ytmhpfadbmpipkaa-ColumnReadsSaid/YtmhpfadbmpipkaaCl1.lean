/- Numbers as bytes in plain Lean: how a number is written, that it is read as it was written, and that what is read was written so. No condition. -/
import Derived.Test.YtmhpfadbmpipkaaVc1
set_option linter.unusedVariables false
set_option linter.unusedSimpArgs false
namespace Go.Proofs.Ytmhpfadbmpipkaa.Cl

abbrev By := List UInt8
def I64 (n : Int) : Prop := -9223372036854775808 ≤ n ∧ n ≤ 9223372036854775807
def zu (n : Int) : Nat := if n < 0 then (-2 * n - 1).toNat else (2 * n).toNat
def zz (u : Nat) : Int := if u % 2 = 1 then -((u / 2 : Nat) : Int) - 1 else ((u / 2 : Nat) : Int)
theorem zz_zu (n : Int) : zz (zu n) = n := by
  unfold zz zu
  by_cases h : n < 0
  · rw [if_pos h]; split <;> omega
  · rw [if_neg h]; split <;> omega
theorem zu_zz (u : Nat) : zu (zz u) = u := by
  unfold zz zu
  split <;> split <;> omega
theorem zu_lt {n : Int} (h : I64 n) : zu n < 18446744073709551616 := by
  unfold zu I64 at *
  split <;> omega
theorem zz_i64 {u : Nat} (h : u < 18446744073709551616) : I64 (zz u) := by
  unfold zz I64
  split <;> omega
def grp : Nat → Nat → By
  | 0, u => [UInt8.ofNat u]
  | f + 1, u => if u < 128 then [UInt8.ofNat u] else UInt8.ofNat (128 + u % 128) :: grp f (u / 128)
def num (n : Int) : By := grp 9 (zu n)
/-- what a reading answers: an error, or a number and how many bytes it took -/
inductive RN where
  | bad (e : Int)
  | ok (n : Int) (k : Nat)
def rdN : By → Nat → Nat → RN
  | [], _, _ => .bad 16
  | c :: r, i, u => if i = 9 ∧ 1 < c.toNat then .bad 3 else if 128 ≤ c.toNat then rdN r (i + 1) (u + c.toNat % 128 * 128 ^ i) else if c.toNat = 0 ∧ 0 < i then .bad 1 else .ok (zz (u + c.toNat % 128 * 128 ^ i)) (i + 1)
theorem grp_ne (f u : Nat) : grp f u ≠ [] := by
  cases f with
  | zero => simp [grp]
  | succ f => unfold grp; split <;> simp
theorem grp_pos (f u : Nat) : 0 < (grp f u).length := by
  have := grp_ne f u
  cases h : grp f u with
  | nil => exact absurd h this
  | cons a r => simp
theorem grp_len (f u : Nat) : (grp f u).length ≤ f + 1 := by
  induction f generalizing u with
  | zero => simp [grp]
  | succ f ih => unfold grp; split
                 · simp
                 · have := ih (u / 128); simp; omega
theorem toNat_ofNat {u : Nat} (h : u < 256) : (UInt8.ofNat u).toNat = u := by
  simp [UInt8.toNat_ofNat', Nat.mod_eq_of_lt h]
theorem pow128 (i : Nat) : 128 ^ (i + 1) = 128 * 128 ^ i := by rw [Nat.pow_succ, Nat.mul_comm]
theorem rd_grp (r : By) : ∀ (f u i acc : Nat), i + f = 9 → u < 2 * 128 ^ f → (i = 0 ∨ u ≠ 0) → rdN (grp f u ++ r) i acc = .ok (zz (acc + u * 128 ^ i)) (i + (grp f u).length) := by
  intro f
  induction f with
  | zero =>
    intro u i acc hi hu h0
    have hu2 : u < 2 := by simpa using hu
    simp only [grp, List.cons_append, List.nil_append, rdN]
    rw [toNat_ofNat (by omega)]
    rw [if_neg (by omega), if_neg (by omega), if_neg (by omega), Nat.mod_eq_of_lt (by omega : u < 128)]
    simp
  | succ f ih =>
    intro u i acc hi hu h0
    unfold grp
    by_cases h : u < 128
    · rw [if_pos h]
      simp only [List.cons_append, List.nil_append, rdN]
      rw [toNat_ofNat (by omega)]
      rw [if_neg (by omega), if_neg (by omega), if_neg (by omega), Nat.mod_eq_of_lt h]
      simp
    · rw [if_neg h]
      have hm : u % 128 < 128 := Nat.mod_lt _ (by decide)
      simp only [List.cons_append, rdN]
      rw [toNat_ofNat (by omega)]
      rw [if_neg (by omega), if_pos (by omega)]
      rw [pow128] at hu
      rw [ih (u / 128) (i + 1) _ (by omega) (by omega) (by omega)]
      have e1 : (128 + u % 128) % 128 = u % 128 := by omega
      have e2 : u % 128 * 128 ^ i + u / 128 * 128 ^ (i + 1) = u * 128 ^ i := by
        rw [pow128, ← Nat.mul_assoc, ← Nat.add_mul]
        have : u % 128 + u / 128 * 128 = u := by omega
        rw [this]
      rw [e1, Nat.add_assoc, e2]
      simp only [List.length_cons]
      congr 1
      omega
theorem rd_num (n : Int) (hn : I64 n) (r : By) : rdN (num n ++ r) 0 0 = .ok n (num n).length := by
  unfold num
  rw [rd_grp r 9 (zu n) 0 0 rfl (by have := zu_lt hn; omega) (.inl rfl)]
  simp [zz_zu]
theorem rd_back : ∀ (b : By) (i acc : Nat) (n : Int) (k : Nat), i ≤ 9 → rdN b i acc = .ok n k → ∃ u, u < 2 * 128 ^ (9 - i) ∧ b.take (k - i) = grp (9 - i) u ∧ n = zz (acc + u * 128 ^ i) ∧ i < k ∧ k - i ≤ b.length ∧ (i = 0 ∨ u ≠ 0) := by
  intro b
  induction b with
  | nil => intro i acc n k _ h; cases h
  | cons c r ih =>
    intro i acc n k hi h
    simp only [rdN] at h
    have hc : c.toNat < 256 := c.toNat_lt
    have ec : UInt8.ofNat c.toNat = c := by simp
    split at h
    · cases h
    rename_i h9
    split at h
    · rename_i h128
      have hi9 : i ≠ 9 := fun e => h9 ⟨e, by omega⟩
      obtain ⟨u, h1, h2, h3, h4, h5, h6⟩ := ih (i + 1) _ n k (by omega) h
      obtain ⟨f, hf⟩ : ∃ f, 9 - i = f + 1 := ⟨8 - i, by omega⟩
      have hf' : 9 - (i + 1) = f := by omega
      rw [hf'] at h1 h2
      have hu : u ≠ 0 := h6.resolve_left (by omega)
      refine ⟨c.toNat - 128 + 128 * u, ?_, ?_, ?_, by omega, by simp only [List.length_cons]; omega, .inr (by omega)⟩
      · rw [hf, pow128]; omega
      · rw [hf]
        have ek : k - i = (k - (i + 1)) + 1 := by omega
        rw [ek, List.take_succ_cons, h2]
        unfold grp
        rw [if_neg (by omega)]
        have e1 : 128 + (c.toNat - 128 + 128 * u) % 128 = c.toNat := by omega
        have e2 : (c.toNat - 128 + 128 * u) / 128 = u := by omega
        rw [e1, e2, ec]
        cases f <;> rfl
      · rw [h3]
        have e1 : c.toNat % 128 = c.toNat - 128 := by omega
        rw [e1, pow128, Nat.add_mul, Nat.add_assoc]
        congr 2
        rw [← Nat.mul_assoc, Nat.mul_comm u 128]
    · rename_i h128
      split at h
      · cases h
      · rename_i h0
        injection h with e1 e2
        subst e2
        have hc1 : c.toNat < 128 := by omega
        refine ⟨c.toNat, ?_, ?_, ?_, by omega, by simp, by omega⟩
        · rcases Nat.lt_or_ge i 9 with hl | hl
          · obtain ⟨f, hf⟩ : ∃ f, 9 - i = f + 1 := ⟨8 - i, by omega⟩
            rw [hf, pow128]
            have : 0 < 128 ^ f := Nat.pow_pos (by decide)
            omega
          · have : i = 9 := by omega
            subst this
            have : ¬ 1 < c.toNat := fun h => h9 ⟨rfl, h⟩
            simp; omega
        · have e3 : i + 1 - i = 1 := by omega
          rw [e3]
          simp only [List.take_succ_cons, List.take_zero]
          cases hf : 9 - i with
          | zero => simp [grp]
          | succ f => unfold grp; rw [if_pos hc1, ec]
        · rw [← e1, Nat.mod_eq_of_lt hc1]
theorem rd_num_of {b : By} {n : Int} {k : Nat} (h : rdN b 0 0 = .ok n k) : b = num n ++ b.drop k ∧ k = (num n).length ∧ I64 n ∧ 0 < k ∧ k ≤ b.length := by
  obtain ⟨u, h1, h2, h3, h4, h5, _⟩ := rd_back b 0 0 n k (by omega) h
  have e : n = zz u := by simpa using h3
  have hg : num n = grp 9 u := by unfold num; rw [e, zu_zz]
  simp only [Nat.sub_zero] at h2 h5
  refine ⟨by rw [hg, ← h2, List.take_append_drop], ?_, ?_, h4, h5⟩
  · rw [hg, ← h2, List.length_take]; omega
  · rw [e]; exact zz_i64 (by simp only [Nat.sub_zero] at h1; omega)
theorem num_len (n : Int) : 0 < (num n).length ∧ (num n).length ≤ 10 := ⟨grp_pos _ _, grp_len _ _⟩
/-- a reading behind an error gives nothing -/
def rnT (b : By) (e : Int) : Int × Nat × Int :=
  if e = 0 then (match rdN b 0 0 with
    | .bad e' => (0, 0, e')
    | .ok n k => (n, k, 0)) else (0, 0, e)
theorem rdN_bad : ∀ {b : By} {i u : Nat} {e : Int}, rdN b i u = .bad e → e = 16 ∨ e = 3 ∨ e = 1 := by
  intro b
  induction b with
  | nil => intro i u e h; injection h with h; exact .inl h.symm
  | cons c r ih =>
    intro i u e h
    simp only [rdN] at h
    split at h
    · injection h with h; exact .inr (.inl h.symm)
    · split at h
      · exact ih h
      · split at h
        · injection h with h; exact .inr (.inr h.symm)
        · cases h
theorem rnT_num {n : Int} (hn : I64 n) (r : By) : rnT (num n ++ r) 0 = (n, (num n).length, 0) := by
  unfold rnT
  rw [if_pos rfl, rd_num n hn r]
theorem rnT_ok (b : By) (e : Int) : I64 (rnT b e).1 ∧ (rnT b e).2.1 ≤ b.length ∧ ((rnT b e).2.2 = 0 → e = 0 ∧ b = num (rnT b e).1 ++ b.drop (rnT b e).2.1 ∧ (rnT b e).2.1 = (num (rnT b e).1).length) ∧ ((rnT b e).2.2 ≠ 0 → (rnT b e).1 = 0 ∧ (rnT b e).2.1 = 0) := by
  have z : I64 0 := by unfold I64; omega
  unfold rnT
  by_cases h : e = 0
  · rw [if_pos h]
    cases hr : rdN b 0 0 with
    | bad e' => exact ⟨z, Nat.zero_le _, fun h => by have := rdN_bad hr; simp only at h; omega, fun _ => ⟨rfl, rfl⟩⟩
    | ok n k =>
      have := rd_num_of hr
      exact ⟨this.2.2.1, this.2.2.2.2, fun _ => ⟨h, this.1, this.2.1⟩, fun h => absurd rfl h⟩
  · rw [if_neg h]
    exact ⟨z, Nat.zero_le _, fun h' => absurd h' h, fun _ => ⟨rfl, rfl⟩⟩
/-- a number from 0 to most -/
def cnT (b : By) (e most em : Int) : Int × Nat × Int :=
  let t := rnT b e
  let e1 := if t.2.2 = 0 then (if t.1 < 0 then 3 else if most < t.1 then em else 0) else t.2.2
  (if e1 = 0 then t.1 else 0, t.2.1, e1)
end Go.Proofs.Ytmhpfadbmpipkaa.Cl
