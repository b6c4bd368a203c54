/- How long the encodings of lists of numbers are, in plain Lean. No condition. -/
import Derived.Test.YtmhpfadbmpipkaaCl4
set_option linter.unusedVariables false
set_option linter.unusedSimpArgs false
namespace Go.Proofs.Ytmhpfadbmpipkaa.Cl

theorem zu_nat (n : Nat) : zu (n : Int) = 2 * n := by unfold zu; rw [if_neg (by omega)]; omega
theorem i64_nat {n : Nat} (h : n ≤ 9223372036854775807) : I64 (n : Int) := by unfold I64; omega
theorem num_one {n : Int} (h : zu n < 128) : (num n).length = 1 := by unfold num grp; rw [if_pos h]; rfl
theorem num_two {n : Int} (h : zu n < 16384) : (num n).length ≤ 2 := by
  unfold num grp
  split
  · simp
  · unfold grp; rw [if_pos (by omega)]; simp
theorem fm_len {α : Type} (f : α → By) (c : Nat) : ∀ l : List α, (∀ x ∈ l, (f x).length ≤ c) → (l.flatMap f).length ≤ c * l.length := by
  intro l
  induction l with
  | nil => intro _; simp
  | cons x r ih =>
    intro h
    have h1 := h x List.mem_cons_self
    have h2 := ih fun y hy => h y (List.mem_cons_of_mem _ hy)
    rw [List.flatMap_cons, List.length_append, List.length_cons, Nat.mul_succ]
    omega
theorem b1_len (l : Li) : (b1 l).length ≤ 10 * l.length := fm_len num 10 l fun x _ => (num_len x).2
theorem rl_len (l : Li) : (rl l).length ≤ l.length := by
  induction l with
  | nil => simp [rl]
  | cons x r ih =>
    simp only [rl]
    split
    · simp
    · rename_i p t e
      rw [e] at ih
      simp only [List.length_cons] at ih
      split <;> simp only [List.length_cons] <;> omega
theorem enP_len (p : Int × Nat) : (enP p).length ≤ 20 := by
  have h1 := num_len p.1; have h2 := num_len p.2
  unfold enP; rw [List.length_append]; omega
theorem b2_len (l : Li) : (b2 l).length ≤ 20 * l.length := by
  have h1 := fm_len enP 20 (rl l) fun x _ => enP_len x
  have h2 := rl_len l
  unfold b2; omega
theorem st_len (l : Li) : ∀ p, (st p l).length ≤ 10 * l.length := by
  induction l with
  | nil => intro p; simp [st]
  | cons x r ih => intro p; have h1 := ih x; have h2 := num_len (w64 (x - p)); simp only [st, List.length_append, List.length_cons]; omega
theorem b4_len (l : Li) : (b4 l).length ≤ 10 + 20 * l.length := by
  have h1 := num_len (ds l).length
  have h2 := b1_len (ds l)
  have h3 := ds_len l
  have h4 := fm_len (fun x => num (idx (ds l) x)) 10 l fun x _ => (num_len _).2
  unfold b4
  simp only [List.length_append]
  omega
theorem wd_le (l : Li) (h : AllI l) : wd l ≤ 64 := by
  unfold wd
  cases l with
  | nil => decide
  | cons x r =>
    have h1 := lo_le (l := x :: r) (x := x) List.mem_cons_self
    have h2 := hi_ge (l := x :: r) (x := x) List.mem_cons_self
    have h3 := h _ h1.2
    have h4 := h _ h2.2
    unfold I64 at h3 h4
    exact (wid_spec 64 _ (by unfold dif; omega)).2
theorem sz5_le (n w : Nat) (h : w ≤ 64) : sz5 n w ≤ 8 * n + 1 := by
  unfold sz5
  have := Nat.mul_le_mul_left n h
  omega
theorem b5_len (l : Li) (h : AllI l) : (b5 l).length ≤ 21 + 8 * l.length := by
  have h1 := num_len (lo l)
  have h2 := num_len (wd l)
  have h3 := sz5_le l.length (wd l) (wd_le l h)
  unfold b5
  simp only [List.length_append, pk_len]
  omega
theorem bd_len (k : Nat) (l : Li) (h : AllI l) : (bd k l).length ≤ 21 + 20 * l.length := by
  have h1 := b1_len l; have h2 := b2_len l; have h3 := st_len l 0; have h4 := b4_len l; have h5 := b5_len l h
  unfold bd
  split
  · omega
  · omega
  · unfold b3; omega
  · omega
  · omega
theorem en_len (k : Nat) (l : Li) (h : AllI l) : (en k l).length ≤ 41 + 20 * l.length := by
  have h1 := bd_len k l h; have h2 := num_len k; have h3 := num_len l.length
  unfold en; simp only [List.length_append]; omega
theorem en_pos (k : Nat) (l : Li) : 0 < (en k l).length := by
  have h2 := num_len k
  unfold en; simp only [List.length_append]; omega
theorem sh_le (a b : By) : (sh a b).length ≤ a.length ∧ (sh a b).length ≤ b.length := by unfold sh; split <;> omega
theorem sh_or (a b : By) : sh a b = a ∨ sh a b = b := by unfold sh; split; exact .inr rfl; exact .inl rfl
theorem best_le (l : Li) : ∀ k j, j ≤ k → (best l k).length ≤ (en (j + 1) l).length := by
  intro k
  induction k with
  | zero => intro j h; have : j = 0 := by omega
            subst this; exact Nat.le_refl _
  | succ k ih =>
    intro j h
    have h1 := sh_le (best l k) (en (k + 2) l)
    show (sh _ _).length ≤ _
    by_cases e : j = k + 1
    · subst e; exact h1.2
    · exact Nat.le_trans h1.1 (ih j (by omega))
theorem best_in (l : Li) : ∀ k, ∃ j, j ≤ k ∧ best l k = en (j + 1) l := by
  intro k
  induction k with
  | zero => exact ⟨0, Nat.le_refl _, rfl⟩
  | succ k ih =>
    obtain ⟨j, h1, h2⟩ := ih
    rcases sh_or (best l k) (en (k + 2) l) with e | e
    · exact ⟨j, by omega, by rw [← h2]; exact e⟩
    · exact ⟨k + 1, Nat.le_refl _, e⟩
theorem ints_le {l : Li} (h : l ≠ []) {k : Nat} (h1 : 1 ≤ k) (h2 : k ≤ 5) : (ints l).length ≤ (en k l).length := by
  unfold ints
  rw [if_neg h]
  obtain ⟨j, rfl⟩ : ∃ j, k = j + 1 := ⟨k - 1, by omega⟩
  exact best_le l 4 j (by omega)
theorem ints_in {l : Li} (h : l ≠ []) : ∃ k : Nat, 1 ≤ k ∧ k ≤ 5 ∧ ints l = en k l := by
  unfold ints
  rw [if_neg h]
  obtain ⟨j, h1, h2⟩ := best_in l 4
  exact ⟨j + 1, by omega, by omega, h2⟩
theorem ints_len (l : Li) (h : l.length ≤ 512) : (ints l).length ≤ 10 * l.length + 4 := by
  by_cases e : l = []
  · subst e; decide
  · refine Nat.le_trans (ints_le e (k := 1) (by omega) (by omega)) ?_
    have h1 := b1_len l
    have h2 : (num (1 : Nat)).length = 1 := num_one (by rw [zu_nat]; omega)
    have h3 : (num l.length).length ≤ 2 := num_two (by rw [zu_nat]; omega)
    show (num (1 : Nat) ++ num l.length ++ b1 l).length ≤ _
    simp only [List.length_append]
    omega
theorem ints_short (l : Li) (h : l.length ≤ 512) : (ints l).length ≤ 5124 := by have := ints_len l h; omega
/-! what is short -/
theorem short_same (x : Int) (k : Nat) (h1 : 1 ≤ k) (h2 : k ≤ 512) : (ints (List.replicate k x)).length ≤ 16 := by
  obtain ⟨m, rfl⟩ : ∃ m, k = m + 1 := ⟨k - 1, by omega⟩
  refine Nat.le_trans (ints_le (by simp) (k := 2) (by omega) (by omega)) ?_
  have e : rl (List.replicate (m + 1) x) = [(x, m + 1)] := by have := rl_rep x m [] (by simp); simpa [rl] using this
  have h3 : (num (2 : Nat)).length = 1 := num_one (by rw [zu_nat]; omega)
  have h4 : (num ((List.replicate (m + 1) x).length : Nat)).length ≤ 2 := num_two (by rw [zu_nat, List.length_replicate]; omega)
  have h5 := num_len x
  have h6 : (num ((m + 1 : Nat) : Int)).length ≤ 2 := num_two (by rw [zu_nat]; omega)
  show (num (2 : Nat) ++ num (List.replicate (m + 1) x).length ++ b2 (List.replicate (m + 1) x)).length ≤ _
  unfold b2
  rw [e]
  simp only [List.flatMap_cons, List.flatMap_nil, List.append_nil, List.length_append, enP]
  omega
/-- numbers in equal steps -/
def stp (x s : Int) : Nat → Li
  | 0 => []
  | n + 1 => x :: stp (w64 (x + s)) s n
theorem stp_len (s : Int) : ∀ n x, (stp x s n).length = n := by
  intro n
  induction n with
  | zero => intro x; rfl
  | succ n ih => intro x; simp [stp, ih]
theorem w64_of (n : Int) : w64 n = (n + 9223372036854775808) % 18446744073709551616 - 9223372036854775808 := by
  have e : Go.IntKind.i64.bits = 64 := rfl
  have s : Go.IntKind.i64.signed = true := rfl
  simp only [w64, Go.IntKind.wrap, e, s, Bool.true_and, decide_eq_true_eq]
  split <;> omega
theorem w64_i (n : Int) : I64 (w64 n) := by rw [w64_of]; unfold I64; omega
theorem w64_id {n : Int} (h : I64 n) : w64 n = n := by rw [w64_of]; unfold I64 at h; omega
theorem w64_step {x s : Int} (hs : I64 s) : w64 (w64 (x + s) - x) = s := by
  simp only [w64_of]; unfold I64 at hs; omega
theorem stp_all (s : Int) : ∀ n x, I64 x → AllI (stp x s n) := by
  intro n
  induction n with
  | zero => intro x _ y h; cases h
  | succ n ih => intro x hx y h; rcases List.mem_cons.1 h with e | e
                 · rw [e]; exact hx
                 · exact ih _ (w64_i _) y e
theorem stp_st {s : Int} (hs : I64 s) (c : Nat) (hc : (num s).length ≤ c) : ∀ n x, (st x (stp (w64 (x + s)) s n)).length ≤ c * n := by
  intro n
  induction n with
  | zero => intro x; simp [stp, st]
  | succ n ih =>
    intro x
    have := ih (w64 (x + s))
    simp only [stp, st, List.length_append, w64_step hs]
    rw [Nat.mul_succ]
    omega
theorem short_stp {x s : Int} (hs : I64 s) (k c : Nat) (hc : (num s).length ≤ c) (h1 : 1 ≤ k) (h2 : k ≤ 512) : (ints (stp x s k)).length ≤ 13 + c * (k - 1) := by
  obtain ⟨m, rfl⟩ : ∃ m, k = m + 1 := ⟨k - 1, by omega⟩
  refine Nat.le_trans (ints_le (by simp [stp]) (k := 3) (by omega) (by omega)) ?_
  have h3 : (num (3 : Nat)).length = 1 := num_one (by rw [zu_nat]; omega)
  have h4 : (num ((stp x s (m + 1)).length : Nat)).length ≤ 2 := num_two (by rw [zu_nat, stp_len]; omega)
  have h5 := num_len (w64 (x - 0))
  have h6 := stp_st hs c hc m x
  show (num (3 : Nat) ++ num (stp x s (m + 1)).length ++ b3 (stp x s (m + 1))).length ≤ _
  unfold b3
  simp only [stp, st, List.length_append]
  simp only [stp] at h4
  rw [show m + 1 - 1 = m by omega]
  omega
theorem short_bits (l : Li) (y : Int) (h : ∀ x ∈ l, x = y ∨ x = y + 1) (h2 : l.length ≤ 512) : (ints l).length ≤ 14 + (l.length + 7) / 8 := by
  by_cases e : l = []
  · subst e; decide
  refine Nat.le_trans (ints_le e (k := 5) (by omega) (by omega)) ?_
  have h3 : (num (5 : Nat)).length = 1 := num_one (by rw [zu_nat]; omega)
  have h4 : (num (l.length : Nat)).length ≤ 2 := num_two (by rw [zu_nat]; omega)
  have h5 := num_len (lo l)
  obtain ⟨a, ha⟩ := List.exists_mem_of_ne_nil l e
  have h6 := h _ (lo_le ha).2
  have h7 := h _ (hi_ge ha).2
  have hw : wd l ≤ 1 := wid_min 64 _ 1 (by unfold dif; omega)
  have h8 : (num (wd l : Nat)).length = 1 := num_one (by rw [zu_nat]; omega)
  have h9 : sz5 l.length (wd l) ≤ (l.length + 7) / 8 := by
    unfold sz5
    have : l.length * wd l ≤ l.length * 1 := Nat.mul_le_mul_left _ hw
    omega
  show (num (5 : Nat) ++ num l.length ++ b5 l).length ≤ _
  unfold b5
  simp only [List.length_append, pk_len]
  omega
end Go.Proofs.Ytmhpfadbmpipkaa.Cl
