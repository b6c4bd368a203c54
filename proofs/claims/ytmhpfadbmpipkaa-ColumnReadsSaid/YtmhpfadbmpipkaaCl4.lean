/- How lists of numbers are written, in plain Lean: the five encodings and the shortest of them. No condition. -/
import Derived.Test.YtmhpfadbmpipkaaCl2
set_option linter.unusedVariables false
set_option linter.unusedSimpArgs false
namespace Go.Proofs.Ytmhpfadbmpipkaa.Cl

abbrev Li := List Int
def AllI (l : Li) : Prop := ∀ x ∈ l, I64 x
def w64 (n : Int) : Int := Go.IntKind.i64.wrap n
def b1 (l : Li) : By := l.flatMap num
/-- runs of equal numbers -/
def rl : Li → List (Int × Nat)
  | [] => []
  | x :: r => match rl r with
    | [] => [(x, 1)]
    | p :: t => if x = p.1 then (x, p.2 + 1) :: t else (x, 1) :: p :: t
def enP (p : Int × Nat) : By := num p.1 ++ num p.2
def b2 (l : Li) : By := (rl l).flatMap enP
def st : Int → Li → By
  | _, [] => []
  | p, x :: r => num (w64 (x - p)) ++ st x r
def b3 (l : Li) : By := st 0 l
/-- the different numbers in ascending order -/
def ins (d : Li) (x : Int) : Li :=
  match d with
  | [] => [x]
  | y :: r => if y < x then y :: ins r x else if y = x then y :: r else x :: y :: r
def ds (l : Li) : Li := l.foldl ins []
def idx : Li → Int → Nat
  | [], _ => 0
  | y :: r, x => if y = x then 0 else idx r x + 1
def b4 (l : Li) : By := num (ds l).length ++ b1 (ds l) ++ l.flatMap fun x => num (idx (ds l) x)
/-- the number of bits -/
def wid : Nat → Nat → Nat
  | 0, _ => 0
  | f + 1, u => if u = 0 then 0 else wid f (u / 2) + 1
def pt (n : Int) : Nat := (n % 18446744073709551616).toNat
/-- how far a number lies above the least one -/
def dif (lo x : Int) : Nat := (x - lo).toNat
/-- the bit p of the list's bits, w for each number -/
def bitA (lo : Int) (w : Nat) (l : Li) (p : Nat) : Bool := (dif lo (l.getD (p / w) 0)).testBit (p % w)
/-- the byte j if only the bits below p are set -/
def byA (bit : Nat → Bool) (p j : Nat) : Nat → Nat
  | 0 => 0
  | t + 1 => byA bit p j t + (if 8 * j + t < p ∧ bit (8 * j + t) = true then 2 ^ t else 0)
def pk (bit : Nat → Bool) (n p : Nat) : By := (List.range n).map fun j => UInt8.ofNat (byA bit p j 8)
def lo (l : Li) : Int := (ds l).headD 0
def hi (l : Li) : Int := (ds l).getLastD 0
def wd (l : Li) : Nat := wid 64 (dif (lo l) (hi l))
def sz5 (n w : Nat) : Nat := (n * w + 7) / 8
def b5 (l : Li) : By := num (lo l) ++ num (wd l) ++ pk (bitA (lo l) (wd l) l) (sz5 l.length (wd l)) (l.length * wd l)
def bd : Nat → Li → By
  | 1, l => b1 l
  | 2, l => b2 l
  | 3, l => b3 l
  | 4, l => b4 l
  | _, l => b5 l
def en (k : Nat) (l : Li) : By := num k ++ num l.length ++ bd k l
def sh (a b : By) : By := if b.length < a.length then b else a
def best (l : Li) : Nat → By
  | 0 => en 1 l
  | k + 1 => sh (best l k) (en (k + 2) l)
def ints (l : Li) : By := if l = [] then num 1 ++ num 0 else best l 4
example : ints [7, 7, 7, 7] = [4, 8, 14, 8] := by decide
example : ints [] = [2, 0] := by decide
/-! runs -/
theorem rl_ne {x : Int} {r : Li} : ∃ k t, rl (x :: r) = (x, k + 1) :: t := by
  simp only [rl]
  split
  · exact ⟨0, [], rfl⟩
  · rename_i p t _
    split
    · exact ⟨p.2, t, rfl⟩
    · exact ⟨0, p :: t, rfl⟩
theorem rl_rep (x : Int) (m : Nat) (r : Li) (h : r.head? ≠ some x) : rl (List.replicate (m + 1) x ++ r) = (x, m + 1) :: rl r := by
  induction m with
  | zero =>
    simp only [List.replicate, List.cons_append, List.nil_append, rl]
    cases r with
    | nil => rfl
    | cons y r =>
      obtain ⟨k, t, e⟩ := rl_ne (x := y) (r := r)
      rw [e]
      have hne : x ≠ y := fun e => h (by rw [e]; rfl)
      simp only [hne, if_false]
  | succ m ih =>
    rw [List.replicate_succ, List.cons_append]
    simp only [rl]
    rw [ih]
    simp
theorem rl_all {l : Li} {p : Int × Nat} (h : p ∈ rl l) : p.1 ∈ l ∧ 0 < p.2 ∧ p.2 ≤ l.length := by
  induction l generalizing p with
  | nil => cases h
  | cons x r ih =>
    simp only [rl] at h
    split at h
    · simp only [List.mem_singleton] at h; subst h; simp
    · rename_i q t e
      have hq := ih (p := q) (by rw [e]; exact List.mem_cons_self)
      split at h
      · rename_i hx
        rcases List.mem_cons.1 h with h | h
        · subst h; simp; omega
        · have := ih (by rw [e]; exact List.mem_cons_of_mem _ h)
          exact ⟨List.mem_cons_of_mem _ this.1, this.2.1, by simp; omega⟩
      · rcases List.mem_cons.1 h with h | h
        · subst h; simp
        · have := ih (by rw [e]; exact h)
          exact ⟨List.mem_cons_of_mem _ this.1, this.2.1, by simp; omega⟩
/-! the different numbers -/
def SS (d : Li) : Prop := d.Pairwise (· < ·)
theorem ins_mem (d : Li) (x y : Int) : y ∈ ins d x ↔ y ∈ d ∨ y = x := by
  induction d with
  | nil => simp [ins]
  | cons z r ih =>
    unfold ins
    split
    · simp only [List.mem_cons, ih, or_assoc]
    · split
      · rename_i e; subst e; simp only [List.mem_cons]; constructor
        · intro h; exact .inl h
        · rintro (h | rfl)
          · exact h
          · exact .inl rfl
      · simp only [List.mem_cons]; constructor
        · rintro (h | h | h)
          · exact .inr h
          · exact .inl (.inl h)
          · exact .inl (.inr h)
        · rintro ((h | h) | h)
          · exact .inr (.inl h)
          · exact .inr (.inr h)
          · exact .inl h
theorem ins_ss {d : Li} {x : Int} (h : SS d) : SS (ins d x) := by
  induction d with
  | nil => simp [ins, SS]
  | cons z r ih =>
    have h1 := List.pairwise_cons.1 h
    unfold ins
    split
    · rename_i hz
      refine List.pairwise_cons.2 ⟨fun a ha => ?_, ih h1.2⟩
      rcases (ins_mem r x a).1 ha with h2 | h2
      · exact h1.1 a h2
      · omega
    · split
      · exact h
      · refine List.pairwise_cons.2 ⟨fun a ha => ?_, h⟩
        rcases List.mem_cons.1 ha with h2 | h2
        · omega
        · have := h1.1 a h2; omega
theorem ds_snoc (l : Li) (x : Int) : ds (l ++ [x]) = ins (ds l) x := by simp [ds]
theorem ds_fold (l : Li) : ∀ d, SS d → SS (l.foldl ins d) ∧ ∀ y, y ∈ l.foldl ins d ↔ y ∈ d ∨ y ∈ l := by
  induction l with
  | nil => intro d h; simp [h]
  | cons x r ih =>
    intro d h
    have := ih (ins d x) (ins_ss h)
    refine ⟨this.1, fun y => ?_⟩
    rw [List.foldl_cons, this.2 y, ins_mem, List.mem_cons, or_assoc]
theorem ds_ss (l : Li) : SS (ds l) := (ds_fold l [] List.Pairwise.nil).1
theorem ds_mem (l : Li) (y : Int) : y ∈ ds l ↔ y ∈ l := by rw [ds, (ds_fold l [] List.Pairwise.nil).2 y]; simp
theorem ss_uniq {a : Li} : ∀ {b : Li}, SS a → SS b → (∀ y, y ∈ a ↔ y ∈ b) → a = b := by
  induction a with
  | nil => intro b _ _ h; cases b with
    | nil => rfl
    | cons y r => exact absurd ((h y).2 List.mem_cons_self) (by simp)
  | cons x r ih =>
    intro b ha hb h
    have h1 := List.pairwise_cons.1 ha
    cases b with
    | nil => exact absurd ((h x).1 List.mem_cons_self) (by simp)
    | cons y s =>
      have h2 := List.pairwise_cons.1 hb
      have e : x = y := by
        have m1 := (h x).1 List.mem_cons_self
        have m2 := (h y).2 List.mem_cons_self
        rcases List.mem_cons.1 m1 with e | e
        · exact e
        · rcases List.mem_cons.1 m2 with e2 | e2
          · exact e2.symm
          · have := h1.1 y e2; have := h2.1 x e; omega
      subst e
      congr 1
      refine ih h1.2 h2.2 fun z => ⟨fun hz => ?_, fun hz => ?_⟩
      · rcases List.mem_cons.1 ((h z).1 (List.mem_cons_of_mem _ hz)) with e | e
        · have := h1.1 z hz; omega
        · exact e
      · rcases List.mem_cons.1 ((h z).2 (List.mem_cons_of_mem _ hz)) with e | e
        · have := h2.1 z hz; omega
        · exact e
theorem ds_of {l d : Li} (h1 : SS d) (h2 : ∀ y, y ∈ d ↔ y ∈ l) : d = ds l := ss_uniq h1 (ds_ss l) fun y => by rw [h2, ds_mem]
theorem ins_len (d : Li) (x : Int) : (ins d x).length ≤ d.length + 1 := by
  induction d with
  | nil => simp [ins]
  | cons y r ih => unfold ins; split
                   · simp only [List.length_cons]; omega
                   · split <;> simp
theorem ds_len (l : Li) : (ds l).length ≤ l.length := by
  have : ∀ (l d : Li), (l.foldl ins d).length ≤ d.length + l.length := by
    intro l
    induction l with
    | nil => intro d; simp
    | cons x r ih => intro d; have h1 := ih (ins d x); have h2 := ins_len d x; simp only [List.foldl_cons, List.length_cons]; omega
  have := this l []
  simpa [ds] using this
theorem idx_lt {d : Li} {x : Int} (h : x ∈ d) : idx d x < d.length ∧ d[idx d x]? = some x := by
  induction d with
  | nil => cases h
  | cons y r ih =>
    unfold idx
    by_cases e : y = x
    · rw [if_pos e]; simp [e]
    · rw [if_neg e]
      have := ih (by rcases List.mem_cons.1 h with h | h; exact absurd h.symm e; exact h)
      simp only [List.length_cons, List.getElem?_cons_succ]
      exact ⟨by omega, this.2⟩
theorem idx_at {d : Li} {i : Nat} {x : Int} (hs : SS d) (h : d[i]? = some x) : idx d x = i := by
  induction d generalizing i with
  | nil => simp at h
  | cons y r ih =>
    have h1 := List.pairwise_cons.1 hs
    unfold idx
    cases i with
    | zero => simp at h; rw [if_pos h]
    | succ i =>
      simp only [List.getElem?_cons_succ] at h
      have := h1.1 x (List.mem_of_getElem? h)
      rw [if_neg (by omega), ih h1.2 h]
theorem ds_ne {l : Li} (h : l ≠ []) : ds l ≠ [] := by
  cases l with
  | nil => exact absurd rfl h
  | cons x r => intro e; have := (ds_mem (x :: r) x).2 List.mem_cons_self; rw [e] at this; cases this
theorem lo_le {l : Li} {x : Int} (h : x ∈ l) : lo l ≤ x ∧ lo l ∈ l := by
  have hm := (ds_mem l x).2 h
  have hs := ds_ss l
  have hb := fun y => (ds_mem l y)
  unfold lo
  cases hd : ds l with
  | nil => rw [hd] at hm; cases hm
  | cons y r =>
    rw [hd] at hm hs
    have h1 := List.pairwise_cons.1 hs
    refine ⟨?_, (hb y).1 (by rw [hd]; exact List.mem_cons_self)⟩
    show y ≤ x
    rcases List.mem_cons.1 hm with e | e
    · omega
    · have := h1.1 x e; omega
theorem last_ge {d : Li} (hs : SS d) {x : Int} (h : x ∈ d) : x ≤ d.getLastD 0 ∧ d.getLastD 0 ∈ d := by
  induction d generalizing x with
  | nil => cases h
  | cons y r ih =>
    have h1 := List.pairwise_cons.1 hs
    cases r with
    | nil => simp at h ⊢; omega
    | cons z s =>
      have e : (y :: z :: s).getLastD 0 = (z :: s).getLastD 0 := by simp [List.getLastD]
      rw [e]
      have hz := ih h1.2 (x := z) List.mem_cons_self
      rcases List.mem_cons.1 h with h2 | h2
      · have := h1.1 z List.mem_cons_self
        exact ⟨by omega, List.mem_cons_of_mem _ hz.2⟩
      · have := ih h1.2 h2
        exact ⟨this.1, List.mem_cons_of_mem _ this.2⟩
theorem hi_ge {l : Li} {x : Int} (h : x ∈ l) : x ≤ hi l ∧ hi l ∈ l := by
  have := last_ge (ds_ss l) ((ds_mem l x).2 h)
  exact ⟨this.1, (ds_mem l _).1 this.2⟩
theorem wid_spec : ∀ (f u : Nat), u < 2 ^ f → u < 2 ^ wid f u ∧ wid f u ≤ f := by
  intro f
  induction f with
  | zero => intro u h; simp [wid] at h ⊢; omega
  | succ f ih =>
    intro u h
    unfold wid
    split
    · simp [*]
    · have := ih (u / 2) (by rw [Nat.pow_succ] at h; omega)
      refine ⟨?_, by omega⟩
      rw [Nat.pow_succ]
      omega
theorem wid_min : ∀ (f u k : Nat), u < 2 ^ k → wid f u ≤ k := by
  intro f
  induction f with
  | zero => intro u k _; simp [wid]
  | succ f ih =>
    intro u k h
    unfold wid
    split
    · omega
    · cases k with
      | zero => simp at h; omega
      | succ k => have := ih (u / 2) k (by rw [Nat.pow_succ] at h; omega); omega
/-! packed bits -/
theorem byA_lt (bit : Nat → Bool) (p j : Nat) : ∀ t, byA bit p j t < 2 ^ t := by
  intro t
  induction t with
  | zero => simp [byA]
  | succ t ih => unfold byA; rw [Nat.pow_succ]; split <;> omega
theorem byA_bit (bit : Nat → Bool) (p j : Nat) : ∀ t s, s < t → (byA bit p j t).testBit s = (decide (8 * j + s < p) && bit (8 * j + s)) := by
  intro t
  induction t with
  | zero => intro s h; omega
  | succ t ih =>
    intro s hs
    unfold byA
    have hl := byA_lt bit p j t
    have key : ∀ c : Nat, c ≤ 1 → (byA bit p j t + c * 2 ^ t).testBit s = if s < t then (byA bit p j t).testBit s else decide (c = 1) := by
      intro c hc
      rw [Nat.add_comm, Nat.mul_comm, Nat.testBit_two_pow_mul_add c hl]
      split
      · rfl
      · have : s - t = 0 := by omega
        rw [this]
        have : c = 0 ∨ c = 1 := by omega
        rcases this with rfl | rfl <;> rfl
    by_cases hb : 8 * j + t < p ∧ bit (8 * j + t) = true
    · rw [if_pos hb]
      have := key 1 (Nat.le_refl _)
      rw [Nat.one_mul] at this
      rw [this]
      split
      · exact ih s (by assumption)
      · have e : s = t := by omega
        subst e
        simp [hb.1, hb.2]
    · rw [if_neg hb]
      have := key 0 (Nat.zero_le _)
      rw [Nat.zero_mul] at this
      rw [this]
      split
      · exact ih s (by assumption)
      · have e : s = t := by omega
        subst e
        by_cases h1 : 8 * j + s < p
        · have : bit (8 * j + s) = false := by
            cases hbb : bit (8 * j + s) with
            | false => rfl
            | true => exact absurd ⟨h1, hbb⟩ hb
          simp [this]
        · simp [h1]
theorem byA_step (bit : Nat → Bool) (p j : Nat) : ∀ t, byA bit (p + 1) j t = byA bit p j t + (if 8 * j ≤ p ∧ p < 8 * j + t ∧ bit p = true then 2 ^ (p - 8 * j) else 0) := by
  intro t
  induction t with
  | zero => simp only [byA]; rw [if_neg (by omega)]
  | succ t ih =>
    unfold byA
    rw [ih]
    by_cases hp : p = 8 * j + t
    · subst hp
      have e : 8 * j + t - 8 * j = t := by omega
      rw [e, if_neg (show ¬(8 * j ≤ 8 * j + t ∧ 8 * j + t < 8 * j + t ∧ bit (8 * j + t) = true) by omega), if_neg (show ¬(8 * j + t < 8 * j + t ∧ bit (8 * j + t) = true) by omega)]
      by_cases hb : bit (8 * j + t) = true
      · rw [if_pos ⟨by omega, hb⟩, if_pos ⟨by omega, by omega, hb⟩]
      · rw [if_neg (by simp [hb]), if_neg (by simp [hb])]
    · have e1 : (8 * j + t < p + 1 ∧ bit (8 * j + t) = true) ↔ (8 * j + t < p ∧ bit (8 * j + t) = true) := by
        constructor <;> rintro ⟨a, b⟩ <;> exact ⟨by omega, b⟩
      have e2 : (8 * j ≤ p ∧ p < 8 * j + (t + 1) ∧ bit p = true) ↔ (8 * j ≤ p ∧ p < 8 * j + t ∧ bit p = true) := by
        constructor <;> rintro ⟨a, b, c⟩ <;> exact ⟨by omega, by omega, c⟩
      simp only [e1, e2]
      omega
theorem byA_zero (bit : Nat → Bool) (j : Nat) : ∀ t, byA bit 0 j t = 0 := by
  intro t
  induction t with
  | zero => rfl
  | succ t ih => unfold byA; rw [ih, if_neg (by omega)]
theorem pk_len (bit : Nat → Bool) (n p : Nat) : (pk bit n p).length = n := by simp [pk]
theorem pk_zero (bit : Nat → Bool) (n : Nat) : pk bit n 0 = List.replicate n 0 := by
  apply List.ext_getElem
  · simp [pk]
  · intro i h1 h2; simp [pk, byA_zero]
theorem pk_step (bit : Nat → Bool) (n p : Nat) : pk bit n (p + 1) = (pk bit n p).set (p / 8) (UInt8.ofNat (byA bit p (p / 8) 8 + (if bit p = true then 2 ^ (p % 8) else 0))) := by
  apply List.ext_getElem
  · simp [pk]
  · intro i h1 h2
    rw [List.getElem_set]
    simp only [pk, List.getElem_map, List.getElem_range]
    rw [byA_step]
    by_cases e : p / 8 = i
    · rw [if_pos e]
      subst e
      have e1 : p - 8 * (p / 8) = p % 8 := by omega
      rw [e1]
      by_cases hb : bit p = true
      · rw [if_pos ⟨by omega, by omega, hb⟩, if_pos hb]
      · rw [if_neg (by simp [hb]), if_neg hb]
    · rw [if_neg e, if_neg (by omega)]; rfl
end Go.Proofs.Ytmhpfadbmpipkaa.Cl
