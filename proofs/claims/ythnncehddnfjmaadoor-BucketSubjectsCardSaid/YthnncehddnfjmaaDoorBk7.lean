/- The plain law of Reweigh: the two passes over the buckets, what they keep, and how many buckets they move. No program in sight. -/
import Derived.Test.YthnncehddnfjmaaDoorBk6
set_option linter.unusedVariables false
set_option linter.unusedSimpArgs false
namespace Go.Proofs.YthnncehddnfjmaaDoor.Bk

/-! counts -/
theorem cnt_congr {f g : Nat → Int} {v : Int} : ∀ k : Nat, (∀ j, j < k → f j = g j) → cnt f v k = cnt g v k := by
  intro k
  induction k with
  | zero => intro _; rfl
  | succ k ih => intro h; simp only [cnt, ih fun j hj => h j (by omega), h k (by omega)]
theorem cnt_set (f : Nat → Int) (b : Nat) (x v : Int) : ∀ k : Nat, cnt (fun j => if j = b then x else f j) v k = cnt f v k + (if b < k then (if x = v then 1 else 0) - (if f b = v then 1 else 0) else 0) := by
  intro k
  induction k with
  | zero => simp [cnt]
  | succ k ih =>
    simp only [cnt, ih]
    by_cases h : k = b
    · subst h
      simp only [if_true, Nat.lt_irrefl, if_false, Nat.lt_succ_self]
      omega
    · simp only [if_neg h]
      by_cases h1 : b < k
      · rw [if_pos h1, if_pos (c := b < k + 1) (by omega)]; omega
      · rw [if_neg h1, if_neg (c := b < k + 1) (by omega)]; omega
theorem cnt_pos {f : Nat → Int} {v : Int} : ∀ (k b : Nat), b < k → f b = v → 0 < cnt f v k := by
  intro k
  induction k with
  | zero => intro b h; omega
  | succ k ih =>
    intro b h e
    simp only [cnt]
    by_cases hb : b = k
    · subst hb
      have := (cnt_le f v b).1
      rw [if_pos e]; omega
    · have := ih b (by omega) e
      split <;> omega
theorem cnt_none {f : Nat → Int} {v : Int} : ∀ k : Nat, (∀ b, b < k → f b ≠ v) → cnt f v k = 0 := by
  intro k
  induction k with
  | zero => intro _; rfl
  | succ k ih => intro h; simp only [cnt, ih fun b hb => h b (by omega), if_neg (h k (by omega))]; rfl
theorem isum_congr {f g : Nat → Int} : ∀ n : Nat, (∀ j, j < n → f j = g j) → isum f n = isum g n := by
  intro n
  induction n with
  | zero => intro _; rfl
  | succ n ih => intro h; simp only [isum, ih fun j hj => h j (by omega), h n (by omega)]
theorem isum_add (f g : Nat → Int) : ∀ n : Nat, isum (fun j => f j + g j) n = isum f n + isum g n := by
  intro n
  induction n with
  | zero => rfl
  | succ n ih => simp only [isum, ih]; omega
theorem isum_sub (f g : Nat → Int) : ∀ n : Nat, isum (fun j => f j - g j) n = isum f n - isum g n := by
  intro n
  induction n with
  | zero => rfl
  | succ n ih => simp only [isum, ih]; omega
theorem isum_le {f g : Nat → Int} : ∀ n : Nat, (∀ j, j < n → f j ≤ g j) → isum f n ≤ isum g n := by
  intro n
  induction n with
  | zero => intro _; exact Int.le_refl _
  | succ n ih => intro h; have := ih fun j hj => h j (by omega); have := h n (by omega); simp only [isum]; omega
theorem isum_one (x : Int) : ∀ n : Nat, isum (fun j => if x = (j : Int) + 1 then 1 else 0) n = if 1 ≤ x ∧ x ≤ n then 1 else 0 := by
  intro n
  induction n with
  | zero => simp only [isum]; rw [if_neg (by omega)]
  | succ n ih =>
    simp only [isum, ih]
    by_cases h : x = (n : Int) + 1
    · subst h
      rw [if_neg (by omega), if_pos rfl, if_pos (by omega)]; rfl
    · rw [if_neg h]
      by_cases h1 : 1 ≤ x ∧ x ≤ n
      · rw [if_pos h1, if_pos (by omega)]; rfl
      · rw [if_neg h1, if_neg (by omega)]; rfl
theorem isum_zero : ∀ n : Nat, isum (fun _ => 0) n = 0 := by
  intro n
  induction n with
  | zero => rfl
  | succ n ih => simp only [isum, ih]; rfl
/-- every bucket is counted once -/
theorem cnt_total (f : Nat → Int) (n : Nat) : ∀ k : Nat, (∀ b, b < k → 0 ≤ f b ∧ f b ≤ n) → isum (fun j => cnt f ((j : Int) + 1) k) n + cnt f 0 k = k := by
  intro k
  induction k with
  | zero => intro _; simp only [cnt]; rw [isum_zero]; rfl
  | succ k ih =>
    intro h
    have h1 := ih fun b hb => h b (by omega)
    have h2 := h k (by omega)
    have e : isum (fun j => cnt f ((j : Int) + 1) (k + 1)) n = isum (fun j => cnt f ((j : Int) + 1) k) n + isum (fun j : Nat => if f k = (j : Int) + 1 then 1 else 0) n := by rw [← isum_add]; rfl
    rw [e, isum_one]
    simp only [cnt]
    by_cases h0 : f k = 0
    · rw [if_neg (by omega), if_pos h0]; omega
    · rw [if_pos (by omega), if_neg h0]; omega

/-! the passes -/
abbrev St := (Nat → Int) × (Nat → Int)
def dstep (W : Nat → Int) (s : St) (b : Nat) : St :=
  if W (s.2 b - 1).toNat < s.1 (s.2 b - 1).toNat then (fun j => if j = (s.2 b - 1).toNat then s.1 (s.2 b - 1).toNat - 1 else s.1 j, fun j => if j = b then 0 else s.2 j) else s
def down (N : Nat) (W : Nat → Int) (s : St) : Nat → St
  | 0 => s
  | k + 1 => dstep W (down N W s k) (N - 1 - k)
def lo (h W : Nat → Int) : Nat → Nat → Nat
  | 0, v => v
  | k + 1, v => if h v < W v then v else lo h W k (v + 1)
def ustep (n : Nat) (W : Nat → Int) (s : St) (b : Nat) : St :=
  if s.2 b = 0 ∧ lo s.1 W n 0 < n then (fun j => if j = lo s.1 W n 0 then s.1 (lo s.1 W n 0) + 1 else s.1 j, fun j => if j = b then (lo s.1 W n 0 : Int) + 1 else s.2 j) else s
def up (n : Nat) (W : Nat → Int) (s : St) : Nat → St
  | 0 => s
  | k + 1 => ustep n W (up n W s k) k

theorem down_zero (N : Nat) (W : Nat → Int) (s : St) : down N W s 0 = s := rfl
theorem up_zero (n : Nat) (W : Nat → Int) (s : St) : up n W s 0 = s := rfl
theorem down_succ (N : Nat) (W : Nat → Int) (s : St) (k : Nat) : down N W s (k + 1) = dstep W (down N W s k) (N - 1 - k) := rfl
theorem up_succ (n : Nat) (W : Nat → Int) (s : St) (k : Nat) : up n W s (k + 1) = ustep n W (up n W s k) k := rfl
theorem lo_spec (h W : Nat → Int) : ∀ k v : Nat, v ≤ lo h W k v ∧ lo h W k v ≤ v + k ∧ (lo h W k v < v + k → h (lo h W k v) < W (lo h W k v)) ∧ ∀ u, v ≤ u → u < lo h W k v → ¬ h u < W u := by
  intro k
  induction k with
  | zero => intro v; exact ⟨Nat.le_refl _, Nat.le_refl _, fun h => absurd h (by simp [lo]), fun u h1 h2 => by simp only [lo] at h2; omega⟩
  | succ k ih =>
    intro v
    simp only [lo]
    by_cases hv : h v < W v
    · simp only [if_pos hv]
      exact ⟨Nat.le_refl _, by omega, fun _ => hv, fun u h1 h2 => absurd h2 (by omega)⟩
    · simp only [if_neg hv]
      obtain ⟨h1, h2, h3, h4⟩ := ih (v + 1)
      refine ⟨by omega, by omega, fun hl => h3 (by omega), fun u hu1 hu2 => ?_⟩
      by_cases e : u = v
      · subst e; exact hv
      · exact h4 u (by omega) hu2
theorem lo_is {h W : Nat → Int} {n m : Nat} (hm : m < n) (h1 : h m < W m) (h2 : ∀ u, u < m → ¬ h u < W u) : lo h W n 0 = m := by
  obtain ⟨_, a, b, c⟩ := lo_spec h W n 0
  rcases Nat.lt_trichotomy (lo h W n 0) m with hlt | heq | hgt
  · exact absurd (b (by omega)) (h2 _ hlt)
  · exact heq
  · exact absurd h1 (c m (Nat.zero_le _) hgt)

/-- what holds between the counts and the buckets -/
def RInv (N n : Nat) (s : St) : Prop := (∀ v, v < n → s.1 v = cnt s.2 ((v : Int) + 1) N) ∧ ∀ b, b < N → 0 ≤ s.2 b ∧ s.2 b ≤ n
theorem RInv.zeros {N n : Nat} {s : St} (h : RInv N n s) : isum s.1 n + cnt s.2 0 N = (N : Int) := by
  rw [isum_congr n h.1]
  exact cnt_total s.2 n N h.2
theorem lo_lt {N n : Nat} {W : Nat → Int} {s : St} (h : RInv N n s) (hW : isum W n = (N : Int)) (b : Nat) (hb : b < N) (h0 : s.2 b = 0) : lo s.1 W n 0 < n := by
  obtain ⟨_, ha, _, hc⟩ := lo_spec s.1 W n 0
  rcases Nat.lt_or_ge (lo s.1 W n 0) n with h1 | h1
  · exact h1
  · have h2 : isum W n ≤ isum s.1 n := isum_le n fun j hj => by have := hc j (Nat.zero_le _) (by omega); omega
    have h3 := h.zeros
    have h4 := cnt_pos (f := s.2) (v := 0) N b hb h0
    omega

structure DInv (N n : Nat) (W F : Nat → Int) (k : Nat) (s : St) : Prop where
  r : RInv N n s
  old : ∀ b, b < N - k → s.2 b = F b
  kept : ∀ b, b < N → s.2 b = F b ∨ s.2 b = 0
  gone : ∀ v, v < n → W v < s.1 v → ∀ b, N - k ≤ b → b < N → s.2 b ≠ (v : Int) + 1
  lost : ∀ b, b < N → s.2 b = 0 → W (F b - 1).toNat ≤ s.1 (F b - 1).toNat
  le : ∀ v, v < n → s.1 v ≤ cnt F ((v : Int) + 1) N ∧ (s.1 v = cnt F ((v : Int) + 1) N ∨ W v ≤ s.1 v)

theorem down_inv {N n : Nat} {W F H : Nat → Int} (hF : ∀ b, b < N → 1 ≤ F b ∧ F b ≤ n) (hH : ∀ v, v < n → H v = cnt F ((v : Int) + 1) N) : ∀ k : Nat, k ≤ N → DInv N n W F k (down N W (H, F) k) := by
  intro k
  induction k with
  | zero =>
    intro _
    exact ⟨⟨hH, fun b hb => ⟨by have := hF b hb; show 0 ≤ F b; omega, (hF b hb).2⟩⟩, fun b _ => rfl, fun b _ => .inl rfl, fun v _ _ b h1 h2 => absurd h2 (by omega), fun b hb h0 => absurd h0 (by have := hF b hb; show ¬ F b = 0; omega),
      fun v hv => ⟨Int.le_of_eq (hH v hv), .inl (hH v hv)⟩⟩
  | succ k ih =>
    intro hk
    have hs := ih (by omega)
    simp only [down]
    generalize down N W (H, F) k = s at hs
    obtain ⟨b, hb⟩ : ∃ b, b = N - 1 - k := ⟨_, rfl⟩
    rw [← hb]
    have hbl : b < N := by omega
    have hFb := hF b hbl
    have hsb : s.2 b = F b := hs.old b (by omega)
    obtain ⟨v, hv⟩ : ∃ v : Nat, F b = (v : Int) + 1 := ⟨(F b - 1).toNat, by omega⟩
    have hvn : v < n := by omega
    have hvt : (s.2 b - 1).toNat = v := by rw [hsb, hv]; omega
    unfold dstep
    rw [hvt]
    by_cases hc : W v < s.1 v
    · rw [if_pos hc]
      have hne : ∀ u : Nat, u < n → ∀ j, j = b → (¬ u = v → s.2 j ≠ (u : Int) + 1) := fun u _ j hj hu => by rw [hj, hsb, hv]; omega
      refine ⟨⟨fun u hu => ?_, fun j hj => ?_⟩, fun j hj => ?_, fun j hj => ?_, fun u hu hl j h1 h2 => ?_, fun j hj h0 => ?_, fun u hu => ?_⟩
      · show (if u = v then s.1 v - 1 else s.1 u) = cnt (fun j => if j = b then 0 else s.2 j) _ _
        rw [cnt_set, if_pos hbl, if_neg (c := (0 : Int) = (u : Int) + 1) (by omega)]
        by_cases e : u = v
        · subst e
          rw [if_pos rfl, if_pos (by rw [hsb, hv]), hs.r.1 u hu]; omega
        · rw [if_neg e, if_neg (hne u hu b rfl e), hs.r.1 u hu]; omega
      · show 0 ≤ (if j = b then 0 else s.2 j) ∧ (if j = b then 0 else s.2 j) ≤ (n : Int)
        have := hs.r.2 j hj
        split <;> omega
      · show (if j = b then 0 else s.2 j) = F j
        rw [if_neg (by omega)]
        exact hs.old j (by omega)
      · show (if j = b then 0 else s.2 j) = F j ∨ (if j = b then 0 else s.2 j) = 0
        by_cases e : j = b
        · rw [if_pos e]; exact .inr rfl
        · rw [if_neg e]; exact hs.kept j hj
      · have hl : W u < (if u = v then s.1 v - 1 else s.1 u) := hl
        show (if j = b then 0 else s.2 j) ≠ (u : Int) + 1
        by_cases e : j = b
        · rw [if_pos e]; omega
        · rw [if_neg e]
          refine hs.gone u hu ?_ j (by omega) h2
          by_cases e' : u = v
          · subst e'; exact hc
          · rwa [if_neg e'] at hl
      · have h0 : (if j = b then 0 else s.2 j) = 0 := h0
        show W (F j - 1).toNat ≤ (if (F j - 1).toNat = v then s.1 v - 1 else s.1 (F j - 1).toNat)
        by_cases e : (F j - 1).toNat = v
        · rw [if_pos e, e]; omega
        · rw [if_neg e]
          by_cases e' : j = b
          · subst e'; exact absurd (by rw [hv]; omega) e
          · rw [if_neg e'] at h0
            exact hs.lost j hj h0
      · show (if u = v then s.1 v - 1 else s.1 u) ≤ _ ∧ ((if u = v then s.1 v - 1 else s.1 u) = _ ∨ W u ≤ (if u = v then s.1 v - 1 else s.1 u))
        have := hs.le u hu
        by_cases e : u = v
        · subst e
          simp only [if_true]
          exact ⟨by omega, .inr (by omega)⟩
        · simp only [if_neg e]
          exact this
    · rw [if_neg hc]
      refine ⟨hs.r, fun j hj => hs.old j (by omega), hs.kept, fun u hu hl j h1 h2 => ?_, hs.lost, hs.le⟩
      by_cases e : j = b
      · rw [e, hsb, hv]
        intro e2
        have : u = v := by omega
        subst this
        exact hc hl
      · exact hs.gone u hu hl j (by omega) h2
theorem down_end {N n : Nat} {W F : Nat → Int} {s : St} (hs : DInv N n W F N s) (hW : ∀ v, v < n → 0 ≤ W v) : ∀ v, v < n → s.1 v ≤ W v := by
  intro v hv
  by_cases h : W v < s.1 v
  · have h1 := hs.gone v hv h
    have h2 : cnt s.2 ((v : Int) + 1) N = 0 := cnt_none N fun b hb => h1 b (by omega) hb
    have h3 := hs.r.1 v hv
    have h4 := hW v hv
    omega
  · omega

structure UInv (N n : Nat) (W D : Nat → Int) (H : Nat → Int) (k : Nat) (s : St) : Prop where
  r : RInv N n s
  le : ∀ v, v < n → s.1 v ≤ W v
  ge : ∀ v, H v ≤ s.1 v
  old : ∀ b, k ≤ b → s.2 b = D b
  kept : ∀ b, D b ≠ 0 → s.2 b = D b
  full : ∀ b, b < k → s.2 b ≠ 0
  new : ∀ b, b < k → D b = 0 → ∃ v : Nat, v < n ∧ s.2 b = (v : Int) + 1 ∧ H v < W v

theorem up_inv {N n : Nat} {W D H : Nat → Int} (hr : RInv N n (H, D)) (hle : ∀ v, v < n → H v ≤ W v) (hW : isum W n = (N : Int)) : ∀ k : Nat, k ≤ N → UInv N n W D H k (up n W (H, D) k) := by
  intro k
  induction k with
  | zero => intro _; exact ⟨hr, hle, fun v => Int.le_refl _, fun b _ => rfl, fun b _ => rfl, fun b h => absurd h (Nat.not_lt_zero _), fun b h => absurd h (Nat.not_lt_zero _)⟩
  | succ k ih =>
    intro hk
    have hs := ih (by omega)
    simp only [up]
    generalize up n W (H, D) k = s at hs
    unfold ustep
    have hsk := hs.old k (Nat.le_refl _)
    by_cases h0 : s.2 k = 0
    · have hlt := lo_lt hs.r hW k (by omega) h0
      obtain ⟨_, _, hl1, _⟩ := lo_spec s.1 W n 0
      have hl2 := hl1 (by omega)
      rw [if_pos ⟨h0, hlt⟩]
      generalize lo s.1 W n 0 = m at hlt hl2
      have hD0 : D k = 0 := by rw [← hsk]; exact h0
      refine ⟨⟨fun u hu => ?_, fun j hj => ?_⟩, fun u hu => ?_, fun u => ?_, fun b hb => ?_, fun b hb => ?_, fun b hb => ?_, fun b hb hb0 => ?_⟩
      · show (if u = m then s.1 m + 1 else s.1 u) = cnt (fun j => if j = k then (m : Int) + 1 else s.2 j) _ _
        rw [cnt_set, if_pos (c := k < N) (by omega), if_neg (c := s.2 k = (u : Int) + 1) (by omega)]
        by_cases e : u = m
        · subst e
          rw [if_pos rfl, if_pos rfl, hs.r.1 u hu]; omega
        · rw [if_neg e, if_neg (c := (m : Int) + 1 = (u : Int) + 1) (by omega), hs.r.1 u hu]; omega
      · show 0 ≤ (if j = k then (m : Int) + 1 else s.2 j) ∧ (if j = k then (m : Int) + 1 else s.2 j) ≤ (n : Int)
        have := hs.r.2 j hj
        split <;> omega
      · show (if u = m then s.1 m + 1 else s.1 u) ≤ W u
        by_cases e : u = m
        · subst e; rw [if_pos rfl]; omega
        · rw [if_neg e]; exact hs.le u hu
      · show H u ≤ (if u = m then s.1 m + 1 else s.1 u)
        have := hs.ge u
        by_cases e : u = m
        · subst e; rw [if_pos rfl]; omega
        · rw [if_neg e]; exact this
      · show (if b = k then (m : Int) + 1 else s.2 b) = D b
        rw [if_neg (by omega)]; exact hs.old b (by omega)
      · show (if b = k then (m : Int) + 1 else s.2 b) = D b
        rw [if_neg (fun e => hb (by rw [e]; exact hD0))]; exact hs.kept b hb
      · show (if b = k then (m : Int) + 1 else s.2 b) ≠ 0
        by_cases e : b = k
        · rw [if_pos e]; omega
        · rw [if_neg e]; exact hs.full b (by omega)
      · show ∃ v : Nat, v < n ∧ (if b = k then (m : Int) + 1 else s.2 b) = (v : Int) + 1 ∧ H v < W v
        by_cases e : b = k
        · exact ⟨m, hlt, by rw [if_pos e], by have := hs.ge m; omega⟩
        · rw [if_neg e]; exact hs.new b (by omega) hb0
    · rw [if_neg fun h => h0 h.1]
      refine ⟨hs.r, hs.le, hs.ge, fun b hb => hs.old b (by omega), hs.kept, fun b hb => ?_, fun b hb hb0 => ?_⟩
      · by_cases e : b = k
        · rw [e]; exact h0
        · exact hs.full b (by omega)
      · by_cases e : b = k
        · exact absurd hb0 (by rw [e, ← hsk]; exact h0)
        · exact hs.new b (by omega) hb0

/-- the buckets behind both passes -/
def rwF (N n : Nat) (W F : Nat → Int) : Nat → Int := (up n W (down N W (fun j => cnt F ((j : Int) + 1) N, F) N) N).2
theorem rwF_eq (N n : Nat) (W F : Nat → Int) : rwF N n W F = (up n W (down N W (fun j => cnt F ((j : Int) + 1) N, F) N) N).2 := rfl
theorem rw_facts {N n : Nat} {W F : Nat → Int} (hF : ∀ b, b < N → 1 ≤ F b ∧ F b ≤ n) (hW : ∀ v, v < n → 0 ≤ W v) (hs : isum W n = (N : Int)) :
    (∀ b, b < N → 1 ≤ rwF N n W F b ∧ rwF N n W F b ≤ n) ∧ (∀ v, v < n → cnt (rwF N n W F) ((v : Int) + 1) N = W v) ∧
    (∀ b, b < N → cnt F (F b) N ≤ W (F b - 1).toNat → rwF N n W F b = F b) ∧
    dif F (rwF N n W F) N = isum (fun j => max 0 (cnt F ((j : Int) + 1) N - W j)) n := by
  have hd := down_inv (W := W) (H := fun j => cnt F ((j : Int) + 1) N) hF (fun _ _ => rfl) N (Nat.le_refl _)
  have hde := down_end hd hW
  unfold rwF
  generalize down N W (fun j => cnt F ((j : Int) + 1) N, F) N = d at hd hde
  obtain ⟨H, D⟩ := d
  have hu := up_inv hd.r hde hs N (Nat.le_refl _)
  generalize up n W (H, D) N = u at hu
  have hz : cnt u.2 0 N = 0 := cnt_none N fun b hb => hu.full b hb
  have hsum := hu.r.zeros
  have heq : ∀ v, v < n → u.1 v = W v := by
    have h1 : ∀ m : Nat, m ≤ n → (∀ v, v < m → u.1 v = W v) ∨ isum u.1 m < isum W m := by
      intro m
      induction m with
      | zero => intro _; exact .inl fun v h => absurd h (Nat.not_lt_zero _)
      | succ m ih =>
        intro hm
        have := hu.le m (by omega)
        rcases ih (by omega) with h | h
        · by_cases e : u.1 m = W m
          · left
            intro v hv
            by_cases e' : v = m
            · subst e'; exact e
            · exact h v (by omega)
          · right
            have h3 := isum_congr m h
            simp only [isum, h3]; omega
        · right; simp only [isum]; omega
    rcases h1 n (Nat.le_refl _) with h | h
    · exact h
    · omega
  have hFn : cnt F 0 N = 0 := cnt_none N fun b hb e => by have := hF b hb; omega
  -- a bucket that was given up goes to another variation
  have hmv : ∀ b, b < N → (u.2 b = F b ↔ ¬ D b = 0) := by
    intro b hb
    have hFb := hF b hb
    constructor
    · intro e h0
      obtain ⟨v, hv, e2, h3⟩ := hu.new b hb h0
      have := hd.lost b hb h0
      rw [← e, e2] at this
      have hvt : ((v : Int) + 1 - 1).toNat = v := by omega
      rw [hvt] at this
      exact absurd h3 (Int.not_lt.2 this)
    · intro h0
      rcases hd.kept b hb with h | h
      · have h : D b = F b := h
        rw [hu.kept b (by rw [h]; omega), h]
      · exact absurd h h0
  refine ⟨fun b hb => ?_, fun v hv => ?_, fun b hb hc => ?_, ?_⟩
  · have h1 := hu.r.2 b hb
    have h2 := hu.full b hb
    omega
  · rw [← hu.r.1 v hv, heq v hv]
  · rw [hmv b hb]
    intro h0
    have hFb := hF b hb
    obtain ⟨v, hv⟩ : ∃ v : Nat, F b = (v : Int) + 1 := ⟨(F b - 1).toNat, by omega⟩
    have hvt : (F b - 1).toNat = v := by omega
    have h1 := hd.lost b hb h0
    have h2 := hd.le v (by omega)
    have h3 := hd.r.1 v (by omega)
    have h4 := hde v (by omega)
    rw [hvt] at h1 hc
    rw [hv] at hc
    -- all buckets of v are still there
    have h5 : H v = cnt F ((v : Int) + 1) N := by
      have h6 : H v ≤ cnt F ((v : Int) + 1) N := h2.1
      rcases h2.2 with h | h
      · exact h
      · have h : W v ≤ H v := h
        omega
    have h6 : ∀ k : Nat, k ≤ N → cnt D ((v : Int) + 1) k + (if b < k then 1 else 0) ≤ cnt F ((v : Int) + 1) k := by
      intro k
      induction k with
      | zero => intro _; simp [cnt]
      | succ k ih =>
        intro hk
        have := ih (by omega)
        simp only [cnt]
        rcases hd.kept k (by omega) with e | e
        · have e : D k = F k := e
          rw [e]
          have hne : k ≠ b := fun x => by subst x; rw [e] at h0; omega
          by_cases hbk : b < k
          · rw [if_pos hbk] at this; rw [if_pos (c := b < k + 1) (by omega)]; omega
          · rw [if_neg hbk] at this; rw [if_neg (c := b < k + 1) (by omega)]; omega
        · have e : D k = 0 := e
          rw [e, if_neg (c := (0 : Int) = _) (by omega)]
          by_cases hbk : b = k
          · subst hbk
            rw [if_neg (by omega)] at this
            rw [if_pos (c := b < b + 1) (by omega), if_pos hv]; omega
          · by_cases hbk2 : b < k
            · rw [if_pos hbk2] at this; rw [if_pos (c := b < k + 1) (by omega)]; split <;> omega
            · rw [if_neg hbk2] at this; rw [if_neg (c := b < k + 1) (by omega)]; split <;> omega
    have h7 := h6 N (Nat.le_refl _)
    rw [if_pos hb] at h7
    have h3' : H v = cnt D ((v : Int) + 1) N := h3
    omega
  · have h1 : ∀ k : Nat, k ≤ N → dif F u.2 k = cnt D 0 k := by
      intro k
      induction k with
      | zero => intro _; rfl
      | succ k ih =>
        intro hk
        simp only [dif, cnt, ih (by omega)]
        have := hmv k (by omega)
        by_cases e : D k = 0
        · rw [if_pos e, if_neg fun x => this.1 x.symm e]
        · rw [if_neg e, if_pos (this.2 e).symm]
    rw [h1 N (Nat.le_refl _)]
    have h2 := hd.r.zeros
    have h3 := cnt_total F n N fun b hb => by have := hF b hb; omega
    have h4 : isum (fun j => max 0 (cnt F ((j : Int) + 1) N - W j)) n = isum (fun j => cnt F ((j : Int) + 1) N - H j) n := isum_congr n fun j hj => by
      have h5 := hd.le j hj
      have h6 : H j ≤ W j := hde j hj
      have h7 : H j ≤ cnt F ((j : Int) + 1) N := h5.1
      have h8 : H j = cnt F ((j : Int) + 1) N ∨ W j ≤ H j := h5.2
      omega
    rw [h4, isum_sub]
    have h2' : isum H n + cnt D 0 N = (N : Int) := h2
    have h3' : isum (fun j => cnt F ((j : Int) + 1) N) n + cnt F 0 N = (N : Int) := h3
    omega
end Go.Proofs.YthnncehddnfjmaaDoor.Bk
