/- Plain laws of splits: what FromWeights' ranges weigh, what the ranges of all buckets are, and that distance is one. No program in sight. -/
import Derived.Test.YthnncehddnfjmaaDoorBk8
namespace Go.Proofs.YthnncehddnfjmaaDoor.Bk

def cov (l : List Rng) (b : Int) : Prop := ∃ r ∈ l, r.f ≤ b ∧ b < r.t
theorem pt_app1 : ∀ (l m : List Rng) (b : Int), cov l b → pt (l ++ m) b = pt l b := by
  intro l m b
  induction l with
  | nil => rintro ⟨r, hr, _⟩; simp at hr
  | cons a l ih =>
    rintro ⟨r, hr, h⟩
    simp only [List.cons_append, pt]
    by_cases ha : a.f ≤ b ∧ b < a.t
    · rw [if_pos ha, if_pos ha]
    · rw [if_neg ha, if_neg ha]
      refine ih ⟨r, ?_, h⟩
      rcases List.mem_cons.1 hr with rfl | h'
      · exact absurd h ha
      · exact h'
theorem pt_app2 : ∀ (l m : List Rng) (b : Int), ¬ cov l b → pt (l ++ m) b = pt m b := by
  intro l m b
  induction l with
  | nil => intro _; rfl
  | cons a l ih =>
    intro h
    simp only [List.cons_append, pt]
    rw [if_neg fun x => h ⟨a, by simp, x⟩]
    exact ih fun ⟨r, hr, x⟩ => h ⟨r, by simp [hr], x⟩
theorem cov_app (l m : List Rng) (b : Int) : cov (l ++ m) b ↔ cov l b ∨ cov m b := by
  constructor
  · rintro ⟨r, hr, h⟩
    rcases List.mem_append.1 hr with h' | h'
    · exact .inl ⟨r, h', h⟩
    · exact .inr ⟨r, h', h⟩
  · rintro (⟨r, hr, h⟩ | ⟨r, hr, h⟩)
    · exact ⟨r, by simp [hr], h⟩
    · exact ⟨r, by simp [hr], h⟩
theorem cov_one (r : Rng) (b : Int) : cov [r] b ↔ r.f ≤ b ∧ b < r.t := by simp [cov]

/-! the ranges of weights -/
theorem fw_pt (W : Nat → Int) : ∀ k : Nat, (∀ j, j < k → 0 ≤ W j) → ∀ b : Int, 0 ≤ b →
    (b < isum W k → cov (fw W k) b ∧ ∃ v : Nat, v < k ∧ pt (fw W k) b = (v : Int) + 1 ∧ isum W v ≤ b ∧ b < isum W (v + 1)) ∧ (isum W k ≤ b → ¬ cov (fw W k) b) := by
  intro k
  induction k with
  | zero => intro _ b hb; exact ⟨fun h => absurd h (by simp [isum]; omega), fun _ ⟨r, hr, _⟩ => by simp [fw] at hr⟩
  | succ k ih =>
    intro hp b hb
    obtain ⟨h1, h2⟩ := ih (fun j hj => hp j (by omega)) b hb
    have hk := hp k (by omega)
    simp only [fw, isum]
    by_cases hlt : b < isum W k
    · obtain ⟨c, v, hv, e, hv1, hv2⟩ := h1 hlt
      exact ⟨fun _ => ⟨(cov_app _ _ _).2 (.inl c), v, by omega, by rw [pt_app1 _ _ _ c]; exact e, hv1, hv2⟩, fun h => by omega⟩
    · have hn := h2 (by omega)
      by_cases hw : W k > 0
      · rw [if_pos hw]
        by_cases hb2 : b < isum W k + W k
        · exact ⟨fun _ => ⟨(cov_app _ _ _).2 (.inr ((cov_one _ _).2 ⟨by simp only; omega, hb2⟩)), k, by omega, by rw [pt_app2 _ _ _ hn]; simp only [pt]; rw [if_pos ⟨by omega, hb2⟩], by omega, hb2⟩, fun h => by omega⟩
        · exact ⟨fun h => absurd h hb2, fun _ c => by
            rcases (cov_app _ _ _).1 c with c | c
            · exact hn c
            · exact hb2 ((cov_one _ _).1 c).2⟩
      · rw [if_neg hw, List.append_nil]
        exact ⟨fun h => by omega, fun _ => hn⟩
theorem cnt_iv {f : Nat → Int} {x A B : Int} : ∀ k : Nat, (∀ b : Nat, b < k → (f b = x ↔ A ≤ b ∧ (b : Int) < B)) → 0 ≤ A → A ≤ B → cnt f x k = min (k : Int) B - min (k : Int) A := by
  intro k
  induction k with
  | zero => intro _ h1 h2; simp only [cnt]; omega
  | succ k ih =>
    intro h h1 h2
    simp only [cnt, ih (fun b hb => h b (by omega)) h1 h2]
    have := h k (by omega)
    by_cases e : f k = x
    · rw [if_pos e]; have := this.1 e; omega
    · rw [if_neg e]
      have h3 : ¬ (A ≤ (k : Int) ∧ (k : Int) < B) := fun x => e (this.2 x)
      omega
theorem fw_cnt {n : Nat} {W : Nat → Int} (hp : ∀ j, j < n → 0 ≤ W j) (hs : isum W n = 10000) (v : Nat) (hv : v < n) : cnt (fun b : Nat => pt (fw W n) b) ((v : Int) + 1) 10000 = W v := by
  have hA := isum_mono hp 0 v (by omega) (by omega)
  have hB := isum_mono hp (v + 1) n (by omega) (by omega)
  have hAB := isum_mono hp v (v + 1) (by omega) (by omega)
  have h0 : isum W 0 = 0 := rfl
  have h1 : isum W (v + 1) = isum W v + W v := rfl
  have := cnt_iv (f := fun b : Nat => pt (fw W n) b) (x := (v : Int) + 1) (A := isum W v) (B := isum W (v + 1)) 10000 (fun b hb => ?_) (by omega) hAB
  · rw [this]
    have : ((10000 : Nat) : Int) = 10000 := rfl
    omega
  · obtain ⟨u, hu, e, h2, h3⟩ := ((fw_pt W n hp b (by omega)).1 (by omega)).2
    show pt (fw W n) b = _ ↔ _
    rw [e]
    constructor
    · intro e2
      have : u = v := by omega
      subst this
      exact ⟨h2, h3⟩
    · rintro ⟨h4, h5⟩
      rcases Nat.lt_trichotomy u v with h | h | h
      · have := isum_mono hp (u + 1) v (by omega) (by omega); omega
      · rw [h]
      · have := isum_mono hp (v + 1) u (by omega) (by omega); omega

/-! the ranges of all buckets -/
inductive Tiles (U : Nat → Int) : Nat → List Rng → Prop
  | nil : Tiles U 0 []
  | cons {a k : Nat} {v : Int} {l : List Rng} (h : Tiles U a l) (hak : a < k) (hu : ∀ b, a ≤ b → b < k → U b = v) : Tiles U k (⟨a, k, v⟩ :: l)
theorem rgr_tiles (U : Nat → Int) : ∀ k : Nat, Tiles U k (rgr U k) := by
  intro k
  induction k with
  | zero => exact .nil
  | succ k ih =>
    simp only [rgr]
    generalize hg : rgr U k = g at ih
    have e1 : (k : Int) + 1 = ((k + 1 : Nat) : Int) := by omega
    cases ih with
    | nil => rw [e1]; exact .cons .nil (by omega) fun b h1 h2 => by rw [show b = 0 by omega]
    | cons h hak hu =>
      simp only
      split
      · rename_i e
        rw [e1]
        refine .cons h (by omega) fun b h1 h2 => ?_
        by_cases hb : b = k
        · rw [hb]; exact e.symm
        · exact hu b h1 (by omega)
      · rw [e1]
        exact .cons (.cons h hak hu) (by omega) fun b h1 h2 => by rw [show b = k by omega]
theorem tiles_pt {U : Nat → Int} {k : Nat} {l : List Rng} (h : Tiles U k l) : ∀ b : Nat, (b < k → cov l.reverse b ∧ pt l.reverse b = U b) ∧ (k ≤ b → ¬ cov l.reverse b) := by
  induction h with
  | nil => intro b; exact ⟨fun h => absurd h (Nat.not_lt_zero _), fun _ ⟨r, hr, _⟩ => by simp at hr⟩
  | cons h hak hu ih =>
    rename_i a k v l
    intro b
    obtain ⟨h1, h2⟩ := ih b
    rw [List.reverse_cons]
    by_cases hb : b < a
    · obtain ⟨c, e⟩ := h1 hb
      exact ⟨fun _ => ⟨(cov_app _ _ _).2 (.inl c), by rw [pt_app1 _ _ _ c]; exact e⟩, fun h => by omega⟩
    · have hn := h2 (by omega)
      refine ⟨fun hbk => ⟨(cov_app _ _ _).2 (.inr ((cov_one _ _).2 ⟨by simp only; omega, by simp only; omega⟩)), ?_⟩, fun hkb c => ?_⟩
      · rw [pt_app2 _ _ _ hn]
        simp only [pt]
        rw [if_pos ⟨by omega, by omega⟩]
        exact (hu b (by omega) hbk).symm
      · rcases (cov_app _ _ _).1 c with c | c
        · exact hn c
        · have := ((cov_one _ _).1 c).2
          simp only at this
          omega
theorem rg_pt (U : Nat → Int) (k b : Nat) (hb : b < k) : pt (rg U k) b = U b := ((tiles_pt (rgr_tiles U k) b).1 hb).2

/-! distance -/
theorem dif_congr {f g f' g' : Nat → Int} : ∀ k : Nat, (∀ b, b < k → f b = f' b) → (∀ b, b < k → g b = g' b) → dif f g k = dif f' g' k := by
  intro k
  induction k with
  | zero => intro _ _; rfl
  | succ k ih => intro h h'; simp only [dif, ih (fun b hb => h b (by omega)) (fun b hb => h' b (by omega)), h k (by omega), h' k (by omega)]
theorem dif_symm (f g : Nat → Int) (k : Nat) : dif f g k = dif g f k := by
  induction k with
  | zero => rfl
  | succ k ih =>
    simp only [dif, ih]
    by_cases h : f k = g k
    · rw [if_pos h, if_pos h.symm]
    · rw [if_neg h, if_neg fun x => h x.symm]
theorem dif_self (f : Nat → Int) (k : Nat) : dif f f k = 0 := by
  induction k with
  | zero => rfl
  | succ k ih => simp only [dif, ih]; rfl
theorem dif_tri (f g h : Nat → Int) (k : Nat) : dif f h k ≤ dif f g k + dif g h k := by
  induction k with
  | zero => simp [dif]
  | succ k ih =>
    simp only [dif]
    by_cases h1 : f k = g k
    · by_cases h2 : g k = h k
      · rw [if_pos h1, if_pos h2, if_pos (h1.trans h2)]; omega
      · rw [if_pos h1, if_neg h2, if_neg fun x => h2 (h1 ▸ x)]; omega
    · rw [if_neg h1]
      split <;> split <;> omega
/-- the buckets of one variation that differ -/
def ecnt (f g : Nat → Int) (v : Int) : Nat → Int
  | 0 => 0
  | k + 1 => ecnt f g v k + if f k = v ∧ f k ≠ g k then 1 else 0
theorem ecnt_ge (f g : Nat → Int) (v : Int) (k : Nat) : max 0 (cnt f v k - cnt g v k) ≤ ecnt f g v k := by
  have h : 0 ≤ ecnt f g v k ∧ cnt f v k - cnt g v k ≤ ecnt f g v k := by
    induction k with
    | zero => simp [ecnt, cnt]
    | succ k ih =>
      simp only [ecnt, cnt]
      have a : (if f k = v then (1 : Int) else 0) ≤ (if g k = v then 1 else 0) + (if f k = v ∧ f k ≠ g k then 1 else 0) ∧ (0 : Int) ≤ (if f k = v ∧ f k ≠ g k then 1 else 0) := by
        by_cases h1 : f k = v
        · by_cases h2 : g k = v
          · rw [if_pos h1, if_pos h2]; split <;> omega
          · rw [if_pos h1, if_neg h2, if_pos (c := f k = v ∧ f k ≠ g k) ⟨h1, fun x => h2 (x ▸ h1)⟩]; omega
        · rw [if_neg h1, if_neg (c := f k = v ∧ f k ≠ g k) fun x => h1 x.1]; split <;> omega
      omega
  omega
theorem ecnt_sum {f g : Nat → Int} {n : Nat} : ∀ k : Nat, (∀ b, b < k → 1 ≤ f b ∧ f b ≤ n) → isum (fun j => ecnt f g ((j : Int) + 1) k) n = dif f g k := by
  intro k
  induction k with
  | zero => intro _; simp only [ecnt, dif]; exact isum_zero n
  | succ k ih =>
    intro h
    have e : isum (fun j => ecnt f g ((j : Int) + 1) (k + 1)) n = isum (fun j => ecnt f g ((j : Int) + 1) k) n + isum (fun j : Nat => if f k = (j : Int) + 1 ∧ f k ≠ g k then 1 else 0) n := by rw [← isum_add]; rfl
    rw [e, ih fun b hb => h b (by omega)]
    simp only [dif]
    by_cases h1 : f k = g k
    · rw [if_pos h1, isum_congr (g := fun _ => 0) n fun j _ => if_neg fun x => x.2 h1, isum_zero]
    · rw [if_neg h1, isum_congr (g := fun j : Nat => if f k = (j : Int) + 1 then 1 else 0) n fun j _ => ?_, isum_one, if_pos (h k (by omega))]
      by_cases h2 : f k = (j : Int) + 1
      · rw [if_pos ⟨h2, h1⟩, if_pos h2]
      · rw [if_neg fun x => h2 x.1, if_neg h2]
theorem surplus_le {f g : Nat → Int} {n k : Nat} (h : ∀ b, b < k → 1 ≤ f b ∧ f b ≤ n) : isum (fun j => max 0 (cnt f ((j : Int) + 1) k - cnt g ((j : Int) + 1) k)) n ≤ dif f g k := by
  rw [← ecnt_sum (g := g) k h]
  exact isum_le n fun j _ => ecnt_ge f g _ k

/-! Reweigh of splits -/
theorem rw_split {n : Nat} {W : Nat → Int} {ls : List Rng} (h0 : split n ls = 0) (h1 : chk n W = 0) : rwE n W ls = 0 ∧ rwL n W ls = rwOut n W ls ∨ rwE n W ls = 19 ∧ rwL n W ls = [] := by
  by_cases h : (rwOut n W ls).length > 16
  · exact .inr (rw_3 h0 h1 h)
  · exact .inl (rw_4 h0 h1 h)
/-- what a changed split is, bucket by bucket -/
theorem rw_moved {n : Nat} {W : Nat → Int} {ls : List Rng} (h0 : split n ls = 0) (h1 : chk n W = 0) :
    dif (fun b : Nat => pt ls b) (fun b : Nat => pt (rwOut n W ls) b) 10000 = isum (fun j => max 0 (cnt (fun b : Nat => pt ls b) ((j : Int) + 1) 10000 - W j)) n ∧
    ∀ b : Nat, b < 10000 → cnt (fun b : Nat => pt ls b) (pt ls b) 10000 ≤ W (pt ls b - 1).toNat → pt (rwOut n W ls) b = pt ls b := by
  obtain ⟨_, hp, hs⟩ := chk_zero h1
  obtain ⟨_, _, h3, h4⟩ := rw_facts (N := 10000) (n := n) (W := W) (F := fun b : Nat => pt ls b) (split_pt h0) hp hs
  have hpt : ∀ b : Nat, b < 10000 → pt (rwOut n W ls) b = rwF 10000 n W (fun b : Nat => pt ls b) b := fun b hb => by rw [rwOut_eq]; exact rg_pt _ _ _ hb
  refine ⟨?_, fun b hb hc => ?_⟩
  · rw [← h4]
    exact dif_congr 10000 (fun _ _ => rfl) hpt
  · rw [hpt b hb]
    exact h3 b hb hc
/-- the counts of a split are weights -/
theorem split_chk {n : Nat} {ls : List Rng} (h0 : split n ls = 0) (hn : n ≤ 8) : chk n (fun j => cnt (fun b : Nat => pt ls b) ((j : Int) + 1) 10000) = 0 := by
  refine chk_ok (by omega) (fun j _ => (cnt_le _ _ _).1) ?_
  have hF := split_pt h0
  have h1 := cnt_total (fun b : Nat => pt ls b) n 10000 fun b hb => by have := hF b hb; omega
  have h2 : cnt (fun b : Nat => pt ls b) 0 10000 = 0 := cnt_none 10000 fun b hb e => by have := hF b hb; omega
  rw [h2] at h1
  have : ((10000 : Nat) : Int) = 10000 := rfl
  omega
end Go.Proofs.YthnncehddnfjmaaDoor.Bk
