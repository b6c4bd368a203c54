/- Plain laws of roots for the join: the root is the least id of a component, the forest joins what the links join, and an id that no link has is its own root. No program in sight. -/
import Derived.Test.YtmnjmdajgilhiaaDoorIdp
import Derived.Test.YtmnjmdajgilhiaaDoorTs
set_option linter.unusedVariables false
set_option linter.unusedSimpArgs false
namespace Go.Proofs.YtmnjmdajgilhiaaDoor.Cl
open Go Go.Proofs.YtmnjmdajgilhiaaDoor.Vc Go.Proofs.YtmnjmdajgilhiaaDoor.Id

/-- a text as the model has it -/
abbrev ba (s : By) : ByteArray := ⟨s.toArray⟩
def ab (s : ByteArray) : By := s.data.toList
theorem ba_ab (s : ByteArray) : ba (ab s) = s := by cases s; rfl
theorem ab_ba (s : By) : ab (ba s) = s := rfl
theorem ba_inj {a b : By} (h : ba a = ba b) : a = b := by rw [← ab_ba a, h, ab_ba]
theorem sLt_ab (a b : ByteArray) : sLt a b = decide (ab a < ab b) := by
  have h : sLt (ba (ab a)) (ba (ab b)) = decide (ab a < ab b) := sLt_by (ab a) (ab b)
  rw [ba_ab, ba_ab] at h
  exact h
/-- not less than -/
def nlt (a b : ByteArray) : Prop := ¬ ab a < ab b
theorem smin_or (x y : ByteArray) (h : x ≠ y) : (smin x y = x ∧ smax x y = y ∧ ab x < ab y) ∨ (smin x y = y ∧ smax x y = x ∧ ab y < ab x) := by
  have he : sEq x y = false := by rw [sEq_dec]; simpa using h
  have hn : ab x ≠ ab y := fun e => h (by rw [← ba_ab x, e, ba_ab])
  unfold smin smax
  cases hl : sLt x y with
  | true =>
    rw [sLt_ab] at hl
    exact .inl ⟨by simp, by simp, by simpa using hl⟩
  | false =>
    rw [sLt_ab] at hl
    exact .inr ⟨by simp [he], by simp [he], tlt_tri (by simpa using hl) hn⟩
theorem nlt_tr {a b c : ByteArray} (h1 : nlt a b) (h2 : ab c < ab b) : nlt a c := fun h => h1 (tlt_tr h h2)
/-- the last link of a list, told apart -/
theorem snoc_ind {P : List Lk → Prop} (h0 : P []) (h1 : ∀ l k, P l → P (l ++ [k])) : ∀ l, P l := by
  have : ∀ n (l : List Lk), l.length = n → P l := by
    intro n
    induction n with
    | zero => intro l hl; rw [List.eq_nil_of_length_eq_zero hl]; exact h0
    | succ n ih =>
      intro l hl
      have hne : l ≠ [] := fun e => by simp [e] at hl
      rw [← List.dropLast_concat_getLast hne]
      exact h1 _ _ (ih _ (by simp [hl]))
  exact fun l => this _ l rfl
theorem rt_nil (x : ByteArray) : rt [] x = x := rfl
theorem rt_idem : ∀ (l : List Lk) (x : ByteArray), rt l (rt l x) = rt l x := by
  refine snoc_ind (fun x => rfl) fun l k ih x => ?_
  rw [rt_snoc]
  by_cases h : rt l k.a = rt l k.b
  · rw [jn_eq h]; exact ih x
  · rw [jn_ne h]
    have hm : rt l (smin (rt l k.a) (rt l k.b)) = smin (rt l k.a) (rt l k.b) ∧ smin (rt l k.a) (rt l k.b) ≠ smax (rt l k.a) (rt l k.b) := by
      rcases smin_or _ _ h with ⟨e1, e2, _⟩ | ⟨e1, e2, _⟩
      · rw [e1, e2]; exact ⟨ih _, h⟩
      · rw [e1, e2]; exact ⟨ih _, fun e => h e.symm⟩
    by_cases hx : rt l x = smax (rt l k.a) (rt l k.b)
    · simp only [if_pos hx, hm.1, if_neg hm.2]
    · simp only [if_neg hx, ih x, if_neg hx]
theorem con_rt (l : List Lk) (x : ByteArray) : con l x (rt l x) := (rt_idem l x).symm
/-- the root is the least of those that belong together -/
theorem rt_least : ∀ (l : List Lk) (x y : ByteArray), con l x y → nlt y (rt l x) := by
  refine snoc_ind (fun x y h => ?_) fun l k ih x y h => ?_
  · rw [con_nil] at h; subst h; exact fun h => tlt_irr _ h
  · unfold con at h
    rw [rt_snoc] at h ⊢
    by_cases hk : rt l k.a = rt l k.b
    · rw [jn_eq hk] at h ⊢; exact ih x y h
    · rw [jn_ne hk] at h ⊢
      have hlt : ab (smin (rt l k.a) (rt l k.b)) < ab (smax (rt l k.a) (rt l k.b)) := by
        rcases smin_or _ _ hk with ⟨e1, e2, e3⟩ | ⟨e1, e2, e3⟩ <;> rw [e1, e2] <;> exact e3
      have hmin : ∀ z, rt l z = smax (rt l k.a) (rt l k.b) → nlt z (smin (rt l k.a) (rt l k.b)) := fun z hz => by
        have := ih z z rfl
        rw [hz] at this
        exact nlt_tr this hlt
      simp only at h ⊢
      by_cases hx : rt l x = smax (rt l k.a) (rt l k.b)
      · rw [if_pos hx] at h ⊢
        by_cases hy : rt l y = smax (rt l k.a) (rt l k.b)
        · exact hmin y hy
        · rw [if_neg hy] at h
          have := ih y y rfl
          rwa [← h] at this
      · rw [if_neg hx] at h ⊢
        by_cases hy : rt l y = smax (rt l k.a) (rt l k.b)
        · rw [if_pos hy] at h
          rw [h]; exact hmin y hy
        · rw [if_neg hy] at h
          exact ih x y h
/-- the ids of a list of links -/
def idsL (l : List Lk) : List ByteArray := l.flatMap fun k => [k.a, k.b]
theorem idsL_mem (l : List Lk) (x : ByteArray) : x ∈ idsL l ↔ ∃ k ∈ l, x = k.a ∨ x = k.b := by unfold idsL; simp
theorem con_own {l : List Lk} {x y : ByteArray} (hx : x ∉ idsL l) (h : con l x y) : y = x := by
  have := con_closed (fun z => z = x) l.length l rfl (fun k hk => ?_) x y h
  · exact this.1 rfl
  · have h1 : k.a ≠ x := fun e => hx ((idsL_mem l x).2 ⟨k, hk, .inl e.symm⟩)
    have h2 : k.b ≠ x := fun e => hx ((idsL_mem l x).2 ⟨k, hk, .inr e.symm⟩)
    exact ⟨fun e => absurd e h1, fun e => absurd e h2⟩
theorem rt_own {l : List Lk} {x : ByteArray} (hx : x ∉ idsL l) : rt l x = x := con_own hx (con_rt l x)
theorem rt_in {l : List Lk} {x : ByteArray} (hx : x ∈ idsL l) : rt l x ∈ idsL l := by
  by_cases h : rt l x ∈ idsL l
  · exact h
  · have : x = rt l x := con_own h (con_rt l x).symm
    rw [this] at hx
    exact absurd hx h
/-- the links whose ids do not belong together by the links before them -/
def frs (l : List Lk) : List Lk := l.foldl (fun o k => if rt o k.a = rt o k.b then o else o ++ [k]) []
theorem frs_snoc (l : List Lk) (k : Lk) : frs (l ++ [k]) = if rt (frs l) k.a = rt (frs l) k.b then frs l else frs l ++ [k] := by unfold frs; rw [List.foldl_append]; rfl
theorem frs_rt : ∀ l : List Lk, rt (frs l) = rt l := by
  refine snoc_ind rfl fun l k ih => ?_
  rw [frs_snoc, rt_snoc]
  split
  · rename_i h
    rw [ih] at h ⊢
    rw [jn_eq h]
  · rw [rt_snoc, ih]
theorem frs_len : ∀ l : List Lk, (frs l).length ≤ l.length := by
  refine snoc_ind (Nat.le_refl _) fun l k ih => ?_
  rw [frs_snoc]
  split
  · simp; omega
  · simp; omega
end Go.Proofs.YtmnjmdajgilhiaaDoor.Cl
