/- Plain laws of ids that belong together: the root of a component, link by link. No program in sight. -/
import Derived.Test.YtmnjmdajgilhiaaDoorVc3
import Derived.MapKept
import Derived.Laws.Strings
set_option linter.unusedVariables false
set_option linter.unusedSimpArgs false
namespace Go.Proofs.YtmnjmdajgilhiaaDoor.Id
open Go Go.Proofs.YtmnjmdajgilhiaaDoor.Vc

theorem sEq_iff (a b : ByteArray) : sEq a b = true ↔ a = b := by
  unfold sEq
  rw [← MapKept.bytes_beq a b]
  have : (a == b) = (a.toList == b.toList) := by
    rw [Go.ByteArray.toList_eq, Go.ByteArray.toList_eq]
    obtain ⟨⟨x⟩⟩ := a
    obtain ⟨⟨y⟩⟩ := b
    show ((⟨x⟩ : Array UInt8) == ⟨y⟩) = (x == y)
    simp
  rw [this]
theorem sEq_dec (a b : ByteArray) : sEq a b = decide (a = b) := by
  rw [Bool.eq_iff_iff, sEq_iff]; simp
theorem sminmax (x y : ByteArray) (h : x ≠ y) : (smax x y = y ∧ smin x y = x) ∨ (smax x y = x ∧ smin x y = y) := by
  have he : sEq x y = false := by rw [sEq_dec]; simpa using h
  unfold smax smin
  cases hl : sLt x y with
  | true => left; simp
  | false => right; simp [he]

structure Lk where
  a : ByteArray
  b : ByteArray
  t : Int
  deriving DecidableEq
/-- one more link -/
def jn (f : ByteArray → ByteArray) (x y : ByteArray) : ByteArray → ByteArray :=
  if f x = f y then f else fun z => if f z = smax (f x) (f y) then smin (f x) (f y) else f z
/-- the root of an id by these links, from the first one on -/
def rtF (f : ByteArray → ByteArray) : List Lk → ByteArray → ByteArray
  | [] => f
  | k :: l => rtF (jn f k.a k.b) l
def rt (l : List Lk) : ByteArray → ByteArray := rtF (fun z => z) l
theorem rtF_append (l m : List Lk) : ∀ f : ByteArray → ByteArray, rtF f (l ++ m) = rtF (rtF f l) m := by
  induction l with
  | nil => intro f; rfl
  | cons k l ih => intro f; simp only [List.cons_append, rtF, ih]
theorem rt_snoc (l : List Lk) (k : Lk) : rt (l ++ [k]) = jn (rt l) k.a k.b := by unfold rt; rw [rtF_append]; rfl
theorem jn_eq {f : ByteArray → ByteArray} {x y : ByteArray} (h : f x = f y) : jn f x y = f := if_pos h
theorem jn_ne {f : ByteArray → ByteArray} {x y : ByteArray} (h : f x ≠ f y) : jn f x y = fun z => if f z = smax (f x) (f y) then smin (f x) (f y) else f z := if_neg h
/-- what is together stays so, and the new link joins its ids; nothing else is joined -/
theorem jn_iff {f : ByteArray → ByteArray} {x y : ByteArray} (u v : ByteArray) : jn f x y u = jn f x y v ↔ f u = f v ∨ (f u = f x ∧ f v = f y) ∨ (f u = f y ∧ f v = f x) := by
  by_cases h : f x = f y
  · rw [jn_eq h]
    constructor
    · exact .inl
    · rintro (h1 | ⟨h1, h2⟩ | ⟨h1, h2⟩)
      · exact h1
      · rw [h1, h2, h]
      · rw [h1, h2, h]
  · rw [jn_ne h]
    simp only
    rcases sminmax (f x) (f y) h with ⟨e1, e2⟩ | ⟨e1, e2⟩
    · rw [e1, e2]
      by_cases hu : f u = f y
      · rw [if_pos hu]
        by_cases hv : f v = f y
        · rw [if_pos hv]; simp [hu, hv]
        · rw [if_neg hv]
          constructor
          · intro e; exact .inr (.inr ⟨hu, e.symm⟩)
          · rintro (h1 | ⟨h1, h2⟩ | ⟨h1, h2⟩)
            · exact absurd (h1.symm.trans hu) hv
            · exact absurd h2 hv
            · exact h2.symm
      · rw [if_neg hu]
        by_cases hv : f v = f y
        · rw [if_pos hv]
          constructor
          · intro e; exact .inr (.inl ⟨e, hv⟩)
          · rintro (h1 | ⟨h1, h2⟩ | ⟨h1, h2⟩)
            · exact absurd (h1.trans hv) hu
            · exact h1
            · exact absurd h1 hu
        · rw [if_neg hv]
          constructor
          · exact .inl
          · rintro (h1 | ⟨h1, h2⟩ | ⟨h1, h2⟩)
            · exact h1
            · exact absurd h2 hv
            · exact absurd h1 hu
    · rw [e1, e2]
      by_cases hu : f u = f x
      · rw [if_pos hu]
        by_cases hv : f v = f x
        · rw [if_pos hv]; simp [hu, hv]
        · rw [if_neg hv]
          constructor
          · intro e; exact .inr (.inl ⟨hu, e.symm⟩)
          · rintro (h1 | ⟨h1, h2⟩ | ⟨h1, h2⟩)
            · exact absurd (h1.symm.trans hu) hv
            · exact h2.symm
            · exact absurd h2 hv
      · rw [if_neg hu]
        by_cases hv : f v = f x
        · rw [if_pos hv]
          constructor
          · intro e; exact .inr (.inr ⟨e, hv⟩)
          · rintro (h1 | ⟨h1, h2⟩ | ⟨h1, h2⟩)
            · exact absurd (h1.trans hv) hu
            · exact absurd h1 hu
            · exact h1
        · rw [if_neg hv]
          constructor
          · exact .inl
          · rintro (h1 | ⟨h1, h2⟩ | ⟨h1, h2⟩)
            · exact h1
            · exact absurd h1 hu
            · exact absurd h2 hv
/-- belonging together by links -/
def con (l : List Lk) (u v : ByteArray) : Prop := rt l u = rt l v
theorem con_snoc (l : List Lk) (k : Lk) (u v : ByteArray) : con (l ++ [k]) u v ↔ con l u v ∨ (con l u k.a ∧ con l v k.b) ∨ (con l u k.b ∧ con l v k.a) := by
  unfold con; rw [rt_snoc]; exact jn_iff u v
theorem con_nil (u v : ByteArray) : con [] u v ↔ u = v := Iff.rfl
/-- a set that no link leaves holds the whole component -/
theorem con_closed (S : ByteArray → Prop) : ∀ (n : Nat) (l : List Lk), l.length = n → (∀ k ∈ l, S k.a ↔ S k.b) → ∀ u v, con l u v → (S u ↔ S v) := by
  intro n
  induction n with
  | zero => intro l hl _ u v h; have : l = [] := List.eq_nil_of_length_eq_zero hl; subst this; rw [(con_nil u v).1 h]
  | succ n ih =>
    intro l hl hS u v h
    have hne : l ≠ [] := fun e => by simp [e] at hl
    obtain ⟨m, k, rfl⟩ : ∃ m k, l = m ++ [k] := ⟨l.dropLast, l.getLast hne, (List.dropLast_concat_getLast hne).symm⟩
    have ih' := ih m (by simpa using hl) fun k' hk => hS k' (by simp [hk])
    have hk := hS k (by simp)
    rcases (con_snoc m k u v).1 h with h | ⟨h1, h2⟩ | ⟨h1, h2⟩
    · exact ih' u v h
    · rw [ih' u k.a h1, ih' v k.b h2]; exact hk
    · rw [ih' u k.b h1, ih' v k.a h2]; exact hk.symm
theorem con_link : ∀ (n : Nat) (l : List Lk), l.length = n → ∀ k ∈ l, con l k.a k.b := by
  intro n
  induction n with
  | zero => intro l hl k hk; have : l = [] := List.eq_nil_of_length_eq_zero hl; subst this; simp at hk
  | succ n ih =>
    intro l hl k hk
    have hne : l ≠ [] := fun e => by simp [e] at hl
    obtain ⟨m, k', rfl⟩ : ∃ m k, l = m ++ [k] := ⟨l.dropLast, l.getLast hne, (List.dropLast_concat_getLast hne).symm⟩
    rw [con_snoc]
    rcases List.mem_append.1 hk with h | h
    · exact .inl (ih m (by simpa using hl) k h)
    · have : k = k' := by simpa using h
      subst this
      exact .inr (.inl ⟨rfl, rfl⟩)
/-- more links join more -/
theorem con_mono (l m : List Lk) {u v : ByteArray} (h : con l u v) : con (l ++ m) u v := by
  induction m generalizing l with
  | nil => rwa [List.append_nil]
  | cons k m ih =>
    have : l ++ k :: m = (l ++ [k]) ++ m := by simp
    rw [this]
    exact ih _ ((con_snoc l k u v).2 (.inl h))

/-! the forest that leads to the roots -/
structure Fo (F : ByteArray → Option ByteArray) (R : ByteArray → ByteArray) (d : ByteArray → Nat) : Prop where
  top : ∀ k, F k = none → R k = k
  step : ∀ k k', F k = some k' → R k' = R k ∧ d k' < d k
theorem Fo.nil : Fo (fun _ => none) (fun z => z) (fun _ => 0) := ⟨fun _ _ => rfl, fun k k' h => by cases h⟩
theorem Fo.root {F : ByteArray → Option ByteArray} {R : ByteArray → ByteArray} {d : ByteArray → Nat} (h : Fo F R d) : ∀ (n : Nat) (k : ByteArray), d k = n → F (R k) = none := by
  intro n
  induction n using Nat.strongRecOn with
  | _ n ih =>
    intro k hk
    cases hF : F k with
    | none => rw [h.top k hF]; exact hF
    | some k' =>
      obtain ⟨h1, h2⟩ := h.step k k' hF
      rw [← h1]
      exact ih (d k') (by omega) k' rfl
theorem Fo.rr {F : ByteArray → Option ByteArray} {R : ByteArray → ByteArray} {d : ByteArray → Nat} (h : Fo F R d) (k : ByteArray) : R (R k) = R k := h.top _ (h.root _ k rfl)
theorem Fo.join {F : ByteArray → Option ByteArray} {R : ByteArray → ByteArray} {d : ByteArray → Nat} (h : Fo F R d) {x y : ByteArray} (hne : R x ≠ R y) :
    Fo (fun k => if k = smax (R x) (R y) then some (smin (R x) (R y)) else F k) (jn R x y) (fun k => if R k = smax (R x) (R y) then d k + d (smin (R x) (R y)) + 1 else d k) := by
  rw [jn_ne hne]
  obtain ⟨m, hm⟩ : ∃ m, m = smax (R x) (R y) := ⟨_, rfl⟩
  obtain ⟨n, hn⟩ : ∃ n, n = smin (R x) (R y) := ⟨_, rfl⟩
  rw [← hm, ← hn]
  have hmn : m ≠ n ∧ R m = m ∧ R n = n := by
    rcases sminmax (R x) (R y) hne with ⟨e1, e2⟩ | ⟨e1, e2⟩
    · rw [hm, hn, e1, e2]; exact ⟨fun e => hne e.symm, h.rr y, h.rr x⟩
    · rw [hm, hn, e1, e2]; exact ⟨hne, h.rr x, h.rr y⟩
  obtain ⟨h1, h2, h3⟩ := hmn
  refine ⟨fun k hk => ?_, fun k k' hk => ?_⟩
  · by_cases e : k = m
    · rw [if_pos e] at hk; cases hk
    · rw [if_neg e] at hk
      have := h.top k hk
      show (if R k = m then n else R k) = k
      rw [this, if_neg e]
  · show (if R k' = m then n else R k') = (if R k = m then n else R k) ∧ (if R k' = m then d k' + d n + 1 else d k') < (if R k = m then d k + d n + 1 else d k)
    by_cases e : k = m
    · rw [if_pos e] at hk
      injection hk with hk
      subst hk; subst e
      rw [h2, h3, if_pos rfl, if_pos rfl, if_neg fun x => h1 x.symm, if_neg fun x => h1 x.symm]
      exact ⟨rfl, by omega⟩
    · rw [if_neg e] at hk
      obtain ⟨a, b⟩ := h.step k k' hk
      rw [a]
      refine ⟨rfl, ?_⟩
      split <;> omega
end Go.Proofs.YtmnjmdajgilhiaaDoor.Id
