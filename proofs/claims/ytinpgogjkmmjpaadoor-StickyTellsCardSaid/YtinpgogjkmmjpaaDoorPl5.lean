/- Registers that are reached: a change is a step; at every time a subject has at most one slot of a layer. No condition. A change of a valid register leaves a valid one, and is a step. No condition. -/
import Derived.Test.YtinpgogjkmmjpaaDoorSx12
import Derived.Test.YtinpgogjkmmjpaaDoorSx13
set_option linter.unusedVariables false
set_option linter.unusedSimpArgs false
namespace Go.Proofs.YtinpgogjkmmjpaaDoor.Sx
open Go Go.RowKit Go.Proofs.YtinpgogjkmmjpaaDoor.Vc Go.Proofs.YtinpgogjkmmjpaaDoor.Ax Go.Proofs.YtinpgogjkmmjpaaDoor.Ky Go.Proofs.YtinpgogjkmmjpaaDoor.Id Go.Proofs.YtinpgogjkmmjpaaDoor.Sp

def appl (s : Sl) (t : Int) : Prop := s.from_ ≤ t ∧ (s.fin = 0 ∨ t < s.to_)
structure Step (r q : Rg) : Prop where
  now : r.now ≤ q.now
  le : r.slots.length ≤ q.slots.length
  le1 : q.slots.length ≤ r.slots.length + 1
  old : ∀ i (h : i < r.slots.length), q.slots[i] = r.slots[i] ∨ (r.slots[i].fin = 0 ∧ ∃ e, (e = 1 ∨ e = 2) ∧ q.slots[i] = { r.slots[i] with to_ := q.now, fin := e })
  new : ∀ i (h : i < q.slots.length), r.slots.length ≤ i → q.slots[i].from_ = q.now
  links : q.links = r.links ∨ ∃ a b, q.links = r.links ++ [⟨a, b, q.now⟩]
theorem Step.same {r q : Rg} (s : Step r q) (i : Nat) (h : i < r.slots.length) : (q.slots[i]'(by have := s.le; omega)).id = r.slots[i].id ∧ (q.slots[i]'(by have := s.le; omega)).layer = r.slots[i].layer ∧ (q.slots[i]'(by have := s.le; omega)).from_ = r.slots[i].from_ := by
  rcases s.old i h with e | ⟨_, e, _, h2⟩
  · rw [e]; exact ⟨rfl, rfl, rfl⟩
  · rw [h2]; exact ⟨rfl, rfl, rfl⟩
theorem Step.appl {r q : Rg} (s : Step r q) (i : Nat) (h : i < r.slots.length) {t : Int} (ht : t < q.now) : appl (q.slots[i]'(by have := s.le; omega)) t ↔ Sx.appl r.slots[i] t := by
  rcases s.old i h with e | ⟨h1, e, he, h2⟩
  · rw [e]
  · rw [h2]
    unfold Sx.appl
    simp only
    constructor
    · rintro ⟨a, _⟩; exact ⟨a, .inl h1⟩
    · rintro ⟨a, _⟩; exact ⟨a, .inr ht⟩
theorem Step.unt {r q : Rg} (s : Step r q) {t : Int} (ht : t < q.now) : unt t q.links = Id.unt t r.links := by
  rcases s.links with e | ⟨a, b, e⟩
  · rw [e]
  · rw [e, unt_snoc, if_neg (by show ¬ q.now ≤ t; omega)]
theorem unt_all {l : List Lk} {t : Int} (h : ∀ i (h : i < l.length), l[i].t ≤ t) : unt t l = l := by
  unfold unt
  rw [List.filter_eq_self]
  intro k hk
  obtain ⟨i, hi, rfl⟩ := List.getElem_of_mem hk
  exact decide_eq_true (h i hi)
theorem Good.unt_late {r : Rg} (g : Good r) {t : Int} (h : r.now ≤ t) : unt t r.links = r.links := unt_all fun i hi => by have := (g.l i hi).2.2.2.2; omega
theorem Good.appl_late {r : Rg} (g : Good r) {t : Int} (h : r.now ≤ t) {i : Nat} (hi : i < r.slots.length) (ha : appl r.slots[i] t) : r.slots[i].fin = 0 := by
  have := g.to_ok i hi
  rcases ha.2 with h1 | h1
  · exact h1
  · omega
def Once (r : Rg) : Prop := ∀ (t : Int) (i k : Nat) (hi : i < r.slots.length) (hk : k < i), appl r.slots[i] t → appl r.slots[k] t → r.slots[i].layer = r.slots[k].layer → rt (unt t r.links) r.slots[i].id ≠ rt (unt t r.links) r.slots[k].id
theorem once_nil : Once rg0 := fun _ i _ hi => absurd hi (Nat.not_lt_zero i)
theorem Once.step {r q : Rg} (o : Once r) (s : Step r q) (g : Good q) : Once q := by
  intro t i k hi hk ha hb hl
  rcases Int.lt_or_le t q.now with ht | ht
  · have hir : i < r.slots.length := by
      rcases Nat.lt_or_ge i r.slots.length with h | h
      · exact h
      · have := s.new i hi h
        have := ha.1
        omega
    have hkr : k < r.slots.length := by omega
    rw [s.unt ht, (s.same i hir).1, (s.same k hkr).1]
    rw [(s.same i hir).2.1, (s.same k hkr).2.1] at hl
    exact o t i k hir hk ((s.appl i hir ht).1 ha) ((s.appl k hkr ht).1 hb) hl
  · rw [g.unt_late ht]
    exact g.alone i k hi hk (g.appl_late ht hi ha) (g.appl_late ht (by omega) hb) hl
theorem atP_iff {ls : List Lk} {id layer : ByteArray} {t : Int} {s : Sl} : atP ls id layer t s = true ↔ s.layer = layer ∧ appl s t ∧ rt ls s.id = rt ls id := by
  unfold atP appl
  simp only [Bool.and_eq_true, Bool.or_eq_true, decide_eq_true_eq]
  constructor
  · rintro ⟨⟨⟨a, b⟩, c⟩, d⟩; exact ⟨a, ⟨b, c⟩, d⟩
  · rintro ⟨a, ⟨b, c⟩, d⟩; exact ⟨⟨⟨a, b⟩, c⟩, d⟩
theorem atO_cases (r : Rg) (id layer : ByteArray) (t : Int) : (atO r id layer t = none ∧ ∀ j (hj : j < r.slots.length), atP (unt t r.links) id layer t r.slots[j] = false) ∨
    ∃ i, ∃ h : i < r.slots.length, atO r id layer t = some r.slots[i] ∧ atP (unt t r.links) id layer t r.slots[i] = true ∧ ∀ j (hj : j < i), atP (unt t r.links) id layer t (r.slots[j]'(by omega)) = false := by
  unfold atO
  cases h : r.slots.find? (atP (unt t r.links) id layer t) with
  | none =>
    refine .inl ⟨rfl, fun j hj => ?_⟩
    have := List.find?_eq_none.1 h _ (List.getElem_mem hj)
    simpa using this
  | some x =>
    obtain ⟨h1, i, hi, h2, h3⟩ := List.find?_eq_some_iff_getElem.1 h
    subst h2
    exact .inr ⟨i, hi, rfl, h1, fun j hj => by have := h3 j hj; simpa using this⟩
/-- at an earlier time both registers have the same slot, apart from its end -/
theorem Step.past {r q : Rg} (s : Step r q) (id layer : ByteArray) {t : Int} (ht : t < q.now) : (atO r id layer t = none ∧ atO q id layer t = none) ∨
    ∃ x y, atO r id layer t = some x ∧ atO q id layer t = some y ∧ x = { y with to_ := x.to_, fin := x.fin } := by
  have hle := s.le
  have key : ∀ j (hj : j < r.slots.length), atP (Id.unt t q.links) id layer t (q.slots[j]'(by omega)) = atP (Id.unt t r.links) id layer t r.slots[j] := fun j hj => by
    have h1 : atP (Id.unt t q.links) id layer t (q.slots[j]'(by omega)) = true ↔ atP (Id.unt t r.links) id layer t r.slots[j] = true := by
      rw [atP_iff, atP_iff, s.unt ht, (s.same j hj).1, (s.same j hj).2.1, s.appl j hj ht]
    cases ha : atP (Id.unt t q.links) id layer t (q.slots[j]'(by omega)) <;> cases hb : atP (Id.unt t r.links) id layer t r.slots[j] <;> simp_all
  rcases atO_cases r id layer t with ⟨h1, h2⟩ | ⟨i, hi, h1, h2, h3⟩
  · refine .inl ⟨h1, ?_⟩
    unfold atO
    refine find_no fun j hj => ?_
    rcases Nat.lt_or_ge j r.slots.length with h | h
    · rw [key j h]; exact h2 j h
    · cases ha : atP (Id.unt t q.links) id layer t q.slots[j] with
      | false => rfl
      | true =>
        have := (atP_iff.1 ha).2.1.1
        have := s.new j hj h
        omega
  · refine .inr ⟨r.slots[i], q.slots[i]'(by omega), h1, ?_, ?_⟩
    · unfold atO
      exact find_at (by omega) (fun j hj => by rw [key j (by omega)]; exact h3 j hj) (by rw [key i hi]; exact h2)
    · rcases s.old i hi with e | ⟨_, e, _, h2⟩
      · rw [e]
      · rw [h2]
/-- a slot that applies for an id is the one that At finds -/
theorem Once.at {r : Rg} (o : Once r) {id layer : ByteArray} {t : Int} {i : Nat} (hi : i < r.slots.length) (h : atP (unt t r.links) id layer t r.slots[i] = true) : atO r id layer t = some r.slots[i] := by
  obtain ⟨a1, a2, a3⟩ := atP_iff.1 h
  unfold atO
  refine find_at hi (fun j hj => ?_) h
  cases hb : atP (unt t r.links) id layer t (r.slots[j]'(by omega)) with
  | false => rfl
  | true =>
    obtain ⟨b1, b2, b3⟩ := atP_iff.1 hb
    exact absurd (a3.trans b3.symm) (o t i j hi hj a2 b2 (a1.trans b1.symm))
theorem unt_prefix : ∀ (l : List Lk) (s t : Int), s ≤ t → (∀ i (h : i + 1 < l.length), l[i].t ≤ l[i + 1].t) → ∃ m, unt t l = unt s l ++ m := by
  intro l s t hst hs
  have mono : ∀ i j (h : j < l.length) (hij : i ≤ j), l[i].t ≤ l[j].t := by
    intro i j
    induction j with
    | zero => intro h hij; have : i = 0 := by omega
              subst this; exact Int.le_refl _
    | succ j ih =>
      intro h hij
      rcases Nat.lt_or_ge i (j + 1) with h1 | h1
      · exact Int.le_trans (ih (by omega) (by omega)) (hs j h)
      · have : i = j + 1 := by omega
        subst this; exact Int.le_refl _
  clear hs
  induction l with
  | nil => exact ⟨[], rfl⟩
  | cons k l ih =>
    have ih := ih fun i j h hij => by have := mono (i + 1) (j + 1) (by simpa using h) (by omega); simpa using this
    obtain ⟨m, hm⟩ := ih
    by_cases h1 : k.t ≤ s
    · refine ⟨m, ?_⟩
      have e1 : unt t (k :: l) = k :: unt t l := List.filter_cons_of_pos (by rw [decide_eq_true_eq]; omega)
      have e2 : unt s (k :: l) = k :: unt s l := List.filter_cons_of_pos (by rw [decide_eq_true_eq]; exact h1)
      rw [e1, e2, hm]; rfl
    · refine ⟨unt t (k :: l), ?_⟩
      have : unt s (k :: l) = [] := by
        unfold unt
        rw [List.filter_eq_nil_iff]
        intro x hx
        obtain ⟨j, hj, rfl⟩ := List.getElem_of_mem hx
        have := mono 0 j hj (Nat.zero_le _)
        simp only [List.getElem_cons_zero] at this
        rw [decide_eq_true_eq]; omega
      rw [this]; rfl
theorem con_unt {r : Rg} (g : Good r) {s t : Int} (h : s ≤ t) {u v : ByteArray} (hc : rt (unt s r.links) u = rt (unt s r.links) v) : rt (unt t r.links) u = rt (unt t r.links) v := by
  obtain ⟨m, hm⟩ := unt_prefix r.links s t h g.lo
  rw [hm]
  exact con_mono _ m hc
/-- different slots at two times: the first one has ended between -/
theorem Once.changes {r : Rg} (o : Once r) (g : Good r) {id layer : ByteArray} {s t : Int} (h : s ≤ t) {x y : Sl} (hx : atO r id layer s = some x) (hy : atO r id layer t = some y) (hne : x ≠ y) : (x.fin = 1 ∨ x.fin = 2) ∧ s < x.to_ ∧ x.to_ ≤ t := by
  rcases atO_cases r id layer s with ⟨h1, _⟩ | ⟨i, hi, h1, h2, _⟩
  · rw [h1] at hx; cases hx
  rw [h1] at hx
  injection hx with hx
  subst hx
  obtain ⟨a1, a2, a3⟩ := atP_iff.1 h2
  have hn : ¬ appl r.slots[i] t := fun hap => hne (by
    have := o.at hi (atP_iff.2 ⟨a1, hap, con_unt g h a3⟩)
    rw [this] at hy
    injection hy)
  unfold appl at hn a2
  have hs := slotB_iff.1 (g.s i hi)
  obtain ⟨_, _, _, hs⟩ := hs
  unfold slotA at hs
  obtain ⟨_, _, _, _, h5⟩ := hs
  have hf : ¬ r.slots[i].fin = 0 := fun e => hn ⟨by omega, .inl e⟩
  have hto : ¬ t < r.slots[i].to_ := fun e => hn ⟨by omega, .inr e⟩
  rcases h5 with h5 | h5
  · exact absurd h5.1 hf
  · exact ⟨h5.1, a2.2.resolve_left hf, by omega⟩
/-- from its beginning to its end a slot is the one that At finds for its id -/
theorem Once.keeps {r : Rg} (o : Once r) {i : Nat} (hi : i < r.slots.length) {t : Int} (ha : appl r.slots[i] t) : atO r r.slots[i].id r.slots[i].layer t = some r.slots[i] := o.at hi (atP_iff.2 ⟨rfl, ha, rfl⟩)

/-! the changes are steps -/
theorem Step.refl {r : Rg} {n : Int} (h : r.now ≤ n) : Step r ⟨n, r.links, r.slots⟩ := ⟨h, Nat.le_refl _, Nat.le_succ _, fun _ _ => .inl rfl, fun i h h2 => absurd h (by show ¬ i < r.slots.length; omega), .inl rfl⟩
theorem step_add {r : Rg} {n : Int} (h : r.now ≤ n) (s : Sl) (hs : s.from_ = n) : Step r ⟨n, r.links, r.slots ++ [s]⟩ :=
  ⟨h, by simp, by simp, fun i hi => .inl (List.getElem_append_left hi), fun i hi h2 => by
    simp only [List.getElem_append_right h2]
    simp [hs], .inl rfl⟩
theorem step_stop {r : Rg} {x : ByteArray} {n : Int} (h : r.now ≤ n) : Step r ⟨n, r.links, r.slots.map (stp x n)⟩ :=
  ⟨h, by simp, by simp, fun i hi => by
    simp only [List.getElem_map]
    unfold stp
    split
    · rename_i hf; exact .inr ⟨hf.1, 1, .inl rfl, rfl⟩
    · exact .inl rfl, fun i hi h2 => absurd hi (by simp; omega), .inl rfl⟩
theorem step_merge {r : Rg} {a b : ByteArray} {n : Int} (h : r.now ≤ n) : Step r ⟨n, r.links ++ [⟨a, b, n⟩], mrgL (d1 (r.links ++ [⟨a, b, n⟩]) a r.slots) n r.slots r.slots.length⟩ :=
  ⟨h, by simp [mrgL_len], by simp [mrgL_len], fun i hi => by
    have := mrgL_get (d1 (r.links ++ [⟨a, b, n⟩]) a r.slots) n r.slots r.slots.length i hi
    rw [List.getElem?_eq_getElem (by rw [mrgL_len]; exact hi)] at this
    injection this with this
    simp only [this]
    split
    · rename_i hq
      have hd := hq.2
      rw [d1_at hi, Bool.and_eq_true, mP_iff] at hd
      exact .inr ⟨hd.1.1, 2, .inr rfl, rfl⟩
    · exact .inl rfl, fun i hi h2 => absurd hi (by simp [mrgL_len]; omega), .inr ⟨a, b, rfl⟩⟩
end Go.Proofs.YtinpgogjkmmjpaaDoor.Sx

namespace Go.Proofs.YtinpgogjkmmjpaaDoor.Sx
open Go Go.RowKit Go.Proofs.YtinpgogjkmmjpaaDoor.Vc Go.Proofs.YtinpgogjkmmjpaaDoor.Ax Go.Proofs.YtinpgogjkmmjpaaDoor.Ky Go.Proofs.YtinpgogjkmmjpaaDoor.Id Go.Proofs.YtinpgogjkmmjpaaDoor.Sp

theorem keyB_size {s : ByteArray} (h : keyB s = true) : s.size ≤ 32 := by
  unfold keyB at h
  simp only [Bool.and_eq_true, decide_eq_true_eq] at h
  exact h.1.1.2
theorem Good.fit {r : Rg} (g : Good r) : Fit r := by
  refine ⟨⟨fun k hk => ?_, fun s hs => ?_⟩, g.now, by have := g.len; omega⟩
  · obtain ⟨i, hi, rfl⟩ := List.getElem_of_mem hk
    have := g.l i hi
    have h1 := keyB_size this.1
    have h2 := keyB_size this.2.1
    omega
  · obtain ⟨i, hi, rfl⟩ := List.getElem_of_mem hs
    have := slotB_iff.1 (g.s i hi)
    have h1 := keyB_size this.1
    have h2 := keyB_size this.2.1
    have h3 := keyB_size this.2.2.1
    omega
def lays (r : Rg) : Prop := ∀ s ∈ r.slots, s.layer ∈ layL
theorem layX_mem (x : Chg) : layX x ∈ layL := by
  unfold layX layOf
  have h : x.exp % 4 / 2 < layL.length := by rw [layL_len]; omega
  rw [List.getD_eq_getElem?_getD, List.getElem?_eq_getElem h]
  exact List.getElem_mem h
structure After (x : Chg) (r q : Rg) : Prop where
  good : Good q
  step : Step r q
  now : q.now = nowOf x r
  lays : lays r → lays q
theorem asg_after (x : Chg) {r : Rg} (h : (asgX x r).2.2 = 0) : After x r (asgX x r).1 := by
  unfold asgX asgR at h ⊢
  by_cases he : readyE (validB r) r (nowOf x r) ≠ 0
  · rw [if_pos he] at h; exact absurd h he
  rw [if_neg he] at h ⊢
  obtain ⟨g, h1, h2⟩ := ready_good (valid_iff r).1 (by simpa using he)
  by_cases hc : coolX x < 0
  · rw [if_pos hc] at h; exact absurd h (by decide)
  rw [if_neg hc] at h ⊢
  cases hk : (keyB (idOf x.id) && keyB (layX x)) with
  | false => rw [hk] at h; exact absurd (show (6 : Int) = 0 from h) (by decide)
  | true =>
    rw [hk] at h
    simp only [Bool.not_true, cond_false] at h ⊢
    by_cases hu : 0 ≤ curI r (idOf x.id) (layX x)
    · rw [if_pos hu]
      exact ⟨g.at_now h1 h2, Step.refl h1, rfl, fun hl => hl⟩
    rw [if_neg hu] at h ⊢
    cases hb : (heldOf x || !keyB (expX x) || decide (armX x < 1 ∨ 8 < armX x)) with
    | true => rw [hb] at h; exact absurd (show (11 : Int) = 0 from h) (by decide)
    | false =>
      rw [hb] at h
      simp only [cond_false] at h ⊢
      cases ha : r.slots.any (barP r.links (idOf x.id) (layX x) (coolX x) (nowOf x r)) with
      | true => rw [ha] at h; exact absurd (show (28 : Int) = 0 from h) (by decide)
      | false =>
        rw [ha] at h
        simp only [cond_false] at h ⊢
        by_cases hl : 128 ≤ r.slots.length
        · rw [if_pos hl] at h; exact absurd h (by decide)
        rw [if_neg hl]
        simp only [Bool.or_eq_false_iff, Bool.not_eq_false', decide_eq_false_iff_not] at hb
        simp only [Bool.and_eq_true] at hk
        refine ⟨g.add h1 h2 hk.1 hk.2 hb.1.2 (by omega) hu hl, step_add h1 _ rfl, rfl, fun hls s hs => ?_⟩
        rcases List.mem_append.1 hs with hs | hs
        · exact hls s hs
        · simp only [List.mem_singleton] at hs
          rw [hs]
          exact layX_mem x
theorem mrg_after (x : Chg) {r : Rg} (h : (mrgX x r).2.2 = 0) : After x r (mrgX x r).1 := by
  unfold mrgX mrgR at h ⊢
  by_cases he : readyE (validB r) r (nowOf x r) ≠ 0
  · rw [if_pos he] at h; exact absurd h he
  rw [if_neg he] at h ⊢
  obtain ⟨g, h1, h2⟩ := ready_good (valid_iff r).1 (by simpa using he)
  cases hk : (keyB (idOf x.id) && keyB (idOf x.other)) with
  | false => rw [hk] at h; exact absurd (show (6 : Int) = 0 from h) (by decide)
  | true =>
    rw [hk] at h
    simp only [Bool.not_true, cond_false] at h ⊢
    by_cases hu : idOf x.id = idOf x.other
    · rw [if_pos hu] at h; exact absurd h (by decide)
    rw [if_neg hu] at h ⊢
    by_cases hr : rt r.links (idOf x.id) = rt r.links (idOf x.other)
    · rw [if_pos hr]
      exact ⟨g.at_now h1 h2, Step.refl h1, rfl, fun hl => hl⟩
    rw [if_neg hr] at h ⊢
    by_cases hl : 64 ≤ r.links.length
    · rw [if_pos hl] at h; exact absurd h (by decide)
    rw [if_neg hl]
    simp only [Bool.and_eq_true] at hk
    refine ⟨g.merge h1 h2 hk.1 hk.2 hu hr hl, step_merge h1, rfl, fun hls s hs => ?_⟩
    obtain ⟨i, hi, rfl⟩ := List.getElem_of_mem hs
    have hir : i < r.slots.length := by simpa [mrgL_len] using hi
    have := (step_merge (a := idOf x.id) (b := idOf x.other) h1).same i hir
    simp only at this ⊢
    rw [this.2.1]
    exact hls _ (List.getElem_mem hir)
theorem stp_after (x : Chg) {r : Rg} (h : (stpX x r).2.2 = 0) : After x r (stpX x r).1 := by
  unfold stpX stopR at h ⊢
  by_cases he : readyE (validB r) r (nowOf x r) ≠ 0
  · rw [if_pos he] at h; exact absurd h he
  rw [if_neg he] at h ⊢
  obtain ⟨g, h1, h2⟩ := ready_good (valid_iff r).1 (by simpa using he)
  cases hk : keyB (expX x) with
  | false => rw [hk] at h; exact absurd (show (6 : Int) = 0 from h) (by decide)
  | true =>
    refine ⟨g.stop h1 h2, step_stop h1, rfl, fun hls s hs => ?_⟩
    obtain ⟨i, hi, rfl⟩ := List.getElem_of_mem hs
    have hir : i < r.slots.length := by simpa using hi
    have := (step_stop (x := expX x) h1).same i hir
    simp only [cond_true] at this ⊢
    rw [this.2.1]
    exact hls _ (List.getElem_mem hir)
theorem play_after (x : Chg) {r : Rg} (h : (playR x r).2.2.2 = 0) : After x r (playR x r).1 := by
  unfold playR at h ⊢
  split at h
  · rename_i hk; rw [if_pos hk]; exact asg_after x h
  · rename_i hk
    rw [if_neg hk]
    split at h
    · rename_i hk2; rw [if_pos hk2]; exact mrg_after x h
    · rename_i hk2; rw [if_neg hk2]; exact stp_after x h
theorem asg_fail (e : Int) (kb bad : Bool) (r : Rg) (id layer exp : ByteArray) (arm gap now : Int) : (asgR e kb bad r id layer exp arm gap now).2.2 ≠ 0 → (asgR e kb bad r id layer exp arm gap now).1 = rg0 := by
  unfold asgR
  generalize r.slots.any (barP r.links id layer gap now) = q
  split
  · intro _; rfl
  split
  · intro _; rfl
  cases kb
  · intro _; rfl
  simp only [Bool.not_true, cond_false]
  split
  · intro h; exact absurd rfl h
  cases bad
  · cases q
    · simp only [cond_false]
      split
      · intro _; rfl
      · intro h; exact absurd rfl h
    · intro _; rfl
  · intro _; rfl
theorem mrg_fail (e : Int) (kb : Bool) (r : Rg) (a b : ByteArray) (now : Int) (d : Nat → Bool) : (mrgR e kb r a b now d).2.2 ≠ 0 → (mrgR e kb r a b now d).1 = rg0 := by
  unfold mrgR
  split
  · intro _; rfl
  cases kb
  · intro _; rfl
  simp only [Bool.not_true, cond_false]
  split
  · intro _; rfl
  split
  · intro h; exact absurd rfl h
  split
  · intro _; rfl
  · intro h; exact absurd rfl h
theorem mrg_list (e : Int) (kb : Bool) (r : Rg) (a b : ByteArray) (now : Int) (d : Nat → Bool) : (mrgR e kb r a b now d).2.1.length ≤ r.slots.length := by
  unfold mrgR
  split
  · exact Nat.zero_le _
  cases kb
  · exact Nat.zero_le _
  simp only [Bool.not_true, cond_false]
  split
  · exact Nat.zero_le _
  split
  · exact Nat.zero_le _
  split
  · exact Nat.zero_le _
  · exact mrgE_len _ _ _ _
theorem stp_fail (e : Int) (kb : Bool) (r : Rg) (x : ByteArray) (now : Int) : (stopR e kb r x now).2.2 ≠ 0 → (stopR e kb r x now).1 = rg0 := by
  unfold stopR
  split
  · intro _; rfl
  cases kb
  · intro _; rfl
  · intro h; exact absurd rfl h
theorem play_fail (x : Chg) (r : Rg) (h : (playR x r).2.2.2 ≠ 0) : (playR x r).1 = rg0 := by
  unfold playR at h ⊢
  split at h
  · rename_i hk; rw [if_pos hk]; exact asg_fail _ _ _ _ _ _ _ _ _ _ h
  · rename_i hk
    rw [if_neg hk]
    split at h
    · rename_i hk2; rw [if_pos hk2]; exact mrg_fail _ _ _ _ _ _ _ h
    · rename_i hk2; rw [if_neg hk2]; exact stp_fail _ _ _ _ _ h
theorem play_small (x : Chg) {r : Rg} (g : Good r) : (playR x r).1.slots.length ≤ 128 ∧ (playR x r).1.links.length ≤ 64 ∧ (playR x r).2.1.length ≤ 128 := by
  have h1 : (playR x r).1.slots.length ≤ 128 ∧ (playR x r).1.links.length ≤ 64 := by
    by_cases h : (playR x r).2.2.2 = 0
    · have := (play_after x h).good.len; exact ⟨this.2, this.1⟩
    · rw [play_fail x r h]; exact ⟨Nat.zero_le _, Nat.zero_le _⟩
  refine ⟨h1.1, h1.2, ?_⟩
  unfold playR
  split
  · show 1 ≤ 128; omega
  · split
    · exact Nat.le_trans (mrg_list _ _ _ _ _ _ _) g.len.2
    · exact Nat.zero_le _
def next (x : Chg) (r : Rg) : Rg := if (playR x r).2.2.2 = 0 then (playR x r).1 else r
def reachR (l : List Chg) : Rg := l.foldl (fun r x => next x r) rg0
structure Rch (r : Rg) : Prop where
  good : Good r
  once : Once r
  lays : lays r
theorem rch_nil : Rch rg0 := ⟨good_nil, once_nil, fun s h => by cases h⟩
theorem Rch.next {r : Rg} (h : Rch r) (x : Chg) : Rch (next x r) := by
  unfold Sx.next
  split
  · rename_i hp
    have a := play_after x hp
    exact ⟨a.good, h.once.step a.step a.good, a.lays h.lays⟩
  · exact h
theorem reachR_snoc (l : List Chg) (x : Chg) : reachR (l ++ [x]) = next x (reachR l) := by unfold reachR; rw [List.foldl_append]; rfl
theorem reach_rch (l : List Chg) : Rch (reachR l) := by
  have : ∀ (l : List Chg) (r : Rg), Rch r → Rch (l.foldl (fun r x => Sx.next x r) r) := by
    intro l
    induction l with
    | nil => exact fun r h => h
    | cons x l ih => exact fun r h => ih _ (h.next x)
  exact this l rg0 rch_nil
end Go.Proofs.YtinpgogjkmmjpaaDoor.Sx
