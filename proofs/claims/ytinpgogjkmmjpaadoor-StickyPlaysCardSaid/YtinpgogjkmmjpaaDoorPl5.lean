/- A change of a valid register leaves a valid one, and is a step. No condition. -/
import Derived.Test.YtinpgogjkmmjpaaDoorSx13
import Derived.Test.YtinpgogjkmmjpaaDoorPl4
namespace Go.Proofs.YtinpgogjkmmjpaaDoor.Sx
open Go Go.RowKit Go.Proofs.YtinpgogjkmmjpaaDoor.Vc Go.Proofs.YtinpgogjkmmjpaaDoor.Ax Go.Proofs.YtinpgogjkmmjpaaDoor.Ky Go.Proofs.YtinpgogjkmmjpaaDoor.Id Go.Proofs.YtinpgogjkmmjpaaDoor.Sp

theorem keyB_size {s : ByteArray} (h : keyB s = true) : s.size ≤ 32 := by
  unfold keyB at h
  simp only [Bool.and_eq_true, decide_eq_true_eq] at h
  exact h.1.1.2
theorem Good.fit {r : Rg} (g : Good r) : Fit r := by
  refine ⟨⟨fun k hk => ?_, fun s hs => ?_⟩, g.now, by have := g.len; omega⟩
  · obtain ⟨i, hi, rfl⟩ := List.getElem_of_mem hk
    have := g.l i hi
    have h1 := keyB_size this.1
    have h2 := keyB_size this.2.1
    omega
  · obtain ⟨i, hi, rfl⟩ := List.getElem_of_mem hs
    have := slotB_iff.1 (g.s i hi)
    have h1 := keyB_size this.1
    have h2 := keyB_size this.2.1
    have h3 := keyB_size this.2.2.1
    omega
def lays (r : Rg) : Prop := ∀ s ∈ r.slots, s.layer ∈ layL
theorem layX_mem (x : Chg) : layX x ∈ layL := by
  unfold layX layOf
  have h : x.exp % 4 / 2 < layL.length := by rw [layL_len]; omega
  rw [List.getD_eq_getElem?_getD, List.getElem?_eq_getElem h]
  exact List.getElem_mem h
structure After (x : Chg) (r q : Rg) : Prop where
  good : Good q
  step : Step r q
  now : q.now = nowOf x r
  lays : lays r → lays q
theorem asg_after (x : Chg) {r : Rg} (h : (asgX x r).2.2 = 0) : After x r (asgX x r).1 := by
  unfold asgX asgR at h ⊢
  by_cases he : readyE (validB r) r (nowOf x r) ≠ 0
  · rw [if_pos he] at h; exact absurd h he
  rw [if_neg he] at h ⊢
  obtain ⟨g, h1, h2⟩ := ready_good (valid_iff r).1 (by simpa using he)
  by_cases hc : coolX x < 0
  · rw [if_pos hc] at h; exact absurd h (by decide)
  rw [if_neg hc] at h ⊢
  cases hk : (keyB (idOf x.id) && keyB (layX x)) with
  | false => rw [hk] at h; exact absurd (show (6 : Int) = 0 from h) (by decide)
  | true =>
    rw [hk] at h
    simp only [Bool.not_true, cond_false] at h ⊢
    by_cases hu : 0 ≤ curI r (idOf x.id) (layX x)
    · rw [if_pos hu]
      exact ⟨g.at_now h1 h2, Step.refl h1, rfl, fun hl => hl⟩
    rw [if_neg hu] at h ⊢
    cases hb : (heldOf x || !keyB (expX x) || decide (armX x < 1 ∨ 8 < armX x)) with
    | true => rw [hb] at h; exact absurd (show (11 : Int) = 0 from h) (by decide)
    | false =>
      rw [hb] at h
      simp only [cond_false] at h ⊢
      cases ha : r.slots.any (barP r.links (idOf x.id) (layX x) (coolX x) (nowOf x r)) with
      | true => rw [ha] at h; exact absurd (show (28 : Int) = 0 from h) (by decide)
      | false =>
        rw [ha] at h
        simp only [cond_false] at h ⊢
        by_cases hl : 128 ≤ r.slots.length
        · rw [if_pos hl] at h; exact absurd h (by decide)
        rw [if_neg hl]
        simp only [Bool.or_eq_false_iff, Bool.not_eq_false', decide_eq_false_iff_not] at hb
        simp only [Bool.and_eq_true] at hk
        refine ⟨g.add h1 h2 hk.1 hk.2 hb.1.2 (by omega) hu hl, step_add h1 _ rfl, rfl, fun hls s hs => ?_⟩
        rcases List.mem_append.1 hs with hs | hs
        · exact hls s hs
        · simp only [List.mem_singleton] at hs
          rw [hs]
          exact layX_mem x
theorem mrg_after (x : Chg) {r : Rg} (h : (mrgX x r).2.2 = 0) : After x r (mrgX x r).1 := by
  unfold mrgX mrgR at h ⊢
  by_cases he : readyE (validB r) r (nowOf x r) ≠ 0
  · rw [if_pos he] at h; exact absurd h he
  rw [if_neg he] at h ⊢
  obtain ⟨g, h1, h2⟩ := ready_good (valid_iff r).1 (by simpa using he)
  cases hk : (keyB (idOf x.id) && keyB (idOf x.other)) with
  | false => rw [hk] at h; exact absurd (show (6 : Int) = 0 from h) (by decide)
  | true =>
    rw [hk] at h
    simp only [Bool.not_true, cond_false] at h ⊢
    by_cases hu : idOf x.id = idOf x.other
    · rw [if_pos hu] at h; exact absurd h (by decide)
    rw [if_neg hu] at h ⊢
    by_cases hr : rt r.links (idOf x.id) = rt r.links (idOf x.other)
    · rw [if_pos hr]
      exact ⟨g.at_now h1 h2, Step.refl h1, rfl, fun hl => hl⟩
    rw [if_neg hr] at h ⊢
    by_cases hl : 64 ≤ r.links.length
    · rw [if_pos hl] at h; exact absurd h (by decide)
    rw [if_neg hl]
    simp only [Bool.and_eq_true] at hk
    refine ⟨g.merge h1 h2 hk.1 hk.2 hu hr hl, step_merge h1, rfl, fun hls s hs => ?_⟩
    obtain ⟨i, hi, rfl⟩ := List.getElem_of_mem hs
    have hir : i < r.slots.length := by simpa [mrgL_len] using hi
    have := (step_merge (a := idOf x.id) (b := idOf x.other) h1).same i hir
    simp only at this ⊢
    rw [this.2.1]
    exact hls _ (List.getElem_mem hir)
theorem stp_after (x : Chg) {r : Rg} (h : (stpX x r).2.2 = 0) : After x r (stpX x r).1 := by
  unfold stpX stopR at h ⊢
  by_cases he : readyE (validB r) r (nowOf x r) ≠ 0
  · rw [if_pos he] at h; exact absurd h he
  rw [if_neg he] at h ⊢
  obtain ⟨g, h1, h2⟩ := ready_good (valid_iff r).1 (by simpa using he)
  cases hk : keyB (expX x) with
  | false => rw [hk] at h; exact absurd (show (6 : Int) = 0 from h) (by decide)
  | true =>
    refine ⟨g.stop h1 h2, step_stop h1, rfl, fun hls s hs => ?_⟩
    obtain ⟨i, hi, rfl⟩ := List.getElem_of_mem hs
    have hir : i < r.slots.length := by simpa using hi
    have := (step_stop (x := expX x) h1).same i hir
    simp only [cond_true] at this ⊢
    rw [this.2.1]
    exact hls _ (List.getElem_mem hir)
theorem play_after (x : Chg) {r : Rg} (h : (playR x r).2.2.2 = 0) : After x r (playR x r).1 := by
  unfold playR at h ⊢
  split at h
  · rename_i hk; rw [if_pos hk]; exact asg_after x h
  · rename_i hk
    rw [if_neg hk]
    split at h
    · rename_i hk2; rw [if_pos hk2]; exact mrg_after x h
    · rename_i hk2; rw [if_neg hk2]; exact stp_after x h
theorem asg_fail (e : Int) (kb bad : Bool) (r : Rg) (id layer exp : ByteArray) (arm gap now : Int) : (asgR e kb bad r id layer exp arm gap now).2.2 ≠ 0 → (asgR e kb bad r id layer exp arm gap now).1 = rg0 := by
  unfold asgR
  generalize r.slots.any (barP r.links id layer gap now) = q
  split
  · intro _; rfl
  split
  · intro _; rfl
  cases kb
  · intro _; rfl
  simp only [Bool.not_true, cond_false]
  split
  · intro h; exact absurd rfl h
  cases bad
  · cases q
    · simp only [cond_false]
      split
      · intro _; rfl
      · intro h; exact absurd rfl h
    · intro _; rfl
  · intro _; rfl
theorem mrg_fail (e : Int) (kb : Bool) (r : Rg) (a b : ByteArray) (now : Int) (d : Nat → Bool) : (mrgR e kb r a b now d).2.2 ≠ 0 → (mrgR e kb r a b now d).1 = rg0 := by
  unfold mrgR
  split
  · intro _; rfl
  cases kb
  · intro _; rfl
  simp only [Bool.not_true, cond_false]
  split
  · intro _; rfl
  split
  · intro h; exact absurd rfl h
  split
  · intro _; rfl
  · intro h; exact absurd rfl h
theorem mrg_list (e : Int) (kb : Bool) (r : Rg) (a b : ByteArray) (now : Int) (d : Nat → Bool) : (mrgR e kb r a b now d).2.1.length ≤ r.slots.length := by
  unfold mrgR
  split
  · exact Nat.zero_le _
  cases kb
  · exact Nat.zero_le _
  simp only [Bool.not_true, cond_false]
  split
  · exact Nat.zero_le _
  split
  · exact Nat.zero_le _
  split
  · exact Nat.zero_le _
  · exact mrgE_len _ _ _ _
theorem stp_fail (e : Int) (kb : Bool) (r : Rg) (x : ByteArray) (now : Int) : (stopR e kb r x now).2.2 ≠ 0 → (stopR e kb r x now).1 = rg0 := by
  unfold stopR
  split
  · intro _; rfl
  cases kb
  · intro _; rfl
  · intro h; exact absurd rfl h
theorem play_fail (x : Chg) (r : Rg) (h : (playR x r).2.2.2 ≠ 0) : (playR x r).1 = rg0 := by
  unfold playR at h ⊢
  split at h
  · rename_i hk; rw [if_pos hk]; exact asg_fail _ _ _ _ _ _ _ _ _ _ h
  · rename_i hk
    rw [if_neg hk]
    split at h
    · rename_i hk2; rw [if_pos hk2]; exact mrg_fail _ _ _ _ _ _ _ h
    · rename_i hk2; rw [if_neg hk2]; exact stp_fail _ _ _ _ _ h
theorem play_small (x : Chg) {r : Rg} (g : Good r) : (playR x r).1.slots.length ≤ 128 ∧ (playR x r).1.links.length ≤ 64 ∧ (playR x r).2.1.length ≤ 128 := by
  have h1 : (playR x r).1.slots.length ≤ 128 ∧ (playR x r).1.links.length ≤ 64 := by
    by_cases h : (playR x r).2.2.2 = 0
    · have := (play_after x h).good.len; exact ⟨this.2, this.1⟩
    · rw [play_fail x r h]; exact ⟨Nat.zero_le _, Nat.zero_le _⟩
  refine ⟨h1.1, h1.2, ?_⟩
  unfold playR
  split
  · show 1 ≤ 128; omega
  · split
    · exact Nat.le_trans (mrg_list _ _ _ _ _ _ _) g.len.2
    · exact Nat.zero_le _
def next (x : Chg) (r : Rg) : Rg := if (playR x r).2.2.2 = 0 then (playR x r).1 else r
def reachR (l : List Chg) : Rg := l.foldl (fun r x => next x r) rg0
structure Rch (r : Rg) : Prop where
  good : Good r
  once : Once r
  lays : lays r
theorem rch_nil : Rch rg0 := ⟨good_nil, once_nil, fun s h => by cases h⟩
theorem Rch.next {r : Rg} (h : Rch r) (x : Chg) : Rch (next x r) := by
  unfold Sx.next
  split
  · rename_i hp
    have a := play_after x hp
    exact ⟨a.good, h.once.step a.step a.good, a.lays h.lays⟩
  · exact h
theorem reachR_snoc (l : List Chg) (x : Chg) : reachR (l ++ [x]) = next x (reachR l) := by unfold reachR; rw [List.foldl_append]; rfl
theorem reach_rch (l : List Chg) : Rch (reachR l) := by
  have : ∀ (l : List Chg) (r : Rg), Rch r → Rch (l.foldl (fun r x => Sx.next x r) r) := by
    intro l
    induction l with
    | nil => exact fun r h => h
    | cons x l ih => exact fun r h => ih _ (h.next x)
  exact this l rg0 rch_nil
end Go.Proofs.YtinpgogjkmmjpaaDoor.Sx
