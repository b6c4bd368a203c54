/- Plain laws of what lies within the windows, event by event. No program in sight. -/
import Derived.Test.YtmnjmdajgilhiaaDoorJs
set_option linter.unusedVariables false
set_option linter.unusedSimpArgs false
namespace Go.Proofs.YtmnjmdajgilhiaaDoor.Cl
open Go Go.Proofs.YtmnjmdajgilhiaaDoor.Vc Go.Proofs.YtmnjmdajgilhiaaDoor.Ax Go.Proofs.YtmnjmdajgilhiaaDoor.Id
def insL (ls : List Lk) (xs : List Ex) (w : Int) (l : List Ev) : List (List Ev) := xs.zipIdx.map fun p => insE ls xs w p.2 p.1 l
def mixB (ls : List Lk) (xs : List Ex) (name : By) (w : Int) (l : List Ev) : List Bool := xs.zipIdx.map fun p => mixE ls xs name w p.2 p.1 l
theorem insL_len (ls : List Lk) (xs : List Ex) (w : Int) (l : List Ev) : (insL ls xs w l).length = xs.length := by unfold insL; simp
theorem mixB_len (ls : List Lk) (xs : List Ex) (name : By) (w : Int) (l : List Ev) : (mixB ls xs name w l).length = xs.length := by unfold mixB; simp
theorem insL_get (ls : List Lk) (xs : List Ex) (w : Int) (l : List Ev) (i : Nat) : (insL ls xs w l)[i]? = xs[i]?.map fun x => insE ls xs w i x l := by
  unfold insL
  rw [List.getElem?_map, List.getElem?_zipIdx]
  cases xs[i]? <;> simp
theorem mixB_get (ls : List Lk) (xs : List Ex) (name : By) (w : Int) (l : List Ev) (i : Nat) : (mixB ls xs name w l)[i]? = xs[i]?.map fun x => mixE ls xs name w i x l := by
  unfold mixB
  rw [List.getElem?_map, List.getElem?_zipIdx]
  cases xs[i]? <;> simp
theorem insL_nil (ls : List Lk) (xs : List Ex) (w : Int) : insL ls xs w [] = List.replicate xs.length [] := by
  apply List.ext_getElem?
  intro i
  rw [insL_get, List.getElem?_replicate]
  by_cases h : i < xs.length
  · rw [List.getElem?_eq_getElem h, if_pos h]; rfl
  · rw [List.getElem?_eq_none (by omega), if_neg h]; rfl
theorem mixB_nil (ls : List Lk) (xs : List Ex) (name : By) (w : Int) : mixB ls xs name w [] = List.replicate xs.length false := by
  apply List.ext_getElem?
  intro i
  rw [mixB_get, List.getElem?_replicate]
  by_cases h : i < xs.length
  · rw [List.getElem?_eq_getElem h, if_pos h]; rfl
  · rw [List.getElem?_eq_none (by omega), if_neg h]; rfl
theorem insE_snoc (ls : List Lk) (xs : List Ex) (w : Int) (k : Nat) (x : Ex) (l : List Ev) (e : Ev) : insE ls xs w k x (l ++ [e]) = if owO ls xs e.id e.time = some k ∧ e.time < x.time + w then insE ls xs w k x l ++ [e] else insE ls xs w k x l := by
  unfold insE
  rw [List.filter_append]
  by_cases h1 : owO ls xs e.id e.time = some k
  · by_cases h2 : e.time < x.time + w
    · simp [h1, h2]
    · simp [h1, h2]
  · simp [h1]
theorem insL_in {ls : List Lk} {xs : List Ex} {w : Int} {l : List Ev} {e : Ev} {i : Nat} (hi : i < xs.length) (h : owO ls xs e.id e.time = some i) (ht : e.time < xs[i].time + w) : insL ls xs w (l ++ [e]) = (insL ls xs w l).set i ((insL ls xs w l)[i]'(by rw [insL_len]; exact hi) ++ [e]) := by
  apply List.ext_getElem?
  intro j
  have hg : (insL ls xs w l)[i]'(by rw [insL_len]; exact hi) = insE ls xs w i xs[i] l := by
    have := insL_get ls xs w l i
    rw [List.getElem?_eq_getElem (by rw [insL_len]; exact hi), List.getElem?_eq_getElem hi] at this
    injection this
  rw [hg, insL_get]
  by_cases hj : i = j
  · subst hj
    rw [List.getElem?_set_self (by rw [insL_len]; exact hi), List.getElem?_eq_getElem hi]
    simp only [Option.map_some, insE_snoc]
    rw [if_pos ⟨h, ht⟩]
  · rw [List.getElem?_set_ne hj, insL_get]
    cases hx : xs[j]? with
    | none => rfl
    | some x =>
      simp only [Option.map_some, insE_snoc]
      rw [if_neg fun hh => hj (by rw [h] at hh; injection hh.1)]
theorem insL_out {ls : List Lk} {xs : List Ex} {w : Int} {l : List Ev} {e : Ev} (h : ∀ i (hi : i < xs.length), owO ls xs e.id e.time = some i → ¬ e.time < xs[i].time + w) : insL ls xs w (l ++ [e]) = insL ls xs w l := by
  apply List.ext_getElem?
  intro j
  rw [insL_get, insL_get]
  cases hx : xs[j]? with
  | none => rfl
  | some x =>
    obtain ⟨hj, rfl⟩ := List.getElem?_eq_some_iff.1 hx
    simp only [Option.map_some, insE_snoc]
    rw [if_neg fun hh => h j hj hh.1 hh.2]
theorem mixE_snoc (ls : List Lk) (xs : List Ex) (name : By) (w : Int) (k : Nat) (x : Ex) (l : List Ev) (e : Ev) : mixE ls xs name w k x (l ++ [e]) = if owO ls xs e.id e.time = some k ∧ e.time < x.time + w then mixE ls xs name w k x l || (decide (e.name = name) && !decide (e.arm = x.arm)) else mixE ls xs name w k x l := by
  unfold mixE
  rw [insE_snoc]
  split
  · simp
  · rfl
theorem mixB_in {ls : List Lk} {xs : List Ex} {name : By} {w : Int} {l : List Ev} {e : Ev} {i : Nat} (hi : i < xs.length) (h : owO ls xs e.id e.time = some i) (ht : e.time < xs[i].time + w) :
    mixB ls xs name w (l ++ [e]) = (mixB ls xs name w l).set i ((mixB ls xs name w l)[i]'(by rw [mixB_len]; exact hi) || (decide (e.name = name) && !decide (e.arm = xs[i].arm))) := by
  apply List.ext_getElem?
  intro j
  have hg : (mixB ls xs name w l)[i]'(by rw [mixB_len]; exact hi) = mixE ls xs name w i xs[i] l := by
    have := mixB_get ls xs name w l i
    rw [List.getElem?_eq_getElem (by rw [mixB_len]; exact hi), List.getElem?_eq_getElem hi] at this
    injection this
  rw [hg, mixB_get]
  by_cases hj : i = j
  · subst hj
    rw [List.getElem?_set_self (by rw [mixB_len]; exact hi), List.getElem?_eq_getElem hi]
    simp only [Option.map_some, mixE_snoc]
    rw [if_pos ⟨h, ht⟩]
  · rw [List.getElem?_set_ne hj, mixB_get]
    cases hx : xs[j]? with
    | none => rfl
    | some x =>
      simp only [Option.map_some, mixE_snoc]
      rw [if_neg fun hh => hj (by rw [h] at hh; injection hh.1)]
theorem mixB_out {ls : List Lk} {xs : List Ex} {name : By} {w : Int} {l : List Ev} {e : Ev} (h : ∀ i (hi : i < xs.length), owO ls xs e.id e.time = some i → ¬ e.time < xs[i].time + w) : mixB ls xs name w (l ++ [e]) = mixB ls xs name w l := by
  apply List.ext_getElem?
  intro j
  rw [mixB_get, mixB_get]
  cases hx : xs[j]? with
  | none => rfl
  | some x =>
    obtain ⟨hj, rfl⟩ := List.getElem?_eq_some_iff.1 hx
    simp only [Option.map_some, mixE_snoc]
    rw [if_neg fun hh => h j hj hh.1 hh.2]
/-- the times asked for by all events -/
def tsO (ts : List Int) (l : List Ev) : List Int := l.foldl (fun ts e => e.time :: ts) ts
theorem tsO_snoc (ts : List Int) (l : List Ev) (e : Ev) : tsO ts (l ++ [e]) = e.time :: tsO ts l := by unfold tsO; rw [List.foldl_append]; rfl
/-- the times asked for before a first exposure -/
def tsB (b : Int) (x : Ex) (ts : List Int) (l : List Ev) : List Int := l.foldl (fun ts e => if x.time - b ≤ e.time ∧ e.time < x.time then x.time :: ts else ts) ts
theorem tsB_snoc (b : Int) (x : Ex) (ts : List Int) (l : List Ev) (e : Ev) : tsB b x ts (l ++ [e]) = if x.time - b ≤ e.time ∧ e.time < x.time then x.time :: tsB b x ts l else tsB b x ts l := by unfold tsB; rw [List.foldl_append]; rfl
theorem befE_snoc (ls : List Lk) (b : Int) (x : Ex) (l : List Ev) (e : Ev) : befE ls b x (l ++ [e]) = if x.time - b ≤ e.time ∧ e.time < x.time ∧ rtA ls x.time e.id = rtA ls x.time x.id then befE ls b x l ++ [e] else befE ls b x l := by
  unfold befE
  rw [List.filter_append]
  by_cases h1 : x.time - b ≤ e.time
  · by_cases h2 : e.time < x.time
    · by_cases h3 : rtA ls x.time e.id = rtA ls x.time x.id
      · simp [h1, h2, h3]
      · simp [h1, h2, h3]
    · simp [h1, h2]
  · simp [h1]
theorem insE_sub (ls : List Lk) (xs : List Ex) (w : Int) (k : Nat) (x : Ex) (l : List Ev) : ∀ e ∈ insE ls xs w k x l, e ∈ l := fun e he => (List.mem_filter.1 he).1
theorem insE_len (ls : List Lk) (xs : List Ex) (w : Int) (k : Nat) (x : Ex) (l : List Ev) : (insE ls xs w k x l).length ≤ l.length := List.length_filter_le _ _
theorem befE_sub (ls : List Lk) (b : Int) (x : Ex) (l : List Ev) : ∀ e ∈ befE ls b x l, e ∈ l := fun e he => (List.mem_filter.1 he).1
theorem befE_len (ls : List Lk) (b : Int) (x : Ex) (l : List Ev) : (befE ls b x l).length ≤ l.length := List.length_filter_le _ _
/-- the samples of the first i first exposures -/
def smpN (l : List Ev) (name : By) (m : Mt) (mark : Int) (i : Nat) : List Sm := (((fstS l name).zipIdx.take i).filter fun p => decide (p.1.time + m.window ≤ mark)).map fun p => smpE l name m p.2 p.1
theorem smpN_zero (l : List Ev) (name : By) (m : Mt) (mark : Int) : smpN l name m mark 0 = [] := rfl
theorem smpN_all (l : List Ev) (name : By) (m : Mt) (mark : Int) : smpN l name m mark (fstS l name).length = smpS l name m mark := by
  unfold smpN smpS
  rw [List.take_of_length_le (by simp)]
theorem smpN_succ {l : List Ev} {name : By} {m : Mt} {mark : Int} {i : Nat} (h : i < (fstS l name).length) : smpN l name m mark (i + 1) = if (fstS l name)[i].time + m.window ≤ mark then smpN l name m mark i ++ [smpE l name m i (fstS l name)[i]] else smpN l name m mark i := by
  unfold smpN
  rw [List.take_succ_eq_append_getElem (by simpa using h), List.filter_append, List.map_append]
  simp only [List.getElem_zipIdx, Nat.zero_add]
  by_cases hc : (fstS l name)[i].time + m.window ≤ mark
  · rw [if_pos hc]; simp [hc]
  · rw [if_neg hc]; simp [hc]
theorem smpN_len (l : List Ev) (name : By) (m : Mt) (mark : Int) (i : Nat) : (smpN l name m mark i).length ≤ (fstS l name).length := by
  unfold smpN
  rw [List.length_map]
  refine Nat.le_trans (List.length_filter_le _ _) ?_
  rw [List.length_take]
  simp
  omega
end Go.Proofs.YtmnjmdajgilhiaaDoor.Cl
