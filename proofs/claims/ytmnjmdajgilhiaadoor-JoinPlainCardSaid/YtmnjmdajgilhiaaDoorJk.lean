/- Plain laws of what lies within the windows, event by event. No program in sight. The law JoinFinal in plain words: later events change no sample that is final. No program in sight. -/
import Derived.Test.YtmnjmdajgilhiaaDoorJs
set_option linter.unusedVariables false
set_option linter.unusedSimpArgs false
namespace Go.Proofs.YtmnjmdajgilhiaaDoor.Cl
open Go Go.Proofs.YtmnjmdajgilhiaaDoor.Vc Go.Proofs.YtmnjmdajgilhiaaDoor.Ax Go.Proofs.YtmnjmdajgilhiaaDoor.Id
def insL (ls : List Lk) (xs : List Ex) (w : Int) (l : List Ev) : List (List Ev) := xs.zipIdx.map fun p => insE ls xs w p.2 p.1 l
def mixB (ls : List Lk) (xs : List Ex) (name : By) (w : Int) (l : List Ev) : List Bool := xs.zipIdx.map fun p => mixE ls xs name w p.2 p.1 l
theorem insL_len (ls : List Lk) (xs : List Ex) (w : Int) (l : List Ev) : (insL ls xs w l).length = xs.length := by unfold insL; simp
theorem mixB_len (ls : List Lk) (xs : List Ex) (name : By) (w : Int) (l : List Ev) : (mixB ls xs name w l).length = xs.length := by unfold mixB; simp
theorem insL_get (ls : List Lk) (xs : List Ex) (w : Int) (l : List Ev) (i : Nat) : (insL ls xs w l)[i]? = xs[i]?.map fun x => insE ls xs w i x l := by
  unfold insL
  rw [List.getElem?_map, List.getElem?_zipIdx]
  cases xs[i]? <;> simp
theorem mixB_get (ls : List Lk) (xs : List Ex) (name : By) (w : Int) (l : List Ev) (i : Nat) : (mixB ls xs name w l)[i]? = xs[i]?.map fun x => mixE ls xs name w i x l := by
  unfold mixB
  rw [List.getElem?_map, List.getElem?_zipIdx]
  cases xs[i]? <;> simp
theorem insL_nil (ls : List Lk) (xs : List Ex) (w : Int) : insL ls xs w [] = List.replicate xs.length [] := by
  apply List.ext_getElem?
  intro i
  rw [insL_get, List.getElem?_replicate]
  by_cases h : i < xs.length
  · rw [List.getElem?_eq_getElem h, if_pos h]; rfl
  · rw [List.getElem?_eq_none (by omega), if_neg h]; rfl
theorem mixB_nil (ls : List Lk) (xs : List Ex) (name : By) (w : Int) : mixB ls xs name w [] = List.replicate xs.length false := by
  apply List.ext_getElem?
  intro i
  rw [mixB_get, List.getElem?_replicate]
  by_cases h : i < xs.length
  · rw [List.getElem?_eq_getElem h, if_pos h]; rfl
  · rw [List.getElem?_eq_none (by omega), if_neg h]; rfl
theorem insE_snoc (ls : List Lk) (xs : List Ex) (w : Int) (k : Nat) (x : Ex) (l : List Ev) (e : Ev) : insE ls xs w k x (l ++ [e]) = if owO ls xs e.id e.time = some k ∧ e.time < x.time + w then insE ls xs w k x l ++ [e] else insE ls xs w k x l := by
  unfold insE
  rw [List.filter_append]
  by_cases h1 : owO ls xs e.id e.time = some k
  · by_cases h2 : e.time < x.time + w
    · simp [h1, h2]
    · simp [h1, h2]
  · simp [h1]
theorem insL_in {ls : List Lk} {xs : List Ex} {w : Int} {l : List Ev} {e : Ev} {i : Nat} (hi : i < xs.length) (h : owO ls xs e.id e.time = some i) (ht : e.time < xs[i].time + w) : insL ls xs w (l ++ [e]) = (insL ls xs w l).set i ((insL ls xs w l)[i]'(by rw [insL_len]; exact hi) ++ [e]) := by
  apply List.ext_getElem?
  intro j
  have hg : (insL ls xs w l)[i]'(by rw [insL_len]; exact hi) = insE ls xs w i xs[i] l := by
    have := insL_get ls xs w l i
    rw [List.getElem?_eq_getElem (by rw [insL_len]; exact hi), List.getElem?_eq_getElem hi] at this
    injection this
  rw [hg, insL_get]
  by_cases hj : i = j
  · subst hj
    rw [List.getElem?_set_self (by rw [insL_len]; exact hi), List.getElem?_eq_getElem hi]
    simp only [Option.map_some, insE_snoc]
    rw [if_pos ⟨h, ht⟩]
  · rw [List.getElem?_set_ne hj, insL_get]
    cases hx : xs[j]? with
    | none => rfl
    | some x =>
      simp only [Option.map_some, insE_snoc]
      rw [if_neg fun hh => hj (by rw [h] at hh; injection hh.1)]
theorem insL_out {ls : List Lk} {xs : List Ex} {w : Int} {l : List Ev} {e : Ev} (h : ∀ i (hi : i < xs.length), owO ls xs e.id e.time = some i → ¬ e.time < xs[i].time + w) : insL ls xs w (l ++ [e]) = insL ls xs w l := by
  apply List.ext_getElem?
  intro j
  rw [insL_get, insL_get]
  cases hx : xs[j]? with
  | none => rfl
  | some x =>
    obtain ⟨hj, rfl⟩ := List.getElem?_eq_some_iff.1 hx
    simp only [Option.map_some, insE_snoc]
    rw [if_neg fun hh => h j hj hh.1 hh.2]
theorem mixE_snoc (ls : List Lk) (xs : List Ex) (name : By) (w : Int) (k : Nat) (x : Ex) (l : List Ev) (e : Ev) : mixE ls xs name w k x (l ++ [e]) = if owO ls xs e.id e.time = some k ∧ e.time < x.time + w then mixE ls xs name w k x l || (decide (e.name = name) && !decide (e.arm = x.arm)) else mixE ls xs name w k x l := by
  unfold mixE
  rw [insE_snoc]
  split
  · simp
  · rfl
theorem mixB_in {ls : List Lk} {xs : List Ex} {name : By} {w : Int} {l : List Ev} {e : Ev} {i : Nat} (hi : i < xs.length) (h : owO ls xs e.id e.time = some i) (ht : e.time < xs[i].time + w) :
    mixB ls xs name w (l ++ [e]) = (mixB ls xs name w l).set i ((mixB ls xs name w l)[i]'(by rw [mixB_len]; exact hi) || (decide (e.name = name) && !decide (e.arm = xs[i].arm))) := by
  apply List.ext_getElem?
  intro j
  have hg : (mixB ls xs name w l)[i]'(by rw [mixB_len]; exact hi) = mixE ls xs name w i xs[i] l := by
    have := mixB_get ls xs name w l i
    rw [List.getElem?_eq_getElem (by rw [mixB_len]; exact hi), List.getElem?_eq_getElem hi] at this
    injection this
  rw [hg, mixB_get]
  by_cases hj : i = j
  · subst hj
    rw [List.getElem?_set_self (by rw [mixB_len]; exact hi), List.getElem?_eq_getElem hi]
    simp only [Option.map_some, mixE_snoc]
    rw [if_pos ⟨h, ht⟩]
  · rw [List.getElem?_set_ne hj, mixB_get]
    cases hx : xs[j]? with
    | none => rfl
    | some x =>
      simp only [Option.map_some, mixE_snoc]
      rw [if_neg fun hh => hj (by rw [h] at hh; injection hh.1)]
theorem mixB_out {ls : List Lk} {xs : List Ex} {name : By} {w : Int} {l : List Ev} {e : Ev} (h : ∀ i (hi : i < xs.length), owO ls xs e.id e.time = some i → ¬ e.time < xs[i].time + w) : mixB ls xs name w (l ++ [e]) = mixB ls xs name w l := by
  apply List.ext_getElem?
  intro j
  rw [mixB_get, mixB_get]
  cases hx : xs[j]? with
  | none => rfl
  | some x =>
    obtain ⟨hj, rfl⟩ := List.getElem?_eq_some_iff.1 hx
    simp only [Option.map_some, mixE_snoc]
    rw [if_neg fun hh => h j hj hh.1 hh.2]
/-- the times asked for by all events -/
def tsO (ts : List Int) (l : List Ev) : List Int := l.foldl (fun ts e => e.time :: ts) ts
theorem tsO_snoc (ts : List Int) (l : List Ev) (e : Ev) : tsO ts (l ++ [e]) = e.time :: tsO ts l := by unfold tsO; rw [List.foldl_append]; rfl
/-- the times asked for before a first exposure -/
def tsB (b : Int) (x : Ex) (ts : List Int) (l : List Ev) : List Int := l.foldl (fun ts e => if x.time - b ≤ e.time ∧ e.time < x.time then x.time :: ts else ts) ts
theorem tsB_snoc (b : Int) (x : Ex) (ts : List Int) (l : List Ev) (e : Ev) : tsB b x ts (l ++ [e]) = if x.time - b ≤ e.time ∧ e.time < x.time then x.time :: tsB b x ts l else tsB b x ts l := by unfold tsB; rw [List.foldl_append]; rfl
theorem befE_snoc (ls : List Lk) (b : Int) (x : Ex) (l : List Ev) (e : Ev) : befE ls b x (l ++ [e]) = if x.time - b ≤ e.time ∧ e.time < x.time ∧ rtA ls x.time e.id = rtA ls x.time x.id then befE ls b x l ++ [e] else befE ls b x l := by
  unfold befE
  rw [List.filter_append]
  by_cases h1 : x.time - b ≤ e.time
  · by_cases h2 : e.time < x.time
    · by_cases h3 : rtA ls x.time e.id = rtA ls x.time x.id
      · simp [h1, h2, h3]
      · simp [h1, h2, h3]
    · simp [h1, h2]
  · simp [h1]
theorem insE_sub (ls : List Lk) (xs : List Ex) (w : Int) (k : Nat) (x : Ex) (l : List Ev) : ∀ e ∈ insE ls xs w k x l, e ∈ l := fun e he => (List.mem_filter.1 he).1
theorem insE_len (ls : List Lk) (xs : List Ex) (w : Int) (k : Nat) (x : Ex) (l : List Ev) : (insE ls xs w k x l).length ≤ l.length := List.length_filter_le _ _
theorem befE_sub (ls : List Lk) (b : Int) (x : Ex) (l : List Ev) : ∀ e ∈ befE ls b x l, e ∈ l := fun e he => (List.mem_filter.1 he).1
theorem befE_len (ls : List Lk) (b : Int) (x : Ex) (l : List Ev) : (befE ls b x l).length ≤ l.length := List.length_filter_le _ _
/-- the samples of the first i first exposures -/
def smpN (l : List Ev) (name : By) (m : Mt) (mark : Int) (i : Nat) : List Sm := (((fstS l name).zipIdx.take i).filter fun p => decide (p.1.time + m.window ≤ mark)).map fun p => smpE l name m p.2 p.1
theorem smpN_zero (l : List Ev) (name : By) (m : Mt) (mark : Int) : smpN l name m mark 0 = [] := rfl
theorem smpN_all (l : List Ev) (name : By) (m : Mt) (mark : Int) : smpN l name m mark (fstS l name).length = smpS l name m mark := by
  unfold smpN smpS
  rw [List.take_of_length_le (by simp)]
theorem smpN_succ {l : List Ev} {name : By} {m : Mt} {mark : Int} {i : Nat} (h : i < (fstS l name).length) : smpN l name m mark (i + 1) = if (fstS l name)[i].time + m.window ≤ mark then smpN l name m mark i ++ [smpE l name m i (fstS l name)[i]] else smpN l name m mark i := by
  unfold smpN
  rw [List.take_succ_eq_append_getElem (by simpa using h), List.filter_append, List.map_append]
  simp only [List.getElem_zipIdx, Nat.zero_add]
  by_cases hc : (fstS l name)[i].time + m.window ≤ mark
  · rw [if_pos hc]; simp [hc]
  · rw [if_neg hc]; simp [hc]
theorem smpN_len (l : List Ev) (name : By) (m : Mt) (mark : Int) (i : Nat) : (smpN l name m mark i).length ≤ (fstS l name).length := by
  unfold smpN
  rw [List.length_map]
  refine Nat.le_trans (List.length_filter_le _ _) ?_
  rw [List.length_take]
  simp
  omega
end Go.Proofs.YtmnjmdajgilhiaaDoor.Cl

namespace Go.Proofs.YtmnjmdajgilhiaaDoor.Cl
open Go Go.Proofs.YtmnjmdajgilhiaaDoor.Vc Go.Proofs.YtmnjmdajgilhiaaDoor.Ax Go.Proofs.YtmnjmdajgilhiaaDoor.Id
theorem ofK_app (k : Int) (p r : List Ev) : ofK k (p ++ r) = ofK k p ++ ofK k r := List.filter_append ..
theorem lksE_app (p r : List Ev) : lksE (p ++ r) = lksE p ++ lksE r := by unfold lksE; rw [ofK_app, List.map_append]
/-- links that come later do not count -/
theorem unt_app {ls rs : List Lk} {t : Int} (h : ∀ k ∈ rs, t < k.t) : unt t (ls ++ rs) = unt t ls := by
  unfold unt
  rw [List.filter_append]
  have : rs.filter (fun k => decide (k.t ≤ t)) = [] := by
    rw [List.filter_eq_nil_iff]
    intro k hk
    have := h k hk
    simp; omega
  rw [this, List.append_nil]
/-- two lists of links that are the same up to the times below a mark -/
def SameB (M : Int) (ls ls' : List Lk) : Prop := ∀ t, t < M → unt t ls' = unt t ls
theorem SameB.rt {M : Int} {ls ls' : List Lk} (h : SameB M ls ls') {t : Int} (ht : t < M) (id : By) : rtA ls' t id = rtA ls t id := by unfold rtA; rw [h t ht]
theorem SameB.wP {M : Int} {ls ls' : List Lk} (h : SameB M ls ls') {t : Int} (ht : t < M) (id : By) (x : Ex) : owP ls' t id x = owP ls t id x := by unfold owP; rw [h.rt ht, h.rt ht]
theorem SameB.wO {M : Int} {ls ls' : List Lk} (h : SameB M ls ls') {t : Int} (ht : t < M) (id : By) (xs : List Ex) : owO ls' xs id t = owO ls xs id t := by
  unfold owO
  congr 1
  funext x
  exact h.wP ht id x
theorem SameB.fst {M : Int} {ls ls' : List Lk} (h : SameB M ls ls') (name : By) : ∀ (es : List Ev), (∀ e ∈ es, e.time < M) → fstX ls' name es = fstX ls name es := by
  have : ∀ (es : List Ev) (o : List Ex), (∀ e ∈ es, e.time < M) → es.foldl (fstN ls' name) o = es.foldl (fstN ls name) o := by
    intro es
    induction es with
    | nil => intro o _; rfl
    | cons e r ih =>
      intro o he
      rw [List.foldl_cons, List.foldl_cons]
      have e1 : fstN ls' name o e = fstN ls name o e := by unfold fstN owI; rw [h.wO (he e List.mem_cons_self)]
      rw [e1]
      exact ih _ fun x hx => he x (List.mem_cons_of_mem _ hx)
  exact fun es he => this es [] he
/-- exposures that come later -/
theorem fst_more {ls : List Lk} {name : By} : ∀ (r : List Ev) (o : List Ex), ∃ o', r.foldl (fstN ls name) o = o ++ o' ∧ ∀ x ∈ o', ∃ e ∈ r, x = exE e := by
  intro r
  induction r with
  | nil => intro o; exact ⟨[], by simp, fun x hx => by cases hx⟩
  | cons e r ih =>
    intro o
    rw [List.foldl_cons]
    obtain ⟨o', h1, h2⟩ := ih (fstN ls name o e)
    unfold fstN at h1
    by_cases hc : e.name = name ∧ owI ls o e.id e.time < 0
    · rw [if_pos hc] at h1
      refine ⟨exE e :: o', by unfold fstN; rw [if_pos hc, h1]; simp, fun x hx => ?_⟩
      rcases List.mem_cons.1 hx with rfl | hx
      · exact ⟨e, List.mem_cons_self, rfl⟩
      · obtain ⟨e', he', hh⟩ := h2 x hx
        exact ⟨e', List.mem_cons_of_mem _ he', hh⟩
    · rw [if_neg hc] at h1
      refine ⟨o', by unfold fstN; rw [if_neg hc, h1], fun x hx => ?_⟩
      obtain ⟨e', he', hh⟩ := h2 x hx
      exact ⟨e', List.mem_cons_of_mem _ he', hh⟩
theorem owO_more {ls : List Lk} {xs ys : List Ex} {id : By} {t : Int} (h : ∀ y ∈ ys, t < y.time) : owO ls (xs ++ ys) id t = owO ls xs id t := by
  unfold owO
  rw [List.findIdx?_append]
  have : ys.findIdx? (owP ls t id) = none := by
    rw [List.findIdx?_eq_none_iff]
    intro y hy
    have := h y hy
    unfold owP
    rw [decide_eq_false (by omega)]
    rfl
  rw [this]
  cases xs.findIdx? (owP ls t id) <;> rfl
section
variable {p r : List Ev} {M : Int}
theorem lks_same (hr : ∀ e ∈ r, M ≤ e.time) : SameB M (lksE p) (lksE (p ++ r)) := fun t ht => by
  rw [lksE_app]
  refine unt_app fun k hk => ?_
  unfold lksE at hk
  obtain ⟨e, he, rfl⟩ := List.mem_map.1 hk
  have := hr e (List.mem_filter.1 he).1
  show t < e.time
  omega
theorem fstS_more (hp : ∀ e ∈ p, e.time < M) (hr : ∀ e ∈ r, M ≤ e.time) (name : By) : ∃ ys, fstS (p ++ r) name = fstS p name ++ ys ∧ ∀ y ∈ ys, M ≤ y.time := by
  have hs := lks_same (p := p) hr
  have e1 : fstX (lksE (p ++ r)) name (ofK 1 p) = fstS p name := hs.fst name (ofK 1 p) fun e he => hp e (List.mem_filter.1 he).1
  obtain ⟨ys, h1, h2⟩ := fst_more (ls := lksE (p ++ r)) (name := name) (ofK 1 r) (fstS p name)
  refine ⟨ys, ?_, fun y hy => ?_⟩
  · unfold fstS
    rw [ofK_app]
    show (ofK 1 p ++ ofK 1 r).foldl _ [] = _
    rw [List.foldl_append]
    show (ofK 1 r).foldl _ (fstX (lksE (p ++ r)) name (ofK 1 p)) = _
    rw [e1]
    exact h1
  · obtain ⟨e, he, rfl⟩ := h2 y hy
    exact hr e (List.mem_filter.1 he).1
/-- events behind the mark lie in no window that ends by it -/
theorem insE_more (hp : ∀ e ∈ p, e.time < M) (hr : ∀ e ∈ r, M ≤ e.time) (name : By) (w : Int) (k : Nat) (x : Ex) (hx : x.time + w ≤ M) (K : Int) : insE (lksE (p ++ r)) (fstS (p ++ r) name) w k x (ofK K (p ++ r)) = insE (lksE p) (fstS p name) w k x (ofK K p) := by
  obtain ⟨ys, hy, hyt⟩ := fstS_more hp hr name
  unfold insE
  rw [ofK_app, List.filter_append]
  have e2 : (ofK K r).filter (fun e => decide (owO (lksE (p ++ r)) (fstS (p ++ r) name) e.id e.time = some k) && decide (e.time < x.time + w)) = [] := by
    rw [List.filter_eq_nil_iff]
    intro e he
    have := hr e (List.mem_filter.1 he).1
    simp only [Bool.and_eq_true, decide_eq_true_eq]
    omega
  rw [e2, List.append_nil]
  apply List.filter_congr
  intro e he
  have ht := hp e (List.mem_filter.1 he).1
  rw [hy, owO_more fun y hy' => by have := hyt y hy'; omega, (lks_same hr).wO ht]
theorem befE_more (hp : ∀ e ∈ p, e.time < M) (hr : ∀ e ∈ r, M ≤ e.time) (b : Int) (x : Ex) (hx : x.time < M) : befE (lksE (p ++ r)) b x (ofK 2 (p ++ r)) = befE (lksE p) b x (ofK 2 p) := by
  unfold befE
  rw [ofK_app, List.filter_append]
  have e2 : (ofK 2 r).filter (fun e => decide (x.time - b ≤ e.time) && (decide (e.time < x.time) && decide (rtA (lksE (p ++ r)) x.time e.id = rtA (lksE (p ++ r)) x.time x.id))) = [] := by
    rw [List.filter_eq_nil_iff]
    intro e he
    have := hr e (List.mem_filter.1 he).1
    simp only [Bool.and_eq_true, decide_eq_true_eq]
    omega
  rw [e2, List.append_nil]
  apply List.filter_congr
  intro e he
  rw [(lks_same hr).rt hx, (lks_same hr).rt hx]
theorem smpE_more (hp : ∀ e ∈ p, e.time < M) (hr : ∀ e ∈ r, M ≤ e.time) (name : By) (m : Mt) (hw : 1 ≤ m.window) (k : Nat) (x : Ex) (hx : x.time + m.window ≤ M) : smpE (p ++ r) name m k x = smpE p name m k x := by
  unfold smpE mixE
  simp only [insE_more hp hr name m.window k x hx, befE_more hp hr m.before x (show x.time < M by omega)]
theorem smpS_more (hp : ∀ e ∈ p, e.time < M) (hr : ∀ e ∈ r, M ≤ e.time) (name : By) (m : Mt) (hw : 1 ≤ m.window) : smpS (p ++ r) name m M = smpS p name m M := by
  obtain ⟨ys, hy, hyt⟩ := fstS_more hp hr name
  unfold smpS
  rw [hy, List.zipIdx_append, List.filter_append, List.map_append]
  have e2 : (ys.zipIdx (0 + (fstS p name).length)).filter (fun q => decide (q.1.time + m.window ≤ M)) = [] := by
    rw [List.filter_eq_nil_iff]
    rintro ⟨y, j⟩ hq
    have := List.mem_zipIdx hq
    have h3 := this.2.2
    have hm : y ∈ ys := by rw [h3]; exact List.getElem_mem _
    have := hyt y hm
    simp only [decide_eq_true_eq]
    omega
  rw [e2, List.map_nil, List.append_nil]
  apply List.map_congr_left
  rintro ⟨x, k⟩ hq
  have := (List.mem_filter.1 hq).2
  exact smpE_more hp hr name m hw k x (by simpa using this)
end
/-- samples of a greater mark begin with those of a smaller one -/
theorem filter_pre {α : Type} (f : α → Int) (M M' : Int) (h : M ≤ M') : ∀ (L : List α), (L.Pairwise fun a b => f a ≤ f b) → (L.filter fun a => decide (f a ≤ M)) <+: (L.filter fun a => decide (f a ≤ M')) := by
  intro L
  induction L with
  | nil => intro _; exact List.prefix_refl _
  | cons a r ih =>
    intro hp
    rw [List.pairwise_cons] at hp
    by_cases hc : f a ≤ M
    · rw [List.filter_cons, if_pos (by simpa using hc), List.filter_cons, if_pos (by simp; omega)]
      exact (List.prefix_cons_inj a).2 (ih hp.2)
    · have : (a :: r).filter (fun a => decide (f a ≤ M)) = [] := by
        rw [List.filter_eq_nil_iff]
        intro b hb
        rcases List.mem_cons.1 hb with rfl | hb
        · simpa using hc
        · have := hp.1 b hb
          simp; omega
      rw [this]
      exact List.nil_prefix
theorem fstS_asc {l : List Ev} (name : By) (h : l.Pairwise fun a b => a.time ≤ b.time) : (fstS l name).Pairwise fun a b => a.time ≤ b.time := by
  have : ∀ (es : List Ev) (o : List Ex), (es.Pairwise fun a b => a.time ≤ b.time) → (o.Pairwise fun a b => a.time ≤ b.time) → (∀ x ∈ o, ∀ e ∈ es, x.time ≤ e.time) → (es.foldl (fstN (lksE l) name) o).Pairwise fun a b => a.time ≤ b.time := by
    intro es
    induction es with
    | nil => intro o _ h _; exact h
    | cons e r ih =>
      intro o he ho hoe
      rw [List.pairwise_cons] at he
      rw [List.foldl_cons]
      unfold fstN
      split
      · refine ih _ he.2 (List.pairwise_append.2 ⟨ho, List.pairwise_singleton _ _, fun x hx y hy => ?_⟩) fun x hx e' he' => ?_
        · rw [List.mem_singleton.1 hy]; exact hoe x hx e List.mem_cons_self
        · rcases List.mem_append.1 hx with hx | hx
          · exact hoe x hx e' (List.mem_cons_of_mem _ he')
          · rw [List.mem_singleton.1 hx]; exact he.1 e' he'
      · exact ih _ he.2 ho fun x hx e' he' => hoe x hx e' (List.mem_cons_of_mem _ he')
  exact this (ofK 1 l) [] (h.filter _) List.Pairwise.nil fun x hx => by cases hx
theorem smpS_pre {l : List Ev} (name : By) (m : Mt) {M M' : Int} (h : l.Pairwise fun a b => a.time ≤ b.time) (hM : M ≤ M') : ∃ ys, smpS l name m M' = smpS l name m M ++ ys := by
  have hz : (fstS l name).zipIdx.Pairwise fun a b => a.1.time + m.window ≤ b.1.time + m.window := by
    have h1 := fstS_asc name h
    rw [List.pairwise_iff_getElem] at h1 ⊢
    intro i j hi hj hij
    simp only [List.getElem_zipIdx]
    have := h1 i j (by simpa using hi) (by simpa using hj) hij
    omega
  obtain ⟨ys, hy⟩ := filter_pre (fun q : Ex × Nat => q.1.time + m.window) M M' hM _ hz
  refine ⟨ys.map fun q => smpE l name m q.2 q.1, ?_⟩
  unfold smpS
  rw [← List.map_append]
  congr 1
  exact hy.symm
end Go.Proofs.YtmnjmdajgilhiaaDoor.Cl
