/- The walks of the join's owner, first, First and Owner. Condition: sizes. -/
import Derived.Test.YtmnjmdajgilhiaaDoorJr
set_option linter.unusedVariables false
set_option linter.unusedSimpArgs false
namespace Go.Proofs.YtmnjmdajgilhiaaDoor.Cl
open Go Go.RowKit Go.Proofs Go.Proofs.YtmnjmdajgilhiaaDoor.Vc Go.Proofs.YtmnjmdajgilhiaaDoor.Ax Go.Proofs.YtmnjmdajgilhiaaDoor.Id
attribute [local irreducible] loadVar storeVar Instr.indexAt Instr.index Instr.sliceAt Instr.makeSlice Instr.lookup Instr.mapUpdate Instr.range Instr.next Instr.entry Instr.makeMap Builtin.append_ Builtin.copy_ Builtin.len_ Builtin.min_ Builtin.max_ Builtin.cap_ Builtin.delete_ Builtin.clear_ convert binOp eqGuard Op.unary Calls
theorem rtA_id (ls : List Lk) (t : Int) (id : By) : rt (unt t ls) (ba id) = rtA ls t id := rfl
/-- the times asked for by a list of events -/
def tsN (name : By) (ts : List Int) (e : Ev) : List Int := if e.name = name then e.time :: ts else ts
def tsF (name : By) (ts : List Int) (l : List Ev) : List Int := l.foldl (tsN name) ts
theorem tsF_snoc (name : By) (ts : List Int) (l : List Ev) (e : Ev) : tsF name ts (l ++ [e]) = tsN name (tsF name ts l) e := by unfold tsF; rw [List.foldl_append]; rfl
section
variable {G : Glob}
set_option maxHeartbeats 4000000 in
set_option maxRecDepth 100000 in
theorem ownerA (ls : List Lk) (ts : List Int) (xs : List Ex) (id : By) (t : Int) (hl : ls.length ≤ 50000) (hx : xs.length ≤ 100000) : AFn Tryd.prog G 42 [.ptr 0 0, exL xs, tv id, iv t] 2 [(0, ppB ls), (1, .imap (Tm ls ts))] (fun a n H => a = iv (owI ls xs id t) ∧ n = 2 ∧ H = [(0, ppB ls), (1, .imap (Tm ls (t :: ts)))]) := by
  refine afn_of Tryd.func42 rfl mixed (by kernel_rfl) ?_
  conv => whnf
  refine acallM [0, 1] [] (by kernel_rfl) (jrootA ls ts t id hl) rfl (by repeat' (first | rfl | trivial | apply And.intro)) (by repeat' (first | rfl | trivial | apply And.intro)) ?_
  rintro _ _ _ ⟨rfl, rfl, rfl⟩
  refine ⟨rfl, ?_⟩
  conv => whnf
  refine aloop ws42_1 2 [18] (fun i : Nat => [(18, iv i)]) (fun i => [(0, ppB ls), (1, .imap (Tm ls (t :: ts)))]) (fun i => i ≤ xs.length ∧ ∀ j (h : j < xs.length), j < i → owP ls t id xs[j] = false) (fun i => xs.length - i) [] [] 0 (by kernel_rfl) (fun _ => rfl) rfl ⟨Nat.zero_le _, fun j _ h => absurd h (Nat.not_lt_zero j)⟩ (by repeat' (first | rfl | trivial | apply And.intro)) (by repeat' (first | rfl | trivial | apply And.intro)) ?_
  rintro i ⟨hi, hno⟩
  conv => whnf
  refine vif_split (fun h => ?_) (fun h => ?_)
  rotate_left 1
  · have hie : i = xs.length := by simp at h; omega
    subst hie
    have e : owI ls xs id t = -1 := by unfold owI; rw [owO_none fun j h => hno j h h]
    conv => whnf
    exact aend (iv (owI ls xs id t)) 2 _ [] [] ⟨rfl, rfl, rfl⟩ rfl (by repeat' (first | rfl | trivial | apply And.intro)) (by rw [e]; repeat' (first | rfl | trivial | apply And.intro))
  have hlt : i < xs.length := by simp at h; omega
  have hP : owP ls t id xs[i] = (decide (xs[i].time ≤ t) && decide (rtA ls t xs[i].id = rtA ls t id)) := rfl
  have hg := List.getElem?_eq_getElem hlt
  have hsome : owP ls t id xs[i] = true → owI ls xs id t = (i : Int) := fun h => by unfold owI; rw [owO_some hlt h fun j hj => hno j (by omega) hj]
  have hnext : owP ls t id xs[i] = false → i + 1 ≤ xs.length ∧ ∀ j (h : j < xs.length), j < i + 1 → owP ls t id xs[j] = false := fun h0 => ⟨hlt, fun j h hj => by
    rcases Nat.lt_or_ge j i with h1 | h1
    · exact hno j h h1
    · have : j = i := by omega
      subst this
      exact h0⟩
  generalize xs[i] = x at *
  conv => whnf
  refine AIn.mk' i rfl (by rw [List.length_map]; exact hlt) ?_
  conv => whnf
  refine ARd.mapAt hg ?_
  conv => whnf
  refine vif_split (fun h1 => ?_) (fun h1 => ?_)
  rotate_left 1
  · conv => whnf
    refine AAr.i64 (by omega) ?_
    conv => whnf
    exact aback (i + 1) [] [] rfl (by show xs.length - (i + 1) < xs.length - i; omega) (hnext (by rw [hP, decide_eq_false (by simpa using h1)]; rfl)) (by repeat' (first | rfl | trivial | apply And.intro)) (by repeat' (first | rfl | trivial | apply And.intro))
  conv => whnf
  refine acallM [0, 1] [] (by kernel_rfl) (jrootA ls (t :: ts) t x.id hl) rfl (by repeat' (first | rfl | trivial | apply And.intro)) (by repeat' (first | rfl | trivial | apply And.intro)) ?_
  rintro _ _ _ ⟨rfl, rfl, rfl⟩
  refine ⟨rfl, ?_⟩
  rw [Tm_two]
  conv => whnf
  refine vif_split (fun h2 => ?_) (fun h2 => ?_)
  · have h3 := (sEq_iff _ _).1 h2
    have e := hsome (by rw [hP, decide_eq_true (by simpa using h1), decide_eq_true h3]; rfl)
    conv => whnf
    exact aend (iv (owI ls xs id t)) 2 _ [] [] ⟨rfl, rfl, rfl⟩ rfl (by repeat' (first | rfl | trivial | apply And.intro)) (by rw [e]; repeat' (first | rfl | trivial | apply And.intro))
  · have h3 : ¬ rtA ls t x.id = rtA ls t id := fun e => by rw [(sEq_iff _ _).2 e] at h2; cases h2
    conv => whnf
    refine AAr.i64 (by omega) ?_
    conv => whnf
    exact aback (i + 1) [] [] rfl (by show xs.length - (i + 1) < xs.length - i; omega) (hnext (by rw [hP, decide_eq_false h3, Bool.and_false])) (by repeat' (first | rfl | trivial | apply And.intro)) (by repeat' (first | rfl | trivial | apply And.intro))
set_option maxHeartbeats 4000000 in
set_option maxRecDepth 100000 in
theorem ownerOA (ls : List Lk) (ts : List Int) (xs : List Ex) (id : By) (t : Int) (hl : ls.length ≤ 50000) (hx : xs.length ≤ 100000) : AFn Tryd.prog G 42 [.ptr 0 0, .own 2, tv id, iv t] 3 [(0, ppB ls), (1, .imap (Tm ls ts)), (2, .rows 40 6 (xs.map exF))] (fun a n H => a = iv (owI ls xs id t) ∧ n = 3 ∧ H = [(0, ppB ls), (1, .imap (Tm ls (t :: ts))), (2, .rows 40 6 (xs.map exF))]) := by
  refine afn_of Tryd.func42 rfl mixed (by kernel_rfl) ?_
  conv => whnf
  refine acallM [0, 1] [] (by kernel_rfl) (jrootA ls ts t id hl) rfl (by repeat' (first | rfl | trivial | apply And.intro)) (by repeat' (first | rfl | trivial | apply And.intro)) ?_
  rintro _ _ _ ⟨rfl, rfl, rfl⟩
  refine ⟨rfl, ?_⟩
  conv => whnf
  refine aloop ws42_1 3 [18] (fun i : Nat => [(18, iv i)]) (fun i => [(0, ppB ls), (1, .imap (Tm ls (t :: ts))), (2, .rows 40 6 (xs.map exF))]) (fun i => i ≤ xs.length ∧ ∀ j (h : j < xs.length), j < i → owP ls t id xs[j] = false) (fun i => xs.length - i) [] [] 0 (by kernel_rfl) (fun _ => rfl) rfl ⟨Nat.zero_le _, fun j _ h => absurd h (Nat.not_lt_zero j)⟩ (by repeat' (first | rfl | trivial | apply And.intro)) (by repeat' (first | rfl | trivial | apply And.intro)) ?_
  rintro i ⟨hi, hno⟩
  conv => whnf
  refine vif_split (fun h => ?_) (fun h => ?_)
  rotate_left 1
  · have hie : i = xs.length := by simp at h; omega
    subst hie
    have e : owI ls xs id t = -1 := by unfold owI; rw [owO_none fun j h => hno j h h]
    conv => whnf
    exact aend (iv (owI ls xs id t)) 3 _ [] [] ⟨rfl, rfl, rfl⟩ rfl (by repeat' (first | rfl | trivial | apply And.intro)) (by rw [e]; repeat' (first | rfl | trivial | apply And.intro))
  have hlt : i < xs.length := by simp at h; omega
  have hP : owP ls t id xs[i] = (decide (xs[i].time ≤ t) && decide (rtA ls t xs[i].id = rtA ls t id)) := rfl
  have hg := List.getElem?_eq_getElem hlt
  have hsome : owP ls t id xs[i] = true → owI ls xs id t = (i : Int) := fun h => by unfold owI; rw [owO_some hlt h fun j hj => hno j (by omega) hj]
  have hnext : owP ls t id xs[i] = false → i + 1 ≤ xs.length ∧ ∀ j (h : j < xs.length), j < i + 1 → owP ls t id xs[j] = false := fun h0 => ⟨hlt, fun j h hj => by
    rcases Nat.lt_or_ge j i with h1 | h1
    · exact hno j h h1
    · have : j = i := by omega
      subst this
      exact h0⟩
  generalize xs[i] = x at *
  conv => whnf
  refine AIn.mk' i rfl (by rw [List.length_map]; exact hlt) ?_
  conv => whnf
  refine ARd.mapAt hg ?_
  conv => whnf
  refine vif_split (fun h1 => ?_) (fun h1 => ?_)
  rotate_left 1
  · conv => whnf
    refine AAr.i64 (by omega) ?_
    conv => whnf
    exact aback (i + 1) [] [] rfl (by show xs.length - (i + 1) < xs.length - i; omega) (hnext (by rw [hP, decide_eq_false (by simpa using h1)]; rfl)) (by repeat' (first | rfl | trivial | apply And.intro)) (by repeat' (first | rfl | trivial | apply And.intro))
  conv => whnf
  refine acallM [0, 1] [] (by kernel_rfl) (jrootA ls (t :: ts) t x.id hl) rfl (by repeat' (first | rfl | trivial | apply And.intro)) (by repeat' (first | rfl | trivial | apply And.intro)) ?_
  rintro _ _ _ ⟨rfl, rfl, rfl⟩
  refine ⟨rfl, ?_⟩
  rw [Tm_two]
  conv => whnf
  refine vif_split (fun h2 => ?_) (fun h2 => ?_)
  · have h3 := (sEq_iff _ _).1 h2
    have e := hsome (by rw [hP, decide_eq_true (by simpa using h1), decide_eq_true h3]; rfl)
    conv => whnf
    exact aend (iv (owI ls xs id t)) 3 _ [] [] ⟨rfl, rfl, rfl⟩ rfl (by repeat' (first | rfl | trivial | apply And.intro)) (by rw [e]; repeat' (first | rfl | trivial | apply And.intro))
  · have h3 : ¬ rtA ls t x.id = rtA ls t id := fun e => by rw [(sEq_iff _ _).2 e] at h2; cases h2
    conv => whnf
    refine AAr.i64 (by omega) ?_
    conv => whnf
    exact aback (i + 1) [] [] rfl (by show xs.length - (i + 1) < xs.length - i; omega) (hnext (by rw [hP, decide_eq_false h3, Bool.and_false])) (by repeat' (first | rfl | trivial | apply And.intro)) (by repeat' (first | rfl | trivial | apply And.intro))
set_option maxHeartbeats 8000000 in
set_option maxRecDepth 100000 in
theorem jfirstA (ls : List Lk) (ts : List Int) (l : List Ev) (name : By) (hls : ls.length ≤ 50000) (hl : l.length ≤ 50000) : AFn Tryd.prog G 39 [.ptr 0 0, el l, tv name] 2 [(0, ppB ls), (1, .imap (Tm ls ts))] (fun a n H => a = exL (fstX ls name (ofK 1 l)) ∧ n = 2 ∧ H = [(0, ppB ls), (1, .imap (Tm ls (tsF name ts (ofK 1 l))))]) := by
  refine afnY_of Tryd.func39 rfl mixed (by kernel_rfl) ?_
  conv => whnf
  (refine acallF [] (by kernel_rfl) (jofA G l 1) ?_ ?_; (focus (repeat' (first | rfl | trivial | apply And.intro))))
  rintro _ _ _ ⟨rfl, rfl, rfl⟩
  have hol := ofK_le 1 l
  conv => whnf
  refine arange (jofI G l 1 (by omega)) 6 (fun i => [(0, ppB ls), (1, .imap (Tm ls (tsF name ts ((ofK 1 l).take i)))), (2, .var 71 [.ptr 0 0]), (3, .var 9 [tv name]), (4, .var 37 [.own 5]), (5, .rows 40 6 ((fstX ls name ((ofK 1 l).take i)).map exF))]) [(5, .nil)] [] rfl (by kernel_rfl) rfl (fun x hx => rng_1 x hx) rfl (by repeat' (first | rfl | trivial | apply And.intro)) (fun i x hx => ?_) ?_
  · obtain ⟨hi, rfl⟩ := rng_at hx
    have hsn : (ofK 1 l).take (i + 1) = (ofK 1 l).take i ++ [(ofK 1 l)[i]] := List.take_succ_eq_append_getElem hi
    have h1 := fstX_snoc ls name ((ofK 1 l).take i) (ofK 1 l)[i]
    have h2 := tsF_snoc name ts ((ofK 1 l).take i) (ofK 1 l)[i]
    have h3 := fstX_len ls name ((ofK 1 l).take i)
    rw [List.length_take] at h3
    rw [← hsn] at h1 h2
    generalize (ofK 1 l)[i] = e at *
    generalize fstX ls name ((ofK 1 l).take i) = o at *
    generalize tsF name ts ((ofK 1 l).take i) = ts' at *
    unfold fstN at h1
    unfold tsN at h2
    conv => whnf
    refine vif_split (fun h => ?_) (fun h => ?_)
    rotate_left 1
    · have hne : ¬ e.name = name := by simpa [sEq_tx] using h
      rw [if_neg (fun h => hne h.1)] at h1
      rw [if_neg hne] at h2
      conv => whnf
      refine arback [(5, .lab 5)] [] rfl ⟨(by repeat' (first | rfl | trivial | apply And.intro)), ?_, (by repeat' (first | rfl | trivial | apply And.intro)), (by repeat' (first | rfl | trivial | apply And.intro)), (by repeat' (first | rfl | trivial | apply And.intro)), ?_, trivial⟩
      · show Tm ls ts' = Tm ls _; rw [h2]
      · exact ⟨rfl, rfl, by rw [h1]⟩
    have hna : e.name = name := by simpa [sEq_tx] using h
    rw [if_pos hna] at h2
    conv => whnf
    refine acallM [0, 1, 5] [] (by kernel_rfl) (ownerOA ls ts' o e.id e.time hls (by omega)) rfl (by repeat' (first | rfl | trivial | apply And.intro)) (by repeat' (first | rfl | trivial | apply And.intro)) ?_
    rintro _ _ _ ⟨rfl, rfl, rfl⟩
    refine ⟨rfl, ?_⟩
    conv => whnf
    refine vif_split (fun h => ?_) (fun h => ?_)
    · rw [if_pos ⟨hna, by simpa using h⟩] at h1
      conv => whnf
      refine VReq.mk (app_ok (by simp only [List.length_map, List.length_cons, List.length_nil]; omega) (by kernel_rfl)) ?_
      conv => whnf
      refine arback [(5, .lab 8)] [] rfl ⟨(by repeat' (first | rfl | trivial | apply And.intro)), ?_, (by repeat' (first | rfl | trivial | apply And.intro)), (by repeat' (first | rfl | trivial | apply And.intro)), (by repeat' (first | rfl | trivial | apply And.intro)), ?_, trivial⟩
      · show Tm ls (e.time :: ts') = Tm ls _; rw [h2]
      · refine ⟨rfl, rfl, ?_⟩
        rw [h1, List.map_append]
        rfl
    · rw [if_neg (fun h' => by simp at h; omega)] at h1
      conv => whnf
      refine arback [(5, .lab 5)] [] rfl ⟨(by repeat' (first | rfl | trivial | apply And.intro)), ?_, (by repeat' (first | rfl | trivial | apply And.intro)), (by repeat' (first | rfl | trivial | apply And.intro)), (by repeat' (first | rfl | trivial | apply And.intro)), ?_, trivial⟩
      · show Tm ls (e.time :: ts') = Tm ls _; rw [h2]
      · exact ⟨rfl, rfl, by rw [h1]⟩
  · rw [List.length_map, List.take_length]
    conv => whnf
    exact aend (exL (fstX ls name (ofK 1 l))) 2 _ [] [5] ⟨rfl, rfl, rfl⟩ rfl (by repeat' (first | rfl | trivial | apply And.intro)) (by repeat' (first | rfl | trivial | apply And.intro))
set_option maxRecDepth 100000 in
theorem jFirstA (l : List Ev) (name : By) (hl : l.length ≤ 50000) : AFn Tryd.prog G 16 [el l, tv name] 0 [] (Is (exL (fstS l name))) := by
  have hls : (lksE l).length ≤ 50000 := by unfold lksE; rw [List.length_map]; have := ofK_le 3 l; omega
  refine afn_of Tryd.func16 rfl mixed (by kernel_rfl) ?_
  conv => whnf
  (refine acallF [] (by kernel_rfl) (meetA l (by omega)) ?_ ?_; (focus (repeat' (first | rfl | trivial | apply And.intro))))
  rintro _ _ _ ⟨rfl, rfl, rfl⟩
  conv => whnf
  refine acallM [0, 1] [] (by kernel_rfl) (jfirstA (lksE l) [] l name hls hl) rfl (by repeat' (first | rfl | trivial | apply And.intro)) (by repeat' (first | rfl | trivial | apply And.intro)) ?_
  rintro _ _ _ ⟨rfl, rfl, rfl⟩
  refine ⟨rfl, ?_⟩
  conv => whnf
  exact aret [] (by repeat' (first | rfl | trivial | apply And.intro))
set_option maxRecDepth 100000 in
theorem jOwnerA (l : List Ev) (xs : List Ex) (id : By) (t : Int) (hl : l.length ≤ 50000) (hx : xs.length ≤ 100000) : AFn Tryd.prog G 25 [el l, exL xs, tv id, iv t] 0 [] (Is (iv (owI (lksE l) xs id t))) := by
  have hls : (lksE l).length ≤ 50000 := by unfold lksE; rw [List.length_map]; have := ofK_le 3 l; omega
  refine afn_of Tryd.func25 rfl mixed (by kernel_rfl) ?_
  conv => whnf
  (refine acallF [] (by kernel_rfl) (meetA l (by omega)) ?_ ?_; (focus (repeat' (first | rfl | trivial | apply And.intro))))
  rintro _ _ _ ⟨rfl, rfl, rfl⟩
  conv => whnf
  refine acallM [0, 1] [] (by kernel_rfl) (ownerA (lksE l) [] xs id t hls hx) rfl (by repeat' (first | rfl | trivial | apply And.intro)) (by repeat' (first | rfl | trivial | apply And.intro)) ?_
  rintro _ _ _ ⟨rfl, rfl, rfl⟩
  refine ⟨rfl, ?_⟩
  conv => whnf
  exact aret [] (by repeat' (first | rfl | trivial | apply And.intro))
end
end Go.Proofs.YtmnjmdajgilhiaaDoor.Cl
