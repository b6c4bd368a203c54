/- The walks of the join's closures that gather what is measured and seen within the windows. Condition: sizes. -/
import Derived.Test.YtmnjmdajgilhiaaDoorJv
import Derived.Test.YtmnjmdajgilhiaaDoorTr
import Derived.Test.YtmnjmdajgilhiaaDoorJk
set_option linter.unusedVariables false
set_option linter.unusedSimpArgs false
namespace Go.Proofs.YtmnjmdajgilhiaaDoor.Cl
open Go Go.RowKit Go.Proofs Go.Proofs.YtmnjmdajgilhiaaDoor.Vc Go.Proofs.YtmnjmdajgilhiaaDoor.Ax Go.Proofs.YtmnjmdajgilhiaaDoor.Id
attribute [local irreducible] loadVar storeVar Instr.indexAt Instr.index Instr.sliceAt Instr.makeSlice Instr.lookup Instr.mapUpdate Instr.range Instr.next Instr.entry Instr.makeMap Builtin.append_ Builtin.copy_ Builtin.len_ Builtin.min_ Builtin.max_ Builtin.cap_ Builtin.delete_ Builtin.clear_ convert binOp eqGuard Op.unary Calls
/-- lists of events, each in a block of its own -/
def insC (r : List Ev) : List TV := [.n 32 10 (r.map enE)]
def insK (L : List (List Ev)) : ABlk := .tree 24 1 (L.map insC) none
section
variable {G : Glob}
set_option maxHeartbeats 4000000 in
set_option maxRecDepth 100000 in
theorem s2A (L : List (List Ev)) (i : Nat) (e : Ev) (hi : i < L.length) (hl : L[i].length ≤ 50000) : AFn Tryd.prog G 43 [iv i, evA e, .ptr 0 0] 2 [(0, .var 73 [.own 1]), (1, insK L)]
    (fun a n H => a = .tup [] ∧ n = 4 ∧ H = [(0, .var 73 [.own 1]), (1, insK (L.set i (L[i] ++ [e])))]) := by
  refine AFn.gh (Gh.unfold (ell := 1) (i := i) (j := 0) rfl (by rw [List.getElem?_map, List.getElem?_eq_getElem hi]; rfl) rfl) (R' := fun a n H => a = .tup [] ∧ n = 4 ∧ H = [(0, .var 73 [.own 1]), (1, .tree 24 1 ((L.map insC).set i [.f .top]) (some (i, 0, 3))), (3, .rows 32 10 ((L[i] ++ [e]).map enE))]) ?_ ?_
  · generalize L[i] = r at *
    refine afn_of Tryd.func43 rfl mixed (by kernel_rfl) ?_
    conv => whnf
    (refine adraw pln43 [2, 4] (by kernel_rfl) ?_; conv => whnf)
    repeat' (first
      | (refine And.intro ?_ ?_ <;> (conv => whnf))
      | (refine AIn.mk' i rfl (by simp only [List.length_set, List.length_map]; omega) ?_; conv => whnf)
      | (refine ATr.here ?_; conv => whnf)
      | (refine ATs.here ?_; conv => whnf)
      | (refine VReq.mk (app_ok (by simp only [List.length_map, List.length_cons, List.length_nil]; omega) (by kernel_rfl)) ?_; conv => whnf))
    exact aend (.tup []) 4 _ [(3, .lab 5)] [] ⟨rfl, rfl, rfl⟩ rfl ⟨(by repeat' (first | rfl | trivial | apply And.intro)), ⟨rfl, rfl, rfl, rfl, rfl, rfl⟩, ⟨rfl, rfl, by rw [List.map_append]; rfl⟩, trivial⟩ (by repeat' (first | rfl | trivial | apply And.intro))
  · rintro _ _ _ ⟨rfl, rfl, rfl⟩
    have hs : i < ((L.map insC).set i [TV.f .top]).length := by rw [List.length_set, List.length_map]; exact hi
    have e1 : ((L.map insC).set i [TV.f .top]).set i ([TV.f .top].set 0 (.n 32 10 ((L[i] ++ [e]).map enE))) = (L.set i (L[i] ++ [e])).map insC := by
      rw [List.set_set, List.map_set]
      rfl
    refine ⟨4, _, Gh.fold (ell := 1) (e := 3) (i := i) (j := 0) rfl rfl (by decide) (List.getElem?_set_self (by rw [List.length_map]; exact hi)), rfl, rfl, ?_⟩
    show [(0, _), (1, ABlk.tree _ _ _ _)] = _
    rw [e1]
    rfl
abbrev boF (b : Bool) : List FV := [.v (.bool b)]
set_option maxHeartbeats 4000000 in
set_option maxRecDepth 100000 in
theorem s3A (B : List Bool) (i : Nat) (e : Ev) (name : By) (xs : List Ex) (hi : i < B.length) (hx : i < xs.length) : AFn Tryd.prog G 44 [iv i, evA e, .ptr 0 0, .ptr 2 0, .ptr 3 0] 4 [(0, .var 74 [.own 1]), (1, .rows 4 1 (B.map boF)), (2, .var 9 [tv name]), (3, .var 37 [exL xs])]
    (fun a n H => a = .tup [] ∧ n = 4 ∧ H = [(0, .var 74 [.own 1]), (1, .rows 4 1 ((B.set i (B[i] || (decide (e.name = name) && !decide (e.arm = xs[i].arm)))).map boF)), (2, .var 9 [tv name]), (3, .var 37 [exL xs])]) := by
  have hgB := List.getElem?_eq_getElem hi
  have hgx := List.getElem?_eq_getElem hx
  generalize B[i] = b0 at *
  generalize xs[i] = x at *
  refine afn_of Tryd.func44 rfl mixed (by kernel_rfl) ?_
  conv => whnf
  (refine adraw pln44 [] (by kernel_rfl) ?_; conv => whnf)
  repeat' (first
    | (refine And.intro ?_ ?_ <;> (conv => whnf))
    | (refine AIn.mk' i rfl (by simp only [List.length_map]; omega) ?_; conv => whnf)
    | (refine ARd.mapAt (by assumption) ?_; conv => whnf)
    | (refine vif_split (fun h => ?_) (fun h => ?_) <;> (conv => whnf)))
  all_goals (refine aend (.tup []) 4 _ [] [] ⟨rfl, rfl, rfl⟩ rfl ⟨(by repeat' (first | rfl | trivial | apply And.intro)), ⟨rfl, rfl, ?_⟩, (by repeat' (first | rfl | trivial | apply And.intro)), (by repeat' (first | rfl | trivial | apply And.intro)), trivial⟩ (by repeat' (first | rfl | trivial | apply And.intro)))
  all_goals (have hb : (e.arm != x.arm) = !decide (e.arm = x.arm) := by (cases h : decide (e.arm = x.arm) <;> simp_all))
  all_goals (rw [List.map_set]; simp_all [sEq_tx])
/-- within a window -/
structure Tim (xs : List Ex) (w : Int) (l : List Ev) : Prop where
  w : 0 ≤ w ∧ w ≤ 1000000000000
  xs : ∀ x ∈ xs, -1000000000000 ≤ x.time ∧ x.time ≤ 1000000000000
theorem owI_some {ls : List Lk} {xs : List Ex} {id : By} {t : Int} {i : Nat} (h : owO ls xs id t = some i) : owI ls xs id t = (i : Int) := by unfold owI; rw [h]
theorem owI_none {ls : List Lk} {xs : List Ex} {id : By} {t : Int} (h : owO ls xs id t = none) : owI ls xs id t = -1 := by unfold owI; rw [h]
abbrev fnd1 : AV := .fn (.func 43) [] [.ptr 6 0]
abbrev fnd2 : AV := .fn (.func 44) [] [.ptr 6 0, .ptr 8 0, .ptr 4 0]
set_option maxHeartbeats 8000000 in
set_option maxRecDepth 100000 in
theorem owned1A (ls : List Lk) (ts : List Int) (xs : List Ex) (m : Mt) (l : List Ev) (hls : ls.length ≤ 50000) (hxl : xs.length ≤ 50000) (hl : l.length ≤ 10000) (ht : Tim xs m.window l) :
    AFn Tryd.prog G 40 [iv 2, fnd1, .ptr 2 0, .ptr 3 0, .ptr 4 0, .ptr 5 0] 8
      [(0, ppB ls), (1, .imap (Tm ls ts)), (2, .var 24 [el l]), (3, .var 71 [.ptr 0 0]), (4, .var 37 [exL xs]), (5, mvB m), (6, .var 73 [.own 7]), (7, insK (insL ls xs m.window []))]
      (fun a n H => a = .tup [] ∧ n = 8 ∧ H = [(0, ppB ls), (1, .imap (Tm ls (tsO ts (ofK 2 l)))), (2, .var 24 [el l]), (3, .var 71 [.ptr 0 0]), (4, .var 37 [exL xs]), (5, mvB m), (6, .var 73 [.own 7]), (7, insK (insL ls xs m.window (ofK 2 l)))]) := by
  refine afnY_of Tryd.func40 rfl mixed (by kernel_rfl) ?_
  conv => whnf
  (refine acallF [] (by kernel_rfl) (jofA G l 2) ?_ ?_; (focus (repeat' (first | rfl | trivial | apply And.intro))))
  rintro _ _ _ ⟨rfl, rfl, rfl⟩
  have hol := ofK_le 2 l
  conv => whnf
  refine arange (jofI G l 2 (by omega)) 9 (fun p => [(0, ppB ls), (1, .imap (Tm ls (tsO ts ((ofK 2 l).take p)))), (2, .var 24 [el l]), (3, .var 71 [.ptr 0 0]), (4, .var 37 [exL xs]), (5, mvB m), (6, .var 73 [.own 7]), (7, insK (insL ls xs m.window ((ofK 2 l).take p))), (8, .var 75 [fnd1])]) [] [] rfl (by kernel_rfl) rfl (fun x hx => rng_1 x hx) rfl (by repeat' (first | rfl | trivial | apply And.intro)) (fun p x hx => ?_) ?_
  · obtain ⟨hp, rfl⟩ := rng_at hx
    have hsn : (ofK 2 l).take (p + 1) = (ofK 2 l).take p ++ [(ofK 2 l)[p]] := List.take_succ_eq_append_getElem hp
    have hpl : ((ofK 2 l).take p).length ≤ p := by rw [List.length_take]; omega
    rw [hsn]
    generalize (ofK 2 l)[p] = e at *
    generalize (ofK 2 l).take p = q at *
    conv => whnf
    refine acallM [0, 1] [] (by kernel_rfl) (ownerA ls (tsO ts q) xs e.id e.time hls (by omega)) rfl (by repeat' (first | rfl | trivial | apply And.intro)) (by repeat' (first | rfl | trivial | apply And.intro)) ?_
    rintro _ _ _ ⟨rfl, rfl, rfl⟩
    refine ⟨rfl, ?_⟩
    rw [tsO_snoc]
    cases ho : owO ls xs e.id e.time with
    | none =>
      rw [owI_none ho, insL_out fun i hi h => by rw [ho] at h; cases h]
      conv => whnf
      (refine adraw pln40 [] (by kernel_rfl) ?_; conv => whnf)
      exact arback [] [] rfl (by repeat' (first | rfl | trivial | apply And.intro))
    | some i =>
      obtain ⟨hi, _⟩ := owO_lt ho
      have hx := ht.xs _ (List.getElem_mem hi)
      have hw := ht.w
      have hgx := List.getElem?_eq_getElem hi
      have hin := insL_in (e := e) (l := q) (ls := ls) (w := m.window) hi ho
      have hout : ∀ j (hj : j < xs.length), owO ls xs e.id e.time = some j → j = i := fun j hj h => by rw [ho] at h; injection h with h; exact h.symm
      have hil : i < (insL ls xs m.window q).length := by rw [insL_len]; exact hi
      have hlen : (insL ls xs m.window q)[i].length ≤ 50000 := by (have h1 := insL_get ls xs m.window q i; rw [List.getElem?_eq_getElem hil, hgx] at h1; injection h1 with h1; rw [h1]; have := insE_len ls xs m.window i xs[i] q; exact Nat.le_trans this (by omega))
      rw [owI_some ho]
      conv => whnf
      (refine adraw pln40 [] (by kernel_rfl) ?_; conv => whnf)
      refine AIn.mk' i rfl (by rw [List.length_map]; exact hi) ?_
      conv => whnf
      refine ARd.mapAt hgx ?_
      conv => whnf
      refine AAr.i64 (by omega) ?_
      conv => whnf
      refine vif_split (fun h => ?_) (fun h => ?_)
      · rw [hin (by simpa using h)]
        conv => whnf
        refine acallM [6, 7] [] (by kernel_rfl) (s2A (insL ls xs m.window q) i e hil hlen) rfl (by repeat' (first | rfl | trivial | apply And.intro)) (by repeat' (first | rfl | trivial | apply And.intro)) ?_
        rintro _ _ _ ⟨rfl, rfl, rfl⟩
        refine ⟨rfl, ?_⟩
        conv => whnf
        exact arback [] [] rfl (by repeat' (first | rfl | trivial | apply And.intro))
      · rw [insL_out fun j hj h' => by have := hout j hj h'; subst this; simpa using h]
        conv => whnf
        exact arback [] [] rfl (by repeat' (first | rfl | trivial | apply And.intro))
  · rw [List.length_map, List.take_length]
    conv => whnf
    exact aend (.tup []) 8 _ [] [] ⟨rfl, rfl, rfl⟩ rfl (by repeat' (first | rfl | trivial | apply And.intro)) (by repeat' (first | rfl | trivial | apply And.intro))
set_option maxHeartbeats 8000000 in
set_option maxRecDepth 100000 in
theorem owned2A (ls : List Lk) (ts : List Int) (xs : List Ex) (m : Mt) (l : List Ev) (name : By) (hls : ls.length ≤ 50000) (hxl : xs.length ≤ 50000) (hl : l.length ≤ 10000) (ht : Tim xs m.window l) :
    AFn Tryd.prog G 40 [iv 1, fnd2, .ptr 2 0, .ptr 3 0, .ptr 4 0, .ptr 5 0] 9
      [(0, ppB ls), (1, .imap (Tm ls ts)), (2, .var 24 [el l]), (3, .var 71 [.ptr 0 0]), (4, .var 37 [exL xs]), (5, mvB m), (6, .var 74 [.own 7]), (7, .rows 4 1 ((mixB ls xs name m.window []).map boF)), (8, .var 9 [tv name])]
      (fun a n H => a = .tup [] ∧ n = 9 ∧ H = [(0, ppB ls), (1, .imap (Tm ls (tsO ts (ofK 1 l)))), (2, .var 24 [el l]), (3, .var 71 [.ptr 0 0]), (4, .var 37 [exL xs]), (5, mvB m), (6, .var 74 [.own 7]), (7, .rows 4 1 ((mixB ls xs name m.window (ofK 1 l)).map boF)), (8, .var 9 [tv name])]) := by
  refine afnY_of Tryd.func40 rfl mixed (by kernel_rfl) ?_
  conv => whnf
  (refine acallF [] (by kernel_rfl) (jofA G l 1) ?_ ?_; (focus (repeat' (first | rfl | trivial | apply And.intro))))
  rintro _ _ _ ⟨rfl, rfl, rfl⟩
  have hol := ofK_le 1 l
  conv => whnf
  refine arange (jofI G l 1 (by omega)) 10 (fun p => [(0, ppB ls), (1, .imap (Tm ls (tsO ts ((ofK 1 l).take p)))), (2, .var 24 [el l]), (3, .var 71 [.ptr 0 0]), (4, .var 37 [exL xs]), (5, mvB m), (6, .var 74 [.own 7]), (7, .rows 4 1 ((mixB ls xs name m.window ((ofK 1 l).take p)).map boF)), (8, .var 9 [tv name]), (9, .var 75 [fnd2])]) [] [] rfl (by kernel_rfl) rfl (fun x hx => rng_1 x hx) rfl (by repeat' (first | rfl | trivial | apply And.intro)) (fun p x hx => ?_) ?_
  · obtain ⟨hp, rfl⟩ := rng_at hx
    have hsn : (ofK 1 l).take (p + 1) = (ofK 1 l).take p ++ [(ofK 1 l)[p]] := List.take_succ_eq_append_getElem hp
    have hpl : ((ofK 1 l).take p).length ≤ p := by rw [List.length_take]; omega
    rw [hsn]
    generalize (ofK 1 l)[p] = e at *
    generalize (ofK 1 l).take p = q at *
    conv => whnf
    refine acallM [0, 1] [] (by kernel_rfl) (ownerA ls (tsO ts q) xs e.id e.time hls (by omega)) rfl (by repeat' (first | rfl | trivial | apply And.intro)) (by repeat' (first | rfl | trivial | apply And.intro)) ?_
    rintro _ _ _ ⟨rfl, rfl, rfl⟩
    refine ⟨rfl, ?_⟩
    rw [tsO_snoc]
    cases ho : owO ls xs e.id e.time with
    | none =>
      rw [owI_none ho, mixB_out fun i hi h => by rw [ho] at h; cases h]
      conv => whnf
      (refine adraw pln40 [] (by kernel_rfl) ?_; conv => whnf)
      exact arback [] [] rfl (by repeat' (first | rfl | trivial | apply And.intro))
    | some i =>
      obtain ⟨hi, _⟩ := owO_lt ho
      have hx := ht.xs _ (List.getElem_mem hi)
      have hw := ht.w
      have hgx := List.getElem?_eq_getElem hi
      have hin := mixB_in (name := name) (e := e) (l := q) (ls := ls) (w := m.window) hi ho
      have hout : ∀ j (hj : j < xs.length), owO ls xs e.id e.time = some j → j = i := fun j hj h => by rw [ho] at h; injection h with h; exact h.symm
      have hil : i < (mixB ls xs name m.window q).length := by rw [mixB_len]; exact hi
      skip
      rw [owI_some ho]
      conv => whnf
      (refine adraw pln40 [] (by kernel_rfl) ?_; conv => whnf)
      refine AIn.mk' i rfl (by rw [List.length_map]; exact hi) ?_
      conv => whnf
      refine ARd.mapAt hgx ?_
      conv => whnf
      refine AAr.i64 (by omega) ?_
      conv => whnf
      refine vif_split (fun h => ?_) (fun h => ?_)
      · rw [hin (by simpa using h)]
        conv => whnf
        refine acallM [6, 7, 8, 4] [] (by kernel_rfl) (s3A (mixB ls xs name m.window q) i e name xs hil hi) rfl (by repeat' (first | rfl | trivial | apply And.intro)) (by repeat' (first | rfl | trivial | apply And.intro)) ?_
        rintro _ _ _ ⟨rfl, rfl, rfl⟩
        refine ⟨rfl, ?_⟩
        conv => whnf
        exact arback [] [] rfl (by repeat' (first | rfl | trivial | apply And.intro))
      · rw [mixB_out fun j hj h' => by have := hout j hj h'; subst this; simpa using h]
        conv => whnf
        exact arback [] [] rfl (by repeat' (first | rfl | trivial | apply And.intro))
  · rw [List.length_map, List.take_length]
    conv => whnf
    exact aend (.tup []) 9 _ [] [] ⟨rfl, rfl, rfl⟩ rfl (by repeat' (first | rfl | trivial | apply And.intro)) (by repeat' (first | rfl | trivial | apply And.intro))
def nilE : List FV := [.v (.slice none 0 0)]
def frzE (r : List Ev) : List FV := [.lst 10 (r.map enE)]
theorem owned1G (ls : List Lk) (ts : List Int) (xs : List Ex) (m : Mt) (l : List Ev) (hls : ls.length ≤ 50000) (hxl : xs.length ≤ 50000) (hl : l.length ≤ 10000) (ht : Tim xs m.window l) :
    AFn Tryd.prog G 40 [iv 2, fnd1, .ptr 2 0, .ptr 3 0, .ptr 4 0, .ptr 5 0] 8
      [(0, ppB ls), (1, .imap (Tm ls ts)), (2, .var 24 [el l]), (3, .var 71 [.ptr 0 0]), (4, .var 37 [exL xs]), (5, mvB m), (6, .var 73 [.own 7]), (7, .rows 24 1 (List.replicate xs.length nilE))]
      (fun a n H => a = .tup [] ∧ n = 8 ∧ H = [(0, ppB ls), (1, .imap (Tm ls (tsO ts (ofK 2 l)))), (2, .var 24 [el l]), (3, .var 71 [.ptr 0 0]), (4, .var 37 [exL xs]), (5, mvB m), (6, .var 73 [.own 7]), (7, .rows 24 1 ((insL ls xs m.window (ofK 2 l)).map frzE))]) := by
  have e : (List.replicate xs.length nilE).map (fun r => r.map (tvOf 32 10)) = (insL ls xs m.window []).map insC := by
    rw [insL_nil, List.map_replicate, List.map_replicate]
    rfl
  refine AFn.gh (Gh.tree (ell := 7) 32 10 rfl) (R' := fun a n H => a = .tup [] ∧ n = 8 ∧ H = [(0, ppB ls), (1, .imap (Tm ls (tsO ts (ofK 2 l)))), (2, .var 24 [el l]), (3, .var 71 [.ptr 0 0]), (4, .var 37 [exL xs]), (5, mvB m), (6, .var 73 [.own 7]), (7, insK (insL ls xs m.window (ofK 2 l)))]) ?_ ?_
  · show AFn _ _ _ _ _ [_, _, _, _, _, _, _, (7, ABlk.tree _ _ _ _)] _
    rw [e]
    exact owned1A ls ts xs m l hls hxl hl ht
  · rintro _ _ _ ⟨rfl, rfl, rfl⟩
    refine ⟨8, _, Gh.freeze (ell := 7) rfl, rfl, rfl, ?_⟩
    show [_, _, _, _, _, _, _, (7, ABlk.rows _ _ _)] = _
    rw [List.map_map]
    rfl
end
end Go.Proofs.YtmnjmdajgilhiaaDoor.Cl
