/- The walk of column.Scan over the encoding of a table. Condition: sizes. -/
import Derived.Test.YtmhpfadbmpipkaaGreatDoorTb8
import Derived.Test.YtmhpfadbmpipkaaGreatDoorTb4
set_option linter.unusedVariables false
set_option linter.unusedSimpArgs false
namespace Go.Proofs.YtmhpfadbmpipkaaGreatDoor.Cl
open Go Go.RowKit Go.Proofs Go.Proofs.YtmhpfadbmpipkaaGreatDoor.Vc Go.Proofs.YtmhpfadbmpipkaaGreatDoor.Ax Go.Proofs.YtmhpfadbmpipkaaGreatDoor.Ky
attribute [local irreducible] loadVar storeVar Instr.indexAt Instr.index Instr.sliceAt Instr.makeSlice Instr.lookup Instr.mapUpdate Instr.range Instr.next Instr.entry Instr.makeMap Builtin.append_ Builtin.copy_ Builtin.len_ Builtin.min_ Builtin.max_ Builtin.cap_ Builtin.delete_ Builtin.clear_ convert binOp eqGuard Op.unary Calls
attribute [local irreducible] best ints en bd txs dsT
/-- the events of a range of times -/
def inT (f t : Int) (e : Ev) : Bool := decide (f ≤ e.time) && decide (e.time < t)
def sel (f t : Int) (l : List Ev) : List Ev := l.filter (inT f t)
/-- whether a chunk is counted -/
def hit (f t : Int) (c : List Ev) : Bool := decide ((lims c).1 < t) && decide (f ≤ (lims c).2)
def selC (f t : Int) (l : List Ev) (i : Nat) : List Ev := (List.range i).flatMap fun j => if hit f t (ch l j) then sel f t (ch l j) else []
def cntC (f t : Int) (l : List Ev) (i : Nat) : Nat := ((List.range i).filter fun j => hit f t (ch l j)).length
def ScO (f t : Int) (l : List Ev) (a : AV) (m : Nat) (H : AHeap) : Prop := a = .tup [el (selC f t l (nC l)), iv (cntC f t l (nC l)), iv 0] ∧ m = 0 ∧ H = []
theorem selC_succ (f t : Int) (l : List Ev) (i : Nat) : selC f t l (i + 1) = selC f t l i ++ (if hit f t (ch l i) then sel f t (ch l i) else []) := by
  unfold selC; rw [List.range_succ, List.flatMap_append]; simp
theorem cntC_succ (f t : Int) (l : List Ev) (i : Nat) : cntC f t l (i + 1) = cntC f t l i + (if hit f t (ch l i) then 1 else 0) := by
  unfold cntC
  rw [List.range_succ, List.filter_append, List.length_append]
  by_cases h : hit f t (ch l i) = true
  · simp [h]
  · simp [h]
theorem cntC_le (f t : Int) (l : List Ev) (i : Nat) : cntC f t l i ≤ i := by
  have := List.length_filter_le (fun j => hit f t (ch l j)) (List.range i)
  rw [List.length_range] at this
  exact this
theorem selC_le (f t : Int) (l : List Ev) (i : Nat) : (selC f t l i).length ≤ 16 * i := by
  induction i with
  | zero => simp [selC]
  | succ i ih =>
    rw [selC_succ, List.length_append]
    have h1 : (if hit f t (ch l i) then sel f t (ch l i) else []).length ≤ 16 := by
      split
      · have := List.length_filter_le (inT f t) (ch l i)
        have h2 : (ch l i).length ≤ 16 := by unfold ch; rw [List.length_take]; omega
        unfold sel; omega
      · simp
    omega
theorem sel_take (f t : Int) {l : List Ev} {j : Nat} (h : j < l.length) : sel f t (l.take (j + 1)) = sel f t (l.take j) ++ (if inT f t l[j] then [l[j]] else []) := by
  unfold sel
  rw [List.take_succ_eq_append_getElem h, List.filter_append]
  by_cases hc : inT f t l[j] = true
  · simp [hc]
  · simp [hc]
set_option maxHeartbeats 16000000 in
set_option maxRecDepth 100000 in
theorem scanA (l : List Ev) (f t : Int) (hl : l.length ≤ 512) (hok : ∀ e ∈ l, e.ok) (hv : tbE l = 0) (hb : (tab l).length ≤ 100000) : AFn Tryz.prog GS 16 [bs (tab l), iv f, iv t] 0 [] (ScO f t l) := by
  refine afnY_of Tryz.func16 rfl mixed (by kernel_rfl) ?_
  conv => whnf
  have hR := readTableA (tab l) hb
  (refine acallF [] (by kernel_rfl) (hR) ?_ ?_; (focus (repeat' (first | rfl | trivial | apply And.intro))))
  rintro _ _ _ ⟨l2, f2, hq, rfl, rfl, rfl⟩
  obtain ⟨rfl, rfl⟩ := hq.2.2.2 l hok hv rfl
  conv => whnf
  (refine acallF [] (by kernel_rfl) (chunkA GS (l2.map enE)) ?_ ?_; (focus (repeat' (first | rfl | trivial | apply And.intro))))
  rintro _ _ _ ⟨rfl, rfl, rfl⟩
  conv => whnf
  have hnC : (chsN (l2.map enE)).length = nC l2 := by unfold chsN nCh nC; simp
  have hvs := evsC_all (tbE_0 hv).2
  refine arange (chunkI GS (l2.map enE) (by rw [List.length_map]; omega)) 5 (fun i => [(0, .var 3 [iv f]), (1, .var 3 [iv t]), (2, .var 22 [.own 4]), (3, .var 3 [iv (cntC f t l2 i)]), (4, .rows 38 10 ((selC f t l2 i).map enE))]) [(4, .nil)] [] rfl (by kernel_rfl) rfl (fun x hx => ?_) rfl (by repeat' (first | rfl | trivial | apply And.intro)) (fun i x hx => ?_) ?_
  · obtain ⟨j, _, rfl⟩ := List.mem_map.1 hx
    rfl
  · have hlt : i < nC l2 := by
      rw [← hnC]
      exact (List.getElem?_eq_some_iff.1 hx).1
    have hx' : x = [.lst 10 ((ch l2 i).map enE)] := by
      unfold chsN at hx
      rw [List.getElem?_map, List.getElem?_range (by unfold nCh; rw [List.length_map]; exact hlt)] at hx
      injection hx with hx
      rw [← hx]; show [AV.lst 10 (chN (l2.map enE) i)] = _; rw [chN_map]
    subst hx'
    conv => whnf
    have hlok := ch_lok hok hvs hlt
    have hnc : nC l2 ≤ 32 := by unfold nC; omega
    have hcl := cntC_le f t l2 i
    have hsl := selC_le f t l2 i
    (refine acallF [] (by kernel_rfl) (limits1LA (ch l2 i) hlok) ?_ ?_; (focus (repeat' (first | rfl | trivial | apply And.intro))))
    rintro _ _ _ ⟨rfl, rfl, rfl⟩
    conv => whnf
    have hhit : hit f t (ch l2 i) = (decide ((lims (ch l2 i)).1 < t) && decide (f ≤ (lims (ch l2 i)).2)) := rfl
    have hS := selC_succ f t l2 i
    have hK := cntC_succ f t l2 i
    generalize lims (ch l2 i) = lm at *
    obtain ⟨lo, hi⟩ := lm
    dsimp only at hhit
    refine vif_split (fun h => ?_) (fun h => ?_)
    · have hno : hit f t (ch l2 i) = false := by rw [hhit]; simp only [decide_eq_true_eq] at h; rw [decide_eq_false (by omega)]; rfl
      rw [hno] at hS hK
      conv => whnf
      refine arback [(4, .lab 4)] [] rfl ?_
      rw [hS, hK]
      simp only [Bool.false_eq_true, if_false, List.append_nil, Nat.add_zero]
      repeat' (first | rfl | trivial | apply And.intro)
    conv => whnf
    refine vif_split (fun h2 => ?_) (fun h2 => ?_)
    · have hno : hit f t (ch l2 i) = false := by rw [hhit]; simp only [cond_false, decide_eq_true_eq] at h2; rw [decide_eq_false (by omega : ¬ f ≤ hi), Bool.and_false]
      rw [hno] at hS hK
      conv => whnf
      refine arback [(4, .lab 4)] [] rfl ?_
      rw [hS, hK]
      simp only [Bool.false_eq_true, if_false, List.append_nil, Nat.add_zero]
      repeat' (first | rfl | trivial | apply And.intro)
    have hyes : hit f t (ch l2 i) = true := by
      rw [hhit]; simp only [cond_false, decide_eq_false_iff_not] at h h2
      rw [decide_eq_true (by omega : lo < t), decide_eq_true (by omega : f ≤ hi)]; rfl
    rw [hyes] at hS hK
    simp only [if_true] at hS hK
    conv => whnf
    refine AAr.i64 (by omega) ?_
    conv => whnf
    have hc16 : (ch l2 i).length ≤ 16 := by unfold ch; rw [List.length_take]; omega
    refine aloop ws16_1 6 [46] (fun j : Nat => [(46, iv j)]) (fun j => [(0, .var 3 [iv f]), (1, .var 3 [iv t]), (2, .var 22 [.own 5]), (3, .var 3 [iv ((cntC f t l2 i : Int) + 1)]), (5, .rows 38 10 ((selC f t l2 i ++ sel f t ((ch l2 i).take j)).map enE))]) (fun j => j ≤ (ch l2 i).length) (fun j => (ch l2 i).length - j) [(5, .lab 4)] [] 0 (by kernel_rfl) (fun _ => rfl) rfl (Nat.zero_le _) ⟨(by repeat' (first | rfl | trivial | apply And.intro)), (by repeat' (first | rfl | trivial | apply And.intro)), (by repeat' (first | rfl | trivial | apply And.intro)), (by repeat' (first | rfl | trivial | apply And.intro)), ⟨rfl, rfl, ?_⟩, trivial⟩ ⟨rfl, trivial⟩ ?_
    · rw [List.take_zero]; unfold sel; rw [List.filter_nil, List.append_nil]
    intro j hj
    conv => whnf
    refine vif_split (fun h => ?_) (fun h => ?_)
    · have hlj : j < (ch l2 i).length := by simp at h; omega
      have hT := sel_take f t hlj
      conv => whnf
      repeat' (first
        | (refine And.intro ?_ ?_ <;> (conv => whnf))
        | (refine AIn.mk' j rfl (by rw [List.length_map]; exact hlj) ?_; conv => whnf)
        | (refine ARd.mapAt (List.getElem?_eq_getElem hlj) ?_; conv => whnf))
      have hin : inT f t (ch l2 i)[j] = (decide (f ≤ (ch l2 i)[j].time) && decide ((ch l2 i)[j].time < t)) := rfl
      have hsl2 : (selC f t l2 i ++ sel f t ((ch l2 i).take j)).length ≤ 600 := by
        rw [List.length_append]
        have := List.length_filter_le (inT f t) ((ch l2 i).take j)
        rw [List.length_take] at this
        unfold sel; omega
      refine vif_split (fun h1 => ?_) (fun h1 => ?_)
      rotate_left 1
      · rw [h1] at hin
        rw [hin] at hT
        conv => whnf
        refine AAr.i64 (by omega) ?_
        conv => whnf
        refine aback (j + 1) [(5, .lab 5)] [] rfl (by show (ch l2 i).length - (j + 1) < (ch l2 i).length - j; omega) hlj ⟨(by repeat' (first | rfl | trivial | apply And.intro)), (by repeat' (first | rfl | trivial | apply And.intro)), (by repeat' (first | rfl | trivial | apply And.intro)), (by repeat' (first | rfl | trivial | apply And.intro)), ⟨rfl, rfl, ?_⟩, trivial⟩ ⟨rfl, trivial⟩
        rw [hT]; simp
      conv => whnf
      refine vif_split (fun h2 => ?_) (fun h2 => ?_)
      rotate_left 1
      · simp only [cond_true] at h2
        rw [h1, h2] at hin
        rw [hin] at hT
        conv => whnf
        refine AAr.i64 (by omega) ?_
        conv => whnf
        refine aback (j + 1) [(5, .lab 5)] [] rfl (by show (ch l2 i).length - (j + 1) < (ch l2 i).length - j; omega) hlj ⟨(by repeat' (first | rfl | trivial | apply And.intro)), (by repeat' (first | rfl | trivial | apply And.intro)), (by repeat' (first | rfl | trivial | apply And.intro)), (by repeat' (first | rfl | trivial | apply And.intro)), ⟨rfl, rfl, ?_⟩, trivial⟩ ⟨rfl, trivial⟩
        rw [hT]; simp
      simp only [cond_true] at h2
      rw [h1, h2] at hin
      rw [hin] at hT
      conv => whnf
      refine VReq.mk (app_ok (by simp only [List.length_map, List.length_cons, List.length_nil]; omega) (by kernel_rfl)) ?_
      conv => whnf
      refine AAr.i64 (by omega) ?_
      conv => whnf
      refine aback (j + 1) [(5, .lab 8)] [] rfl (by show (ch l2 i).length - (j + 1) < (ch l2 i).length - j; omega) hlj ⟨(by repeat' (first | rfl | trivial | apply And.intro)), (by repeat' (first | rfl | trivial | apply And.intro)), (by repeat' (first | rfl | trivial | apply And.intro)), (by repeat' (first | rfl | trivial | apply And.intro)), ⟨rfl, rfl, ?_⟩, trivial⟩ ⟨rfl, trivial⟩
      simp only [Bool.and_self, if_true] at hT
      rw [hT]
      simp only [List.map_append]
      rw [List.append_assoc]
      rfl
    · have hje : j = (ch l2 i).length := by simp at h; omega
      subst hje
      rw [List.take_length]
      conv => whnf
      refine arback [(4, .lab 5)] [] rfl ?_
      rw [hS, hK]
      repeat' (first | rfl | trivial | apply And.intro)
  · rw [hnC]
    conv => whnf
    (refine adraw pln16 [] (by kernel_rfl) ?_; conv => whnf)
    refine aend (.tup [el (selC f t l2 (nC l2)), iv (cntC f t l2 (nC l2)), iv 0]) 0 [] [] [4] ⟨rfl, rfl, rfl⟩ rfl trivial ?_
    repeat' (first | rfl | trivial | apply And.intro)
end Go.Proofs.YtmhpfadbmpipkaaGreatDoor.Cl
