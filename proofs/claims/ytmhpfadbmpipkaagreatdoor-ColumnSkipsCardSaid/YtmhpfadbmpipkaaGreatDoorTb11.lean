/- The law ColumnSkips in plain words, and its walk. Condition: sizes. -/
import Derived.Test.YtmhpfadbmpipkaaGreatDoorTb10
import Derived.Test.YtmhpfadbmpipkaaGreatDoorEd2
import Derived.Test.YtmhpfadbmpipkaaGreatDoorTb9
set_option linter.unusedVariables false
set_option linter.unusedSimpArgs false
namespace Go.Proofs.YtmhpfadbmpipkaaGreatDoor.Cl
open Go Go.RowKit Go.Proofs Go.Proofs.YtmhpfadbmpipkaaGreatDoor.Vc Go.Proofs.YtmhpfadbmpipkaaGreatDoor.Ax Go.Proofs.YtmhpfadbmpipkaaGreatDoor.Ky
attribute [local irreducible] loadVar storeVar Instr.indexAt Instr.index Instr.sliceAt Instr.makeSlice Instr.lookup Instr.mapUpdate Instr.range Instr.next Instr.entry Instr.makeMap Builtin.append_ Builtin.copy_ Builtin.len_ Builtin.min_ Builtin.max_ Builtin.cap_ Builtin.delete_ Builtin.clear_ convert binOp eqGuard Op.unary Calls
attribute [local irreducible] best ints en bd txs dsT
theorem loT_le : ∀ (l : List Ev) (a : Int), loT a l ≤ a ∧ ∀ e ∈ l, loT a l ≤ e.time := by
  intro l
  induction l with
  | nil => intro a; exact ⟨Int.le_refl _, fun e h => by cases h⟩
  | cons x r ih =>
    intro a
    have h := ih (min a x.time)
    have e1 : loT a (x :: r) = loT (min a x.time) r := rfl
    rw [e1]
    refine ⟨by omega, fun e he => ?_⟩
    rcases List.mem_cons.1 he with rfl | he
    · omega
    · exact h.2 e he
theorem hiT_ge : ∀ (l : List Ev) (a : Int), a ≤ hiT a l ∧ ∀ e ∈ l, e.time ≤ hiT a l := by
  intro l
  induction l with
  | nil => intro a; exact ⟨Int.le_refl _, fun e h => by cases h⟩
  | cons x r ih =>
    intro a
    have h := ih (max a x.time)
    have e1 : hiT a (x :: r) = hiT (max a x.time) r := rfl
    rw [e1]
    refine ⟨by omega, fun e he => ?_⟩
    rcases List.mem_cons.1 he with rfl | he
    · omega
    · exact h.2 e he
theorem lims_in (l : List Ev) : ∀ e ∈ l, (lims l).1 ≤ e.time ∧ e.time ≤ (lims l).2 := by
  intro e he
  cases l with
  | nil => cases he
  | cons x r => exact ⟨(loT_le (x :: r) x.time).2 e he, (hiT_ge (x :: r) x.time).2 e he⟩
theorem lims_bd (l : List Ev) (hl : l ≠ []) {lo hi : Int} (h : ∀ e ∈ l, lo ≤ e.time ∧ e.time ≤ hi) : (lo ≤ (lims l).1 ∧ (lims l).1 ≤ hi) ∧ (lo ≤ (lims l).2 ∧ (lims l).2 ≤ hi) := by
  cases l with
  | nil => exact absurd rfl hl
  | cons x r =>
    have := loT_rng (l := x :: r) (a := x.time) (h x List.mem_cons_self) h
    exact ⟨⟨this.1, this.2.1⟩, ⟨this.2.2.1, this.2.2.2⟩⟩
theorem sel_no {f t : Int} {l : List Ev} (h : hit f t l = false) : sel f t l = [] := by
  unfold sel
  rw [List.filter_eq_nil_iff]
  intro e he
  have := lims_in l e he
  unfold hit at h
  unfold inT
  simp only [Bool.and_eq_true, decide_eq_true_eq, Bool.and_eq_false_iff, decide_eq_false_iff_not] at h ⊢
  omega
theorem selC_eq (f t : Int) (l : List Ev) : ∀ i, selC f t l i = sel f t (l.take (16 * i)) := by
  intro i
  induction i with
  | zero => simp [selC, sel]
  | succ i ih =>
    have e1 : l.take (16 * (i + 1)) = l.take (16 * i) ++ ch l i := by
      unfold ch
      rw [show 16 * (i + 1) = 16 * i + 16 by omega, List.take_add]
    rw [selC_succ, ih, e1]
    unfold sel
    rw [List.filter_append]
    congr 1
    by_cases h : hit f t (ch l i) = true
    · rw [if_pos h]
    · rw [if_neg h]
      exact (sel_no (by simpa using h)).symm
theorem selC_all (f t : Int) (l : List Ev) : selC f t l (nC l) = sel f t l := by
  rw [selC_eq, List.take_of_length_le (by unfold nC; omega)]
theorem sel_cut {x y z : Int} (hxy : x ≤ y) (hyz : y ≤ z) : ∀ l : List Ev, l.Pairwise (fun a b => a.time ≤ b.time) → sel x y l ++ sel y z l = sel x z l := by
  intro l
  induction l with
  | nil => intro _; rfl
  | cons e r ih =>
    intro hp
    rw [List.pairwise_cons] at hp
    have h := ih hp.2
    unfold sel at h ⊢
    by_cases c1 : e.time < y
    · have i1 : inT y z e = false := by unfold inT; rw [decide_eq_false (by omega), Bool.false_and]
      have i2 : inT x y e = inT x z e := by
        unfold inT
        rw [decide_eq_true c1, decide_eq_true (by omega : e.time < z)]
      rw [List.filter_cons, List.filter_cons, List.filter_cons, i1, i2]
      simp only [Bool.false_eq_true, if_false]
      split
      · rw [List.cons_append, h]
      · exact h
    · have hn : (e :: r).filter (inT x y) = [] := by
        rw [List.filter_eq_nil_iff]
        intro a ha
        have hle : e.time ≤ a.time := by
          rcases List.mem_cons.1 ha with rfl | ha
          · exact Int.le_refl _
          · exact hp.1 a ha
        unfold inT
        simp only [Bool.and_eq_true, decide_eq_true_eq]
        omega
      have hq : (e :: r).filter (inT y z) = (e :: r).filter (inT x z) := by
        refine List.filter_congr fun a ha => ?_
        have hle : e.time ≤ a.time := by
          rcases List.mem_cons.1 ha with rfl | ha
          · exact Int.le_refl _
          · exact hp.1 a ha
        unfold inT
        rw [decide_eq_true (by omega : y ≤ a.time), decide_eq_true (by omega : x ≤ a.time)]
      rw [hn, hq]; rfl
theorem selC_16 (f t : Int) (l : List Ev) : ∀ i, (selC f t l i).length ≤ 16 * cntC f t l i := by
  intro i
  induction i with
  | zero => simp [selC]
  | succ i ih =>
    rw [selC_succ, cntC_succ, List.length_append]
    by_cases h : hit f t (ch l i) = true
    · rw [if_pos h, if_pos h]
      have h1 := List.length_filter_le (inT f t) (ch l i)
      have h2 : (ch l i).length ≤ 16 := by unfold ch; rw [List.length_take]; omega
      unfold sel; omega
    · rw [if_neg h, if_neg h]; simp; omega
theorem cntC_mono {f t f' t' : Int} {l : List Ev} : ∀ n, (∀ i, i < n → hit f t (ch l i) = true → hit f' t' (ch l i) = true) → cntC f t l n ≤ cntC f' t' l n := by
  intro n
  induction n with
  | zero => intro _; simp [cntC]
  | succ n ih =>
    intro h
    have h1 := ih fun i hi => h i (by omega)
    rw [cntC_succ, cntC_succ]
    have := h n (by omega)
    by_cases c : hit f t (ch l n) = true
    · rw [if_pos c, if_pos (this c)]; omega
    · rw [if_neg c]; split <;> omega
theorem cntC_full {f t : Int} {l : List Ev} : ∀ n, (∀ i, i < n → hit f t (ch l i) = true) → cntC f t l n = n := by
  intro n
  induction n with
  | zero => intro _; simp [cntC]
  | succ n ih =>
    intro h
    rw [cntC_succ, ih fun i hi => h i (by omega), if_pos (h n (by omega))]
theorem hit_wide {f t t' : Int} {l : List Ev} (h : t ≤ t') (hh : hit f t l = true) : hit f t' l = true := by
  unfold hit at *
  simp only [Bool.and_eq_true, decide_eq_true_eq] at *
  omega
theorem cli_key : ∀ s ∈ cliT, kyB s = true ∧ s.length = 3 := by decide +kernel
theorem exp_key : ∀ k, k < 2 → kyB (expT.getD k []) = true ∧ (expT.getD k []).length ≤ 5 := by decide +kernel
theorem nam_key : ∀ k, k < 2 → kyB (namT.getD k []) = true ∧ (namT.getD k []).length ≤ 5 := by decide +kernel
theorem EvP.all {e : Ev} (h : EvP e) : e.ok ∧ evC e = 0 ∧ Sht e := by
  obtain ⟨hc, ⟨k, hk, hi⟩, hs, ht, hkd⟩ := h
  obtain ⟨c1, c2⟩ := cli_key _ hc
  obtain ⟨i1, i2⟩ := ids_key _ (idT_mem k)
  rw [← hi] at i1 i2
  have z : ∀ k : Int, -1000 ≤ k → k ≤ 1000000 → I64 k := fun k a b => by unfold I64; omega
  rcases hkd with ⟨k1, ⟨n, hn, hnm⟩, ho, ha, hv, hvl⟩ | ⟨k1, ⟨n, hn, hnm⟩, ho, hv, ha, hvl⟩ | ⟨k1, hnm, ⟨n, hn, ho⟩, hne, hv, ha, hvl⟩
  · obtain ⟨n1, n2⟩ := exp_key n hn
    rw [← hnm] at n1 n2
    refine ⟨⟨z _ (by omega) (by omega), z _ (by omega) (by omega), z _ (by omega) (by omega), z _ (by omega) (by omega), z _ (by omega) (by omega), z _ (by omega) (by omega), by omega, by omega, by omega, by rw [ho]; simp⟩, ?_, ⟨by omega, by omega, by omega, by rw [ho]; simp⟩⟩
    unfold evC
    rw [if_neg (by simp [k1]), if_neg (by simp [k1, c1, i1, n1]), if_neg (by omega), if_neg (by omega), if_neg (by omega), if_neg (by simp [k1, ho, hvl])]
  · obtain ⟨n1, n2⟩ := nam_key n hn
    rw [← hnm] at n1 n2
    refine ⟨⟨z _ (by omega) (by omega), z _ (by omega) (by omega), z _ (by omega) (by omega), z _ (by omega) (by omega), z _ (by omega) (by omega), z _ (by omega) (by omega), by omega, by omega, by omega, by rw [ho]; simp⟩, ?_, ⟨by omega, by omega, by omega, by rw [ho]; simp⟩⟩
    unfold evC
    rw [if_neg (by simp [k1]), if_neg (by simp [k1, c1, i1, n1]), if_neg (by omega), if_neg (by omega), if_neg (by omega), if_neg (by simp [k1, ho, hv, ha])]
  · obtain ⟨n1, n2⟩ := ids_key _ (idT_mem n)
    rw [← ho] at n1 n2
    refine ⟨⟨z _ (by omega) (by omega), z _ (by omega) (by omega), z _ (by omega) (by omega), z _ (by omega) (by omega), z _ (by omega) (by omega), z _ (by omega) (by omega), by omega, by omega, by rw [hnm]; simp, by omega⟩, ?_, ⟨by omega, by omega, by rw [hnm]; simp, by omega⟩⟩
    unfold evC
    rw [if_neg (by simp [k1]), if_neg (by simp [k1, c1, i1, n1]), if_neg (by omega), if_neg (by omega), if_neg (by omega), if_neg (by simp [k1, hnm, hv, ha, hvl, hne])]
theorem sel_full {l : List Ev} (h : EvsP l) : sel 0 1000 l = l := by
  unfold sel
  rw [List.filter_eq_self]
  intro e he
  have := (h.all e he).time
  unfold inT
  rw [decide_eq_true (by omega), decide_eq_true (by omega)]; rfl
theorem cnt_full {l : List Ev} (h : EvsP l) : cntC 0 1000 l (nC l) = nC l := by
  refine cntC_full _ fun i hi => ?_
  have hne : ch l i ≠ [] := fun h0 => by
    have := congrArg List.length h0
    unfold ch at this
    rw [List.length_take, List.length_drop] at this
    unfold nC at hi
    simp at this
    omega
  have := lims_bd (ch l i) hne (lo := 0) (hi := 180) fun e he => (h.all e (List.mem_of_mem_drop (List.mem_of_mem_take he))).time
  unfold hit
  rw [decide_eq_true (by omega), decide_eq_true (by omega)]; rfl
set_option maxHeartbeats 8000000 in
set_option maxRecDepth 100000 in
theorem lawSkipsA (m : By) (a b c : Nat) (ha : a < 256) (hb : b < 256) (hc : c < 256) : AFn Tryz.prog GS 6 [bs m, u8v a, u8v b, u8v c] 0 [] (Is (bv true)) := by
  refine afn_of Tryz.func6 rfl mixed (by kernel_rfl) ?_
  conv => whnf
  (refine acall [] (by kernel_rfl) (AFn.up awakeA GS) rfl ?_ ?_; (focus (repeat' (first | rfl | trivial | apply And.intro))))
  conv => whnf
  refine vif_split (fun h => ?_) (fun h => ?_)
  · conv => whnf
    exact aret [] (by repeat' (first | rfl | trivial | apply And.intro))
  have hm : m.length ≤ 300 := by simp at h; omega
  conv => whnf
  (refine acallF [] (by kernel_rfl) (eventsA m (by omega)) ?_ ?_; (focus (repeat' (first | rfl | trivial | apply And.intro))))
  rintro _ _ _ ⟨l, hP, rfl, rfl, rfl⟩
  have hlen := hP.len
  have hall : ∀ e ∈ l, e.ok ∧ evC e = 0 ∧ Sht e := fun e he => (hP.all e he).all
  have hT := table1A l (fun e he => (hall e he).1) (by omega)
  have e1 : tbE l = 0 := by unfold tbE; rw [if_neg (by omega)]; exact evsC_0 fun e he => (hall e he).2.1
  have e2 : tbB l = tab l := by unfold tbB; rw [if_pos e1]
  rw [e1, e2] at hT
  have hsh := tab_len5 (l := l) (by omega) fun e he => (hall e he).2.2
  have hS : ∀ f t : Int, AFn Tryz.prog GS 16 [bs (tab l), iv f, iv t] 0 [] (Is (.tup [el (sel f t l), iv (cntC f t l (nC l)), iv 0])) := fun f t => by
    have := scanA l f t (by omega) (fun e he => (hall e he).1) e1 (by omega)
    unfold ScO at this
    rw [selC_all] at this
    exact this
  conv => whnf
  (refine acallF [] (by kernel_rfl) (hT) ?_ ?_; (focus (repeat' (first | rfl | trivial | apply And.intro))))
  rintro _ _ _ ⟨rfl, rfl, rfl⟩
  conv => whnf
  refine AAr.i64 (by omega) ?_
  conv => whnf
  refine AAr.i64 (by omega) ?_
  conv => whnf
  refine AAr.i64 (by omega) ?_
  conv => whnf
  obtain ⟨hxy, hyz, hx0, hz⟩ : min (a : Int) (b : Int) ≤ max (a : Int) (b : Int) ∧ max (a : Int) (b : Int) ≤ max (max (a : Int) (b : Int)) (c : Int) ∧ 0 ≤ min (a : Int) (b : Int) ∧ max (max (a : Int) (b : Int)) (c : Int) ≤ 255 := by omega
  generalize max (max (a : Int) (b : Int)) (c : Int) = z at *
  generalize max (a : Int) (b : Int) = y at *
  generalize min (a : Int) (b : Int) = x at *
  (refine acallF [] (by kernel_rfl) (hS x y) ?_ ?_; (focus (repeat' (first | rfl | trivial | apply And.intro))))
  rintro _ _ _ ⟨rfl, rfl, rfl⟩
  conv => whnf
  (refine acallF [] (by kernel_rfl) (hS y z) ?_ ?_; (focus (repeat' (first | rfl | trivial | apply And.intro))))
  rintro _ _ _ ⟨rfl, rfl, rfl⟩
  conv => whnf
  (refine acallF [] (by kernel_rfl) (hS x z) ?_ ?_; (focus (repeat' (first | rfl | trivial | apply And.intro))))
  rintro _ _ _ ⟨rfl, rfl, rfl⟩
  conv => whnf
  (refine acallF [] (by kernel_rfl) (hS 0 1000) ?_ ?_; (focus (repeat' (first | rfl | trivial | apply And.intro))))
  rintro _ _ _ ⟨rfl, rfl, rfl⟩
  conv => whnf
  have l1 : ∀ f t, (sel f t l).length ≤ 60 := fun f t => by
    have := List.length_filter_le (inT f t) l
    unfold sel; omega
  have q1 := l1 x y
  have q2 := l1 y z
  have q3 := l1 x z
  have hcut : [] ++ (sel x y l).map enE ++ (sel y z l).map enE = (sel x z l).map enE := by rw [List.nil_append, ← List.map_append, sel_cut hxy hyz l hP.asc]
  refine VReq.mk (app_ok (by simp only [List.length_map, List.length_cons, List.length_nil]; omega) (by kernel_rfl)) ?_
  conv => whnf
  refine VReq.mk (app_ok (by simp only [List.length_map, List.length_append, List.length_cons, List.length_nil]; omega) (by kernel_rfl)) ?_
  conv => whnf
  rw [hcut]
  (refine acall [2] (by kernel_rfl) (sameEvA (sel x z l) (by omega)) rfl ?_ ?_; (focus (repeat' (first | rfl | trivial | apply And.intro))))
  conv => whnf
  rw [sel_full hP]
  (refine acall [2] (by kernel_rfl) (sameEvA l (by omega)) rfl ?_ ?_; (focus (repeat' (first | rfl | trivial | apply And.intro))))
  conv => whnf
  have k1 := selC_16 x y l (nC l)
  rw [selC_all] at k1
  have k2 : cntC x y l (nC l) ≤ cntC x z l (nC l) := cntC_mono _ fun i _ h => hit_wide hyz h
  have k3 := cntC_le x z l (nC l)
  have k4 : nC l = (l.length + 15) / 16 := rfl
  rw [cnt_full hP]
  generalize cntC x y l (nC l) = n1 at *
  generalize cntC x z l (nC l) = n2 at *
  generalize nC l = n3 at *
  refine AAr.i64 (by omega) ?_
  conv => whnf
  repeat' (first
    | (refine vif_split (fun h => ?_) (fun h => ?_); rotate_left 1; (focus (exfalso; simp only [cond_true, decide_eq_false_iff_not, List.length_map] at h; omega)); conv => whnf)
    | (refine AAr.i64 (by simp only [List.length_map]; omega) ?_; conv => whnf))
  refine VReq.mk (by decide) ?_
  conv => whnf
  refine AAr.to (y := ((n3 : Nat) : Int)) (by rw [List.length_map, show ((l.length : Nat) : Int) + 16 - 1 = ((l.length + 15 : Nat) : Int) by omega, show ((l.length + 15 : Nat) : Int).tdiv 16 = (((l.length + 15) / 16 : Nat) : Int) from rfl, ← k4]; exact IntWalk.i64_in _ (by omega)) ?_
  conv => whnf
  refine aret [] (congrArg Value.bool ?_)
  simp
end Go.Proofs.YtmhpfadbmpipkaaGreatDoor.Cl
