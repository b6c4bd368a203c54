/- The walk of column.Table. Condition: the events' numbers are numbers of 64 bits, their texts no longer than a memory. -/
import Derived.Test.YtmhpfadbmpipkaaGreatDoorTb3
import Derived.Test.YtmhpfadbmpipkaaGreatDoorRk1
set_option linter.unusedVariables false
set_option linter.unusedSimpArgs false
namespace Go.Proofs.YtmhpfadbmpipkaaGreatDoor.Cl
open Go Go.RowKit Go.Proofs Go.Proofs.YtmhpfadbmpipkaaGreatDoor.Vc Go.Proofs.YtmhpfadbmpipkaaGreatDoor.Ax Go.Proofs.YtmhpfadbmpipkaaGreatDoor.Ky
attribute [local irreducible] loadVar storeVar Instr.indexAt Instr.index Instr.sliceAt Instr.makeSlice Instr.lookup Instr.mapUpdate Instr.range Instr.next Instr.entry Instr.makeMap Builtin.append_ Builtin.copy_ Builtin.len_ Builtin.min_ Builtin.max_ Builtin.cap_ Builtin.delete_ Builtin.clear_ convert binOp eqGuard Op.unary Calls
attribute [local irreducible] best ints en bd txs dsT
/-- what a valid event is bound by -/
structure EvV (e : Ev) : Prop where
  s1 : e.client.length ≤ 200
  s2 : e.id.length ≤ 200
  s3 : e.name.length ≤ 200
  s4 : e.other.length ≤ 200
  tm : -4611686018427387904 ≤ e.time ∧ e.time ≤ 4611686018427387904
theorem evC_V {e : Ev} (h : evC e = 0) : EvV e := by
  have key : ∀ s : By, kyB s = true → s.length ≤ 200 := fun s hs => by
    have : (⟨s.toArray⟩ : ByteArray).size ≤ 32 := key_short hs
    have e : (⟨s.toArray⟩ : ByteArray).size = s.length := rfl
    omega
  unfold evC at h
  split at h
  · simp at h
  rename_i h1
  split at h
  · simp at h
  rename_i h2
  split at h
  · simp at h
  rename_i h3
  split at h
  · simp at h
  split at h
  · simp at h
  split at h
  · simp at h
  rename_i h4
  have h1 : e.kind = 1 ∨ e.kind = 2 ∨ e.kind = 3 := Classical.byContradiction h1
  have k1 : kyB e.client = true := by cases hk : kyB e.client <;> simp_all
  have k2 : kyB e.id = true := by cases hk : kyB e.id <;> simp_all
  refine ⟨key _ k1, key _ k2, ?_, ?_, by omega⟩
  · rcases h1 with c | c | c
    · exact key _ (by cases hk : kyB e.name <;> simp_all)
    · exact key _ (by cases hk : kyB e.name <;> simp_all)
    · have : e.name = [] := Classical.byContradiction fun hn => h4 (.inr (.inr ⟨c, .inl hn⟩))
      rw [this]; simp
  · rcases h1 with c | c | c
    · have : e.other = [] := Classical.byContradiction fun hn => h4 (.inl ⟨c, .inl hn⟩)
      rw [this]; simp
    · have : e.other = [] := Classical.byContradiction fun hn => h4 (.inr (.inl ⟨c, .inl hn⟩))
      rw [this]; simp
    · exact key _ (by cases hk : kyB e.other <;> simp_all)
/-- the i-th part of 16 events -/
def ch (l : List Ev) (i : Nat) : List Ev := (l.drop (16 * i)).take 16
def nC (l : List Ev) : Nat := (l.length + 15) / 16
def tabA (l : List Ev) (i : Nat) : By := num (l.length : Int) ++ (List.range i).flatMap fun j => chb (ch l j)
def tab (l : List Ev) : By := tabA l (nC l)
/-- the first error of the events -/
def evsC (l : List Ev) : Int := match l with | [] => 0 | e :: r => if evC e ≠ 0 then evC e else evsC r
def tbE (l : List Ev) : Int := if 512 < l.length then 5 else evsC l
def tbB (l : List Ev) : By := if tbE l = 0 then tab l else []
theorem evsC_take {l : List Ev} {i : Nat} (hi : i < l.length) (h : evsC (l.take i) = 0) : evsC (l.take (i + 1)) = evC l[i] ∧ (evC l[i] ≠ 0 → evsC l = evC l[i]) := by
  induction l generalizing i with
  | nil => simp at hi
  | cons e r ih =>
    cases i with
    | zero =>
      simp only [List.take_succ_cons, List.take_zero, evsC, List.getElem_cons_zero]
      by_cases hc : evC e = 0
      · simp [hc]
      · simp [hc]
    | succ i =>
      simp only [List.take_succ_cons, evsC, List.getElem_cons_succ] at h ⊢
      by_cases hc : evC e = 0
      · simp only [hc, ne_eq, not_true, if_false] at h ⊢
        exact ih (by simpa using hi) h
      · simp only [hc, ne_eq, not_false_eq_true, if_true] at h
theorem evsC_all {l : List Ev} (h : evsC l = 0) : ∀ e ∈ l, evC e = 0 := by
  induction l with
  | nil => intro e he; cases he
  | cons x r ih =>
    unfold evsC at h
    by_cases hc : evC x = 0
    · rw [if_neg (by simp [hc])] at h
      intro e he
      rcases List.mem_cons.1 he with rfl | he
      · exact hc
      · exact ih h e he
    · rw [if_pos hc] at h; exact absurd h hc
theorem ch_lok {l : List Ev} (hok : ∀ e ∈ l, e.ok) (hv : ∀ e ∈ l, evC e = 0) {i : Nat} (hi : i < nC l) : LOK (ch l i) := by
  have sub : ∀ e ∈ ch l i, e ∈ l := fun e he => List.mem_of_mem_drop (List.mem_of_mem_take he)
  have hV : ∀ e ∈ ch l i, EvV e := fun e he => evC_V (hv e (sub e he))
  refine ⟨fun h0 => ?_, by unfold ch; rw [List.length_take]; omega, fun e he => hok e (sub e he), fun e he => (hV e he).s1, fun e he => (hV e he).s2, fun e he => (hV e he).s3, fun e he => (hV e he).s4, fun e he => (hV e he).tm⟩
  have := congrArg List.length h0
  unfold ch at this
  rw [List.length_take, List.length_drop] at this
  unfold nC at hi
  simp at this
  omega
theorem chN_map (l : List Ev) (i : Nat) : chN (l.map enE) i = (ch l i).map enE := by unfold chN ch; rw [List.map_take, List.map_drop]
theorem tabA_succ (l : List Ev) (i : Nat) : tabA l (i + 1) = tabA l i ++ chb (ch l i) := by
  unfold tabA; rw [List.range_succ, List.flatMap_append]; simp
theorem chb_len {l : List Ev} (h : LOK l) : (chb l).length ≤ 70040 := by
  have := bdA_len h 4
  change (bdy l).length ≤ 70000 at this
  have n1 := num_len (lims l).1
  have n2 := num_len (lims l).2
  have n3 := num_len ((bdy l).length : Int)
  unfold chb
  simp only [List.length_append]
  omega
theorem tabA_len {l : List Ev} (hok : ∀ e ∈ l, e.ok) (hv : ∀ e ∈ l, evC e = 0) : ∀ i, i ≤ nC l → (tabA l i).length ≤ 10 + 70040 * i := by
  intro i
  induction i with
  | zero => intro _; have := num_len (l.length : Int); unfold tabA; simp; omega
  | succ i ih =>
    intro hi
    have h1 := ih (by omega)
    have h2 := chb_len (ch_lok hok hv (show i < nC l by omega))
    rw [tabA_succ, List.length_append]
    omega
set_option maxHeartbeats 16000000 in
set_option maxRecDepth 100000 in
theorem table1A (l : List Ev) (hok : ∀ e ∈ l, e.ok) (hl : l.length ≤ 1000000) : AFn Tryz.prog GS 8 [el l] 0 [] (Is (.tup [bs (tbB l), iv (tbE l)])) := by
  refine afnY_of Tryz.func8 rfl mixed (by kernel_rfl) ?_
  conv => whnf
  refine vif_split (fun h => ?_) (fun h => ?_)
  · have h5 : 512 < l.length := by simp at h; omega
    conv => whnf
    refine aend (.tup [bs (tbB l), iv (tbE l)]) 0 [] [] [] ⟨rfl, rfl, rfl⟩ rfl trivial ?_
    unfold tbB tbE
    simp only [h5, if_true]
    exact ⟨rfl, rfl, trivial⟩
  have h5 : l.length ≤ 512 := by simp at h; omega
  have e5 : tbE l = evsC l := by unfold tbE; rw [if_neg (by omega)]
  conv => whnf
  refine aloop ws8_1 0 [14] (fun i : Nat => [(14, iv i)]) (fun _ => []) (fun i => i ≤ l.length ∧ evsC (l.take i) = 0) (fun i => l.length - i) [] [] 0 (by kernel_rfl) (fun _ => rfl) rfl ⟨Nat.zero_le _, rfl⟩ trivial ⟨rfl, trivial⟩ ?_
  rintro i ⟨hi, hz⟩
  conv => whnf
  refine vif_split (fun h => ?_) (fun h => ?_)
  · have hlt : i < l.length := by simp at h; omega
    have hk := evsC_take hlt hz
    conv => whnf
    refine AIn.mk' i rfl (by rw [List.length_map]; exact hlt) ?_
    conv => whnf
    refine ARd.mapAt (List.getElem?_eq_getElem hlt) ?_
    conv => whnf
    (refine acall [] (by kernel_rfl) (check1A l[i] (hok _ (List.getElem_mem hlt))) rfl ?_ ?_; (focus (repeat' (first | rfl | trivial | apply And.intro))))
    generalize evC l[i] = c at *
    conv => whnf
    refine vif_split (fun h => ?_) (fun h => ?_)
    · have hc : c ≠ 0 := by simpa using h
      conv => whnf
      refine aend (.tup [bs (tbB l), iv (tbE l)]) 0 [] [] [] ⟨rfl, rfl, rfl⟩ rfl trivial ?_
      have e6 : tbE l = c := by rw [e5]; exact hk.2 hc
      unfold tbB
      rw [e6, if_neg hc]
      exact ⟨rfl, rfl, trivial⟩
    · have hc : c = 0 := by simpa using h
      conv => whnf
      refine AAr.i64 (by omega) ?_
      conv => whnf
      exact aback (i + 1) [] [] rfl (by show l.length - (i + 1) < l.length - i; omega) ⟨hlt, hk.1.trans hc⟩ trivial ⟨rfl, trivial⟩
  have hie : i = l.length := by simp at h; omega
  subst hie
  rw [List.take_length] at hz
  have hv := evsC_all hz
  rw [hz] at e5
  have etb : tbB l = tab l := by unfold tbB; rw [if_pos e5]
  rw [etb, e5]
  conv => whnf
  rw [List.length_map]
  (refine acallF [] (by kernel_rfl) (AFn.up (putA [] (l.length : Int) (i64_nat (by omega)) (by simp)) GS) ?_ ?_; (focus (repeat' (first | rfl | trivial | apply And.intro))))
  rintro _ _ _ ⟨rfl, rfl, rfl⟩
  conv => whnf
  (refine acallF [] (by kernel_rfl) (chunkA GS (l.map enE)) ?_ ?_; (focus (repeat' (first | rfl | trivial | apply And.intro))))
  rintro _ _ _ ⟨rfl, rfl, rfl⟩
  conv => whnf
  have hnC : (chsN (l.map enE)).length = nC l := by unfold chsN nCh nC; simp
  refine arange (chunkI GS (l.map enE) (by rw [List.length_map]; omega)) 3 (fun i => [(1, .var 23 [.own 2]), (2, .rows 5 1 ((tabA l i).map enB))]) [(2, .lab 0)] [] rfl (by kernel_rfl) rfl (fun x hx => ?_) rfl ⟨⟨rfl, rfl, trivial⟩, ⟨rfl, rfl, ?_⟩, trivial⟩ (fun i x hx => ?_) ?_
  · obtain ⟨j, _, rfl⟩ := List.mem_map.1 hx
    rfl
  · show ([] ++ num (l.length : Int)).map enB = (tabA l 0).map enB
    unfold tabA
    simp
  · have hlt : i < nC l := by
      rw [← hnC]
      exact (List.getElem?_eq_some_iff.1 hx).1
    have hx' : x = [.lst 10 ((ch l i).map enE)] := by
      unfold chsN at hx
      rw [List.getElem?_map, List.getElem?_range (by unfold nCh; rw [List.length_map]; exact hlt)] at hx
      injection hx with hx
      rw [← hx]; show [AV.lst 10 (chN (l.map enE) i)] = _; rw [chN_map]
    subst hx'
    conv => whnf
    have hlok := ch_lok hok hv hlt
    have hcl := chb_len hlok
    have hta := tabA_len hok hv i (by omega)
    have hnc : nC l ≤ 32 := by unfold nC; omega
    (refine adraw pln8 [] (by kernel_rfl) ?_; conv => whnf)
    repeat' (first
      | (refine And.intro ?_ ?_ <;> (conv => whnf))
      | ((refine acallF [] (by kernel_rfl) (chunkBA (ch l i) hlok) ?_ ?_; (focus (repeat' (first | rfl | trivial | apply And.intro)))); rintro _ _ _ ⟨rfl, rfl, rfl⟩; conv => whnf)
      | (refine VReq.mk (app_ok (by simp only [List.length_map]; omega) (by kernel_rfl)) ?_; conv => whnf))
    refine arback [(2, .lab 3)] [] rfl ⟨⟨rfl, rfl, trivial⟩, ⟨rfl, rfl, ?_⟩, trivial⟩
    rw [tabA_succ, List.map_append]
  · rw [hnC]
    conv => whnf
    exact aend (.tup [bs (tab l), iv 0]) 0 [] [] [2] ⟨rfl, rfl, rfl⟩ rfl trivial ⟨⟨rfl, rfl, rfl⟩, rfl, trivial⟩
end Go.Proofs.YtmhpfadbmpipkaaGreatDoor.Cl
