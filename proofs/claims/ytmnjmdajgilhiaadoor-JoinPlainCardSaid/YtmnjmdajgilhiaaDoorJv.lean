/- The walk of metric.Value over measures. Condition: sizes; all events are measures. -/
import Derived.Test.YtmnjmdajgilhiaaDoorJm
set_option linter.unusedVariables false
set_option linter.unusedSimpArgs false
namespace Go.Proofs.YtmnjmdajgilhiaaDoor.Cl
open Go Go.RowKit Go.Proofs Go.Proofs.YtmnjmdajgilhiaaDoor.Vc Go.Proofs.YtmnjmdajgilhiaaDoor.Ax Go.Proofs.YtmnjmdajgilhiaaDoor.Ky Go.Proofs.YtmnjmdajgilhiaaDoor.Id
attribute [local irreducible] loadVar storeVar Instr.indexAt Instr.index Instr.sliceAt Instr.makeSlice Instr.lookup Instr.mapUpdate Instr.range Instr.next Instr.entry Instr.makeMap Builtin.append_ Builtin.copy_ Builtin.len_ Builtin.min_ Builtin.max_ Builtin.cap_ Builtin.delete_ Builtin.clear_ convert binOp eqGuard Op.unary Calls
abbrev fV (f : Nat) : FV := .v (.func (.func f) #[] #[])
theorem app_ev {n : Nat} (h : n ≤ 100000) : n * 112 ≤ 140737488355328 ∧ n ≤ maxLen := ⟨by omega, by unfold maxLen; omega⟩
section
variable {G : Glob}
set_option maxHeartbeats 4000000 in
set_option maxRecDepth 100000 in
theorem cloneV (l : List Ev) (hs : l.length ≤ 10000) : AFn Tryd.prog G 55 [el l] 0 [] (Own1 32 10 (l.map enE)) := by
  refine afn_of Tryd.func55 rfl mixed (by kernel_rfl) ?_
  conv => whnf
  refine ⟨fun b hb => ?_⟩
  cases b with
  | true =>
    have h0 : l = [] := by
      cases l with
      | nil => rfl
      | cons e r => exact absurd (hb (by simp)) (by decide)
    subst h0
    conv => whnf
    exact aend (.own 0) 1 _ [(0, .nil)] [] ⟨rfl, rfl, rfl⟩ rfl (by repeat' (first | rfl | trivial | apply And.intro)) (by repeat' (first | rfl | trivial | apply And.intro))
  | false =>
    conv => whnf
    refine VReq.mk (app_ev (by simp only [List.length_map, List.length_nil]; omega)) ?_
    conv => whnf
    exact aend (.own 0) 1 _ [(0, .lab 1)] [] ⟨rfl, rfl, rfl⟩ rfl (by repeat' (first | rfl | trivial | apply And.intro)) (by repeat' (first | rfl | trivial | apply And.intro))
set_option maxRecDepth 100000 in
theorem vdelA (e : Ev) (hk : e.kind = 2) : AFn Tryd.prog G 56 [evA e] 0 [] (Is (bv false)) := by
  refine afn_of Tryd.func56 rfl mixed (by kernel_rfl) ?_
  conv => whnf
  exact aret [] (congrArg Value.bool (by simp [hk]))
set_option maxRecDepth 100000 in
theorem sumA (e : Ev) : AFn Tryd.prog G 64 [evA e] 0 [] (Is (iv e.val)) := by
  refine afn_of Tryd.func64 rfl mixed (by kernel_rfl) ?_
  conv => whnf
  exact aret [] (by repeat' (first | rfl | trivial | apply And.intro))
set_option maxRecDepth 100000 in
theorem oneA (e : Ev) : AFn Tryd.prog G 65 [evA e] 0 [] (Is (iv 1)) := by
  refine afn_of Tryd.func65 rfl mixed (by kernel_rfl) ?_
  conv => whnf
  exact aret [] (by repeat' (first | rfl | trivial | apply And.intro))
def rwE (l : List Ev) : ABlk := .rows 32 10 (l.map enE)
set_option maxHeartbeats 4000000 in
set_option maxRecDepth 100000 in
theorem idxA (l : List Ev) (hl : l.length ≤ 100000) (hk : ∀ e ∈ l, e.kind = 2) : AFn Tryd.prog G 67 [.own 0, .v (.func (.func 56) #[] #[])] 1 [(0, rwE l)] (fun a n H => a = iv (-1) ∧ n = 1 ∧ H = [(0, rwE l)]) := by
  refine afn_of Tryd.func67 rfl mixed (by kernel_rfl) ?_
  conv => whnf
  refine aloop ws67_1 1 [8] (fun i : Nat => [(8, iv i)]) (fun _ => [(0, rwE l)]) (fun i => i ≤ l.length) (fun i => l.length - i) [] [] 0 (by kernel_rfl) (fun _ => rfl) rfl (Nat.zero_le _) (by repeat' (first | rfl | trivial | apply And.intro)) (by repeat' (first | rfl | trivial | apply And.intro)) ?_
  intro i hi
  conv => whnf
  refine vif_split (fun h => ?_) (fun h => ?_)
  · have hlt : i < l.length := by simp at h; omega
    conv => whnf
    refine AIn.mk' i rfl (by rw [List.length_map]; exact hlt) ?_
    conv => whnf
    refine ARd.mapAt (List.getElem?_eq_getElem hlt) ?_
    conv => whnf
    (refine acall [] (by kernel_rfl) (vdelA l[i] (hk _ (List.getElem_mem hlt))) rfl ?_ ?_; (focus (repeat' (first | rfl | trivial | apply And.intro))))
    conv => whnf
    refine AAr.i64 (by omega) ?_
    conv => whnf
    exact aback (i + 1) [] [] rfl (by show l.length - (i + 1) < l.length - i; omega) hlt (by repeat' (first | rfl | trivial | apply And.intro)) (by repeat' (first | rfl | trivial | apply And.intro))
  · conv => whnf
    exact aend (iv (-1)) 1 _ [] [] ⟨rfl, rfl, rfl⟩ rfl (by repeat' (first | rfl | trivial | apply And.intro)) (by repeat' (first | rfl | trivial | apply And.intro))
set_option maxRecDepth 100000 in
theorem delA (l : List Ev) (hl : l.length ≤ 100000) (hk : ∀ e ∈ l, e.kind = 2) : AFn Tryd.prog G 54 [.own 0, .v (.func (.func 56) #[] #[])] 1 [(0, rwE l)] (fun a n H => a = .own 0 ∧ n = 1 ∧ H = [(0, rwE l)]) := by
  refine afn_of Tryd.func54 rfl mixed (by kernel_rfl) ?_
  conv => whnf
  refine acallM [0] [] (by kernel_rfl) (idxA l hl hk) rfl (by repeat' (first | rfl | trivial | apply And.intro)) (by repeat' (first | rfl | trivial | apply And.intro)) ?_
  rintro _ _ _ ⟨rfl, rfl, rfl⟩
  refine ⟨rfl, ?_⟩
  conv => whnf
  exact aend (.own 0) 1 _ [] [] ⟨rfl, rfl, rfl⟩ rfl (by repeat' (first | rfl | trivial | apply And.intro)) (by repeat' (first | rfl | trivial | apply And.intro))
end
def stV (m : Mt) (a : Int) (e : Ev) : Int := if e.name = m.name ∧ m.least ≤ e.val then a + mtW m e else a
def stB (m : Mt) (a : Int) (e : Ev) : Int := if m.kind = 4 ∧ e.name = m.below then a + e.val else a
theorem mtV_take {m : Mt} {l : List Ev} {i : Nat} (h : i < l.length) : mtV m (l.take (i + 1)) = stV m (mtV m (l.take i)) l[i] := by unfold mtV; rw [List.take_succ_eq_append_getElem h, List.foldl_append]; rfl
theorem mtB_take {m : Mt} {l : List Ev} {i : Nat} (h : i < l.length) : mtB m (l.take (i + 1)) = stB m (mtB m (l.take i)) l[i] := by unfold mtB; rw [List.take_succ_eq_append_getElem h, List.foldl_append]; rfl
/-- measures of moderate size -/
structure MeasL (l : List Ev) : Prop where
  len : l.length ≤ 10000
  kind : ∀ e ∈ l, e.kind = 2
  val : ∀ e ∈ l, -1000000 ≤ e.val ∧ e.val ≤ 1000000
theorem meas_rng {m : Mt} {l : List Ev} (h : MeasL l) : ∀ i, i ≤ l.length → (-1000000 * (i : Int) ≤ mtV m (l.take i) ∧ mtV m (l.take i) ≤ 1000000 * (i : Int)) ∧ (-1000000 * (i : Int) ≤ mtB m (l.take i) ∧ mtB m (l.take i) ≤ 1000000 * (i : Int)) := by
  intro i
  induction i with
  | zero => intro _; simp [mtV, mtB]
  | succ i ih =>
    intro hi
    have h1 := ih (by omega)
    have hv := h.val _ (List.getElem_mem (show i < l.length by omega))
    rw [mtV_take (by omega), mtB_take (by omega)]
    unfold stV stB mtW
    refine ⟨?_, ?_⟩
    · split
      · split <;> omega
      · omega
    · split <;> omega
/-- the order in which a kind's function is asked for -/
def plnVal : Plan := .take 0 (.take 2 (.take 3 (.take 6 (.one 1 (.one 4 (.take 5 (.one 7 (.take 8 (.take 9 .done)))))))))
theorem mtC_kind {m : Mt} (h : mtC m = 0) : m.kind = 1 ∨ m.kind = 2 ∨ m.kind = 3 ∨ m.kind = 4 := by
  unfold mtC at h
  by_cases hk : m.kind = 1 ∨ m.kind = 2 ∨ m.kind = 3 ∨ m.kind = 4
  · exact hk
  · rw [if_pos hk] at h; cases h
def mvB (m : Mt) : ABlk := .var 27 ((mtF m).map FV.up)
set_option maxHeartbeats 4000000 in
set_option maxRecDepth 100000 in
theorem value0A (m : Mt) (l : List Ev) (hm : mtC m ≠ 0) (z1 : m.name.length ≤ 140737488355328) (z2 : m.below.length ≤ 140737488355328) : AFn Tryd.prog GS 45 [mtA m, el l] 0 [] (Is (.tup [iv 0, iv 0])) := by
  refine afn_of Tryd.func45 rfl mixed (by kernel_rfl) ?_
  conv => whnf
  (refine acall [] (by kernel_rfl) (mchk1 m z1 z2) rfl ?_ ?_; (focus (repeat' (first | rfl | trivial | apply And.intro))))
  conv => whnf
  refine vif_split (fun h => ?_) (fun h => ?_)
  · conv => whnf
    exact aret [] (by repeat' (first | rfl | trivial | apply And.intro))
  · exact absurd (by simpa using h) hm
set_option maxHeartbeats 16000000 in
set_option maxRecDepth 100000 in
theorem valueA (m : Mt) (l : List Ev) (hm : mtC m = 0) (hl : MeasL l) (z1 : m.name.length ≤ 140737488355328) (z2 : m.below.length ≤ 140737488355328) : AFn Tryd.prog GS 45 [mtA m, el l] 0 [] (Is (.tup [iv (lim m (mtV m l)), iv (lim m (mtB m l))])) := by
  have hrg := meas_rng (m := m) hl
  have hlen := hl.len
  refine afn_of Tryd.func45 rfl mixed (by kernel_rfl) ?_
  conv => whnf
  (refine acall [] (by kernel_rfl) (mchk1 m z1 z2) rfl ?_ ?_; (focus (repeat' (first | rfl | trivial | apply And.intro))))
  rw [hm]
  conv => whnf
  (refine acallF [] (by kernel_rfl) (cloneV l hl.len) ?_ ?_; (focus (repeat' (first | rfl | trivial | apply And.intro))))
  rintro _ _ _ ⟨rfl, rfl, rfl⟩
  conv => whnf
  refine acallM [1] [] (by kernel_rfl) (delA l (by omega) hl.kind) rfl (by repeat' (first | rfl | trivial | apply And.intro)) (by repeat' (first | rfl | trivial | apply And.intro)) ?_
  rintro _ _ _ ⟨rfl, rfl, rfl⟩
  refine ⟨rfl, ?_⟩
  conv => whnf
  refine aloop ws45_1 2 [7, 8, 20] (fun i : Nat => [(7, iv (mtV m (l.take i))), (8, iv (mtB m (l.take i))), (20, iv i)]) (fun i => [(0, mvB m), (1, rwE l)]) (fun i => i ≤ l.length) (fun i => l.length - i) [] [] 0 (by kernel_rfl) (fun _ => rfl) rfl (Nat.zero_le _) (by repeat' (first | rfl | trivial | apply And.intro)) (by repeat' (first | rfl | trivial | apply And.intro)) ?_
  intro i hi
  conv => whnf
  refine vif_split (fun h => ?_) (fun h => ?_)
  · have hlt : i < l.length := by simp at h; omega
    have hV := mtV_take (m := m) hlt
    have hB := mtB_take (m := m) hlt
    have hr := hrg i hi
    have hv := hl.val _ (List.getElem_mem hlt)
    have hg := List.getElem?_eq_getElem hlt
    generalize l[i] = e at *
    generalize mtV m (l.take i) = a at *
    generalize mtB m (l.take i) = b at *
    unfold stV at hV
    unfold stB at hB
    conv => whnf
    refine AIn.mk' i rfl (by rw [List.length_map]; exact hlt) ?_
    conv => whnf
    refine ARd.mapAt hg ?_
    conv => whnf
    refine vif_split (fun h1 => ?_) (fun h1 => ?_)
    rotate_left 1
    · rw [if_neg (fun h' => by simp [sEq_tx] at h1; exact h1 h'.1)] at hV
      conv => whnf
      refine vif_split (fun h4 => ?_) (fun h4 => ?_)
      rotate_left 1
      · rw [if_neg (fun h' => by simp at h4; exact h4 h'.1)] at hB
        conv => whnf
        refine AAr.i64 (by omega) ?_
        conv => whnf
        exact aback (i + 1) [] [] rfl (by show l.length - (i + 1) < l.length - i; omega) hlt (by repeat' (first | rfl | trivial | apply And.intro)) ⟨congrArg (Value.int .i64) hV.symm, congrArg (Value.int .i64) hB.symm, rfl, trivial⟩
      conv => whnf
      refine vif_split (fun h5 => ?_) (fun h5 => ?_)
      rotate_left 1
      · rw [if_neg (fun h' => by simp [sEq_tx] at h5; exact h5 h'.2)] at hB
        conv => whnf
        refine AAr.i64 (by omega) ?_
        conv => whnf
        exact aback (i + 1) [] [] rfl (by show l.length - (i + 1) < l.length - i; omega) hlt (by repeat' (first | rfl | trivial | apply And.intro)) ⟨congrArg (Value.int .i64) hV.symm, congrArg (Value.int .i64) hB.symm, rfl, trivial⟩
      rw [if_pos ⟨by simpa using h4, by simpa [sEq_tx] using h5⟩] at hB
      conv => whnf
      refine AAr.i64 (by omega) ?_
      conv => whnf
      refine AAr.i64 (by omega) ?_
      conv => whnf
      exact aback (i + 1) [] [] rfl (by show l.length - (i + 1) < l.length - i; omega) hlt (by repeat' (first | rfl | trivial | apply And.intro)) ⟨congrArg (Value.int .i64) hV.symm, congrArg (Value.int .i64) hB.symm, rfl, trivial⟩
    conv => whnf
    refine vif_split (fun h2 => ?_) (fun h2 => ?_)
    rotate_left 1
    · rw [if_neg (fun h' => by simp at h2; omega)] at hV
      conv => whnf
      refine vif_split (fun h4 => ?_) (fun h4 => ?_)
      rotate_left 1
      · rw [if_neg (fun h' => by simp at h4; exact h4 h'.1)] at hB
        conv => whnf
        refine AAr.i64 (by omega) ?_
        conv => whnf
        exact aback (i + 1) [] [] rfl (by show l.length - (i + 1) < l.length - i; omega) hlt (by repeat' (first | rfl | trivial | apply And.intro)) ⟨congrArg (Value.int .i64) hV.symm, congrArg (Value.int .i64) hB.symm, rfl, trivial⟩
      conv => whnf
      refine vif_split (fun h5 => ?_) (fun h5 => ?_)
      rotate_left 1
      · rw [if_neg (fun h' => by simp [sEq_tx] at h5; exact h5 h'.2)] at hB
        conv => whnf
        refine AAr.i64 (by omega) ?_
        conv => whnf
        exact aback (i + 1) [] [] rfl (by show l.length - (i + 1) < l.length - i; omega) hlt (by repeat' (first | rfl | trivial | apply And.intro)) ⟨congrArg (Value.int .i64) hV.symm, congrArg (Value.int .i64) hB.symm, rfl, trivial⟩
      rw [if_pos ⟨by simpa using h4, by simpa [sEq_tx] using h5⟩] at hB
      conv => whnf
      refine AAr.i64 (by omega) ?_
      conv => whnf
      refine AAr.i64 (by omega) ?_
      conv => whnf
      exact aback (i + 1) [] [] rfl (by show l.length - (i + 1) < l.length - i; omega) hlt (by repeat' (first | rfl | trivial | apply And.intro)) ⟨congrArg (Value.int .i64) hV.symm, congrArg (Value.int .i64) hB.symm, rfl, trivial⟩
    rw [if_pos ⟨by simpa [sEq_tx] using h1, by simpa using h2⟩] at hV
    conv => whnf
    refine adraw (fun _ => plnVal) [3] (by kernel_rfl) ?_
    conv => whnf
    refine acallF [] (by kernel_rfl) kindsA ?_ ?_; (focus (repeat' (first | rfl | trivial | apply And.intro); done)); rintro _ _ _ ⟨rfl, rfl, rfl⟩; (conv => whnf)
    rcases mtC_kind hm with hk | hk | hk | hk
    · have hw : mtW m e = e.val := if_pos (.inl hk)
      rw [hw] at hV
      refine ALi.some (x := kdV [115, 117, 109] 64) (by rw [hk]; rfl) ?_
      conv => whnf
      (refine acall [] (by kernel_rfl) (sumA e) rfl ?_ ?_; (focus (repeat' (first | rfl | trivial | apply And.intro))))
      conv => whnf
      refine AAr.i64 (by omega) ?_
      conv => whnf
      refine vif_split (fun h4 => ?_) (fun h4 => ?_)
      rotate_left 1
      · rw [if_neg (fun h' => by simp at h4; exact h4 h'.1)] at hB
        conv => whnf
        refine AAr.i64 (by omega) ?_
        conv => whnf
        exact aback (i + 1) [] [] rfl (by show l.length - (i + 1) < l.length - i; omega) hlt (by repeat' (first | rfl | trivial | apply And.intro)) ⟨congrArg (Value.int .i64) hV.symm, congrArg (Value.int .i64) hB.symm, rfl, trivial⟩
      conv => whnf
      refine vif_split (fun h5 => ?_) (fun h5 => ?_)
      rotate_left 1
      · rw [if_neg (fun h' => by simp [sEq_tx] at h5; exact h5 h'.2)] at hB
        conv => whnf
        refine AAr.i64 (by omega) ?_
        conv => whnf
        exact aback (i + 1) [] [] rfl (by show l.length - (i + 1) < l.length - i; omega) hlt (by repeat' (first | rfl | trivial | apply And.intro)) ⟨congrArg (Value.int .i64) hV.symm, congrArg (Value.int .i64) hB.symm, rfl, trivial⟩
      rw [if_pos ⟨by simpa using h4, by simpa [sEq_tx] using h5⟩] at hB
      conv => whnf
      refine AAr.i64 (by omega) ?_
      conv => whnf
      refine AAr.i64 (by omega) ?_
      conv => whnf
      exact aback (i + 1) [] [] rfl (by show l.length - (i + 1) < l.length - i; omega) hlt (by repeat' (first | rfl | trivial | apply And.intro)) ⟨congrArg (Value.int .i64) hV.symm, congrArg (Value.int .i64) hB.symm, rfl, trivial⟩
    · have hw : mtW m e = 1 := if_neg (by rw [hk]; decide)
      rw [hw] at hV
      refine ALi.some (x := kdV [99, 111, 117, 110, 116] 65) (by rw [hk]; rfl) ?_
      conv => whnf
      (refine acall [] (by kernel_rfl) (oneA e) rfl ?_ ?_; (focus (repeat' (first | rfl | trivial | apply And.intro))))
      conv => whnf
      refine AAr.i64 (by omega) ?_
      conv => whnf
      refine vif_split (fun h4 => ?_) (fun h4 => ?_)
      rotate_left 1
      · rw [if_neg (fun h' => by simp at h4; exact h4 h'.1)] at hB
        conv => whnf
        refine AAr.i64 (by omega) ?_
        conv => whnf
        exact aback (i + 1) [] [] rfl (by show l.length - (i + 1) < l.length - i; omega) hlt (by repeat' (first | rfl | trivial | apply And.intro)) ⟨congrArg (Value.int .i64) hV.symm, congrArg (Value.int .i64) hB.symm, rfl, trivial⟩
      conv => whnf
      refine vif_split (fun h5 => ?_) (fun h5 => ?_)
      rotate_left 1
      · rw [if_neg (fun h' => by simp [sEq_tx] at h5; exact h5 h'.2)] at hB
        conv => whnf
        refine AAr.i64 (by omega) ?_
        conv => whnf
        exact aback (i + 1) [] [] rfl (by show l.length - (i + 1) < l.length - i; omega) hlt (by repeat' (first | rfl | trivial | apply And.intro)) ⟨congrArg (Value.int .i64) hV.symm, congrArg (Value.int .i64) hB.symm, rfl, trivial⟩
      rw [if_pos ⟨by simpa using h4, by simpa [sEq_tx] using h5⟩] at hB
      conv => whnf
      refine AAr.i64 (by omega) ?_
      conv => whnf
      refine AAr.i64 (by omega) ?_
      conv => whnf
      exact aback (i + 1) [] [] rfl (by show l.length - (i + 1) < l.length - i; omega) hlt (by repeat' (first | rfl | trivial | apply And.intro)) ⟨congrArg (Value.int .i64) hV.symm, congrArg (Value.int .i64) hB.symm, rfl, trivial⟩
    · have hw : mtW m e = 1 := if_neg (by rw [hk]; decide)
      rw [hw] at hV
      refine ALi.some (x := kdV [115, 104, 97, 114, 101] 65) (by rw [hk]; rfl) ?_
      conv => whnf
      (refine acall [] (by kernel_rfl) (oneA e) rfl ?_ ?_; (focus (repeat' (first | rfl | trivial | apply And.intro))))
      conv => whnf
      refine AAr.i64 (by omega) ?_
      conv => whnf
      refine vif_split (fun h4 => ?_) (fun h4 => ?_)
      rotate_left 1
      · rw [if_neg (fun h' => by simp at h4; exact h4 h'.1)] at hB
        conv => whnf
        refine AAr.i64 (by omega) ?_
        conv => whnf
        exact aback (i + 1) [] [] rfl (by show l.length - (i + 1) < l.length - i; omega) hlt (by repeat' (first | rfl | trivial | apply And.intro)) ⟨congrArg (Value.int .i64) hV.symm, congrArg (Value.int .i64) hB.symm, rfl, trivial⟩
      conv => whnf
      refine vif_split (fun h5 => ?_) (fun h5 => ?_)
      rotate_left 1
      · rw [if_neg (fun h' => by simp [sEq_tx] at h5; exact h5 h'.2)] at hB
        conv => whnf
        refine AAr.i64 (by omega) ?_
        conv => whnf
        exact aback (i + 1) [] [] rfl (by show l.length - (i + 1) < l.length - i; omega) hlt (by repeat' (first | rfl | trivial | apply And.intro)) ⟨congrArg (Value.int .i64) hV.symm, congrArg (Value.int .i64) hB.symm, rfl, trivial⟩
      rw [if_pos ⟨by simpa using h4, by simpa [sEq_tx] using h5⟩] at hB
      conv => whnf
      refine AAr.i64 (by omega) ?_
      conv => whnf
      refine AAr.i64 (by omega) ?_
      conv => whnf
      exact aback (i + 1) [] [] rfl (by show l.length - (i + 1) < l.length - i; omega) hlt (by repeat' (first | rfl | trivial | apply And.intro)) ⟨congrArg (Value.int .i64) hV.symm, congrArg (Value.int .i64) hB.symm, rfl, trivial⟩
    · have hw : mtW m e = e.val := if_pos (.inr hk)
      rw [hw] at hV
      refine ALi.some (x := kdV [114, 97, 116, 105, 111] 64) (by rw [hk]; rfl) ?_
      conv => whnf
      (refine acall [] (by kernel_rfl) (sumA e) rfl ?_ ?_; (focus (repeat' (first | rfl | trivial | apply And.intro))))
      conv => whnf
      refine AAr.i64 (by omega) ?_
      conv => whnf
      refine vif_split (fun h4 => ?_) (fun h4 => ?_)
      rotate_left 1
      · rw [if_neg (fun h' => by simp at h4; exact h4 h'.1)] at hB
        conv => whnf
        refine AAr.i64 (by omega) ?_
        conv => whnf
        exact aback (i + 1) [] [] rfl (by show l.length - (i + 1) < l.length - i; omega) hlt (by repeat' (first | rfl | trivial | apply And.intro)) ⟨congrArg (Value.int .i64) hV.symm, congrArg (Value.int .i64) hB.symm, rfl, trivial⟩
      conv => whnf
      refine vif_split (fun h5 => ?_) (fun h5 => ?_)
      rotate_left 1
      · rw [if_neg (fun h' => by simp [sEq_tx] at h5; exact h5 h'.2)] at hB
        conv => whnf
        refine AAr.i64 (by omega) ?_
        conv => whnf
        exact aback (i + 1) [] [] rfl (by show l.length - (i + 1) < l.length - i; omega) hlt (by repeat' (first | rfl | trivial | apply And.intro)) ⟨congrArg (Value.int .i64) hV.symm, congrArg (Value.int .i64) hB.symm, rfl, trivial⟩
      rw [if_pos ⟨by simpa using h4, by simpa [sEq_tx] using h5⟩] at hB
      conv => whnf
      refine AAr.i64 (by omega) ?_
      conv => whnf
      refine AAr.i64 (by omega) ?_
      conv => whnf
      exact aback (i + 1) [] [] rfl (by show l.length - (i + 1) < l.length - i; omega) hlt (by repeat' (first | rfl | trivial | apply And.intro)) ⟨congrArg (Value.int .i64) hV.symm, congrArg (Value.int .i64) hB.symm, rfl, trivial⟩
  · have hie : i = l.length := by simp at h; omega
    subst hie
    rw [List.take_length]
    conv => whnf
    (refine acallI (by kernel_rfl) (afn_of Tryd.func57 rfl mixed (by kernel_rfl) ?_); (conv => whnf))
    (refine aendV ?_ rfl ?_; rotate_left 1; (focus (repeat' (first | rfl | trivial | apply And.intro))); (conv => whnf))
    conv => whnf
    (refine acallI (by kernel_rfl) (afn_of Tryd.func57 rfl mixed (by kernel_rfl) ?_); (conv => whnf))
    (refine aendV ?_ rfl ?_; rotate_left 1; (focus (repeat' (first | rfl | trivial | apply And.intro))); (conv => whnf))
    conv => whnf
    exact aret [] (by repeat' (first | rfl | trivial | apply And.intro))
end Go.Proofs.YtmnjmdajgilhiaaDoor.Cl
