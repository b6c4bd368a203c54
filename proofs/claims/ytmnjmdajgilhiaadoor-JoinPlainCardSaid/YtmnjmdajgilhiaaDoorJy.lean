/- The walk of the reference's metric Value over measures. Condition: sizes; all events are measures. -/
import Derived.Test.YtmnjmdajgilhiaaDoorJt
set_option linter.unusedVariables false
set_option linter.unusedSimpArgs false
namespace Go.Proofs.YtmnjmdajgilhiaaDoor.Cl
open Go Go.RowKit Go.Proofs Go.Proofs.YtmnjmdajgilhiaaDoor.Vc Go.Proofs.YtmnjmdajgilhiaaDoor.Ax Go.Proofs.YtmnjmdajgilhiaaDoor.Ky Go.Proofs.YtmnjmdajgilhiaaDoor.Id
attribute [local irreducible] loadVar storeVar Instr.indexAt Instr.index Instr.sliceAt Instr.makeSlice Instr.lookup Instr.mapUpdate Instr.range Instr.next Instr.entry Instr.makeMap Builtin.append_ Builtin.copy_ Builtin.len_ Builtin.min_ Builtin.max_ Builtin.cap_ Builtin.delete_ Builtin.clear_ convert binOp eqGuard Op.unary Calls
/-- the sum, the number, the sum below -/
def rsum (m : Mt) (l : List Ev) : Int := l.foldl (fun a e => if e.name = m.name ∧ m.least ≤ e.val then a + e.val else a) 0
def rcnt (m : Mt) (l : List Ev) : Int := l.foldl (fun a e => if e.name = m.name ∧ m.least ≤ e.val then a + 1 else a) 0
def rbel (m : Mt) (l : List Ev) : Int := l.foldl (fun a e => if e.name = m.below then a + e.val else a) 0
theorem fold_take {f : Int → Ev → Int} {l : List Ev} {i : Nat} (h : i < l.length) : (l.take (i + 1)).foldl f 0 = f ((l.take i).foldl f 0) l[i] := by rw [List.take_succ_eq_append_getElem h, List.foldl_append]; rfl
theorem r_rng {m : Mt} {l : List Ev} (h : MeasL l) : ∀ i, i ≤ l.length → (-1000000 * (i : Int) ≤ rsum m (l.take i) ∧ rsum m (l.take i) ≤ 1000000 * (i : Int)) ∧ (0 ≤ rcnt m (l.take i) ∧ rcnt m (l.take i) ≤ (i : Int)) ∧ (-1000000 * (i : Int) ≤ rbel m (l.take i) ∧ rbel m (l.take i) ≤ 1000000 * (i : Int)) := by
  intro i
  induction i with
  | zero => intro _; simp [rsum, rcnt, rbel]
  | succ i ih =>
    intro hi
    have h1 := ih (by omega)
    have hv := h.val _ (List.getElem_mem (show i < l.length by omega))
    unfold rsum rcnt rbel at *
    rw [fold_take (by omega), fold_take (by omega), fold_take (by omega)]
    refine ⟨?_, ?_, ?_⟩ <;> split <;> omega
theorem fold_eq {f g : Int → Ev → Int} (l : List Ev) (h : ∀ a e, f a e = g a e) : l.foldl f 0 = l.foldl g 0 := by
  have : f = g := by funext a e; exact h a e
  rw [this]
theorem mtV_sum {m : Mt} (l : List Ev) (h : m.kind = 1 ∨ m.kind = 4) : mtV m l = rsum m l := fold_eq l fun a e => by unfold mtW; rw [if_pos h]
theorem mtV_cnt {m : Mt} (l : List Ev) (h : ¬ (m.kind = 1 ∨ m.kind = 4)) : mtV m l = rcnt m l := fold_eq l fun a e => by unfold mtW; rw [if_neg h]
theorem mtB_bel {m : Mt} (l : List Ev) (h : m.kind = 4) : mtB m l = rbel m l := fold_eq l fun a e => by simp only [h, true_and]
theorem mtB_no {m : Mt} (l : List Ev) (h : ¬ m.kind = 4) : mtB m l = 0 := by
  unfold mtB
  induction l with
  | nil => rfl
  | cons e r ih => rw [List.foldl_cons, if_neg (fun h' => h h'.1)]; exact ih
theorem lim_0 {m : Mt} (h : mtC m = 0) : lim m 0 = 0 := by
  have : 1 ≤ m.cap := by
    unfold mtC at h
    split at h
    · cases h
    split at h
    · cases h
    split at h
    · cases h
    · rename_i h3; omega
  unfold lim; omega
theorem cap_1 {m : Mt} (h : mtC m = 0) (h3 : m.kind = 3) : m.cap = 1 := by
  unfold mtC at h
  split at h
  · cases h
  split at h
  · cases h
  split at h
  · cases h
  split at h
  · cases h
  · rename_i h4
    by_cases hc : m.cap = 1
    · exact hc
    · exact absurd (.inr ⟨h3, hc⟩) h4
set_option maxRecDepth 100000 in
theorem limitedA (n c : Int) : AFn Tryd.prog GS 48 [iv n, iv c] 0 [] (Is (iv (max 0 (min n c)))) := by
  refine afn_of Tryd.func48 rfl mixed (by kernel_rfl) ?_
  conv => whnf
  exact aret [] (by repeat' (first | rfl | trivial | apply And.intro))
set_option maxHeartbeats 16000000 in
set_option maxRecDepth 100000 in
theorem valueRA (m : Mt) (l : List Ev) (hm : mtC m = 0) (hl : MeasL l) (z1 : m.name.length ≤ 140737488355328) (z2 : m.below.length ≤ 140737488355328) : AFn Tryd.prog GS 18 [mtA m, el l] 0 [] (Is (.tup [iv (lim m (mtV m l)), iv (lim m (mtB m l))])) := by
  have hrg := r_rng (m := m) hl
  have hlen := hl.len
  refine afn_of Tryd.func18 rfl mixed (by kernel_rfl) ?_
  conv => whnf
  (refine acall [] (by kernel_rfl) (mchk2 m z1 z2) rfl ?_ ?_; (focus (repeat' (first | rfl | trivial | apply And.intro))))
  rw [hm]
  conv => whnf
  refine aloop ws18_1 1 [6, 7, 8, 9] (fun i : Nat => [(6, iv (rsum m (l.take i))), (7, iv (rcnt m (l.take i))), (8, iv (rbel m (l.take i))), (9, iv i)]) (fun i => [(0, mvB m)]) (fun i => i ≤ l.length) (fun i => l.length - i) [] [] 0 (by kernel_rfl) (fun _ => rfl) rfl (Nat.zero_le _) (by repeat' (first | rfl | trivial | apply And.intro)) (by repeat' (first | rfl | trivial | apply And.intro)) ?_
  intro i hi
  conv => whnf
  refine vif_split (fun h => ?_) (fun h => ?_)
  · have hlt : i < l.length := by simp at h; omega
    have hS : rsum m (l.take (i + 1)) = _ := fold_take hlt
    have hN : rcnt m (l.take (i + 1)) = _ := fold_take hlt
    have hB : rbel m (l.take (i + 1)) = _ := fold_take hlt
    have hr := hrg i hi
    have hv := hl.val _ (List.getElem_mem hlt)
    have hk := hl.kind _ (List.getElem_mem hlt)
    have hg := List.getElem?_eq_getElem hlt
    change _ = (if l[i].name = m.name ∧ m.least ≤ l[i].val then rsum m (l.take i) + l[i].val else rsum m (l.take i)) at hS
    change _ = (if l[i].name = m.name ∧ m.least ≤ l[i].val then rcnt m (l.take i) + 1 else rcnt m (l.take i)) at hN
    change _ = (if l[i].name = m.below then rbel m (l.take i) + l[i].val else rbel m (l.take i)) at hB
    generalize l[i] = e at *
    generalize rsum m (l.take i) = a at *
    generalize rcnt m (l.take i) = n at *
    generalize rbel m (l.take i) = b at *
    conv => whnf
    refine AIn.mk' i rfl (by rw [List.length_map]; exact hlt) ?_
    conv => whnf
    refine ARd.mapAt hg ?_
    conv => whnf
    refine vif_split (fun h0 => ?_) (fun h0 => ?_)
    · exfalso; simp [hk] at h0
    conv => whnf
    refine vif_split (fun h1 => ?_) (fun h1 => ?_)
    rotate_left 1
    · have hno : ¬ (e.name = m.name ∧ m.least ≤ e.val) := fun h' => by simp [sEq_tx] at h1; exact h1 h'.1
      rw [if_neg hno] at hS hN
      conv => whnf
      refine vif_split (fun h5 => ?_) (fun h5 => ?_)
      · rw [if_pos (by simpa [sEq_tx] using h5)] at hB
        conv => whnf
        refine AAr.i64 (by omega) ?_
        conv => whnf
        refine AAr.i64 (by omega) ?_
        conv => whnf
        exact aback (i + 1) [] [] rfl (by show l.length - (i + 1) < l.length - i; omega) hlt (by repeat' (first | rfl | trivial | apply And.intro)) ⟨congrArg (Value.int .i64) hS.symm, congrArg (Value.int .i64) hN.symm, congrArg (Value.int .i64) hB.symm, rfl, trivial⟩
      · rw [if_neg (by simpa [sEq_tx] using h5)] at hB
        conv => whnf
        refine AAr.i64 (by omega) ?_
        conv => whnf
        exact aback (i + 1) [] [] rfl (by show l.length - (i + 1) < l.length - i; omega) hlt (by repeat' (first | rfl | trivial | apply And.intro)) ⟨congrArg (Value.int .i64) hS.symm, congrArg (Value.int .i64) hN.symm, congrArg (Value.int .i64) hB.symm, rfl, trivial⟩
    conv => whnf
    refine vif_split (fun h2 => ?_) (fun h2 => ?_)
    rotate_left 1
    · have hno : ¬ (e.name = m.name ∧ m.least ≤ e.val) := fun h' => by simp at h2; omega
      rw [if_neg hno] at hS hN
      conv => whnf
      refine vif_split (fun h5 => ?_) (fun h5 => ?_)
      · rw [if_pos (by simpa [sEq_tx] using h5)] at hB
        conv => whnf
        refine AAr.i64 (by omega) ?_
        conv => whnf
        refine AAr.i64 (by omega) ?_
        conv => whnf
        exact aback (i + 1) [] [] rfl (by show l.length - (i + 1) < l.length - i; omega) hlt (by repeat' (first | rfl | trivial | apply And.intro)) ⟨congrArg (Value.int .i64) hS.symm, congrArg (Value.int .i64) hN.symm, congrArg (Value.int .i64) hB.symm, rfl, trivial⟩
      · rw [if_neg (by simpa [sEq_tx] using h5)] at hB
        conv => whnf
        refine AAr.i64 (by omega) ?_
        conv => whnf
        exact aback (i + 1) [] [] rfl (by show l.length - (i + 1) < l.length - i; omega) hlt (by repeat' (first | rfl | trivial | apply And.intro)) ⟨congrArg (Value.int .i64) hS.symm, congrArg (Value.int .i64) hN.symm, congrArg (Value.int .i64) hB.symm, rfl, trivial⟩
    have hyes : e.name = m.name ∧ m.least ≤ e.val := ⟨by simpa [sEq_tx] using h1, by simpa using h2⟩
    rw [if_pos hyes] at hS hN
    conv => whnf
    refine AAr.i64 (by omega) ?_
    conv => whnf
    refine AAr.i64 (by omega) ?_
    · skip
      conv => whnf
      refine vif_split (fun h5 => ?_) (fun h5 => ?_)
      · rw [if_pos (by simpa [sEq_tx] using h5)] at hB
        conv => whnf
        refine AAr.i64 (by omega) ?_
        conv => whnf
        refine AAr.i64 (by omega) ?_
        conv => whnf
        exact aback (i + 1) [] [] rfl (by show l.length - (i + 1) < l.length - i; omega) hlt (by repeat' (first | rfl | trivial | apply And.intro)) ⟨congrArg (Value.int .i64) hS.symm, congrArg (Value.int .i64) hN.symm, congrArg (Value.int .i64) hB.symm, rfl, trivial⟩
      · rw [if_neg (by simpa [sEq_tx] using h5)] at hB
        conv => whnf
        refine AAr.i64 (by omega) ?_
        conv => whnf
        exact aback (i + 1) [] [] rfl (by show l.length - (i + 1) < l.length - i; omega) hlt (by repeat' (first | rfl | trivial | apply And.intro)) ⟨congrArg (Value.int .i64) hS.symm, congrArg (Value.int .i64) hN.symm, congrArg (Value.int .i64) hB.symm, rfl, trivial⟩
  · have hie : i = l.length := by simp at h; omega
    subst hie
    rw [List.take_length]
    rcases mtC_kind hm with hk | hk | hk | hk
    · rw [mtV_sum l (.inl hk), mtB_no l (by omega), lim_0 hm]
      conv => whnf
      refine vif_split (fun h => ?_) (fun h => ?_)
      · exfalso; simp [hk] at h
      conv => whnf
      refine vif_split (fun h => ?_) (fun h => ?_)
      · exfalso; simp [hk] at h
      conv => whnf
      refine vif_split (fun h => ?_) (fun h => ?_)
      · exfalso; simp [hk] at h
      conv => whnf
      (refine acall [] (by kernel_rfl) (limitedA (rsum m l) m.cap) rfl ?_ ?_; (focus (repeat' (first | rfl | trivial | apply And.intro))))
      conv => whnf
      exact aret [] (by repeat' (first | rfl | trivial | apply And.intro))
    · rw [mtV_cnt l (by omega), mtB_no l (by omega), lim_0 hm]
      conv => whnf
      refine vif_split (fun h => ?_) (fun h => ?_)
      rotate_left 1
      · exfalso; simp [hk] at h
      conv => whnf
      (refine acall [] (by kernel_rfl) (limitedA (rcnt m l) m.cap) rfl ?_ ?_; (focus (repeat' (first | rfl | trivial | apply And.intro))))
      conv => whnf
      exact aret [] (by repeat' (first | rfl | trivial | apply And.intro))
    · rw [mtV_cnt l (by omega), mtB_no l (by omega), lim_0 hm]
      conv => whnf
      refine vif_split (fun h => ?_) (fun h => ?_)
      · exfalso; simp [hk] at h
      conv => whnf
      refine vif_split (fun h => ?_) (fun h => ?_)
      rotate_left 1
      · exfalso; simp [hk] at h
      conv => whnf
      (refine acall [] (by kernel_rfl) (limitedA (rcnt m l) 1) rfl ?_ ?_; (focus (repeat' (first | rfl | trivial | apply And.intro))))
      conv => whnf
      exact aret [] (by unfold lim; rw [cap_1 hm hk]; repeat' (first | rfl | trivial | apply And.intro))
    · rw [mtV_sum l (.inr hk), mtB_bel l hk]
      conv => whnf
      refine vif_split (fun h => ?_) (fun h => ?_)
      · exfalso; simp [hk] at h
      conv => whnf
      refine vif_split (fun h => ?_) (fun h => ?_)
      · exfalso; simp [hk] at h
      conv => whnf
      refine vif_split (fun h => ?_) (fun h => ?_)
      rotate_left 1
      · exfalso; simp [hk] at h
      conv => whnf
      (refine adraw pln18 [] (by kernel_rfl) ?_; conv => whnf)
      repeat' (first
        | (refine And.intro ?_ ?_ <;> (conv => whnf))
        | ((refine acall [] (by kernel_rfl) (limitedA (rsum m l) m.cap) rfl ?_ ?_; (focus ((repeat' (first | rfl | trivial | apply And.intro)); done)); (conv => whnf)))
        | ((refine acall [] (by kernel_rfl) (limitedA (rbel m l) m.cap) rfl ?_ ?_; (focus ((repeat' (first | rfl | trivial | apply And.intro)); done)); (conv => whnf))))
      all_goals exact aret [] (by repeat' (first | rfl | trivial | apply And.intro))
end Go.Proofs.YtmnjmdajgilhiaaDoor.Cl
