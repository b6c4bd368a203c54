/- The walks of FromWeights of both texts. Conditions: the argument reads as numbers. -/
import Derived.Test.YthnncehddnfjmaaDoorBk4
set_option linter.unusedVariables false
set_option linter.unusedSimpArgs false
namespace Go.Proofs.YthnncehddnfjmaaDoor.Bk
open Go Go.RowKit Go.Proofs.YthnncehddnfjmaaDoor.Vc Go.Proofs.YthnncehddnfjmaaDoor.Dg
attribute [local irreducible] loadVar storeVar Instr.indexAt Instr.index Instr.sliceAt Instr.makeSlice Instr.lookup Instr.mapUpdate Instr.range Instr.next Instr.entry Instr.makeMap Builtin.append_ Builtin.copy_ Builtin.len_ Builtin.min_ Builtin.max_ Builtin.cap_ Builtin.delete_ Builtin.clear_ convert binOp eqGuard Op.unary Calls

/-- the ranges of weights -/
def fw (W : Nat → Int) : Nat → List Rng
  | 0 => []
  | k + 1 => fw W k ++ if W k > 0 then [⟨isum W k, isum W k + W k, (k : Int) + 1⟩] else []
theorem fw_len (W : Nat → Int) (k : Nat) : (fw W k).length ≤ k := by
  induction k with
  | zero => simp [fw]
  | succ k ih => simp only [fw, List.length_append]; split <;> simp <;> omega
theorem rc_one (l : List Rng) : ∀ u ∈ recs rc l, u.oneCell' = true := by
  intro u hu
  simp only [recs, List.mem_flatten, List.mem_map] at hu
  obtain ⟨_, ⟨r, _, rfl⟩, hu⟩ := hu
  simp only [rc, List.mem_cons, List.not_mem_nil, or_false] at hu
  rcases hu with rfl | rfl | rfl <;> rfl

set_option maxRecDepth 100000 in
theorem fromWeights1_ok (oa : Option Addr) (n c : Nat) (vs : List Value) (W : Nat → Int) (w : World) (hr : Row w oa vs) (hW : Ints vs n W) (hn : n ≤ 1099511627776) :
    Ret Tryd.prog 25 #[.slice oa n c] w fun v w' => ∃ oa' c' l, v = .tuple #[.slice oa' l.length c', .int .i64 (chk n W)] ∧ l = (if chk n W = 0 then fw W n else []) ∧ Row w' oa' (recs rc l) ∧ Below w.heap.size w w' := by
  refine ret_of_vc Tryd.func25 rfl mixed (by kernel_rfl) ?_
  conv => whnf
  refine vcall (by kernel_rfl) (check1_ok oa n c vs W w hr hW hn) ?_
  rintro _ w1 ⟨rfl, hQ1⟩
  have hr1 : Row w1 oa vs := hr.below (hQ1.below _)
  have hB1 : Below w.heap.size w w1 := hQ1.below _
  have hch := @chk_zero n W
  obtain ⟨e, he⟩ : ∃ e, e = chk n W := ⟨_, rfl⟩
  rw [← he] at hch ⊢
  clear hQ1 hr1
  conv => whnf
  refine vif_split (fun h0 => ?_) (fun h0 => ?_)
  · have h0 : ¬ e = 0 := by intro e'; simp [e'] at h0
    conv => whnf
    exact VEnd.mk ⟨none, 0, [], rfl, by rw [if_neg h0], Row.nil _ _, hB1⟩
  have h0 : e = 0 := by simpa using h0
  obtain ⟨hn8, hpos, hsum⟩ := hch h0
  have hmono := isum_mono hpos
  conv => whnf
  refine vloop (X := Nat × Option Addr × Nat) ws25_1 (fun x => [(16, .int .i64 x.1), (6, .int .i64 (isum W x.1)), (5, .slice x.2.1 (fw W x.1).length x.2.2)]) (fun x w' => x.1 ≤ n ∧ Below w.heap.size w w' ∧ Own w' w.heap.size 69 3 x.2.1 (fw W x.1).length x.2.2 (recs rc (fw W x.1))) (fun x => n - x.1) (0, none, 0) (by kernel_rfl)
    ?_ ⟨Nat.zero_le _, hB1, Own.nil _ _ _ _⟩ ?_
  · exact ⟨rfl, rfl, rfl, trivial⟩
  rintro ⟨i, oo, cc⟩ w2 j ⟨hi, hB2, ho⟩
  simp only at hi ho
  have hr2 := hr.below hB2
  conv => whnf
  refine vif_split (fun hlt => ?_) (fun hge => ?_)
  · have hlt : i < n := by have := of_decide_eq_true hlt; omega
    obtain ⟨b, o, rfl, hbl, hc0⟩ := hr.at (by rw [hW.1]; omega)
    have hc := hc0.below hB2 hbl
    have h1 := hW.2 i hlt
    have hw1 := hpos i hlt
    have hs1 := hmono (i + 1) n (by omega) (by omega)
    have hs2 := hmono 0 i (by omega) (by omega)
    simp only [isum] at hs1 hs2
    have hfl := fw_len W i
    conv => whnf
    (repeat (first | (refine VReq.mk (by first | decide | omega) ?_; conv => whnf) | (refine VPend.mk rfl ?_; conv => whnf) | (refine VNext.keep rfl ?_; conv => whnf) | (refine vs_slI1 _ rfl rfl rfl (by assumption) ?_; conv => whnf) | (refine vs_slI _ rfl rfl rfl (by assumption) ?_; conv => whnf) | (refine vs_arr1 _ rfl rfl rfl (by assumption) ?_; conv => whnf) | (refine vs_loadF (by with_reducible assumption) (by assumption) rfl rfl ?_; conv => whnf) | (refine vs_loadF0 (by with_reducible assumption) (by assumption) rfl rfl ?_; conv => whnf) | (refine vs_loadI (by with_reducible assumption) (by assumption) rfl ?_; conv => whnf) | (refine vs_loadB rfl (by with_reducible assumption) (by assumption) ?_; conv => whnf)))
    refine vif_split (fun hv => ?_) (fun hv => ?_)
    · have hv : W i > 0 := of_decide_eq_true hv
      have hf : fw W (i + 1) = fw W i ++ [⟨isum W i, isum W i + W i, (i : Int) + 1⟩] := by simp only [fw]; rw [if_pos hv]
      conv => whnf
      (repeat (first | (refine VReq.mk (by first | decide | omega) ?_; conv => whnf) | (refine VPend.mk rfl ?_; conv => whnf) | (refine VNext.keep rfl ?_; conv => whnf) | (refine vs_slI1 _ rfl rfl rfl (by assumption) ?_; conv => whnf) | (refine vs_slI _ rfl rfl rfl (by assumption) ?_; conv => whnf) | (refine vs_arr1 _ rfl rfl rfl (by assumption) ?_; conv => whnf) | (refine vs_loadF (by with_reducible assumption) (by assumption) rfl rfl ?_; conv => whnf) | (refine vs_loadF0 (by with_reducible assumption) (by assumption) rfl rfl ?_; conv => whnf) | (refine vs_loadI (by with_reducible assumption) (by assumption) rfl ?_; conv => whnf) | (refine vs_loadB rfl (by with_reducible assumption) (by assumption) ?_; conv => whnf)))
      rw [i64_of (x := isum W i + W i) (by omega) (by omega), i64_of (x := (i : Int) + 1) (by omega) (by omega)]
      refine vs_append (B := w.heap.size) (sz := 3) (by_ := 24) (m := 1) (n := (fw W i).length) rfl rfl rfl rfl rfl rfl (ho.alloc _) (Row.alloc1 w2 (rc ⟨isum W i, isum W i + W i, (i : Int) + 1⟩) _) rfl (by simpa [recs_one] using rc_one [⟨isum W i, isum W i + W i, (i : Int) + 1⟩]) (fun e => by cases e) (by omega) (Nat.le_trans hB2.size (by simp)) (by unfold maxLen; omega) ?_
      intro o3 c3 w3 ho3 hB3 hgr
      rw [← recs_one rc, ← recs_append, ← hf] at ho3
      have hc3 := hc0.below ((balloc hB2 (Nat.le_refl _) _).trans hB3) hbl
      conv => whnf
      (repeat (first | (refine VReq.mk (by first | decide | omega) ?_; conv => whnf) | (refine VPend.mk rfl ?_; conv => whnf) | (refine VNext.keep rfl ?_; conv => whnf) | (refine vs_slI1 _ rfl rfl rfl (by assumption) ?_; conv => whnf) | (refine vs_slI _ rfl rfl rfl (by assumption) ?_; conv => whnf) | (refine vs_arr1 _ rfl rfl rfl (by assumption) ?_; conv => whnf) | (refine vs_loadF (by with_reducible assumption) (by assumption) rfl rfl ?_; conv => whnf) | (refine vs_loadF0 (by with_reducible assumption) (by assumption) rfl rfl ?_; conv => whnf) | (refine vs_loadI (by with_reducible assumption) (by assumption) rfl ?_; conv => whnf) | (refine vs_loadB rfl (by with_reducible assumption) (by assumption) ?_; conv => whnf)))
      refine VBack.mk ⟨_, ?_, (i + 1, o3, c3), rfl, ?_, ?_⟩
      · show n - (i + 1) < n - i; omega
      · exact ⟨intEq (incr (by omega)), intEq (i64_of (by simp only; omega) (by simp only; omega)), by rw [hf, List.length_append]; rfl, trivial⟩
      · exact ⟨hlt, (balloc hB2 (Nat.le_refl _) _).trans hB3, by rw [hf, List.length_append, ← hf]; exact ho3⟩
    · have hv : ¬ W i > 0 := of_decide_eq_false hv
      have hf : fw W (i + 1) = fw W i := by simp only [fw]; rw [if_neg hv]; simp
      conv => whnf
      refine VBack.mk ⟨_, ?_, (i + 1, oo, cc), rfl, ?_, ?_⟩
      · show n - (i + 1) < n - i; omega
      · exact ⟨intEq (incr (by omega)), intEq (by exact i64_of (by simp only; omega) (by simp only; omega)), by rw [hf]; rfl, trivial⟩
      · exact ⟨hlt, hB2, by rw [hf]; exact ho⟩
  · have hge : ¬ i < n := by have := of_decide_eq_false hge; omega
    obtain rfl : i = n := by omega
    conv => whnf
    exact VEnd.mk ⟨oo, cc, fw W i, by rw [h0]; rfl, by rw [if_pos h0], ho.row, hB2⟩
set_option maxRecDepth 100000 in
theorem fromWeights2_ok (oa : Option Addr) (n c : Nat) (vs : List Value) (W : Nat → Int) (w : World) (hr : Row w oa vs) (hW : Ints vs n W) (hn : n ≤ 1099511627776) :
    Ret Tryd.prog 26 #[.slice oa n c] w fun v w' => ∃ oa' c' l, v = .tuple #[.slice oa' l.length c', .int .i64 (chk n W)] ∧ l = (if chk n W = 0 then fw W n else []) ∧ Row w' oa' (recs rc l) ∧ Below w.heap.size w w' := by
  refine ret_of_vc Tryd.func26 rfl mixed (by kernel_rfl) ?_
  conv => whnf
  refine vcall (by kernel_rfl) (check2_ok oa n c vs W w hr hW hn) ?_
  rintro _ w1 ⟨rfl, hQ1⟩
  have hr1 : Row w1 oa vs := hr.below (hQ1.below _)
  have hB1 : Below w.heap.size w w1 := hQ1.below _
  have hch := @chk_zero n W
  obtain ⟨e, he⟩ : ∃ e, e = chk n W := ⟨_, rfl⟩
  rw [← he] at hch ⊢
  clear hQ1 hr1
  conv => whnf
  refine vif_split (fun h0 => ?_) (fun h0 => ?_)
  · have h0 : ¬ e = 0 := by intro e'; simp [e'] at h0
    conv => whnf
    exact VEnd.mk ⟨none, 0, [], rfl, by rw [if_neg h0], Row.nil _ _, hB1⟩
  have h0 : e = 0 := by simpa using h0
  obtain ⟨hn8, hpos, hsum⟩ := hch h0
  have hmono := isum_mono hpos
  conv => whnf
  refine vloop (X := Nat × Option Addr × Nat) ws26_1 (fun x => [(7, .int .i64 x.1), (6, .int .i64 (isum W x.1)), (5, .slice x.2.1 (fw W x.1).length x.2.2)]) (fun x w' => x.1 ≤ n ∧ Below w.heap.size w w' ∧ Own w' w.heap.size 69 3 x.2.1 (fw W x.1).length x.2.2 (recs rc (fw W x.1))) (fun x => n - x.1) (0, none, 0) (by kernel_rfl)
    ?_ ⟨Nat.zero_le _, hB1, Own.nil _ _ _ _⟩ ?_
  · exact ⟨rfl, rfl, rfl, trivial⟩
  rintro ⟨i, oo, cc⟩ w2 j ⟨hi, hB2, ho⟩
  simp only at hi ho
  have hr2 := hr.below hB2
  conv => whnf
  refine vif_split (fun hlt => ?_) (fun hge => ?_)
  · have hlt : i < n := by have := of_decide_eq_true hlt; omega
    obtain ⟨b, o, rfl, hbl, hc0⟩ := hr.at (by rw [hW.1]; omega)
    have hc := hc0.below hB2 hbl
    have h1 := hW.2 i hlt
    have hw1 := hpos i hlt
    have hs1 := hmono (i + 1) n (by omega) (by omega)
    have hs2 := hmono 0 i (by omega) (by omega)
    simp only [isum] at hs1 hs2
    have hfl := fw_len W i
    conv => whnf
    (repeat (first | (refine VReq.mk (by first | decide | omega) ?_; conv => whnf) | (refine VPend.mk rfl ?_; conv => whnf) | (refine VNext.keep rfl ?_; conv => whnf) | (refine vs_slI1 _ rfl rfl rfl (by assumption) ?_; conv => whnf) | (refine vs_slI _ rfl rfl rfl (by assumption) ?_; conv => whnf) | (refine vs_arr1 _ rfl rfl rfl (by assumption) ?_; conv => whnf) | (refine vs_loadF (by with_reducible assumption) (by assumption) rfl rfl ?_; conv => whnf) | (refine vs_loadF0 (by with_reducible assumption) (by assumption) rfl rfl ?_; conv => whnf) | (refine vs_loadI (by with_reducible assumption) (by assumption) rfl ?_; conv => whnf) | (refine vs_loadB rfl (by with_reducible assumption) (by assumption) ?_; conv => whnf)))
    refine vif_split (fun hv => ?_) (fun hv => ?_)
    · have hv : W i > 0 := of_decide_eq_true hv
      have hf : fw W (i + 1) = fw W i ++ [⟨isum W i, isum W i + W i, (i : Int) + 1⟩] := by simp only [fw]; rw [if_pos hv]
      conv => whnf
      (repeat (first | (refine VReq.mk (by first | decide | omega) ?_; conv => whnf) | (refine VPend.mk rfl ?_; conv => whnf) | (refine VNext.keep rfl ?_; conv => whnf) | (refine vs_slI1 _ rfl rfl rfl (by assumption) ?_; conv => whnf) | (refine vs_slI _ rfl rfl rfl (by assumption) ?_; conv => whnf) | (refine vs_arr1 _ rfl rfl rfl (by assumption) ?_; conv => whnf) | (refine vs_loadF (by with_reducible assumption) (by assumption) rfl rfl ?_; conv => whnf) | (refine vs_loadF0 (by with_reducible assumption) (by assumption) rfl rfl ?_; conv => whnf) | (refine vs_loadI (by with_reducible assumption) (by assumption) rfl ?_; conv => whnf) | (refine vs_loadB rfl (by with_reducible assumption) (by assumption) ?_; conv => whnf)))
      rw [i64_of (x := isum W i + W i) (by omega) (by omega), i64_of (x := (i : Int) + 1) (by omega) (by omega)]
      refine vs_append (B := w.heap.size) (sz := 3) (by_ := 24) (m := 1) (n := (fw W i).length) rfl rfl rfl rfl rfl rfl (ho.alloc _) (Row.alloc1 w2 (rc ⟨isum W i, isum W i + W i, (i : Int) + 1⟩) _) rfl (by simpa [recs_one] using rc_one [⟨isum W i, isum W i + W i, (i : Int) + 1⟩]) (fun e => by cases e) (by omega) (Nat.le_trans hB2.size (by simp)) (by unfold maxLen; omega) ?_
      intro o3 c3 w3 ho3 hB3 hgr
      rw [← recs_one rc, ← recs_append, ← hf] at ho3
      have hc3 := hc0.below ((balloc hB2 (Nat.le_refl _) _).trans hB3) hbl
      conv => whnf
      (repeat (first | (refine VReq.mk (by first | decide | omega) ?_; conv => whnf) | (refine VPend.mk rfl ?_; conv => whnf) | (refine VNext.keep rfl ?_; conv => whnf) | (refine vs_slI1 _ rfl rfl rfl (by assumption) ?_; conv => whnf) | (refine vs_slI _ rfl rfl rfl (by assumption) ?_; conv => whnf) | (refine vs_arr1 _ rfl rfl rfl (by assumption) ?_; conv => whnf) | (refine vs_loadF (by with_reducible assumption) (by assumption) rfl rfl ?_; conv => whnf) | (refine vs_loadF0 (by with_reducible assumption) (by assumption) rfl rfl ?_; conv => whnf) | (refine vs_loadI (by with_reducible assumption) (by assumption) rfl ?_; conv => whnf) | (refine vs_loadB rfl (by with_reducible assumption) (by assumption) ?_; conv => whnf)))
      refine VBack.mk ⟨_, ?_, (i + 1, o3, c3), rfl, ?_, ?_⟩
      · show n - (i + 1) < n - i; omega
      · exact ⟨intEq (incr (by omega)), intEq (i64_of (by simp only; omega) (by simp only; omega)), by rw [hf, List.length_append]; rfl, trivial⟩
      · exact ⟨hlt, (balloc hB2 (Nat.le_refl _) _).trans hB3, by rw [hf, List.length_append, ← hf]; exact ho3⟩
    · have hv : ¬ W i > 0 := of_decide_eq_false hv
      have hf : fw W (i + 1) = fw W i := by simp only [fw]; rw [if_neg hv]; simp
      conv => whnf
      refine VBack.mk ⟨_, ?_, (i + 1, oo, cc), rfl, ?_, ?_⟩
      · show n - (i + 1) < n - i; omega
      · exact ⟨intEq (incr (by omega)), intEq (by simp only [isum]; omega), by rw [hf]; rfl, trivial⟩
      · exact ⟨hlt, hB2, by rw [hf]; exact ho⟩
  · have hge : ¬ i < n := by have := of_decide_eq_false hge; omega
    obtain rfl : i = n := by omega
    conv => whnf
    exact VEnd.mk ⟨oo, cc, fw W i, by rw [h0]; rfl, by rw [if_pos h0], ho.row, hB2⟩
end Go.Proofs.YthnncehddnfjmaaDoor.Bk
