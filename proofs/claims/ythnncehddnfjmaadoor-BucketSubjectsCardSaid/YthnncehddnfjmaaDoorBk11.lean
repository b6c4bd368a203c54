/- The walks of the law's weights and of awake, with the plain reckoning of its example. Conditions: the variable halves holds what it was laid with. -/
import Derived.Test.YthnncehddnfjmaaDoorBk10
set_option linter.unusedVariables false
set_option linter.unusedSimpArgs false
namespace Go.Proofs.YthnncehddnfjmaaDoor.Bk
open Go Go.RowKit Go.Proofs.YthnncehddnfjmaaDoor.Vc Go.Proofs.YthnncehddnfjmaaDoor.Dg Go.Proofs.YthnncehddnfjmaaDoor.Dw
attribute [local irreducible] loadVar storeVar Instr.indexAt Instr.index Instr.sliceAt Instr.makeSlice Instr.lookup Instr.mapUpdate Instr.range Instr.next Instr.entry Instr.makeMap Builtin.append_ Builtin.copy_ Builtin.len_ Builtin.min_ Builtin.max_ Builtin.cap_ Builtin.delete_ Builtin.clear_ convert binOp eqGuard Op.unary Calls

set_option maxRecDepth 100000 in
theorem lawW_ok (b n : Nat) (w : World) (hn : 1 ≤ n) (hn2 : n ≤ 256) (h : Cod w b) :
    Ret Tryd.prog 14 #[.pointer (some ⟨b, 0, none⟩), .int .i64 n] w fun v w' => ∃ bw l W, v = .slice (some ⟨bw, 0, none⟩) n n ∧ w.heap.size ≤ bw ∧ Blk w' bw l 3 ∧ Ints l n W ∧ (∀ j, j < n → 0 ≤ W j) ∧ isum W n = 10000 ∧ Cod w' b ∧ w.grownBy w' (some b) := by
  refine ret_of_vc Tryd.func14 rfl mixed (by kernel_rfl) ?_
  conv => whnf
  refine vs_makeI (n := n) rfl rfl rfl rfl rfl rfl (by omega) ?_
  intro w1 z hB1 hb1 hz
  have hC1 := h.below hB1 h.lt
  have hg0 : w.grownBy w (some b) := ⟨rfl, rfl, rfl, Nat.le_refl _, fun _ _ _ => rfl⟩
  have hg1 := gBelow hg0 hB1
  have hbl := h.lt
  conv => whnf
  refine vloop (X := Nat × List Value × (Nat → Int)) ws14_1 (fun x => [(7, .int .i64 x.1), (6, .int .i64 (10000 - isum x.2.2 x.1))]) (fun x w' => x.1 ≤ n - 1 ∧ Blk w' w.heap.size x.2.1 3 ∧ Ints x.2.1 n x.2.2 ∧ (∀ j, j < n → 0 ≤ x.2.2 j) ∧ 0 ≤ isum x.2.2 x.1 ∧ isum x.2.2 x.1 ≤ 10000 ∧ Cod w' b ∧ w.grownBy w' (some b)) (fun x => n - x.1) (0, z, fun _ => 0) (by kernel_rfl)
    ?_ ⟨Nat.zero_le _, hb1, hz, fun _ _ => Int.le_refl _, Int.le_refl _, by simp [isum], hC1, hg1⟩ ?_
  · exact ⟨rfl, rfl, trivial⟩
  clear hb1 hz hC1 hg1 hB1
  rintro ⟨i, l, W⟩ w2 j ⟨hi, hb2, hl, hpos, hs0, hs1, hC2, hg2⟩
  simp only at hi hb2 hl hpos hs0 hs1 ⊢
  conv => whnf
  rw [i64_of (x := (n : Int) - 1) (by omega) (by omega)]
  refine vif_split (fun hlt => ?_) (fun hge => ?_)
  · have hlt : i < n - 1 := by have := of_decide_eq_true hlt; omega
    have hin : i < n := by omega
    obtain ⟨left, hleft⟩ : ∃ m : Nat, 10000 - isum W i = (m : Int) := nat_of (by omega)
    have e1 : IntKind.i64.wrap ((left : Int) + 1) = ((left + 1 : Nat) : Int) := incr (by omega)
    rw [hleft]
    conv => whnf
    rw [e1]
    refine vcall (by kernel_rfl) (wide_ok b (left + 1) w2 (by omega) (by omega) hC2) ?_
    rintro _ w3 ⟨x, rfl, hx, hO3, hC3⟩
    have hb3 := hb2.only hO3 (by omega)
    have hg3 := gOnly hg2 hO3
    clear hb2 hg2 hC2 hO3
    conv => whnf
    refine vs_slI1 i rfl rfl rfl hin ?_
    conv => whnf
    refine vs_storeP hb3 rfl rfl (by rw [hl.1]; omega) ?_
    intro w4 hO4 hb4
    rw [Nat.zero_add] at hb4
    have hC4 := hC3.only hO4 hbl
    have hg4 := gBelow hg3 (hO4.below (Nat.le_refl _))
    have hl4 := hl.set i x hin
    clear hb3 hC3 hg3 hO4
    conv => whnf
    refine vcall (by kernel_rfl) (next_ok b 3 w4 (by omega) (by omega) hC4) ?_
    rintro _ w5 ⟨y, rfl, hy, hO5, hC5⟩
    have hb5 := hb4.only hO5 (by omega)
    have hg5 := gOnly hg4 hO5
    clear hb4 hg4 hC4 hO5
    have wrapup : ∀ (u : Int) (W' : Nat → Int), W' = (fun j => if j = i then u else W j) → 0 ≤ u → u ≤ left → (∀ j, j < n → 0 ≤ W' j) ∧ 0 ≤ isum W' (i + 1) ∧ isum W' (i + 1) ≤ 10000 ∧ 10000 - isum W' (i + 1) = left - u := fun u W' e h0 h1 => by
      have h2 : isum W' i = isum W i := isum_congr i fun j hj => by rw [e]; exact if_neg (by omega)
      have h3 : W' i = u := by rw [e]; exact if_pos rfl
      have h4 : isum W' (i + 1) = isum W i + u := by rw [← h2, ← h3]; rfl
      refine ⟨fun j hj => ?_, by omega, by omega, by omega⟩
      rw [e]
      show 0 ≤ (if j = i then u else W j)
      split
      · exact h0
      · exact hpos j hj
    conv => whnf
    refine vif_split (fun h1 => ?_) (fun h1 => ?_)
    · conv => whnf
      refine vs_slI1 i rfl rfl rfl hin ?_
      conv => whnf
      refine vs_storeP hb5 rfl rfl (by rw [hl4.1]; omega) ?_
      intro w6 hO6 hb6
      rw [Nat.zero_add] at hb6
      have hC6 := hC5.only hO6 hbl
      have hg6 := gBelow hg5 (hO6.below (Nat.le_refl _))
      have hl6 : Ints ((l.set i (.int .i64 x)).set i (.int .i64 0)) n (fun j => if j = i then 0 else W j) := (hl4.set i 0 hin).congr fun j hj => by
        by_cases e : j = i
        · simp [e]
        · simp [e]
      obtain ⟨w1', w2', w3', w4'⟩ := wrapup 0 _ rfl (Int.le_refl _) (by omega)
      have hli := hl6.2 i hin
      simp only [if_true] at hli
      have hA6 := hb6.at
      clear hb5 hC5 hg5 hO6 hl4
      conv => whnf
      (repeat (first | (refine VReq.mk (by first | decide | omega) ?_; conv => whnf) | (refine VPend.mk rfl ?_; conv => whnf) | (refine VNext.keep rfl ?_; conv => whnf) | (refine vs_slI1 _ rfl rfl rfl (by assumption) ?_; conv => whnf) | (refine vs_slI _ rfl rfl rfl (by assumption) ?_; conv => whnf) | (refine vs_arr1 _ rfl rfl rfl (by assumption) ?_; conv => whnf) | (refine vs_loadF (by with_reducible assumption) (by assumption) rfl rfl ?_; conv => whnf) | (refine vs_loadF0 (by with_reducible assumption) (by assumption) rfl rfl ?_; conv => whnf) | (refine vs_loadI (by with_reducible assumption) (by assumption) rfl ?_; conv => whnf) | (refine vs_loadB rfl (by with_reducible assumption) (by assumption) ?_; conv => whnf)))
      refine VBack.mk ⟨_, ?_, (i + 1, (l.set i (.int .i64 x)).set i (.int .i64 0), fun j => if j = i then 0 else W j), rfl, ?_, ?_⟩
      · show n - (i + 1) < n - i; omega
      · exact ⟨intEq (incr (by omega)), intEq (by rw [w4', i64_of (by omega) (by omega)]), trivial⟩
      · exact ⟨by show i + 1 ≤ n - 1; omega, hb6, hl6, w1', w2', w3', hC6, hg6⟩
    · obtain ⟨w1', w2', w3', w4'⟩ := wrapup x _ rfl (by omega) (by omega)
      have hli : (l.set i (.int .i64 x))[i]? = some (.int .i64 x) := by rw [List.getElem?_set_self (by rw [hl.1]; omega)]
      have hA5 := hb5.at
      conv => whnf
      (repeat (first | (refine VReq.mk (by first | decide | omega) ?_; conv => whnf) | (refine VPend.mk rfl ?_; conv => whnf) | (refine VNext.keep rfl ?_; conv => whnf) | (refine vs_slI1 _ rfl rfl rfl (by assumption) ?_; conv => whnf) | (refine vs_slI _ rfl rfl rfl (by assumption) ?_; conv => whnf) | (refine vs_arr1 _ rfl rfl rfl (by assumption) ?_; conv => whnf) | (refine vs_loadF (by with_reducible assumption) (by assumption) rfl rfl ?_; conv => whnf) | (refine vs_loadF0 (by with_reducible assumption) (by assumption) rfl rfl ?_; conv => whnf) | (refine vs_loadI (by with_reducible assumption) (by assumption) rfl ?_; conv => whnf) | (refine vs_loadB rfl (by with_reducible assumption) (by assumption) ?_; conv => whnf)))
      refine VBack.mk ⟨_, ?_, (i + 1, l.set i (.int .i64 x), fun j => if j = i then (x : Int) else W j), rfl, ?_, ?_⟩
      · show n - (i + 1) < n - i; omega
      · exact ⟨intEq (incr (by omega)), intEq (by rw [w4', i64_of (by omega) (by omega)]), trivial⟩
      · exact ⟨by show i + 1 ≤ n - 1; omega, hb5, hl4, w1', w2', w3', hC5, hg5⟩
  · have hge : ¬ i < n - 1 := by have := of_decide_eq_false hge; omega
    obtain rfl : i = n - 1 := by omega
    have hin : n - 1 < n := by omega
    conv => whnf
    refine vs_slI1 (n - 1) (by rw [i64_of (by omega) (by omega)]; omega) rfl rfl hin ?_
    conv => whnf
    refine vs_storeP hb2 rfl rfl (by rw [hl.1]; omega) ?_
    intro w3 hO3 hb3
    rw [Nat.zero_add] at hb3
    conv => whnf
    refine VEnd.mk ⟨w.heap.size, _, (fun j => if j = n - 1 then 10000 - isum W (n - 1) else W j), rfl, Nat.le_refl _, hb3, hl.set (n - 1) _ hin, fun j hj => ?_, ?_, hC2.only hO3 hbl, gBelow hg2 (hO3.below (Nat.le_refl _))⟩
    · show 0 ≤ (if j = n - 1 then 10000 - isum W (n - 1) else W j)
      split
      · omega
      · exact hpos j hj
    · obtain ⟨m, rfl⟩ : ∃ m, n = m + 1 := ⟨n - 1, by omega⟩
      simp only [Nat.add_sub_cancel]
      have h2 : isum (fun j => if j = m then 10000 - isum W m else W j) m = isum W m := isum_congr m fun j hj => if_neg (by omega)
      show isum (fun j => if j = m then 10000 - isum W m else W j) m + (if m = m then 10000 - isum W m else W m) = 10000
      rw [h2, if_pos rfl]; omega

/-! awake's example -/
def hv : List Rng := [⟨0, 5000, 1⟩, ⟨5000, 10000, 2⟩]
def hw : Nat → Int := fun j => if j = 0 then 6000 else 4000
def hres : List Rng := [⟨0, 5000, 1⟩, ⟨5000, 9000, 2⟩, ⟨9000, 10000, 1⟩]
theorem hv_pt (b : Nat) (hb : b < 10000) : pt hv b = if b < 5000 then 1 else 2 := by
  simp only [hv, pt]
  by_cases h : b < 5000
  · rw [if_pos (by omega), if_pos h]
  · rw [if_neg (by omega), if_pos (by omega), if_neg h]
theorem hv_cnt1 : ∀ k : Nat, k ≤ 10000 → cnt (fun b => pt hv b) 1 k = if k ≤ 5000 then (k : Int) else 5000 := by
  intro k
  induction k with
  | zero => intro _; rfl
  | succ k ih =>
    intro hk
    simp only [cnt, ih (by omega), hv_pt k (by omega)]
    by_cases h : k < 5000
    · rw [if_pos (c := k ≤ 5000) (by omega), if_pos h, if_pos rfl, if_pos (by omega)]; omega
    · rw [if_neg h, if_neg (c := (2 : Int) = 1) (by decide), if_neg (c := k + 1 ≤ 5000) (by omega)]
      by_cases h2 : k = 5000
      · subst h2; rfl
      · rw [if_neg (by omega)]; rfl
theorem hv_cnt2 : ∀ k : Nat, k ≤ 10000 → cnt (fun b => pt hv b) 2 k = if k ≤ 5000 then 0 else (k : Int) - 5000 := by
  intro k
  induction k with
  | zero => intro _; rfl
  | succ k ih =>
    intro hk
    simp only [cnt, ih (by omega), hv_pt k (by omega)]
    by_cases h : k < 5000
    · rw [if_pos (c := k ≤ 5000) (by omega), if_pos h, if_neg (c := (1 : Int) = 2) (by decide), if_pos (by omega)]; rfl
    · rw [if_neg h, if_pos rfl, if_neg (c := k + 1 ≤ 5000) (by omega)]
      by_cases h2 : k = 5000
      · subst h2; rfl
      · rw [if_neg (by omega)]; omega
theorem hd1 (H F : Nat → Int) (hF : ∀ b : Nat, b < 10000 → F b = if b < 5000 then 1 else 2) (h0 : H 0 = 5000) (h1 : H 1 = 5000) : ∀ k : Nat, k ≤ 1000 →
    (down 10000 hw (H, F) k).1 0 = 5000 ∧ (down 10000 hw (H, F) k).1 1 = 5000 - (k : Int) ∧ ∀ b : Nat, b < 10000 → (down 10000 hw (H, F) k).2 b = if b < 5000 then 1 else if b < 10000 - k then 2 else 0 := by
  intro k
  induction k with
  | zero =>
    intro _
    rw [down_zero]
    exact ⟨h0, by show H 1 = _; rw [h1]; rfl, fun b hb => by
      show F b = _
      rw [hF b hb]
      by_cases h : b < 5000
      · rw [if_pos h, if_pos h]
      · rw [if_neg h, if_neg h, if_pos (by omega)]⟩
  | succ k ih =>
    intro hk
    obtain ⟨a, b, c⟩ := ih (by omega)
    rw [down_succ]
    generalize down 10000 hw (H, F) k = s at a b c
    have hb : s.2 (10000 - 1 - k) = 2 := by rw [c _ (by omega), if_neg (by omega), if_pos (by omega)]
    unfold dstep
    rw [hb]
    simp only [show ((2 : Int) - 1).toNat = 1 from rfl]
    rw [if_pos (by rw [b]; simp [hw]; omega)]
    refine ⟨a, by show (if 1 = 1 then s.1 1 - 1 else s.1 1) = _; rw [if_pos rfl, b]; omega, fun j hj => ?_⟩
    show (if j = 10000 - 1 - k then 0 else s.2 j) = _
    by_cases e : j = 10000 - 1 - k
    · rw [if_pos e, if_neg (by omega), if_neg (by omega)]
    · rw [if_neg e, c j hj]
      by_cases h : j < 5000
      · rw [if_pos h, if_pos h]
      · rw [if_neg h, if_neg h]
        by_cases h2 : j < 10000 - k
        · rw [if_pos h2, if_pos (by omega)]
        · rw [if_neg h2, if_neg (by omega)]
theorem hd2 (H F : Nat → Int) (hF : ∀ b : Nat, b < 10000 → F b = if b < 5000 then 1 else 2) (h0 : H 0 = 5000) (h1 : H 1 = 5000) : ∀ k : Nat, k ≤ 9000 →
    (down 10000 hw (H, F) (1000 + k)).1 0 = 5000 ∧ (down 10000 hw (H, F) (1000 + k)).1 1 = 4000 ∧ ∀ b : Nat, b < 10000 → (down 10000 hw (H, F) (1000 + k)).2 b = if b < 5000 then 1 else if b < 9000 then 2 else 0 := by
  intro k
  induction k with
  | zero => intro _; obtain ⟨a, b, c⟩ := hd1 H F hF h0 h1 1000 (Nat.le_refl _); rw [Nat.add_zero]; exact ⟨a, by rw [b]; rfl, c⟩
  | succ k ih =>
    intro hk
    obtain ⟨a, b, c⟩ := ih (by omega)
    rw [← Nat.add_assoc, down_succ]
    generalize down 10000 hw (H, F) (1000 + k) = s at a b c
    unfold dstep
    by_cases h : 10000 - 1 - (1000 + k) < 5000
    · have hb : s.2 (10000 - 1 - (1000 + k)) = 1 := by rw [c _ (by omega), if_pos h]
      rw [hb]
      simp only [show ((1 : Int) - 1).toNat = 0 from rfl]
      rw [if_neg (by rw [a]; simp [hw])]
      exact ⟨a, b, c⟩
    · have hb : s.2 (10000 - 1 - (1000 + k)) = 2 := by rw [c _ (by omega), if_neg h, if_pos (by omega)]
      rw [hb]
      simp only [show ((2 : Int) - 1).toNat = 1 from rfl]
      rw [if_neg (by rw [b]; simp [hw])]
      exact ⟨a, b, c⟩
theorem hu1 (s : St) (h0 : s.1 0 = 5000) (h2 : ∀ b : Nat, b < 10000 → s.2 b = if b < 5000 then 1 else if b < 9000 then 2 else 0) : ∀ k : Nat, k ≤ 9000 → up 2 hw s k = s := by
  intro k
  induction k with
  | zero => intro _; exact up_zero _ _ _
  | succ k ih =>
    intro hk
    rw [up_succ, ih (by omega)]
    unfold ustep
    refine if_neg fun h => ?_
    have := h.1
    rw [h2 k (by omega)] at this
    by_cases h : k < 5000
    · rw [if_pos h] at this; cases this
    · rw [if_neg h, if_pos (by omega)] at this; cases this
theorem hu2 (s : St) (h0 : s.1 0 = 5000) (h2 : ∀ b : Nat, b < 10000 → s.2 b = if b < 5000 then 1 else if b < 9000 then 2 else 0) : ∀ k : Nat, k ≤ 1000 →
    (up 2 hw s (9000 + k)).1 0 = 5000 + (k : Int) ∧ ∀ b : Nat, b < 10000 → (up 2 hw s (9000 + k)).2 b = if b < 5000 then 1 else if b < 9000 then 2 else if b < 9000 + k then 1 else 0 := by
  intro k
  induction k with
  | zero =>
    intro _
    rw [Nat.add_zero, hu1 s h0 h2 9000 (Nat.le_refl _)]
    exact ⟨by rw [h0]; rfl, fun b hb => by
      rw [h2 b hb]
      by_cases h : b < 5000
      · rw [if_pos h, if_pos h]
      · rw [if_neg h, if_neg h]
        by_cases h' : b < 9000
        · rw [if_pos h', if_pos h']
        · rw [if_neg h', if_neg h', if_neg h']⟩
  | succ k ih =>
    intro hk
    obtain ⟨a, b⟩ := ih (by omega)
    rw [← Nat.add_assoc, up_succ]
    generalize up 2 hw s (9000 + k) = t at a b
    have hz : t.2 (9000 + k) = 0 := by rw [b _ (by omega), if_neg (by omega), if_neg (by omega), if_neg (by omega)]
    have hl : lo t.1 hw 2 0 = 0 := lo_is (by decide) (by rw [a]; simp [hw]; omega) fun u h => absurd h (Nat.not_lt_zero _)
    unfold ustep
    rw [hl, if_pos ⟨hz, by decide⟩]
    refine ⟨by show (if 0 = 0 then t.1 0 + 1 else t.1 0) = _; rw [if_pos rfl, a]; omega, fun j hj => ?_⟩
    show (if j = 9000 + k then ((0 : Nat) : Int) + 1 else t.2 j) = _
    by_cases e : j = 9000 + k
    · rw [if_pos e, if_neg (by omega), if_neg (by omega), if_pos (by omega)]; rfl
    · rw [if_neg e, b j hj]
      by_cases h : j < 5000
      · rw [if_pos h, if_pos h]
      · rw [if_neg h, if_neg h]
        by_cases h' : j < 9000
        · rw [if_pos h', if_pos h']
        · rw [if_neg h', if_neg h']
          by_cases h'' : j < 9000 + k
          · rw [if_pos h'', if_pos (by omega)]
          · rw [if_neg h'', if_neg (by omega)]
theorem hr1 (U : Nat → Int) (hU : ∀ b : Nat, b < 10000 → U b = if b < 5000 then 1 else if b < 9000 then 2 else 1) : ∀ k : Nat, k ≤ 10000 →
    rgr U k = if k = 0 then [] else if k ≤ 5000 then [⟨0, k, 1⟩] else if k ≤ 9000 then [⟨5000, k, 2⟩, ⟨0, 5000, 1⟩] else [⟨9000, k, 1⟩, ⟨5000, 9000, 2⟩, ⟨0, 5000, 1⟩] := by
  intro k
  induction k with
  | zero => intro _; rfl
  | succ k ih =>
    intro hk
    simp only [rgr, ih (by omega), hU k (by omega)]
    rw [if_neg (c := k + 1 = 0) (by omega)]
    by_cases e0 : k = 0
    · subst e0; rfl
    · rw [if_neg e0]
      by_cases h1 : k < 5000
      · rw [if_pos (c := k ≤ 5000) (by omega), if_pos h1, if_pos (by omega)]; rfl
      · by_cases h2 : k = 5000
        · subst h2; rfl
        · rw [if_neg (c := k ≤ 5000) (by omega), if_neg h1, if_neg (c := k + 1 ≤ 5000) (by omega)]
          by_cases h3 : k < 9000
          · rw [if_pos (c := k ≤ 9000) (by omega), if_pos h3, if_pos (by omega)]; rfl
          · by_cases h4 : k = 9000
            · subst h4; rfl
            · rw [if_neg (c := k ≤ 9000) (by omega), if_neg h3, if_neg (by omega)]; rfl
theorem awake_out : rwE 2 hw hv = 0 ∧ rwL 2 hw hv = hres := by
  have h1 : split 2 hv = 0 := by decide
  have h2 : chk 2 hw = 0 := by decide
  have hF := hv_pt
  have hc1 := hv_cnt1 10000 (Nat.le_refl _)
  have hc2 := hv_cnt2 10000 (Nat.le_refl _)
  have hout : rwOut 2 hw hv = hres := by
    rw [rwOut_eq, rwF_eq]
    obtain ⟨F, hFF⟩ : ∃ F : Nat → Int, F = fun b : Nat => pt hv b := ⟨_, rfl⟩
    obtain ⟨H, hHH⟩ : ∃ H : Nat → Int, H = fun j : Nat => cnt F ((j : Int) + 1) 10000 := ⟨_, rfl⟩
    rw [← hFF] at hc1 hc2 ⊢
    rw [← hHH]
    have hF' : ∀ b : Nat, b < 10000 → F b = if b < 5000 then 1 else 2 := fun b hb => by rw [hFF]; exact hF b hb
    have hH0 : H 0 = 5000 := by rw [hHH]; exact hc1
    have hH1 : H 1 = 5000 := by rw [hHH]; exact hc2
    obtain ⟨a, _, c⟩ := hd2 H F hF' hH0 hH1 9000 (Nat.le_refl _)
    rw [show (1000 + 9000 : Nat) = 10000 from rfl] at a c
    generalize down 10000 hw (H, F) 10000 = s at a c
    obtain ⟨_, d⟩ := hu2 s a c 1000 (Nat.le_refl _)
    rw [show (9000 + 1000 : Nat) = 10000 from rfl] at d
    generalize up 2 hw s 10000 = u at d
    have := hr1 u.2 (fun b hb => by
      rw [d b hb]
      by_cases h : b < 5000
      · rw [if_pos h, if_pos h]
      · rw [if_neg h, if_neg h]
        by_cases h' : b < 9000
        · rw [if_pos h', if_pos h']
        · rw [if_neg h', if_neg h', if_pos hb]) 10000 (Nat.le_refl _)
    unfold rg
    rw [this]
    rfl
  have := rw_4 h1 h2 (by rw [hout]; decide)
  rw [hout] at this
  exact this
end Go.Proofs.YthnncehddnfjmaaDoor.Bk
