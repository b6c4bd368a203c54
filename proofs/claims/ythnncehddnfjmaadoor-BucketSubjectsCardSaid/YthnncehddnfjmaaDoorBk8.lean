/- The walks of the reference's Ranges and of both texts' Reweigh. Conditions: the arguments read as a list of ranges and a list of numbers. -/
import Derived.Test.YthnncehddnfjmaaDoorBk7
set_option linter.unusedVariables false
set_option linter.unusedSimpArgs false
namespace Go.Proofs.YthnncehddnfjmaaDoor.Bk
open Go Go.RowKit Go.Proofs.YthnncehddnfjmaaDoor.Vc Go.Proofs.YthnncehddnfjmaaDoor.Dg
attribute [local irreducible] loadVar storeVar Instr.indexAt Instr.index Instr.sliceAt Instr.makeSlice Instr.lookup Instr.mapUpdate Instr.range Instr.next Instr.entry Instr.makeMap Builtin.append_ Builtin.copy_ Builtin.len_ Builtin.min_ Builtin.max_ Builtin.cap_ Builtin.delete_ Builtin.clear_ convert binOp eqGuard Op.unary Calls

/-- the ranges of the first k buckets, the last one first -/
def rgr (U : Nat → Int) : Nat → List Rng
  | 0 => []
  | k + 1 => match rgr U k with
    | [] => [⟨k, (k : Int) + 1, U k⟩]
    | r :: t => if r.v = U k then ⟨r.f, (k : Int) + 1, r.v⟩ :: t else ⟨k, (k : Int) + 1, U k⟩ :: r :: t
def rg (U : Nat → Int) (k : Nat) : List Rng := (rgr U k).reverse
theorem rgr_congr {U V : Nat → Int} : ∀ k : Nat, (∀ j, j < k → U j = V j) → rgr U k = rgr V k := by
  intro k
  induction k with
  | zero => intro _; rfl
  | succ k ih => intro h; simp only [rgr, ih fun j hj => h j (by omega), h k (by omega)]
theorem rgr_len (U : Nat → Int) (k : Nat) : (rgr U k).length ≤ k := by
  induction k with
  | zero => simp [rgr]
  | succ k ih =>
    simp only [rgr]
    split
    · simp
    · rename_i r t e
      rw [e] at ih
      simp only [List.length_cons] at ih
      split <;> simp <;> omega
theorem recs_setT (a : List Rng) (r : Rng) (x : Int) : (recs rc (a ++ [r])).set (a.length * 3 + 1) (.int .i64 x) = recs rc (a ++ [⟨r.f, x, r.v⟩]) := by
  rw [recs_append, recs_append, List.set_append_right _ _ (by rw [recs_len rc_len]; omega), recs_len rc_len, recs_one, recs_one]
  rw [show a.length * 3 + 1 - a.length * 3 = 1 by omega]
  rfl
/-- one more bucket -/
theorem rg_nil {U : Nat → Int} {k : Nat} (h : rgr U k = []) : rg U k = [] ∧ rg U (k + 1) = rg U k ++ [⟨k, (k : Int) + 1, U k⟩] := by simp [rg, rgr, h]
theorem rg_same {U : Nat → Int} {k : Nat} {r : Rng} {t : List Rng} (h : rgr U k = r :: t) (e : r.v = U k) : rg U k = t.reverse ++ [r] ∧ rg U (k + 1) = t.reverse ++ [⟨r.f, (k : Int) + 1, r.v⟩] := by simp [rg, rgr, h, e]
theorem rg_new {U : Nat → Int} {k : Nat} {r : Rng} {t : List Rng} (h : rgr U k = r :: t) (e : ¬ r.v = U k) : rg U k = t.reverse ++ [r] ∧ rg U (k + 1) = rg U k ++ [⟨k, (k : Int) + 1, U k⟩] := by simp [rg, rgr, h, e]
theorem rg_len (U : Nat → Int) (k : Nat) : (rg U k).length ≤ k := by simp only [rg, List.length_reverse]; exact rgr_len U k
theorem seg_last (a : List Rng) (r : Rng) : Seg (recs rc (a ++ [r])) (a.length * 3) (rc r) := by
  have := recs_seg rc_len (a ++ [r]) a.length (by simp)
  simpa using this

set_option maxRecDepth 100000 in
/-- one range is appended -/
theorem vs_app1 {w : World} {K : Value → World → Prop} {ty : TypeId} {B n c : Nat} {oa : Option Addr} {xs : List Value} (r : Rng)
    (ho : Own w B 69 3 oa n c xs) (hn : n ≤ 1099511627776) (hB : B ≤ w.heap.size)
    (k : ∀ oa' c' w', Own w' B 69 3 oa' (n + 1) c' (xs ++ rc r) → Below B w w' → w.grownBy w' (ownB oa) → K (.slice oa' (n + 1) c') w') :
    VSem Tryd.prog (Builtin.append_ #[22, 22] ty #[.slice oa n c, .slice (some ⟨w.heap.size, 0, none⟩) 1 1]) (w.alloc (.cells #[.int .i64 r.f, .int .i64 r.t, .int .i64 r.v] 69)) K :=
  vs_append (B := B) (sz := 3) (by_ := 24) (m := 1) (n := n) rfl rfl rfl rfl rfl rfl (ho.alloc _) (Row.alloc1 w (rc r) _) rfl (by simpa [recs_one] using rc_one [r]) (fun e => by cases e) (by omega) (Nat.le_trans hB (by simp)) (by unfold maxLen; omega)
    fun oa' c' w' h hb hg => k oa' c' w' h ((balloc (Below.refl _ _) hB _).trans hb) ⟨hg.os, hg.tape, hg.output, Nat.le_trans (by simp) hg.size, fun k hk hne => (hg.block k (Nat.lt_of_lt_of_le hk (by simp)) hne).trans (heap_alloc_old w _ k hk)⟩

set_option maxRecDepth 100000 in
theorem ranges_ok (b : Nat) (l : List Value) (U : Nat → Int) (w : World) (hb : At w b 0 l) (hbl : b < w.heap.size) (hl : Pnt l U) :
    Ret Tryd.prog 44 #[.slice (some ⟨b, 0, none⟩) 10000 10000] w fun v w' => ∃ oa c, v = .slice oa (rg U 10000).length c ∧ Own w' w.heap.size 69 3 oa (rg U 10000).length c (recs rc (rg U 10000)) ∧ Below w.heap.size w w' := by
  refine ret_of_vc Tryd.func44 rfl mixed (by kernel_rfl) ?_
  conv => whnf
  refine vloop (X := Nat × Option Addr × Nat) ws44_1 (fun x => [(4, .int .i64 x.1), (3, .slice x.2.1 (rg U x.1).length x.2.2)]) (fun x w' => x.1 ≤ 10000 ∧ Below w.heap.size w w' ∧ Own w' w.heap.size 69 3 x.2.1 (rg U x.1).length x.2.2 (recs rc (rg U x.1))) (fun x => 10000 - x.1) (0, none, 0) (by kernel_rfl)
    ?_ ⟨Nat.zero_le _, Below.refl _ _, Own.nil _ _ _ _⟩ ?_
  · exact ⟨rfl, rfl, trivial⟩
  rintro ⟨i, oo, cc⟩ w2 j ⟨hi, hB2, ho⟩
  simp only at hi ho ⊢
  conv => whnf
  refine vif_split (fun hlt => ?_) (fun hge => ?_)
  · have hlt : i < 10000 := by have := of_decide_eq_true hlt; omega
    have hc2 : At w2.drew b 0 l := (hb.below hB2 hbl).drew
    have h1 := hl.2 i hlt
    have hlen := rg_len U i
    obtain ⟨x, hx⟩ : ∃ x, x = U i := ⟨_, rfl⟩
    rw [← hx] at h1
    have fin : ∀ (oa : Option Addr) (c : Nat) (w3 : World), rg U (i + 1) = rg U i ++ [⟨i, (i : Int) + 1, x⟩] → Own w3 w.heap.size 69 3 oa ((rg U i).length + 1) c (recs rc (rg U i) ++ rc ⟨i, (i : Int) + 1, x⟩) → Own w3 w.heap.size 69 3 oa (rg U (i + 1)).length c (recs rc (rg U (i + 1))) := fun oa c w3 e h => by
      rw [e, List.length_append, recs_append, recs_one]; exact h
    cases hg : rgr U i with
    | nil =>
      obtain ⟨e1, e2⟩ := rg_nil hg
      rw [← hx] at e2
      have ho' : Own w2.drew w.heap.size 69 3 oo 0 cc (recs rc []) := by have := ho; rw [e1] at this; exact this
      rw [e1]
      conv => whnf
      (refine vdrawAt plan44 (by kernel_rfl) ?_; conv => whnf)
      (repeat (first | (refine VReq.mk (by first | decide | omega) ?_; conv => whnf) | (refine VPend.mk rfl ?_; conv => whnf) | (refine VNext.keep rfl ?_; conv => whnf) | (refine vs_slI1 _ rfl rfl rfl (by assumption) ?_; conv => whnf) | (refine vs_slI _ rfl rfl rfl (by assumption) ?_; conv => whnf) | (refine vs_arr1 _ rfl rfl rfl (by assumption) ?_; conv => whnf) | (refine vs_loadF (by with_reducible assumption) (by assumption) rfl rfl ?_; conv => whnf) | (refine vs_loadF0 (by with_reducible assumption) (by assumption) rfl rfl ?_; conv => whnf) | (refine vs_loadI (by with_reducible assumption) (by assumption) rfl ?_; conv => whnf) | (refine vs_loadB rfl (by with_reducible assumption) (by assumption) ?_; conv => whnf)))
      rw [i64_of (x := (i : Int) + 1) (by omega) (by omega)]
      refine vs_app1 (n := 0) ⟨i, (i : Int) + 1, x⟩ ho' (by omega) hB2.size ?_
      intro o3 c3 w3 ho3 hB3 _
      conv => whnf
      refine VBack.mk ⟨_, ?_, (i + 1, o3, c3), rfl, ?_, ?_⟩
      · show 10000 - (i + 1) < 10000 - i; omega
      · exact ⟨intEq (incr (by omega)), sliceEq (by rw [e2, e1]; rfl), trivial⟩
      · exact ⟨hlt, (belowDrew hB2).trans hB3, fin o3 c3 w3 e2 (by rw [e1]; exact ho3)⟩
    | cons r t =>
      have e0 : rg U i = t.reverse ++ [r] := by simp [rg, hg]
      have hln : (rg U i).length = t.reverse.length + 1 := by rw [e0]; simp
      obtain ⟨tl, htl⟩ : ∃ n : Nat, n = t.reverse.length := ⟨_, rfl⟩
      rw [← htl] at hln
      have hpos : 0 < (rg U i).length := by omega
      obtain ⟨g, cur, rfl, hBg, hcur, _⟩ := ho.blk hpos
      clear hcur
      have ho' : Own w2.drew w.heap.size 69 3 (some ⟨g, 0, none⟩) (tl + 1) cc (recs rc (t.reverse ++ [r])) := by have := ho; rw [hln, e0] at this; exact this
      have hA := ho'.at
      have hsg := seg_last t.reverse r
      rw [← htl] at hsg
      have htlt : tl < tl + 1 := Nat.lt_succ_self _
      rw [hln]
      conv => whnf
      (refine vdrawAt plan44 (by kernel_rfl) ?_; conv => whnf)
      refine vif_true (by simp only [decide_eq_true_eq]; omega) ?_
      conv => whnf
      refine vs_slI tl (by rw [i64_of (by omega) (by omega)]; omega) rfl rfl htlt ?_
      conv => whnf
      (repeat (first | (refine VReq.mk (by first | decide | omega) ?_; conv => whnf) | (refine VPend.mk rfl ?_; conv => whnf) | (refine VNext.keep rfl ?_; conv => whnf) | (refine vs_slI1 _ rfl rfl rfl (by assumption) ?_; conv => whnf) | (refine vs_slI _ rfl rfl rfl (by assumption) ?_; conv => whnf) | (refine vs_arr1 _ rfl rfl rfl (by assumption) ?_; conv => whnf) | (refine vs_loadF (by with_reducible assumption) (by assumption) rfl rfl ?_; conv => whnf) | (refine vs_loadF0 (by with_reducible assumption) (by assumption) rfl rfl ?_; conv => whnf) | (refine vs_loadI (by with_reducible assumption) (by assumption) rfl ?_; conv => whnf) | (refine vs_loadB rfl (by with_reducible assumption) (by assumption) ?_; conv => whnf)))
      refine vif_split (fun hv => ?_) (fun hv => ?_)
      · have hv : r.v = U i := by rw [← hx]; simpa using hv
        obtain ⟨_, e2⟩ := rg_same hg hv
        conv => whnf
        (repeat (first | (refine VReq.mk (by first | decide | omega) ?_; conv => whnf) | (refine VPend.mk rfl ?_; conv => whnf) | (refine VNext.keep rfl ?_; conv => whnf) | (refine vs_slI1 _ rfl rfl rfl (by assumption) ?_; conv => whnf) | (refine vs_slI _ rfl rfl rfl (by assumption) ?_; conv => whnf) | (refine vs_arr1 _ rfl rfl rfl (by assumption) ?_; conv => whnf) | (refine vs_loadF (by with_reducible assumption) (by assumption) rfl rfl ?_; conv => whnf) | (refine vs_loadF0 (by with_reducible assumption) (by assumption) rfl rfl ?_; conv => whnf) | (refine vs_loadI (by with_reducible assumption) (by assumption) rfl ?_; conv => whnf) | (refine vs_loadB rfl (by with_reducible assumption) (by assumption) ?_; conv => whnf)))
        rw [i64_of (x := (i : Int) + 1) (by omega) (by omega)]
        refine vs_slI tl (by rw [i64_of (by omega) (by omega)]; omega) rfl rfl htlt ?_
        conv => whnf
        refine vs_storeOwn (o := 0 + tl * 3 + 1) ho' rfl rfl (by rw [recs_len rc_len, List.length_append, ← htl]; simp only [List.length_cons, List.length_nil]; omega) ?_
        intro w3 hO3 ho3
        have ho3' : Own w3 w.heap.size 69 3 (some ⟨g, 0, none⟩) (rg U (i + 1)).length cc (recs rc (rg U (i + 1))) := by
          have e3 := recs_setT t.reverse r ((i : Int) + 1)
          rw [e2, ← e3, List.length_append]
          rw [← htl]
          rw [show 0 + tl * 3 + 1 = tl * 3 + 1 by omega] at ho3
          exact ho3
        conv => whnf
        refine VBack.mk ⟨_, ?_, (i + 1, some ⟨g, 0, none⟩, cc), rfl, ?_, ?_⟩
        · show 10000 - (i + 1) < 10000 - i; omega
        · exact ⟨intEq (incr (by omega)), sliceEq (by rw [e2, List.length_append, ← htl]; rfl), trivial⟩
        · exact ⟨hlt, (belowDrew hB2).trans (hO3.below hBg), ho3'⟩
      · have hv : ¬ r.v = U i := by rw [← hx]; intro e; simp [e] at hv
        obtain ⟨_, e2⟩ := rg_new hg hv
        rw [← hx] at e2
        conv => whnf
        (repeat (first | (refine VReq.mk (by first | decide | omega) ?_; conv => whnf) | (refine VPend.mk rfl ?_; conv => whnf) | (refine VNext.keep rfl ?_; conv => whnf) | (refine vs_slI1 _ rfl rfl rfl (by assumption) ?_; conv => whnf) | (refine vs_slI _ rfl rfl rfl (by assumption) ?_; conv => whnf) | (refine vs_arr1 _ rfl rfl rfl (by assumption) ?_; conv => whnf) | (refine vs_loadF (by with_reducible assumption) (by assumption) rfl rfl ?_; conv => whnf) | (refine vs_loadF0 (by with_reducible assumption) (by assumption) rfl rfl ?_; conv => whnf) | (refine vs_loadI (by with_reducible assumption) (by assumption) rfl ?_; conv => whnf) | (refine vs_loadB rfl (by with_reducible assumption) (by assumption) ?_; conv => whnf)))
        rw [i64_of (x := (i : Int) + 1) (by omega) (by omega)]
        refine vs_app1 (n := tl + 1) ⟨i, (i : Int) + 1, x⟩ ho' (by omega) hB2.size ?_
        intro o3 c3 w3 ho3 hB3 _
        conv => whnf
        refine VBack.mk ⟨_, ?_, (i + 1, o3, c3), rfl, ?_, ?_⟩
        · show 10000 - (i + 1) < 10000 - i; omega
        · exact ⟨intEq (incr (by omega)), sliceEq (by rw [e2, List.length_append, hln]; rfl), trivial⟩
        · exact ⟨hlt, (belowDrew hB2).trans hB3, fin o3 c3 w3 e2 (by rw [hln, e0]; exact ho3)⟩
  · have hge : ¬ i < 10000 := by have := of_decide_eq_false hge; omega
    obtain rfl : i = 10000 := by omega
    conv => whnf
    exact VEnd.mk ⟨oo, cc, rfl, ho, hB2⟩

/-! Reweigh -/
attribute [local irreducible] up down rg rgr cnt isum dif rwF
theorem spl_pt {n : Int} : ∀ (l : List Rng) (a v : Int), spl n a v l = 0 → ∀ b : Int, a ≤ b → b < 10000 → 1 ≤ pt l b ∧ pt l b ≤ n := by
  intro l
  induction l with
  | nil => intro a v h b h1 h2; simp only [spl] at h; split at h
           · omega
           · cases h
  | cons r l ih =>
    intro a v h b h1 h2
    simp only [spl] at h
    split at h
    · cases h
    · split at h
      · cases h
      · rename_i c1 c2
        simp only [pt]
        by_cases hb : b < r.t
        · rw [if_pos (by omega)]; omega
        · rw [if_neg (by omega)]
          exact ih r.t r.v h b (by omega) h2
theorem split_pt {n : Int} {l : List Rng} (h : split n l = 0) : ∀ b : Nat, b < 10000 → 1 ≤ pt l b ∧ pt l b ≤ n := by
  unfold split at h
  split at h
  · cases h
  · intro b hb; exact spl_pt l 0 0 h b (by omega) (by omega)
/-- what both texts answer -/
def rwOut (n : Nat) (W : Nat → Int) (ls : List Rng) : List Rng := rg (rwF 10000 n W (fun b => pt ls b)) 10000
theorem rwOut_eq (n : Nat) (W : Nat → Int) (ls : List Rng) : rwOut n W ls = rg (rwF 10000 n W (fun b => pt ls b)) 10000 := rfl
def rwE (n : Nat) (W : Nat → Int) (ls : List Rng) : Int :=
  if split n ls ≠ 0 then split n ls else if chk n W ≠ 0 then chk n W else if (rwOut n W ls).length > 16 then 19 else 0
def rwL (n : Nat) (W : Nat → Int) (ls : List Rng) : List Rng := if rwE n W ls = 0 then rwOut n W ls else []
theorem rw_1 {n : Nat} {W : Nat → Int} {ls : List Rng} (h : ¬ split n ls = 0) : rwE n W ls = split n ls ∧ rwL n W ls = [] := by
  have e : rwE n W ls = split n ls := if_pos h
  exact ⟨e, by unfold rwL; rw [e, if_neg h]⟩
theorem rw_2 {n : Nat} {W : Nat → Int} {ls : List Rng} (h0 : split n ls = 0) (h : ¬ chk n W = 0) : rwE n W ls = chk n W ∧ rwL n W ls = [] := by
  have e : rwE n W ls = chk n W := by unfold rwE; rw [if_neg (by simp [h0]), if_pos h]
  exact ⟨e, by unfold rwL; rw [e, if_neg h]⟩
theorem rw_3 {n : Nat} {W : Nat → Int} {ls : List Rng} (h0 : split n ls = 0) (h1 : chk n W = 0) (h : (rwOut n W ls).length > 16) : rwE n W ls = 19 ∧ rwL n W ls = [] := by
  have e : rwE n W ls = 19 := by unfold rwE; rw [if_neg (by simp [h0]), if_neg (by simp [h1]), if_pos h]
  exact ⟨e, by unfold rwL; rw [e, if_neg (by decide)]⟩
theorem rw_4 {n : Nat} {W : Nat → Int} {ls : List Rng} (h0 : split n ls = 0) (h1 : chk n W = 0) (h : ¬ (rwOut n W ls).length > 16) : rwE n W ls = 0 ∧ rwL n W ls = rwOut n W ls := by
  have e : rwE n W ls = 0 := by unfold rwE; rw [if_neg (by simp [h0]), if_neg (by simp [h1]), if_neg h]
  exact ⟨e, by unfold rwL; rw [e, if_pos rfl]⟩

set_option maxRecDepth 100000 in
theorem reweigh2_ok (oa oa' : Option Addr) (c n c' : Nat) (ls : List Rng) (vs : List Value) (W : Nat → Int) (w : World) (hr : Row w oa (recs rc ls)) (hmx : ls.length ≤ 1099511627776) (hr' : Row w oa' vs) (hW : Ints vs n W) (hn : n ≤ 1099511627776) :
    Ret Tryd.prog 16 #[.slice oa ls.length c, .slice oa' n c'] w fun v w' => ∃ o2 c2, v = .tuple #[.slice o2 (rwL n W ls).length c2, .int .i64 (rwE n W ls)] ∧ Row w' o2 (recs rc (rwL n W ls)) ∧ Below w.heap.size w w' := by
  refine ret_of_vc Tryd.func16 rfl mixed (by kernel_rfl) ?_
  conv => whnf
  refine vcall (by kernel_rfl) (split2_ok oa c ls n w hr hmx) ?_
  rintro _ w1 ⟨rfl, hB1⟩
  have hsp := @split_pt n ls
  have k1 := @rw_1 n W ls
  have k2 := @rw_2 n W ls
  have k3 := @rw_3 n W ls
  have k4 := @rw_4 n W ls
  obtain ⟨e1, he1⟩ : ∃ e, e = split n ls := ⟨_, rfl⟩
  rw [← he1] at hsp k1 k2 k3 k4 ⊢
  conv => whnf
  refine vif_split (fun h1 => ?_) (fun h1 => ?_)
  · have h1 : ¬ e1 = 0 := by intro e'; simp [e'] at h1
    rw [(k1 h1).1, (k1 h1).2]
    conv => whnf
    exact VEnd.mk ⟨none, 0, rfl, Row.nil _ _, hB1⟩
  have h1 : e1 = 0 := by simpa using h1
  have hF := hsp h1
  clear k1
  conv => whnf
  refine vcall (by kernel_rfl) (check2_ok oa' n c' vs W w1 (hr'.below hB1) hW hn) ?_
  rintro _ w2 ⟨rfl, hQ2⟩
  have hB2 : Below w.heap.size w w2 := hB1.trans (hQ2.below _)
  have hch := @chk_zero n W
  obtain ⟨e2, he2⟩ : ∃ e, e = chk n W := ⟨_, rfl⟩
  rw [← he2] at hch k2 k3 k4 ⊢
  conv => whnf
  refine vif_split (fun h2 => ?_) (fun h2 => ?_)
  · have h2 : ¬ e2 = 0 := by intro e'; simp [e'] at h2
    rw [(k2 h1 h2).1, (k2 h1 h2).2]
    conv => whnf
    exact VEnd.mk ⟨none, 0, rfl, Row.nil _ _, hB2⟩
  have h2 : e2 = 0 := by simpa using h2
  obtain ⟨hn8, hpos, hsum⟩ := hch h2
  clear k2
  conv => whnf
  refine vcall (by kernel_rfl) (all_ok oa c ls w2 (hr.below hB2) hmx) ?_
  rintro _ w3 ⟨bA, lA, rfl, hgA, hbA, hpA, hB3⟩
  have hB3' : Below w.heap.size w w3 := hB2.trans (hB3.mono hB2.size)
  conv => whnf
  refine vcall (by kernel_rfl) (weights2_ok oa c ls n w3 (hr.below hB3') hmx n (by omega)) ?_
  rintro _ w4 ⟨bH, lH, rfl, hgH, hbH, hpH, hB4⟩
  have hbA4 := hbA.below hB4 hbA.lt
  have hB : Below w.heap.size w w4 := hB3'.trans (hB4.mono hB3'.size)
  have hgA' : w.heap.size ≤ bA := Nat.le_trans hB2.size hgA
  have hneAH : bA < bH := Nat.lt_of_lt_of_le hbA.lt hgH
  clear hB3 hB3' hB4 hbA hB1 hB2 hQ2 hgA hgH
  obtain ⟨F, hFF⟩ : ∃ F : Nat → Int, F = fun b : Nat => pt ls b := ⟨_, rfl⟩
  have hFx : ∀ b, b < 10000 → 1 ≤ F b ∧ F b ≤ n := fun b hb => by rw [hFF]; exact hF b hb
  have hout : rwOut n W ls = rg (rwF 10000 n W F) 10000 := by rw [hFF]; exact rwOut_eq n W ls
  rw [← hFF] at hpA hpH
  have hdi := down_inv (N := 10000) (n := n) (W := W) (F := F) (H := fun j => cnt F ((j : Int) + 1) 10000) hFx (fun _ _ => rfl)
  conv => whnf
  refine vloop (X := Nat × List Value × List Value) ws16_1 (fun x => [(10, .int .i64 (9999 - (x.1 : Int)))]) (fun x w' => x.1 ≤ 10000 ∧ Below w.heap.size w w' ∧ Blk w' bA x.2.1 3 ∧ Blk w' bH x.2.2 3 ∧
      Pnt x.2.1 (down 10000 W (fun j => cnt F ((j : Int) + 1) 10000, F) x.1).2 ∧ Ints x.2.2 n (down 10000 W (fun j => cnt F ((j : Int) + 1) 10000, F) x.1).1) (fun x => 10000 - x.1) (0, lA, lH) (by kernel_rfl)
    ?_ ⟨Nat.zero_le _, hB, hbA4, hbH, by rw [down_zero]; exact hpA, by rw [down_zero]; exact hpH⟩ ?_
  · exact ⟨rfl, trivial⟩
  rintro ⟨k, l, h⟩ w5 j ⟨hk, hB5, hbA5, hbH5, hp5, hh5⟩
  simp only at hk hbA5 hbH5 hp5 hh5 ⊢
  clear hbA4 hbH hB
  have hdk := hdi k hk
  have hds : down 10000 W (fun j => cnt F ((j : Int) + 1) 10000, F) (k + 1) = dstep W (down 10000 W (fun j => cnt F ((j : Int) + 1) 10000, F) k) (10000 - 1 - k) := down_succ _ _ _ _
  obtain ⟨s, hs⟩ : ∃ s, s = down 10000 W (fun j => cnt F ((j : Int) + 1) 10000, F) k := ⟨_, rfl⟩
  rw [← hs] at hp5 hh5 hdk hds
  conv => whnf
  refine vif_split (fun hlt => ?_) (fun hge => ?_)
  · have hlt : 9999 - (k : Int) ≥ 0 := of_decide_eq_true hlt
    obtain ⟨b, hb⟩ : ∃ b : Nat, b = 10000 - 1 - k := ⟨_, rfl⟩
    have hbk : 9999 - (k : Int) = (b : Int) := by omega
    have hb10 : b < 10000 := by omega
    have hsb : s.2 b = F b := hdk.old b (by omega)
    obtain ⟨m, hm⟩ : ∃ m : Nat, F b = (m : Int) + 1 := ⟨(F b - 1).toNat, by have := hFx b hb10; omega⟩
    have hmn : m < n := by have := hFx b hb10; omega
    have hmt : (s.2 b - 1).toNat = m := by rw [hsb, hm]; omega
    have hlb : l[b]? = some (.int .i64 ((m : Int) + 1)) := by rw [hp5.2 b hb10, hsb, hm]
    have hhm := hh5.2 m hmn
    obtain ⟨bw, ow, hoe, hbwl, hcw⟩ := hr'.at (by rw [hW.1]; omega)
    subst hoe
    have hcw5 := (hcw.below hB5 hbwl).drew
    have hcw5' := hcw.below hB5 hbwl
    have hWm := hW.2 m hmn
    have hAA := hbA5.at
    have hAH := hbH5.at.drew
    have hle := hdk.le m hmn
    have hcl := cnt_le F ((m : Int) + 1) 10000
    have hge0 : 0 ≤ s.1 m := by rw [hdk.r.1 m hmn]; exact (cnt_le _ _ _).1
    rw [← hb] at hds
    unfold dstep at hds
    rw [hmt] at hds
    rw [hbk]
    conv => whnf
    (repeat (first | (refine VReq.mk (by first | decide | omega) ?_; conv => whnf) | (refine VPend.mk rfl ?_; conv => whnf) | (refine VNext.keep rfl ?_; conv => whnf) | (refine vs_slI1 _ rfl rfl rfl (by assumption) ?_; conv => whnf) | (refine vs_slI _ rfl rfl rfl (by assumption) ?_; conv => whnf) | (refine vs_arr1 _ rfl rfl rfl (by assumption) ?_; conv => whnf) | (refine vs_loadF (by with_reducible assumption) (by assumption) rfl rfl ?_; conv => whnf) | (refine vs_loadF0 (by with_reducible assumption) (by assumption) rfl rfl ?_; conv => whnf) | (refine vs_loadI (by with_reducible assumption) (by assumption) rfl ?_; conv => whnf) | (refine vs_loadB rfl (by with_reducible assumption) (by assumption) ?_; conv => whnf)))
    rw [show IntKind.i64.wrap ((m : Int) + 1 - 1) = (m : Int) by rw [i64_of (by omega) (by omega)]; omega]
    (refine vdrawAt plan16 (by kernel_rfl) ?_; conv => whnf)
    (repeat (first | (refine VReq.mk (by first | decide | omega) ?_; conv => whnf) | (refine VPend.mk rfl ?_; conv => whnf) | (refine VNext.keep rfl ?_; conv => whnf) | (refine vs_slI1 _ rfl rfl rfl (by assumption) ?_; conv => whnf) | (refine vs_slI _ rfl rfl rfl (by assumption) ?_; conv => whnf) | (refine vs_arr1 _ rfl rfl rfl (by assumption) ?_; conv => whnf) | (refine vs_loadF (by with_reducible assumption) (by assumption) rfl rfl ?_; conv => whnf) | (refine vs_loadF0 (by with_reducible assumption) (by assumption) rfl rfl ?_; conv => whnf) | (refine vs_loadI (by with_reducible assumption) (by assumption) rfl ?_; conv => whnf) | (refine vs_loadB rfl (by with_reducible assumption) (by assumption) ?_; conv => whnf)))
    refine vif_split (fun hv => ?_) (fun hv => ?_)
    · have hv : s.1 m > W m := of_decide_eq_true hv
      rw [if_pos (by omega)] at hds
      conv => whnf
      refine vs_slI1 m rfl rfl rfl hmn ?_
      conv => whnf
      refine vs_loadI hAH hhm rfl ?_
      conv => whnf
      refine vs_slI1 m rfl rfl rfl hmn ?_
      conv => whnf
      refine vs_storeP (w := w5.drew) hbH5 rfl rfl (by rw [hh5.1]; omega) ?_
      intro w6 hO6 hbH6
      rw [Nat.zero_add, i64_of (by omega) (by omega)] at hbH6
      have hbA6 := hbA5.only (w := w5.drew) hO6 (by omega)
      have hB6 : Below w.heap.size w w6 := (belowDrew hB5).trans (hO6.below (by omega))
      clear hbA5 hbH5 hAA hAH
      conv => whnf
      refine vs_slI1 b rfl rfl rfl hb10 ?_
      conv => whnf
      refine vs_storeP hbA6 rfl rfl (by rw [hp5.1]; omega) ?_
      intro w7 hO7 hbA7
      rw [Nat.zero_add] at hbA7
      conv => whnf
      refine VBack.mk ⟨_, ?_, (k + 1, l.set b (.int .i64 0), h.set m (.int .i64 (s.1 m - 1))), rfl, ?_, ?_⟩
      · show 10000 - (k + 1) < 10000 - k; omega
      · exact ⟨intEq (by rw [i64_of (by omega) (by omega)]; simp only; omega), trivial⟩
      · refine ⟨by show k + 1 ≤ 10000; omega, hB6.trans (hO7.below (by omega)), hbA7, hbH6.only hO7 (by omega), ?_, ?_⟩
        · show Pnt _ (down 10000 W (fun j => cnt F ((j : Int) + 1) 10000, F) (k + 1)).2
          rw [hds]; exact hp5.set b 0 hb10
        · show Ints _ n (down 10000 W (fun j => cnt F ((j : Int) + 1) 10000, F) (k + 1)).1
          rw [hds]; exact hh5.set m _ hmn
    · have hv : ¬ s.1 m > W m := of_decide_eq_false hv
      rw [if_neg (by omega)] at hds
      conv => whnf
      refine VBack.mk ⟨_, ?_, (k + 1, l, h), rfl, ?_, ?_⟩
      · show 10000 - (k + 1) < 10000 - k; omega
      · exact ⟨intEq (by rw [i64_of (by omega) (by omega)]; simp only; omega), trivial⟩
      · refine ⟨by show k + 1 ≤ 10000; omega, belowDrew hB5, hbA5, hbH5, ?_, ?_⟩
        · show Pnt _ (down 10000 W (fun j => cnt F ((j : Int) + 1) 10000, F) (k + 1)).2
          rw [hds]; exact hp5
        · show Ints _ n (down 10000 W (fun j => cnt F ((j : Int) + 1) 10000, F) (k + 1)).1
          rw [hds]; exact hh5
  · have hge : ¬ 9999 - (k : Int) ≥ 0 := of_decide_eq_false hge
    obtain rfl : k = 10000 := by omega
    have hde := down_end hdk hpos
    have hfin : rwF 10000 n W F = (up n W s 10000).2 := by rw [hs]; exact rwF_eq _ _ _ _
    rw [hfin] at hout
    obtain ⟨H, D⟩ := s
    have hui := up_inv (N := 10000) (n := n) (W := W) (D := D) (H := H) hdk.r hde hsum
    have hlo := @lo_lt 10000 n W
    have hB5' := hB5
    clear hds hs hge hk hB5 hdi hsp hch
    conv => whnf
    refine vloop (X := Nat × List Value × List Value) ws16_2 (fun x => [(12, .int .i64 x.1)]) (fun x w' => x.1 ≤ 10000 ∧ Below w.heap.size w w' ∧ Blk w' bA x.2.1 3 ∧ Blk w' bH x.2.2 3 ∧
        Pnt x.2.1 (up n W (H, D) x.1).2 ∧ Ints x.2.2 n (up n W (H, D) x.1).1) (fun x => 10000 - x.1) (0, l, h) (by kernel_rfl)
      ?_ ⟨Nat.zero_le _, hB5', hbA5, hbH5, by rw [up_zero]; exact hp5, by rw [up_zero]; exact hh5⟩ ?_
    · exact ⟨rfl, trivial⟩
    clear hbA5 hbH5 hp5 hh5 hB5' hdk hde
    rintro ⟨k, l, h⟩ w6 j6 ⟨hk, hB6, hbA6, hbH6, hp6, hh6⟩
    simp only at hk hbA6 hbH6 hp6 hh6 ⊢
    have huk := hui k hk
    have hus : up n W (H, D) (k + 1) = ustep n W (up n W (H, D) k) k := up_succ _ _ _ _
    have hst : ∀ k', up n W (H, D) k' = up n W (H, D) k' := fun _ => rfl
    obtain ⟨s, hs⟩ : ∃ s, s = up n W (H, D) k := ⟨_, rfl⟩
    rw [← hs] at hp6 hh6 huk hus
    conv => whnf
    refine vif_split (fun hlt => ?_) (fun hge => ?_)
    · have hlt : k < 10000 := by have := of_decide_eq_true hlt; omega
      obtain ⟨s', hs'⟩ : ∃ s', s' = ustep n W s k := ⟨_, rfl⟩
      rw [← hs'] at hus
      conv => whnf
      refine vloop (X := Nat × List Value × List Value) ws16_3 (fun x => [(13, .int .i64 x.1)]) (fun x w' => x.1 ≤ n ∧ Below w.heap.size w w' ∧ Blk w' bA x.2.1 3 ∧ Blk w' bH x.2.2 3 ∧
          ((Pnt x.2.1 s.2 ∧ Ints x.2.2 n s.1 ∧ ∀ u, u < x.1 → ¬ s.1 u < W u) ∨ (Pnt x.2.1 s'.2 ∧ Ints x.2.2 n s'.1 ∧ s'.2 k ≠ 0))) (fun x => n - x.1) (0, l, h) (by kernel_rfl)
        ?_ ⟨Nat.zero_le _, hB6, hbA6, hbH6, .inl ⟨hp6, hh6, fun u h => absurd h (Nat.not_lt_zero _)⟩⟩ ?_
      · exact ⟨rfl, trivial⟩
      clear hbA6 hbH6 hB6 hp6 hh6
      rintro ⟨m, l, h⟩ w7 j7 ⟨hmn, hB7, hbA7, hbH7, hcase⟩
      simp only at hmn hbA7 hbH7 hcase ⊢
      -- the way out, once nothing more is to be done
      have out : ((Pnt l s'.2 ∧ Ints h n s'.1) → ∀ w8, Below w.heap.size w w8 → Blk w8 bA l 3 → Blk w8 bH h 3 → k + 1 ≤ 10000 ∧ Below w.heap.size w w8 ∧ Blk w8 bA l 3 ∧ Blk w8 bH h 3 ∧ Pnt l (up n W (H, D) (k + 1)).2 ∧ Ints h n (up n W (H, D) (k + 1)).1) := fun hh w8 a b c => ⟨hlt, a, b, c, by rw [hus]; exact hh.1, by rw [hus]; exact hh.2⟩
      conv => whnf
      refine vif_split (fun hv => ?_) (fun hv => ?_)
      · have hv : m < n := by have := of_decide_eq_true hv; omega
        obtain ⟨x, hlk, hx⟩ : ∃ x : Int, l[k]? = some (.int .i64 x) ∧ ((x = 0 → ((Pnt l s.2 ∧ Ints h n s.1 ∧ (∀ u, u < m → ¬ s.1 u < W u) ∧ s.2 k = 0))) ∧ (¬ x = 0 → Pnt l s'.2 ∧ Ints h n s'.1)) := by
          rcases hcase with ⟨a, b, c⟩ | ⟨a, b, c⟩
          · refine ⟨s.2 k, a.2 k hlt, fun e => ⟨a, b, c, e⟩, fun e => ?_⟩
            have e2 : s' = s := by rw [hs']; unfold ustep; rw [if_neg fun h => e h.1]
            rw [e2]; exact ⟨a, b⟩
          · exact ⟨s'.2 k, a.2 k hlt, fun e => absurd e c, fun _ => ⟨a, b⟩⟩
        have hAA := hbA7.at
        conv => whnf
        (repeat (first | (refine VReq.mk (by first | decide | omega) ?_; conv => whnf) | (refine VPend.mk rfl ?_; conv => whnf) | (refine VNext.keep rfl ?_; conv => whnf) | (refine vs_slI1 _ rfl rfl rfl (by assumption) ?_; conv => whnf) | (refine vs_slI _ rfl rfl rfl (by assumption) ?_; conv => whnf) | (refine vs_arr1 _ rfl rfl rfl (by assumption) ?_; conv => whnf) | (refine vs_loadF (by with_reducible assumption) (by assumption) rfl rfl ?_; conv => whnf) | (refine vs_loadF0 (by with_reducible assumption) (by assumption) rfl rfl ?_; conv => whnf) | (refine vs_loadI (by with_reducible assumption) (by assumption) rfl ?_; conv => whnf) | (refine vs_loadB rfl (by with_reducible assumption) (by assumption) ?_; conv => whnf)))
        refine vif_split (fun hz => ?_) (fun hz => ?_)
        · have hz : x = 0 := by simpa using hz
          obtain ⟨ha, hb, hc, hsk⟩ := hx.1 hz
          obtain ⟨bw, ow, hoe, hbwl, hcw⟩ := hr'.at (by rw [hW.1]; omega)
          subst hoe
          have hcw7 := (hcw.below hB7 hbwl).drew
          have hWm := hW.2 m hv
          have hhm := hb.2 m hv
          have hAH := hbH7.at.drew
          have hAH' := hbH7.at
          have hsm := huk.le m hv
          have hsm0 : 0 ≤ s.1 m := by rw [huk.r.1 m hv]; exact (cnt_le _ _ _).1
          have hWle := isum_mono hpos (m + 1) n (by omega) (by omega)
          have hWle0 := isum_mono hpos 0 m (by omega) (by omega)
          simp only [isum] at hWle hWle0
          conv => whnf
          (refine vdrawAt plan16 (by kernel_rfl) ?_; conv => whnf)
          (repeat (first | (refine VReq.mk (by first | decide | omega) ?_; conv => whnf) | (refine VPend.mk rfl ?_; conv => whnf) | (refine VNext.keep rfl ?_; conv => whnf) | (refine vs_slI1 _ rfl rfl rfl (by assumption) ?_; conv => whnf) | (refine vs_slI _ rfl rfl rfl (by assumption) ?_; conv => whnf) | (refine vs_arr1 _ rfl rfl rfl (by assumption) ?_; conv => whnf) | (refine vs_loadF (by with_reducible assumption) (by assumption) rfl rfl ?_; conv => whnf) | (refine vs_loadF0 (by with_reducible assumption) (by assumption) rfl rfl ?_; conv => whnf) | (refine vs_loadI (by with_reducible assumption) (by assumption) rfl ?_; conv => whnf) | (refine vs_loadB rfl (by with_reducible assumption) (by assumption) ?_; conv => whnf)))
          refine vif_split (fun hu => ?_) (fun hu => ?_)
          · have hu : s.1 m < W m := of_decide_eq_true hu
            have hlom := lo_is hv hu hc
            have e2 : s' = (fun j => if j = m then s.1 m + 1 else s.1 j, fun j => if j = k then (m : Int) + 1 else s.2 j) := by
              rw [hs']; unfold ustep; rw [hlom, if_pos ⟨hsk, hv⟩]
            conv => whnf
            refine vs_slI1 m rfl rfl rfl hv ?_
            conv => whnf
            refine vs_loadI hAH hhm rfl ?_
            conv => whnf
            refine vs_slI1 m rfl rfl rfl hv ?_
            conv => whnf
            refine vs_storeP (w := w7.drew) hbH7 rfl rfl (by rw [hb.1]; omega) ?_
            intro w8 hO8 hbH8
            rw [Nat.zero_add, i64_of (by omega) (by omega)] at hbH8
            have hbA8 := hbA7.only (w := w7.drew) hO8 (by omega)
            have hB8 : Below w.heap.size w w8 := (belowDrew hB7).trans (hO8.below (by omega))
            clear hbA7 hbH7 hAA hAH hAH'
            conv => whnf
            refine vs_slI1 k rfl rfl rfl hlt ?_
            conv => whnf
            refine vs_storeP hbA8 rfl rfl (by rw [ha.1]; omega) ?_
            intro w9 hO9 hbA9
            rw [Nat.zero_add, i64_of (x := (m : Int) + 1) (by omega) (by omega)] at hbA9
            conv => whnf
            refine VBack.mk ⟨_, ?_, (m + 1, l.set k (.int .i64 ((m : Int) + 1)), h.set m (.int .i64 (s.1 m + 1))), rfl, ?_, ?_⟩
            · show n - (m + 1) < n - m; omega
            · exact ⟨intEq (incr (by omega)), trivial⟩
            · refine ⟨hv, hB8.trans (hO9.below (by omega)), hbA9, hbH8.only hO9 (by omega), .inr ⟨?_, ?_, ?_⟩⟩
              · rw [e2]; exact ha.set k _ hlt
              · rw [e2]; exact hb.set m _ hv
              · rw [e2]; show (if k = k then (m : Int) + 1 else s.2 k) ≠ 0; rw [if_pos rfl]; omega
          · have hu : ¬ s.1 m < W m := of_decide_eq_false hu
            conv => whnf
            refine VBack.mk ⟨_, ?_, (m + 1, l, h), rfl, ?_, ?_⟩
            · show n - (m + 1) < n - m; omega
            · exact ⟨intEq (incr (by omega)), trivial⟩
            · refine ⟨hv, belowDrew hB7, hbA7, hbH7, .inl ⟨ha, hb, fun u hu2 => ?_⟩⟩
              by_cases e : u = m
              · subst e; exact hu
              · exact hc u (by simp only at hu2; omega)
        · have hz : ¬ x = 0 := by intro e; simp [e] at hz
          conv => whnf
          refine VBack.mk ⟨_, ?_, (k + 1, l, h), rfl, ?_, ?_⟩
          · show 10000 - (k + 1) < 10000 - k; omega
          · exact ⟨intEq (incr (by omega)), trivial⟩
          · exact out (hx.2 hz) w7 hB7 hbA7 hbH7
      · have hv : ¬ m < n := by have := of_decide_eq_false hv; omega
        have hd : Pnt l s'.2 ∧ Ints h n s'.1 := by
          rcases hcase with ⟨a, b, c⟩ | ⟨a, b, c⟩
          · have e2 : s' = s := by
              rw [hs']; unfold ustep
              obtain ⟨_, _, h3, _⟩ := lo_spec s.1 W n 0
              refine if_neg fun h => ?_
              exact c _ (by omega) (h3 (by omega))
            rw [e2]; exact ⟨a, b⟩
          · exact ⟨a, b⟩
        conv => whnf
        refine VBack.mk ⟨_, ?_, (k + 1, l, h), rfl, ?_, ?_⟩
        · show 10000 - (k + 1) < 10000 - k; omega
        · exact ⟨intEq (incr (by omega)), trivial⟩
        · exact out hd w7 hB7 hbA7 hbH7
    · have hge : ¬ k < 10000 := by have := of_decide_eq_false hge; omega
      obtain rfl : k = 10000 := by omega
      rw [← hs] at hout
      conv => whnf
      refine vcall (by kernel_rfl) (ranges_ok bA l s.2 w6 hbA6.at hbA6.lt hp6) ?_
      rintro _ w7 ⟨oo, cc, rfl, hown, hB7⟩
      rw [← hout] at hown ⊢
      have hB7' := hB6.trans (hB7.mono hB6.size)
      conv => whnf
      refine vif_split (fun h16 => ?_) (fun h16 => ?_)
      · have h16 : (rwOut n W ls).length > 16 := by have := of_decide_eq_true h16; omega
        rw [(k3 h1 h2 h16).1, (k3 h1 h2 h16).2]
        conv => whnf
        exact VEnd.mk ⟨none, 0, rfl, Row.nil _ _, hB7'⟩
      · have h16 : ¬ (rwOut n W ls).length > 16 := by have := of_decide_eq_false h16; omega
        rw [(k4 h1 h2 h16).1, (k4 h1 h2 h16).2]
        conv => whnf
        exact VEnd.mk ⟨oo, cc, rfl, hown.row, hB7'⟩
end Go.Proofs.YthnncehddnfjmaaDoor.Bk
