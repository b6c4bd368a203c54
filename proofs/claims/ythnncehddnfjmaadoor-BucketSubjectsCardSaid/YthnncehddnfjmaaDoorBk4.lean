/- The walks of the program's Moved, of Weights, check and FromWeights of both texts. Conditions: the arguments read as lists of ranges and of numbers. -/
import Derived.Test.YthnncehddnfjmaaDoorBk3
set_option linter.unusedVariables false
set_option linter.unusedSimpArgs false
namespace Go.Proofs.YthnncehddnfjmaaDoor.Bk
open Go Go.RowKit Go.Proofs.YthnncehddnfjmaaDoor.Vc Go.Proofs.YthnncehddnfjmaaDoor.Dg
attribute [local irreducible] loadVar storeVar Instr.indexAt Instr.index Instr.sliceAt Instr.makeSlice Instr.lookup Instr.mapUpdate Instr.range Instr.next Instr.entry Instr.makeMap Builtin.append_ Builtin.copy_ Builtin.len_ Builtin.min_ Builtin.max_ Builtin.cap_ Builtin.delete_ Builtin.clear_ convert binOp eqGuard Op.unary Calls

/-! counts -/
def cnt (f : Nat → Int) (v : Int) : Nat → Int
  | 0 => 0
  | k + 1 => cnt f v k + if f k = v then 1 else 0
theorem cnt_le (f : Nat → Int) (v : Int) (k : Nat) : 0 ≤ cnt f v k ∧ cnt f v k ≤ k := by
  induction k with
  | zero => simp [cnt]
  | succ k ih => simp only [cnt]; split <;> omega
def isum (W : Nat → Int) : Nat → Int
  | 0 => 0
  | k + 1 => isum W k + W k
theorem isum_mono {W : Nat → Int} {n : Nat} (h : ∀ j, j < n → 0 ≤ W j) : ∀ i j : Nat, i ≤ j → j ≤ n → isum W i ≤ isum W j := by
  intro i j hij hj
  induction j with
  | zero => have : i = 0 := by omega
            subst this; exact Int.le_refl _
  | succ j ih =>
    by_cases e : i = j + 1
    · subst e; exact Int.le_refl _
    · have := ih (by omega) (by omega)
      have := h j (by omega)
      simp only [isum]; omega
/-- the first error of weights -/
def chk (n : Nat) (W : Nat → Int) : Int := if n > 8 then 5 else if (∀ j, j < n → 0 ≤ W j) ∧ isum W n = 10000 then 0 else 3
theorem chk_big {n : Nat} {W : Nat → Int} (h : n > 8) : chk n W = 5 := if_pos h
theorem chk_ok {n : Nat} {W : Nat → Int} (h : ¬ n > 8) (h1 : ∀ j, j < n → 0 ≤ W j) (h2 : isum W n = 10000) : chk n W = 0 := by unfold chk; rw [if_neg h, if_pos ⟨h1, h2⟩]
theorem chk_no {n : Nat} {W : Nat → Int} (h : ¬ n > 8) (h1 : ¬ ((∀ j, j < n → 0 ≤ W j) ∧ isum W n = 10000)) : chk n W = 3 := by unfold chk; rw [if_neg h, if_neg h1]
theorem chk_zero {n : Nat} {W : Nat → Int} (h : chk n W = 0) : n ≤ 8 ∧ (∀ j, j < n → 0 ≤ W j) ∧ isum W n = 10000 := by
  unfold chk at h
  split at h
  · cases h
  · split at h
    · rename_i h1 h2; exact ⟨by omega, h2⟩
    · cases h

set_option maxRecDepth 100000 in
theorem moved1_ok (oa oa' : Option Addr) (c c' : Nat) (ls ls' : List Rng) (w : World) (hr : Row w oa (recs rc ls)) (hr' : Row w oa' (recs rc ls')) (hmx : ls.length ≤ 1099511627776) (hmx' : ls'.length ≤ 1099511627776) :
    Ret Tryd.prog 23 #[.slice oa ls.length c, .slice oa' ls'.length c'] w fun v w' => v = .int .i64 (dif (fun k => pt ls k) (fun k => pt ls' k) 10000) ∧ Below w.heap.size w w' := by
  obtain ⟨z, hA, hz⟩ := z10k_is
  refine ret_of_vc Tryd.func23 rfl mixed (by kernel_rfl) ?_
  conv => whnf
  refine vcall (by kernel_rfl) (paint_ok oa c ls w hr hmx) ?_
  rintro _ w1 ⟨l1, rfl, hp1, hB1⟩
  conv => whnf
  refine vcall (by kernel_rfl) (paint_ok oa' c' ls' w1 (hr'.below hB1) hmx') ?_
  rintro _ w2 ⟨l2, rfl, hp2, hB2⟩
  have hB : Below w.heap.size w w2 := hB1.trans (hB2.mono hB1.size)
  clear hB1 hB2 hr hr'
  obtain ⟨f, hf⟩ : ∃ f : Nat → Int, f = fun k : Nat => pt ls k := ⟨_, rfl⟩
  obtain ⟨g, hg⟩ : ∃ g : Nat → Int, g = fun k : Nat => pt ls' k := ⟨_, rfl⟩
  rw [← hf] at hp1 ⊢
  rw [← hg] at hp2 ⊢
  have hg1 : (w2.alloc (.cells Tryd.zeroCells75 75)).heap.size = w2.heap.size + 1 := by simp
  conv => whnf
  refine vunit_at (a' := ⟨w2.heap.size, 0, none⟩) (w' := (w2.alloc (.cells Tryd.zeroCells75 75)).alloc (.cells Tryd.zeroCells75 75)) rfl (by kernel_rfl) ?_
  rw [hA]
  rw [hA] at hg1
  refine vs_storeW ((Blk.new w2 z.toArray _).alloc _) (by rw [hp1.1]; rfl) hp1.one (by rw [hp1.1]; exact hz.1.symm) ?_
  intro w3 hO3 hb3
  have hb3' : Blk w3 (w2.heap.size + 1) z 75 := by
    have := (Blk.new (w2.alloc (.cells z.toArray 75)) z.toArray 75).only hO3 (by rw [hg1]; omega)
    rwa [hg1] at this
  have hB3 : Below w.heap.size w w3 := (balloc (balloc hB (Nat.le_refl _) _) (Nat.le_refl _) _).trans (hO3.below hB.size)
  clear hO3
  conv => whnf
  have hg2 : (w2.alloc (.cells Tryd.zeroCells75 75)).heap.size = w2.heap.size + 1 := by simp
  refine vunit_at (a' := ⟨w2.heap.size + 1, 0, none⟩) (w' := w3) (congrArg (fun n => (⟨n, 0, none⟩ : Addr)) hg2) rfl ?_
  refine vs_storeW hb3' (by rw [hp2.1]; rfl) hp2.one (by rw [hp2.1]; exact hz.1.symm) ?_
  intro w4 hO4 hb4
  have hb3 := hb3.only hO4 (by omega)
  have hB4 := hB3.trans (hO4.below (by have := hB.size; omega))
  clear hO4 hb3' hB3
  conv => whnf
  refine vloop (X := Nat) ws23_1 (fun i => [(6, ptr (w2.heap.size + 1)), (13, .int .i64 i), (7, .int .i64 (dif f g i))]) (fun i w' => i ≤ 10000 ∧ Quiet w4 w') (fun i => 10000 - i) 0 (by kernel_rfl)
    ?_ ⟨Nat.zero_le _, Quiet.refl _⟩ ?_
  · exact ⟨congrArg ptr hg2, rfl, rfl, trivial⟩
  rintro i w5 j ⟨hi, hQ⟩
  conv => whnf
  refine vif_split (fun hlt => ?_) (fun hge => ?_)
  · have hlt : i < 10000 := by have := of_decide_eq_true hlt; omega
    have h1 := hp1.2 i hlt
    have h2 := hp2.2 i hlt
    have hA1 : At w5.drew w2.heap.size 0 l1 := (hb3.quiet hQ).at
    have hA2 : At w5.drew (w2.heap.size + 1) 0 l2 := (hb4.quiet hQ).at
    have hdl := dif_le f g i
    conv => whnf
    (refine vdrawAt plan23 (by kernel_rfl) ?_; conv => whnf)
    (repeat (first | (refine VReq.mk (by first | decide | omega) ?_; conv => whnf) | (refine VPend.mk rfl ?_; conv => whnf) | (refine VNext.keep rfl ?_; conv => whnf) | (refine vs_slI1 _ rfl rfl rfl (by assumption) ?_; conv => whnf) | (refine vs_slI _ rfl rfl rfl (by assumption) ?_; conv => whnf) | (refine vs_arr1 _ rfl rfl rfl (by assumption) ?_; conv => whnf) | (refine vs_loadF (by with_reducible assumption) (by assumption) rfl rfl ?_; conv => whnf) | (refine vs_loadF0 (by with_reducible assumption) (by assumption) rfl rfl ?_; conv => whnf) | (refine vs_loadI (by with_reducible assumption) (by assumption) rfl ?_; conv => whnf) | (refine vs_loadB rfl (by with_reducible assumption) (by assumption) ?_; conv => whnf)))
    refine vif_split (fun hne => ?_) (fun heq => ?_)
    · have hne : ¬ f i = g i := by intro e; simp [e] at hne
      conv => whnf
      refine VBack.mk ⟨_, ?_, (i + 1), rfl, ?_, ?_⟩
      · show 10000 - (i + 1) < 10000 - i; omega
      · exact ⟨rfl, intEq (incr (by omega)), intEq (by rw [i64_of (by omega) (by omega)]; simp [dif, hne]), trivial⟩
      · exact ⟨hlt, hQ.drew⟩
    · have heq : f i = g i := by simpa using heq
      conv => whnf
      refine VBack.mk ⟨_, ?_, (i + 1), rfl, ?_, ?_⟩
      · show 10000 - (i + 1) < 10000 - i; omega
      · exact ⟨rfl, intEq (incr (by omega)), intEq (by simp [dif, heq]), trivial⟩
      · exact ⟨hlt, hQ.drew⟩
  · have hge : ¬ i < 10000 := by have := of_decide_eq_false hge; omega
    obtain rfl : i = 10000 := by omega
    conv => whnf
    exact VEnd.mk ⟨rfl, hB4.trans (hQ.below _)⟩

set_option maxRecDepth 100000 in
theorem weights1_ok (oa : Option Addr) (c : Nat) (ls : List Rng) (n : Int) (w : World) (hr : Row w oa (recs rc ls)) (hmx : ls.length ≤ 1099511627776) (q : Nat) (hq : min (max n 0) 8 = (q : Int)) :
    Ret Tryd.prog 21 #[.slice oa ls.length c, .int .i64 n] w fun v w' => ∃ b l, v = .slice (some ⟨b, 0, none⟩) q q ∧ w.heap.size ≤ b ∧ Blk w' b l 3 ∧ Ints l q (fun j => cnt (fun k => pt ls k) ((j : Int) + 1) 10000) ∧ Below w.heap.size w w' := by
  refine ret_of_vc Tryd.func21 rfl mixed (by kernel_rfl) ?_
  conv => whnf
  rw [hq]
  refine vs_makeI (n := q) rfl rfl rfl rfl rfl rfl (by omega) ?_
  intro w1 z hB1 hb1 hz
  conv => whnf
  refine vcall (by kernel_rfl) (paint_ok oa c ls w1 (hr.below hB1) hmx) ?_
  rintro _ w2 ⟨l1, rfl, hp1, hB2⟩
  have hb2 := hb1.below hB2 hb1.lt
  have hB := hB1.trans (hB2.mono hB1.size)
  clear hB2 hb1 hB1 hr
  obtain ⟨f, hf⟩ : ∃ f : Nat → Int, f = fun k : Nat => pt ls k := ⟨_, rfl⟩
  rw [← hf] at hp1 ⊢
  conv => whnf
  refine vloop (X := Nat × List Value) ws21_1 (fun x => [(14, .int .i64 x.1)]) (fun x w' => x.1 ≤ 10000 ∧ Below w.heap.size w w' ∧ Blk w' w.heap.size x.2 3 ∧ Ints x.2 q (fun j => cnt f ((j : Int) + 1) x.1)) (fun x => 10000 - x.1) (0, z) (by kernel_rfl)
    ?_ ⟨Nat.zero_le _, hB, hb2, hz⟩ ?_
  · exact ⟨rfl, trivial⟩
  rintro ⟨i, l⟩ w3 j ⟨hi, hB3, hb3, hl⟩
  simp only at hi hb3 hl
  conv => whnf
  refine vif_split (fun hlt => ?_) (fun hge => ?_)
  · have hlt : i < 10000 := by have := of_decide_eq_true hlt; omega
    have h1 := hp1.2 i hlt
    clear hb2
    conv => whnf
    refine vs_ixA rfl rfl rfl rfl hlt h1 ?_
    conv => whnf
    have next : ∀ l', Ints l' q (fun j => cnt f ((j : Int) + 1) i) → (¬ (1 ≤ f i ∧ f i ≤ q)) → Ints l' q (fun j => cnt f ((j : Int) + 1) (i + 1)) := fun l' h hn => h.congr fun j hj => by
      simp only [cnt]; rw [if_neg (by omega)]; omega
    refine vif_split (fun hv => ?_) (fun hv => ?_)
    · have hv : f i ≥ 1 := of_decide_eq_true hv
      conv => whnf
      refine vif_split (fun hv2 => ?_) (fun hv2 => ?_)
      · have hv2 : f i ≤ q := of_decide_eq_true hv2
        obtain ⟨m, hm⟩ : ∃ m : Nat, f i = (m : Int) + 1 := ⟨(f i - 1).toNat, by omega⟩
        have hmq : m < q := by omega
        have hcl := cnt_le f ((m : Int) + 1) i
        have hlm : l[m]? = some (.int .i64 (cnt f ((m : Int) + 1) i)) := hl.2 m hmq
        conv => whnf
        refine vs_slI1 m (by rw [hm, i64_of (by omega) (by omega)]; omega) rfl rfl hmq ?_
        conv => whnf
        refine vs_loadI hb3.at hlm rfl ?_
        conv => whnf
        refine vs_slI1 m (by rw [hm, i64_of (by omega) (by omega)]; omega) rfl rfl hmq ?_
        conv => whnf
        refine vs_storeP hb3 rfl rfl (by rw [hl.1]; omega) ?_
        intro w4 hO4 hb4
        rw [Nat.zero_add, i64_of (by omega) (by omega)] at hb4
        conv => whnf
        refine VBack.mk ⟨_, ?_, (i + 1, l.set m (.int .i64 (cnt f ((m : Int) + 1) i + 1))), rfl, ?_, ?_⟩
        · show 10000 - (i + 1) < 10000 - i; omega
        · exact ⟨intEq (incr (by omega)), trivial⟩
        · refine ⟨hlt, hB3.trans (hO4.below (Nat.le_refl _)), hb4, (hl.set m _ hmq).congr fun k hk => ?_⟩
          by_cases e : k = m
          · subst e
            simp [cnt, hm]
          · simp only [if_neg e, cnt]
            rw [if_neg (by omega)]; omega
      · have hv2 : ¬ f i ≤ q := of_decide_eq_false hv2
        conv => whnf
        refine VBack.mk ⟨_, ?_, (i + 1, l), rfl, ?_, ?_⟩
        · show 10000 - (i + 1) < 10000 - i; omega
        · exact ⟨intEq (incr (by omega)), trivial⟩
        · exact ⟨hlt, hB3, hb3, next l hl (by omega)⟩
    · have hv : ¬ f i ≥ 1 := of_decide_eq_false hv
      conv => whnf
      refine VBack.mk ⟨_, ?_, (i + 1, l), rfl, ?_, ?_⟩
      · show 10000 - (i + 1) < 10000 - i; omega
      · exact ⟨intEq (incr (by omega)), trivial⟩
      · exact ⟨hlt, hB3, hb3, next l hl (by omega)⟩
  · have hge : ¬ i < 10000 := by have := of_decide_eq_false hge; omega
    obtain rfl : i = 10000 := by omega
    conv => whnf
    exact VEnd.mk ⟨w.heap.size, l, rfl, Nat.le_refl _, hb3, hl, hB3⟩

set_option maxRecDepth 100000 in
theorem weights2_ok (oa : Option Addr) (c : Nat) (ls : List Rng) (n : Int) (w : World) (hr : Row w oa (recs rc ls)) (hmx : ls.length ≤ 1099511627776) (q : Nat) (hq : min (max n 0) 8 = (q : Int)) :
    Ret Tryd.prog 22 #[.slice oa ls.length c, .int .i64 n] w fun v w' => ∃ b l, v = .slice (some ⟨b, 0, none⟩) q q ∧ w.heap.size ≤ b ∧ Blk w' b l 3 ∧ Ints l q (fun j => cnt (fun k => pt ls k) ((j : Int) + 1) 10000) ∧ Below w.heap.size w w' := by
  refine ret_of_vc Tryd.func22 rfl mixed (by kernel_rfl) ?_
  have hq' : max 0 (min n 8) = (q : Int) := by omega
  conv => whnf
  rw [hq']
  refine vs_makeI (n := q) rfl rfl rfl rfl rfl rfl (by omega) ?_
  intro w1 z hB1 hb1 hz
  conv => whnf
  refine vcall (by kernel_rfl) (all_ok oa c ls w1 (hr.below hB1) hmx) ?_
  rintro _ w2 ⟨bA, lA, rfl, hgA, hbA, hp1, hB2⟩
  have hb2 := hb1.below hB2 hb1.lt
  have hB := hB1.trans (hB2.mono hB1.size)
  have hne : w.heap.size < bA := by have := hb1.lt; omega
  clear hB2 hb1 hB1 hr
  obtain ⟨f, hf⟩ : ∃ f : Nat → Int, f = fun k : Nat => pt ls k := ⟨_, rfl⟩
  rw [← hf] at hp1 ⊢
  conv => whnf
  refine vloop (X := Nat × List Value) ws22_1 (fun x => [(7, .int .i64 x.1)]) (fun x w' => x.1 ≤ 10000 ∧ Below w.heap.size w w' ∧ Blk w' bA lA 3 ∧ Blk w' w.heap.size x.2 3 ∧ Ints x.2 q (fun j => cnt f ((j : Int) + 1) x.1)) (fun x => 10000 - x.1) (0, z) (by kernel_rfl)
    ?_ ⟨Nat.zero_le _, hB, hbA, hb2, hz⟩ ?_
  · exact ⟨rfl, trivial⟩
  rintro ⟨i, l⟩ w3 j ⟨hi, hB3, hbA3, hb3, hl⟩
  simp only at hi hb3 hl
  clear hb2 hbA
  conv => whnf
  refine vif_split (fun hlt => ?_) (fun hge => ?_)
  · have hlt : i < 10000 := by have := of_decide_eq_true hlt; omega
    have h1 := hp1.2 i hlt
    have hA3 := hbA3.at
    conv => whnf
    (repeat (first | (refine VReq.mk (by first | decide | omega) ?_; conv => whnf) | (refine VPend.mk rfl ?_; conv => whnf) | (refine VNext.keep rfl ?_; conv => whnf) | (refine vs_slI1 _ rfl rfl rfl (by assumption) ?_; conv => whnf) | (refine vs_slI _ rfl rfl rfl (by assumption) ?_; conv => whnf) | (refine vs_arr1 _ rfl rfl rfl (by assumption) ?_; conv => whnf) | (refine vs_loadF (by with_reducible assumption) (by assumption) rfl rfl ?_; conv => whnf) | (refine vs_loadF0 (by with_reducible assumption) (by assumption) rfl rfl ?_; conv => whnf) | (refine vs_loadI (by with_reducible assumption) (by assumption) rfl ?_; conv => whnf) | (refine vs_loadB rfl (by with_reducible assumption) (by assumption) ?_; conv => whnf)))
    have next : ∀ l', Ints l' q (fun j => cnt f ((j : Int) + 1) i) → (¬ (1 ≤ f i ∧ f i ≤ q)) → Ints l' q (fun j => cnt f ((j : Int) + 1) (i + 1)) := fun l' h hn => h.congr fun j hj => by
      simp only [cnt]; rw [if_neg (by omega)]; omega
    refine vif_split (fun hv => ?_) (fun hv => ?_)
    · have hv : f i ≥ 1 := of_decide_eq_true hv
      conv => whnf
      (repeat (first | (refine VReq.mk (by first | decide | omega) ?_; conv => whnf) | (refine VPend.mk rfl ?_; conv => whnf) | (refine VNext.keep rfl ?_; conv => whnf) | (refine vs_slI1 _ rfl rfl rfl (by assumption) ?_; conv => whnf) | (refine vs_slI _ rfl rfl rfl (by assumption) ?_; conv => whnf) | (refine vs_arr1 _ rfl rfl rfl (by assumption) ?_; conv => whnf) | (refine vs_loadF (by with_reducible assumption) (by assumption) rfl rfl ?_; conv => whnf) | (refine vs_loadF0 (by with_reducible assumption) (by assumption) rfl rfl ?_; conv => whnf) | (refine vs_loadI (by with_reducible assumption) (by assumption) rfl ?_; conv => whnf) | (refine vs_loadB rfl (by with_reducible assumption) (by assumption) ?_; conv => whnf)))
      refine vif_split (fun hv2 => ?_) (fun hv2 => ?_)
      · have hv2 : f i ≤ q := of_decide_eq_true hv2
        obtain ⟨m, hm⟩ : ∃ m : Nat, f i = (m : Int) + 1 := ⟨(f i - 1).toNat, by omega⟩
        have hmq : m < q := by omega
        have hcl := cnt_le f ((m : Int) + 1) i
        have hlm : l[m]? = some (.int .i64 (cnt f ((m : Int) + 1) i)) := hl.2 m hmq
        conv => whnf
        (repeat (first | (refine VReq.mk (by first | decide | omega) ?_; conv => whnf) | (refine VPend.mk rfl ?_; conv => whnf) | (refine VNext.keep rfl ?_; conv => whnf) | (refine vs_slI1 _ rfl rfl rfl (by assumption) ?_; conv => whnf) | (refine vs_slI _ rfl rfl rfl (by assumption) ?_; conv => whnf) | (refine vs_arr1 _ rfl rfl rfl (by assumption) ?_; conv => whnf) | (refine vs_loadF (by with_reducible assumption) (by assumption) rfl rfl ?_; conv => whnf) | (refine vs_loadF0 (by with_reducible assumption) (by assumption) rfl rfl ?_; conv => whnf) | (refine vs_loadI (by with_reducible assumption) (by assumption) rfl ?_; conv => whnf) | (refine vs_loadB rfl (by with_reducible assumption) (by assumption) ?_; conv => whnf)))
        refine vs_slI1 m (by rw [hm, i64_of (by omega) (by omega)]; omega) rfl rfl hmq ?_
        conv => whnf
        refine vs_loadI hb3.at hlm rfl ?_
        conv => whnf
        refine vs_slI1 m (by rw [hm, i64_of (by omega) (by omega)]; omega) rfl rfl hmq ?_
        conv => whnf
        refine vs_storeP hb3 rfl rfl (by rw [hl.1]; omega) ?_
        intro w4 hO4 hb4
        rw [Nat.zero_add, i64_of (by omega) (by omega)] at hb4
        conv => whnf
        refine VBack.mk ⟨_, ?_, (i + 1, l.set m (.int .i64 (cnt f ((m : Int) + 1) i + 1))), rfl, ?_, ?_⟩
        · show 10000 - (i + 1) < 10000 - i; omega
        · exact ⟨intEq (incr (by omega)), trivial⟩
        · refine ⟨hlt, hB3.trans (hO4.below (Nat.le_refl _)), hbA3.only hO4 (by omega), hb4, (hl.set m _ hmq).congr fun k hk => ?_⟩
          by_cases e : k = m
          · subst e
            simp [cnt, hm]
          · simp only [if_neg e, cnt]
            rw [if_neg (by omega)]; omega
      · have hv2 : ¬ f i ≤ q := of_decide_eq_false hv2
        conv => whnf
        refine VBack.mk ⟨_, ?_, (i + 1, l), rfl, ?_, ?_⟩
        · show 10000 - (i + 1) < 10000 - i; omega
        · exact ⟨intEq (incr (by omega)), trivial⟩
        · exact ⟨hlt, hB3, hbA3, hb3, next l hl (by omega)⟩
    · have hv : ¬ f i ≥ 1 := of_decide_eq_false hv
      conv => whnf
      refine VBack.mk ⟨_, ?_, (i + 1, l), rfl, ?_, ?_⟩
      · show 10000 - (i + 1) < 10000 - i; omega
      · exact ⟨intEq (incr (by omega)), trivial⟩
      · exact ⟨hlt, hB3, hbA3, hb3, next l hl (by omega)⟩
  · have hge : ¬ i < 10000 := by have := of_decide_eq_false hge; omega
    obtain rfl : i = 10000 := by omega
    conv => whnf
    exact VEnd.mk ⟨w.heap.size, l, rfl, Nat.le_refl _, hb3, hl, hB3⟩

set_option maxRecDepth 100000 in
theorem check1_ok (oa : Option Addr) (n c : Nat) (vs : List Value) (W : Nat → Int) (w : World) (hr : Row w oa vs) (hW : Ints vs n W) (hn : n ≤ 1099511627776) :
    Ret Tryd.prog 39 #[.slice oa n c] w fun v w' => v = .int .i64 (chk n W) ∧ Quiet w w' := by
  refine ret_of_vc Tryd.func39 rfl mixed (by kernel_rfl) ?_
  conv => whnf
  refine vif_split (fun h8 => ?_) (fun h8 => ?_)
  · have h8 : n > 8 := by have := of_decide_eq_true h8; omega
    rw [chk_big h8]
    conv => whnf
    exact VEnd.mk ⟨rfl, Quiet.refl _⟩
  have h8 : ¬ n > 8 := by have := of_decide_eq_false h8; omega
  conv => whnf
  refine vloop (X := Nat) ws39_1 (fun i => [(11, .int .i64 i), (3, .int .i64 (isum W i))]) (fun i w' => i ≤ n ∧ w' = w ∧ (∀ j, j < i → 0 ≤ W j) ∧ 0 ≤ isum W i ∧ isum W i ≤ 10000 * i) (fun i => n - i) 0 (by kernel_rfl)
    ?_ ⟨Nat.zero_le _, rfl, fun j hj => absurd hj (Nat.not_lt_zero _), Int.le_refl _, Int.le_refl _⟩ ?_
  · exact ⟨rfl, rfl, trivial⟩
  rintro i w1 j ⟨hi, rfl, hp, hs1, hs2⟩
  conv => whnf
  refine vif_split (fun hlt => ?_) (fun hge => ?_)
  · have hlt : i < n := by have := of_decide_eq_true hlt; omega
    obtain ⟨b, o, rfl, hbl, hc⟩ := hr.at (by rw [hW.1]; omega)
    have h1 := hW.2 i hlt
    conv => whnf
    (repeat (first | (refine VReq.mk (by first | decide | omega) ?_; conv => whnf) | (refine VPend.mk rfl ?_; conv => whnf) | (refine VNext.keep rfl ?_; conv => whnf) | (refine vs_slI1 _ rfl rfl rfl (by assumption) ?_; conv => whnf) | (refine vs_slI _ rfl rfl rfl (by assumption) ?_; conv => whnf) | (refine vs_arr1 _ rfl rfl rfl (by assumption) ?_; conv => whnf) | (refine vs_loadF (by with_reducible assumption) (by assumption) rfl rfl ?_; conv => whnf) | (refine vs_loadF0 (by with_reducible assumption) (by assumption) rfl rfl ?_; conv => whnf) | (refine vs_loadI (by with_reducible assumption) (by assumption) rfl ?_; conv => whnf) | (refine vs_loadB rfl (by with_reducible assumption) (by assumption) ?_; conv => whnf)))
    refine vif_split (fun hv => ?_) (fun hv => ?_)
    · have hv : W i < 0 := of_decide_eq_true hv
      rw [chk_no h8 fun h => absurd (h.1 i hlt) (by omega)]
      conv => whnf
      exact VEnd.mk ⟨rfl, Quiet.refl _⟩
    · have hv : ¬ W i < 0 := of_decide_eq_false hv
      conv => whnf
      refine vif_split (fun hv2 => ?_) (fun hv2 => ?_)
      · have hv2 : W i > 10000 := of_decide_eq_true hv2
        rw [chk_no h8 fun h => by have h1 := isum_mono h.1 0 i (by omega) (by omega); have h2 := isum_mono h.1 (i + 1) n (by omega) (by omega); simp only [isum] at h1 h2; omega]
        conv => whnf
        exact VEnd.mk ⟨rfl, Quiet.refl _⟩
      · have hv2 : ¬ W i > 10000 := of_decide_eq_false hv2
        conv => whnf
        refine VBack.mk ⟨_, ?_, (i + 1), rfl, ?_, ?_⟩
        · show n - (i + 1) < n - i; omega
        · exact ⟨intEq (incr (by omega)), intEq (by rw [i64_of (by omega) (by omega)]; rfl), trivial⟩
        · exact ⟨hlt, rfl, fun j hj => by
            by_cases e : j = i
            · subst e; omega
            · exact hp j (by omega), by simp only [isum]; omega, by simp only [isum]; omega⟩
  · have hge : ¬ i < n := by have := of_decide_eq_false hge; omega
    obtain rfl : i = n := by omega
    conv => whnf
    refine vif_split (fun hv => ?_) (fun hv => ?_)
    · have hv : ¬ isum W i = 10000 := by intro e; simp [e] at hv
      rw [chk_no h8 fun h => hv h.2]
      conv => whnf
      exact VEnd.mk ⟨rfl, Quiet.refl _⟩
    · have hv : isum W i = 10000 := by simpa using hv
      rw [chk_ok h8 hp hv]
      conv => whnf
      exact VEnd.mk ⟨rfl, Quiet.refl _⟩

set_option maxRecDepth 100000 in
theorem check2_ok (oa : Option Addr) (n c : Nat) (vs : List Value) (W : Nat → Int) (w : World) (hr : Row w oa vs) (hW : Ints vs n W) (hn : n ≤ 1099511627776) :
    Ret Tryd.prog 42 #[.slice oa n c] w fun v w' => v = .int .i64 (chk n W) ∧ Quiet w w' := by
  refine ret_of_vc Tryd.func42 rfl mixed (by kernel_rfl) ?_
  conv => whnf
  refine vif_split (fun h8 => ?_) (fun h8 => ?_)
  · have h8 : n > 8 := by have := of_decide_eq_true h8; omega
    rw [chk_big h8]
    conv => whnf
    exact VEnd.mk ⟨rfl, Quiet.refl _⟩
  have h8 : ¬ n > 8 := by have := of_decide_eq_false h8; omega
  conv => whnf
  refine vloop (X := Nat) ws42_1 (fun i => [(4, .int .i64 i), (3, .int .i64 (10000 - isum W i))]) (fun i w' => i ≤ n ∧ w' = w ∧ (∀ j, j < i → 0 ≤ W j) ∧ 0 ≤ isum W i ∧ isum W i ≤ 10000) (fun i => n - i) 0 (by kernel_rfl)
    ?_ ⟨Nat.zero_le _, rfl, fun j hj => absurd hj (Nat.not_lt_zero _), Int.le_refl _, by simp [isum]⟩ ?_
  · exact ⟨rfl, rfl, trivial⟩
  rintro i w1 j ⟨hi, rfl, hp, hs1, hs2⟩
  conv => whnf
  refine vif_split (fun hlt => ?_) (fun hge => ?_)
  · have hlt : i < n := by have := of_decide_eq_true hlt; omega
    obtain ⟨b, o, rfl, hbl, hc⟩ := hr.at (by rw [hW.1]; omega)
    have h1 := hW.2 i hlt
    conv => whnf
    (repeat (first | (refine VReq.mk (by first | decide | omega) ?_; conv => whnf) | (refine VPend.mk rfl ?_; conv => whnf) | (refine VNext.keep rfl ?_; conv => whnf) | (refine vs_slI1 _ rfl rfl rfl (by assumption) ?_; conv => whnf) | (refine vs_slI _ rfl rfl rfl (by assumption) ?_; conv => whnf) | (refine vs_arr1 _ rfl rfl rfl (by assumption) ?_; conv => whnf) | (refine vs_loadF (by with_reducible assumption) (by assumption) rfl rfl ?_; conv => whnf) | (refine vs_loadF0 (by with_reducible assumption) (by assumption) rfl rfl ?_; conv => whnf) | (refine vs_loadI (by with_reducible assumption) (by assumption) rfl ?_; conv => whnf) | (refine vs_loadB rfl (by with_reducible assumption) (by assumption) ?_; conv => whnf)))
    refine vif_split (fun hv => ?_) (fun hv => ?_)
    · have hv : W i < 0 := of_decide_eq_true hv
      rw [chk_no h8 fun h => absurd (h.1 i hlt) (by omega)]
      conv => whnf
      exact VEnd.mk ⟨rfl, Quiet.refl _⟩
    · have hv : ¬ W i < 0 := of_decide_eq_false hv
      conv => whnf
      (repeat (first | (refine VReq.mk (by first | decide | omega) ?_; conv => whnf) | (refine VPend.mk rfl ?_; conv => whnf) | (refine VNext.keep rfl ?_; conv => whnf) | (refine vs_slI1 _ rfl rfl rfl (by assumption) ?_; conv => whnf) | (refine vs_slI _ rfl rfl rfl (by assumption) ?_; conv => whnf) | (refine vs_arr1 _ rfl rfl rfl (by assumption) ?_; conv => whnf) | (refine vs_loadF (by with_reducible assumption) (by assumption) rfl rfl ?_; conv => whnf) | (refine vs_loadF0 (by with_reducible assumption) (by assumption) rfl rfl ?_; conv => whnf) | (refine vs_loadI (by with_reducible assumption) (by assumption) rfl ?_; conv => whnf) | (refine vs_loadB rfl (by with_reducible assumption) (by assumption) ?_; conv => whnf)))
      refine vif_split (fun hv2 => ?_) (fun hv2 => ?_)
      · have hv2 : W i > 10000 - isum W i := of_decide_eq_true hv2
        rw [chk_no h8 fun h => by have h2 := isum_mono h.1 (i + 1) n (by omega) (by omega); simp only [isum] at h2; omega]
        conv => whnf
        exact VEnd.mk ⟨rfl, Quiet.refl _⟩
      · have hv2 : ¬ W i > 10000 - isum W i := of_decide_eq_false hv2
        conv => whnf
        (repeat (first | (refine VReq.mk (by first | decide | omega) ?_; conv => whnf) | (refine VPend.mk rfl ?_; conv => whnf) | (refine VNext.keep rfl ?_; conv => whnf) | (refine vs_slI1 _ rfl rfl rfl (by assumption) ?_; conv => whnf) | (refine vs_slI _ rfl rfl rfl (by assumption) ?_; conv => whnf) | (refine vs_arr1 _ rfl rfl rfl (by assumption) ?_; conv => whnf) | (refine vs_loadF (by with_reducible assumption) (by assumption) rfl rfl ?_; conv => whnf) | (refine vs_loadF0 (by with_reducible assumption) (by assumption) rfl rfl ?_; conv => whnf) | (refine vs_loadI (by with_reducible assumption) (by assumption) rfl ?_; conv => whnf) | (refine vs_loadB rfl (by with_reducible assumption) (by assumption) ?_; conv => whnf)))
        refine VBack.mk ⟨_, ?_, (i + 1), rfl, ?_, ?_⟩
        · show n - (i + 1) < n - i; omega
        · exact ⟨intEq (incr (by omega)), intEq (by rw [i64_of (by omega) (by omega)]; simp only [isum]; omega), trivial⟩
        · exact ⟨hlt, rfl, fun j hj => by
            by_cases e : j = i
            · subst e; omega
            · exact hp j (by omega), by simp only [isum]; omega, by simp only [isum]; omega⟩
  · have hge : ¬ i < n := by have := of_decide_eq_false hge; omega
    obtain rfl : i = n := by omega
    conv => whnf
    refine vif_split (fun hv => ?_) (fun hv => ?_)
    · have hv : ¬ isum W i = 10000 := by intro e; simp [e] at hv
      rw [chk_no h8 fun h => hv h.2]
      conv => whnf
      exact VEnd.mk ⟨rfl, Quiet.refl _⟩
    · have hv : isum W i = 10000 := by have h0 : (10000 - isum W i) = 0 := by { simpa using hv }; omega
      rw [chk_ok h8 hp hv]
      conv => whnf
      exact VEnd.mk ⟨rfl, Quiet.refl _⟩
end Go.Proofs.YthnncehddnfjmaaDoor.Bk
