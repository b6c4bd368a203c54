/- The walk of the program's Reweigh. Conditions: the arguments read as a list of ranges and a list of numbers. -/
import Derived.Test.YthnncehddnfjmaaDoorBk8
set_option linter.unusedVariables false
set_option linter.unusedSimpArgs false
namespace Go.Proofs.YthnncehddnfjmaaDoor.Bk
open Go Go.RowKit Go.Proofs.YthnncehddnfjmaaDoor.Vc Go.Proofs.YthnncehddnfjmaaDoor.Dg
attribute [local irreducible] loadVar storeVar Instr.indexAt Instr.index Instr.sliceAt Instr.makeSlice Instr.lookup Instr.mapUpdate Instr.range Instr.next Instr.entry Instr.makeMap Builtin.append_ Builtin.copy_ Builtin.len_ Builtin.min_ Builtin.max_ Builtin.cap_ Builtin.delete_ Builtin.clear_ convert binOp eqGuard Op.unary Calls
theorem isum_succ (W : Nat → Int) (k : Nat) : isum W (k + 1) = isum W k + W k := rfl
theorem isum_nil (W : Nat → Int) : isum W 0 = 0 := rfl
attribute [local irreducible] up down rg rgr cnt isum dif rwF

/-- the counts behind an unused first place -/
def Has (l : List Value) (n : Nat) (H : Nat → Int) : Prop := l.length = 9 ∧ ∀ j, j < n → l[j + 1]? = some (.int .i64 (H j))
theorem Has.set {l : List Value} {n : Nat} {H : Nat → Int} (h : Has l n H) (m : Nat) (x : Int) (hm : m < n) (hn : n ≤ 8) : Has (l.set (m + 1) (.int .i64 x)) n (fun j => if j = m then x else H j) := by
  refine ⟨by rw [List.length_set]; exact h.1, fun j hj => ?_⟩
  by_cases e : j = m
  · subst e
    rw [List.getElem?_set_self (by rw [h.1]; omega)]
    simp
  · rw [List.getElem?_set_ne (fun x => e (by omega)), h.2 j hj]
    simp only [if_neg e]
theorem ustep_old {n : Nat} {W : Nat → Int} {s : St} {b j : Nat} (h : j ≠ b) : (ustep n W s b).2 j = s.2 j := by
  unfold ustep
  split
  · exact if_neg h
  · rfl
theorem ustep_ge {n : Nat} {W : Nat → Int} {s : St} {b u : Nat} (h : ¬ s.1 u < W u) : ¬ (ustep n W s b).1 u < W u := by
  unfold ustep
  split
  · show ¬ (if u = lo s.1 W n 0 then s.1 (lo s.1 W n 0) + 1 else s.1 u) < W u
    split
    · rename_i e; rw [← e]; omega
    · exact h
  · exact h

set_option maxHeartbeats 1000000 in
set_option maxRecDepth 100000 in
theorem reweigh1_ok (oa oa' : Option Addr) (c n c' : Nat) (ls : List Rng) (vs : List Value) (W : Nat → Int) (w : World) (hr : Row w oa (recs rc ls)) (hmx : ls.length ≤ 1099511627776) (hr' : Row w oa' vs) (hW : Ints vs n W) (hn : n ≤ 1099511627776) :
    Ret Tryd.prog 15 #[.slice oa ls.length c, .slice oa' n c'] w fun v w' => ∃ o2 c2, v = .tuple #[.slice o2 (rwL n W ls).length c2, .int .i64 (rwE n W ls)] ∧ Row w' o2 (recs rc (rwL n W ls)) ∧ Below w.heap.size w w' := by
  obtain ⟨z, hA, hz⟩ := z10k_is
  refine ret_of_vc Tryd.func15 rfl mixed (by kernel_rfl) ?_
  conv => whnf
  refine vcall (by kernel_rfl) (split1_ok oa c ls n w hr hmx) ?_
  rintro _ w1 ⟨rfl, hB1⟩
  have hsp := @split_pt n ls
  have k1 := @rw_1 n W ls
  have k2 := @rw_2 n W ls
  have k3 := @rw_3 n W ls
  have k4 := @rw_4 n W ls
  obtain ⟨e1, he1⟩ : ∃ e, e = split n ls := ⟨_, rfl⟩
  rw [← he1] at hsp k1 k2 k3 k4 ⊢
  conv => whnf
  refine vif_split (fun h1 => ?_) (fun h1 => ?_)
  · have h1 : ¬ e1 = 0 := by intro e'; simp [e'] at h1
    rw [(k1 h1).1, (k1 h1).2]
    conv => whnf
    exact VEnd.mk ⟨none, 0, rfl, Row.nil _ _, hB1⟩
  have h1 : e1 = 0 := by simpa using h1
  have hF := hsp h1
  clear k1
  conv => whnf
  refine vcall (by kernel_rfl) (check1_ok oa' n c' vs W w1 (hr'.below hB1) hW hn) ?_
  rintro _ w2 ⟨rfl, hQ2⟩
  have hB2 : Below w.heap.size w w2 := hB1.trans (hQ2.below _)
  have hch := @chk_zero n W
  obtain ⟨e2, he2⟩ : ∃ e, e = chk n W := ⟨_, rfl⟩
  rw [← he2] at hch k2 k3 k4 ⊢
  conv => whnf
  refine vif_split (fun h2 => ?_) (fun h2 => ?_)
  · have h2 : ¬ e2 = 0 := by intro e'; simp [e'] at h2
    rw [(k2 h1 h2).1, (k2 h1 h2).2]
    conv => whnf
    exact VEnd.mk ⟨none, 0, rfl, Row.nil _ _, hB2⟩
  have h2 : e2 = 0 := by simpa using h2
  obtain ⟨hn8, hpos, hsum⟩ := hch h2
  clear k2
  conv => whnf
  obtain ⟨z9, hz9⟩ : ∃ l : List Value, l = [.int .i64 0, .int .i64 0, .int .i64 0, .int .i64 0, .int .i64 0, .int .i64 0, .int .i64 0, .int .i64 0, .int .i64 0] := ⟨_, rfl⟩
  have hz9l : z9.length = 9 := by rw [hz9]; rfl
  obtain ⟨bH, hbHe⟩ : ∃ b, b = w2.heap.size := ⟨_, rfl⟩
  have hbH0 : Blk (w2.alloc (.cells z9.toArray 74)) bH z9 74 := by rw [hbHe]; exact Blk.new _ _ _
  have hB3 : Below w.heap.size w (w2.alloc (.cells z9.toArray 74)) := balloc hB2 (Nat.le_refl _) _
  have hgH : w.heap.size ≤ bH := by rw [hbHe]; exact hB2.size
  rw [hz9] at hbH0 hB3
  refine vcall (by kernel_rfl) (weights1_ok oa c ls n _ (hr.below hB3) hmx n (by omega)) ?_
  rintro _ w4 ⟨bw, lw, rfl, hgw, hbw, hpw, hB4⟩
  have hbH4 := hbH0.below hB4 hbH0.lt
  have hB : Below w.heap.size w w4 := hB3.trans (hB4.mono hB3.size)
  have hneH : bH < bw := Nat.lt_of_lt_of_le hbH0.lt hgw
  rw [← hz9] at hbH4
  clear hB3 hB4 hbH0 hB1 hB2 hQ2 hgw hz9
  obtain ⟨F, hFF⟩ : ∃ F : Nat → Int, F = fun b : Nat => pt ls b := ⟨_, rfl⟩
  have hFx : ∀ b, b < 10000 → 1 ≤ F b ∧ F b ≤ n := fun b hb => by rw [hFF]; exact hF b hb
  have hout : rwOut n W ls = rg (rwF 10000 n W F) 10000 := by rw [hFF]; exact rwOut_eq n W ls
  rw [← hFF] at hpw
  have hdi := down_inv (N := 10000) (n := n) (W := W) (F := F) (H := fun j => cnt F ((j : Int) + 1) 10000) hFx (fun _ _ => rfl)
  obtain ⟨H0, hH0⟩ : ∃ H : Nat → Int, H = fun j : Nat => cnt F ((j : Int) + 1) 10000 := ⟨_, rfl⟩
  rw [← hH0] at hdi hpw
  conv => whnf
  refine vloop (X := Nat × List Value) ws15_1 (fun x => [(8, ptr bH), (35, .int .i64 x.1)]) (fun x w' => x.1 ≤ n ∧ Below w.heap.size w w' ∧ Blk w' bw lw 3 ∧ Blk w' bH x.2 74 ∧ Has x.2 x.1 H0) (fun x => n - x.1) (0, z9) (by kernel_rfl)
    ?_ ⟨Nat.zero_le _, hB, hbw, hbH4, hz9l, fun j h => absurd h (Nat.not_lt_zero _)⟩ ?_
  · exact ⟨by rw [hbHe]; rfl, rfl, trivial⟩
  rintro ⟨i, h⟩ w5 j5 ⟨hi, hB5, hbw5, hbH5, hh5⟩
  simp only at hi hbH5 hh5 ⊢
  clear hbw hbH4 hB
  conv => whnf
  refine vif_split (fun hlt => ?_) (fun hge => ?_)
  · have hlt : i < n := by have := of_decide_eq_true hlt; omega
    have hw5 := hpw.2 i hlt
    have hAw := hbw5.at
    have hi9 : i + 1 < 9 := by omega
    conv => whnf
    (repeat (first | (refine VReq.mk (by first | decide | omega) ?_; conv => whnf) | (refine VPend.mk rfl ?_; conv => whnf) | (refine VNext.keep rfl ?_; conv => whnf) | (refine vs_slI1 _ rfl rfl rfl (by assumption) ?_; conv => whnf) | (refine vs_slI _ rfl rfl rfl (by assumption) ?_; conv => whnf) | (refine vs_arr1 _ rfl rfl rfl (by assumption) ?_; conv => whnf) | (refine vs_loadF (by with_reducible assumption) (by assumption) rfl rfl ?_; conv => whnf) | (refine vs_loadF0 (by with_reducible assumption) (by assumption) rfl rfl ?_; conv => whnf) | (refine vs_loadI (by with_reducible assumption) (by assumption) rfl ?_; conv => whnf) | (refine vs_loadB rfl (by with_reducible assumption) (by assumption) ?_; conv => whnf)))
    rw [incr (i := i) (by omega)]
    (repeat (first | (refine VReq.mk (by first | decide | omega) ?_; conv => whnf) | (refine VPend.mk rfl ?_; conv => whnf) | (refine VNext.keep rfl ?_; conv => whnf) | (refine vs_slI1 _ rfl rfl rfl (by assumption) ?_; conv => whnf) | (refine vs_slI _ rfl rfl rfl (by assumption) ?_; conv => whnf) | (refine vs_arr1 _ rfl rfl rfl (by assumption) ?_; conv => whnf) | (refine vs_loadF (by with_reducible assumption) (by assumption) rfl rfl ?_; conv => whnf) | (refine vs_loadF0 (by with_reducible assumption) (by assumption) rfl rfl ?_; conv => whnf) | (refine vs_loadI (by with_reducible assumption) (by assumption) rfl ?_; conv => whnf) | (refine vs_loadB rfl (by with_reducible assumption) (by assumption) ?_; conv => whnf)))
    refine vs_storeP hbH5 rfl rfl (by rw [hh5.1]; omega) ?_
    intro w6 hO6 hbH6
    rw [Nat.zero_add] at hbH6
    conv => whnf
    refine VBack.mk ⟨_, ?_, (i + 1, h.set (i + 1) (.int .i64 (H0 i))), rfl, ?_, ?_⟩
    · show n - (i + 1) < n - i; omega
    · exact ⟨rfl, intEq (incr (by omega)), trivial⟩
    · refine ⟨hlt, hB5.trans (hO6.below (by omega)), hbw5.only hO6 (by omega), hbH6, by rw [List.length_set]; exact hh5.1, fun j hj => ?_⟩
      by_cases e : j = i
      · subst e; exact List.getElem?_set_self (by rw [hh5.1]; omega)
      · rw [List.getElem?_set_ne (by omega)]; exact hh5.2 j (by simp only at hj; omega)
  have hge : ¬ i < n := by have := of_decide_eq_false hge; omega
  obtain rfl : i = n := by omega
  clear hbw5 hge
  conv => whnf
  refine vcall (by kernel_rfl) (paint_ok oa c ls w5 (hr.below hB5) hmx) ?_
  rintro _ w6 ⟨l1, rfl, hp1, hB6⟩
  have hbH6 := hbH5.below hB6 hbH5.lt
  have hB6' := hB5.trans (hB6.mono hB5.size)
  rw [← hFF] at hp1
  clear hB6 hB5 hbH5
  conv => whnf
  obtain ⟨bA, hbAe⟩ : ∃ b, b = w6.heap.size := ⟨_, rfl⟩
  refine vunit_at (a' := ⟨w6.heap.size, 0, none⟩) (w' := w6.alloc (.cells Tryd.zeroCells75 75)) rfl (by kernel_rfl) ?_
  rw [hA]
  refine vs_storeW (Blk.new w6 z.toArray _) (by rw [hp1.1]; rfl) hp1.one (by rw [hp1.1]; exact hz.1.symm) ?_
  intro w7 hO7 hbA7
  have hbH7 := (hbH6.alloc (.cells z.toArray 75)).only hO7 (by have := hbH6.lt; omega)
  have hB7 := (balloc hB6' (Nat.le_refl _) (.cells z.toArray 75)).trans (hO7.below hB6'.size)
  have hneA : bH < bA := by rw [hbAe]; exact hbH6.lt
  have hgA : w.heap.size ≤ bA := by omega
  rw [← hbAe] at hbA7
  clear hO7 hbH6 hB6'
  conv => whnf
  refine vloop (X := Nat × List Value × List Value) ws15_2 (fun x => [(11, ptr bA), (12, .int .i64 (9999 - (x.1 : Int)))]) (fun x w' => x.1 ≤ 10000 ∧ Below w.heap.size w w' ∧ Blk w' bA x.2.1 75 ∧ Blk w' bH x.2.2 74 ∧
      Pnt x.2.1 (down 10000 W (H0, F) x.1).2 ∧ Has x.2.2 i (down 10000 W (H0, F) x.1).1) (fun x => 10000 - x.1) (0, l1, h) (by kernel_rfl)
    ?_ ⟨Nat.zero_le _, hB7, hbA7, hbH7, by rw [down_zero]; exact hp1, by rw [down_zero]; exact hh5⟩ ?_
  · exact ⟨by rw [hbAe]; rfl, rfl, trivial⟩
  clear hbA7 hbH7 hB7 hp1 hh5 hi
  rintro ⟨k, l, h⟩ w8 j8 ⟨hk, hB8, hbA8, hbH8, hp8, hh8⟩
  simp only at hk hbA8 hbH8 hp8 hh8 ⊢
  have hdk := hdi k hk
  have hds : down 10000 W (H0, F) (k + 1) = dstep W (down 10000 W (H0, F) k) (10000 - 1 - k) := down_succ _ _ _ _
  obtain ⟨s, hs⟩ : ∃ s, s = down 10000 W (H0, F) k := ⟨_, rfl⟩
  rw [← hs] at hp8 hh8 hdk hds
  conv => whnf
  refine vif_split (fun hlt => ?_) (fun hge => ?_)
  · have hlt : 9999 - (k : Int) ≥ 0 := of_decide_eq_true hlt
    obtain ⟨b, hb⟩ : ∃ b : Nat, b = 10000 - 1 - k := ⟨_, rfl⟩
    have hbk : 9999 - (k : Int) = (b : Int) := by omega
    have hb10 : b < 10000 := by omega
    have hsb : s.2 b = F b := hdk.old b (by omega)
    obtain ⟨m, hm⟩ : ∃ m : Nat, F b = ((m + 1 : Nat) : Int) := ⟨(F b - 1).toNat, by have := hFx b hb10; omega⟩
    have hmn : m < i := by have := hFx b hb10; omega
    have hmt : (s.2 b - 1).toNat = m := by rw [hsb, hm]; omega
    have hlb : l[b]? = some (.int .i64 ((m + 1 : Nat) : Int)) := by rw [hp8.2 b hb10, hsb, hm]
    have hhm := hh8.2 m hmn
    obtain ⟨bq, oq, hoe, hbql, hcq⟩ := hr'.at (by rw [hW.1]; omega)
    subst hoe
    have hcq8 := (hcq.below hB8 hbql).drew
    have hWm := hW.2 m hmn
    have hAA := hbA8.at
    have hAH := hbH8.at.drew
    have hle := hdk.le m hmn
    have hcl := cnt_le F ((m : Int) + 1) 10000
    have hge0 : 0 ≤ s.1 m := by rw [hdk.r.1 m hmn]; exact (cnt_le _ _ _).1
    have hm9 : m + 1 < 9 := by omega
    rw [← hb] at hds
    unfold dstep at hds
    rw [hmt] at hds
    rw [hbk]
    conv => whnf
    (repeat (first | (refine VReq.mk (by first | decide | omega) ?_; conv => whnf) | (refine VPend.mk rfl ?_; conv => whnf) | (refine VNext.keep rfl ?_; conv => whnf) | (refine vs_slI1 _ rfl rfl rfl (by assumption) ?_; conv => whnf) | (refine vs_slI _ rfl rfl rfl (by assumption) ?_; conv => whnf) | (refine vs_arr1 _ rfl rfl rfl (by assumption) ?_; conv => whnf) | (refine vs_loadF (by with_reducible assumption) (by assumption) rfl rfl ?_; conv => whnf) | (refine vs_loadF0 (by with_reducible assumption) (by assumption) rfl rfl ?_; conv => whnf) | (refine vs_loadI (by with_reducible assumption) (by assumption) rfl ?_; conv => whnf) | (refine vs_loadB rfl (by with_reducible assumption) (by assumption) ?_; conv => whnf)))
    (refine vdrawAt plan15 (by kernel_rfl) ?_; conv => whnf)
    (repeat (first | (refine VReq.mk (by first | decide | omega) ?_; conv => whnf) | (refine VPend.mk rfl ?_; conv => whnf) | (refine VNext.keep rfl ?_; conv => whnf) | (refine vs_slI1 _ rfl rfl rfl (by assumption) ?_; conv => whnf) | (refine vs_slI _ rfl rfl rfl (by assumption) ?_; conv => whnf) | (refine vs_arr1 _ rfl rfl rfl (by assumption) ?_; conv => whnf) | (refine vs_loadF (by with_reducible assumption) (by assumption) rfl rfl ?_; conv => whnf) | (refine vs_loadF0 (by with_reducible assumption) (by assumption) rfl rfl ?_; conv => whnf) | (refine vs_loadI (by with_reducible assumption) (by assumption) rfl ?_; conv => whnf) | (refine vs_loadB rfl (by with_reducible assumption) (by assumption) ?_; conv => whnf)))
    rw [show IntKind.i64.wrap (((m + 1 : Nat) : Int) - 1) = (m : Int) by rw [i64_of (by omega) (by omega)]; omega]
    (repeat (first | (refine VReq.mk (by first | decide | omega) ?_; conv => whnf) | (refine VPend.mk rfl ?_; conv => whnf) | (refine VNext.keep rfl ?_; conv => whnf) | (refine vs_slI1 _ rfl rfl rfl (by assumption) ?_; conv => whnf) | (refine vs_slI _ rfl rfl rfl (by assumption) ?_; conv => whnf) | (refine vs_arr1 _ rfl rfl rfl (by assumption) ?_; conv => whnf) | (refine vs_loadF (by with_reducible assumption) (by assumption) rfl rfl ?_; conv => whnf) | (refine vs_loadF0 (by with_reducible assumption) (by assumption) rfl rfl ?_; conv => whnf) | (refine vs_loadI (by with_reducible assumption) (by assumption) rfl ?_; conv => whnf) | (refine vs_loadB rfl (by with_reducible assumption) (by assumption) ?_; conv => whnf)))
    refine vif_split (fun hv => ?_) (fun hv => ?_)
    · have hv : s.1 m > W m := of_decide_eq_true hv
      rw [if_pos (by omega)] at hds
      conv => whnf
      refine vs_arr1 (m + 1) rfl rfl rfl hm9 ?_
      conv => whnf
      refine vs_loadI hAH hhm rfl ?_
      conv => whnf
      refine vs_arr1 (m + 1) rfl rfl rfl hm9 ?_
      conv => whnf
      refine vs_storeP (w := w8.drew) hbH8 rfl rfl (by rw [hh8.1]; omega) ?_
      intro w9 hO9 hbH9
      rw [Nat.zero_add, i64_of (by omega) (by omega)] at hbH9
      have hbA9 := hbA8.only (w := w8.drew) hO9 (by omega)
      have hB9 : Below w.heap.size w w9 := (belowDrew hB8).trans (hO9.below (by omega))
      clear hbA8 hbH8 hAA hAH
      conv => whnf
      refine vs_arr1 b rfl rfl rfl hb10 ?_
      conv => whnf
      refine vs_storeP hbA9 rfl rfl (by rw [hp8.1]; omega) ?_
      intro w10 hO10 hbA10
      rw [Nat.zero_add] at hbA10
      conv => whnf
      refine VBack.mk ⟨_, ?_, (k + 1, l.set b (.int .i64 0), h.set (m + 1) (.int .i64 (s.1 m - 1))), rfl, ?_, ?_⟩
      · show 10000 - (k + 1) < 10000 - k; omega
      · exact ⟨rfl, intEq (by rw [i64_of (by omega) (by omega)]; simp only; omega), trivial⟩
      · refine ⟨by show k + 1 ≤ 10000; omega, hB9.trans (hO10.below (by omega)), hbA10, hbH9.only hO10 (by omega), ?_, ?_⟩
        · show Pnt _ (down 10000 W (H0, F) (k + 1)).2
          rw [hds]; exact hp8.set b 0 hb10
        · show Has _ i (down 10000 W (H0, F) (k + 1)).1
          rw [hds]; exact hh8.set m _ hmn hn8
    · have hv : ¬ s.1 m > W m := of_decide_eq_false hv
      rw [if_neg (by omega)] at hds
      conv => whnf
      refine VBack.mk ⟨_, ?_, (k + 1, l, h), rfl, ?_, ?_⟩
      · show 10000 - (k + 1) < 10000 - k; omega
      · exact ⟨rfl, intEq (by rw [i64_of (by omega) (by omega)]; simp only; omega), trivial⟩
      · refine ⟨by show k + 1 ≤ 10000; omega, belowDrew hB8, hbA8, hbH8, ?_, ?_⟩
        · show Pnt _ (down 10000 W (H0, F) (k + 1)).2
          rw [hds]; exact hp8
        · show Has _ i (down 10000 W (H0, F) (k + 1)).1
          rw [hds]; exact hh8
  have hge : ¬ 9999 - (k : Int) ≥ 0 := of_decide_eq_false hge
  obtain rfl : k = 10000 := by omega
  have hde := down_end hdk hpos
  have hfin : rwF 10000 i W F = (up i W s 10000).2 := by rw [hs, hH0]; exact rwF_eq _ _ _ _
  rw [hfin] at hout
  obtain ⟨n, hni⟩ : ∃ n, n = i := ⟨_, rfl⟩
  subst hni
  obtain ⟨H, D⟩ := s
  have hui := up_inv (N := 10000) (n := n) (W := W) (D := D) (H := H) hdk.r hde hsum
  have hB8' := hB8
  clear hds hs hge hk hB8 hdi hsp hch hfin
  conv => whnf
  refine vloop (X := Nat × Nat × List Value × List Value × Option Addr × Nat) ws15_3 (fun x => [(70, .int .i64 x.1), (15, .int .i64 ((x.2.1 + 1 : Nat) : Int)), (14, .slice x.2.2.2.2.1 (rg (up n W (H, D) x.1).2 x.1).length x.2.2.2.2.2)]) (fun x w' => x.1 ≤ 10000 ∧ x.2.1 ≤ n ∧ Below w.heap.size w w' ∧ Blk w' bA x.2.2.1 75 ∧ Blk w' bH x.2.2.2.1 74 ∧
      Pnt x.2.2.1 (up n W (H, D) x.1).2 ∧ Has x.2.2.2.1 n (up n W (H, D) x.1).1 ∧ (∀ u, u < x.2.1 → ¬ (up n W (H, D) x.1).1 u < W u) ∧
      Own w' (bA + 1) 69 3 x.2.2.2.2.1 (rg (up n W (H, D) x.1).2 x.1).length x.2.2.2.2.2 (recs rc (rg (up n W (H, D) x.1).2 x.1))) (fun x => 10000 - x.1) (0, 0, l, h, none, 0) (by kernel_rfl)
    ?_ ⟨Nat.zero_le _, Nat.zero_le _, hB8', hbA8, hbH8, by rw [up_zero]; exact hp8, by rw [up_zero]; exact hh8, fun u h => absurd h (Nat.not_lt_zero _), by unfold rg rgr; exact Own.nil _ _ _ _⟩ ?_
  · exact ⟨rfl, rfl, sliceEq (by unfold rg rgr; rfl), trivial⟩
  clear hbA8 hbH8 hp8 hh8 hB8' hdk hde
  rintro ⟨k, tt, l9, h9, oo, cc⟩ w9 j9 ⟨hk, htn, hB9, hbA9, hbH9, hp9, hh9, ht9, ho9⟩
  simp only at hk htn hbA9 hbH9 hp9 hh9 ht9 ho9 ⊢
  have huk := hui k hk
  have hus : up n W (H, D) (k + 1) = ustep n W (up n W (H, D) k) k := up_succ _ _ _ _
  obtain ⟨s, hs⟩ : ∃ s, s = up n W (H, D) k := ⟨_, rfl⟩
  rw [← hs] at hp9 hh9 huk hus ht9 ho9 ⊢
  conv => whnf
  refine vif_split (fun hlt => ?_) (fun hge => ?_)
  · have hlt : k < 10000 := by have := of_decide_eq_true hlt; omega
    have hlk := hp9.2 k hlt
    have hAA := hbA9.at
    obtain ⟨s', hs'⟩ : ∃ s', s' = ustep n W s k := ⟨_, rfl⟩
    rw [← hs'] at hus
    have hrc : rgr s.2 k = rgr s'.2 k := rgr_congr k fun j hj => by rw [hs', ustep_old (by omega)]
    have hrg : rg s.2 k = rg s'.2 k := by unfold rg; rw [hrc]
    rw [hrg] at ho9 ⊢
    conv => whnf
    (repeat (first | (refine VReq.mk (by first | decide | omega) ?_; conv => whnf) | (refine VPend.mk rfl ?_; conv => whnf) | (refine VNext.keep rfl ?_; conv => whnf) | (refine vs_slI1 _ rfl rfl rfl (by assumption) ?_; conv => whnf) | (refine vs_slI _ rfl rfl rfl (by assumption) ?_; conv => whnf) | (refine vs_arr1 _ rfl rfl rfl (by assumption) ?_; conv => whnf) | (refine vs_loadF (by with_reducible assumption) (by assumption) rfl rfl ?_; conv => whnf) | (refine vs_loadF0 (by with_reducible assumption) (by assumption) rfl rfl ?_; conv => whnf) | (refine vs_loadI (by with_reducible assumption) (by assumption) rfl ?_; conv => whnf) | (refine vs_loadB rfl (by with_reducible assumption) (by assumption) ?_; conv => whnf)))
    refine vif_split (fun hz => ?_) (fun hz => ?_)
    · have hz : s.2 k = 0 := by simpa using hz
      have hll := lo_lt huk.r hsum k hlt hz
      obtain ⟨_, _, hl1, hl2⟩ := lo_spec s.1 W n 0
      have hl1 := hl1 (by omega)
      clear hAA
      have hB9' := hB9
      have hbA9' := hbA9
      have hbH9' := hbH9
      have ho9' := ho9
      clear hB9 hbA9 hbH9 ho9
      conv => whnf
      refine vloop (X := Nat) ws15_4 (fun t => [(15, .int .i64 ((t + 1 : Nat) : Int))]) (fun t w' => t ≤ n ∧ Quiet w9 w' ∧ ∀ u, u < t → ¬ s.1 u < W u) (fun t => n - t) tt (by kernel_rfl)
        ?_ ⟨htn, Quiet.refl _, ht9⟩ ?_
      · exact ⟨rfl, trivial⟩
      clear ht9 htn
      rintro t9 w10 j10 ⟨ht9n, hQ10, ht9⟩
      have htl0 : t9 ≤ lo s.1 W n 0 := by
        rcases Nat.lt_or_ge (lo s.1 W n 0) t9 with h | h
        · exact absurd hl1 (ht9 _ h)
        · exact h
      have htlt9 : t9 < n := by omega
      have hm9 : t9 + 1 < 9 := by omega
      have hhm := hh9.2 t9 htlt9
      have hAH : At w10.drew bH 0 h9 := (hbH9'.quiet hQ10).at.drew
      obtain ⟨bq, oq, hoe, hbql, hcq⟩ := hr'.at (by rw [hW.1]; omega)
      subst hoe
      have hcq10 := (hcq.below (hB9'.trans (hQ10.below _)) hbql).drew
      have hWm := hW.2 t9 htlt9
      conv => whnf
      (refine vdrawAt plan15 (by kernel_rfl) ?_; conv => whnf)
      (repeat (first | (refine VReq.mk (by first | decide | omega) ?_; conv => whnf) | (refine VPend.mk rfl ?_; conv => whnf) | (refine VNext.keep rfl ?_; conv => whnf) | (refine vs_slI1 _ rfl rfl rfl (by assumption) ?_; conv => whnf) | (refine vs_slI _ rfl rfl rfl (by assumption) ?_; conv => whnf) | (refine vs_arr1 _ rfl rfl rfl (by assumption) ?_; conv => whnf) | (refine vs_loadF (by with_reducible assumption) (by assumption) rfl rfl ?_; conv => whnf) | (refine vs_loadF0 (by with_reducible assumption) (by assumption) rfl rfl ?_; conv => whnf) | (refine vs_loadI (by with_reducible assumption) (by assumption) rfl ?_; conv => whnf) | (refine vs_loadB rfl (by with_reducible assumption) (by assumption) ?_; conv => whnf)))
      rw [show IntKind.i64.wrap (((t9 + 1 : Nat) : Int) - 1) = (t9 : Int) by rw [i64_of (by omega) (by omega)]; omega]
      (repeat (first | (refine VReq.mk (by first | decide | omega) ?_; conv => whnf) | (refine VPend.mk rfl ?_; conv => whnf) | (refine VNext.keep rfl ?_; conv => whnf) | (refine vs_slI1 _ rfl rfl rfl (by assumption) ?_; conv => whnf) | (refine vs_slI _ rfl rfl rfl (by assumption) ?_; conv => whnf) | (refine vs_arr1 _ rfl rfl rfl (by assumption) ?_; conv => whnf) | (refine vs_loadF (by with_reducible assumption) (by assumption) rfl rfl ?_; conv => whnf) | (refine vs_loadF0 (by with_reducible assumption) (by assumption) rfl rfl ?_; conv => whnf) | (refine vs_loadI (by with_reducible assumption) (by assumption) rfl ?_; conv => whnf) | (refine vs_loadB rfl (by with_reducible assumption) (by assumption) ?_; conv => whnf)))
      refine vif_split (fun hu => ?_) (fun hu => ?_)
      · have hu : s.1 t9 ≥ W t9 := of_decide_eq_true hu
        conv => whnf
        refine VBack.mk ⟨_, ?_, (t9 + 1), rfl, ?_, ?_⟩
        · show n - (t9 + 1) < n - t9; omega
        · exact ⟨intEq (incr (by omega)), trivial⟩
        · refine ⟨by omega, hQ10.drew, fun u hu2 => ?_⟩
          by_cases e : u = t9
          · subst e; omega
          · exact ht9 u (by omega)
      · have hu : s.1 t9 < W t9 := by have := of_decide_eq_false hu; omega
        have hlom := lo_is htlt9 hu ht9
        have e2 : s' = (fun j => if j = t9 then s.1 t9 + 1 else s.1 j, fun j => if j = k then (t9 : Int) + 1 else s.2 j) := by
          rw [hs']; unfold ustep; rw [hlom, if_pos ⟨hz, htlt9⟩]
        have hWle := isum_mono hpos (t9 + 1) n (by omega) (by omega)
        have hWle0 := isum_mono hpos 0 t9 (by omega) (by omega)
        have hw0 : isum W 0 = 0 := isum_nil W
        have hw1 : isum W (t9 + 1) = isum W t9 + W t9 := isum_succ W t9
        have hsm0 : 0 ≤ s.1 t9 := by rw [huk.r.1 t9 htlt9]; exact (cnt_le _ _ _).1
        have hB10 : Below w.heap.size w w10.drew := hB9'.trans (hQ10.drew.below _)
        have hbA10 : Blk w10.drew bA l9 75 := hbA9'.quiet hQ10.drew
        have hbH10 : Blk w10.drew bH h9 74 := hbH9'.quiet hQ10.drew
        have ho10 : Own w10.drew (bA + 1) 69 3 oo (rg s'.2 k).length cc (recs rc (rg s'.2 k)) := ho9'.below (hQ10.drew.below _)
        clear hbA9' hbH9' ho9' hB9' hQ10
        conv => whnf
        (repeat (first | (refine VReq.mk (by first | decide | omega) ?_; conv => whnf) | (refine VPend.mk rfl ?_; conv => whnf) | (refine VNext.keep rfl ?_; conv => whnf) | (refine vs_slI1 _ rfl rfl rfl (by assumption) ?_; conv => whnf) | (refine vs_slI _ rfl rfl rfl (by assumption) ?_; conv => whnf) | (refine vs_arr1 _ rfl rfl rfl (by assumption) ?_; conv => whnf) | (refine vs_loadF (by with_reducible assumption) (by assumption) rfl rfl ?_; conv => whnf) | (refine vs_loadF0 (by with_reducible assumption) (by assumption) rfl rfl ?_; conv => whnf) | (refine vs_loadI (by with_reducible assumption) (by assumption) rfl ?_; conv => whnf) | (refine vs_loadB rfl (by with_reducible assumption) (by assumption) ?_; conv => whnf)))
        refine vs_storeP hbH10 rfl rfl (by rw [hh9.1]; omega) ?_
        intro w11 hO11 hbH11
        rw [Nat.zero_add, i64_of (by omega) (by omega)] at hbH11
        have hbA11 := hbA10.only hO11 (by omega)
        have hB11 := hB10.trans (hO11.below (by omega))
        have ho11 := ho10.only hO11 fun g hg => by
          rcases Nat.eq_zero_or_pos (rg s'.2 k).length with h | h
          · rcases ho10.2 with ⟨h1, _⟩ | ⟨g', _, _, h1, hb, _⟩
            · injection h1 with h1; rw [hg] at h1; cases h1
            · injection h1 with h1; rw [hg] at h1; injection h1 with h1; injection h1 with h1; omega
          · obtain ⟨g', _, h1, hb, _⟩ := ho10.blk h
            rw [hg] at h1; injection h1 with h1; injection h1 with h1; omega
        clear hbA10 hbH10 ho10 hB10 hAH
        conv => whnf
        (repeat (first | (refine VReq.mk (by first | decide | omega) ?_; conv => whnf) | (refine VPend.mk rfl ?_; conv => whnf) | (refine VNext.keep rfl ?_; conv => whnf) | (refine vs_slI1 _ rfl rfl rfl (by assumption) ?_; conv => whnf) | (refine vs_slI _ rfl rfl rfl (by assumption) ?_; conv => whnf) | (refine vs_arr1 _ rfl rfl rfl (by assumption) ?_; conv => whnf) | (refine vs_loadF (by with_reducible assumption) (by assumption) rfl rfl ?_; conv => whnf) | (refine vs_loadF0 (by with_reducible assumption) (by assumption) rfl rfl ?_; conv => whnf) | (refine vs_loadI (by with_reducible assumption) (by assumption) rfl ?_; conv => whnf) | (refine vs_loadB rfl (by with_reducible assumption) (by assumption) ?_; conv => whnf)))
        refine vs_storeP hbA11 rfl rfl (by rw [hp9.1]; omega) ?_
        intro w12 hO12 hbA12
        rw [Nat.zero_add] at hbA12
        have hbH12 := hbH11.only hO12 (by omega)
        have hB12 := hB11.trans (hO12.below (by omega))
        have ho12 := ho11.only hO12 fun g hg => by
          rcases Nat.eq_zero_or_pos (rg s'.2 k).length with h | h
          · rcases ho11.2 with ⟨h1, _⟩ | ⟨g', _, _, h1, hb, _⟩
            · injection h1 with h1; rw [hg] at h1; cases h1
            · injection h1 with h1; rw [hg] at h1; injection h1 with h1; injection h1 with h1; omega
          · obtain ⟨g', _, h1, hb, _⟩ := ho11.blk h
            rw [hg] at h1; injection h1 with h1; injection h1 with h1; omega
        have hp12 : Pnt (l9.set k (.int .i64 ((t9 + 1 : Nat) : Int))) s'.2 := by
          rw [e2]; exact hp9.set k _ hlt
        have hh12 : Has (h9.set (t9 + 1) (.int .i64 (s.1 t9 + 1))) n s'.1 := by rw [e2]; exact hh9.set t9 _ htlt9 hn8
        have ht12 : ∀ u, u < t9 → ¬ s'.1 u < W u := fun u hu => by rw [hs']; exact ustep_ge (ht9 u hu)
        clear hbA11 hbH11 ho11 hB11 hp9 hh9 ht9 hlk
        generalize l9.set k (.int .i64 ((t9 + 1 : Nat) : Int)) = l9' at hp12 hbA12
        generalize h9.set (t9 + 1) (.int .i64 (s.1 t9 + 1)) = h9' at hh12 hbH12
        obtain ⟨l9, rfl⟩ : ∃ l, l = l9' := ⟨_, rfl⟩
        obtain ⟨h9, rfl⟩ : ∃ l, l = h9' := ⟨_, rfl⟩
        obtain ⟨w9, rfl⟩ : ∃ v, v = w12 := ⟨_, rfl⟩
        have hB9 := hB12
        have hbA9 := hbA12
        have hbH9 := hbH12
        have ho9 := ho12
        have hp9 := hp12
        have hh9 := hh12
        have ht9 := ht12
        clear hB12 hbA12 hbH12 ho12 hp12 hh12 ht12
        obtain ⟨x, hx⟩ : ∃ x, x = s'.2 k := ⟨_, rfl⟩
        have h1x : l9[k]? = some (.int .i64 x) := by rw [hx]; exact hp9.2 k hlt
        have hlen := rg_len s'.2 k
        have hB10 := belowDrew hB9
        have hbA10 : Blk w9.drew bA l9 75 := hbA9
        have hbH10 : Blk w9.drew bH h9 74 := hbH9
        have hA9 := hbA9.at
        have hA10 : At w9.drew bA 0 l9 := hA9.drew
        conv => whnf
        cases hg : rgr s'.2 k with
        | nil =>
          obtain ⟨e1, e2⟩ := rg_nil hg
          rw [← hx] at e2
          have ho' : Own w9.drew (bA + 1) 69 3 oo 0 cc (recs rc []) := by have := ho9; rw [e1] at this; exact this
          rw [e1]
          (refine vdrawAt plan15 (by kernel_rfl) ?_; conv => whnf)
          (repeat (first | (refine VReq.mk (by first | decide | omega) ?_; conv => whnf) | (refine VPend.mk rfl ?_; conv => whnf) | (refine VNext.keep rfl ?_; conv => whnf) | (refine vs_slI1 _ rfl rfl rfl (by assumption) ?_; conv => whnf) | (refine vs_slI _ rfl rfl rfl (by assumption) ?_; conv => whnf) | (refine vs_arr1 _ rfl rfl rfl (by assumption) ?_; conv => whnf) | (refine vs_loadF (by with_reducible assumption) (by assumption) rfl rfl ?_; conv => whnf) | (refine vs_loadF0 (by with_reducible assumption) (by assumption) rfl rfl ?_; conv => whnf) | (refine vs_loadI (by with_reducible assumption) (by assumption) rfl ?_; conv => whnf) | (refine vs_loadB rfl (by with_reducible assumption) (by assumption) ?_; conv => whnf)))
          rw [i64_of (x := (k : Int) + 1) (by omega) (by omega)]
          refine vs_app1 (n := 0) ⟨k, (k : Int) + 1, x⟩ ho' (by omega) hbA10.lt ?_
          intro o3 c3 w10 ho10 hB11 _
          conv => whnf
          refine VBack.mk ⟨_, ?_, (k + 1, t9, l9, h9, o3, c3), rfl, ?_, ?_⟩
          · show 10000 - (k + 1) < 10000 - k; omega
          · exact ⟨intEq (incr (by omega)), rfl, sliceEq (by show 0 + 1 = (rg (up n W (H, D) (k + 1)).2 (k + 1)).length; rw [hus, e2, e1]; rfl), trivial⟩
          · refine ⟨hlt, ?_, hB10.trans (hB11.mono (by omega)), hbA10.below hB11 (Nat.lt_succ_self _), hbH10.below hB11 (by omega), ?_, ?_, ?_, ?_⟩
            · exact ht9n
            · show Pnt l9 (up n W (H, D) (k + 1)).2; rw [hus]; exact hp9
            · show Has h9 n (up n W (H, D) (k + 1)).1; rw [hus]; exact hh9
            · show ∀ u, u < t9 → ¬ (up n W (H, D) (k + 1)).1 u < W u; rw [hus]; exact ht9
            · show Own w10 (bA + 1) _ 3 o3 (rg (up n W (H, D) (k + 1)).2 (k + 1)).length c3 (recs rc (rg (up n W (H, D) (k + 1)).2 (k + 1)))
              rw [hus, e2, e1, List.nil_append, recs_one]; exact ho10
        | cons r t =>
          have e0 : rg s'.2 k = t.reverse ++ [r] := by unfold rg; rw [hg]; simp
          have hln : (rg s'.2 k).length = t.reverse.length + 1 := by rw [e0]; simp
          obtain ⟨tl, htl⟩ : ∃ n : Nat, n = t.reverse.length := ⟨_, rfl⟩
          rw [← htl] at hln
          have hpos' : 0 < (rg s'.2 k).length := by omega
          obtain ⟨g, cur, rfl, hBg, hcur, _⟩ := ho9.blk hpos'
          clear hcur
          have ho' : Own w9.drew (bA + 1) 69 3 (some ⟨g, 0, none⟩) (tl + 1) cc (recs rc (t.reverse ++ [r])) := by have := ho9; rw [hln, e0] at this; exact this
          have hA := ho'.at
          have hsg := seg_last t.reverse r
          rw [← htl] at hsg
          have htlt : tl < tl + 1 := Nat.lt_succ_self _
          rw [hln]
          (refine vdrawAt plan15 (by kernel_rfl) ?_; conv => whnf)
          refine vif_true (by simp only [decide_eq_true_eq]; omega) ?_
          conv => whnf
          refine vs_slI tl (by rw [i64_of (by omega) (by omega)]; omega) rfl rfl htlt ?_
          conv => whnf
          (repeat (first | (refine VReq.mk (by first | decide | omega) ?_; conv => whnf) | (refine VPend.mk rfl ?_; conv => whnf) | (refine VNext.keep rfl ?_; conv => whnf) | (refine vs_slI1 _ rfl rfl rfl (by assumption) ?_; conv => whnf) | (refine vs_slI _ rfl rfl rfl (by assumption) ?_; conv => whnf) | (refine vs_arr1 _ rfl rfl rfl (by assumption) ?_; conv => whnf) | (refine vs_loadF (by with_reducible assumption) (by assumption) rfl rfl ?_; conv => whnf) | (refine vs_loadF0 (by with_reducible assumption) (by assumption) rfl rfl ?_; conv => whnf) | (refine vs_loadI (by with_reducible assumption) (by assumption) rfl ?_; conv => whnf) | (refine vs_loadB rfl (by with_reducible assumption) (by assumption) ?_; conv => whnf)))
          refine vif_split (fun hv => ?_) (fun hv => ?_)
          · have hv : r.v = s'.2 k := by rw [← hx]; simpa using hv
            obtain ⟨_, e2⟩ := rg_same hg hv
            conv => whnf
            (repeat (first | (refine VReq.mk (by first | decide | omega) ?_; conv => whnf) | (refine VPend.mk rfl ?_; conv => whnf) | (refine VNext.keep rfl ?_; conv => whnf) | (refine vs_slI1 _ rfl rfl rfl (by assumption) ?_; conv => whnf) | (refine vs_slI _ rfl rfl rfl (by assumption) ?_; conv => whnf) | (refine vs_arr1 _ rfl rfl rfl (by assumption) ?_; conv => whnf) | (refine vs_loadF (by with_reducible assumption) (by assumption) rfl rfl ?_; conv => whnf) | (refine vs_loadF0 (by with_reducible assumption) (by assumption) rfl rfl ?_; conv => whnf) | (refine vs_loadI (by with_reducible assumption) (by assumption) rfl ?_; conv => whnf) | (refine vs_loadB rfl (by with_reducible assumption) (by assumption) ?_; conv => whnf)))
            rw [i64_of (x := (k : Int) + 1) (by omega) (by omega)]
            refine vs_slI tl (by rw [i64_of (by omega) (by omega)]; omega) rfl rfl htlt ?_
            conv => whnf
            refine vs_storeOwn (o := 0 + tl * 3 + 1) ho' rfl rfl (by rw [recs_len rc_len, List.length_append, ← htl]; simp only [List.length_cons, List.length_nil]; omega) ?_
            intro w10 hO10 ho10
            conv => whnf
            refine VBack.mk ⟨_, ?_, (k + 1, t9, l9, h9, some ⟨g, 0, none⟩, cc), rfl, ?_, ?_⟩
            · show 10000 - (k + 1) < 10000 - k; omega
            · exact ⟨intEq (incr (by omega)), rfl, sliceEq (by show tl + 1 = (rg (up n W (H, D) (k + 1)).2 (k + 1)).length; rw [hus, e2, List.length_append, ← htl]; rfl), trivial⟩
            · refine ⟨hlt, ?_, hB10.trans (hO10.below (by show w.heap.size ≤ g; omega)), hbA10.only hO10 (by show bA ≠ g; omega), hbH10.only hO10 (by show bH ≠ g; omega), ?_, ?_, ?_, ?_⟩
              · exact ht9n
              · show Pnt l9 (up n W (H, D) (k + 1)).2; rw [hus]; exact hp9
              · show Has h9 n (up n W (H, D) (k + 1)).1; rw [hus]; exact hh9
              · show ∀ u, u < t9 → ¬ (up n W (H, D) (k + 1)).1 u < W u; rw [hus]; exact ht9
              · show Own w10 (bA + 1) _ 3 (some ⟨g, 0, none⟩) (rg (up n W (H, D) (k + 1)).2 (k + 1)).length cc (recs rc (rg (up n W (H, D) (k + 1)).2 (k + 1)))
                have e3 := recs_setT t.reverse r ((k : Int) + 1)
                rw [hus, e2, ← e3, List.length_append]
                rw [← htl]
                rw [show 0 + tl * 3 + 1 = tl * 3 + 1 by omega] at ho10
                exact ho10
          · have hv : ¬ r.v = s'.2 k := by rw [← hx]; intro e; simp [e] at hv
            obtain ⟨_, e2⟩ := rg_new hg hv
            rw [← hx] at e2
            conv => whnf
            (repeat (first | (refine VReq.mk (by first | decide | omega) ?_; conv => whnf) | (refine VPend.mk rfl ?_; conv => whnf) | (refine VNext.keep rfl ?_; conv => whnf) | (refine vs_slI1 _ rfl rfl rfl (by assumption) ?_; conv => whnf) | (refine vs_slI _ rfl rfl rfl (by assumption) ?_; conv => whnf) | (refine vs_arr1 _ rfl rfl rfl (by assumption) ?_; conv => whnf) | (refine vs_loadF (by with_reducible assumption) (by assumption) rfl rfl ?_; conv => whnf) | (refine vs_loadF0 (by with_reducible assumption) (by assumption) rfl rfl ?_; conv => whnf) | (refine vs_loadI (by with_reducible assumption) (by assumption) rfl ?_; conv => whnf) | (refine vs_loadB rfl (by with_reducible assumption) (by assumption) ?_; conv => whnf)))
            rw [i64_of (x := (k : Int) + 1) (by omega) (by omega)]
            refine vs_app1 (n := tl + 1) ⟨k, (k : Int) + 1, x⟩ ho' (by omega) hbA10.lt ?_
            intro o3 c3 w10 ho10 hB11 _
            conv => whnf
            refine VBack.mk ⟨_, ?_, (k + 1, t9, l9, h9, o3, c3), rfl, ?_, ?_⟩
            · show 10000 - (k + 1) < 10000 - k; omega
            · exact ⟨intEq (incr (by omega)), rfl, sliceEq (by show tl + 1 + 1 = (rg (up n W (H, D) (k + 1)).2 (k + 1)).length; rw [hus, e2, List.length_append, hln]; rfl), trivial⟩
            · refine ⟨hlt, ?_, hB10.trans (hB11.mono (by omega)), hbA10.below hB11 (Nat.lt_succ_self _), hbH10.below hB11 (by omega), ?_, ?_, ?_, ?_⟩
              · exact ht9n
              · show Pnt l9 (up n W (H, D) (k + 1)).2; rw [hus]; exact hp9
              · show Has h9 n (up n W (H, D) (k + 1)).1; rw [hus]; exact hh9
              · show ∀ u, u < t9 → ¬ (up n W (H, D) (k + 1)).1 u < W u; rw [hus]; exact ht9
              · show Own w10 (bA + 1) _ 3 o3 (rg (up n W (H, D) (k + 1)).2 (k + 1)).length c3 (recs rc (rg (up n W (H, D) (k + 1)).2 (k + 1)))
                rw [hus, e2, List.length_append, recs_append, recs_one, hln, e0]; exact ho10
    · have hz : ¬ s.2 k = 0 := by intro e; simp [e] at hz
      have e2 : s' = s := by rw [hs']; unfold ustep; rw [if_neg fun h => hz h.1]
      rw [← e2] at hp9 hh9 ht9
      obtain ⟨t9, rfl⟩ : ∃ t, t = tt := ⟨_, rfl⟩
      have ht9n := htn
      clear hAA hlk
      obtain ⟨x, hx⟩ : ∃ x, x = s'.2 k := ⟨_, rfl⟩
      have h1x : l9[k]? = some (.int .i64 x) := by rw [hx]; exact hp9.2 k hlt
      have hlen := rg_len s'.2 k
      have hB10 := belowDrew hB9
      have hbA10 : Blk w9.drew bA l9 75 := hbA9
      have hbH10 : Blk w9.drew bH h9 74 := hbH9
      have hA9 := hbA9.at
      have hA10 : At w9.drew bA 0 l9 := hA9.drew
      conv => whnf
      cases hg : rgr s'.2 k with
      | nil =>
        obtain ⟨e1, e2⟩ := rg_nil hg
        rw [← hx] at e2
        have ho' : Own w9.drew (bA + 1) 69 3 oo 0 cc (recs rc []) := by have := ho9; rw [e1] at this; exact this
        rw [e1]
        (refine vdrawAt plan15 (by kernel_rfl) ?_; conv => whnf)
        (repeat (first | (refine VReq.mk (by first | decide | omega) ?_; conv => whnf) | (refine VPend.mk rfl ?_; conv => whnf) | (refine VNext.keep rfl ?_; conv => whnf) | (refine vs_slI1 _ rfl rfl rfl (by assumption) ?_; conv => whnf) | (refine vs_slI _ rfl rfl rfl (by assumption) ?_; conv => whnf) | (refine vs_arr1 _ rfl rfl rfl (by assumption) ?_; conv => whnf) | (refine vs_loadF (by with_reducible assumption) (by assumption) rfl rfl ?_; conv => whnf) | (refine vs_loadF0 (by with_reducible assumption) (by assumption) rfl rfl ?_; conv => whnf) | (refine vs_loadI (by with_reducible assumption) (by assumption) rfl ?_; conv => whnf) | (refine vs_loadB rfl (by with_reducible assumption) (by assumption) ?_; conv => whnf)))
        rw [i64_of (x := (k : Int) + 1) (by omega) (by omega)]
        refine vs_app1 (n := 0) ⟨k, (k : Int) + 1, x⟩ ho' (by omega) hbA10.lt ?_
        intro o3 c3 w10 ho10 hB11 _
        conv => whnf
        refine VBack.mk ⟨_, ?_, (k + 1, t9, l9, h9, o3, c3), rfl, ?_, ?_⟩
        · show 10000 - (k + 1) < 10000 - k; omega
        · exact ⟨intEq (incr (by omega)), rfl, sliceEq (by show 0 + 1 = (rg (up n W (H, D) (k + 1)).2 (k + 1)).length; rw [hus, e2, e1]; rfl), trivial⟩
        · refine ⟨hlt, ?_, hB10.trans (hB11.mono (by omega)), hbA10.below hB11 (Nat.lt_succ_self _), hbH10.below hB11 (by omega), ?_, ?_, ?_, ?_⟩
          · exact ht9n
          · show Pnt l9 (up n W (H, D) (k + 1)).2; rw [hus]; exact hp9
          · show Has h9 n (up n W (H, D) (k + 1)).1; rw [hus]; exact hh9
          · show ∀ u, u < t9 → ¬ (up n W (H, D) (k + 1)).1 u < W u; rw [hus]; exact ht9
          · show Own w10 (bA + 1) _ 3 o3 (rg (up n W (H, D) (k + 1)).2 (k + 1)).length c3 (recs rc (rg (up n W (H, D) (k + 1)).2 (k + 1)))
            rw [hus, e2, e1, List.nil_append, recs_one]; exact ho10
      | cons r t =>
        have e0 : rg s'.2 k = t.reverse ++ [r] := by unfold rg; rw [hg]; simp
        have hln : (rg s'.2 k).length = t.reverse.length + 1 := by rw [e0]; simp
        obtain ⟨tl, htl⟩ : ∃ n : Nat, n = t.reverse.length := ⟨_, rfl⟩
        rw [← htl] at hln
        have hpos' : 0 < (rg s'.2 k).length := by omega
        obtain ⟨g, cur, rfl, hBg, hcur, _⟩ := ho9.blk hpos'
        clear hcur
        have ho' : Own w9.drew (bA + 1) 69 3 (some ⟨g, 0, none⟩) (tl + 1) cc (recs rc (t.reverse ++ [r])) := by have := ho9; rw [hln, e0] at this; exact this
        have hA := ho'.at
        have hsg := seg_last t.reverse r
        rw [← htl] at hsg
        have htlt : tl < tl + 1 := Nat.lt_succ_self _
        rw [hln]
        (refine vdrawAt plan15 (by kernel_rfl) ?_; conv => whnf)
        refine vif_true (by simp only [decide_eq_true_eq]; omega) ?_
        conv => whnf
        refine vs_slI tl (by rw [i64_of (by omega) (by omega)]; omega) rfl rfl htlt ?_
        conv => whnf
        (repeat (first | (refine VReq.mk (by first | decide | omega) ?_; conv => whnf) | (refine VPend.mk rfl ?_; conv => whnf) | (refine VNext.keep rfl ?_; conv => whnf) | (refine vs_slI1 _ rfl rfl rfl (by assumption) ?_; conv => whnf) | (refine vs_slI _ rfl rfl rfl (by assumption) ?_; conv => whnf) | (refine vs_arr1 _ rfl rfl rfl (by assumption) ?_; conv => whnf) | (refine vs_loadF (by with_reducible assumption) (by assumption) rfl rfl ?_; conv => whnf) | (refine vs_loadF0 (by with_reducible assumption) (by assumption) rfl rfl ?_; conv => whnf) | (refine vs_loadI (by with_reducible assumption) (by assumption) rfl ?_; conv => whnf) | (refine vs_loadB rfl (by with_reducible assumption) (by assumption) ?_; conv => whnf)))
        refine vif_split (fun hv => ?_) (fun hv => ?_)
        · have hv : r.v = s'.2 k := by rw [← hx]; simpa using hv
          obtain ⟨_, e2⟩ := rg_same hg hv
          conv => whnf
          (repeat (first | (refine VReq.mk (by first | decide | omega) ?_; conv => whnf) | (refine VPend.mk rfl ?_; conv => whnf) | (refine VNext.keep rfl ?_; conv => whnf) | (refine vs_slI1 _ rfl rfl rfl (by assumption) ?_; conv => whnf) | (refine vs_slI _ rfl rfl rfl (by assumption) ?_; conv => whnf) | (refine vs_arr1 _ rfl rfl rfl (by assumption) ?_; conv => whnf) | (refine vs_loadF (by with_reducible assumption) (by assumption) rfl rfl ?_; conv => whnf) | (refine vs_loadF0 (by with_reducible assumption) (by assumption) rfl rfl ?_; conv => whnf) | (refine vs_loadI (by with_reducible assumption) (by assumption) rfl ?_; conv => whnf) | (refine vs_loadB rfl (by with_reducible assumption) (by assumption) ?_; conv => whnf)))
          rw [i64_of (x := (k : Int) + 1) (by omega) (by omega)]
          refine vs_slI tl (by rw [i64_of (by omega) (by omega)]; omega) rfl rfl htlt ?_
          conv => whnf
          refine vs_storeOwn (o := 0 + tl * 3 + 1) ho' rfl rfl (by rw [recs_len rc_len, List.length_append, ← htl]; simp only [List.length_cons, List.length_nil]; omega) ?_
          intro w10 hO10 ho10
          conv => whnf
          refine VBack.mk ⟨_, ?_, (k + 1, t9, l9, h9, some ⟨g, 0, none⟩, cc), rfl, ?_, ?_⟩
          · show 10000 - (k + 1) < 10000 - k; omega
          · exact ⟨intEq (incr (by omega)), rfl, sliceEq (by show tl + 1 = (rg (up n W (H, D) (k + 1)).2 (k + 1)).length; rw [hus, e2, List.length_append, ← htl]; rfl), trivial⟩
          · refine ⟨hlt, ?_, hB10.trans (hO10.below (by show w.heap.size ≤ g; omega)), hbA10.only hO10 (by show bA ≠ g; omega), hbH10.only hO10 (by show bH ≠ g; omega), ?_, ?_, ?_, ?_⟩
            · exact ht9n
            · show Pnt l9 (up n W (H, D) (k + 1)).2; rw [hus]; exact hp9
            · show Has h9 n (up n W (H, D) (k + 1)).1; rw [hus]; exact hh9
            · show ∀ u, u < t9 → ¬ (up n W (H, D) (k + 1)).1 u < W u; rw [hus]; exact ht9
            · show Own w10 (bA + 1) _ 3 (some ⟨g, 0, none⟩) (rg (up n W (H, D) (k + 1)).2 (k + 1)).length cc (recs rc (rg (up n W (H, D) (k + 1)).2 (k + 1)))
              have e3 := recs_setT t.reverse r ((k : Int) + 1)
              rw [hus, e2, ← e3, List.length_append]
              rw [← htl]
              rw [show 0 + tl * 3 + 1 = tl * 3 + 1 by omega] at ho10
              exact ho10
        · have hv : ¬ r.v = s'.2 k := by rw [← hx]; intro e; simp [e] at hv
          obtain ⟨_, e2⟩ := rg_new hg hv
          rw [← hx] at e2
          conv => whnf
          (repeat (first | (refine VReq.mk (by first | decide | omega) ?_; conv => whnf) | (refine VPend.mk rfl ?_; conv => whnf) | (refine VNext.keep rfl ?_; conv => whnf) | (refine vs_slI1 _ rfl rfl rfl (by assumption) ?_; conv => whnf) | (refine vs_slI _ rfl rfl rfl (by assumption) ?_; conv => whnf) | (refine vs_arr1 _ rfl rfl rfl (by assumption) ?_; conv => whnf) | (refine vs_loadF (by with_reducible assumption) (by assumption) rfl rfl ?_; conv => whnf) | (refine vs_loadF0 (by with_reducible assumption) (by assumption) rfl rfl ?_; conv => whnf) | (refine vs_loadI (by with_reducible assumption) (by assumption) rfl ?_; conv => whnf) | (refine vs_loadB rfl (by with_reducible assumption) (by assumption) ?_; conv => whnf)))
          rw [i64_of (x := (k : Int) + 1) (by omega) (by omega)]
          refine vs_app1 (n := tl + 1) ⟨k, (k : Int) + 1, x⟩ ho' (by omega) hbA10.lt ?_
          intro o3 c3 w10 ho10 hB11 _
          conv => whnf
          refine VBack.mk ⟨_, ?_, (k + 1, t9, l9, h9, o3, c3), rfl, ?_, ?_⟩
          · show 10000 - (k + 1) < 10000 - k; omega
          · exact ⟨intEq (incr (by omega)), rfl, sliceEq (by show tl + 1 + 1 = (rg (up n W (H, D) (k + 1)).2 (k + 1)).length; rw [hus, e2, List.length_append, hln]; rfl), trivial⟩
          · refine ⟨hlt, ?_, hB10.trans (hB11.mono (by omega)), hbA10.below hB11 (Nat.lt_succ_self _), hbH10.below hB11 (by omega), ?_, ?_, ?_, ?_⟩
            · exact ht9n
            · show Pnt l9 (up n W (H, D) (k + 1)).2; rw [hus]; exact hp9
            · show Has h9 n (up n W (H, D) (k + 1)).1; rw [hus]; exact hh9
            · show ∀ u, u < t9 → ¬ (up n W (H, D) (k + 1)).1 u < W u; rw [hus]; exact ht9
            · show Own w10 (bA + 1) _ 3 o3 (rg (up n W (H, D) (k + 1)).2 (k + 1)).length c3 (recs rc (rg (up n W (H, D) (k + 1)).2 (k + 1)))
              rw [hus, e2, List.length_append, recs_append, recs_one, hln, e0]; exact ho10
  · have hge : ¬ k < 10000 := by have := of_decide_eq_false hge; omega
    have hk10 : k = 10000 := by omega
    rw [hk10] at hs
    rw [← hs] at hout
    rw [hk10] at ho9 ⊢
    rw [← hout] at ho9 ⊢
    conv => whnf
    refine vif_split (fun h16 => ?_) (fun h16 => ?_)
    · have h16 : (rwOut n W ls).length > 16 := by have := of_decide_eq_true h16; omega
      rw [(k3 h1 h2 h16).1, (k3 h1 h2 h16).2]
      conv => whnf
      exact VEnd.mk ⟨none, 0, rfl, Row.nil _ _, hB9⟩
    · have h16 : ¬ (rwOut n W ls).length > 16 := by have := of_decide_eq_false h16; omega
      rw [(k4 h1 h2 h16).1, (k4 h1 h2 h16).2]
      conv => whnf
      exact VEnd.mk ⟨oo, cc, rfl, ho9.row, hB9⟩
end Go.Proofs.YthnncehddnfjmaaDoor.Bk
