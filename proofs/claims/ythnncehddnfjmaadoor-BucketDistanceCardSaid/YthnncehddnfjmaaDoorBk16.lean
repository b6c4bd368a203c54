/- The walk of the law BucketReweighs. Conditions: the variable halves holds what it was laid with, and the arguments read as ranges, numbers and bytes. -/
import Derived.Test.YthnncehddnfjmaaDoorBk15
namespace Go.Proofs.YthnncehddnfjmaaDoor.Bk
open Go Go.RowKit Go.Proofs.YthnncehddnfjmaaDoor.Vc Go.Proofs.YthnncehddnfjmaaDoor.Dg Go.Proofs.YthnncehddnfjmaaDoor.Dw
attribute [local irreducible] loadVar storeVar Instr.indexAt Instr.index Instr.sliceAt Instr.makeSlice Instr.lookup Instr.mapUpdate Instr.range Instr.next Instr.entry Instr.makeMap Builtin.append_ Builtin.copy_ Builtin.len_ Builtin.min_ Builtin.max_ Builtin.cap_ Builtin.delete_ Builtin.clear_ convert binOp eqGuard Op.unary Calls
theorem rwL_len (n : Nat) (W : Nat → Int) (ls : List Rng) : (rwL n W ls).length ≤ 16 := by
  unfold rwL
  split
  · rename_i h
    unfold rwE at h
    split at h
    · omega
    · split at h
      · omega
      · split at h
        · cases h
        · omega
  · simp
/-- ranges never stand in the choices' block -/
theorem Row.cod {w w' : World} {b : Nat} {oa : Option Addr} {xs : List Rng} (hr : Row w oa (recs rc xs)) (hC : Cod w b) (hg : w.grownBy w' (some b)) : Row w' oa (recs rc xs) := by
  rcases hr with h | ⟨b', o, he, hlt, hc⟩
  · exact .inl h
  · cases xs with
    | nil => exact .inl rfl
    | cons x r =>
      have h2 := hc 2 (.int .i64 x.v) rfl
      have hne : b' ≠ b := by
        intro e
        subst e
        obtain ⟨_, _, _, _, hb, _⟩ := hC
        rw [hb.cell] at h2
        simp at h2
      refine .inr ⟨b', o, he, Nat.lt_of_lt_of_le hlt hg.size, fun j v hj => ?_⟩
      have := hc j v hj
      unfold World.cell? at this ⊢
      simp only at this ⊢
      rw [hg.block b' hlt (fun e => hne (by injection e))]; exact this
attribute [local irreducible] rwE rwL ofI cnt dif isum chk fw rwOut

set_option maxHeartbeats 1000000 in
set_option maxRecDepth 100000 in
theorem lawReweighs_ok (oa od ob : Option Addr) (c n c2 c' : Nat) (ls : List Rng) (vs : List Value) (W : Nat → Int) (l : List UInt8) (w : World) (h : Hal w) (hr : Row w oa (recs rc ls)) (hrd : Row w od vs) (hW : Ints vs n W) (hrb : Row w ob (bvals l)) (hlc : l.length ≤ c') :
    Ret Tryd.prog 3 #[.slice oa ls.length c, .slice od n c2, .slice ob l.length c'] w fun v w' => v = .bool true ∧ Below w.heap.size w w' := by
  refine ret_of_vc Tryd.func3 rfl mixed (by kernel_rfl) ?_
  conv => whnf
  refine vcall (by kernel_rfl) (awake_ok w h) ?_
  rintro _ w1 ⟨rfl, hB1⟩
  conv => whnf
  refine vif_split (fun h30 => ?_) (fun h30 => ?_)
  · conv => whnf
    exact VEnd.mk ⟨rfl, hB1⟩
  have h30 : ls.length ≤ 30 := by have := of_decide_eq_false h30; omega
  conv => whnf
  refine vif_split (fun h20 => ?_) (fun h20 => ?_)
  · conv => whnf
    exact VEnd.mk ⟨rfl, hB1⟩
  have h20 : n ≤ 20 := by have := of_decide_eq_false h20; omega
  conv => whnf
  refine vcall (by kernel_rfl) (new_ok ob c' l 60 w1 (hrb.below hB1) hlc (by omega)) ?_
  rintro _ w2 ⟨rfl, hC2, hB2⟩
  obtain ⟨bc, hbc⟩ : ∃ b, b = w1.heap.size := ⟨_, rfl⟩
  rw [← hbc] at hC2 hB2 ⊢
  have hbw : w.heap.size ≤ bc := by rw [hbc]; exact hB1.size
  have hB2' : Below w.heap.size w w2 := hB1.trans (hB2.mono hbw)
  clear hB2 hB1
  conv => whnf
  refine vcall (by kernel_rfl) (next_ok bc 8 w2 (by omega) (by omega) hC2) ?_
  rintro _ w3 ⟨k0, rfl, hk0, hO3, hC3⟩
  have hB3 : Below w.heap.size w w3 := hB2'.trans (hO3.below hbw)
  have ek : IntKind.i64.wrap (1 + (k0 : Int)) = ((1 + k0 : Nat) : Int) := by rw [i64_of (by omega) (by omega)]; omega
  obtain ⟨k, hk⟩ : ∃ k, k = 1 + k0 := ⟨_, rfl⟩
  rw [← hk] at ek
  clear hO3 hC2 hB2'
  conv => whnf
  rw [ek]
  refine vcall (by kernel_rfl) (csplit_ok bc k w3 (by omega) (by omega) hC3) ?_
  rintro _ w4 ⟨ox, cx, xs, rfl, hox, hsx, hC4, hg4⟩
  have hB4 : Below w.heap.size w w4 := hB3.trans (grown_below hg4 hB3.size fun k e => by injection e with e; omega)
  have hrx := hox.row
  have hlx := hsx.len
  clear hg4 hox hB3 hC3
  conv => whnf
  refine vcall (by kernel_rfl) (lawW_ok bc k w4 (by omega) (by omega) hC4) ?_
  rintro _ w5 ⟨bw, lw, Ww, rfl, hgw, hbw5, hlw, _, _, hC5, hg5⟩
  have hB5 : Below w.heap.size w w5 := hB4.trans (grown_below hg5 hB4.size fun k e => by injection e with e; omega)
  have hrx5 := Row.cod hrx hC4 hg5
  clear hg5 hrx hC4 hB4
  conv => whnf
  refine vloop (X := Nat × List Rng × Option Addr × Nat × Nat × List Value × (Nat → Int)) ws3_1 (fun x => [(11, .int .i64 x.1), (9, .slice x.2.2.1 x.2.1.length x.2.2.2.1), (10, .slice (some ⟨x.2.2.2.2.1, 0, none⟩) k k)]) (fun x w' => x.1 ≤ 3 ∧ Below w.heap.size w w' ∧ Row w' x.2.2.1 (recs rc x.2.1) ∧ x.2.1.length ≤ 16 ∧ Blk w' x.2.2.2.2.1 x.2.2.2.2.2.1 3 ∧ Ints x.2.2.2.2.2.1 k x.2.2.2.2.2.2 ∧ Cod w' bc) (fun x => 3 - x.1) (0, xs, ox, cx, bw, lw, Ww) (by kernel_rfl)
    ?_ ⟨Nat.zero_le _, hB5, hrx5, by show xs.length ≤ 16; omega, hbw5, hlw, hC5⟩ ?_
  · exact ⟨rfl, rfl, rfl, trivial⟩
  clear hB5 hrx5 hlx hbw5 hlw hC5 hsx
  rintro ⟨i, xs, ox, cx, bw, lw, Ww⟩ w6 j6 ⟨hi, hB6, hrx, hlx, hbk, hlw, hC6⟩
  simp only at hi hrx hlx hbk hlw ⊢
  conv => whnf
  refine vif_split (fun hlt => ?_) (fun hge => ?_)
  · have hlt : i < 3 := by have := of_decide_eq_true hlt; omega
    conv => whnf
    refine vcall (by kernel_rfl) (reweigh1_ok ox (some ⟨bw, 0, none⟩) cx k k xs lw Ww w6 hrx (by omega) hbk.row hlw (by omega)) ?_
    rintro _ w7 ⟨o7, c7, rfl, hr7, hB7⟩
    conv => whnf
    refine vcall (by kernel_rfl) (reweigh2_ok ox (some ⟨bw, 0, none⟩) cx k k xs lw Ww w7 (hrx.below hB7) (by omega) (hbk.row.below hB7) hlw (by omega)) ?_
    rintro _ w8 ⟨o8, c8, rfl, hr8, hB8⟩
    have hB8' : Below w6.heap.size w6 w8 := hB7.trans (hB8.mono hB7.size)
    have hr7' := hr7.below hB8
    have hL16 := rwL_len k Ww xs
    obtain ⟨e, he⟩ : ∃ e, e = rwE k Ww xs := ⟨_, rfl⟩
    obtain ⟨L, hL⟩ : ∃ L, L = rwL k Ww xs := ⟨_, rfl⟩
    rw [← he, ← hL]
    rw [← hL] at hr7' hr8 hL16
    clear hr7 hB7 hB8
    conv => whnf
    refine vif_false (by simp) ?_
    conv => whnf
    refine vcall (by kernel_rfl) (same_ok o7 o8 c7 c8 L L w8 hr7' hr8 (by omega) (by omega)) ?_
    rintro _ w9 ⟨rfl, hQ9⟩
    rw [show decide (L = L) = true by simp]
    have hB9 : Below w6.heap.size w6 w9 := hB8'.trans (hQ9.below _)
    have hr9 : Row w9 o7 (recs rc L) := hr7'.below (hQ9.below _)
    have hC9 := hC6.below hB9 hC6.lt
    have hB9' := hB6.trans (hB9.mono hB6.size)
    have hrx9 := hrx.below hB9
    clear hB8' hQ9 hr7' hr8 hC6 hB6 hB9 hrx hbk hlw
    conv => whnf
    refine vif_split (fun he0 => ?_) (fun he0 => ?_)
    · conv => whnf
      refine vcall (by kernel_rfl) (lawW_ok bc k w9 (by omega) (by omega) hC9) ?_
      rintro _ w10 ⟨bw, lw, Ww, rfl, hgw, hbw10, hlw, _, _, hC10, hg10⟩
      have hB10 := hB9'.trans (grown_below hg10 hB9'.size fun k e => by injection e with e; omega)
      have hr10 := Row.cod hr9 hC9 hg10
      conv => whnf
      refine VBack.mk ⟨_, ?_, (i + 1, L, o7, c7, bw, lw, Ww), rfl, ?_, ?_⟩
      · show 3 - (i + 1) < 3 - i; omega
      · exact ⟨intEq (incr (by omega)), rfl, rfl, trivial⟩
      · exact ⟨hlt, hB10, hr10, hL16, hbw10, hlw, hC10⟩
    · conv => whnf
      refine vcall (by kernel_rfl) (lawW_ok bc k w9 (by omega) (by omega) hC9) ?_
      rintro _ w10 ⟨bw, lw, Ww, rfl, hgw, hbw10, hlw, _, _, hC10, hg10⟩
      have hB10 := hB9'.trans (grown_below hg10 hB9'.size fun k e => by injection e with e; omega)
      have hr10 := Row.cod hrx9 hC9 hg10
      conv => whnf
      refine VBack.mk ⟨_, ?_, (i + 1, xs, ox, cx, bw, lw, Ww), rfl, ?_, ?_⟩
      · show 3 - (i + 1) < 3 - i; omega
      · exact ⟨intEq (incr (by omega)), rfl, rfl, trivial⟩
      · exact ⟨hlt, hB10, hr10, hlx, hbw10, hlw, hC10⟩
  · conv => whnf
    have hr6 := hr.below hB6
    have hrd6 := hrd.below hB6
    obtain ⟨ws, hws⟩ : ∃ u, u = w6.alloc (.cells #[.slice oa ls.length c, .slice ox xs.length cx] 22) := ⟨_, rfl⟩
    have hBs : Below w6.heap.size w6 ws := by rw [hws]; exact balloc (Below.refl _ _) (Nat.le_refl _) _
    have hbs : Blk ws w6.heap.size [.slice oa ls.length c, .slice ox xs.length cx] 22 := by rw [hws]; exact Blk.new _ _ _
    have hBs' : Below w.heap.size w ws := hB6.trans (hBs.mono hB6.size)
    have key : ∀ i, i < 2 → ∃ v y, [Value.slice oa ls.length c, Value.slice ox xs.length cx][i]? = some v ∧ SlR ws v y := fun i hi => by
      match i, hi with
      | 0, _ => exact ⟨_, ls, rfl, _, _, rfl, hr6.below hBs, by omega⟩
      | 1, _ => exact ⟨_, xs, rfl, _, _, rfl, hrx.below hBs, by omega⟩
    have hrds := hrd6.below hBs
    have hbks := hbk.row.below hBs
    obtain ⟨bs, hbse⟩ : ∃ b, b = w6.heap.size := ⟨_, rfl⟩
    obtain ⟨cs, hcs⟩ : ∃ l : List Value, l = [.slice oa ls.length c, .slice ox xs.length cx] := ⟨_, rfl⟩
    rw [← hcs, ← hbse] at hbs
    rw [← hcs] at key
    rw [← hws, ← hbse]
    clear hr6 hrd6 hrx hbk hBs hB6 hws hC6
    refine vloop (X := Nat) ws3_2 (fun i => [(80, .int .i64 i)]) (fun i w' => i ≤ 2 ∧ Below ws.heap.size ws w') (fun i => 2 - i) 0 (by kernel_rfl)
      ?_ ⟨Nat.zero_le _, Below.refl _ _⟩ ?_
    · exact ⟨rfl, trivial⟩
    rintro i w6 j6 ⟨hi, hB6⟩
    have hB6' : Below w.heap.size w w6 := hBs'.trans (hB6.mono hBs'.size)
    conv => whnf
    refine vif_split (fun hlt => ?_) (fun hge => ?_)
    · have hlt : i < 2 := by have := of_decide_eq_true hlt; omega
      obtain ⟨v, ys, hv, oy, cy, rfl, hry, hly⟩ := key i hlt
      have hA6 := (hbs.below hB6 hbs.lt).at
      have hry6 := hry.below hB6
      have hrd6 := hrds.below hB6
      have hbk6 := hbks.below hB6
      conv => whnf
      (repeat (first | (refine VReq.mk (by first | decide | omega) ?_; conv => whnf) | (refine VPend.mk rfl ?_; conv => whnf) | (refine VNext.keep rfl ?_; conv => whnf) | (refine vs_slI1 _ rfl rfl rfl (by assumption) ?_; conv => whnf) | (refine vs_slI _ rfl rfl rfl (by assumption) ?_; conv => whnf) | (refine vs_arr1 _ rfl rfl rfl (by assumption) ?_; conv => whnf) | (refine vs_loadF (by with_reducible assumption) (by assumption) rfl rfl ?_; conv => whnf) | (refine vs_loadF0 (by with_reducible assumption) (by assumption) rfl rfl ?_; conv => whnf) | (refine vs_loadI (by with_reducible assumption) (by assumption) rfl ?_; conv => whnf) | (refine vs_loadB rfl (by with_reducible assumption) (by assumption) ?_; conv => whnf)))
      obtain ⟨wt, hwt⟩ : ∃ u, u = w6.alloc (.cells #[.slice od n c2, .slice (some ⟨bw, 0, none⟩) k k] 23) := ⟨_, rfl⟩
      have hBt : Below w6.heap.size w6 wt := by rw [hwt]; exact balloc (Below.refl _ _) (Nat.le_refl _) _
      have hbt : Blk wt w6.heap.size [.slice od n c2, .slice (some ⟨bw, 0, none⟩) k k] 23 := by rw [hwt]; exact Blk.new _ _ _
      have keyt : ∀ i, i < 2 → ∃ v m Wm, [Value.slice od n c2, Value.slice (some ⟨bw, 0, none⟩) k k][i]? = some v ∧ SlI wt v m Wm := fun i hi => by
        match i, hi with
        | 0, _ => exact ⟨_, n, W, rfl, _, _, _, rfl, hrd6.below hBt, hW, by omega⟩
        | 1, _ => exact ⟨_, k, Ww, rfl, _, _, _, rfl, hbk6.below hBt, hlw, by omega⟩
      have hryt := hry6.below hBt
      have hBt' := hB6.trans (hBt.mono hB6.size)
      obtain ⟨bt, hbte⟩ : ∃ b, b = w6.heap.size := ⟨_, rfl⟩
      obtain ⟨ct, hct⟩ : ∃ l : List Value, l = [.slice od n c2, .slice (some ⟨bw, 0, none⟩) k k] := ⟨_, rfl⟩
      rw [← hct, ← hbte] at hbt
      rw [← hct] at keyt
      rw [← hwt, ← hbte]
      clear hry6 hry hrd6 hbk6 hBt hwt hA6 hB6 hB6' hbte
      refine vloop (X := Nat) ws3_3 (fun i => [(88, .int .i64 i)]) (fun i w' => i ≤ 2 ∧ Below wt.heap.size wt w') (fun i => 2 - i) 0 (by kernel_rfl)
        ?_ ⟨Nat.zero_le _, Below.refl _ _⟩ ?_
      · exact ⟨rfl, trivial⟩
      rintro q w10 j10 ⟨hq, hB10⟩
      conv => whnf
      refine vif_split (fun hlt2 => ?_) (fun hge2 => ?_)
      · have hlt2 : q < 2 := by have := of_decide_eq_true hlt2; omega
        obtain ⟨v, m, Wm, hv2, oz, cz, vz, rfl, hrz, hlz, hm⟩ := keyt q hlt2
        have hA10 := (hbt.below hB10 hbt.lt).at
        have hrz10 := hrz.below hB10
        have hry10 := hryt.below hB10
        conv => whnf
        (repeat (first | (refine VReq.mk (by first | decide | omega) ?_; conv => whnf) | (refine VPend.mk rfl ?_; conv => whnf) | (refine VNext.keep rfl ?_; conv => whnf) | (refine vs_slI1 _ rfl rfl rfl (by assumption) ?_; conv => whnf) | (refine vs_slI _ rfl rfl rfl (by assumption) ?_; conv => whnf) | (refine vs_arr1 _ rfl rfl rfl (by assumption) ?_; conv => whnf) | (refine vs_loadF (by with_reducible assumption) (by assumption) rfl rfl ?_; conv => whnf) | (refine vs_loadF0 (by with_reducible assumption) (by assumption) rfl rfl ?_; conv => whnf) | (refine vs_loadI (by with_reducible assumption) (by assumption) rfl ?_; conv => whnf) | (refine vs_loadB rfl (by with_reducible assumption) (by assumption) ?_; conv => whnf)))
        refine vcall (by kernel_rfl) (reweigh1_ok oy oz cy m cz ys vz Wm w10 hry10 (by omega) hrz10 hlz hm) ?_
        rintro _ w11 ⟨o7, c7, rfl, hr7, hB7⟩
        conv => whnf
        refine vcall (by kernel_rfl) (reweigh2_ok oy oz cy m cz ys vz Wm w11 (hry10.below hB7) (by omega) (hrz10.below hB7) hlz hm) ?_
        rintro _ w12 ⟨o8, c8, rfl, hr8, hB8⟩
        have hB8' : Below w10.heap.size w10 w12 := hB7.trans (hB8.mono hB7.size)
        have hr7' := hr7.below hB8
        have hL16 := rwL_len m Wm ys
        obtain ⟨e, he⟩ : ∃ e, e = rwE m Wm ys := ⟨_, rfl⟩
        obtain ⟨L, hL⟩ : ∃ L, L = rwL m Wm ys := ⟨_, rfl⟩
        rw [← he, ← hL]
        rw [← hL] at hr7' hr8 hL16
        clear hr7 hB7 hB8
        conv => whnf
        refine vif_false (by simp) ?_
        conv => whnf
        refine vcall (by kernel_rfl) (same_ok o7 o8 c7 c8 L L w12 hr7' hr8 (by omega) (by omega)) ?_
        rintro _ w13 ⟨rfl, hQ9⟩
        rw [show decide (L = L) = true by simp]
        have hB13 : Below w10.heap.size w10 w13 := hB8'.trans (hQ9.below _)
        conv => whnf
        refine VBack.mk ⟨_, ?_, (q + 1), rfl, ?_, ?_⟩
        · show 2 - (q + 1) < 2 - q; omega
        · exact ⟨intEq (incr (by omega)), trivial⟩
        · exact ⟨hlt2, hB10.trans (hB13.mono hB10.size)⟩
      · conv => whnf
        refine VBack.mk ⟨_, ?_, (i + 1), rfl, ?_, ?_⟩
        · show 2 - (i + 1) < 2 - i; omega
        · exact ⟨intEq (incr (by omega)), trivial⟩
        · exact ⟨hlt, hBt'.trans (hB10.mono hBt'.size)⟩
    · conv => whnf
      exact VEnd.mk ⟨rfl, hB6'⟩
end Go.Proofs.YthnncehddnfjmaaDoor.Bk
