/- The walk of the law BucketPicks. Conditions: the variable halves holds what it was laid with, and the arguments read as ranges and bytes. -/
import Derived.Test.YthnncehddnfjmaaDoorBk12
namespace Go.Proofs.YthnncehddnfjmaaDoor.Bk
open Go Go.RowKit Go.Proofs.YthnncehddnfjmaaDoor.Vc Go.Proofs.YthnncehddnfjmaaDoor.Dg Go.Proofs.YthnncehddnfjmaaDoor.Dw
attribute [local irreducible] loadVar storeVar Instr.indexAt Instr.index Instr.sliceAt Instr.makeSlice Instr.lookup Instr.mapUpdate Instr.range Instr.next Instr.entry Instr.makeMap Builtin.append_ Builtin.copy_ Builtin.len_ Builtin.min_ Builtin.max_ Builtin.cap_ Builtin.delete_ Builtin.clear_ convert binOp eqGuard Op.unary Calls
attribute [local irreducible] rwE rwL ofI cnt dif isum

/-- a slice of ranges at this place -/
def SlR (w : World) (v : Value) (ls : List Rng) : Prop := ∃ oa c, v = .slice oa ls.length c ∧ Row w oa (recs rc ls) ∧ ls.length ≤ 64
theorem SlR.below {w w' : World} {v : Value} {ls : List Rng} (h : SlR w v ls) (hB : Below w.heap.size w w') : SlR w' v ls := let ⟨oa, c, e, hr, hl⟩ := h; ⟨oa, c, e, hr.below hB, hl⟩

set_option maxHeartbeats 1000000 in
set_option maxRecDepth 100000 in
theorem lawPicks_ok (oa ob : Option Addr) (c c' : Nat) (ls : List Rng) (l : List UInt8) (x n : Int) (w : World) (h : Hal w) (hr : Row w oa (recs rc ls)) (hrb : Row w ob (bvals l)) (hlc : l.length ≤ c') :
    Ret Tryd.prog 4 #[.slice oa ls.length c, .int .i64 x, .int .i64 n, .slice ob l.length c'] w fun v w' => v = .bool true ∧ Below w.heap.size w w' := by
  refine ret_of_vc Tryd.func4 rfl mixed (by kernel_rfl) ?_
  conv => whnf
  refine vcall (by kernel_rfl) (awake_ok w h) ?_
  rintro _ w1 ⟨rfl, hB1⟩
  conv => whnf
  refine vif_split (fun h30 => ?_) (fun h30 => ?_)
  · conv => whnf
    exact VEnd.mk ⟨rfl, hB1⟩
  have h30 : ls.length ≤ 30 := by have := of_decide_eq_false h30; omega
  conv => whnf
  refine vcall (by kernel_rfl) (new_ok ob c' l 40 w1 (hrb.below hB1) hlc (by omega)) ?_
  rintro _ w2 ⟨rfl, hC2, hB2⟩
  obtain ⟨bc, hbc⟩ : ∃ b, b = w1.heap.size := ⟨_, rfl⟩
  rw [← hbc] at hC2 hB2 ⊢
  have hbw : w.heap.size ≤ bc := by rw [hbc]; exact hB1.size
  have hB2' : Below w.heap.size w w2 := hB1.trans (hB2.mono hbw)
  clear hB2 hB1
  conv => whnf
  refine vcall (by kernel_rfl) (next_ok bc 8 w2 (by omega) (by omega) hC2) ?_
  rintro _ w3 ⟨k0, rfl, hk0, hO3, hC3⟩
  have hB3 : Below w.heap.size w w3 := hB2'.trans (hO3.below hbw)
  have ek : IntKind.i64.wrap (1 + (k0 : Int)) = ((1 + k0 : Nat) : Int) := by rw [i64_of (by omega) (by omega)]; omega
  clear hO3 hC2 hB2'
  conv => whnf
  rw [ek]
  refine vcall (by kernel_rfl) (csplit_ok bc (1 + k0) w3 (by omega) (by omega) hC3) ?_
  rintro _ w4 ⟨ox, cx, xs, rfl, hox, hsx, hC4, hg4⟩
  have hB4 : Below w.heap.size w w4 := hB3.trans (grown_below hg4 hB3.size fun k e => by injection e with e; omega)
  have hrx := hox.row
  have hlx := hsx.len
  clear hg4 hox
  conv => whnf
  refine vcall (by kernel_rfl) (mod_ok x 10000 w4 (by omega) (by omega)) ?_
  rintro _ w5 ⟨rfl, rfl⟩
  obtain ⟨m, hm⟩ : ∃ m, m = x % ((10000 : Nat) : Int) := ⟨_, rfl⟩
  rw [← hm]
  conv => whnf
  have hr4 := hr.below hB4
  obtain ⟨ws, hws⟩ : ∃ u, u = w5.alloc (.cells #[.slice oa ls.length c, .slice ox xs.length cx] 22) := ⟨_, rfl⟩
  have hBs : Below w5.heap.size w5 ws := by rw [hws]; exact balloc (Below.refl _ _) (Nat.le_refl _) _
  have hbs : Blk ws w5.heap.size [.slice oa ls.length c, .slice ox xs.length cx] 22 := by rw [hws]; exact Blk.new _ _ _
  have hBs' : Below w.heap.size w ws := hB4.trans (hBs.mono hB4.size)
  have key : ∀ i, i < 2 → ∃ v y, [Value.slice oa ls.length c, Value.slice ox xs.length cx][i]? = some v ∧ SlR ws v y := fun i hi => by
    match i, hi with
    | 0, _ => exact ⟨_, ls, rfl, _, _, rfl, hr4.below hBs, by omega⟩
    | 1, _ => exact ⟨_, xs, rfl, _, _, rfl, hrx.below hBs, by omega⟩
  obtain ⟨bs, hbse⟩ : ∃ b, b = w5.heap.size := ⟨_, rfl⟩
  obtain ⟨cs, hcs⟩ : ∃ l : List Value, l = [.slice oa ls.length c, .slice ox xs.length cx] := ⟨_, rfl⟩
  rw [← hcs, ← hbse] at hbs
  rw [← hcs] at key
  rw [← hws, ← hbse]
  clear hr4 hrx hBs hB4 hB3 hws hsx hC4 hC3
  refine vloop (X := Nat) ws4_1 (fun i => [(39, .int .i64 i)]) (fun i w' => i ≤ 2 ∧ Below ws.heap.size ws w') (fun i => 2 - i) 0 (by kernel_rfl)
    ?_ ⟨Nat.zero_le _, Below.refl _ _⟩ ?_
  · exact ⟨rfl, trivial⟩
  rintro i w6 j6 ⟨hi, hB6⟩
  have hB6' : Below w.heap.size w w6 := hBs'.trans (hB6.mono hBs'.size)
  conv => whnf
  refine vif_split (fun hlt => ?_) (fun hge => ?_)
  · have hlt : i < 2 := by have := of_decide_eq_true hlt; omega
    obtain ⟨v, ys, hv, oy, cy, rfl, hry, hly⟩ := key i hlt
    have hA6 := (hbs.below hB6 hbs.lt).at
    have hry6 := hry.below hB6
    conv => whnf
    (repeat (first | (refine VReq.mk (by first | decide | omega) ?_; conv => whnf) | (refine VPend.mk rfl ?_; conv => whnf) | (refine VNext.keep rfl ?_; conv => whnf) | (refine vs_slI1 _ rfl rfl rfl (by assumption) ?_; conv => whnf) | (refine vs_slI _ rfl rfl rfl (by assumption) ?_; conv => whnf) | (refine vs_arr1 _ rfl rfl rfl (by assumption) ?_; conv => whnf) | (refine vs_loadF (by with_reducible assumption) (by assumption) rfl rfl ?_; conv => whnf) | (refine vs_loadF0 (by with_reducible assumption) (by assumption) rfl rfl ?_; conv => whnf) | (refine vs_loadI (by with_reducible assumption) (by assumption) rfl ?_; conv => whnf) | (refine vs_loadB rfl (by with_reducible assumption) (by assumption) ?_; conv => whnf)))
    refine vcall (by kernel_rfl) (pick1_ok oy cy ys x w6 hry6 (by omega)) ?_
    rintro _ w7 ⟨rfl, hB7⟩
    conv => whnf
    refine vcall (by kernel_rfl) (pick2_ok oy cy ys x w7 (hry6.below hB7) (by omega)) ?_
    rintro _ w8 ⟨rfl, hB8⟩
    have hB8' : Below w6.heap.size w6 w8 := hB7.trans (hB8.mono hB7.size)
    clear hB7 hB8
    conv => whnf
    refine vif_false (by simp) ?_
    conv => whnf
    refine vcall (by kernel_rfl) (pick1_ok oy cy ys m w8 (hry6.below hB8') (by omega)) ?_
    rintro _ w9 ⟨rfl, hB9⟩
    have hB9' : Below w6.heap.size w6 w9 := hB8'.trans (hB9.mono hB8'.size)
    conv => whnf
    refine vcall (by kernel_rfl) (pick2_ok oy cy ys m w9 (hry6.below hB9') (by omega)) ?_
    rintro _ w10 ⟨rfl, hB10⟩
    have hB10' : Below w6.heap.size w6 w10 := hB9'.trans (hB10.mono hB9'.size)
    clear hB9 hB10 hB8' hB9'
    conv => whnf
    refine vif_false (by simp) ?_
    conv => whnf
    obtain ⟨wq, hwq⟩ : ∃ u, u = w10.alloc (.cells #[.int .i64 n, .int .i64 ((1 + k0 : Nat) : Int), .int .i64 3] 3) := ⟨_, rfl⟩
    have hBq : Below w6.heap.size w6 wq := by rw [hwq]; exact balloc hB10' (Nat.le_refl _) _
    have hbq : Blk wq w10.heap.size [.int .i64 n, .int .i64 ((1 + k0 : Nat) : Int), .int .i64 3] 3 := by rw [hwq]; exact Blk.new _ _ _
    have keyq : ∀ q, q < 3 → ∃ z : Int, [Value.int .i64 n, .int .i64 ((1 + k0 : Nat) : Int), .int .i64 3][q]? = some (.int .i64 z) := fun q hq => by
      match q, hq with
      | 0, _ => exact ⟨_, rfl⟩
      | 1, _ => exact ⟨_, rfl⟩
      | 2, _ => exact ⟨_, rfl⟩
    obtain ⟨bq, hbqe⟩ : ∃ b, b = w10.heap.size := ⟨_, rfl⟩
    obtain ⟨cq, hcq⟩ : ∃ l : List Value, l = [.int .i64 n, .int .i64 ((1 + k0 : Nat) : Int), .int .i64 3] := ⟨_, rfl⟩
    rw [← hcq, ← hbqe] at hbq
    rw [← hcq] at keyq
    rw [← hwq, ← hbqe]
    have hryq := hry6.below hBq
    have hBqs : Below ws.heap.size ws wq := hB6.trans (hBq.mono hB6.size)
    clear hwq hB10' hcq hbqe hA6 hry6 hB6 hBq hB6'
    refine vloop (X := Nat) ws4_2 (fun i => [(63, .int .i64 i)]) (fun i w' => i ≤ 3 ∧ Below wq.heap.size wq w') (fun i => 3 - i) 0 (by kernel_rfl)
      ?_ ⟨Nat.zero_le _, Below.refl _ _⟩ ?_
    · exact ⟨rfl, trivial⟩
    rintro q w11 j11 ⟨hq, hB11⟩
    conv => whnf
    refine vif_split (fun hlt2 => ?_) (fun hge2 => ?_)
    · have hlt2 : q < 3 := by have := of_decide_eq_true hlt2; omega
      obtain ⟨z, hz⟩ := keyq q hlt2
      have hA11 := (hbq.below hB11 hbq.lt).at
      have hry11 := hryq.below hB11
      obtain ⟨qq, hqq⟩ : ∃ qq : Nat, min (max z 0) 8 = (qq : Int) := nat_of (by omega)
      conv => whnf
      (repeat (first | (refine VReq.mk (by first | decide | omega) ?_; conv => whnf) | (refine VPend.mk rfl ?_; conv => whnf) | (refine VNext.keep rfl ?_; conv => whnf) | (refine vs_slI1 _ rfl rfl rfl (by assumption) ?_; conv => whnf) | (refine vs_slI _ rfl rfl rfl (by assumption) ?_; conv => whnf) | (refine vs_arr1 _ rfl rfl rfl (by assumption) ?_; conv => whnf) | (refine vs_loadF (by with_reducible assumption) (by assumption) rfl rfl ?_; conv => whnf) | (refine vs_loadF0 (by with_reducible assumption) (by assumption) rfl rfl ?_; conv => whnf) | (refine vs_loadI (by with_reducible assumption) (by assumption) rfl ?_; conv => whnf) | (refine vs_loadB rfl (by with_reducible assumption) (by assumption) ?_; conv => whnf)))
      refine vcall (by kernel_rfl) (weights1_ok oy cy ys z w11 hry11 (by omega) qq hqq) ?_
      rintro _ w12 ⟨b1, l1, rfl, hg1, hb1, hl1, hB12⟩
      conv => whnf
      refine vcall (by kernel_rfl) (weights2_ok oy cy ys z w12 (hry11.below hB12) (by omega) qq hqq) ?_
      rintro _ w13 ⟨b2, l2, rfl, hg2, hb2, hl2, hB13⟩
      have hb1' := (hb1.below hB13 hb1.lt)
      have hB13' : Below wq.heap.size wq w13 := hB11.trans ((hB12.trans (hB13.mono hB12.size)).mono hB11.size)
      obtain ⟨C, hC⟩ : ∃ C : Nat → Int, C = fun j : Nat => cnt (fun k => pt ys k) ((j : Int) + 1) 10000 := ⟨_, rfl⟩
      rw [← hC] at hl1 hl2
      clear hb1 hB12 hB13 hry11 hA11 hB11
      conv => whnf
      refine vif_false (by simp) ?_
      conv => whnf
      refine vloop (X := Nat) ws4_3 (fun i => [(80, .int .i64 i)]) (fun i w' => i ≤ qq ∧ Quiet w13 w') (fun i => qq - i) 0 (by kernel_rfl)
        ?_ ⟨Nat.zero_le _, Quiet.refl _⟩ ?_
      · exact ⟨rfl, trivial⟩
      rintro e w14 j14 ⟨he, hQ14⟩
      conv => whnf
      refine vif_split (fun hlt3 => ?_) (fun hge3 => ?_)
      · have hlt3 : e < qq := by have := of_decide_eq_true hlt3; omega
        have h1 := hl1.2 e hlt3
        have h2 := hl2.2 e hlt3
        have hA1 : At w14.drew b1 0 l1 := (hb1'.quiet hQ14).at
        have hA2 : At w14.drew b2 0 l2 := (hb2.quiet hQ14).at
        conv => whnf
        (refine vdrawAt plan4 (by kernel_rfl) ?_; conv => whnf)
        (repeat (first | (refine VReq.mk (by first | decide | omega) ?_; conv => whnf) | (refine VPend.mk rfl ?_; conv => whnf) | (refine VNext.keep rfl ?_; conv => whnf) | (refine vs_slI1 _ rfl rfl rfl (by assumption) ?_; conv => whnf) | (refine vs_slI _ rfl rfl rfl (by assumption) ?_; conv => whnf) | (refine vs_arr1 _ rfl rfl rfl (by assumption) ?_; conv => whnf) | (refine vs_loadF (by with_reducible assumption) (by assumption) rfl rfl ?_; conv => whnf) | (refine vs_loadF0 (by with_reducible assumption) (by assumption) rfl rfl ?_; conv => whnf) | (refine vs_loadI (by with_reducible assumption) (by assumption) rfl ?_; conv => whnf) | (refine vs_loadB rfl (by with_reducible assumption) (by assumption) ?_; conv => whnf)))
        refine vif_false (by simp) ?_
        conv => whnf
        refine VBack.mk ⟨_, ?_, (e + 1), rfl, ?_, ?_⟩
        · show qq - (e + 1) < qq - e; omega
        · exact ⟨intEq (incr (by omega)), trivial⟩
        · exact ⟨hlt3, hQ14.drew⟩
      · conv => whnf
        refine VBack.mk ⟨_, ?_, (q + 1), rfl, ?_, ?_⟩
        · show 3 - (q + 1) < 3 - q; omega
        · exact ⟨intEq (incr (by omega)), trivial⟩
        · exact ⟨hlt2, hB13'.trans (hQ14.below _)⟩
    · conv => whnf
      refine VBack.mk ⟨_, ?_, (i + 1), rfl, ?_, ?_⟩
      · show 2 - (i + 1) < 2 - i; omega
      · exact ⟨intEq (incr (by omega)), trivial⟩
      · exact ⟨hlt, hBqs.trans (hB11.mono hBqs.size)⟩
  · conv => whnf
    exact VEnd.mk ⟨rfl, hB6'⟩
end Go.Proofs.YthnncehddnfjmaaDoor.Bk
