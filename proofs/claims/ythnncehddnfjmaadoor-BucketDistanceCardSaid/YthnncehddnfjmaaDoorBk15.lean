/- The walk of the law BucketWeights. Conditions: the variable halves holds what it was laid with, and the arguments read as numbers and bytes. -/
import Derived.Test.YthnncehddnfjmaaDoorBk13
import Derived.Test.YthnncehddnfjmaaDoorBk14
namespace Go.Proofs.YthnncehddnfjmaaDoor.Bk
open Go Go.RowKit Go.Proofs.YthnncehddnfjmaaDoor.Vc Go.Proofs.YthnncehddnfjmaaDoor.Dg Go.Proofs.YthnncehddnfjmaaDoor.Dw
attribute [local irreducible] loadVar storeVar Instr.indexAt Instr.index Instr.sliceAt Instr.makeSlice Instr.lookup Instr.mapUpdate Instr.range Instr.next Instr.entry Instr.makeMap Builtin.append_ Builtin.copy_ Builtin.len_ Builtin.min_ Builtin.max_ Builtin.cap_ Builtin.delete_ Builtin.clear_ convert binOp eqGuard Op.unary Calls
attribute [local irreducible] rwE rwL ofI cnt dif isum chk fw

/-- a slice of numbers at this place -/
def SlI (w : World) (v : Value) (n : Nat) (W : Nat → Int) : Prop := ∃ oa c vs, v = .slice oa n c ∧ Row w oa vs ∧ Ints vs n W ∧ n ≤ 1099511627776
theorem fw_len8 {n : Nat} {W : Nat → Int} {e : Int} {l : List Rng} (he : e = chk n W) (hl : l = if e = 0 then fw W n else []) : l.length ≤ 8 := by
  by_cases h : e = 0
  · rw [if_pos h] at hl
    obtain ⟨h8, _⟩ := chk_zero (he ▸ h)
    have := fw_len W n
    rw [hl]; omega
  · rw [if_neg h] at hl; rw [hl]; simp

set_option maxHeartbeats 1000000 in
set_option maxRecDepth 100000 in
theorem lawWeights_ok (oa ob : Option Addr) (n c c' : Nat) (vs : List Value) (W : Nat → Int) (l : List UInt8) (w : World) (h : Hal w) (hr : Row w oa vs) (hW : Ints vs n W) (hrb : Row w ob (bvals l)) (hlc : l.length ≤ c') :
    Ret Tryd.prog 6 #[.slice oa n c, .slice ob l.length c'] w fun v w' => v = .bool true ∧ Below w.heap.size w w' := by
  refine ret_of_vc Tryd.func6 rfl mixed (by kernel_rfl) ?_
  conv => whnf
  refine vcall (by kernel_rfl) (awake_ok w h) ?_
  rintro _ w1 ⟨rfl, hB1⟩
  conv => whnf
  refine vif_split (fun h20 => ?_) (fun h20 => ?_)
  · conv => whnf
    exact VEnd.mk ⟨rfl, hB1⟩
  have h20 : n ≤ 20 := by have := of_decide_eq_false h20; omega
  conv => whnf
  refine vcall (by kernel_rfl) (new_ok ob c' l 40 w1 (hrb.below hB1) hlc (by omega)) ?_
  rintro _ w2 ⟨rfl, hC2, hB2⟩
  obtain ⟨bc, hbc⟩ : ∃ b, b = w1.heap.size := ⟨_, rfl⟩
  rw [← hbc] at hC2 hB2 ⊢
  have hbw : w.heap.size ≤ bc := by rw [hbc]; exact hB1.size
  have hB2' : Below w.heap.size w w2 := hB1.trans (hB2.mono hbw)
  clear hB2 hB1
  conv => whnf
  refine vcall (by kernel_rfl) (next_ok bc 9 w2 (by omega) (by omega) hC2) ?_
  rintro _ w3 ⟨k0, rfl, hk0, hO3, hC3⟩
  have hB3 : Below w.heap.size w w3 := hB2'.trans (hO3.below hbw)
  have ek : IntKind.i64.wrap (1 + (k0 : Int)) = ((1 + k0 : Nat) : Int) := by rw [i64_of (by omega) (by omega)]; omega
  clear hO3 hC2 hB2'
  conv => whnf
  rw [ek]
  refine vcall (by kernel_rfl) (lawW_ok bc (1 + k0) w3 (by omega) (by omega) hC3) ?_
  rintro _ w4 ⟨bw, lw, Ww, rfl, hgw, hbw4, hlw, _, _, hC4, hg4⟩
  have hB4 : Below w.heap.size w w4 := hB3.trans (grown_below hg4 hB3.size fun k e => by injection e with e; omega)
  clear hg4 hC4 hC3 hB3
  conv => whnf
  have hr4 := hr.below hB4
  obtain ⟨ws, hws⟩ : ∃ u, u = w4.alloc (.cells #[.slice oa n c, .slice (some ⟨bw, 0, none⟩) (1 + k0) (1 + k0)] 23) := ⟨_, rfl⟩
  have hBs : Below w4.heap.size w4 ws := by rw [hws]; exact balloc (Below.refl _ _) (Nat.le_refl _) _
  have hbs : Blk ws w4.heap.size [.slice oa n c, .slice (some ⟨bw, 0, none⟩) (1 + k0) (1 + k0)] 23 := by rw [hws]; exact Blk.new _ _ _
  have hBs' : Below w.heap.size w ws := hB4.trans (hBs.mono hB4.size)
  have key : ∀ i, i < 2 → ∃ v m Wm, [Value.slice oa n c, Value.slice (some ⟨bw, 0, none⟩) (1 + k0) (1 + k0)][i]? = some v ∧ SlI ws v m Wm := fun i hi => by
    match i, hi with
    | 0, _ => exact ⟨_, n, W, rfl, _, _, _, rfl, hr4.below hBs, hW, by omega⟩
    | 1, _ => exact ⟨_, _, Ww, rfl, _, _, _, rfl, hbw4.row.below hBs, hlw, by omega⟩
  obtain ⟨bs, hbse⟩ : ∃ b, b = w4.heap.size := ⟨_, rfl⟩
  obtain ⟨cs, hcs⟩ : ∃ l : List Value, l = [.slice oa n c, .slice (some ⟨bw, 0, none⟩) (1 + k0) (1 + k0)] := ⟨_, rfl⟩
  rw [← hcs, ← hbse] at hbs
  rw [← hcs] at key
  rw [← hws, ← hbse]
  clear hr4 hbw4 hBs hB4 hws
  refine vloop (X := Nat) ws6_1 (fun i => [(31, .int .i64 i)]) (fun i w' => i ≤ 2 ∧ Below ws.heap.size ws w') (fun i => 2 - i) 0 (by kernel_rfl)
    ?_ ⟨Nat.zero_le _, Below.refl _ _⟩ ?_
  · exact ⟨rfl, trivial⟩
  rintro i w6 j6 ⟨hi, hB6⟩
  have hB6' : Below w.heap.size w w6 := hBs'.trans (hB6.mono hBs'.size)
  conv => whnf
  refine vif_split (fun hlt => ?_) (fun hge => ?_)
  · have hlt : i < 2 := by have := of_decide_eq_true hlt; omega
    obtain ⟨v, m, Wm, hv, oy, cy, vy, rfl, hry, hly, hm⟩ := key i hlt
    have hA6 := (hbs.below hB6 hbs.lt).at
    have hry6 := hry.below hB6
    conv => whnf
    (repeat (first | (refine VReq.mk (by first | decide | omega) ?_; conv => whnf) | (refine VPend.mk rfl ?_; conv => whnf) | (refine VNext.keep rfl ?_; conv => whnf) | (refine vs_slI1 _ rfl rfl rfl (by assumption) ?_; conv => whnf) | (refine vs_slI _ rfl rfl rfl (by assumption) ?_; conv => whnf) | (refine vs_arr1 _ rfl rfl rfl (by assumption) ?_; conv => whnf) | (refine vs_loadF (by with_reducible assumption) (by assumption) rfl rfl ?_; conv => whnf) | (refine vs_loadF0 (by with_reducible assumption) (by assumption) rfl rfl ?_; conv => whnf) | (refine vs_loadI (by with_reducible assumption) (by assumption) rfl ?_; conv => whnf) | (refine vs_loadB rfl (by with_reducible assumption) (by assumption) ?_; conv => whnf)))
    refine vcall (by kernel_rfl) (fromWeights1_ok oy m cy vy Wm w6 hry6 hly hm) ?_
    rintro _ w7 ⟨o7, c7, l7, rfl, he7, hr7, hB7⟩
    conv => whnf
    refine vcall (by kernel_rfl) (fromWeights2_ok oy m cy vy Wm w7 (hry6.below hB7) hly hm) ?_
    rintro _ w8 ⟨o8, c8, l8, rfl, he8, hr8, hB8⟩
    have hB8' : Below w6.heap.size w6 w8 := hB7.trans (hB8.mono hB7.size)
    have hfc := @fw_cnt m Wm
    have hch := @chk_zero m Wm
    have h88 := fw_len8 (n := m) (W := Wm) rfl he7
    obtain ⟨e, he⟩ : ∃ e, e = chk m Wm := ⟨_, rfl⟩
    rw [← he] at he7 he8 hch ⊢
    have e78 : l8 = l7 := he8.trans he7.symm
    subst e78
    have hr7' := hr7.below hB8
    clear hB7 hB8 hr7 he8
    conv => whnf
    refine vif_false (by simp) ?_
    conv => whnf
    refine vcall (by kernel_rfl) (same_ok o7 o8 c7 c8 l8 l8 w8 hr7' hr8 (by omega) (by omega)) ?_
    rintro _ w9 ⟨rfl, hQ9⟩
    rw [show decide (l8 = l8) = true by simp]
    have hB9 : Below w6.heap.size w6 w9 := hB8'.trans (hQ9.below _)
    have hr9 : Row w9 o7 (recs rc l8) := hr7'.below (hQ9.below _)
    clear hB8' hQ9 hr7' hr8
    conv => whnf
    refine vif_split (fun he0 => ?_) (fun he0 => ?_)
    · conv => whnf
      refine VBack.mk ⟨_, ?_, (i + 1), rfl, ?_, ?_⟩
      · show 2 - (i + 1) < 2 - i; omega
      · exact ⟨intEq (incr (by omega)), trivial⟩
      · exact ⟨hlt, hB6.trans (hB9.mono hB6.size)⟩
    · have he0 : e = 0 := by simpa using he0
      obtain ⟨hm8, hmp, hms⟩ := hch he0
      rw [if_pos he0] at he7
      subst he7
      conv => whnf
      refine vcall (by kernel_rfl) (weights1_ok o7 c7 (fw Wm m) m w9 hr9 (by omega) m (by omega)) ?_
      rintro _ w10 ⟨b1, l1, rfl, hg1, hb1, hl1, hB10⟩
      have hB10' : Below w6.heap.size w6 w10 := hB9.trans (hB10.mono hB9.size)
      have hl1' : Ints l1 m Wm := hl1.congr fun j hj => hfc hmp hms j hj
      have hry10 := hry6.below hB10'
      clear hB10 hl1 hB9 hr9 hry6 hry hA6
      conv => whnf
      refine vloop (X := Nat) ws6_2 (fun i => [(62, .int .i64 i)]) (fun i w' => i ≤ m ∧ Quiet w10 w') (fun i => m - i) 0 (by kernel_rfl)
        ?_ ⟨Nat.zero_le _, Quiet.refl _⟩ ?_
      · exact ⟨rfl, trivial⟩
      rintro q w14 j14 ⟨hq, hQ14⟩
      conv => whnf
      refine vif_split (fun hlt3 => ?_) (fun hge3 => ?_)
      · have hlt3 : q < m := by have := of_decide_eq_true hlt3; omega
        have h1 := hl1'.2 q hlt3
        have h2 := hly.2 q hlt3
        obtain ⟨by_, oy_, rfl, hbyl, hAy⟩ := hry10.at (by rw [hly.1]; omega)
        have hA1 : At w14.drew b1 0 l1 := (hb1.quiet hQ14).at
        have hA2 : At w14.drew by_ oy_ vy := (hAy.below (hQ14.below w10.heap.size) hbyl).drew
        conv => whnf
        (refine vdrawAt plan6 (by kernel_rfl) ?_; conv => whnf)
        refine vif_false (by simp only [decide_eq_false_iff_not]; omega) ?_
        conv => whnf
        (repeat (first | (refine VReq.mk (by first | decide | omega) ?_; conv => whnf) | (refine VPend.mk rfl ?_; conv => whnf) | (refine VNext.keep rfl ?_; conv => whnf) | (refine vs_slI1 _ rfl rfl rfl (by assumption) ?_; conv => whnf) | (refine vs_slI _ rfl rfl rfl (by assumption) ?_; conv => whnf) | (refine vs_arr1 _ rfl rfl rfl (by assumption) ?_; conv => whnf) | (refine vs_loadF (by with_reducible assumption) (by assumption) rfl rfl ?_; conv => whnf) | (refine vs_loadF0 (by with_reducible assumption) (by assumption) rfl rfl ?_; conv => whnf) | (refine vs_loadI (by with_reducible assumption) (by assumption) rfl ?_; conv => whnf) | (refine vs_loadB rfl (by with_reducible assumption) (by assumption) ?_; conv => whnf)))
        refine vif_false (by simp) ?_
        conv => whnf
        refine VBack.mk ⟨_, ?_, (q + 1), rfl, ?_, ?_⟩
        · show m - (q + 1) < m - q; omega
        · exact ⟨intEq (incr (by omega)), trivial⟩
        · exact ⟨hlt3, hQ14.drew⟩
      · conv => whnf
        refine VBack.mk ⟨_, ?_, (i + 1), rfl, ?_, ?_⟩
        · show 2 - (i + 1) < 2 - i; omega
        · exact ⟨intEq (incr (by omega)), trivial⟩
        · exact ⟨hlt, hB6.trans ((hB10'.trans (hQ14.below _)).mono hB6.size)⟩
  · conv => whnf
    exact VEnd.mk ⟨rfl, hB6'⟩
end Go.Proofs.YthnncehddnfjmaaDoor.Bk
