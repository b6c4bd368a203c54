/- The walk of the law BucketDistance. Conditions: the variable halves holds what it was laid with, and the arguments read as ranges and bytes. -/
import Derived.Test.YthnncehddnfjmaaDoorBk16
namespace Go.Proofs.YthnncehddnfjmaaDoor.Bk
open Go Go.RowKit Go.Proofs.YthnncehddnfjmaaDoor.Vc Go.Proofs.YthnncehddnfjmaaDoor.Dg Go.Proofs.YthnncehddnfjmaaDoor.Dw
attribute [local irreducible] loadVar storeVar Instr.indexAt Instr.index Instr.sliceAt Instr.makeSlice Instr.lookup Instr.mapUpdate Instr.range Instr.next Instr.entry Instr.makeMap Builtin.append_ Builtin.copy_ Builtin.len_ Builtin.min_ Builtin.max_ Builtin.cap_ Builtin.delete_ Builtin.clear_ convert binOp eqGuard Op.unary Calls
attribute [local irreducible] rwE rwL ofI cnt dif isum chk fw rwOut

set_option maxHeartbeats 1000000 in
set_option maxRecDepth 100000 in
theorem lawDistance_ok (oa ob1 ob2 ob3 : Option Addr) (c c1 c2 c3 : Nat) (ls : List Rng) (l1 l2 l3 : List UInt8) (w : World) (h : Hal w) (hr : Row w oa (recs rc ls)) (hrb1 : Row w ob1 (bvals l1)) (hlc1 : l1.length ≤ c1) (hrb2 : Row w ob2 (bvals l2)) (hlc2 : l2.length ≤ c2) (hrb3 : Row w ob3 (bvals l3)) (hlc3 : l3.length ≤ c3) :
    Ret Tryd.prog 5 #[.slice oa ls.length c, .slice ob1 l1.length c1, .slice ob2 l2.length c2, .slice ob3 l3.length c3] w fun v w' => v = .bool true ∧ Below w.heap.size w w' := by
  refine ret_of_vc Tryd.func5 rfl mixed (by kernel_rfl) ?_
  conv => whnf
  refine vcall (by kernel_rfl) (awake_ok w h) ?_
  rintro _ w1 ⟨rfl, hB1⟩
  conv => whnf
  refine vif_split (fun h30 => ?_) (fun h30 => ?_)
  · conv => whnf
    exact VEnd.mk ⟨rfl, hB1⟩
  have h30 : ls.length ≤ 30 := by have := of_decide_eq_false h30; omega
  conv => whnf
  refine vcall (by kernel_rfl) (new_ok ob1 c1 l1 20 w1 (hrb1.below hB1) hlc1 (by omega)) ?_
  rintro _ w2 ⟨rfl, hC2, hB2⟩
  have hB2' := hB1.trans (hB2.mono hB1.size)
  conv => whnf
  refine vcall (by kernel_rfl) (csplit_ok w1.heap.size 4 w2 (by omega) (by omega) hC2) ?_
  rintro _ w3 ⟨ox, cx, xs, rfl, hox, hsx, _, hg3⟩
  have hB3 : Below w.heap.size w w3 := hB2'.trans (grown_below hg3 hB2'.size fun k e => by injection e with e; have := hB1.size; omega)
  have hrx3 := hox.row
  clear hg3 hox hB2 hB2' hC2 hB1
  conv => whnf
  refine vcall (by kernel_rfl) (new_ok ob2 c2 l2 20 w3 (hrb2.below hB3) hlc2 (by omega)) ?_
  rintro _ w4 ⟨rfl, hC4, hB4⟩
  have hB4' := hB3.trans (hB4.mono hB3.size)
  have hrx4 := hrx3.below hB4
  conv => whnf
  refine vcall (by kernel_rfl) (csplit_ok w3.heap.size 4 w4 (by omega) (by omega) hC4) ?_
  rintro _ w5 ⟨oy, cy, ys, rfl, hoy, hsy, _, hg5⟩
  have hB5 : Below w.heap.size w w5 := hB4'.trans (grown_below hg5 hB4'.size fun k e => by injection e with e; have := hB3.size; omega)
  have hry5 := hoy.row
  have hrx5 := Row.cod hrx4 hC4 hg5
  clear hg5 hoy hB4 hB4' hC4 hB3 hrx3 hrx4
  conv => whnf
  refine vcall (by kernel_rfl) (new_ok ob3 c3 l3 20 w5 (hrb3.below hB5) hlc3 (by omega)) ?_
  rintro _ w6 ⟨rfl, hC6, hB6⟩
  have hB6' := hB5.trans (hB6.mono hB5.size)
  have hrx6 := hrx5.below hB6
  have hry6 := hry5.below hB6
  conv => whnf
  refine vcall (by kernel_rfl) (csplit_ok w5.heap.size 4 w6 (by omega) (by omega) hC6) ?_
  rintro _ w7 ⟨oz, cz, zs, rfl, hoz, hsz, _, hg7⟩
  have hB7 : Below w.heap.size w w7 := hB6'.trans (grown_below hg7 hB6'.size fun k e => by injection e with e; have := hB5.size; omega)
  have hrz7 := hoz.row
  have hrx7 := Row.cod hrx6 hC6 hg7
  have hry7 := Row.cod hry6 hC6 hg7
  have hr7 := hr.below hB7
  have hlx := hsx.len
  have hly := hsy.len
  have hlz := hsz.len
  clear hg7 hoz hB6 hB6' hC6 hB5 hrx6 hry6 hrx5 hry5
  obtain ⟨X, hX⟩ : ∃ f : Nat → Int, f = fun k : Nat => pt xs k := ⟨_, rfl⟩
  obtain ⟨Y, hY⟩ : ∃ f : Nat → Int, f = fun k : Nat => pt ys k := ⟨_, rfl⟩
  obtain ⟨Z, hZ⟩ : ∃ f : Nat → Int, f = fun k : Nat => pt zs k := ⟨_, rfl⟩
  have d1 := dif_le X Y 10000
  have d2 := dif_le Y Z 10000
  have d3 := dif_le X Z 10000
  have dt := dif_tri X Y Z 10000
  have ds := dif_symm Y X 10000
  have dx := dif_self X 10000
  conv => whnf
  refine vcall (by kernel_rfl) (moved1_ok ox oy cx cy xs ys w7 hrx7 hry7 (by omega) (by omega)) ?_
  rintro _ w8 ⟨rfl, hB8⟩
  rw [← hX, ← hY]
  conv => whnf
  refine vcall (by kernel_rfl) (moved1_ok oy oz cy cz ys zs w8 (hry7.below hB8) (hrz7.below hB8) (by omega) (by omega)) ?_
  rintro _ w9 ⟨rfl, hB9⟩
  rw [← hY, ← hZ]
  have hB9' : Below w7.heap.size w7 w9 := hB8.trans (hB9.mono hB8.size)
  conv => whnf
  refine vcall (by kernel_rfl) (moved1_ok ox oz cx cz xs zs w9 (hrx7.below hB9') (hrz7.below hB9') (by omega) (by omega)) ?_
  rintro _ w10 ⟨rfl, hB10⟩
  rw [← hX, ← hZ]
  have hB10' : Below w7.heap.size w7 w10 := hB9'.trans (hB10.mono hB9'.size)
  clear hB8 hB9 hB9' hB10
  conv => whnf
  refine vcall (by kernel_rfl) (moved2_ok ox oy cx cy xs ys w10 (hrx7.below hB10') (hry7.below hB10') (by omega) (by omega)) ?_
  rintro _ w11 ⟨rfl, hB11⟩
  rw [← hX, ← hY]
  have hB11' : Below w7.heap.size w7 w11 := hB10'.trans (hB11.mono hB10'.size)
  clear hB11 hB10'
  conv => whnf
  refine vif_false (by simp) ?_
  conv => whnf
  refine vcall (by kernel_rfl) (moved1_ok oa ox c cx ls xs w11 (hr7.below hB11') (hrx7.below hB11') (by omega) (by omega)) ?_
  rintro _ w12 ⟨rfl, hB12⟩
  have hB12' : Below w7.heap.size w7 w12 := hB11'.trans (hB12.mono hB11'.size)
  clear hB12 hB11'
  conv => whnf
  refine vcall (by kernel_rfl) (moved2_ok oa ox c cx ls xs w12 (hr7.below hB12') (hrx7.below hB12') (by omega) (by omega)) ?_
  rintro _ w13 ⟨rfl, hB13⟩
  have hB13' : Below w7.heap.size w7 w13 := hB12'.trans (hB13.mono hB12'.size)
  clear hB13 hB12'
  conv => whnf
  refine vif_false (by simp) ?_
  conv => whnf
  refine vcall (by kernel_rfl) (moved1_ok oy ox cy cx ys xs w13 (hry7.below hB13') (hrx7.below hB13') (by omega) (by omega)) ?_
  rintro _ w14 ⟨rfl, hB14⟩
  rw [← hX, ← hY, ds]
  have hB14' : Below w7.heap.size w7 w14 := hB13'.trans (hB14.mono hB13'.size)
  clear hB14 hB13'
  conv => whnf
  refine vif_false (by simp) ?_
  conv => whnf
  refine vcall (by kernel_rfl) (moved1_ok ox ox cx cx xs xs w14 (hrx7.below hB14') (hrx7.below hB14') (by omega) (by omega)) ?_
  rintro _ w15 ⟨rfl, hB15⟩
  rw [← hX, dx]
  have hB15' : Below w7.heap.size w7 w15 := hB14'.trans (hB15.mono hB14'.size)
  clear hB15 hB14'
  conv => whnf
  rw [i64_of (x := dif X Y 10000 + dif Y Z 10000) (by omega) (by omega)]
  refine vif_false (by show (bif false then true else decide (dif X Z 10000 > dif X Y 10000 + dif Y Z 10000)) = false; simp only [cond_false, decide_eq_false_iff_not]; omega) ?_
  conv => whnf
  refine vcall (by kernel_rfl) (weights1_ok oy cy ys 4 w15 (hry7.below hB15') (by omega) 4 (by omega)) ?_
  rintro _ w16 ⟨bw, lw, rfl, hgw, hbw, hlw, hB16⟩
  have hB16' : Below w7.heap.size w7 w16 := hB15'.trans (hB16.mono hB15'.size)
  clear hB16 hB15'
  have hchk := split_chk (n := 4) hsy.ok (by omega)
  have hrs := rw_split (n := 4) hsx.ok hchk
  have hmv := (rw_moved (n := 4) hsx.ok hchk).1
  have hsl := surplus_le (f := X) (g := Y) (n := 4) (k := 10000) (by rw [hX]; exact split_pt hsx.ok)
  rw [← hY] at hlw hrs hmv hchk
  rw [← hX] at hmv
  obtain ⟨W, hW⟩ : ∃ W : Nat → Int, W = fun j : Nat => cnt Y ((j : Int) + 1) 10000 := ⟨_, rfl⟩
  rw [← hW] at hlw hrs hmv hchk
  have hsl' : isum (fun j => max 0 (cnt X ((j : Int) + 1) 10000 - W j)) 4 ≤ dif X Y 10000 := by rw [hW]; exact hsl
  conv => whnf
  refine vcall (by kernel_rfl) (reweigh1_ok ox (some ⟨bw, 0, none⟩) cx 4 4 xs lw W w16 (hrx7.below hB16') (by omega) hbw.row hlw (by omega)) ?_
  rintro _ w17 ⟨oo, co, rfl, hro, hB17⟩
  have hB17' : Below w7.heap.size w7 w17 := hB16'.trans (hB17.mono hB16'.size)
  have hL16 := rwL_len 4 W xs
  clear hB17 hB16'
  obtain ⟨e, he⟩ : ∃ e, e = rwE 4 W xs := ⟨_, rfl⟩
  obtain ⟨L, hL⟩ : ∃ L, L = rwL 4 W xs := ⟨_, rfl⟩
  rw [← he, ← hL] at hrs
  rw [← hL] at hro hL16
  rw [← he, ← hL]
  rcases hrs with ⟨he0, hLo⟩ | ⟨he0, _⟩
  · rw [he0]
    rw [← hLo] at hmv
    conv => whnf
    refine vcall (by kernel_rfl) (moved1_ok ox oo cx co xs L w17 (hrx7.below hB17') hro (by omega) (by omega)) ?_
    rintro _ w18 ⟨rfl, hB18⟩
    rw [← hX, hmv]
    conv => whnf
    refine VEnd.mk ⟨?_, hB7.trans ((hB17'.trans (hB18.mono hB17'.size)).mono hB7.size)⟩
    show Value.bool _ = _
    simp only [cond_false, cond_true, Value.bool.injEq, decide_eq_true_eq]
    first | exact hsl' | exact hsl
  · rw [he0]
    conv => whnf
    exact VEnd.mk ⟨rfl, hB7.trans (hB17'.mono hB7.size)⟩
end Go.Proofs.YthnncehddnfjmaaDoor.Bk
