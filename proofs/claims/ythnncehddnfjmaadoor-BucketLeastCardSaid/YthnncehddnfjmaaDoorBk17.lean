/- The walk of the law BucketLeast. Conditions: the variable halves holds what it was laid with, and the arguments read as bytes and a number. -/
import Derived.Test.YthnncehddnfjmaaDoorBk16
namespace Go.Proofs.YthnncehddnfjmaaDoor.Bk
open Go Go.RowKit Go.Proofs.YthnncehddnfjmaaDoor.Vc Go.Proofs.YthnncehddnfjmaaDoor.Dg Go.Proofs.YthnncehddnfjmaaDoor.Dw
attribute [local irreducible] loadVar storeVar Instr.indexAt Instr.index Instr.sliceAt Instr.makeSlice Instr.lookup Instr.mapUpdate Instr.range Instr.next Instr.entry Instr.makeMap Builtin.append_ Builtin.copy_ Builtin.len_ Builtin.min_ Builtin.max_ Builtin.cap_ Builtin.delete_ Builtin.clear_ convert binOp eqGuard Op.unary Calls
theorem isum_succ' (W : Nat → Int) (k : Nat) : isum W (k + 1) = isum W k + W k := rfl
theorem isum_nil' (W : Nat → Int) : isum W 0 = 0 := rfl
attribute [local irreducible] rwE rwL ofI cnt dif isum chk fw rwOut

set_option maxHeartbeats 1000000 in
set_option maxRecDepth 100000 in
theorem lawLeast_ok (ob : Option Addr) (c' : Nat) (l : List UInt8) (a : Int) (w : World) (h : Hal w) (hrb : Row w ob (bvals l)) (hlc : l.length ≤ c') :
    Ret Tryd.prog 7 #[.slice ob l.length c', .int .i64 a] w fun v w' => v = .bool true ∧ Below w.heap.size w w' := by
  refine ret_of_vc Tryd.func7 rfl mixed (by kernel_rfl) ?_
  conv => whnf
  refine vcall (by kernel_rfl) (awake_ok w h) ?_
  rintro _ w1 ⟨rfl, hB1⟩
  conv => whnf
  refine vcall (by kernel_rfl) (new_ok ob c' l 40 w1 (hrb.below hB1) hlc (by omega)) ?_
  rintro _ w2 ⟨rfl, hC2, hB2⟩
  obtain ⟨bc, hbc⟩ : ∃ b, b = w1.heap.size := ⟨_, rfl⟩
  rw [← hbc] at hC2 hB2 ⊢
  have hbw : w.heap.size ≤ bc := by rw [hbc]; exact hB1.size
  have hB2' : Below w.heap.size w w2 := hB1.trans (hB2.mono hbw)
  clear hB2 hB1
  conv => whnf
  refine vcall (by kernel_rfl) (next_ok bc 8 w2 (by omega) (by omega) hC2) ?_
  rintro _ w3 ⟨k0, rfl, hk0, hO3, hC3⟩
  have hB3 : Below w.heap.size w w3 := hB2'.trans (hO3.below hbw)
  have ek : IntKind.i64.wrap (1 + (k0 : Int)) = ((1 + k0 : Nat) : Int) := by rw [i64_of (by omega) (by omega)]; omega
  obtain ⟨n, hk⟩ : ∃ k, k = 1 + k0 := ⟨_, rfl⟩
  rw [← hk] at ek
  clear hO3 hC2 hB2'
  conv => whnf
  rw [ek]
  refine vcall (by kernel_rfl) (csplit_ok bc n w3 (by omega) (by omega) hC3) ?_
  rintro _ w4 ⟨ox, cx, xs, rfl, hox, hsx, hC4, hg4⟩
  have hB4 : Below w.heap.size w w4 := hB3.trans (grown_below hg4 hB3.size fun k e => by injection e with e; omega)
  have hrx := hox.row
  have hlx := hsx.len
  clear hg4 hox hB3 hC3
  conv => whnf
  refine vcall (by kernel_rfl) (lawW_ok bc n w4 (by omega) (by omega) hC4) ?_
  rintro _ w5 ⟨bw, lw, W, rfl, hgw, hbw5, hlw, hpos, hsum, hC5, hg5⟩
  have hB5 : Below w.heap.size w w5 := hB4.trans (grown_below hg5 hB4.size fun k e => by injection e with e; omega)
  have hrx5 := Row.cod hrx hC4 hg5
  have hch : chk n W = 0 := chk_ok (by omega) hpos hsum
  have hsp := hsx.ok
  have hmv := rw_moved hsp hch
  have hrs := rw_split hsp hch
  have hWle : ∀ j, j < n → W j ≤ 10000 := fun j hj => by
    have h1 := isum_mono hpos 0 j (by omega) (by omega)
    have h2 := isum_mono hpos (j + 1) n (by omega) (by omega)
    rw [isum_succ'] at h2
    rw [isum_nil'] at h1
    omega
  clear hg5 hrx hC4 hB4 hC5
  conv => whnf
  refine vcall (by kernel_rfl) (weights2_ok ox cx xs n w5 hrx5 (by omega) n (by omega)) ?_
  rintro _ w6 ⟨bh, lh, rfl, hgh, hbh6, hlh, hB6⟩
  have hB6' := hB5.trans (hB6.mono hB5.size)
  have hrx6 := hrx5.below hB6
  have hbw6 := hbw5.below hB6 hbw5.lt
  clear hB6 hB5 hrx5 hbw5
  conv => whnf
  refine vcall (by kernel_rfl) (reweigh1_ok ox (some ⟨bw, 0, none⟩) cx n n xs lw W w6 hrx6 (by omega) hbw6.row hlw (by omega)) ?_
  rintro _ w7 ⟨oy, cy, rfl, hry, hB7⟩
  have hB7' := hB6'.trans (hB7.mono hB6'.size)
  have hrx7 := hrx6.below hB7
  have hbw7 := hbw6.below hB7 hbw6.lt
  have hbh7 := hbh6.below hB7 hbh6.lt
  have hL16 := rwL_len n W xs
  clear hB7 hB6' hrx6 hbw6 hbh6
  obtain ⟨e, he⟩ : ∃ e, e = rwE n W xs := ⟨_, rfl⟩
  obtain ⟨ys, hys⟩ : ∃ L, L = rwL n W xs := ⟨_, rfl⟩
  rw [← he, ← hys] at hrs
  rw [← hys] at hry hL16
  rw [← he, ← hys]
  conv => whnf
  refine vif_split (fun he0 => ?_) (fun he0 => ?_)
  · have he0 : ¬ e = 0 := by intro e'; simp [e'] at he0
    have he19 : e = 19 := by
      rcases hrs with h | h
      · exact absurd h.1 he0
      · exact h.1
    rw [he19]
    conv => whnf
    exact VEnd.mk ⟨rfl, hB7'⟩
  have he0 : e = 0 := by simpa using he0
  have hyo : ys = rwOut n W xs := by
    rcases hrs with h | h
    · exact h.2
    · rw [he0] at h; cases h.1
  rw [← hyo] at hmv
  obtain ⟨hm1, hm2⟩ := hmv
  obtain ⟨C, hC⟩ : ∃ C : Nat → Int, C = fun j : Nat => cnt (fun k => pt xs k) ((j : Int) + 1) 10000 := ⟨_, rfl⟩
  have hCb : ∀ j, 0 ≤ C j ∧ C j ≤ 10000 := fun j => by rw [hC]; exact cnt_le _ _ 10000
  rw [← hC] at hlh
  have hsur : isum (fun j => max 0 (cnt (fun k => pt xs k) ((j : Int) + 1) 10000 - W j)) n = isum (fun j => max 0 (C j - W j)) n := by rw [hC]
  rw [hsur] at hm1
  conv => whnf
  refine vloop (X := Nat) ws7_1 (fun i => [(44, .int .i64 i), (12, .int .i64 (isum (fun j => max 0 (C j - W j)) i))]) (fun i w' => i ≤ n ∧ Quiet w7 w' ∧ 0 ≤ isum (fun j => max 0 (C j - W j)) i ∧ isum (fun j => max 0 (C j - W j)) i ≤ 10000 * i) (fun i => n - i) 0 (by kernel_rfl)
    ?_ ⟨Nat.zero_le _, Quiet.refl _, by rw [isum_nil']; exact Int.le_refl _, by rw [isum_nil']; exact Int.le_refl _⟩ ?_
  · exact ⟨rfl, by show Value.int .i64 0 = _; rw [isum_nil'], trivial⟩
  rintro i w8 j8 ⟨hi, hQ8, hs0, hs1⟩
  have hss := isum_succ' (fun j => max 0 (C j - W j)) i
  conv => whnf
  refine vif_split (fun hlt => ?_) (fun hge => ?_)
  · have hlt : i < n := by have := of_decide_eq_true hlt; omega
    have hCi := hCb i
    have hW1 := hWle i hlt
    have hW0 := hpos i hlt
    have h1 := hlh.2 i hlt
    have h2 := hlw.2 i hlt
    have hA1 : At w8.drew bh 0 lh := (hbh7.quiet hQ8).at
    have hA2 : At w8.drew bw 0 lw := (hbw7.quiet hQ8).at
    conv => whnf
    (refine vdrawAt plan7 (by kernel_rfl) ?_; conv => whnf)
    (repeat (first | (refine VReq.mk (by first | decide | omega) ?_; conv => whnf) | (refine VPend.mk rfl ?_; conv => whnf) | (refine VNext.keep rfl ?_; conv => whnf) | (refine vs_slI1 _ rfl rfl rfl (by assumption) ?_; conv => whnf) | (refine vs_slI _ rfl rfl rfl (by assumption) ?_; conv => whnf) | (refine vs_arr1 _ rfl rfl rfl (by assumption) ?_; conv => whnf) | (refine vs_loadF (by with_reducible assumption) (by assumption) rfl rfl ?_; conv => whnf) | (refine vs_loadF0 (by with_reducible assumption) (by assumption) rfl rfl ?_; conv => whnf) | (refine vs_loadI (by with_reducible assumption) (by assumption) rfl ?_; conv => whnf) | (refine vs_loadB rfl (by with_reducible assumption) (by assumption) ?_; conv => whnf)))
    refine VBack.mk ⟨_, ?_, (i + 1), rfl, ?_, ?_⟩
    · show n - (i + 1) < n - i; omega
    · exact ⟨intEq (incr (by omega)), intEq (by rw [i64_of (x := C i - W i) (by omega) (by omega), i64_of (by omega) (by omega)]; exact hss.symm), trivial⟩
    · exact ⟨hlt, hQ8.drew, by rw [hss]; omega, by rw [hss]; omega⟩
  have hge : ¬ i < n := by have := of_decide_eq_false hge; omega
  obtain rfl : i = n := by omega
  obtain ⟨S, hS⟩ : ∃ S, S = isum (fun j => max 0 (C j - W j)) i := ⟨_, rfl⟩
  rw [← hS] at hm1 ⊢
  have hB8 := hB7'.trans (hQ8.below w.heap.size)
  have hrx8 := hrx7.below (hQ8.below _)
  have hry8 := hry.below (hQ8.below _)
  have hbw8 := hbw7.quiet hQ8
  have hbh8 := hbh7.quiet hQ8
  clear hQ8 hB7' hrx7 hry hbw7 hbh7 hs0 hs1 hss hsur hS
  conv => whnf
  refine vcall (by kernel_rfl) (mod_ok a 10000 w8 (by omega) (by omega)) ?_
  rintro _ w9 ⟨rfl, rfl⟩
  obtain ⟨b, hb⟩ : ∃ m : Nat, a % ((10000 : Nat) : Int) = (m : Int) := nat_of (Int.emod_nonneg _ (by omega))
  have hb10 : b < 10000 := by have := Int.emod_lt_of_pos a (b := ((10000 : Nat) : Int)) (by omega); omega
  rw [hb]
  conv => whnf
  refine vcall (by kernel_rfl) (pick1_ok ox cx xs b w9 hrx8 (by omega)) ?_
  rintro _ w10 ⟨rfl, hB10⟩
  have hF := split_pt hsp b hb10
  have hm2b := hm2 b hb10
  obtain ⟨v, hv⟩ : ∃ v : Nat, pt xs b = (v : Int) + 1 := ⟨(pt xs b - 1).toNat, by omega⟩
  have hvn : v < i := by omega
  rw [hv] at hm2b ⊢
  have hvt : ((v : Int) + 1 - 1).toNat = v := by omega
  rw [hvt] at hm2b
  have hCv : C v = cnt (fun k => pt xs k) ((v : Int) + 1) 10000 := by rw [hC]
  rw [← hCv] at hm2b
  have hB10' := hB8.trans (hB10.mono hB8.size)
  have hrx10 := hrx8.below hB10
  have hry10 := hry8.below hB10
  have hbw10 := hbw8.below hB10 hbw8.lt
  have hbh10 := hbh8.below hB10 hbh8.lt
  clear hB10 hB8 hrx8 hry8 hbw8 hbh8
  conv => whnf
  refine vif_false (by show decide ((v : Int) + 1 > (i : Int)) = false; simp only [decide_eq_false_iff_not]; omega) ?_
  conv => whnf
  (refine vdrawB plan7 (by kernel_rfl) ?_; conv => whnf)
  refine vcall (by kernel_rfl) (moved1_ok ox oy cx cy xs ys w10.drew hrx10.drew hry10.drew (by omega) (by omega)) ?_
  rintro _ w11 ⟨rfl, hB11⟩
  have hrx11 := (show Row w10.drew ox (recs rc xs) from hrx10).below hB11
  have hry11 := (show Row w10.drew oy (recs rc ys) from hry10).below hB11
  rw [hm1]
  conv => whnf
  refine VNext.below hB11 ?_
  conv => whnf
  (refine VPend.mk (fun u _ => ?_) ?_; (focus (conv => whnf)); (conv => whnf))
  refine vif_true (by simp) ?_
  conv => whnf
  refine vcall (by kernel_rfl) (moved1_ok oy ox cy cx ys xs w11 hry11 hrx11 (by omega) (by omega)) ?_
  rintro _ w12 ⟨rfl, hB12⟩
  rw [dif_symm, hm1]
  conv => whnf
  refine VNext.below hB12 ?_
  conv => whnf
  have hBB : Below w10.heap.size w10 w12 := (belowDrew (Below.refl _ _)).trans (hB11.trans (hB12.mono hB11.size))
  have hbw12 := hbw10.below hBB hbw10.lt
  have hbh12 := hbh10.below hBB hbh10.lt
  have hry12 := hry11.below hB12
  have hB12' := hB10'.trans (hBB.mono hB10'.size)
  have hl1 := hlh.2 v hvn
  have hl2 := hlw.2 v hvn
  have ev : IntKind.i64.wrap ((v : Int) + 1 - 1) = (v : Int) := by rw [i64_of (by omega) (by omega)]; omega
  (refine VPend.mk (fun u _ => ?_) ?_; (focus (conv => whnf)); (conv => whnf))
  (refine VPend.mk (fun u _ => ?_) ?_; (focus (conv => whnf)); (conv => whnf))
  refine vif_true (by simp) ?_
  conv => whnf
  (refine VPend.mk (fun u _ => ?_) ?_; (focus (conv => whnf)); (conv => whnf))
  rw [ev]
  (refine vs_slI1 _ rfl rfl rfl hvn ?_; (conv => whnf); refine VPend.mk rfl ?_; (conv => whnf); refine VPend.mk (fun u hu => ?_) ?_; (focus ((conv => whnf); exact vs_slI1 _ rfl rfl rfl hvn (VPend.mk rfl rfl))); (conv => whnf))
  (refine vs_loadI hbh12.at hl1 rfl ?_; (conv => whnf); refine VPend.mk rfl ?_; (conv => whnf); refine VPend.mk (fun u hu => ?_) ?_; (focus ((conv => whnf); exact vs_loadI (At.below hbh12.at hu hbh12.lt) hl1 rfl (VPend.mk rfl rfl))); (conv => whnf))
  (refine VPend.mk (fun u _ => ?_) ?_; (focus (conv => whnf)); (conv => whnf))
  rw [ev]
  (refine vs_slI1 _ rfl rfl rfl hvn ?_; (conv => whnf); refine VPend.mk rfl ?_; (conv => whnf); refine VPend.mk (fun u hu => ?_) ?_; (focus ((conv => whnf); exact vs_slI1 _ rfl rfl rfl hvn (VPend.mk rfl rfl))); (conv => whnf))
  (refine vs_loadI hbw12.at hl2 rfl ?_; (conv => whnf); refine VPend.mk rfl ?_; (conv => whnf); refine VPend.mk (fun u hu => ?_) ?_; (focus ((conv => whnf); exact vs_loadI (At.below hbw12.at hu hbw12.lt) hl2 rfl (VPend.mk rfl rfl))); (conv => whnf))
  (refine VPend.mk (fun u _ => ?_) ?_; (focus (conv => whnf)); (conv => whnf))
  refine vif_split (fun hg => ?_) (fun hg => ?_)
  · conv => whnf
    (refine VPend.mk (fun u _ => ?_) ?_; (focus (conv => whnf)); (conv => whnf))
    (refine VPend.mk (fun u _ => ?_) ?_; (focus (conv => whnf)); (conv => whnf))
    refine VEnd.mk ⟨rfl, hB12'⟩
  · have hg : ¬ C v > W v := of_decide_eq_false hg
    have hq := hm2b (by omega)
    conv => whnf
    refine vcall (by kernel_rfl) (pick1_ok oy cy ys b w12 hry12 (by omega)) ?_
    rintro _ w13 ⟨rfl, hB13⟩
    rw [hq]
    conv => whnf
    refine VNext.below hB13 ?_
    conv => whnf
    (refine VPend.mk (fun u _ => ?_) ?_; (focus (conv => whnf)); (conv => whnf))
    (refine VPend.mk (fun u _ => ?_) ?_; (focus (conv => whnf)); (conv => whnf))
    (refine VPend.mk (fun u _ => ?_) ?_; (focus (conv => whnf)); (conv => whnf))
    refine VEnd.mk ⟨?_, hB12'.trans (hB13.mono hB12'.size)⟩
    show Value.bool _ = _
    simp
end Go.Proofs.YthnncehddnfjmaaDoor.Bk
