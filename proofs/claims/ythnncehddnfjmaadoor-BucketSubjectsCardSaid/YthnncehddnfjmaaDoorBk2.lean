/- The walk of bucket.paint: the variation of each bucket is that of the first range which holds it. Conditions: the argument reads as the ranges l. -/
import Derived.Test.YthnncehddnfjmaaDoorBk1
import Derived.Test.YthnncehddnfjmaaDoorMp
set_option linter.unusedVariables false
set_option linter.unusedSimpArgs false
namespace Go.Proofs.YthnncehddnfjmaaDoor.Bk
open Go Go.RowKit Go.Proofs.YthnncehddnfjmaaDoor.Vc Go.Proofs.YthnncehddnfjmaaDoor.Dg
attribute [local irreducible] loadVar storeVar Instr.indexAt Instr.index Instr.sliceAt Instr.makeSlice Instr.lookup Instr.mapUpdate Instr.range Instr.next Instr.entry Instr.makeMap Builtin.append_ Builtin.copy_ Builtin.len_ Builtin.min_ Builtin.max_ Builtin.cap_ Builtin.delete_ Builtin.clear_ convert binOp eqGuard Op.unary Calls

structure Rng where
  f : Int
  t : Int
  v : Int
  deriving DecidableEq
def rc (r : Rng) : List Value := [.int .i64 r.f, .int .i64 r.t, .int .i64 r.v]
theorem rc_len (r : Rng) : (rc r).length = 3 := rfl
/-- the variation of the first range with this bucket -/
def pt (l : List Rng) (b : Int) : Int :=
  match l with
  | [] => 0
  | r :: l => if r.f ≤ b ∧ b < r.t then r.v else pt l b
/-- a bucket with a range -/
def pd (l : List Rng) (k : Nat) : Prop := k < 10000 ∧ ∃ r ∈ l, r.f ≤ (k : Int) ∧ (k : Int) < r.t
theorem pt_snoc (l : List Rng) (r : Rng) (k : Nat) (hk : k < 10000) (d : Decidable (pd l k)) : pt (l ++ [r]) k = if pd l k then pt l k else if r.f ≤ k ∧ (k : Int) < r.t then r.v else 0 := by
  induction l with
  | nil => simp [pt, pd]
  | cons a l ih =>
    simp only [List.cons_append, pt]
    by_cases ha : a.f ≤ (k : Int) ∧ (k : Int) < a.t
    · have hp : pd (a :: l) k := ⟨hk, a, by simp, ha⟩
      simp only [if_pos ha, if_pos hp]
    · have e : pd (a :: l) k ↔ pd l k := by simp [pd, ha]
      have d' : Decidable (pd l k) := decidable_of_iff _ e
      rw [if_neg ha, ih d']
      by_cases h : pd l k
      · simp [h, e.2 h, if_neg ha]
      · have : ¬ pd (a :: l) k := fun x => h (e.1 x)
        simp [h, this]
theorem pd_snoc (l : List Rng) (r : Rng) (k : Nat) : pd (l ++ [r]) k ↔ pd l k ∨ (k < 10000 ∧ r.f ≤ (k : Int) ∧ (k : Int) < r.t) := by
  simp only [pd, List.mem_append, List.mem_singleton]
  constructor
  · rintro ⟨h, x, hx | rfl, hx2⟩
    · exact .inl ⟨h, x, hx, hx2⟩
    · exact .inr ⟨h, hx2⟩
  · rintro (⟨h, x, hx, h2⟩ | ⟨h, h2⟩)
    · exact ⟨h, x, .inl hx, h2⟩
    · exact ⟨h, r, .inr rfl, h2⟩
theorem pt_not (l : List Rng) (k : Nat) (hk : k < 10000) (h : ¬ pd l k) : pt l k = 0 := by
  induction l with
  | nil => rfl
  | cons a l ih =>
    have ha : ¬ (a.f ≤ (k : Int) ∧ (k : Int) < a.t) := fun x => h ⟨hk, a, by simp, x⟩
    simp only [pt, if_neg ha]
    exact ih fun ⟨h1, r, hr, h2⟩ => h ⟨h1, r, by simp [hr], h2⟩
/-- 10000 cells that hold f -/
abbrev Pnt (l : List Value) (f : Nat → Int) : Prop := Ints l 10000 f
theorem Tells.congr {p q : Nat → Prop} {nx : Nat → Nat} (h : Tells p nx) (e : ∀ k, p k ↔ q k) : Tells q nx :=
  ⟨fun j k h1 h2 h3 => (e k).1 (h.1 j k h1 h2 h3), fun j h1 h2 x => h.2 j h1 h2 ((e j).2 x)⟩
theorem Tells.paint {p : Nat → Prop} {nx : Nat → Nat} (h : Tells p nx) (n : Nat) : Tells (fun k => p k ∨ k = n) (fun j => if j = n then n + 1 else nx j) := by
  refine ⟨fun j k h1 h2 h3 => ?_, fun j h1 h2 => ?_⟩
  · by_cases e : j = n
    · subst e
      simp only [if_true] at h3
      exact .inr (by omega)
    · simp only [if_neg e] at h3
      exact .inl (h.1 j k h1 h2 h3)
  · by_cases e : j = n
    · subst e; simp at h2
    · simp only [if_neg e] at h2
      exact fun x => x.elim (h.2 j h1 h2) e

def ptr (b : Nat) : Value := .pointer (some ⟨b, 0, none⟩)
theorem z10k_is : ∃ l : List Value, Tryd.zeroCells75 = l.toArray ∧ Pnt l fun _ => 0 := by
  have h1 : isZ Tryd.zeroCells75.toList = true := by kernel_rfl
  have h2 : Tryd.zeroCells75.toList.length = 10000 := Tryd.zeroCells75_size
  exact ⟨_, by simp, h2, fun j hj => isZ_get _ h1 j (by omega)⟩
theorem z10k1_is : ∃ l : List Value, Tryd.zeroCells90 = l.toArray ∧ l.length = 10001 := by
  have h2 : Tryd.zeroCells90.toList.length = 10001 := Tryd.zeroCells90_size
  exact ⟨_, by simp, h2⟩

set_option maxRecDepth 100000 in
theorem paint_ok (oa : Option Addr) (c : Nat) (ls : List Rng) (w : World) (hr : Row w oa (recs rc ls)) (hmx : ls.length ≤ 1099511627776) :
    Ret Tryd.prog 40 #[.slice oa ls.length c] w fun v w' => ∃ l, v = .agg l.toArray ∧ Pnt l (fun k => pt ls k) ∧ Below w.heap.size w w' := by
  obtain ⟨z, hA, hz⟩ := z10k_is
  obtain ⟨z1, hA1, hz1⟩ := z10k1_is
  refine ret_of_vc Tryd.func40 rfl mixed (by kernel_rfl) ?_
  conv => whnf
  refine vloop_world (w' := ((w.alloc (.cells Tryd.zeroCells75 75)).alloc (.cells Tryd.zeroCells75 75)).alloc (.cells Tryd.zeroCells90 90)) (by kernel_rfl) ?_
  rw [hA, hA1]
  clear hA hA1
  have hB3 : Below w.heap.size w (((w.alloc (.cells z.toArray 75)).alloc (.cells z.toArray 75)).alloc (.cells z1.toArray 90)) := balloc (balloc (balloc (Below.refl _ _) (Nat.le_refl _) _) (Nat.le_refl _) _) (Nat.le_refl _) _
  have hb0 : Blk (((w.alloc (.cells z.toArray 75)).alloc (.cells z.toArray 75)).alloc (.cells z1.toArray 90)) w.heap.size z 75 := ((Blk.new w z.toArray _).alloc _).alloc _
  have hs1 : (w.alloc (.cells z.toArray 75)).heap.size = w.heap.size + 1 := by simp
  have hs2 : ((w.alloc (.cells z.toArray 75)).alloc (.cells z.toArray 75)).heap.size = w.heap.size + 2 := by simp
  have hb1 : Blk (((w.alloc (.cells z.toArray 75)).alloc (.cells z.toArray 75)).alloc (.cells z1.toArray 90)) (w.heap.size + 1) z 75 := by
    have := (Blk.new (w.alloc (.cells z.toArray 75)) z.toArray 75).alloc (.cells z1.toArray 90)
    rwa [hs1] at this
  have hb2 : Blk (((w.alloc (.cells z.toArray 75)).alloc (.cells z.toArray 75)).alloc (.cells z1.toArray 90)) (w.heap.size + 2) z1 90 := by
    have := Blk.new ((w.alloc (.cells z.toArray 75)).alloc (.cells z.toArray 75)) z1.toArray 90
    rwa [hs2] at this
  have hg1 : (w.alloc (.cells Tryd.zeroCells75 75)).heap.size = w.heap.size + 1 := by simp
  have hg2 : ((w.alloc (.cells Tryd.zeroCells75 75)).alloc (.cells Tryd.zeroCells75 75)).heap.size = w.heap.size + 2 := by simp
  generalize ((w.alloc (.cells z.toArray 75)).alloc (.cells z.toArray 75)).alloc (.cells z1.toArray 90) = w3 at hB3 hb0 hb1 hb2 ⊢
  clear hs1 hs2
  refine vloop (X := Nat × List Value) ws40_1 (fun x => [(2, ptr w.heap.size), (3, ptr (w.heap.size + 1)), (4, ptr (w.heap.size + 2)), (12, .int .i64 x.1)]) (fun x w' => x.1 ≤ 10001 ∧ Only (w.heap.size + 2) w3 w' ∧ Blk w' (w.heap.size + 2) x.2 90 ∧ x.2.length = 10001 ∧ ∀ j, j < x.1 → x.2[j]? = some (.int .i64 j)) (fun x => 10001 - x.1) (0, z1) (by kernel_rfl)
    ?_ ⟨Nat.zero_le _, Only.refl _ _, hb2, hz1, fun j hj => absurd hj (Nat.not_lt_zero _)⟩ ?_
  · exact ⟨rfl, congrArg ptr hg1, congrArg ptr hg2, rfl, trivial⟩
  rintro ⟨i, l⟩ w4 j ⟨hi, hO, hb, hl, hg⟩
  simp only at hi hb hl hg
  conv => whnf
  refine vif_split (fun hlt => ?_) (fun hge => ?_)
  · have hlt : i < 10001 := by have := of_decide_eq_true hlt; omega
    conv => whnf
    refine vs_arr1 i rfl rfl rfl hlt ?_
    conv => whnf
    refine vs_storeP hb rfl rfl (by rw [hl]; omega) ?_
    intro w5 hO5 hb5
    rw [Nat.zero_add] at hb5
    conv => whnf
    refine VBack.mk ⟨_, ?_, (i + 1, l.set i (.int .i64 (i : Nat))), rfl, ?_, ?_⟩
    · show 10001 - (i + 1) < 10001 - i; omega
    · exact ⟨rfl, rfl, rfl, intEq (incr (by omega)), trivial⟩
    · refine ⟨hlt, hO.trans hO5, hb5, by rw [List.length_set]; exact hl, fun j hj => ?_⟩
      by_cases e : j = i
      · subst e; rw [List.getElem?_set_self (by rw [hl]; exact hlt)]
      · rw [List.getElem?_set_ne (fun x => e x.symm)]
        exact hg j (by simp only at hj; omega)
  have hge : ¬ i < 10001 := by have := of_decide_eq_false hge; omega
  obtain rfl : i = 10001 := by omega
  have hn : Nx l (fun j => j) := ⟨hl, fun j hj => ⟨hg j hj, Nat.le_refl _, hj⟩⟩
  have ht : Tells (pd (ls.take 0)) (fun j => j) := ⟨fun j k _ h2 h3 => absurd h3 (by simp only; omega), fun j _ _ ⟨_, r, hr, _⟩ => by simp at hr⟩
  have hb0' := hb0.only hO (by omega)
  have hb1' := hb1.only hO (by omega)
  have hB4 : Below w.heap.size w w4 := hB3.trans (hO.below (by omega))
  clear hg hge hb0 hb1 hb2 hO hB3 hz1 hi
  have hb2' := hb
  clear hb
  conv => whnf
  refine vloop (X := Nat × List Value × List Value × (Nat → Nat)) ws40_2 (fun x => [(22, .int .i64 x.1)]) (fun x w' => x.1 ≤ ls.length ∧ Below w.heap.size w w' ∧ Blk w' w.heap.size z 75 ∧ Blk w' (w.heap.size + 1) x.2.1 75 ∧ Blk w' (w.heap.size + 2) x.2.2.1 90 ∧
      Pnt x.2.1 (fun k => pt (ls.take x.1) k) ∧ Nx x.2.2.1 x.2.2.2 ∧ Tells (pd (ls.take x.1)) x.2.2.2) (fun x => ls.length - x.1) (0, z, l, fun j => j) (by kernel_rfl)
    ?_ ⟨Nat.zero_le _, hB4, hb0', hb1', hb2', hz, hn, ht⟩ ?_
  · exact ⟨rfl, trivial⟩
  rintro ⟨i, lo, ln, nx⟩ w5 j5 ⟨hi, hB5, hc0, hc1, hc2, hp, hnx, htl⟩
  simp only at hi hc1 hc2 hp hnx htl
  conv => whnf
  refine vif_split (fun hlt => ?_) (fun hge => ?_)
  · have hlt : i < ls.length := by have := of_decide_eq_true hlt; omega
    obtain ⟨b, o, rfl, hbl, hc⟩ := hr.get (by rw [recs_len rc_len]; omega)
    have hc' : ∀ j v, (recs rc ls)[j]? = some v → w5.cell? ⟨b, o + j, none⟩ = some v := fun j v hj => by rw [hB5.cell (p := ⟨b, o + j, none⟩) hbl]; exact hc j v hj
    conv => whnf
    refine vs_sl i rfl rfl rfl hlt ?_
    conv => whnf
    refine vs_loadS hc' (recs_seg rc_len ls i hlt) rfl rfl ?_
    conv => whnf
    refine vs_storeN (Blk.new _ _ _) rfl rfl rfl ?_
    intro w6 hO6 hb6
    have hd0 := (hc0.alloc _).only hO6 (by have := hc2.lt; omega)
    have hd1 := (hc1.alloc _).only hO6 (by have := hc2.lt; omega)
    have hd2 := (hc2.alloc _).only hO6 (by have := hc2.lt; omega)
    have hB6 : Below w.heap.size w w6 := (balloc hB5 (Nat.le_refl _) _).trans (hO6.below (by have := hc2.lt; omega))
    have hne : w5.heap.size > w.heap.size + 2 := hc2.lt
    have hb6' : Blk w6 w5.heap.size (rc ls[i]) 69 := hb6
    clear hO6 hb6 hc'
    conv => whnf
    (refine vdrawAt plan40 (by kernel_rfl) ?_; conv => whnf)
    repeat (first | (refine VReq.mk (by first | decide | omega) ?_; conv => whnf) | (refine VPend.mk rfl ?_; conv => whnf) | (refine VNext.keep rfl ?_; conv => whnf) | (refine vs_loadB rfl (by assumption) rfl ?_; conv => whnf) | (refine vs_arrL rfl rfl rfl ?_; conv => whnf) | (refine vs_storeB (by assumption) rfl rfl rfl ?_; intro _ _ _; conv => whnf))
    have hfr : ∃ fr : Nat, min (max (ls[i]).f 0) 10000 = (fr : Int) := nat_of (by omega)
    obtain ⟨fr, hfr⟩ := hfr
    have hfr' : fr < 10001 := by omega
    have hto : ∃ to : Int, to = min (ls[i]).t 10000 := ⟨_, rfl⟩
    obtain ⟨to, hto⟩ := hto
    rw [hfr, ← hto]
    have hrr : ∃ r : Rng, r = ls[i] := ⟨_, rfl⟩
    obtain ⟨r, hrr⟩ := hrr
    rw [← hrr] at hb6' hfr hto
    have hcov : ∀ k : Nat, k < 10000 → ((fr ≤ k ∧ (k : Int) < to) ↔ (r.f ≤ (k : Int) ∧ (k : Int) < r.t)) := fun k hk => by omega
    have hpn : ∀ k, pd (ls.take i) k → k < 10000 := fun k h => h.1
    have hpts : ∀ (k : Nat) (d : Decidable (pd (ls.take i) k)), k < 10000 → pt (ls.take (i + 1)) k = if pd (ls.take i) k then pt (ls.take i) k else if r.f ≤ k ∧ (k : Int) < r.t then r.v else 0 := fun k d hk => by
      rw [List.take_succ_eq_append_getElem hlt, ← hrr]; exact pt_snoc _ _ _ hk d
    have hpds : ∀ k, pd (ls.take (i + 1)) k ↔ pd (ls.take i) k ∨ (k < 10000 ∧ r.f ≤ (k : Int) ∧ (k : Int) < r.t) := fun k => by
      rw [List.take_succ_eq_append_getElem hlt, ← hrr]; exact pd_snoc _ _ _
    have hptn : ∀ k : Nat, k < 10000 → ¬ pd (ls.take i) k → pt (ls.take i) k = 0 := fun k hk h => pt_not _ _ hk h
    refine vcall (by kernel_rfl) (find_ok (pd (ls.take i)) (w.heap.size + 2) ln nx fr w6.drew hd2 hnx htl hfr') ?_
    rintro _ w7 ⟨n, ln1, nx1, rfl, hO7, he2, hnx1, htl1, hn1, hn2, hn3, hn4⟩
    have he0 := hd0.only (w := w6.drew) hO7 (by omega)
    have he1 := hd1.only (w := w6.drew) hO7 (by omega)
    have he3 := hb6'.only (w := w6.drew) hO7 (by omega)
    have hB7 : Below w.heap.size w w7 := Below.trans (belowDrew hB6) (hO7.below (by omega))
    clear hd0 hd1 hd2 hB6 hb6' hO7 hc0 hc1 hc2
    conv => whnf
    refine vloop (X := Nat × List Value × List Value × (Nat → Nat)) ws40_3 (fun x => [(11, .int .i64 x.1)]) (fun x w' => fr ≤ x.1 ∧ x.1 < 10001 ∧ Below w.heap.size w w' ∧ Blk w' w.heap.size z 75 ∧ Blk w' (w.heap.size + 1) x.2.1 75 ∧ Blk w' (w.heap.size + 2) x.2.2.1 90 ∧ Blk w' w5.heap.size (rc r) 69 ∧
        (∃ g : Nat → Int, Pnt x.2.1 g ∧ ∀ k : Nat, k < 10000 → (((fr ≤ k ∧ k < x.1 ∧ (k : Int) < to) ∧ ¬ pd (ls.take i) k) → g k = r.v) ∧ (¬ ((fr ≤ k ∧ k < x.1 ∧ (k : Int) < to) ∧ ¬ pd (ls.take i) k) → g k = pt (ls.take i) k)) ∧
        Nx x.2.2.1 x.2.2.2 ∧ Tells (fun k => pd (ls.take i) k ∨ (fr ≤ k ∧ k < x.1 ∧ (k : Int) < to)) x.2.2.2 ∧ ¬ pd (ls.take i) x.1 ∧ ∀ k, fr ≤ k → k < x.1 → to ≤ (k : Int) → pd (ls.take i) k) (fun x => 10001 - x.1) (n, lo, ln1, nx1) (by kernel_rfl)
      ?_ ⟨hn1, hn2, hB7, he0, he1, he2, he3, ⟨fun k => pt (ls.take i) k, hp, fun k hk => ⟨fun h => absurd (hn4 k h.1.1 h.1.2.1) h.2, fun _ => rfl⟩⟩, hnx1, htl1.congr fun k => ⟨.inl, fun h => h.elim id fun h => hn4 k h.1 h.2.1⟩, hn3, fun k h1 h2 _ => hn4 k h1 h2⟩ ?_
    · exact ⟨rfl, trivial⟩
    clear he0 he1 he2 he3 hB7 hnx1 htl1 hn4 hn3 hn2 hn1
    rintro ⟨m, lo2, ln2, nx2⟩ w8 j8 ⟨hm1, hm2, hB8, hf0, hf1, hf2, hf3, ⟨g, hg1, hg2⟩, hnx2, htl2, hm3, hm4⟩
    simp only at hm1 hm2 hf1 hf2 hg1 hg2 hnx2 htl2 hm3 hm4
    conv => whnf
    refine vif_split (fun hlt2 => ?_) (fun hge2 => ?_)
    · have hlt2 : (m : Int) < to := of_decide_eq_true hlt2
      have hm10 : m < 10000 := by omega
      conv => whnf
      refine vs_loadB rfl hf3 rfl ?_
      conv => whnf
      refine vs_arr1 m rfl rfl rfl hm10 ?_
      conv => whnf
      refine vs_storeP hf1 rfl rfl (by rw [hg1.1]; omega) ?_
      intro w9 hO9 hg1'
      rw [Nat.zero_add] at hg1'
      have hg0 := hf0.only hO9 (by omega)
      have hg2' := hf2.only hO9 (by omega)
      have hg3 := hf3.only hO9 (by omega)
      have hB9 := hB8.trans (hO9.below (by omega))
      have hP9 := hg1.set m r.v hm10
      clear hf0 hf1 hf2 hf3 hO9 hB8
      conv => whnf
      refine vs_arr1 m rfl rfl rfl hm2 ?_
      conv => whnf
      refine vs_storeP hg2' rfl rfl (by rw [hnx2.1]; omega) ?_
      intro w10 hO10 hk2
      rw [Nat.zero_add, incr (by omega)] at hk2
      have hk0 := hg0.only hO10 (by omega)
      have hk1 := hg1'.only hO10 (by omega)
      have hk3 := hg3.only hO10 (by omega)
      have hB10 := hB9.trans (hO10.below (by omega))
      have hnx3 := hnx2.set m (m + 1) hm2 (by omega) (by omega)
      have htl3 := htl2.paint m
      clear hg0 hg1' hg2' hg3 hO10 hB9
      conv => whnf
      refine vcall (by kernel_rfl) (find_ok _ (w.heap.size + 2) _ _ m w10 hk2 hnx3 htl3 hm2) ?_
      rintro _ w11 ⟨n3, ln3, nx3, rfl, hO11, hq2, hnx4, htl4, hq4, hq5, hq6, hq7⟩
      have hq0 := hk0.only hO11 (by omega)
      have hq1 := hk1.only hO11 (by omega)
      have hq3 := hk3.only hO11 (by omega)
      have hB11 := hB10.trans (hO11.below (by omega))
      clear hk0 hk1 hk2 hk3 hO11 hB10
      have hne3 : n3 ≠ m := fun e => hq6 (.inr e)
      conv => whnf
      refine VBack.mk ⟨_, ?_, (n3, lo2.set m (.int .i64 r.v), ln3, nx3), rfl, ?_, ?_⟩
      · show 10001 - n3 < 10001 - m; omega
      · exact ⟨rfl, trivial⟩
      · refine ⟨by show fr ≤ n3; omega, hq5, hB11, hq0, hq1, hq2, hq3, ⟨_, hP9, fun k hk => ?_⟩, hnx4, htl4.congr fun k => ?_, fun h => hq6 (.inl (.inl h)), fun k h1 h2 h3 => ?_⟩
        · by_cases e : k = m
          · subst e
            exact ⟨fun _ => if_pos rfl, fun h => absurd ⟨⟨hm1, by omega, hlt2⟩, hm3⟩ h⟩
          · simp only [if_neg e]
            have h7 : m < k → k < n3 → (k : Int) < to → pd (ls.take i) k := fun h1 h2 h3 => by
              rcases hq7 k (by omega) h2 with (h | h) | h <;> first | exact h | omega
            refine ⟨fun h => (hg2 k hk).1 ⟨⟨h.1.1, ?_, h.1.2.2⟩, h.2⟩, fun h => (hg2 k hk).2 fun h' => h ⟨⟨h'.1.1, by omega, h'.1.2.2⟩, h'.2⟩⟩
            by_cases hlt3 : k < m
            · exact hlt3
            · exact absurd (h7 (by omega) h.1.2.1 h.1.2.2) h.2
        · constructor
          · rintro ((h | h) | h)
            · exact .inl h
            · exact .inr ⟨h.1, by omega, h.2.2⟩
            · subst h; exact .inr ⟨hm1, by omega, hlt2⟩
          · rintro (h | h)
            · exact .inl (.inl h)
            · by_cases hlt3 : k < m
              · exact .inl (.inr ⟨h.1, hlt3, h.2.2⟩)
              · exact hq7 k (by omega) h.2.1
        · by_cases hlt3 : k < m
          · exact hm4 k h1 hlt3 h3
          · rcases hq7 k (by omega) h2 with (h | h) | h
            · exact h
            · omega
            · omega
    · have hge2 : ¬ (m : Int) < to := of_decide_eq_false hge2
      conv => whnf
      refine VBack.mk ⟨_, ?_, (i + 1, lo2, ln2, nx2), rfl, ?_, ?_⟩
      · show ls.length - (i + 1) < ls.length - i; omega
      · exact ⟨intEq (incr (by omega)), trivial⟩
      · refine ⟨hlt, hB8, hf0, hf1, hf2, hg1.congr fun k hk => ?_, hnx2, htl2.congr fun k => ?_⟩
        · have d : Decidable (pd (ls.take i) k) := Classical.propDecidable _
          rw [hpts k d hk]
          by_cases hpk : pd (ls.take i) k
          · rw [if_pos hpk]; exact (hg2 k hk).2 fun h => h.2 hpk
          · rw [if_neg hpk]
            have hc3 := hcov k hk
            by_cases hcv : r.f ≤ (k : Int) ∧ (k : Int) < r.t
            · rw [if_pos hcv]
              have hc4 := hc3.2 hcv
              exact (hg2 k hk).1 ⟨⟨hc4.1, by omega, hc4.2⟩, hpk⟩
            · rw [if_neg hcv, (hg2 k hk).2 fun h => hcv (hc3.1 ⟨h.1.1, h.1.2.2⟩)]
              exact hptn k hk hpk
        · rw [hpds k]
          constructor
          · rintro (h | h)
            · exact .inl h
            · exact .inr ⟨by omega, (hcov k (by omega)).1 ⟨h.1, h.2.2⟩⟩
          · rintro (h | h)
            · exact .inl h
            · have hc4 := (hcov k h.1).2 h.2
              by_cases hlt3 : k < m
              · exact .inr ⟨hc4.1, hlt3, hc4.2⟩
              · omega
  · have hge : ¬ i < ls.length := by have := of_decide_eq_false hge; omega
    obtain rfl : i = ls.length := by omega
    rw [List.take_length] at hp
    conv => whnf
    refine vs_loadNB rfl (by rw [hp.1]; rfl) hc1 ?_
    conv => whnf
    refine vs_storeW hc0 (by rw [hp.1]; rfl) hp.one (by rw [hp.1, hz.1]) ?_
    intro w6 hO6 hb6
    conv => whnf
    refine vs_loadNB rfl (by rw [hp.1]; rfl) hb6 ?_
    conv => whnf
    refine VPend.mk rfl ?_
    conv => whnf
    exact VEnd.mk ⟨lo, rfl, hp, hB5.trans (hO6.below (Nat.le_refl _))⟩
end Go.Proofs.YthnncehddnfjmaaDoor.Bk
