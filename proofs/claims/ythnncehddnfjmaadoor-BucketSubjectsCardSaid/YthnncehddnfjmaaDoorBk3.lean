/- The walks of the reference's All, and of both texts' Pick and Moved. Conditions: the arguments read as lists of ranges. -/
import Derived.Test.YthnncehddnfjmaaDoorBk2
set_option linter.unusedVariables false
set_option linter.unusedSimpArgs false
namespace Go.Proofs.YthnncehddnfjmaaDoor.Bk
open Go Go.RowKit Go.Proofs.YthnncehddnfjmaaDoor.Vc Go.Proofs.YthnncehddnfjmaaDoor.Dg
attribute [local irreducible] loadVar storeVar Instr.indexAt Instr.index Instr.sliceAt Instr.makeSlice Instr.lookup Instr.mapUpdate Instr.range Instr.next Instr.entry Instr.makeMap Builtin.append_ Builtin.copy_ Builtin.len_ Builtin.min_ Builtin.max_ Builtin.cap_ Builtin.delete_ Builtin.clear_ convert binOp eqGuard Op.unary Calls

set_option maxRecDepth 100000 in
theorem all_ok (oa : Option Addr) (c : Nat) (ls : List Rng) (w : World) (hr : Row w oa (recs rc ls)) (hmx : ls.length ≤ 1099511627776) :
    Ret Tryd.prog 43 #[.slice oa ls.length c] w fun v w' => ∃ b l, v = .slice (some ⟨b, 0, none⟩) 10000 10000 ∧ w.heap.size ≤ b ∧ Blk w' b l 3 ∧ Pnt l (fun k => pt ls k) ∧ Below w.heap.size w w' := by
  refine ret_of_vc Tryd.func43 rfl mixed (by kernel_rfl) ?_
  conv => whnf
  refine vs_makeI (n := 10000) rfl rfl rfl rfl rfl rfl (by omega) ?_
  intro w1 z hB1 hb1 hz
  conv => whnf
  refine vloop (X := Nat × List Value) ws43_1 (fun x => [(4, .int .i64 ((x.1 : Int) - 1))]) (fun x w' => x.1 ≤ ls.length ∧ Below w.heap.size w w' ∧ Blk w' w.heap.size x.2 3 ∧ Pnt x.2 (fun k => pt (ls.drop x.1) k)) (fun x => x.1) (ls.length, z) (by kernel_rfl)
    ?_ ⟨Nat.le_refl _, hB1, hb1, by simpa [pt] using hz⟩ ?_
  · exact ⟨intEq (i64_of (by omega) (by omega)), trivial⟩
  rintro ⟨m, l⟩ w2 j ⟨hm, hB2, hb2, hp⟩
  simp only at hm hb2 hp ⊢
  conv => whnf
  refine vif_split (fun hlt => ?_) (fun hge => ?_)
  · have hlt : (m : Int) - 1 ≥ 0 := of_decide_eq_true hlt
    obtain ⟨i, rfl⟩ : ∃ i, m = i + 1 := ⟨m - 1, by omega⟩
    have e : ((i + 1 : Nat) : Int) - 1 = (i : Int) := by omega
    rw [e]
    obtain ⟨b, o, rfl, hbl, hc⟩ := hr.at (by rw [recs_len rc_len]; omega)
    have hseg := recs_seg rc_len ls i hm
    have hc2 := hc.below hB2 hbl
    have hm' : i < ls.length := hm
    conv => whnf
    (repeat (first | (refine VReq.mk (by first | decide | omega) ?_; conv => whnf) | (refine VPend.mk rfl ?_; conv => whnf) | (refine VNext.keep rfl ?_; conv => whnf) | (refine vs_slI1 _ rfl rfl rfl (by assumption) ?_; conv => whnf) | (refine vs_slI _ rfl rfl rfl (by assumption) ?_; conv => whnf) | (refine vs_arr1 _ rfl rfl rfl (by assumption) ?_; conv => whnf) | (refine vs_loadF (by with_reducible assumption) (by assumption) rfl rfl ?_; conv => whnf) | (refine vs_loadF0 (by with_reducible assumption) (by assumption) rfl rfl ?_; conv => whnf) | (refine vs_loadI (by with_reducible assumption) (by assumption) rfl ?_; conv => whnf) | (refine vs_loadB rfl (by with_reducible assumption) (by assumption) ?_; conv => whnf)))
    have hfr : ∃ fr : Nat, max (ls[i]).f 0 = (fr : Int) := nat_of (by omega)
    obtain ⟨fr, hfr⟩ := hfr
    obtain ⟨to, hto⟩ : ∃ to : Int, to = min (ls[i]).t 10000 := ⟨_, rfl⟩
    obtain ⟨r, hrr⟩ : ∃ r : Rng, r = ls[i] := ⟨_, rfl⟩
    rw [hfr]
    have hd : ∀ k : Nat, pt (ls.drop i) k = if r.f ≤ k ∧ (k : Int) < r.t then r.v else pt (ls.drop (i + 1)) k := fun k => by
      rw [List.drop_eq_getElem_cons hm', hrr]; rfl
    have hcov : ∀ k : Nat, k < 10000 → ((fr ≤ k ∧ (k : Int) < to) ↔ (r.f ≤ (k : Int) ∧ (k : Int) < r.t)) := fun k hk => by rw [hrr]; omega
    refine vloop (X := Nat × List Value) ws43_2 (fun x => [(5, .int .i64 x.1)]) (fun x w' => fr ≤ x.1 ∧ (fr < x.1 → (x.1 : Int) ≤ to) ∧ Below w.heap.size w w' ∧ Blk w' w.heap.size x.2 3 ∧ ∃ g : Nat → Int, Pnt x.2 g ∧ ∀ k : Nat, k < 10000 → ((fr ≤ k ∧ k < x.1) → g k = r.v) ∧ (¬ (fr ≤ k ∧ k < x.1) → g k = pt (ls.drop (i + 1)) k)) (fun x => 10000 - x.1) (fr, l) (by kernel_rfl)
      ?_ ⟨Nat.le_refl _, fun h => absurd h (by simp), hB2, hb2, _, hp, fun k hk => ⟨fun h => absurd h (by simp only; omega), fun _ => rfl⟩⟩ ?_
    · exact ⟨rfl, trivial⟩
    rintro ⟨n, l3⟩ w3 j3 ⟨hn1, hn2, hB3, hb3, g, hg1, hg2⟩
    simp only at hn1 hn2 hb3 hg1 hg2 ⊢
    have hc3 := hc.below hB3 hbl
    clear hc2 hb2
    conv => whnf
    (repeat (first | (refine VReq.mk (by first | decide | omega) ?_; conv => whnf) | (refine VPend.mk rfl ?_; conv => whnf) | (refine VNext.keep rfl ?_; conv => whnf) | (refine vs_slI1 _ rfl rfl rfl (by assumption) ?_; conv => whnf) | (refine vs_slI _ rfl rfl rfl (by assumption) ?_; conv => whnf) | (refine vs_arr1 _ rfl rfl rfl (by assumption) ?_; conv => whnf) | (refine vs_loadF (by with_reducible assumption) (by assumption) rfl rfl ?_; conv => whnf) | (refine vs_loadF0 (by with_reducible assumption) (by assumption) rfl rfl ?_; conv => whnf) | (refine vs_loadI (by with_reducible assumption) (by assumption) rfl ?_; conv => whnf) | (refine vs_loadB rfl (by with_reducible assumption) (by assumption) ?_; conv => whnf)))
    rw [← hto]
    refine vif_split (fun hlt2 => ?_) (fun hge2 => ?_)
    · have hlt2 : (n : Int) < to := of_decide_eq_true hlt2
      have hn10 : n < 10000 := by omega
      conv => whnf
      (repeat (first | (refine VReq.mk (by first | decide | omega) ?_; conv => whnf) | (refine VPend.mk rfl ?_; conv => whnf) | (refine VNext.keep rfl ?_; conv => whnf) | (refine vs_slI1 _ rfl rfl rfl (by assumption) ?_; conv => whnf) | (refine vs_slI _ rfl rfl rfl (by assumption) ?_; conv => whnf) | (refine vs_arr1 _ rfl rfl rfl (by assumption) ?_; conv => whnf) | (refine vs_loadF (by with_reducible assumption) (by assumption) rfl rfl ?_; conv => whnf) | (refine vs_loadF0 (by with_reducible assumption) (by assumption) rfl rfl ?_; conv => whnf) | (refine vs_loadI (by with_reducible assumption) (by assumption) rfl ?_; conv => whnf) | (refine vs_loadB rfl (by with_reducible assumption) (by assumption) ?_; conv => whnf)))
      refine vs_storeP hb3 rfl rfl (by rw [hg1.1]; omega) ?_
      intro w4 hO4 hb4
      rw [Nat.zero_add, ← hrr] at hb4
      conv => whnf
      refine VBack.mk ⟨_, ?_, (n + 1, l3.set n (.int .i64 r.v)), rfl, ?_, ?_⟩
      · show 10000 - (n + 1) < 10000 - n; omega
      · exact ⟨intEq (incr (by omega)), trivial⟩
      · refine ⟨by show fr ≤ n + 1; omega, fun _ => by show ((n + 1 : Nat) : Int) ≤ to; omega, hB3.trans (hO4.below (Nat.le_refl _)), hb4, _, hg1.set n r.v hn10, fun k hk => ?_⟩
        by_cases e : k = n
        · subst e
          exact ⟨fun _ => if_pos rfl, fun h => absurd ⟨hn1, Nat.lt_succ_self _⟩ h⟩
        · simp only [if_neg e]
          exact ⟨fun h => (hg2 k hk).1 ⟨h.1, by omega⟩, fun h => (hg2 k hk).2 fun h' => h ⟨h'.1, by omega⟩⟩
    · have hge2 : ¬ (n : Int) < to := of_decide_eq_false hge2
      conv => whnf
      refine VBack.mk ⟨_, ?_, (i, l3), rfl, ?_, ?_⟩
      · show i < i + 1; omega
      · exact ⟨intEq (i64_of (by omega) (by omega)), trivial⟩
      · refine ⟨by show i ≤ ls.length; omega, hB3, hb3, hg1.congr fun k hk => ?_⟩
        simp only
        rw [hd k]
        have h1 := hcov k hk
        by_cases hcv : r.f ≤ (k : Int) ∧ (k : Int) < r.t
        · rw [if_pos hcv]
          have := h1.2 hcv
          exact (hg2 k hk).1 ⟨this.1, by omega⟩
        · rw [if_neg hcv]
          exact (hg2 k hk).2 fun h => hcv (h1.1 ⟨h.1, by omega⟩)
  · have hge : ¬ (m : Int) - 1 ≥ 0 := of_decide_eq_false hge
    obtain rfl : m = 0 := by omega
    conv => whnf
    exact VEnd.mk ⟨w.heap.size, l, rfl, Nat.le_refl _, hb2, by simpa using hp, hB2⟩

set_option maxRecDepth 100000 in
theorem pick1_ok (oa : Option Addr) (c : Nat) (ls : List Rng) (x : Int) (w : World) (hr : Row w oa (recs rc ls)) (hmx : ls.length ≤ 1099511627776) :
    Ret Tryd.prog 19 #[.slice oa ls.length c, .int .i64 x] w fun v w' => v = .int .i64 (pt ls x) ∧ Below w.heap.size w w' := by
  refine ret_of_vc Tryd.func19 rfl mixed (by kernel_rfl) ?_
  conv => whnf
  refine vloop (X := Nat) ws19_1 (fun i => [(9, .int .i64 i)]) (fun i w' => i ≤ ls.length ∧ Below w.heap.size w w' ∧ pt ls x = pt (ls.drop i) x) (fun i => ls.length - i) 0 (by kernel_rfl)
    ?_ ⟨Nat.zero_le _, Below.refl _ _, rfl⟩ ?_
  · exact ⟨rfl, trivial⟩
  rintro i w1 j ⟨hi, hB1, hp⟩
  conv => whnf
  refine vif_split (fun hlt => ?_) (fun hge => ?_)
  · have hlt : i < ls.length := by have := of_decide_eq_true hlt; omega
    obtain ⟨b, o, rfl, hbl, hc⟩ := hr.at (by rw [recs_len rc_len]; omega)
    have hseg := recs_seg rc_len ls i hlt
    have hc1 := hc.below hB1 hbl
    have hd : pt (ls.drop i) x = if (ls[i]).f ≤ x ∧ x < (ls[i]).t then (ls[i]).v else pt (ls.drop (i + 1)) x := by
      rw [List.drop_eq_getElem_cons hlt]; rfl
    rw [hd] at hp
    conv => whnf
    (repeat (first | (refine VReq.mk (by first | decide | omega) ?_; conv => whnf) | (refine VPend.mk rfl ?_; conv => whnf) | (refine VNext.keep rfl ?_; conv => whnf) | (refine vs_slI1 _ rfl rfl rfl (by assumption) ?_; conv => whnf) | (refine vs_slI _ rfl rfl rfl (by assumption) ?_; conv => whnf) | (refine vs_arr1 _ rfl rfl rfl (by assumption) ?_; conv => whnf) | (refine vs_loadF (by with_reducible assumption) (by assumption) rfl rfl ?_; conv => whnf) | (refine vs_loadF0 (by with_reducible assumption) (by assumption) rfl rfl ?_; conv => whnf) | (refine vs_loadI (by with_reducible assumption) (by assumption) rfl ?_; conv => whnf) | (refine vs_loadB rfl (by with_reducible assumption) (by assumption) ?_; conv => whnf)))
    refine vs_loadS hc1 hseg rfl rfl ?_
    conv => whnf
    refine vs_storeW (Blk.new _ _ _) rfl rfl rfl ?_
    intro w2 hO2 hb2
    have hB2 : Below w.heap.size w w2 := (balloc hB1 (Nat.le_refl _) _).trans (hO2.below hB1.size)
    conv => whnf
    refine vs_loadB rfl hb2 rfl ?_
    conv => whnf
    refine vif_split (fun h1 => ?_) (fun h1 => ?_)
    · have h1 : (ls[i]).f ≤ x := of_decide_eq_true h1
      conv => whnf
      refine vs_loadB rfl hb2 rfl ?_
      conv => whnf
      refine vif_split (fun h2 => ?_) (fun h2 => ?_)
      · have h2 : x < (ls[i]).t := of_decide_eq_true h2
        rw [if_pos ⟨h1, h2⟩] at hp
        conv => whnf
        refine vs_loadB rfl hb2 rfl ?_
        conv => whnf
        exact VEnd.mk ⟨by rw [hp]; rfl, hB2⟩
      · have h2 : ¬ x < (ls[i]).t := of_decide_eq_false h2
        rw [if_neg fun h => h2 h.2] at hp
        conv => whnf
        refine VBack.mk ⟨_, ?_, (i + 1), rfl, ?_, ?_⟩
        · show ls.length - (i + 1) < ls.length - i; omega
        · exact ⟨intEq (incr (by omega)), trivial⟩
        · exact ⟨hlt, hB2, hp⟩
    · have h1 : ¬ (ls[i]).f ≤ x := of_decide_eq_false h1
      rw [if_neg fun h => h1 h.1] at hp
      conv => whnf
      refine VBack.mk ⟨_, ?_, (i + 1), rfl, ?_, ?_⟩
      · show ls.length - (i + 1) < ls.length - i; omega
      · exact ⟨intEq (incr (by omega)), trivial⟩
      · exact ⟨hlt, hB2, hp⟩
  · have hge : ¬ i < ls.length := by have := of_decide_eq_false hge; omega
    obtain rfl : i = ls.length := by omega
    rw [List.drop_length] at hp
    conv => whnf
    exact VEnd.mk ⟨by rw [hp]; rfl, hB1⟩

set_option maxRecDepth 100000 in
theorem pick2_ok (oa : Option Addr) (c : Nat) (ls : List Rng) (x : Int) (w : World) (hr : Row w oa (recs rc ls)) (hmx : ls.length ≤ 1099511627776) :
    Ret Tryd.prog 20 #[.slice oa ls.length c, .int .i64 x] w fun v w' => v = .int .i64 (pt ls x) ∧ Below w.heap.size w w' := by
  refine ret_of_vc Tryd.func20 rfl mixed (by kernel_rfl) ?_
  conv => whnf
  refine vloop (X := Nat) ws20_1 (fun i => [(5, .int .i64 i)]) (fun i w' => i ≤ ls.length ∧ Below w.heap.size w w' ∧ pt ls x = pt (ls.drop i) x) (fun i => ls.length - i) 0 (by kernel_rfl)
    ?_ ⟨Nat.zero_le _, Below.refl _ _, rfl⟩ ?_
  · exact ⟨rfl, trivial⟩
  rintro i w1 j ⟨hi, hB1, hp⟩
  conv => whnf
  refine vif_split (fun hlt => ?_) (fun hge => ?_)
  · have hlt : i < ls.length := by have := of_decide_eq_true hlt; omega
    obtain ⟨b, o, rfl, hbl, hc⟩ := hr.at (by rw [recs_len rc_len]; omega)
    have hseg := recs_seg rc_len ls i hlt
    have hc1 := hc.below hB1 hbl
    have hd : pt (ls.drop i) x = if (ls[i]).f ≤ x ∧ x < (ls[i]).t then (ls[i]).v else pt (ls.drop (i + 1)) x := by
      rw [List.drop_eq_getElem_cons hlt]; rfl
    rw [hd] at hp
    conv => whnf
    (repeat (first | (refine VReq.mk (by first | decide | omega) ?_; conv => whnf) | (refine VPend.mk rfl ?_; conv => whnf) | (refine VNext.keep rfl ?_; conv => whnf) | (refine vs_slI1 _ rfl rfl rfl (by assumption) ?_; conv => whnf) | (refine vs_slI _ rfl rfl rfl (by assumption) ?_; conv => whnf) | (refine vs_arr1 _ rfl rfl rfl (by assumption) ?_; conv => whnf) | (refine vs_loadF (by with_reducible assumption) (by assumption) rfl rfl ?_; conv => whnf) | (refine vs_loadF0 (by with_reducible assumption) (by assumption) rfl rfl ?_; conv => whnf) | (refine vs_loadI (by with_reducible assumption) (by assumption) rfl ?_; conv => whnf) | (refine vs_loadB rfl (by with_reducible assumption) (by assumption) ?_; conv => whnf)))
    refine vif_split (fun h1 => ?_) (fun h1 => ?_)
    · have h1 : (ls[i]).f ≤ x := of_decide_eq_true h1
      conv => whnf
      (repeat (first | (refine VReq.mk (by first | decide | omega) ?_; conv => whnf) | (refine VPend.mk rfl ?_; conv => whnf) | (refine VNext.keep rfl ?_; conv => whnf) | (refine vs_slI1 _ rfl rfl rfl (by assumption) ?_; conv => whnf) | (refine vs_slI _ rfl rfl rfl (by assumption) ?_; conv => whnf) | (refine vs_arr1 _ rfl rfl rfl (by assumption) ?_; conv => whnf) | (refine vs_loadF (by with_reducible assumption) (by assumption) rfl rfl ?_; conv => whnf) | (refine vs_loadF0 (by with_reducible assumption) (by assumption) rfl rfl ?_; conv => whnf) | (refine vs_loadI (by with_reducible assumption) (by assumption) rfl ?_; conv => whnf) | (refine vs_loadB rfl (by with_reducible assumption) (by assumption) ?_; conv => whnf)))
      refine vif_split (fun h2 => ?_) (fun h2 => ?_)
      · have h2 : x < (ls[i]).t := of_decide_eq_true h2
        rw [if_pos ⟨h1, h2⟩] at hp
        conv => whnf
        (repeat (first | (refine VReq.mk (by first | decide | omega) ?_; conv => whnf) | (refine VPend.mk rfl ?_; conv => whnf) | (refine VNext.keep rfl ?_; conv => whnf) | (refine vs_slI1 _ rfl rfl rfl (by assumption) ?_; conv => whnf) | (refine vs_slI _ rfl rfl rfl (by assumption) ?_; conv => whnf) | (refine vs_arr1 _ rfl rfl rfl (by assumption) ?_; conv => whnf) | (refine vs_loadF (by with_reducible assumption) (by assumption) rfl rfl ?_; conv => whnf) | (refine vs_loadF0 (by with_reducible assumption) (by assumption) rfl rfl ?_; conv => whnf) | (refine vs_loadI (by with_reducible assumption) (by assumption) rfl ?_; conv => whnf) | (refine vs_loadB rfl (by with_reducible assumption) (by assumption) ?_; conv => whnf)))
        exact VEnd.mk ⟨by rw [hp]; rfl, hB1⟩
      · have h2 : ¬ x < (ls[i]).t := of_decide_eq_false h2
        rw [if_neg fun h => h2 h.2] at hp
        conv => whnf
        refine VBack.mk ⟨_, ?_, (i + 1), rfl, ?_, ?_⟩
        · show ls.length - (i + 1) < ls.length - i; omega
        · exact ⟨intEq (incr (by omega)), trivial⟩
        · exact ⟨hlt, hB1, hp⟩
    · have h1 : ¬ (ls[i]).f ≤ x := of_decide_eq_false h1
      rw [if_neg fun h => h1 h.1] at hp
      conv => whnf
      refine VBack.mk ⟨_, ?_, (i + 1), rfl, ?_, ?_⟩
      · show ls.length - (i + 1) < ls.length - i; omega
      · exact ⟨intEq (incr (by omega)), trivial⟩
      · exact ⟨hlt, hB1, hp⟩
  · have hge : ¬ i < ls.length := by have := of_decide_eq_false hge; omega
    obtain rfl : i = ls.length := by omega
    rw [List.drop_length] at hp
    conv => whnf
    exact VEnd.mk ⟨by rw [hp]; rfl, hB1⟩

/-- how many of the first k buckets differ -/
def dif (f g : Nat → Int) : Nat → Int
  | 0 => 0
  | k + 1 => dif f g k + if f k = g k then 0 else 1
theorem dif_le (f g : Nat → Int) (k : Nat) : 0 ≤ dif f g k ∧ dif f g k ≤ k := by
  induction k with
  | zero => simp [dif]
  | succ k ih => simp only [dif]; split <;> omega

set_option maxRecDepth 100000 in
theorem moved2_ok (oa oa' : Option Addr) (c c' : Nat) (ls ls' : List Rng) (w : World) (hr : Row w oa (recs rc ls)) (hr' : Row w oa' (recs rc ls')) (hmx : ls.length ≤ 1099511627776) (hmx' : ls'.length ≤ 1099511627776) :
    Ret Tryd.prog 24 #[.slice oa ls.length c, .slice oa' ls'.length c'] w fun v w' => v = .int .i64 (dif (fun k => pt ls k) (fun k => pt ls' k) 10000) ∧ Below w.heap.size w w' := by
  refine ret_of_vc Tryd.func24 rfl mixed (by kernel_rfl) ?_
  conv => whnf
  refine vcall (by kernel_rfl) (all_ok oa c ls w hr hmx) ?_
  rintro _ w1 ⟨b1, l1, rfl, hb1, hk1, hp1, hB1⟩
  conv => whnf
  refine vcall (by kernel_rfl) (all_ok oa' c' ls' w1 (hr'.below hB1) hmx') ?_
  rintro _ w2 ⟨b2, l2, rfl, hb2, hk2, hp2, hB2⟩
  have hk1' := (hk1.below hB2 hk1.lt).at
  have hk2' := hk2.at
  have hB : Below w.heap.size w w2 := hB1.trans (hB2.mono hB1.size)
  clear hk1 hk2 hB1 hB2 hr hr'
  obtain ⟨f, hf⟩ : ∃ f : Nat → Int, f = fun k : Nat => pt ls (k : Int) := ⟨_, rfl⟩
  obtain ⟨g, hg⟩ : ∃ g : Nat → Int, g = fun k : Nat => pt ls' (k : Int) := ⟨_, rfl⟩
  rw [← hf] at hp1 ⊢
  rw [← hg] at hp2 ⊢
  conv => whnf
  refine vloop (X := Nat) ws24_1 (fun i => [(8, .int .i64 i), (7, .int .i64 (dif f g i))]) (fun i w' => i ≤ 10000 ∧ Quiet w2 w') (fun i => 10000 - i) 0 (by kernel_rfl)
    ?_ ⟨Nat.zero_le _, Quiet.refl _⟩ ?_
  · exact ⟨rfl, rfl, trivial⟩
  rintro i w3 j ⟨hi, hQ⟩
  conv => whnf
  refine vif_split (fun hlt => ?_) (fun hge => ?_)
  · have hlt : i < 10000 := by have := of_decide_eq_true hlt; omega
    have h1 := hp1.2 i hlt
    have h2 := hp2.2 i hlt
    have hA1 : At w3.drew b1 0 l1 := fun j v hj => by rw [show w3.drew.cell? _ = w2.cell? _ by unfold World.cell?; rw [show w3.drew.heap = w3.heap from rfl, hQ.heap]]; exact hk1' j v hj
    have hA2 : At w3.drew b2 0 l2 := fun j v hj => by rw [show w3.drew.cell? _ = w2.cell? _ by unfold World.cell?; rw [show w3.drew.heap = w3.heap from rfl, hQ.heap]]; exact hk2' j v hj
    clear hk1' hk2'
    have hdl := dif_le f g i
    conv => whnf
    (refine vdrawAt plan24 (by kernel_rfl) ?_; conv => whnf)
    (repeat (first | (refine VReq.mk (by first | decide | omega) ?_; conv => whnf) | (refine VPend.mk rfl ?_; conv => whnf) | (refine VNext.keep rfl ?_; conv => whnf) | (refine vs_slI1 _ rfl rfl rfl (by assumption) ?_; conv => whnf) | (refine vs_slI _ rfl rfl rfl (by assumption) ?_; conv => whnf) | (refine vs_arr1 _ rfl rfl rfl (by assumption) ?_; conv => whnf) | (refine vs_loadF (by with_reducible assumption) (by assumption) rfl rfl ?_; conv => whnf) | (refine vs_loadF0 (by with_reducible assumption) (by assumption) rfl rfl ?_; conv => whnf) | (refine vs_loadI (by with_reducible assumption) (by assumption) rfl ?_; conv => whnf) | (refine vs_loadB rfl (by with_reducible assumption) (by assumption) ?_; conv => whnf)))
    refine vif_split (fun hne => ?_) (fun heq => ?_)
    · have hne : ¬ f i = g i := by intro e; simp [e] at hne
      conv => whnf
      refine VBack.mk ⟨_, ?_, (i + 1), rfl, ?_, ?_⟩
      · show 10000 - (i + 1) < 10000 - i; omega
      · exact ⟨intEq (incr (by omega)), intEq (by rw [i64_of (by omega) (by omega)]; simp [dif, hne]), trivial⟩
      · exact ⟨hlt, hQ.drew⟩
    · have heq : f i = g i := by simpa using heq
      conv => whnf
      refine VBack.mk ⟨_, ?_, (i + 1), rfl, ?_, ?_⟩
      · show 10000 - (i + 1) < 10000 - i; omega
      · exact ⟨intEq (incr (by omega)), intEq (by simp [dif, heq]), trivial⟩
      · exact ⟨hlt, hQ.drew⟩
  · have hge : ¬ i < 10000 := by have := of_decide_eq_false hge; omega
    obtain rfl : i = 10000 := by omega
    conv => whnf
    exact VEnd.mk ⟨rfl, hB.trans (hQ.below _)⟩
end Go.Proofs.YthnncehddnfjmaaDoor.Bk
