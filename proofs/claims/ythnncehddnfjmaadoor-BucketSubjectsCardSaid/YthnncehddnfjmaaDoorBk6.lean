/- The walks of Split of both shapes, of SameRanges and of the reference's Ranges. Conditions: the arguments read as lists of ranges and of numbers. -/
import Derived.Test.YthnncehddnfjmaaDoorBk5
set_option linter.unusedVariables false
set_option linter.unusedSimpArgs false
namespace Go.Proofs.YthnncehddnfjmaaDoor.Bk
open Go Go.RowKit Go.Proofs.YthnncehddnfjmaaDoor.Vc Go.Proofs.YthnncehddnfjmaaDoor.Dg
attribute [local irreducible] loadVar storeVar Instr.indexAt Instr.index Instr.sliceAt Instr.makeSlice Instr.lookup Instr.mapUpdate Instr.range Instr.next Instr.entry Instr.makeMap Builtin.append_ Builtin.copy_ Builtin.len_ Builtin.min_ Builtin.max_ Builtin.cap_ Builtin.delete_ Builtin.clear_ convert binOp eqGuard Op.unary Calls

/-- the first error of a split behind 'a', where the last range had variation 'v' -/
def spl (n : Int) : Int → Int → List Rng → Int
  | a, _, [] => if a = 10000 then 0 else 3
  | a, v, r :: l => if r.v < 1 ∨ n < r.v then 3 else if r.f ≠ a ∨ r.t ≤ a ∨ r.v = v then 9 else spl n r.t r.v l
def split (n : Int) (l : List Rng) : Int := if l.length > 16 then 5 else spl n 0 0 l
theorem split_big {n : Int} {l : List Rng} (h : l.length > 16) : split n l = 5 := if_pos h
theorem split_small {n : Int} {l : List Rng} (h : ¬ l.length > 16) : split n l = spl n 0 0 l := if_neg h
/-- the end and the variation of the range before place i -/
def pre (l : List Rng) (i : Nat) : Rng := match i with | 0 => ⟨0, 0, 0⟩ | i + 1 => l.getD i ⟨0, 0, 0⟩
theorem pre_succ (l : List Rng) (i : Nat) (h : i < l.length) : pre l (i + 1) = l[i] := by simp [pre, h]
theorem spl_step (n : Int) (l : List Rng) (i : Nat) (h : i < l.length) (a v : Int) : spl n a v (l.drop i) = if (l[i]).v < 1 ∨ n < (l[i]).v then 3 else if (l[i]).f ≠ a ∨ (l[i]).t ≤ a ∨ (l[i]).v = v then 9 else spl n (l[i]).t (l[i]).v (l.drop (i + 1)) := by
  rw [List.drop_eq_getElem_cons h]; rfl

set_option maxRecDepth 100000 in
theorem when_ok (b : Bool) (e : Int) (w : World) : Ret Tryd.prog 53 #[.bool b, .int .i64 e] w fun v w' => v = .int .i64 (if b = true then e else 0) ∧ w' = w := by
  refine ret_of_vc Tryd.func53 rfl mixed (by kernel_rfl) ?_
  conv => whnf
  refine vif_split (fun h => ?_) (fun h => ?_)
  · subst h
    conv => whnf
    exact VEnd.mk ⟨rfl, rfl⟩
  · subst h
    conv => whnf
    exact VEnd.mk ⟨rfl, rfl⟩

set_option maxRecDepth 100000 in
theorem split1_ok (oa : Option Addr) (c : Nat) (ls : List Rng) (n : Int) (w : World) (hr : Row w oa (recs rc ls)) (hmx : ls.length ≤ 1099511627776) :
    Ret Tryd.prog 38 #[.slice oa ls.length c, .int .i64 n] w fun v w' => v = .int .i64 (split n ls) ∧ Below w.heap.size w w' := by
  refine ret_of_vc Tryd.func38 rfl mixed (by kernel_rfl) ?_
  conv => whnf
  refine vif_split (fun h8 => ?_) (fun h8 => ?_)
  · have h8 : ls.length > 16 := by have := of_decide_eq_true h8; omega
    rw [split_big h8]
    conv => whnf
    exact VEnd.mk ⟨rfl, Below.refl _ _⟩
  have h8 : ¬ ls.length > 16 := by have := of_decide_eq_false h8; omega
  rw [split_small h8]
  conv => whnf
  refine vs_storeW (Blk.new _ _ _) rfl rfl rfl ?_
  intro w1 hO1 hb1
  have hB1 : Below w.heap.size w w1 := (balloc (Below.refl _ _) (Nat.le_refl _) _).trans (hO1.below (Nat.le_refl _))
  clear hO1
  conv => whnf
  refine vloop (X := Nat) ws38_1 (fun i => [(14, .int .i64 i)]) (fun i w' => i ≤ ls.length ∧ Below w.heap.size w w' ∧ Blk w' w.heap.size (rc (pre ls i)) 69 ∧ spl n 0 0 ls = spl n (pre ls i).t (pre ls i).v (ls.drop i)) (fun i => ls.length - i) 0 (by kernel_rfl)
    ?_ ⟨Nat.zero_le _, hB1, hb1, rfl⟩ ?_
  · exact ⟨rfl, trivial⟩
  rintro i w2 j ⟨hi, hB2, hb2, hp⟩
  clear hb1
  conv => whnf
  refine vif_split (fun hlt => ?_) (fun hge => ?_)
  · have hlt : i < ls.length := by have := of_decide_eq_true hlt; omega
    obtain ⟨b, o, rfl, hbl, hc⟩ := hr.at (by rw [recs_len rc_len]; omega)
    have hseg := recs_seg rc_len ls i hlt
    have hc2 := hc.below hB2 hbl
    rw [spl_step n ls i hlt] at hp
    rw [hp]
    have hps := pre_succ ls i hlt
    obtain ⟨r, hrr⟩ : ∃ r : Rng, r = ls[i] := ⟨_, rfl⟩
    rw [← hrr] at hseg hps ⊢ hp
    obtain ⟨p, hpp⟩ : ∃ r : Rng, r = pre ls i := ⟨_, rfl⟩
    rw [← hpp] at hb2 ⊢ hp
    conv => whnf
    (repeat (first | (refine VReq.mk (by first | decide | omega) ?_; conv => whnf) | (refine VPend.mk rfl ?_; conv => whnf) | (refine VNext.keep rfl ?_; conv => whnf) | (refine vs_slI1 _ rfl rfl rfl (by assumption) ?_; conv => whnf) | (refine vs_slI _ rfl rfl rfl (by assumption) ?_; conv => whnf) | (refine vs_arr1 _ rfl rfl rfl (by assumption) ?_; conv => whnf) | (refine vs_loadF (by with_reducible assumption) (by assumption) rfl rfl ?_; conv => whnf) | (refine vs_loadF0 (by with_reducible assumption) (by assumption) rfl rfl ?_; conv => whnf) | (refine vs_loadI (by with_reducible assumption) (by assumption) rfl ?_; conv => whnf) | (refine vs_loadB rfl (by with_reducible assumption) (by assumption) ?_; conv => whnf)))
    refine vs_loadS hc2 hseg rfl rfl ?_
    conv => whnf
    refine vs_storeW (Blk.new _ _ _) rfl rfl rfl ?_
    intro w3 hO3 hb3
    have hb3' : Blk w3 w.heap.size (rc p) 69 := (hb2.alloc _).only hO3 (by have := hb2.lt; omega)
    have hB3 : Below w.heap.size w w3 := (balloc hB2 (Nat.le_refl _) _).trans (hO3.below hB2.size)
    have hne := hb2.lt
    clear hO3 hb2 hc2
    conv => whnf
    refine vs_loadB rfl hb3 rfl ?_
    conv => whnf
    refine vif_split (fun h1 => ?_) (fun h1 => ?_)
    · have h1 : r.v < 1 := of_decide_eq_true h1
      rw [if_pos (.inl h1)]
      conv => whnf
      exact VEnd.mk ⟨rfl, hB3⟩
    have h1 : ¬ r.v < 1 := of_decide_eq_false h1
    conv => whnf
    refine vs_loadB rfl hb3 rfl ?_
    conv => whnf
    refine vif_split (fun h2 => ?_) (fun h2 => ?_)
    · have h2 : r.v > n := of_decide_eq_true h2
      rw [if_pos (.inr h2)]
      conv => whnf
      exact VEnd.mk ⟨rfl, hB3⟩
    have h2 : ¬ r.v > n := of_decide_eq_false h2
    rw [if_neg (by omega)] at hp ⊢
    conv => whnf
    refine vs_loadB rfl hb3 rfl ?_
    conv => whnf
    refine vs_loadB rfl hb3' rfl ?_
    conv => whnf
    refine vif_split (fun h3 => ?_) (fun h3 => ?_)
    · have h3 : ¬ r.f = p.t := by intro e; simp [e] at h3
      rw [if_pos (.inl h3)]
      conv => whnf
      exact VEnd.mk ⟨rfl, hB3⟩
    have h3 : r.f = p.t := by simpa using h3
    conv => whnf
    refine vs_loadB rfl hb3 rfl ?_
    conv => whnf
    refine vs_loadB rfl hb3 rfl ?_
    conv => whnf
    refine vif_split (fun h4 => ?_) (fun h4 => ?_)
    · have h4 : r.t ≤ r.f := of_decide_eq_true h4
      rw [if_pos (.inr (.inl (by omega)))]
      conv => whnf
      exact VEnd.mk ⟨rfl, hB3⟩
    have h4 : ¬ r.t ≤ r.f := of_decide_eq_false h4
    conv => whnf
    refine vs_loadB rfl hb3 rfl ?_
    conv => whnf
    refine vs_loadB rfl hb3' rfl ?_
    conv => whnf
    refine vif_split (fun h5 => ?_) (fun h5 => ?_)
    · have h5 : r.v = p.v := by simpa using h5
      rw [if_pos (.inr (.inr h5))]
      conv => whnf
      exact VEnd.mk ⟨rfl, hB3⟩
    have h5 : ¬ r.v = p.v := by intro e; simp [e] at h5
    rw [if_neg (by omega)] at hp ⊢
    conv => whnf
    refine vs_loadNB rfl rfl hb3 ?_
    conv => whnf
    refine vs_storeW hb3' rfl rfl rfl ?_
    intro w4 hO4 hb4
    conv => whnf
    refine VBack.mk ⟨_, ?_, (i + 1), rfl, ?_, ?_⟩
    · show ls.length - (i + 1) < ls.length - i; omega
    · exact ⟨intEq (incr (by omega)), trivial⟩
    · exact ⟨hlt, hB3.trans (hO4.below (Nat.le_refl _)), by rw [hps]; exact hb4, by rw [hps]⟩
  · have hge : ¬ i < ls.length := by have := of_decide_eq_false hge; omega
    obtain rfl : i = ls.length := by omega
    rw [List.drop_length] at hp
    have hp2 : spl n 0 0 ls = if (pre ls ls.length).t = 10000 then 0 else 3 := by rw [hp]; rfl
    obtain ⟨p, hpp⟩ : ∃ r : Rng, r = pre ls ls.length := ⟨_, rfl⟩
    rw [← hpp] at hb2 hp2
    rw [hp2]
    conv => whnf
    refine vs_loadB rfl hb2 rfl ?_
    conv => whnf
    refine vcall (by kernel_rfl) (when_ok _ _ w2) ?_
    rintro _ w3 ⟨rfl, rfl⟩
    conv => whnf
    refine VEnd.mk ⟨intEq ?_, hB2⟩
    by_cases e : p.t = 10000 <;> simp [e]

set_option maxRecDepth 100000 in
theorem split2_ok (oa : Option Addr) (c : Nat) (ls : List Rng) (n : Int) (w : World) (hr : Row w oa (recs rc ls)) (hmx : ls.length ≤ 1099511627776) :
    Ret Tryd.prog 41 #[.slice oa ls.length c, .int .i64 n] w fun v w' => v = .int .i64 (split n ls) ∧ Below w.heap.size w w' := by
  refine ret_of_vc Tryd.func41 rfl mixed (by kernel_rfl) ?_
  conv => whnf
  refine vif_split (fun h8 => ?_) (fun h8 => ?_)
  · have h8 : ls.length > 16 := by have := of_decide_eq_true h8; omega
    rw [split_big h8]
    conv => whnf
    exact VEnd.mk ⟨rfl, Below.refl _ _⟩
  have h8 : ¬ ls.length > 16 := by have := of_decide_eq_false h8; omega
  rw [split_small h8]
  conv => whnf
  refine vloop (X := Nat) ws41_1 (fun i => [(6, .int .i64 i), (5, .int .i64 (pre ls i).t)]) (fun i w' => i ≤ ls.length ∧ Quiet w w' ∧ spl n 0 0 ls = spl n (pre ls i).t (pre ls i).v (ls.drop i)) (fun i => ls.length - i) 0 (by kernel_rfl)
    ?_ ⟨Nat.zero_le _, Quiet.refl _, rfl⟩ ?_
  · exact ⟨rfl, rfl, trivial⟩
  rintro i w2 j ⟨hi, hQ, hp⟩
  obtain ⟨p, hpp⟩ : ∃ r : Rng, r = pre ls i := ⟨_, rfl⟩
  rw [← hpp] at hp ⊢
  conv => whnf
  refine vif_split (fun hlt => ?_) (fun hge => ?_)
  · have hlt : i < ls.length := by have := of_decide_eq_true hlt; omega
    obtain ⟨b, o, rfl, hbl, hc⟩ := hr.at (by rw [recs_len rc_len]; omega)
    have hseg := recs_seg rc_len ls i hlt
    have hc2 := hc.below (hQ.below w.heap.size) hbl
    have hc2' := hc2.drew
    have hB2 : Below w.heap.size w w2 := hQ.below _
    rw [spl_step n ls i hlt] at hp
    rw [hp]
    have hps := pre_succ ls i hlt
    obtain ⟨r, hrr⟩ : ∃ r : Rng, r = ls[i] := ⟨_, rfl⟩
    rw [← hrr] at hseg hps ⊢ hp
    conv => whnf
    (repeat (first | (refine VReq.mk (by first | decide | omega) ?_; conv => whnf) | (refine VPend.mk rfl ?_; conv => whnf) | (refine VNext.keep rfl ?_; conv => whnf) | (refine vs_slI1 _ rfl rfl rfl (by assumption) ?_; conv => whnf) | (refine vs_slI _ rfl rfl rfl (by assumption) ?_; conv => whnf) | (refine vs_arr1 _ rfl rfl rfl (by assumption) ?_; conv => whnf) | (refine vs_loadF (by with_reducible assumption) (by assumption) rfl rfl ?_; conv => whnf) | (refine vs_loadF0 (by with_reducible assumption) (by assumption) rfl rfl ?_; conv => whnf) | (refine vs_loadI (by with_reducible assumption) (by assumption) rfl ?_; conv => whnf) | (refine vs_loadB rfl (by with_reducible assumption) (by assumption) ?_; conv => whnf)))
    refine vif_split (fun h1 => ?_) (fun h1 => ?_)
    · have h1 : r.v < 1 := of_decide_eq_true h1
      rw [if_pos (.inl h1)]
      conv => whnf
      exact VEnd.mk ⟨rfl, hB2⟩
    have h1 : ¬ r.v < 1 := of_decide_eq_false h1
    conv => whnf
    (repeat (first | (refine VReq.mk (by first | decide | omega) ?_; conv => whnf) | (refine VPend.mk rfl ?_; conv => whnf) | (refine VNext.keep rfl ?_; conv => whnf) | (refine vs_slI1 _ rfl rfl rfl (by assumption) ?_; conv => whnf) | (refine vs_slI _ rfl rfl rfl (by assumption) ?_; conv => whnf) | (refine vs_arr1 _ rfl rfl rfl (by assumption) ?_; conv => whnf) | (refine vs_loadF (by with_reducible assumption) (by assumption) rfl rfl ?_; conv => whnf) | (refine vs_loadF0 (by with_reducible assumption) (by assumption) rfl rfl ?_; conv => whnf) | (refine vs_loadI (by with_reducible assumption) (by assumption) rfl ?_; conv => whnf) | (refine vs_loadB rfl (by with_reducible assumption) (by assumption) ?_; conv => whnf)))
    refine vif_split (fun h2 => ?_) (fun h2 => ?_)
    · have h2 : r.v > n := of_decide_eq_true h2
      rw [if_pos (.inr h2)]
      conv => whnf
      exact VEnd.mk ⟨rfl, hB2⟩
    have h2 : ¬ r.v > n := of_decide_eq_false h2
    rw [if_neg (by omega)] at hp ⊢
    conv => whnf
    (refine vdrawAt plan41 (by kernel_rfl) ?_; conv => whnf)
    (repeat (first | (refine VReq.mk (by first | decide | omega) ?_; conv => whnf) | (refine VPend.mk rfl ?_; conv => whnf) | (refine VNext.keep rfl ?_; conv => whnf) | (refine vs_slI1 _ rfl rfl rfl (by assumption) ?_; conv => whnf) | (refine vs_slI _ rfl rfl rfl (by assumption) ?_; conv => whnf) | (refine vs_arr1 _ rfl rfl rfl (by assumption) ?_; conv => whnf) | (refine vs_loadF (by with_reducible assumption) (by assumption) rfl rfl ?_; conv => whnf) | (refine vs_loadF0 (by with_reducible assumption) (by assumption) rfl rfl ?_; conv => whnf) | (refine vs_loadI (by with_reducible assumption) (by assumption) rfl ?_; conv => whnf) | (refine vs_loadB rfl (by with_reducible assumption) (by assumption) ?_; conv => whnf)))
    refine vif_split (fun h3 => ?_) (fun h3 => ?_)
    · have h3 : ¬ r.f = p.t := by intro e; simp [e] at h3
      rw [if_pos (.inl h3)]
      conv => whnf
      exact VEnd.mk ⟨rfl, belowDrew hB2⟩
    have h3 : r.f = p.t := by simpa using h3
    conv => whnf
    (repeat (first | (refine VReq.mk (by first | decide | omega) ?_; conv => whnf) | (refine VPend.mk rfl ?_; conv => whnf) | (refine VNext.keep rfl ?_; conv => whnf) | (refine vs_slI1 _ rfl rfl rfl (by assumption) ?_; conv => whnf) | (refine vs_slI _ rfl rfl rfl (by assumption) ?_; conv => whnf) | (refine vs_arr1 _ rfl rfl rfl (by assumption) ?_; conv => whnf) | (refine vs_loadF (by with_reducible assumption) (by assumption) rfl rfl ?_; conv => whnf) | (refine vs_loadF0 (by with_reducible assumption) (by assumption) rfl rfl ?_; conv => whnf) | (refine vs_loadI (by with_reducible assumption) (by assumption) rfl ?_; conv => whnf) | (refine vs_loadB rfl (by with_reducible assumption) (by assumption) ?_; conv => whnf)))
    refine vif_split (fun h4 => ?_) (fun h4 => ?_)
    · have h4 : r.t ≤ p.t := of_decide_eq_true h4
      rw [if_pos (.inr (.inl h4))]
      conv => whnf
      exact VEnd.mk ⟨rfl, belowDrew hB2⟩
    have h4 : ¬ r.t ≤ p.t := of_decide_eq_false h4
    conv => whnf
    (repeat (first | (refine VReq.mk (by first | decide | omega) ?_; conv => whnf) | (refine VPend.mk rfl ?_; conv => whnf) | (refine VNext.keep rfl ?_; conv => whnf) | (refine vs_slI1 _ rfl rfl rfl (by assumption) ?_; conv => whnf) | (refine vs_slI _ rfl rfl rfl (by assumption) ?_; conv => whnf) | (refine vs_arr1 _ rfl rfl rfl (by assumption) ?_; conv => whnf) | (refine vs_loadF (by with_reducible assumption) (by assumption) rfl rfl ?_; conv => whnf) | (refine vs_loadF0 (by with_reducible assumption) (by assumption) rfl rfl ?_; conv => whnf) | (refine vs_loadI (by with_reducible assumption) (by assumption) rfl ?_; conv => whnf) | (refine vs_loadB rfl (by with_reducible assumption) (by assumption) ?_; conv => whnf)))
    refine vif_split (fun h5 => ?_) (fun h5 => ?_)
    · have h5 : 0 < i := by have := of_decide_eq_true h5; omega
      obtain ⟨i', rfl⟩ : ∃ i', i = i' + 1 := ⟨i - 1, by omega⟩
      have hseg' := recs_seg rc_len ls i' (by omega)
      rw [pre_succ ls i' (by omega)] at hpp
      rw [← hpp] at hseg'
      conv => whnf
      (repeat (first | (refine VReq.mk (by first | decide | omega) ?_; conv => whnf) | (refine VPend.mk rfl ?_; conv => whnf) | (refine VNext.keep rfl ?_; conv => whnf) | (refine vs_slI1 _ rfl rfl rfl (by assumption) ?_; conv => whnf) | (refine vs_slI _ rfl rfl rfl (by assumption) ?_; conv => whnf) | (refine vs_arr1 _ rfl rfl rfl (by assumption) ?_; conv => whnf) | (refine vs_loadF (by with_reducible assumption) (by assumption) rfl rfl ?_; conv => whnf) | (refine vs_loadF0 (by with_reducible assumption) (by assumption) rfl rfl ?_; conv => whnf) | (refine vs_loadI (by with_reducible assumption) (by assumption) rfl ?_; conv => whnf) | (refine vs_loadB rfl (by with_reducible assumption) (by assumption) ?_; conv => whnf)))
      refine vs_slI i' (by rw [i64_of (by omega) (by omega)]; omega) rfl rfl (by omega) ?_
      conv => whnf
      (repeat (first | (refine VReq.mk (by first | decide | omega) ?_; conv => whnf) | (refine VPend.mk rfl ?_; conv => whnf) | (refine VNext.keep rfl ?_; conv => whnf) | (refine vs_slI1 _ rfl rfl rfl (by assumption) ?_; conv => whnf) | (refine vs_slI _ rfl rfl rfl (by assumption) ?_; conv => whnf) | (refine vs_arr1 _ rfl rfl rfl (by assumption) ?_; conv => whnf) | (refine vs_loadF (by with_reducible assumption) (by assumption) rfl rfl ?_; conv => whnf) | (refine vs_loadF0 (by with_reducible assumption) (by assumption) rfl rfl ?_; conv => whnf) | (refine vs_loadI (by with_reducible assumption) (by assumption) rfl ?_; conv => whnf) | (refine vs_loadB rfl (by with_reducible assumption) (by assumption) ?_; conv => whnf)))
      refine vif_split (fun h6 => ?_) (fun h6 => ?_)
      · have h6 : r.v = p.v := by simpa using h6
        rw [if_pos (.inr (.inr h6))]
        conv => whnf
        exact VEnd.mk ⟨rfl, belowDrew hB2⟩
      have h6 : ¬ r.v = p.v := by intro e; simp [e] at h6
      rw [if_neg (by omega)] at hp ⊢
      conv => whnf
      (repeat (first | (refine VReq.mk (by first | decide | omega) ?_; conv => whnf) | (refine VPend.mk rfl ?_; conv => whnf) | (refine VNext.keep rfl ?_; conv => whnf) | (refine vs_slI1 _ rfl rfl rfl (by assumption) ?_; conv => whnf) | (refine vs_slI _ rfl rfl rfl (by assumption) ?_; conv => whnf) | (refine vs_arr1 _ rfl rfl rfl (by assumption) ?_; conv => whnf) | (refine vs_loadF (by with_reducible assumption) (by assumption) rfl rfl ?_; conv => whnf) | (refine vs_loadF0 (by with_reducible assumption) (by assumption) rfl rfl ?_; conv => whnf) | (refine vs_loadI (by with_reducible assumption) (by assumption) rfl ?_; conv => whnf) | (refine vs_loadB rfl (by with_reducible assumption) (by assumption) ?_; conv => whnf)))
      refine VBack.mk ⟨_, ?_, (i' + 1 + 1), rfl, ?_, ?_⟩
      · show ls.length - (i' + 1 + 1) < ls.length - (i' + 1); omega
      · exact ⟨intEq (incr (by omega)), by rw [hps]; rfl, trivial⟩
      · exact ⟨hlt, hQ.drew, by rw [hps]⟩
    · have h5 : ¬ 0 < i := by have := of_decide_eq_false h5; omega
      obtain rfl : i = 0 := by omega
      have h6 : ¬ r.v = p.v := by rw [hpp]; show ¬ r.v = 0; omega
      rw [if_neg (by omega)] at hp ⊢
      conv => whnf
      (repeat (first | (refine VReq.mk (by first | decide | omega) ?_; conv => whnf) | (refine VPend.mk rfl ?_; conv => whnf) | (refine VNext.keep rfl ?_; conv => whnf) | (refine vs_slI1 _ rfl rfl rfl (by assumption) ?_; conv => whnf) | (refine vs_slI _ rfl rfl rfl (by assumption) ?_; conv => whnf) | (refine vs_arr1 _ rfl rfl rfl (by assumption) ?_; conv => whnf) | (refine vs_loadF (by with_reducible assumption) (by assumption) rfl rfl ?_; conv => whnf) | (refine vs_loadF0 (by with_reducible assumption) (by assumption) rfl rfl ?_; conv => whnf) | (refine vs_loadI (by with_reducible assumption) (by assumption) rfl ?_; conv => whnf) | (refine vs_loadB rfl (by with_reducible assumption) (by assumption) ?_; conv => whnf)))
      refine VBack.mk ⟨_, ?_, (0 + 1), rfl, ?_, ?_⟩
      · show ls.length - (0 + 1) < ls.length - 0; omega
      · exact ⟨intEq (incr (by omega)), by rw [hps]; rfl, trivial⟩
      · exact ⟨hlt, hQ.drew, by rw [hps]⟩
  · have hge : ¬ i < ls.length := by have := of_decide_eq_false hge; omega
    obtain rfl : i = ls.length := by omega
    rw [List.drop_length] at hp
    have hp2 : spl n 0 0 ls = if p.t = 10000 then 0 else 3 := by rw [hp]; rfl
    rw [hp2]
    conv => whnf
    refine vif_split (fun hv => ?_) (fun hv => ?_)
    · have hv : ¬ p.t = 10000 := by intro e; simp [e] at hv
      rw [if_neg hv]
      conv => whnf
      exact VEnd.mk ⟨rfl, hQ.below _⟩
    · have hv : p.t = 10000 := by simpa using hv
      rw [if_pos hv]
      conv => whnf
      exact VEnd.mk ⟨rfl, hQ.below _⟩

/-- two lists of ranges are the same -/
def sameR : List Rng → List Rng → Bool
  | [], [] => true
  | a :: l, b :: m => decide (a = b) && sameR l m
  | _, _ => false
theorem sameR_eq (l m : List Rng) : sameR l m = decide (l = m) := by
  induction l generalizing m with
  | nil => cases m <;> simp [sameR]
  | cons a l ih => cases m with
    | nil => simp [sameR]
    | cons b m => simp only [sameR, ih, List.cons.injEq]; by_cases h1 : a = b <;> by_cases h2 : l = m <;> simp [h1, h2]

set_option maxRecDepth 100000 in
theorem same_ok (oa oa' : Option Addr) (c c' : Nat) (ls ls' : List Rng) (w : World) (hr : Row w oa (recs rc ls)) (hr' : Row w oa' (recs rc ls')) (hmx : ls.length ≤ 1099511627776) (hmx' : ls'.length ≤ 1099511627776) :
    Ret Tryd.prog 17 #[.slice oa ls.length c, .slice oa' ls'.length c'] w fun v w' => v = .bool (decide (ls = ls')) ∧ Quiet w w' := by
  refine ret_of_vc Tryd.func17 rfl mixed (by kernel_rfl) ?_
  conv => whnf
  refine vif_split (fun hl => ?_) (fun hl => ?_)
  · have hl : ¬ ls.length = ls'.length := by intro e; simp [e] at hl
    rw [show decide (ls = ls') = false by simp; intro e; exact hl (by rw [e])]
    conv => whnf
    exact VEnd.mk ⟨rfl, Quiet.refl _⟩
  have hl : ls.length = ls'.length := by have : (ls.length : Int) = ls'.length := by { simpa using hl }; omega
  conv => whnf
  refine vloop (X := Nat) ws17_1 (fun i => [(5, .int .i64 i)]) (fun i w' => i ≤ ls.length ∧ Quiet w w' ∧ ∀ j (h : j < i) (h1 : j < ls.length) (h2 : j < ls'.length), ls[j] = ls'[j]) (fun i => ls.length - i) 0 (by kernel_rfl)
    ?_ ⟨Nat.zero_le _, Quiet.refl _, fun j h => absurd h (Nat.not_lt_zero _)⟩ ?_
  · exact ⟨rfl, trivial⟩
  rintro i w2 j ⟨hi, hQ, hp⟩
  conv => whnf
  refine vif_split (fun hlt => ?_) (fun hge => ?_)
  · have hlt : i < ls.length := by have := of_decide_eq_true hlt; omega
    have hlt' : i < ls'.length := by omega
    obtain ⟨b, o, rfl, hbl, hc⟩ := hr.at (by rw [recs_len rc_len]; omega)
    obtain ⟨b', o', rfl, hbl', hc'⟩ := hr'.at (by rw [recs_len rc_len]; omega)
    have hseg := recs_seg rc_len ls i hlt
    have hseg' := recs_seg rc_len ls' i hlt'
    have hc2 := (hc.below (hQ.below w.heap.size) hbl).drew
    have hc2' := (hc'.below (hQ.below w.heap.size) hbl').drew
    conv => whnf
    (refine vdrawAt plan17 (by kernel_rfl) ?_; conv => whnf)
    (repeat (first | (refine VReq.mk (by first | decide | omega) ?_; conv => whnf) | (refine VPend.mk rfl ?_; conv => whnf) | (refine VNext.keep rfl ?_; conv => whnf) | (refine vs_slI1 _ rfl rfl rfl (by assumption) ?_; conv => whnf) | (refine vs_slI _ rfl rfl rfl (by assumption) ?_; conv => whnf) | (refine vs_arr1 _ rfl rfl rfl (by assumption) ?_; conv => whnf) | (refine vs_loadF (by with_reducible assumption) (by assumption) rfl rfl ?_; conv => whnf) | (refine vs_loadF0 (by with_reducible assumption) (by assumption) rfl rfl ?_; conv => whnf) | (refine vs_loadI (by with_reducible assumption) (by assumption) rfl ?_; conv => whnf) | (refine vs_loadB rfl (by with_reducible assumption) (by assumption) ?_; conv => whnf)))
    refine vs_loadS hc2 hseg rfl rfl ?_
    conv => whnf
    (repeat (first | (refine VReq.mk (by first | decide | omega) ?_; conv => whnf) | (refine VPend.mk rfl ?_; conv => whnf) | (refine VNext.keep rfl ?_; conv => whnf) | (refine vs_slI1 _ rfl rfl rfl (by assumption) ?_; conv => whnf) | (refine vs_slI _ rfl rfl rfl (by assumption) ?_; conv => whnf) | (refine vs_arr1 _ rfl rfl rfl (by assumption) ?_; conv => whnf) | (refine vs_loadF (by with_reducible assumption) (by assumption) rfl rfl ?_; conv => whnf) | (refine vs_loadF0 (by with_reducible assumption) (by assumption) rfl rfl ?_; conv => whnf) | (refine vs_loadI (by with_reducible assumption) (by assumption) rfl ?_; conv => whnf) | (refine vs_loadB rfl (by with_reducible assumption) (by assumption) ?_; conv => whnf)))
    refine vs_loadS hc2' hseg' rfl rfl ?_
    conv => whnf
    (repeat (first | (refine VReq.mk (by first | decide | omega) ?_; conv => whnf) | (refine VPend.mk rfl ?_; conv => whnf) | (refine VNext.keep rfl ?_; conv => whnf) | (refine vs_slI1 _ rfl rfl rfl (by assumption) ?_; conv => whnf) | (refine vs_slI _ rfl rfl rfl (by assumption) ?_; conv => whnf) | (refine vs_arr1 _ rfl rfl rfl (by assumption) ?_; conv => whnf) | (refine vs_loadF (by with_reducible assumption) (by assumption) rfl rfl ?_; conv => whnf) | (refine vs_loadF0 (by with_reducible assumption) (by assumption) rfl rfl ?_; conv => whnf) | (refine vs_loadI (by with_reducible assumption) (by assumption) rfl ?_; conv => whnf) | (refine vs_loadB rfl (by with_reducible assumption) (by assumption) ?_; conv => whnf)))
    obtain ⟨r, hrr⟩ : ∃ r : Rng, r = ls[i] := ⟨_, rfl⟩
    obtain ⟨r', hrr'⟩ : ∃ r : Rng, r = ls'[i] := ⟨_, rfl⟩
    rw [← hrr, ← hrr']
    refine vs_neS (b := (r.f == r'.f && (r.t == r'.t && (r.v == r'.v && true)))) (by kernel_rfl) (by kernel_rfl) (by kernel_rfl) rfl ?_
    have hb : (r.f == r'.f && (r.t == r'.t && (r.v == r'.v && true))) = decide (r = r') := by
      obtain ⟨f, t, v⟩ := r
      obtain ⟨f', t', v'⟩ := r'
      by_cases h1 : f = f' <;> by_cases h2 : t = t' <;> by_cases h3 : v = v' <;> simp [h1, h2, h3]
    rw [hb]
    conv => whnf
    (repeat (first | (refine VReq.mk (by first | decide | omega) ?_; conv => whnf) | (refine VPend.mk rfl ?_; conv => whnf) | (refine VNext.keep rfl ?_; conv => whnf) | (refine vs_slI1 _ rfl rfl rfl (by assumption) ?_; conv => whnf) | (refine vs_slI _ rfl rfl rfl (by assumption) ?_; conv => whnf) | (refine vs_arr1 _ rfl rfl rfl (by assumption) ?_; conv => whnf) | (refine vs_loadF (by with_reducible assumption) (by assumption) rfl rfl ?_; conv => whnf) | (refine vs_loadF0 (by with_reducible assumption) (by assumption) rfl rfl ?_; conv => whnf) | (refine vs_loadI (by with_reducible assumption) (by assumption) rfl ?_; conv => whnf) | (refine vs_loadB rfl (by with_reducible assumption) (by assumption) ?_; conv => whnf)))
    refine vif_split (fun hv => ?_) (fun hv => ?_)
    · have hv : ¬ r = r' := by intro e; simp [e] at hv
      rw [show decide (ls = ls') = false by simp; intro e; apply hv; rw [hrr, hrr']; simp only [e]]
      conv => whnf
      exact VEnd.mk ⟨rfl, hQ.drew⟩
    · have hv : r = r' := by simpa using hv
      conv => whnf
      refine VBack.mk ⟨_, ?_, (i + 1), rfl, ?_, ?_⟩
      · show ls.length - (i + 1) < ls.length - i; omega
      · exact ⟨intEq (incr (by omega)), trivial⟩
      · refine ⟨hlt, hQ.drew, fun j h h1 h2 => ?_⟩
        by_cases e : j = i
        · subst e; rw [← hrr, ← hrr', hv]
        · exact hp j (by omega) h1 h2
  · have hge : ¬ i < ls.length := by have := of_decide_eq_false hge; omega
    rw [show decide (ls = ls') = true by simp; exact List.ext_getElem hl fun j h1 h2 => hp j (by omega) h1 h2]
    conv => whnf
    exact VEnd.mk ⟨rfl, hQ⟩
end Go.Proofs.YthnncehddnfjmaaDoor.Bk
