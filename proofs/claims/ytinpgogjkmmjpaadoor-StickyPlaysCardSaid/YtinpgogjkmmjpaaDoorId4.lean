/- The walks of the reference's Same, Until and SameLinks. Conditions: the arguments read as links. -/
import Derived.Test.YtinpgogjkmmjpaaDoorId3
namespace Go.Proofs.YtinpgogjkmmjpaaDoor.Id
open Go Go.RowKit Go.Proofs.YtinpgogjkmmjpaaDoor.Vc Go.Proofs.YtinpgogjkmmjpaaDoor.Ky
attribute [local irreducible] loadVar storeVar Instr.indexAt Instr.index Instr.sliceAt Instr.makeSlice Instr.lookup Instr.mapUpdate Instr.range Instr.next Instr.entry Instr.makeMap Builtin.append_ Builtin.copy_ Builtin.len_ Builtin.min_ Builtin.max_ Builtin.cap_ Builtin.delete_ Builtin.clear_ convert binOp eqGuard Op.unary Calls

set_option maxRecDepth 100000 in
theorem same2_ok (oa : Option Addr) (c : Nat) (ls : List Lk) (x y : ByteArray) (w : World) (hr : Row w oa (recs lkc ls)) (hmx : ls.length ≤ 1000000) :
    Ret Tryd.prog 25 #[.slice oa ls.length c, .string x, .string y] w fun v w' => v = .bool (decide (rt ls x = rt ls y)) ∧ Below w.heap.size w w' := by
  refine ret_of_vc Tryd.func25 rfl mixed (by kernel_rfl) ?_
  conv => whnf
  refine vcall (by kernel_rfl) (members_ok oa c ls x w hr hmx) ?_
  rintro _ w1 ⟨o1, c1, L, rfl, hr1, hl1, hL, hB⟩
  conv => whnf
  refine vcall (by kernel_rfl) (has_ok o1 c1 L y w1 hr1 (by omega)) ?_
  rintro _ w2 ⟨rfl, rfl⟩
  conv => whnf
  refine VEnd.mk ⟨?_, hB⟩
  show Value.bool _ = _
  congr 1
  rw [Bool.eq_iff_iff, hasB_iff, hL y]
  simp [con]

set_option maxRecDepth 100000 in
theorem until2_ok (oa : Option Addr) (c : Nat) (ls : List Lk) (t : Int) (w : World) (hr : Row w oa (recs lkc ls)) (hmx : ls.length ≤ 1099511627776) :
    Ret Tryd.prog 23 #[.slice oa ls.length c, .int .i64 t] w fun v w' => ∃ oa' c', v = .slice oa' (unt t ls).length c' ∧ Row w' oa' (recs lkc (unt t ls)) ∧ Below w.heap.size w w' := by
  refine ret_of_vc Tryd.func23 rfl mixed (by kernel_rfl) ?_
  conv => whnf
  refine vloop (X := Nat × Option Addr × Nat) ws23_1 (fun x => [(6, .int .i64 x.1), (5, .slice x.2.1 (unt t (ls.take x.1)).length x.2.2)]) (fun x w' => x.1 ≤ ls.length ∧ Below w.heap.size w w' ∧ Own w' w.heap.size 40 3 x.2.1 (unt t (ls.take x.1)).length x.2.2 (recs lkc (unt t (ls.take x.1)))) (fun x => ls.length - x.1) (0, none, 0) (by kernel_rfl)
    ?_ ⟨Nat.zero_le _, Below.refl _ _, Own.nil _ _ _ _⟩ ?_
  · exact ⟨rfl, rfl, trivial⟩
  rintro ⟨i, oo, cc⟩ w2 j ⟨hi, hB2, ho⟩
  simp only at hi ho ⊢
  conv => whnf
  refine vif_split (fun hlt => ?_) (fun hge => ?_)
  · have hlt : i < ls.length := by have := of_decide_eq_true hlt; omega
    obtain ⟨b, o, rfl, hbl, hc⟩ := hr.at (by rw [recs_len lkc_len]; omega)
    have hseg := recs_seg lkc_len ls i hlt
    have hc2 := hc.below hB2 hbl
    have hus := unt_snoc t (ls.take i) ls[i]
    rw [← List.take_succ_eq_append_getElem hlt] at hus
    have hul := unt_len t (ls.take i)
    rw [List.length_take] at hul
    obtain ⟨r, hrr⟩ : ∃ r, r = ls[i] := ⟨_, rfl⟩
    rw [← hrr] at hseg hus
    conv => whnf
    (repeat (first | (refine VReq.mk (by first | decide | omega) ?_; conv => whnf) | (refine VPend.mk rfl ?_; conv => whnf) | (refine VNext.keep rfl ?_; conv => whnf) | (refine vs_slI1 _ rfl rfl rfl (by assumption) ?_; conv => whnf) | (refine vs_slI _ rfl rfl rfl (by assumption) ?_; conv => whnf) | (refine vs_arr1 _ rfl rfl rfl (by assumption) ?_; conv => whnf) | (refine vs_loadF (by with_reducible assumption) (by assumption) rfl rfl ?_; conv => whnf) | (refine vs_loadF0 (by with_reducible assumption) (by assumption) rfl rfl ?_; conv => whnf) | (refine vs_loadI (by with_reducible assumption) (by assumption) rfl ?_; conv => whnf) | (refine vs_loadB rfl (by with_reducible assumption) (by assumption) ?_; conv => whnf)))
    refine vif_split (fun h => ?_) (fun h => ?_)
    · have h : r.t ≤ t := of_decide_eq_true h
      rw [if_pos h] at hus
      conv => whnf
      (repeat (first | (refine VReq.mk (by first | decide | omega) ?_; conv => whnf) | (refine VPend.mk rfl ?_; conv => whnf) | (refine VNext.keep rfl ?_; conv => whnf) | (refine vs_slI1 _ rfl rfl rfl (by assumption) ?_; conv => whnf) | (refine vs_slI _ rfl rfl rfl (by assumption) ?_; conv => whnf) | (refine vs_arr1 _ rfl rfl rfl (by assumption) ?_; conv => whnf) | (refine vs_loadF (by with_reducible assumption) (by assumption) rfl rfl ?_; conv => whnf) | (refine vs_loadF0 (by with_reducible assumption) (by assumption) rfl rfl ?_; conv => whnf) | (refine vs_loadI (by with_reducible assumption) (by assumption) rfl ?_; conv => whnf) | (refine vs_loadB rfl (by with_reducible assumption) (by assumption) ?_; conv => whnf)))
      refine vs_loadS hc2 hseg rfl rfl ?_
      conv => whnf
      refine vs_appL (n := (unt t (ls.take i)).length) r ho (by omega) hB2.size ?_
      intro o4 c4 w4 ho4 hB4 _
      rw [← recs_one lkc, ← recs_append] at ho4
      conv => whnf
      refine VBack.mk ⟨_, ?_, (i + 1, o4, c4), rfl, ?_, ?_⟩
      · show ls.length - (i + 1) < ls.length - i; omega
      · exact ⟨intEq (incr (by omega)), sliceEq (by rw [hus, List.length_append]; rfl), trivial⟩
      · exact ⟨hlt, hB2.trans hB4, by rw [hus, List.length_append]; exact ho4⟩
    · have h : ¬ r.t ≤ t := of_decide_eq_false h
      rw [if_neg h] at hus
      conv => whnf
      refine VBack.mk ⟨_, ?_, (i + 1, oo, cc), rfl, ?_, ?_⟩
      · show ls.length - (i + 1) < ls.length - i; omega
      · exact ⟨intEq (incr (by omega)), sliceEq (by rw [hus]), trivial⟩
      · exact ⟨hlt, hB2, by rw [hus]; exact ho⟩
  · have hge : ¬ i < ls.length := by have := of_decide_eq_false hge; omega
    obtain rfl : i = ls.length := by omega
    rw [List.take_length] at ho ⊢
    conv => whnf
    exact VEnd.mk ⟨oo, cc, rfl, ho.row, hB2⟩

theorem lk_eq (r r' : Lk) : (sEq r.a r'.a && (sEq r.b r'.b && (r.t == r'.t && true))) = decide (r = r') := by
  rw [sEq_dec, sEq_dec]
  obtain ⟨a, b, t⟩ := r
  obtain ⟨a', b', t'⟩ := r'
  by_cases h1 : a = a' <;> by_cases h2 : b = b' <;> by_cases h3 : t = t' <;> simp [h1, h2, h3]
set_option maxRecDepth 100000 in
theorem sameLinks_ok (oa oa' : Option Addr) (c c' : Nat) (ls ls' : List Lk) (w : World) (hr : Row w oa (recs lkc ls)) (hr' : Row w oa' (recs lkc ls')) (hmx : ls.length ≤ 1099511627776) (hmx' : ls'.length ≤ 1099511627776) :
    Ret Tryd.prog 26 #[.slice oa ls.length c, .slice oa' ls'.length c'] w fun v w' => v = .bool (decide (ls = ls')) ∧ Quiet w w' := by
  refine ret_of_vc Tryd.func26 rfl mixed (by kernel_rfl) ?_
  conv => whnf
  refine vif_split (fun hl => ?_) (fun hl => ?_)
  · have hl : ¬ ls.length = ls'.length := by intro e; simp [e] at hl
    rw [show decide (ls = ls') = false by simp; intro e; exact hl (by rw [e])]
    conv => whnf
    exact VEnd.mk ⟨rfl, Quiet.refl _⟩
  have hl : ls.length = ls'.length := by have : (ls.length : Int) = ls'.length := by { simpa using hl }; omega
  conv => whnf
  refine vloop (X := Nat) ws26_1 (fun i => [(5, .int .i64 i)]) (fun i w' => i ≤ ls.length ∧ Quiet w w' ∧ ∀ j (h : j < i) (h1 : j < ls.length) (h2 : j < ls'.length), ls[j] = ls'[j]) (fun i => ls.length - i) 0 (by kernel_rfl)
    ?_ ⟨Nat.zero_le _, Quiet.refl _, fun j h => absurd h (Nat.not_lt_zero _)⟩ ?_
  · exact ⟨rfl, trivial⟩
  rintro i w2 j ⟨hi, hQ, hp⟩
  conv => whnf
  refine vif_split (fun hlt => ?_) (fun hge => ?_)
  · have hlt : i < ls.length := by have := of_decide_eq_true hlt; omega
    have hlt' : i < ls'.length := by omega
    obtain ⟨b, o, rfl, hbl, hc⟩ := hr.at (by rw [recs_len lkc_len]; omega)
    obtain ⟨b', o', rfl, hbl', hc'⟩ := hr'.at (by rw [recs_len lkc_len]; omega)
    have hseg := recs_seg lkc_len ls i hlt
    have hseg' := recs_seg lkc_len ls' i hlt'
    have hc2 := (hc.below (hQ.below w.heap.size) hbl).drew
    have hc2' := (hc'.below (hQ.below w.heap.size) hbl').drew
    conv => whnf
    (refine vdrawAt plan26 (by kernel_rfl) ?_; conv => whnf)
    (repeat (first | (refine VReq.mk (by first | decide | omega) ?_; conv => whnf) | (refine VPend.mk rfl ?_; conv => whnf) | (refine VNext.keep rfl ?_; conv => whnf) | (refine vs_slI1 _ rfl rfl rfl (by assumption) ?_; conv => whnf) | (refine vs_slI _ rfl rfl rfl (by assumption) ?_; conv => whnf) | (refine vs_arr1 _ rfl rfl rfl (by assumption) ?_; conv => whnf) | (refine vs_loadF (by with_reducible assumption) (by assumption) rfl rfl ?_; conv => whnf) | (refine vs_loadF0 (by with_reducible assumption) (by assumption) rfl rfl ?_; conv => whnf) | (refine vs_loadI (by with_reducible assumption) (by assumption) rfl ?_; conv => whnf) | (refine vs_loadB rfl (by with_reducible assumption) (by assumption) ?_; conv => whnf)))
    refine vs_loadS hc2 hseg rfl rfl ?_
    conv => whnf
    (repeat (first | (refine VReq.mk (by first | decide | omega) ?_; conv => whnf) | (refine VPend.mk rfl ?_; conv => whnf) | (refine VNext.keep rfl ?_; conv => whnf) | (refine vs_slI1 _ rfl rfl rfl (by assumption) ?_; conv => whnf) | (refine vs_slI _ rfl rfl rfl (by assumption) ?_; conv => whnf) | (refine vs_arr1 _ rfl rfl rfl (by assumption) ?_; conv => whnf) | (refine vs_loadF (by with_reducible assumption) (by assumption) rfl rfl ?_; conv => whnf) | (refine vs_loadF0 (by with_reducible assumption) (by assumption) rfl rfl ?_; conv => whnf) | (refine vs_loadI (by with_reducible assumption) (by assumption) rfl ?_; conv => whnf) | (refine vs_loadB rfl (by with_reducible assumption) (by assumption) ?_; conv => whnf)))
    refine vs_loadS hc2' hseg' rfl rfl ?_
    conv => whnf
    (repeat (first | (refine VReq.mk (by first | decide | omega) ?_; conv => whnf) | (refine VPend.mk rfl ?_; conv => whnf) | (refine VNext.keep rfl ?_; conv => whnf) | (refine vs_slI1 _ rfl rfl rfl (by assumption) ?_; conv => whnf) | (refine vs_slI _ rfl rfl rfl (by assumption) ?_; conv => whnf) | (refine vs_arr1 _ rfl rfl rfl (by assumption) ?_; conv => whnf) | (refine vs_loadF (by with_reducible assumption) (by assumption) rfl rfl ?_; conv => whnf) | (refine vs_loadF0 (by with_reducible assumption) (by assumption) rfl rfl ?_; conv => whnf) | (refine vs_loadI (by with_reducible assumption) (by assumption) rfl ?_; conv => whnf) | (refine vs_loadB rfl (by with_reducible assumption) (by assumption) ?_; conv => whnf)))
    obtain ⟨r, hrr⟩ : ∃ r : Lk, r = ls[i] := ⟨_, rfl⟩
    obtain ⟨r', hrr'⟩ : ∃ r : Lk, r = ls'[i] := ⟨_, rfl⟩
    rw [← hrr, ← hrr']
    refine vs_neS (b := (sEq r.a r'.a && (sEq r.b r'.b && (r.t == r'.t && true)))) (by kernel_rfl) (by kernel_rfl) (by kernel_rfl) rfl ?_
    rw [lk_eq r r']
    conv => whnf
    (repeat (first | (refine VReq.mk (by first | decide | omega) ?_; conv => whnf) | (refine VPend.mk rfl ?_; conv => whnf) | (refine VNext.keep rfl ?_; conv => whnf) | (refine vs_slI1 _ rfl rfl rfl (by assumption) ?_; conv => whnf) | (refine vs_slI _ rfl rfl rfl (by assumption) ?_; conv => whnf) | (refine vs_arr1 _ rfl rfl rfl (by assumption) ?_; conv => whnf) | (refine vs_loadF (by with_reducible assumption) (by assumption) rfl rfl ?_; conv => whnf) | (refine vs_loadF0 (by with_reducible assumption) (by assumption) rfl rfl ?_; conv => whnf) | (refine vs_loadI (by with_reducible assumption) (by assumption) rfl ?_; conv => whnf) | (refine vs_loadB rfl (by with_reducible assumption) (by assumption) ?_; conv => whnf)))
    refine vif_split (fun hv => ?_) (fun hv => ?_)
    · have hv : ¬ r = r' := by intro e; simp [e] at hv
      rw [show decide (ls = ls') = false by simp; intro e; apply hv; rw [hrr, hrr']; simp only [e]]
      conv => whnf
      exact VEnd.mk ⟨rfl, hQ.drew⟩
    · have hv : r = r' := by simpa using hv
      conv => whnf
      refine VBack.mk ⟨_, ?_, (i + 1), rfl, ?_, ?_⟩
      · show ls.length - (i + 1) < ls.length - i; omega
      · exact ⟨intEq (incr (by omega)), trivial⟩
      · refine ⟨hlt, hQ.drew, fun j h h1 h2 => ?_⟩
        by_cases e : j = i
        · subst e; rw [← hrr, ← hrr', hv]
        · exact hp j (by omega) h1 h2
  · have hge : ¬ i < ls.length := by have := of_decide_eq_false hge; omega
    rw [show decide (ls = ls') = true by simp; exact List.ext_getElem hl fun j h1 h2 => hp j (by omega) h1 h2]
    conv => whnf
    exact VEnd.mk ⟨rfl, hQ⟩

/-! slots -/
structure Sl where
  id : ByteArray
  layer : ByteArray
  exp : ByteArray
  arm : Int
  from_ : Int
  to_ : Int
  fin : Int
  deriving DecidableEq
def slc (s : Sl) : List Value := [.string s.id, .string s.layer, .string s.exp, .int .i64 s.arm, .int .i64 s.from_, .int .i64 s.to_, .int .i64 s.fin]
theorem slc_len (s : Sl) : (slc s).length = 7 := rfl
theorem slc_one (l : List Sl) : ∀ u ∈ recs slc l, u.oneCell' = true := by
  intro u hu
  simp only [recs, List.mem_flatten, List.mem_map] at hu
  obtain ⟨_, ⟨r, _, rfl⟩, hu⟩ := hu
  simp only [slc, List.mem_cons, List.not_mem_nil, or_false] at hu
  rcases hu with rfl | rfl | rfl | rfl | rfl | rfl | rfl <;> rfl
theorem sl_eq (r r' : Sl) : (sEq r.id r'.id && (sEq r.layer r'.layer && (sEq r.exp r'.exp && (r.arm == r'.arm && (r.from_ == r'.from_ && (r.to_ == r'.to_ && (r.fin == r'.fin && true))))))) = decide (r = r') := by
  rw [sEq_dec, sEq_dec, sEq_dec]
  obtain ⟨a, b, c, d, e, f, g⟩ := r
  obtain ⟨a', b', c', d', e', f', g'⟩ := r'
  by_cases h1 : a = a' <;> by_cases h2 : b = b' <;> by_cases h3 : c = c' <;> by_cases h4 : d = d' <;> by_cases h5 : e = e' <;> by_cases h6 : f = f' <;> by_cases h7 : g = g' <;> simp [h1, h2, h3, h4, h5, h6, h7]
set_option maxRecDepth 100000 in
theorem sameSlots_ok (oa oa' : Option Addr) (c c' : Nat) (ls ls' : List Sl) (w : World) (hr : Row w oa (recs slc ls)) (hr' : Row w oa' (recs slc ls')) (hmx : ls.length ≤ 1099511627776) (hmx' : ls'.length ≤ 1099511627776) :
    Ret Tryd.prog 17 #[.slice oa ls.length c, .slice oa' ls'.length c'] w fun v w' => v = .bool (decide (ls = ls')) ∧ Quiet w w' := by
  refine ret_of_vc Tryd.func17 rfl mixed (by kernel_rfl) ?_
  conv => whnf
  refine vif_split (fun hl => ?_) (fun hl => ?_)
  · have hl : ¬ ls.length = ls'.length := by intro e; simp [e] at hl
    rw [show decide (ls = ls') = false by simp; intro e; exact hl (by rw [e])]
    conv => whnf
    exact VEnd.mk ⟨rfl, Quiet.refl _⟩
  have hl : ls.length = ls'.length := by have : (ls.length : Int) = ls'.length := by { simpa using hl }; omega
  conv => whnf
  refine vloop (X := Nat) ws17_1 (fun i => [(5, .int .i64 i)]) (fun i w' => i ≤ ls.length ∧ Quiet w w' ∧ ∀ j (h : j < i) (h1 : j < ls.length) (h2 : j < ls'.length), ls[j] = ls'[j]) (fun i => ls.length - i) 0 (by kernel_rfl)
    ?_ ⟨Nat.zero_le _, Quiet.refl _, fun j h => absurd h (Nat.not_lt_zero _)⟩ ?_
  · exact ⟨rfl, trivial⟩
  rintro i w2 j ⟨hi, hQ, hp⟩
  conv => whnf
  refine vif_split (fun hlt => ?_) (fun hge => ?_)
  · have hlt : i < ls.length := by have := of_decide_eq_true hlt; omega
    have hlt' : i < ls'.length := by omega
    obtain ⟨b, o, rfl, hbl, hc⟩ := hr.at (by rw [recs_len slc_len]; omega)
    obtain ⟨b', o', rfl, hbl', hc'⟩ := hr'.at (by rw [recs_len slc_len]; omega)
    have hseg := recs_seg slc_len ls i hlt
    have hseg' := recs_seg slc_len ls' i hlt'
    have hc2 := (hc.below (hQ.below w.heap.size) hbl).drew
    have hc2' := (hc'.below (hQ.below w.heap.size) hbl').drew
    conv => whnf
    (refine vdrawAt plan17 (by kernel_rfl) ?_; conv => whnf)
    (repeat (first | (refine VReq.mk (by first | decide | omega) ?_; conv => whnf) | (refine VPend.mk rfl ?_; conv => whnf) | (refine VNext.keep rfl ?_; conv => whnf) | (refine vs_slI1 _ rfl rfl rfl (by assumption) ?_; conv => whnf) | (refine vs_slI _ rfl rfl rfl (by assumption) ?_; conv => whnf) | (refine vs_arr1 _ rfl rfl rfl (by assumption) ?_; conv => whnf) | (refine vs_loadF (by with_reducible assumption) (by assumption) rfl rfl ?_; conv => whnf) | (refine vs_loadF0 (by with_reducible assumption) (by assumption) rfl rfl ?_; conv => whnf) | (refine vs_loadI (by with_reducible assumption) (by assumption) rfl ?_; conv => whnf) | (refine vs_loadB rfl (by with_reducible assumption) (by assumption) ?_; conv => whnf)))
    refine vs_loadS hc2 hseg rfl rfl ?_
    conv => whnf
    (repeat (first | (refine VReq.mk (by first | decide | omega) ?_; conv => whnf) | (refine VPend.mk rfl ?_; conv => whnf) | (refine VNext.keep rfl ?_; conv => whnf) | (refine vs_slI1 _ rfl rfl rfl (by assumption) ?_; conv => whnf) | (refine vs_slI _ rfl rfl rfl (by assumption) ?_; conv => whnf) | (refine vs_arr1 _ rfl rfl rfl (by assumption) ?_; conv => whnf) | (refine vs_loadF (by with_reducible assumption) (by assumption) rfl rfl ?_; conv => whnf) | (refine vs_loadF0 (by with_reducible assumption) (by assumption) rfl rfl ?_; conv => whnf) | (refine vs_loadI (by with_reducible assumption) (by assumption) rfl ?_; conv => whnf) | (refine vs_loadB rfl (by with_reducible assumption) (by assumption) ?_; conv => whnf)))
    refine vs_loadS hc2' hseg' rfl rfl ?_
    conv => whnf
    (repeat (first | (refine VReq.mk (by first | decide | omega) ?_; conv => whnf) | (refine VPend.mk rfl ?_; conv => whnf) | (refine VNext.keep rfl ?_; conv => whnf) | (refine vs_slI1 _ rfl rfl rfl (by assumption) ?_; conv => whnf) | (refine vs_slI _ rfl rfl rfl (by assumption) ?_; conv => whnf) | (refine vs_arr1 _ rfl rfl rfl (by assumption) ?_; conv => whnf) | (refine vs_loadF (by with_reducible assumption) (by assumption) rfl rfl ?_; conv => whnf) | (refine vs_loadF0 (by with_reducible assumption) (by assumption) rfl rfl ?_; conv => whnf) | (refine vs_loadI (by with_reducible assumption) (by assumption) rfl ?_; conv => whnf) | (refine vs_loadB rfl (by with_reducible assumption) (by assumption) ?_; conv => whnf)))
    obtain ⟨r, hrr⟩ : ∃ r : Sl, r = ls[i] := ⟨_, rfl⟩
    obtain ⟨r', hrr'⟩ : ∃ r : Sl, r = ls'[i] := ⟨_, rfl⟩
    rw [← hrr, ← hrr']
    refine vs_neS (b := (sEq r.id r'.id && (sEq r.layer r'.layer && (sEq r.exp r'.exp && (r.arm == r'.arm && (r.from_ == r'.from_ && (r.to_ == r'.to_ && (r.fin == r'.fin && true)))))))) (by kernel_rfl) (by kernel_rfl) (by kernel_rfl) rfl ?_
    rw [sl_eq r r']
    conv => whnf
    (repeat (first | (refine VReq.mk (by first | decide | omega) ?_; conv => whnf) | (refine VPend.mk rfl ?_; conv => whnf) | (refine VNext.keep rfl ?_; conv => whnf) | (refine vs_slI1 _ rfl rfl rfl (by assumption) ?_; conv => whnf) | (refine vs_slI _ rfl rfl rfl (by assumption) ?_; conv => whnf) | (refine vs_arr1 _ rfl rfl rfl (by assumption) ?_; conv => whnf) | (refine vs_loadF (by with_reducible assumption) (by assumption) rfl rfl ?_; conv => whnf) | (refine vs_loadF0 (by with_reducible assumption) (by assumption) rfl rfl ?_; conv => whnf) | (refine vs_loadI (by with_reducible assumption) (by assumption) rfl ?_; conv => whnf) | (refine vs_loadB rfl (by with_reducible assumption) (by assumption) ?_; conv => whnf)))
    refine vif_split (fun hv => ?_) (fun hv => ?_)
    · have hv : ¬ r = r' := by intro e; simp [e] at hv
      rw [show decide (ls = ls') = false by simp; intro e; apply hv; rw [hrr, hrr']; simp only [e]]
      conv => whnf
      exact VEnd.mk ⟨rfl, hQ.drew⟩
    · have hv : r = r' := by simpa using hv
      conv => whnf
      refine VBack.mk ⟨_, ?_, (i + 1), rfl, ?_, ?_⟩
      · show ls.length - (i + 1) < ls.length - i; omega
      · exact ⟨intEq (incr (by omega)), trivial⟩
      · refine ⟨hlt, hQ.drew, fun j h h1 h2 => ?_⟩
        by_cases e : j = i
        · subst e; rw [← hrr, ← hrr', hv]
        · exact hp j (by omega) h1 h2
  · have hge : ¬ i < ls.length := by have := of_decide_eq_false hge; omega
    rw [show decide (ls = ls') = true by simp; exact List.ext_getElem hl fun j h1 h2 => hp j (by omega) h1 h2]
    conv => whnf
    exact VEnd.mk ⟨rfl, hQ⟩
end Go.Proofs.YtinpgogjkmmjpaaDoor.Id
