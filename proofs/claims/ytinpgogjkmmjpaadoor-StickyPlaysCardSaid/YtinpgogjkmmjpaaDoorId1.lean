/- The walks of identity's forest, Root, Same and Until. Conditions: the argument reads as links. -/
import Derived.Test.YtinpgogjkmmjpaaDoorMp
import Derived.Test.YtinpgogjkmmjpaaDoorKy1
namespace Go.Proofs.YtinpgogjkmmjpaaDoor.Id
open Go Go.RowKit Go.Proofs.YtinpgogjkmmjpaaDoor.Vc Go.Proofs.YtinpgogjkmmjpaaDoor.Ky
attribute [local irreducible] loadVar storeVar Instr.indexAt Instr.index Instr.sliceAt Instr.makeSlice Instr.lookup Instr.mapUpdate Instr.range Instr.next Instr.entry Instr.makeMap Builtin.append_ Builtin.copy_ Builtin.len_ Builtin.min_ Builtin.max_ Builtin.cap_ Builtin.delete_ Builtin.clear_ convert binOp eqGuard Op.unary Calls

def lkc (k : Lk) : List Value := [.string k.a, .string k.b, .int .i64 k.t]
theorem lkc_len (k : Lk) : (lkc k).length = 3 := rfl
theorem lkc_one (l : List Lk) : ∀ u ∈ recs lkc l, u.oneCell' = true := by
  intro u hu
  simp only [recs, List.mem_flatten, List.mem_map] at hu
  obtain ⟨_, ⟨r, _, rfl⟩, hu⟩ := hu
  simp only [lkc, List.mem_cons, List.not_mem_nil, or_false] at hu
  rcases hu with rfl | rfl | rfl <;> rfl
/-- a map from ids to ids -/
def MapF (w : World) (b : Nat) (F : ByteArray → Option ByteArray) : Prop := MapS w b fun k => (F k).map Value.string

set_option maxRecDepth 100000 in
theorem froot_ok (b : Nat) (F : ByteArray → Option ByteArray) (R : ByteArray → ByteArray) (d : ByteArray → Nat) (id : ByteArray) (w : World) (hm : MapF w b F) (hf : Fo F R d) :
    Ret Tryd.prog 64 #[.map (some b), .string id] w fun v w' => v = .string (R id) ∧ w' = w := by
  refine ret_of_vc Tryd.func64 rfl mixed (by kernel_rfl) ?_
  conv => whnf
  refine vloop (X := ByteArray) ws64_1 (fun c => [(1, .string c)]) (fun c w' => R c = R id ∧ w' = w) (fun c => d c) id (by kernel_rfl)
    ?_ ⟨rfl, rfl⟩ ?_
  · exact ⟨rfl, trivial⟩
  rintro c w1 j ⟨hc, rfl⟩
  conv => whnf
  cases hF : F c with
  | none =>
    refine vs_lookS rfl rfl rfl hm ?_
    simp only [hF, Option.map_none, Option.getD_none, Option.isSome_none]
    conv => whnf
    exact VEnd.mk ⟨by show Value.string c = _; rw [← hc, hf.top c hF], rfl⟩
  | some c' =>
    refine vs_lookS rfl rfl rfl hm ?_
    simp only [hF, Option.map_some, Option.getD_some, Option.isSome_some]
    obtain ⟨h1, h2⟩ := hf.step c c' hF
    conv => whnf
    refine VBack.mk ⟨_, ?_, c', rfl, ?_, ?_⟩
    · exact h2
    · exact ⟨rfl, trivial⟩
    · exact ⟨by rw [h1, hc], rfl⟩

set_option maxRecDepth 100000 in
theorem fjoin_ok (b : Nat) (F : ByteArray → Option ByteArray) (R : ByteArray → ByteArray) (d : ByteArray → Nat) (x y : ByteArray) (w : World) (hm : MapF w b F) (hf : Fo F R d) :
    Ret Tryd.prog 77 #[.map (some b), .string x, .string y] w fun v w' => ∃ F' d', v = .bool (!decide (R x = R y)) ∧ Only b w w' ∧ MapF w' b F' ∧ Fo F' (jn R x y) d' := by
  refine ret_of_vc Tryd.func77 rfl mixed (by kernel_rfl) ?_
  conv => whnf
  refine vcall (by kernel_rfl) (froot_ok b F R d x w hm hf) ?_
  rintro _ w1 ⟨rfl, rfl⟩
  conv => whnf
  refine vcall (by kernel_rfl) (froot_ok b F R d y w1 hm hf) ?_
  rintro _ w2 ⟨rfl, rfl⟩
  conv => whnf
  refine vif_split (fun h => ?_) (fun h => ?_)
  · have h : R x = R y := (sEq_iff _ _).1 h
    conv => whnf
    exact VEnd.mk ⟨F, d, by simp [h]; rfl, Only.refl _ _, hm, by rw [jn_eq h]; exact hf⟩
  · have h : R x ≠ R y := fun e => by rw [(sEq_iff _ _).2 e] at h; cases h
    conv => whnf
    refine vs_putS rfl rfl hm ?_
    intro w3 hO3 hm3
    conv => whnf
    refine VEnd.mk ⟨_, _, by simp [h]; rfl, hO3, ?_, hf.join h⟩
    exact hm3.congr fun k => by by_cases e : k = smax (R x) (R y) <;> simp [e]

set_option maxRecDepth 100000 in
theorem of_ok (oa : Option Addr) (c : Nat) (ls : List Lk) (w : World) (hr : Row w oa (recs lkc ls)) (hmx : ls.length ≤ 1099511627776) :
    Ret Tryd.prog 63 #[.slice oa ls.length c] w fun v w' => ∃ b F d, v = .map (some b) ∧ w.heap.size ≤ b ∧ MapF w' b F ∧ Fo F (rt ls) d ∧ Below w.heap.size w w' := by
  refine ret_of_vc Tryd.func63 rfl mixed (by kernel_rfl) ?_
  conv => whnf
  refine vs_makeMap ?_
  intro w1 hB1 hm1
  conv => whnf
  refine vloop (X := Nat) ws63_1 (fun i => [(9, .int .i64 i)]) (fun i w' => i ≤ ls.length ∧ Below w.heap.size w w' ∧ ∃ F d, MapF w' w.heap.size F ∧ Fo F (rt (ls.take i)) d) (fun i => ls.length - i) 0 (by kernel_rfl)
    ?_ ⟨Nat.zero_le _, hB1, fun _ => none, fun _ => 0, hm1, Fo.nil⟩ ?_
  · exact ⟨rfl, trivial⟩
  clear hB1 hm1
  rintro i w2 j ⟨hi, hB2, F, d, hm2, hf2⟩
  conv => whnf
  refine vif_split (fun hlt => ?_) (fun hge => ?_)
  · have hlt : i < ls.length := by have := of_decide_eq_true hlt; omega
    obtain ⟨b, o, rfl, hbl, hc⟩ := hr.at (by rw [recs_len lkc_len]; omega)
    have hseg := recs_seg lkc_len ls i hlt
    have hc2 := hc.below hB2 hbl
    conv => whnf
    (repeat (first | (refine VReq.mk (by first | decide | omega) ?_; conv => whnf) | (refine VPend.mk rfl ?_; conv => whnf) | (refine VNext.keep rfl ?_; conv => whnf) | (refine vs_slI1 _ rfl rfl rfl (by assumption) ?_; conv => whnf) | (refine vs_slI _ rfl rfl rfl (by assumption) ?_; conv => whnf) | (refine vs_arr1 _ rfl rfl rfl (by assumption) ?_; conv => whnf) | (refine vs_loadF (by with_reducible assumption) (by assumption) rfl rfl ?_; conv => whnf) | (refine vs_loadF0 (by with_reducible assumption) (by assumption) rfl rfl ?_; conv => whnf) | (refine vs_loadI (by with_reducible assumption) (by assumption) rfl ?_; conv => whnf) | (refine vs_loadB rfl (by with_reducible assumption) (by assumption) ?_; conv => whnf)))
    refine vs_loadS hc2 hseg rfl rfl ?_
    conv => whnf
    refine vs_storeW (Blk.new _ _ _) rfl rfl rfl ?_
    intro w3 hO3 hb3
    have hlt2 := MapS.lt hm2
    have hB3 : Below w.heap.size w w3 := (balloc hB2 (Nat.le_refl _) _).trans (hO3.below hB2.size)
    have hm3 : MapF w3 w.heap.size F := MapS.only (MapS.below hm2 (balloc (Below.refl _ _) (Nat.le_refl _) _) hlt2) hO3 (by show w.heap.size ≠ w2.heap.size; omega)
    conv => whnf
    refine vs_loadB rfl hb3 rfl ?_
    conv => whnf
    refine vs_loadB rfl hb3 rfl ?_
    conv => whnf
    refine vcall (by kernel_rfl) (fjoin_ok w.heap.size F _ d _ _ w3 hm3 hf2) ?_
    rintro _ w4 ⟨F', d', rfl, hO4, hm4, hf4⟩
    conv => whnf
    refine VBack.mk ⟨_, ?_, (i + 1), rfl, ?_, ?_⟩
    · show ls.length - (i + 1) < ls.length - i; omega
    · exact ⟨intEq (incr (by omega)), trivial⟩
    · exact ⟨hlt, hB3.trans (hO4.below (Nat.le_refl _)), F', d', hm4, by rw [List.take_succ_eq_append_getElem hlt, rt_snoc]; exact hf4⟩
  · have hge : ¬ i < ls.length := by have := of_decide_eq_false hge; omega
    obtain rfl : i = ls.length := by omega
    rw [List.take_length] at hf2
    conv => whnf
    exact VEnd.mk ⟨w.heap.size, F, d, rfl, Nat.le_refl _, hm2, hf2, hB2⟩

set_option maxRecDepth 100000 in
theorem root_ok (oa : Option Addr) (c : Nat) (ls : List Lk) (id : ByteArray) (w : World) (hr : Row w oa (recs lkc ls)) (hmx : ls.length ≤ 1099511627776) :
    Ret Tryd.prog 45 #[.slice oa ls.length c, .string id] w fun v w' => v = .string (rt ls id) ∧ Below w.heap.size w w' := by
  refine ret_of_vc Tryd.func45 rfl mixed (by kernel_rfl) ?_
  conv => whnf
  refine vcall (by kernel_rfl) (of_ok oa c ls w hr hmx) ?_
  rintro _ w1 ⟨b, F, d, rfl, hb, hm, hf, hB⟩
  conv => whnf
  refine vcall (by kernel_rfl) (froot_ok b F _ d id w1 hm hf) ?_
  rintro _ w2 ⟨rfl, rfl⟩
  conv => whnf
  exact VEnd.mk ⟨rfl, hB⟩

set_option maxRecDepth 100000 in
theorem same1_ok (oa : Option Addr) (c : Nat) (ls : List Lk) (x y : ByteArray) (w : World) (hr : Row w oa (recs lkc ls)) (hmx : ls.length ≤ 1099511627776) :
    Ret Tryd.prog 52 #[.slice oa ls.length c, .string x, .string y] w fun v w' => v = .bool (decide (rt ls x = rt ls y)) ∧ Below w.heap.size w w' := by
  refine ret_of_vc Tryd.func52 rfl mixed (by kernel_rfl) ?_
  conv => whnf
  refine vcall (by kernel_rfl) (of_ok oa c ls w hr hmx) ?_
  rintro _ w1 ⟨b, F, d, rfl, hb, hm, hf, hB⟩
  conv => whnf
  refine vcall (by kernel_rfl) (froot_ok b F _ d x w1 hm hf) ?_
  rintro _ w2 ⟨rfl, rfl⟩
  conv => whnf
  refine vcall (by kernel_rfl) (froot_ok b F _ d y w2 hm hf) ?_
  rintro _ w3 ⟨rfl, rfl⟩
  conv => whnf
  exact VEnd.mk ⟨by show Value.bool (sEq _ _) = _; rw [sEq_dec], hB⟩

/-- the links up to a time -/
def unt (t : Int) (l : List Lk) : List Lk := l.filter fun k => decide (k.t ≤ t)
theorem unt_snoc (t : Int) (l : List Lk) (k : Lk) : unt t (l ++ [k]) = if k.t ≤ t then unt t l ++ [k] else unt t l := by
  unfold unt; rw [List.filter_append]; by_cases h : k.t ≤ t <;> simp [h]
theorem unt_len (t : Int) (l : List Lk) : (unt t l).length ≤ l.length := List.length_filter_le _ _

set_option maxRecDepth 100000 in
/-- one link is appended -/
theorem vs_appL {w : World} {K : Value → World → Prop} {ty : TypeId} {B n c : Nat} {oa : Option Addr} {xs : List Value} (r : Lk)
    (ho : Own w B 40 3 oa n c xs) (hn : n ≤ 1099511627776) (hB : B ≤ w.heap.size)
    (k : ∀ oa' c' w', Own w' B 40 3 oa' (n + 1) c' (xs ++ lkc r) → Below B w w' → w.grownBy w' (ownB oa) → K (.slice oa' (n + 1) c') w') :
    VSem Tryd.prog (Builtin.append_ #[24, 24] ty #[.slice oa n c, .slice (some ⟨w.heap.size, 0, none⟩) 1 1]) (w.alloc (.cells #[.string r.a, .string r.b, .int .i64 r.t] 40)) K :=
  vs_append (B := B) (sz := 3) (by_ := 40) (m := 1) (n := n) rfl rfl rfl rfl rfl rfl (ho.alloc _) (Row.alloc1 w (lkc r) _) rfl (by simpa [recs_one] using lkc_one [r]) (fun e => by cases e) (by omega) (Nat.le_trans hB (by simp)) (by unfold maxLen; omega)
    fun oa' c' w' h hb hg => k oa' c' w' h ((balloc (Below.refl _ _) hB _).trans hb) ⟨hg.os, hg.tape, hg.output, Nat.le_trans (by simp) hg.size, fun k hk hne => (hg.block k (Nat.lt_of_lt_of_le hk (by simp)) hne).trans (heap_alloc_old w _ k hk)⟩

set_option maxRecDepth 100000 in
theorem until1_ok (oa : Option Addr) (c : Nat) (ls : List Lk) (t : Int) (w : World) (hr : Row w oa (recs lkc ls)) (hmx : ls.length ≤ 1099511627776) :
    Ret Tryd.prog 72 #[.slice oa ls.length c, .int .i64 t] w fun v w' => ∃ oa' c', v = .slice oa' (unt t ls).length c' ∧ Row w' oa' (recs lkc (unt t ls)) ∧ Below w.heap.size w w' := by
  refine ret_of_vc Tryd.func72 rfl mixed (by kernel_rfl) ?_
  conv => whnf
  refine vloop (X := Nat × Option Addr × Nat) ws72_1 (fun x => [(10, .int .i64 x.1), (5, .slice x.2.1 (unt t (ls.take x.1)).length x.2.2)]) (fun x w' => x.1 ≤ ls.length ∧ Below w.heap.size w w' ∧ Own w' w.heap.size 40 3 x.2.1 (unt t (ls.take x.1)).length x.2.2 (recs lkc (unt t (ls.take x.1)))) (fun x => ls.length - x.1) (0, none, 0) (by kernel_rfl)
    ?_ ⟨Nat.zero_le _, Below.refl _ _, Own.nil _ _ _ _⟩ ?_
  · exact ⟨rfl, rfl, trivial⟩
  rintro ⟨i, oo, cc⟩ w2 j ⟨hi, hB2, ho⟩
  simp only at hi ho ⊢
  conv => whnf
  refine vif_split (fun hlt => ?_) (fun hge => ?_)
  · have hlt : i < ls.length := by have := of_decide_eq_true hlt; omega
    obtain ⟨b, o, rfl, hbl, hc⟩ := hr.at (by rw [recs_len lkc_len]; omega)
    have hseg := recs_seg lkc_len ls i hlt
    have hc2 := hc.below hB2 hbl
    have hus := unt_snoc t (ls.take i) ls[i]
    rw [← List.take_succ_eq_append_getElem hlt] at hus
    have hul := unt_len t (ls.take i)
    rw [List.length_take] at hul
    obtain ⟨r, hrr⟩ : ∃ r, r = ls[i] := ⟨_, rfl⟩
    rw [← hrr] at hseg hus
    conv => whnf
    (repeat (first | (refine VReq.mk (by first | decide | omega) ?_; conv => whnf) | (refine VPend.mk rfl ?_; conv => whnf) | (refine VNext.keep rfl ?_; conv => whnf) | (refine vs_slI1 _ rfl rfl rfl (by assumption) ?_; conv => whnf) | (refine vs_slI _ rfl rfl rfl (by assumption) ?_; conv => whnf) | (refine vs_arr1 _ rfl rfl rfl (by assumption) ?_; conv => whnf) | (refine vs_loadF (by with_reducible assumption) (by assumption) rfl rfl ?_; conv => whnf) | (refine vs_loadF0 (by with_reducible assumption) (by assumption) rfl rfl ?_; conv => whnf) | (refine vs_loadI (by with_reducible assumption) (by assumption) rfl ?_; conv => whnf) | (refine vs_loadB rfl (by with_reducible assumption) (by assumption) ?_; conv => whnf)))
    refine vs_loadS hc2 hseg rfl rfl ?_
    conv => whnf
    refine vs_storeW (Blk.new _ _ _) rfl rfl rfl ?_
    intro w3 hO3 hb3
    have hB3 : Below w.heap.size w w3 := (balloc hB2 (Nat.le_refl _) _).trans (hO3.below hB2.size)
    have ho3 := (ho.alloc _).only hO3 fun g hg e => by
      have := (Own.ge ho g (by rw [hg]; rfl)).2
      omega
    conv => whnf
    refine vs_loadB rfl hb3 rfl ?_
    conv => whnf
    refine vif_split (fun h => ?_) (fun h => ?_)
    · have h : r.t ≤ t := of_decide_eq_true h
      rw [if_pos h] at hus
      conv => whnf
      refine vs_loadNB rfl rfl hb3 ?_
      conv => whnf
      refine vs_appL (n := (unt t (ls.take i)).length) r ho3 (by omega) hB3.size ?_
      intro o4 c4 w4 ho4 hB4 _
      rw [← recs_one lkc, ← recs_append] at ho4
      conv => whnf
      refine VBack.mk ⟨_, ?_, (i + 1, o4, c4), rfl, ?_, ?_⟩
      · show ls.length - (i + 1) < ls.length - i; omega
      · exact ⟨intEq (incr (by omega)), sliceEq (by rw [hus, List.length_append]; rfl), trivial⟩
      · exact ⟨hlt, hB3.trans hB4, by rw [hus, List.length_append]; exact ho4⟩
    · have h : ¬ r.t ≤ t := of_decide_eq_false h
      rw [if_neg h] at hus
      conv => whnf
      refine VBack.mk ⟨_, ?_, (i + 1, oo, cc), rfl, ?_, ?_⟩
      · show ls.length - (i + 1) < ls.length - i; omega
      · exact ⟨intEq (incr (by omega)), sliceEq (by rw [hus]), trivial⟩
      · exact ⟨hlt, hB3, by rw [hus]; exact ho3⟩
  · have hge : ¬ i < ls.length := by have := of_decide_eq_false hge; omega
    obtain rfl : i = ls.length := by omega
    rw [List.take_length] at ho ⊢
    conv => whnf
    exact VEnd.mk ⟨oo, cc, rfl, ho.row, hB2⟩
end Go.Proofs.YtinpgogjkmmjpaaDoor.Id
