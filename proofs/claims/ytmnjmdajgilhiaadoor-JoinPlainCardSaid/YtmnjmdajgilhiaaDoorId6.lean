/- The walks of identity's forest, Root, Same and Until. Conditions: the argument reads as links. The walks of the reference's Has, insert, Members, Same, Until and SameLinks. Conditions: the arguments read as ids and links. The walks of the reference's Members, Same, Until and SameLinks. Conditions: the arguments read as links. The walks of the reference's Same, Until and SameLinks. Conditions: the arguments read as links. -/
import Derived.Test.YtmnjmdajgilhiaaDoorMp
import Derived.Test.YtmnjmdajgilhiaaDoorFd2
set_option linter.unusedVariables false
set_option linter.unusedSimpArgs false
namespace Go.Proofs.YtmnjmdajgilhiaaDoor.Id
open Go Go.RowKit Go.Proofs.YtmnjmdajgilhiaaDoor.Vc Go.Proofs.YtmnjmdajgilhiaaDoor.Ky
attribute [local irreducible] loadVar storeVar Instr.indexAt Instr.index Instr.sliceAt Instr.makeSlice Instr.lookup Instr.mapUpdate Instr.range Instr.next Instr.entry Instr.makeMap Builtin.append_ Builtin.copy_ Builtin.len_ Builtin.min_ Builtin.max_ Builtin.cap_ Builtin.delete_ Builtin.clear_ convert binOp eqGuard Op.unary Calls

def lkc (k : Lk) : List Value := [.string k.a, .string k.b, .int .i64 k.t]
theorem lkc_len (k : Lk) : (lkc k).length = 3 := rfl
theorem lkc_one (l : List Lk) : ∀ u ∈ recs lkc l, u.oneCell' = true := by
  intro u hu
  simp only [recs, List.mem_flatten, List.mem_map] at hu
  obtain ⟨_, ⟨r, _, rfl⟩, hu⟩ := hu
  simp only [lkc, List.mem_cons, List.not_mem_nil, or_false] at hu
  rcases hu with rfl | rfl | rfl <;> rfl
/-- a map from ids to ids -/
def MapF (w : World) (b : Nat) (F : ByteArray → Option ByteArray) : Prop := MapS w b fun k => (F k).map Value.string

set_option maxRecDepth 100000 in
theorem froot_ok (b : Nat) (F : ByteArray → Option ByteArray) (R : ByteArray → ByteArray) (d : ByteArray → Nat) (id : ByteArray) (w : World) (hm : MapF w b F) (hf : Fo F R d) :
    Ret Tryd.prog 70 #[.map (some b), .string id] w fun v w' => v = .string (R id) ∧ w' = w := by
  refine ret_of_vc Tryd.func70 rfl mixed (by kernel_rfl) ?_
  conv => whnf
  refine vloop (X := ByteArray) ws70_1 (fun c => [(1, .string c)]) (fun c w' => R c = R id ∧ w' = w) (fun c => d c) id (by kernel_rfl)
    ?_ ⟨rfl, rfl⟩ ?_
  · exact ⟨rfl, trivial⟩
  rintro c w1 j ⟨hc, rfl⟩
  conv => whnf
  cases hF : F c with
  | none =>
    refine vs_lookS rfl rfl rfl hm ?_
    simp only [hF, Option.map_none, Option.getD_none, Option.isSome_none]
    conv => whnf
    exact VEnd.mk ⟨by show Value.string c = _; rw [← hc, hf.top c hF], rfl⟩
  | some c' =>
    refine vs_lookS rfl rfl rfl hm ?_
    simp only [hF, Option.map_some, Option.getD_some, Option.isSome_some]
    obtain ⟨h1, h2⟩ := hf.step c c' hF
    conv => whnf
    refine VBack.mk ⟨_, ?_, c', rfl, ?_, ?_⟩
    · exact h2
    · exact ⟨rfl, trivial⟩
    · exact ⟨by rw [h1, hc], rfl⟩

set_option maxRecDepth 100000 in
theorem fjoin_ok (b : Nat) (F : ByteArray → Option ByteArray) (R : ByteArray → ByteArray) (d : ByteArray → Nat) (x y : ByteArray) (w : World) (hm : MapF w b F) (hf : Fo F R d) :
    Ret Tryd.prog 68 #[.map (some b), .string x, .string y] w fun v w' => ∃ F' d', v = .bool (!decide (R x = R y)) ∧ Only b w w' ∧ MapF w' b F' ∧ Fo F' (jn R x y) d' := by
  refine ret_of_vc Tryd.func68 rfl mixed (by kernel_rfl) ?_
  conv => whnf
  refine vcall (by kernel_rfl) (froot_ok b F R d x w hm hf) ?_
  rintro _ w1 ⟨rfl, rfl⟩
  conv => whnf
  refine vcall (by kernel_rfl) (froot_ok b F R d y w1 hm hf) ?_
  rintro _ w2 ⟨rfl, rfl⟩
  conv => whnf
  refine vif_split (fun h => ?_) (fun h => ?_)
  · have h : R x = R y := (sEq_iff _ _).1 h
    conv => whnf
    exact VEnd.mk ⟨F, d, by simp [h]; rfl, Only.refl _ _, hm, by rw [jn_eq h]; exact hf⟩
  · have h : R x ≠ R y := fun e => by rw [(sEq_iff _ _).2 e] at h; cases h
    conv => whnf
    refine vs_putS rfl rfl hm ?_
    intro w3 hO3 hm3
    conv => whnf
    refine VEnd.mk ⟨_, _, by simp [h]; rfl, hO3, ?_, hf.join h⟩
    exact hm3.congr fun k => by by_cases e : k = smax (R x) (R y) <;> simp [e]

set_option maxRecDepth 100000 in
theorem of_ok (oa : Option Addr) (c : Nat) (ls : List Lk) (w : World) (hr : Row w oa (recs lkc ls)) (hmx : ls.length ≤ 1099511627776) :
    Ret Tryd.prog 69 #[.slice oa ls.length c] w fun v w' => ∃ b F d, v = .map (some b) ∧ w.heap.size ≤ b ∧ MapF w' b F ∧ Fo F (rt ls) d ∧ Below w.heap.size w w' := by
  refine ret_of_vc Tryd.func69 rfl mixed (by kernel_rfl) ?_
  conv => whnf
  refine vs_makeMap ?_
  intro w1 hB1 hm1
  conv => whnf
  refine vloop (X := Nat) ws69_1 (fun i => [(9, .int .i64 i)]) (fun i w' => i ≤ ls.length ∧ Below w.heap.size w w' ∧ ∃ F d, MapF w' w.heap.size F ∧ Fo F (rt (ls.take i)) d) (fun i => ls.length - i) 0 (by kernel_rfl)
    ?_ ⟨Nat.zero_le _, hB1, fun _ => none, fun _ => 0, hm1, Fo.nil⟩ ?_
  · exact ⟨rfl, trivial⟩
  clear hB1 hm1
  rintro i w2 j ⟨hi, hB2, F, d, hm2, hf2⟩
  conv => whnf
  refine vif_split (fun hlt => ?_) (fun hge => ?_)
  · have hlt : i < ls.length := by have := of_decide_eq_true hlt; omega
    obtain ⟨b, o, rfl, hbl, hc⟩ := hr.at (by rw [recs_len lkc_len]; omega)
    have hseg := recs_seg lkc_len ls i hlt
    have hc2 := hc.below hB2 hbl
    conv => whnf
    (repeat (first | (refine VReq.mk (by first | decide | omega) ?_; conv => whnf) | (refine VPend.mk rfl ?_; conv => whnf) | (refine VNext.keep rfl ?_; conv => whnf) | (refine vs_slI1 _ rfl rfl rfl (by assumption) ?_; conv => whnf) | (refine vs_slI _ rfl rfl rfl (by assumption) ?_; conv => whnf) | (refine vs_arr1 _ rfl rfl rfl (by assumption) ?_; conv => whnf) | (refine vs_loadF (by with_reducible assumption) (by assumption) rfl rfl ?_; conv => whnf) | (refine vs_loadF0 (by with_reducible assumption) (by assumption) rfl rfl ?_; conv => whnf) | (refine vs_loadI (by with_reducible assumption) (by assumption) rfl ?_; conv => whnf) | (refine vs_loadB rfl (by with_reducible assumption) (by assumption) ?_; conv => whnf)))
    refine vs_loadS hc2 hseg rfl rfl ?_
    conv => whnf
    refine vs_storeW (Blk.new _ _ _) rfl rfl rfl ?_
    intro w3 hO3 hb3
    have hlt2 := MapS.lt hm2
    have hB3 : Below w.heap.size w w3 := (balloc hB2 (Nat.le_refl _) _).trans (hO3.below hB2.size)
    have hm3 : MapF w3 w.heap.size F := MapS.only (MapS.below hm2 (balloc (Below.refl _ _) (Nat.le_refl _) _) hlt2) hO3 (by show w.heap.size ≠ w2.heap.size; omega)
    conv => whnf
    refine vs_loadB rfl hb3 rfl ?_
    conv => whnf
    refine vs_loadB rfl hb3 rfl ?_
    conv => whnf
    refine vcall (by kernel_rfl) (fjoin_ok w.heap.size F _ d _ _ w3 hm3 hf2) ?_
    rintro _ w4 ⟨F', d', rfl, hO4, hm4, hf4⟩
    conv => whnf
    refine VBack.mk ⟨_, ?_, (i + 1), rfl, ?_, ?_⟩
    · show ls.length - (i + 1) < ls.length - i; omega
    · exact ⟨intEq (incr (by omega)), trivial⟩
    · exact ⟨hlt, hB3.trans (hO4.below (Nat.le_refl _)), F', d', hm4, by rw [List.take_succ_eq_append_getElem hlt, rt_snoc]; exact hf4⟩
  · have hge : ¬ i < ls.length := by have := of_decide_eq_false hge; omega
    obtain rfl : i = ls.length := by omega
    rw [List.take_length] at hf2
    conv => whnf
    exact VEnd.mk ⟨w.heap.size, F, d, rfl, Nat.le_refl _, hm2, hf2, hB2⟩

/-- the links up to a time -/
def unt (t : Int) (l : List Lk) : List Lk := l.filter fun k => decide (k.t ≤ t)
theorem unt_snoc (t : Int) (l : List Lk) (k : Lk) : unt t (l ++ [k]) = if k.t ≤ t then unt t l ++ [k] else unt t l := by
  unfold unt; rw [List.filter_append]; by_cases h : k.t ≤ t <;> simp [h]
theorem unt_len (t : Int) (l : List Lk) : (unt t l).length ≤ l.length := List.length_filter_le _ _

set_option maxRecDepth 100000 in
/-- one link is appended -/
theorem vs_appL {w : World} {K : Value → World → Prop} {ty : TypeId} {B n c : Nat} {oa : Option Addr} {xs : List Value} (r : Lk)
    (ho : Own w B 84 3 oa n c xs) (hn : n ≤ 1099511627776) (hB : B ≤ w.heap.size)
    (k : ∀ oa' c' w', Own w' B 84 3 oa' (n + 1) c' (xs ++ lkc r) → Below B w w' → w.grownBy w' (ownB oa) → K (.slice oa' (n + 1) c') w') :
    VSem Tryd.prog (Builtin.append_ #[49, 49] ty #[.slice oa n c, .slice (some ⟨w.heap.size, 0, none⟩) 1 1]) (w.alloc (.cells #[.string r.a, .string r.b, .int .i64 r.t] 84)) K :=
  vs_append (B := B) (sz := 3) (by_ := 40) (m := 1) (n := n) rfl rfl rfl rfl rfl rfl (ho.alloc _) (Row.alloc1 w (lkc r) _) rfl (by simpa [recs_one] using lkc_one [r]) (fun e => by cases e) (by omega) (Nat.le_trans hB (by simp)) (by unfold maxLen; omega)
    fun oa' c' w' h hb hg => k oa' c' w' h ((balloc (Below.refl _ _) hB _).trans hb) ⟨hg.os, hg.tape, hg.output, Nat.le_trans (by simp) hg.size, fun k hk hne => (hg.block k (Nat.lt_of_lt_of_le hk (by simp)) hne).trans (heap_alloc_old w _ k hk)⟩

set_option maxRecDepth 100000 in
theorem until1_ok (oa : Option Addr) (c : Nat) (ls : List Lk) (t : Int) (w : World) (hr : Row w oa (recs lkc ls)) (hmx : ls.length ≤ 1099511627776) :
    Ret Tryd.prog 59 #[.slice oa ls.length c, .int .i64 t] w fun v w' => ∃ oa' c', v = .slice oa' (unt t ls).length c' ∧ Row w' oa' (recs lkc (unt t ls)) ∧ Below w.heap.size w w' := by
  refine ret_of_vc Tryd.func59 rfl mixed (by kernel_rfl) ?_
  conv => whnf
  refine vloop (X := Nat × Option Addr × Nat) ws59_1 (fun x => [(10, .int .i64 x.1), (5, .slice x.2.1 (unt t (ls.take x.1)).length x.2.2)]) (fun x w' => x.1 ≤ ls.length ∧ Below w.heap.size w w' ∧ Own w' w.heap.size 84 3 x.2.1 (unt t (ls.take x.1)).length x.2.2 (recs lkc (unt t (ls.take x.1)))) (fun x => ls.length - x.1) (0, none, 0) (by kernel_rfl)
    ?_ ⟨Nat.zero_le _, Below.refl _ _, Own.nil _ _ _ _⟩ ?_
  · exact ⟨rfl, rfl, trivial⟩
  rintro ⟨i, oo, cc⟩ w2 j ⟨hi, hB2, ho⟩
  simp only at hi ho ⊢
  conv => whnf
  refine vif_split (fun hlt => ?_) (fun hge => ?_)
  · have hlt : i < ls.length := by have := of_decide_eq_true hlt; omega
    obtain ⟨b, o, rfl, hbl, hc⟩ := hr.at (by rw [recs_len lkc_len]; omega)
    have hseg := recs_seg lkc_len ls i hlt
    have hc2 := hc.below hB2 hbl
    have hus := unt_snoc t (ls.take i) ls[i]
    rw [← List.take_succ_eq_append_getElem hlt] at hus
    have hul := unt_len t (ls.take i)
    rw [List.length_take] at hul
    obtain ⟨r, hrr⟩ : ∃ r, r = ls[i] := ⟨_, rfl⟩
    rw [← hrr] at hseg hus
    conv => whnf
    (repeat (first | (refine VReq.mk (by first | decide | omega) ?_; conv => whnf) | (refine VPend.mk rfl ?_; conv => whnf) | (refine VNext.keep rfl ?_; conv => whnf) | (refine vs_slI1 _ rfl rfl rfl (by assumption) ?_; conv => whnf) | (refine vs_slI _ rfl rfl rfl (by assumption) ?_; conv => whnf) | (refine vs_arr1 _ rfl rfl rfl (by assumption) ?_; conv => whnf) | (refine vs_loadF (by with_reducible assumption) (by assumption) rfl rfl ?_; conv => whnf) | (refine vs_loadF0 (by with_reducible assumption) (by assumption) rfl rfl ?_; conv => whnf) | (refine vs_loadI (by with_reducible assumption) (by assumption) rfl ?_; conv => whnf) | (refine vs_loadB rfl (by with_reducible assumption) (by assumption) ?_; conv => whnf)))
    refine vs_loadS hc2 hseg rfl rfl ?_
    conv => whnf
    refine vs_storeW (Blk.new _ _ _) rfl rfl rfl ?_
    intro w3 hO3 hb3
    have hB3 : Below w.heap.size w w3 := (balloc hB2 (Nat.le_refl _) _).trans (hO3.below hB2.size)
    have ho3 := (ho.alloc _).only hO3 fun g hg e => by
      have := (Own.ge ho g (by rw [hg]; rfl)).2
      omega
    conv => whnf
    refine vs_loadB rfl hb3 rfl ?_
    conv => whnf
    refine vif_split (fun h => ?_) (fun h => ?_)
    · have h : r.t ≤ t := of_decide_eq_true h
      rw [if_pos h] at hus
      conv => whnf
      refine vs_loadNB rfl rfl hb3 ?_
      conv => whnf
      refine vs_appL (n := (unt t (ls.take i)).length) r ho3 (by omega) hB3.size ?_
      intro o4 c4 w4 ho4 hB4 _
      rw [← recs_one lkc, ← recs_append] at ho4
      conv => whnf
      refine VBack.mk ⟨_, ?_, (i + 1, o4, c4), rfl, ?_, ?_⟩
      · show ls.length - (i + 1) < ls.length - i; omega
      · exact ⟨intEq (incr (by omega)), sliceEq (by rw [hus, List.length_append]; rfl), trivial⟩
      · exact ⟨hlt, hB3.trans hB4, by rw [hus, List.length_append]; exact ho4⟩
    · have h : ¬ r.t ≤ t := of_decide_eq_false h
      rw [if_neg h] at hus
      conv => whnf
      refine VBack.mk ⟨_, ?_, (i + 1, oo, cc), rfl, ?_, ?_⟩
      · show ls.length - (i + 1) < ls.length - i; omega
      · exact ⟨intEq (incr (by omega)), sliceEq (by rw [hus]), trivial⟩
      · exact ⟨hlt, hB3, by rw [hus]; exact ho3⟩
  · have hge : ¬ i < ls.length := by have := of_decide_eq_false hge; omega
    obtain rfl : i = ls.length := by omega
    rw [List.take_length] at ho ⊢
    conv => whnf
    exact VEnd.mk ⟨oo, cc, rfl, ho.row, hB2⟩
end Go.Proofs.YtmnjmdajgilhiaaDoor.Id

namespace Go.Proofs.YtmnjmdajgilhiaaDoor.Id
open Go Go.RowKit Go.Proofs.YtmnjmdajgilhiaaDoor.Vc Go.Proofs.YtmnjmdajgilhiaaDoor.Ky
attribute [local irreducible] loadVar storeVar Instr.indexAt Instr.index Instr.sliceAt Instr.makeSlice Instr.lookup Instr.mapUpdate Instr.range Instr.next Instr.entry Instr.makeMap Builtin.append_ Builtin.copy_ Builtin.len_ Builtin.min_ Builtin.max_ Builtin.cap_ Builtin.delete_ Builtin.clear_ convert binOp eqGuard Op.unary Calls

theorem svals_one (l : List ByteArray) : ∀ u ∈ svals l, u.oneCell' = true := by
  intro u hu
  simp only [svals, List.mem_map] at hu
  obtain ⟨x, _, rfl⟩ := hu
  rfl
@[simp] theorem svals_len (l : List ByteArray) : (svals l).length = l.length := by simp [svals]
theorem svals_append (a b : List ByteArray) : svals (a ++ b) = svals a ++ svals b := by simp [svals]

/-- an id of the list -/
def hasB (l : List ByteArray) (x : ByteArray) : Bool := l.any fun y => sEq y x
theorem hasB_iff (l : List ByteArray) (x : ByteArray) : hasB l x = true ↔ x ∈ l := by
  unfold hasB
  rw [List.any_eq_true]
  constructor
  · rintro ⟨y, hy, e⟩; rw [← (sEq_iff _ _).1 e]; exact hy
  · intro h; exact ⟨x, h, (sEq_iff _ _).2 rfl⟩
theorem hasB_not (l : List ByteArray) (x : ByteArray) : hasB l x = false ↔ x ∉ l := by rw [← hasB_iff]; simp

set_option maxRecDepth 100000 in
theorem has_ok (oa : Option Addr) (c : Nat) (l : List ByteArray) (x : ByteArray) (w : World) (hr : Row w oa (svals l)) (hmx : l.length ≤ 1099511627776) :
    Ret Tryd.prog 50 #[.slice oa l.length c, .string x] w fun v w' => v = .bool (hasB l x) ∧ w' = w := by
  refine ret_of_vc Tryd.func50 rfl mixed (by kernel_rfl) ?_
  conv => whnf
  refine vloop (X := Nat) ws50_1 (fun i => [(5, .int .i64 i)]) (fun i w' => i ≤ l.length ∧ w' = w ∧ x ∉ l.take i) (fun i => l.length - i) 0 (by kernel_rfl)
    ?_ ⟨Nat.zero_le _, rfl, by simp⟩ ?_
  · exact ⟨rfl, trivial⟩
  rintro i w1 j ⟨hi, rfl, hp⟩
  conv => whnf
  refine vif_split (fun hlt => ?_) (fun hge => ?_)
  · have hlt : i < l.length := by have := of_decide_eq_true hlt; omega
    obtain ⟨b, o, rfl, hbl, hc⟩ := hr.at (by rw [svals_len]; omega)
    have hg := svals_get hlt
    conv => whnf
    (repeat (first | (refine VReq.mk (by first | decide | omega) ?_; conv => whnf) | (refine VPend.mk rfl ?_; conv => whnf) | (refine VNext.keep rfl ?_; conv => whnf) | (refine vs_slI1 _ rfl rfl rfl (by assumption) ?_; conv => whnf) | (refine vs_slI _ rfl rfl rfl (by assumption) ?_; conv => whnf) | (refine vs_arr1 _ rfl rfl rfl (by assumption) ?_; conv => whnf) | (refine vs_loadF (by with_reducible assumption) (by assumption) rfl rfl ?_; conv => whnf) | (refine vs_loadF0 (by with_reducible assumption) (by assumption) rfl rfl ?_; conv => whnf) | (refine vs_loadI (by with_reducible assumption) (by assumption) rfl ?_; conv => whnf) | (refine vs_loadB rfl (by with_reducible assumption) (by assumption) ?_; conv => whnf)))
    refine vif_split (fun h => ?_) (fun h => ?_)
    · have h : l[i] = x := (sEq_iff _ _).1 h
      rw [(hasB_iff l x).2 (by rw [← h]; exact List.getElem_mem hlt)]
      conv => whnf
      exact VEnd.mk ⟨rfl, rfl⟩
    · have h : l[i] ≠ x := fun e => by rw [(sEq_iff _ _).2 e] at h; cases h
      conv => whnf
      refine VBack.mk ⟨_, ?_, (i + 1), rfl, ?_, ?_⟩
      · show l.length - (i + 1) < l.length - i; omega
      · exact ⟨intEq (incr (by omega)), trivial⟩
      · refine ⟨hlt, rfl, ?_⟩
        rw [List.take_succ_eq_append_getElem hlt]
        simp only [List.mem_append, List.mem_singleton, not_or]
        exact ⟨hp, fun e => h e.symm⟩
  · have hge : ¬ i < l.length := by have := of_decide_eq_false hge; omega
    obtain rfl : i = l.length := by omega
    rw [List.take_length] at hp
    rw [(hasB_not l x).2 hp]
    conv => whnf
    exact VEnd.mk ⟨rfl, rfl⟩

theorem fromDrew {B : Nat} {u v : World} (h : Below B u v) : Below B u.drew v := ⟨h.os, h.tape, h.output, h.size, h.block⟩
theorem Own.cap {w : World} {B : Nat} {E : TypeId} {sz : Nat} {oa : Option Addr} {n c : Nat} {xs : List Value} (h : Own w B E sz oa n c xs) : n ≤ c ∧ (oa = none → c = 0) := by
  rcases h.2 with ⟨h1, h0⟩ | ⟨g, cap, cur, hv, _, _, h1, _⟩
  · injection h1 with _ _ e; subst e; exact ⟨by omega, fun _ => rfl⟩
  · injection hv with e1 _ e3; subst e3; exact ⟨h1, fun e => by rw [e] at e1; cases e1⟩
theorem Row.grown {w w' : World} {b : Nat} {vs : List Value} {row : Option Nat} (h : Row w (some ⟨b, 0, none⟩) vs) (hg : w.grownBy w' row) (hne : some b ≠ row) : Row w' (some ⟨b, 0, none⟩) vs := by
  rcases h with h | ⟨b', o, he, hlt, hc⟩
  · exact .inl h
  · injection he with he
    injection he with e1 e2
    subst e1; subst e2
    refine .inr ⟨b, 0, rfl, Nat.lt_of_lt_of_le hlt hg.size, fun j v hj => ?_⟩
    have := hc j v hj
    unfold World.cell? at this ⊢
    simp only at this ⊢
    rw [hg.block b hlt hne]; exact this
set_option maxHeartbeats 1000000 in
set_option maxRecDepth 100000 in
theorem insert_ok (oa : Option Addr) (c : Nat) (l : List ByteArray) (x : ByteArray) (w : World) (hr : Row w oa (svals l)) (hc : l.length ≤ c) (hnil : oa = none → c = 0) (hmx : l.length ≤ 1099511627776) :
    Ret Tryd.prog 63 #[.slice oa l.length c, .string x] w fun v w' => ∃ oa' c' l', v = .slice oa' l'.length c' ∧ Row w' oa' (svals l') ∧ l'.length = l.length + 1 ∧ l'.length ≤ c' ∧ (oa' = none → c' = 0) ∧ (∀ y, y ∈ l' ↔ y ∈ l ∨ y = x) ∧ Below w.heap.size w w' := by
  refine ret_of_vc Tryd.func63 rfl mixed (by kernel_rfl) ?_
  conv => whnf
  refine vloop (X := Nat) ws63_1 (fun i => [(5, .int .i64 i)]) (fun i w' => i ≤ l.length ∧ w' = w) (fun i => l.length - i) 0 (by kernel_rfl)
    ?_ ⟨Nat.zero_le _, rfl⟩ ?_
  · exact ⟨rfl, trivial⟩
  rintro i w1 j ⟨hi, rfl⟩
  have fin : True := trivial
  conv => whnf
  refine vif_split (fun hlt => ?_) (fun hge => ?_)
  · have hlt : i < l.length := by have := of_decide_eq_true hlt; omega
    obtain ⟨b, o, rfl, hbl, hA⟩ := hr.at (by rw [svals_len]; omega)
    have hg := svals_get hlt
    conv => whnf
    (repeat (first | (refine VReq.mk (by first | decide | omega) ?_; conv => whnf) | (refine VPend.mk rfl ?_; conv => whnf) | (refine VNext.keep rfl ?_; conv => whnf) | (refine vs_slI1 _ rfl rfl rfl (by assumption) ?_; conv => whnf) | (refine vs_slI _ rfl rfl rfl (by assumption) ?_; conv => whnf) | (refine vs_arr1 _ rfl rfl rfl (by assumption) ?_; conv => whnf) | (refine vs_loadF (by with_reducible assumption) (by assumption) rfl rfl ?_; conv => whnf) | (refine vs_loadF0 (by with_reducible assumption) (by assumption) rfl rfl ?_; conv => whnf) | (refine vs_loadI (by with_reducible assumption) (by assumption) rfl ?_; conv => whnf) | (refine vs_loadB rfl (by with_reducible assumption) (by assumption) ?_; conv => whnf)))
    refine vif_split (fun h => ?_) (fun h => ?_)
    · conv => whnf
      refine VBack.mk ⟨_, ?_, (i + 1), rfl, ?_, ?_⟩
      · show l.length - (i + 1) < l.length - i; omega
      · exact ⟨intEq (incr (by omega)), trivial⟩
      · exact ⟨hlt, rfl⟩
    · conv => whnf
      (refine vdrawB plan63 (by kernel_rfl) ?_; conv => whnf)
      have hci : i ≤ c := by omega
      have hrT : ∀ u, Below w1.heap.size w1 u → Row u _ (svals (l.take i)) := fun u hu => by
        have := (hr.below hu).take i
        rwa [show (svals l).take i = svals (l.take i) by simp [svals, List.map_take]] at this
      have hrD : ∀ u, Below w1.heap.size w1 u → Row u (loS _ i 1 c) (svals (l.drop i)) := fun u hu => by
        have := (hr.below hu).lo' (lo := i) (sz := 1) (c := c) (by rw [svals_len]; omega)
        rwa [Nat.mul_one, show (svals l).drop i = svals (l.drop i) by simp [svals, List.map_drop]] at this
      have hBd : Below w1.heap.size w1 w1.drew := belowDrew (Below.refl _ _)
      refine vs_sliceHi (h := i) rfl rfl rfl (by omega) hc ?_
      conv => whnf
      refine VPend.mk rfl ?_
      conv => whnf
      refine VPend.mk (fun u _ => ?_) ?_
      · conv => whnf
        exact vs_sliceHi (h := i) rfl rfl rfl (by omega) hc (VPend.mk rfl rfl)
      conv => whnf
      refine vs_sliceLo (lo := i) rfl rfl rfl (by omega) ?_
      conv => whnf
      refine VPend.mk rfl ?_
      conv => whnf
      refine VPend.mk (fun u _ => ?_) ?_
      · conv => whnf
        exact vs_sliceLo (lo := i) rfl rfl rfl (by omega) (VPend.mk rfl rfl)
      conv => whnf
      have hsz := hBd.size
      refine ⟨?_, ?_⟩
      · conv => whnf
        have hB0 : Below w1.heap.size w1 (w1.drew.alloc (.cells #[] 9)) := balloc hBd (Nat.le_refl _) _
        have hO0 : Own (w1.drew.alloc (.cells #[] 9)) w1.heap.size 9 1 (some ⟨w1.heap.size, 0, none⟩) 0 0 [] := Own.ofBlk (Blk.new w1.drew #[] _) (Nat.le_refl _) (Nat.le_refl _) (Nat.zero_le _) rfl rfl
        refine VNext.keep (fromDrew hB0) ?_
        conv => whnf
        refine ⟨?_, ?_⟩
        · conv => whnf
          refine vs_append (B := w1.heap.size) (sz := 1) (by_ := 16) (m := i) (n := 0) rfl rfl rfl rfl rfl rfl hO0 (hrT _ hB0) (by simp; omega) (svals_one _) hnil (by omega) hB0.size (by unfold maxLen; omega) ?_
          intro o4 c4 w4 ho4 hB4 _
          rw [Nat.zero_add, List.nil_append] at ho4
          have hB4' := hB0.trans hB4
          conv => whnf
          refine VNext.keep (fromDrew hB4') ?_
          conv => whnf
          have hOwn := ho4.alloc (.cells #[.string x] 9)
          have hRx := Row.alloc1 w4 [.string x] 9
          have hBk := balloc hB4' (Nat.le_refl _) (.cells #[.string x] 9)
          refine VNext.keep (fromDrew hBk) ?_
          rw [Nat.zero_add]
          conv => whnf
          refine vs_append (B := w1.heap.size) (sz := 1) (by_ := 16) (m := 1) (n := i) rfl rfl rfl rfl rfl rfl hOwn hRx rfl (fun u hu => by simp at hu; subst hu; rfl) (fun e => by cases e) (by omega) hBk.size (by unfold maxLen; omega) ?_
          intro o7 c7 w7 ho7 hB7 _
          have hBk7 := hBk.trans hB7
          conv => whnf
          refine VNext.keep (fromDrew hBk7) ?_
          conv => whnf
          refine vs_append (B := w1.heap.size) (sz := 1) (by_ := 16) (m := l.length - i) (n := i + 1) rfl rfl rfl rfl rfl rfl ho7 (hrD w7 hBk7) (by simp) (svals_one _) (loS_none hnil) (by omega) hBk7.size (by unfold maxLen; omega) ?_
          intro o9 c9 w9 ho9 hB9 _
          have hBk9 := hBk7.trans hB9
          conv => whnf
          refine VNext.keep (fromDrew hBk9) ?_
          conv => whnf
          obtain ⟨l9, hl9⟩ : ∃ m, m = l.take i ++ [x] ++ l.drop i := ⟨_, rfl⟩
          have hll : i + 1 + (l.length - i) = l9.length := by rw [hl9]; simp; omega
          have hls : svals (l.take i) ++ [Value.string x] ++ svals (l.drop i) = svals l9 := by rw [hl9]; simp [svals]
          rw [hls, hll] at ho9
          rw [hll]
          have hcap := Own.cap ho9
          refine VEnd.mk ⟨o9, c9, l9, rfl, ho9.row, by omega, hcap.1, hcap.2, fun y => ?_, hBk9⟩
          rw [hl9]
          simp only [List.mem_append, List.mem_singleton]
          constructor
          · rintro ((h | h) | h)
            · exact .inl (List.mem_of_mem_take h)
            · exact .inr h
            · exact .inl (List.mem_of_mem_drop h)
          · rintro (h | h)
            · rw [← List.take_append_drop i l] at h
              rcases List.mem_append.1 h with h | h
              · exact .inl (.inl h)
              · exact .inr h
            · exact .inl (.inr h)
        · conv => whnf
          have hO6 := hO0.alloc (.cells #[.string x] 9)
          have hR6 := Row.alloc1 (w1.drew.alloc (.cells #[] 9)) [.string x] 9
          have hB6 := balloc hB0 (Nat.le_refl _) (.cells #[.string x] 9)
          refine VNext.keep (fromDrew hB6) ?_
          conv => whnf
          refine vs_append (B := w1.heap.size) (sz := 1) (by_ := 16) (m := i) (n := 0) rfl rfl rfl rfl rfl rfl hO6 (hrT _ hB6) (by simp; omega) (svals_one _) hnil (by omega) hB6.size (by unfold maxLen; omega) ?_
          intro o4 c4 w4 ho4 hB4 hg4
          rw [Nat.zero_add, List.nil_append] at ho4
          have hOwn := ho4
          have hBk := hB6.trans hB4
          have hRx := Row.grown hR6 hg4 (by simp [ownB])
          conv => whnf
          refine VNext.keep (fromDrew hBk) ?_
          rw [Nat.zero_add]
          conv => whnf
          refine vs_append (B := w1.heap.size) (sz := 1) (by_ := 16) (m := 1) (n := i) rfl rfl rfl rfl rfl rfl hOwn hRx rfl (fun u hu => by simp at hu; subst hu; rfl) (fun e => by cases e) (by omega) hBk.size (by unfold maxLen; omega) ?_
          intro o7 c7 w7 ho7 hB7 _
          have hBk7 := hBk.trans hB7
          conv => whnf
          refine VNext.keep (fromDrew hBk7) ?_
          conv => whnf
          refine vs_append (B := w1.heap.size) (sz := 1) (by_ := 16) (m := l.length - i) (n := i + 1) rfl rfl rfl rfl rfl rfl ho7 (hrD w7 hBk7) (by simp) (svals_one _) (loS_none hnil) (by omega) hBk7.size (by unfold maxLen; omega) ?_
          intro o9 c9 w9 ho9 hB9 _
          have hBk9 := hBk7.trans hB9
          conv => whnf
          refine VNext.keep (fromDrew hBk9) ?_
          conv => whnf
          obtain ⟨l9, hl9⟩ : ∃ m, m = l.take i ++ [x] ++ l.drop i := ⟨_, rfl⟩
          have hll : i + 1 + (l.length - i) = l9.length := by rw [hl9]; simp; omega
          have hls : svals (l.take i) ++ [Value.string x] ++ svals (l.drop i) = svals l9 := by rw [hl9]; simp [svals]
          rw [hls, hll] at ho9
          rw [hll]
          have hcap := Own.cap ho9
          refine VEnd.mk ⟨o9, c9, l9, rfl, ho9.row, by omega, hcap.1, hcap.2, fun y => ?_, hBk9⟩
          rw [hl9]
          simp only [List.mem_append, List.mem_singleton]
          constructor
          · rintro ((h | h) | h)
            · exact .inl (List.mem_of_mem_take h)
            · exact .inr h
            · exact .inl (List.mem_of_mem_drop h)
          · rintro (h | h)
            · rw [← List.take_append_drop i l] at h
              rcases List.mem_append.1 h with h | h
              · exact .inl (.inl h)
              · exact .inr h
            · exact .inl (.inr h)
      · conv => whnf
        have hR6 := Row.alloc1 w1.drew [.string x] 9
        have hB6 := balloc hBd (Nat.le_refl _) (.cells #[.string x] 9)
        refine VNext.keep (fromDrew hB6) ?_
        conv => whnf
        have hO0 : Own ((w1.drew.alloc (.cells #[.string x] 9)).alloc (.cells #[] 9)) w1.heap.size 9 1 (some ⟨(w1.drew.alloc (.cells #[.string x] 9)).heap.size, 0, none⟩) 0 0 [] := Own.ofBlk (Blk.new _ #[] _) hB6.size (Nat.le_refl _) (Nat.zero_le _) rfl rfl
        have hB0 := balloc hB6 (Nat.le_refl _) (.cells #[] 9)
        have hR0 := hR6.alloc (.cells #[] 9)
        refine VNext.keep (fromDrew hB0) ?_
        conv => whnf
        refine vs_append (B := w1.heap.size) (sz := 1) (by_ := 16) (m := i) (n := 0) rfl rfl rfl rfl rfl rfl hO0 (hrT _ hB0) (by simp; omega) (svals_one _) hnil (by omega) hB0.size (by unfold maxLen; omega) ?_
        intro o4 c4 w4 ho4 hB4 hg4
        rw [Nat.zero_add, List.nil_append] at ho4
        have hOwn := ho4
        have hBk := hB0.trans hB4
        have hRx := Row.grown hR0 hg4 (by simp [ownB])
        conv => whnf
        refine VNext.keep (fromDrew hBk) ?_
        rw [Nat.zero_add]
        conv => whnf
        refine vs_append (B := w1.heap.size) (sz := 1) (by_ := 16) (m := 1) (n := i) rfl rfl rfl rfl rfl rfl hOwn hRx rfl (fun u hu => by simp at hu; subst hu; rfl) (fun e => by cases e) (by omega) hBk.size (by unfold maxLen; omega) ?_
        intro o7 c7 w7 ho7 hB7 _
        have hBk7 := hBk.trans hB7
        conv => whnf
        refine VNext.keep (fromDrew hBk7) ?_
        conv => whnf
        refine vs_append (B := w1.heap.size) (sz := 1) (by_ := 16) (m := l.length - i) (n := i + 1) rfl rfl rfl rfl rfl rfl ho7 (hrD w7 hBk7) (by simp) (svals_one _) (loS_none hnil) (by omega) hBk7.size (by unfold maxLen; omega) ?_
        intro o9 c9 w9 ho9 hB9 _
        have hBk9 := hBk7.trans hB9
        conv => whnf
        refine VNext.keep (fromDrew hBk9) ?_
        conv => whnf
        obtain ⟨l9, hl9⟩ : ∃ m, m = l.take i ++ [x] ++ l.drop i := ⟨_, rfl⟩
        have hll : i + 1 + (l.length - i) = l9.length := by rw [hl9]; simp; omega
        have hls : svals (l.take i) ++ [Value.string x] ++ svals (l.drop i) = svals l9 := by rw [hl9]; simp [svals]
        rw [hls, hll] at ho9
        rw [hll]
        have hcap := Own.cap ho9
        refine VEnd.mk ⟨o9, c9, l9, rfl, ho9.row, by omega, hcap.1, hcap.2, fun y => ?_, hBk9⟩
        rw [hl9]
        simp only [List.mem_append, List.mem_singleton]
        constructor
        · rintro ((h | h) | h)
          · exact .inl (List.mem_of_mem_take h)
          · exact .inr h
          · exact .inl (List.mem_of_mem_drop h)
        · rintro (h | h)
          · rw [← List.take_append_drop i l] at h
            rcases List.mem_append.1 h with h | h
            · exact .inl (.inl h)
            · exact .inr h
          · exact .inl (.inr h)
  · have hge : ¬ i < l.length := by have := of_decide_eq_false hge; omega
    conv => whnf
    (refine vdrawB plan63 (by kernel_rfl) ?_; conv => whnf)
    have hci : i ≤ c := by omega
    have hrT : ∀ u, Below w1.heap.size w1 u → Row u _ (svals (l.take i)) := fun u hu => by
      have := (hr.below hu).take i
      rwa [show (svals l).take i = svals (l.take i) by simp [svals, List.map_take]] at this
    have hrD : ∀ u, Below w1.heap.size w1 u → Row u (loS _ i 1 c) (svals (l.drop i)) := fun u hu => by
      have := (hr.below hu).lo' (lo := i) (sz := 1) (c := c) (by rw [svals_len]; omega)
      rwa [Nat.mul_one, show (svals l).drop i = svals (l.drop i) by simp [svals, List.map_drop]] at this
    have hBd : Below w1.heap.size w1 w1.drew := belowDrew (Below.refl _ _)
    refine vs_sliceHi (h := i) rfl rfl rfl (by omega) hc ?_
    conv => whnf
    refine VPend.mk rfl ?_
    conv => whnf
    refine VPend.mk (fun u _ => ?_) ?_
    · conv => whnf
      exact vs_sliceHi (h := i) rfl rfl rfl (by omega) hc (VPend.mk rfl rfl)
    conv => whnf
    refine vs_sliceLo (lo := i) rfl rfl rfl (by omega) ?_
    conv => whnf
    refine VPend.mk rfl ?_
    conv => whnf
    refine VPend.mk (fun u _ => ?_) ?_
    · conv => whnf
      exact vs_sliceLo (lo := i) rfl rfl rfl (by omega) (VPend.mk rfl rfl)
    conv => whnf
    have hsz := hBd.size
    refine ⟨?_, ?_⟩
    · conv => whnf
      have hB0 : Below w1.heap.size w1 (w1.drew.alloc (.cells #[] 9)) := balloc hBd (Nat.le_refl _) _
      have hO0 : Own (w1.drew.alloc (.cells #[] 9)) w1.heap.size 9 1 (some ⟨w1.heap.size, 0, none⟩) 0 0 [] := Own.ofBlk (Blk.new w1.drew #[] _) (Nat.le_refl _) (Nat.le_refl _) (Nat.zero_le _) rfl rfl
      refine VNext.keep (fromDrew hB0) ?_
      conv => whnf
      refine ⟨?_, ?_⟩
      · conv => whnf
        refine vs_append (B := w1.heap.size) (sz := 1) (by_ := 16) (m := i) (n := 0) rfl rfl rfl rfl rfl rfl hO0 (hrT _ hB0) (by simp; omega) (svals_one _) hnil (by omega) hB0.size (by unfold maxLen; omega) ?_
        intro o4 c4 w4 ho4 hB4 _
        rw [Nat.zero_add, List.nil_append] at ho4
        have hB4' := hB0.trans hB4
        conv => whnf
        refine VNext.keep (fromDrew hB4') ?_
        conv => whnf
        have hOwn := ho4.alloc (.cells #[.string x] 9)
        have hRx := Row.alloc1 w4 [.string x] 9
        have hBk := balloc hB4' (Nat.le_refl _) (.cells #[.string x] 9)
        refine VNext.keep (fromDrew hBk) ?_
        rw [Nat.zero_add]
        conv => whnf
        refine vs_append (B := w1.heap.size) (sz := 1) (by_ := 16) (m := 1) (n := i) rfl rfl rfl rfl rfl rfl hOwn hRx rfl (fun u hu => by simp at hu; subst hu; rfl) (fun e => by cases e) (by omega) hBk.size (by unfold maxLen; omega) ?_
        intro o7 c7 w7 ho7 hB7 _
        have hBk7 := hBk.trans hB7
        conv => whnf
        refine VNext.keep (fromDrew hBk7) ?_
        conv => whnf
        refine vs_append (B := w1.heap.size) (sz := 1) (by_ := 16) (m := l.length - i) (n := i + 1) rfl rfl rfl rfl rfl rfl ho7 (hrD w7 hBk7) (by simp) (svals_one _) (loS_none hnil) (by omega) hBk7.size (by unfold maxLen; omega) ?_
        intro o9 c9 w9 ho9 hB9 _
        have hBk9 := hBk7.trans hB9
        conv => whnf
        refine VNext.keep (fromDrew hBk9) ?_
        conv => whnf
        obtain ⟨l9, hl9⟩ : ∃ m, m = l.take i ++ [x] ++ l.drop i := ⟨_, rfl⟩
        have hll : i + 1 + (l.length - i) = l9.length := by rw [hl9]; simp; omega
        have hls : svals (l.take i) ++ [Value.string x] ++ svals (l.drop i) = svals l9 := by rw [hl9]; simp [svals]
        rw [hls, hll] at ho9
        rw [hll]
        have hcap := Own.cap ho9
        refine VEnd.mk ⟨o9, c9, l9, rfl, ho9.row, by omega, hcap.1, hcap.2, fun y => ?_, hBk9⟩
        rw [hl9]
        simp only [List.mem_append, List.mem_singleton]
        constructor
        · rintro ((h | h) | h)
          · exact .inl (List.mem_of_mem_take h)
          · exact .inr h
          · exact .inl (List.mem_of_mem_drop h)
        · rintro (h | h)
          · rw [← List.take_append_drop i l] at h
            rcases List.mem_append.1 h with h | h
            · exact .inl (.inl h)
            · exact .inr h
          · exact .inl (.inr h)
      · conv => whnf
        have hO6 := hO0.alloc (.cells #[.string x] 9)
        have hR6 := Row.alloc1 (w1.drew.alloc (.cells #[] 9)) [.string x] 9
        have hB6 := balloc hB0 (Nat.le_refl _) (.cells #[.string x] 9)
        refine VNext.keep (fromDrew hB6) ?_
        conv => whnf
        refine vs_append (B := w1.heap.size) (sz := 1) (by_ := 16) (m := i) (n := 0) rfl rfl rfl rfl rfl rfl hO6 (hrT _ hB6) (by simp; omega) (svals_one _) hnil (by omega) hB6.size (by unfold maxLen; omega) ?_
        intro o4 c4 w4 ho4 hB4 hg4
        rw [Nat.zero_add, List.nil_append] at ho4
        have hOwn := ho4
        have hBk := hB6.trans hB4
        have hRx := Row.grown hR6 hg4 (by simp [ownB])
        conv => whnf
        refine VNext.keep (fromDrew hBk) ?_
        rw [Nat.zero_add]
        conv => whnf
        refine vs_append (B := w1.heap.size) (sz := 1) (by_ := 16) (m := 1) (n := i) rfl rfl rfl rfl rfl rfl hOwn hRx rfl (fun u hu => by simp at hu; subst hu; rfl) (fun e => by cases e) (by omega) hBk.size (by unfold maxLen; omega) ?_
        intro o7 c7 w7 ho7 hB7 _
        have hBk7 := hBk.trans hB7
        conv => whnf
        refine VNext.keep (fromDrew hBk7) ?_
        conv => whnf
        refine vs_append (B := w1.heap.size) (sz := 1) (by_ := 16) (m := l.length - i) (n := i + 1) rfl rfl rfl rfl rfl rfl ho7 (hrD w7 hBk7) (by simp) (svals_one _) (loS_none hnil) (by omega) hBk7.size (by unfold maxLen; omega) ?_
        intro o9 c9 w9 ho9 hB9 _
        have hBk9 := hBk7.trans hB9
        conv => whnf
        refine VNext.keep (fromDrew hBk9) ?_
        conv => whnf
        obtain ⟨l9, hl9⟩ : ∃ m, m = l.take i ++ [x] ++ l.drop i := ⟨_, rfl⟩
        have hll : i + 1 + (l.length - i) = l9.length := by rw [hl9]; simp; omega
        have hls : svals (l.take i) ++ [Value.string x] ++ svals (l.drop i) = svals l9 := by rw [hl9]; simp [svals]
        rw [hls, hll] at ho9
        rw [hll]
        have hcap := Own.cap ho9
        refine VEnd.mk ⟨o9, c9, l9, rfl, ho9.row, by omega, hcap.1, hcap.2, fun y => ?_, hBk9⟩
        rw [hl9]
        simp only [List.mem_append, List.mem_singleton]
        constructor
        · rintro ((h | h) | h)
          · exact .inl (List.mem_of_mem_take h)
          · exact .inr h
          · exact .inl (List.mem_of_mem_drop h)
        · rintro (h | h)
          · rw [← List.take_append_drop i l] at h
            rcases List.mem_append.1 h with h | h
            · exact .inl (.inl h)
            · exact .inr h
          · exact .inl (.inr h)
    · conv => whnf
      have hR6 := Row.alloc1 w1.drew [.string x] 9
      have hB6 := balloc hBd (Nat.le_refl _) (.cells #[.string x] 9)
      refine VNext.keep (fromDrew hB6) ?_
      conv => whnf
      have hO0 : Own ((w1.drew.alloc (.cells #[.string x] 9)).alloc (.cells #[] 9)) w1.heap.size 9 1 (some ⟨(w1.drew.alloc (.cells #[.string x] 9)).heap.size, 0, none⟩) 0 0 [] := Own.ofBlk (Blk.new _ #[] _) hB6.size (Nat.le_refl _) (Nat.zero_le _) rfl rfl
      have hB0 := balloc hB6 (Nat.le_refl _) (.cells #[] 9)
      have hR0 := hR6.alloc (.cells #[] 9)
      refine VNext.keep (fromDrew hB0) ?_
      conv => whnf
      refine vs_append (B := w1.heap.size) (sz := 1) (by_ := 16) (m := i) (n := 0) rfl rfl rfl rfl rfl rfl hO0 (hrT _ hB0) (by simp; omega) (svals_one _) hnil (by omega) hB0.size (by unfold maxLen; omega) ?_
      intro o4 c4 w4 ho4 hB4 hg4
      rw [Nat.zero_add, List.nil_append] at ho4
      have hOwn := ho4
      have hBk := hB0.trans hB4
      have hRx := Row.grown hR0 hg4 (by simp [ownB])
      conv => whnf
      refine VNext.keep (fromDrew hBk) ?_
      rw [Nat.zero_add]
      conv => whnf
      refine vs_append (B := w1.heap.size) (sz := 1) (by_ := 16) (m := 1) (n := i) rfl rfl rfl rfl rfl rfl hOwn hRx rfl (fun u hu => by simp at hu; subst hu; rfl) (fun e => by cases e) (by omega) hBk.size (by unfold maxLen; omega) ?_
      intro o7 c7 w7 ho7 hB7 _
      have hBk7 := hBk.trans hB7
      conv => whnf
      refine VNext.keep (fromDrew hBk7) ?_
      conv => whnf
      refine vs_append (B := w1.heap.size) (sz := 1) (by_ := 16) (m := l.length - i) (n := i + 1) rfl rfl rfl rfl rfl rfl ho7 (hrD w7 hBk7) (by simp) (svals_one _) (loS_none hnil) (by omega) hBk7.size (by unfold maxLen; omega) ?_
      intro o9 c9 w9 ho9 hB9 _
      have hBk9 := hBk7.trans hB9
      conv => whnf
      refine VNext.keep (fromDrew hBk9) ?_
      conv => whnf
      obtain ⟨l9, hl9⟩ : ∃ m, m = l.take i ++ [x] ++ l.drop i := ⟨_, rfl⟩
      have hll : i + 1 + (l.length - i) = l9.length := by rw [hl9]; simp; omega
      have hls : svals (l.take i) ++ [Value.string x] ++ svals (l.drop i) = svals l9 := by rw [hl9]; simp [svals]
      rw [hls, hll] at ho9
      rw [hll]
      have hcap := Own.cap ho9
      refine VEnd.mk ⟨o9, c9, l9, rfl, ho9.row, by omega, hcap.1, hcap.2, fun y => ?_, hBk9⟩
      rw [hl9]
      simp only [List.mem_append, List.mem_singleton]
      constructor
      · rintro ((h | h) | h)
        · exact .inl (List.mem_of_mem_take h)
        · exact .inr h
        · exact .inl (List.mem_of_mem_drop h)
      · rintro (h | h)
        · rw [← List.take_append_drop i l] at h
          rcases List.mem_append.1 h with h | h
          · exact .inl (.inl h)
          · exact .inr h
        · exact .inl (.inr h)
end Go.Proofs.YtmnjmdajgilhiaaDoor.Id

namespace Go.Proofs.YtmnjmdajgilhiaaDoor.Id
open Go Go.RowKit Go.Proofs.YtmnjmdajgilhiaaDoor.Vc Go.Proofs.YtmnjmdajgilhiaaDoor.Ky
attribute [local irreducible] loadVar storeVar Instr.indexAt Instr.index Instr.sliceAt Instr.makeSlice Instr.lookup Instr.mapUpdate Instr.range Instr.next Instr.entry Instr.makeMap Builtin.append_ Builtin.copy_ Builtin.len_ Builtin.min_ Builtin.max_ Builtin.cap_ Builtin.delete_ Builtin.clear_ convert binOp eqGuard Op.unary Calls

/-- how many ends of links are not in the list -/
def away (L : List ByteArray) : List Lk → Nat
  | [] => 0
  | k :: l => (bif hasB L k.a then 0 else 1) + (bif hasB L k.b then 0 else 1) + away L l
theorem away_le {L M : List ByteArray} (h : ∀ y, y ∈ L → y ∈ M) (l : List Lk) : away M l ≤ away L l := by
  induction l with
  | nil => exact Nat.le_refl _
  | cons k l ih =>
    have e : ∀ z, (bif hasB M z then 0 else 1 : Nat) ≤ (bif hasB L z then 0 else 1) := fun z => by
      cases hL : hasB L z with
      | true => rw [(hasB_iff M z).2 (h z ((hasB_iff L z).1 hL))]; exact Nat.le_refl _
      | false => cases hasB M z <;> simp
    have := e k.a
    have := e k.b
    simp only [away]
    omega
theorem away_lt {L M : List ByteArray} (h : ∀ y, y ∈ L → y ∈ M) {s : ByteArray} (hs : s ∉ L) (hm : s ∈ M) : ∀ (l : List Lk), (∃ k ∈ l, k.a = s ∨ k.b = s) → away M l < away L l := by
  intro l
  induction l with
  | nil => rintro ⟨k, hk, _⟩; simp at hk
  | cons k l ih =>
    have e : ∀ z, (bif hasB M z then 0 else 1 : Nat) ≤ (bif hasB L z then 0 else 1) := fun z => by
      cases hL : hasB L z with
      | true => rw [(hasB_iff M z).2 (h z ((hasB_iff L z).1 hL))]; exact Nat.le_refl _
      | false => cases hasB M z <;> simp
    have e1 : (bif hasB M s then 0 else 1 : Nat) < (bif hasB L s then 0 else 1) := by
      rw [(hasB_iff M s).2 hm, (hasB_not L s).2 hs]; decide
    have a1 := e k.a
    have a2 := e k.b
    have a3 := away_le h l
    rintro ⟨k', hk, hks⟩
    simp only [away]
    rcases List.mem_cons.1 hk with rfl | hk
    · rcases hks with hks | hks
      · rw [hks] at a1 ⊢; omega
      · rw [hks] at a2 ⊢; omega
    · have := ih ⟨k', hk, hks⟩
      omega

set_option maxHeartbeats 1000000 in
set_option maxRecDepth 100000 in
theorem members_ok (oa : Option Addr) (c : Nat) (ls : List Lk) (id : ByteArray) (w : World) (hr : Row w oa (recs lkc ls)) (hmx : ls.length ≤ 1000000) :
    Ret Tryd.prog 49 #[.slice oa ls.length c, .string id] w fun v w' => ∃ oa' c' L, v = .slice oa' L.length c' ∧ Row w' oa' (svals L) ∧ L.length ≤ 4000000 ∧ (∀ y, y ∈ L ↔ con ls id y) ∧ Below w.heap.size w w' := by
  refine ret_of_vc Tryd.func49 rfl mixed (by kernel_rfl) ?_
  have hab : away [id] ls ≤ 2 * ls.length := by
    have : ∀ (L : List ByteArray) (l : List Lk), away L l ≤ 2 * l.length := fun L l => by
      induction l with
      | nil => exact Nat.le_refl _
      | cons k l ih =>
        simp only [away, List.length_cons]
        have : ∀ b : Bool, (bif b then 0 else 1 : Nat) ≤ 1 := fun b => by cases b <;> decide
        have := this (hasB L k.a)
        have := ‹∀ b : Bool, (bif b then 0 else 1 : Nat) ≤ 1› (hasB L k.b)
        omega
    exact this _ _
  conv => whnf
  refine vloop (X := List ByteArray × Option Addr × Nat × Bool) ws49_1 (fun x => [(5, .slice x.2.1 x.1.length x.2.2.1), (6, .bool x.2.2.2)]) (fun x w' => Below w.heap.size w w' ∧ Row w' x.2.1 (svals x.1) ∧ x.1.length ≤ x.2.2.1 ∧ (x.2.1 = none → x.2.2.1 = 0) ∧ x.1.length + away x.1 ls ≤ 1 + 2 * ls.length ∧ id ∈ x.1 ∧ (∀ y, y ∈ x.1 → con ls id y) ∧ (x.2.2.2 = false → ∀ k ∈ ls, (k.a ∈ x.1 ↔ k.b ∈ x.1))) (fun x => 2 * away x.1 ls + (bif x.2.2.2 then 1 else 0)) ([id], some ⟨w.heap.size, 0, none⟩, 1, true) (by kernel_rfl)
    ?_ ⟨balloc (Below.refl _ _) (Nat.le_refl _) _, Row.alloc1 w [.string id] _, Nat.le_refl _, (fun e => by cases e), by simp only [List.length_cons, List.length_nil]; omega, by simp, (fun y hy => by simp at hy; subst hy; exact rfl), fun e => by cases e⟩ ?_
  · exact ⟨rfl, rfl, trivial⟩
  rintro ⟨L, oo, cc, ag⟩ w1 j ⟨hB1, hL1, hc1, hn1, hlen, hid, hcon, hcl⟩
  simp only at hL1 hc1 hn1 hlen hid hcon hcl ⊢
  conv => whnf
  cases ag with
  | false =>
    conv => whnf
    have hclo := hcl rfl
    refine VEnd.mk ⟨oo, cc, L, rfl, hL1, by omega, fun y => ⟨hcon y, fun h => ?_⟩, hB1⟩
    exact (con_closed (fun z => z ∈ L) _ ls rfl hclo id y h).1 hid
  | true =>
    conv => whnf
    refine vloop (X := Nat × List ByteArray × Option Addr × Nat × Bool) ws49_2 (fun x => [(7, .int .i64 x.1), (5, .slice x.2.2.1 x.2.1.length x.2.2.2.1), (6, .bool x.2.2.2.2)]) (fun x w' => x.1 ≤ ls.length ∧ Below w.heap.size w w' ∧ Row w' x.2.2.1 (svals x.2.1) ∧ x.2.1.length ≤ x.2.2.2.1 ∧ (x.2.2.1 = none → x.2.2.2.1 = 0) ∧ x.2.1.length + away x.2.1 ls ≤ 1 + 2 * ls.length ∧ id ∈ x.2.1 ∧ (∀ y, y ∈ x.2.1 → con ls id y) ∧
        (x.2.2.2.2 = false → away x.2.1 ls ≤ away L ls ∧ ∀ k ∈ ls.take x.1, (k.a ∈ x.2.1 ↔ k.b ∈ x.2.1)) ∧ (x.2.2.2.2 = true → away x.2.1 ls < away L ls)) (fun x => ls.length - x.1) (0, L, oo, cc, false) (by kernel_rfl)
      ?_ ⟨Nat.zero_le _, hB1, hL1, hc1, hn1, hlen, hid, hcon, fun _ => ⟨Nat.le_refl _, fun k hk => by simp at hk⟩, fun e => by cases e⟩ ?_
    · exact ⟨rfl, rfl, rfl, trivial⟩
    clear hB1 hL1 hc1 hn1 hlen hid hcon hcl
    rintro ⟨i, M, o2, c2, ag⟩ w2 j2 ⟨hi, hB2, hL2, hc2, hn2, hlen, hid, hcon, hcl, hag⟩
    simp only at hi hL2 hc2 hn2 hlen hid hcon hcl hag ⊢
    conv => whnf
    refine vif_split (fun hlt => ?_) (fun hge => ?_)
    · have hlt : i < ls.length := by have := of_decide_eq_true hlt; omega
      obtain ⟨b, o, rfl, hbl, hA⟩ := hr.at (by rw [recs_len lkc_len]; omega)
      have hseg := recs_seg lkc_len ls i hlt
      have hA2 := hA.below hB2 hbl
      have hkm : ls[i] ∈ ls := List.getElem_mem hlt
      have hlk := con_link _ ls rfl ls[i] hkm
      have htk := List.take_succ_eq_append_getElem hlt
      obtain ⟨k, hkk⟩ : ∃ k, k = ls[i] := ⟨_, rfl⟩
      rw [← hkk] at hseg hkm hlk htk
      conv => whnf
      (refine vdrawB plan49 (by kernel_rfl) ?_; conv => whnf)
      have hAd : At w2.drew b o (recs lkc ls) := hA2
      have hbd : b < w2.drew.heap.size := Nat.lt_of_lt_of_le hbl hB2.size
      have hMl : M.length ≤ 1099511627776 := by omega
      (refine vs_slI _ rfl rfl rfl hlt ?_; (conv => whnf); refine VPend.mk rfl ?_; (conv => whnf); refine VPend.mk (fun u hu => ?_) ?_; (focus ((conv => whnf); exact vs_slI _ rfl rfl rfl hlt (VPend.mk rfl rfl))); (conv => whnf))
      (refine VPend.mk (fun u _ => ?_) ?_; (focus (conv => whnf)); (conv => whnf))
      (refine vs_loadF (j := 0) hAd hseg rfl rfl ?_; (conv => whnf); refine VPend.mk rfl ?_; (conv => whnf); refine VPend.mk (fun u hu => ?_) ?_; (focus ((conv => whnf); exact vs_loadF (j := 0) (At.below hAd hu hbd) hseg rfl rfl (VPend.mk rfl rfl))); (conv => whnf))
      (refine vs_slI _ rfl rfl rfl hlt ?_; (conv => whnf); refine VPend.mk rfl ?_; (conv => whnf); refine VPend.mk (fun u hu => ?_) ?_; (focus ((conv => whnf); exact vs_slI _ rfl rfl rfl hlt (VPend.mk rfl rfl))); (conv => whnf))
      (refine VPend.mk (fun u _ => ?_) ?_; (focus (conv => whnf)); (conv => whnf))
      (refine vs_loadF (j := 1) hAd hseg rfl rfl ?_; (conv => whnf); refine VPend.mk rfl ?_; (conv => whnf); refine VPend.mk (fun u hu => ?_) ?_; (focus ((conv => whnf); exact vs_loadF (j := 1) (At.below hAd hu hbd) hseg rfl rfl (VPend.mk rfl rfl))); (conv => whnf))
      refine vcall (by kernel_rfl) (has_ok o2 c2 M k.a w2.drew hL2 hMl) ?_
      rintro _ w3 ⟨rfl, rfl⟩
      conv => whnf
      refine VNext.keep (Below.refl _ _) ?_
      conv => whnf
      refine vcall (by kernel_rfl) (has_ok o2 c2 M k.b w2.drew hL2 hMl) ?_
      rintro _ w3 ⟨rfl, rfl⟩
      conv => whnf
      refine VNext.keep (Below.refl _ _) ?_
      conv => whnf
      have hBd : Below w.heap.size w w2.drew := belowDrew hB2
      have fact : ∀ (s : ByteArray) (M' : List ByteArray), s ∉ M → (∀ y, y ∈ M' ↔ y ∈ M ∨ y = s) → M'.length = M.length + 1 → (k.a = s ∨ k.b = s) → con ls id s → M'.length + away M' ls ≤ 1 + 2 * ls.length ∧ id ∈ M' ∧ (∀ y, y ∈ M' → con ls id y) ∧ away M' ls < away L ls := fun s M' hs hM hl hks hcs => by
        have h1 := away_lt (L := M) (M := M') (fun y hy => (hM y).2 (.inl hy)) hs ((hM s).2 (.inr rfl)) ls ⟨k, hkm, hks⟩
        refine ⟨by omega, (hM id).2 (.inl hid), fun y hy => ?_, ?_⟩
        · rcases (hM y).1 hy with h | h
          · exact hcon y h
          · rw [h]; exact hcs
        · cases ag with
          | true => have := hag rfl; omega
          | false => have := (hcl rfl).1; omega
      refine vif_split (fun hab => ?_) (fun hab => ?_)
      · have hab : hasB M k.a = hasB M k.b := by simpa using hab
        have habm : k.a ∈ M ↔ k.b ∈ M := by rw [← hasB_iff, ← hasB_iff, hab]
        conv => whnf
        refine VBack.mk ⟨_, ?_, (i + 1, M, o2, c2, ag), rfl, ?_, ?_⟩
        · show ls.length - (i + 1) < ls.length - i; omega
        · exact ⟨intEq (incr (by omega)), rfl, rfl, trivial⟩
        · refine ⟨hlt, hBd, hL2, hc2, hn2, hlen, hid, hcon, fun e => ⟨(hcl e).1, fun k' hk' => ?_⟩, hag⟩
          rw [htk] at hk'
          rcases List.mem_append.1 hk' with h | h
          · exact (hcl e).2 k' h
          · have : k' = k := by simpa using h
            rw [this]; exact habm
      · have hab : hasB M k.a ≠ hasB M k.b := by intro e; simp [e] at hab
        have hA3 := hAd
        conv => whnf
        (repeat (first | (refine VReq.mk (by first | decide | omega) ?_; conv => whnf) | (refine VPend.mk rfl ?_; conv => whnf) | (refine VNext.keep rfl ?_; conv => whnf) | (refine vs_slI1 _ rfl rfl rfl (by assumption) ?_; conv => whnf) | (refine vs_slI _ rfl rfl rfl (by assumption) ?_; conv => whnf) | (refine vs_arr1 _ rfl rfl rfl (by assumption) ?_; conv => whnf) | (refine vs_loadF (by with_reducible assumption) (by assumption) rfl rfl ?_; conv => whnf) | (refine vs_loadF0 (by with_reducible assumption) (by assumption) rfl rfl ?_; conv => whnf) | (refine vs_loadI (by with_reducible assumption) (by assumption) rfl ?_; conv => whnf) | (refine vs_loadB rfl (by with_reducible assumption) (by assumption) ?_; conv => whnf)))
        cases ha : hasB M k.a with
        | true =>
          have hb : hasB M k.b = false := by cases hb : hasB M k.b with
            | false => rfl
            | true => exact absurd (ha.trans hb.symm) hab
          have hcs : con ls id k.b := (hcon _ ((hasB_iff _ _).1 ha)).trans hlk
          conv => whnf
          (repeat (first | (refine VReq.mk (by first | decide | omega) ?_; conv => whnf) | (refine VPend.mk rfl ?_; conv => whnf) | (refine VNext.keep rfl ?_; conv => whnf) | (refine vs_slI1 _ rfl rfl rfl (by assumption) ?_; conv => whnf) | (refine vs_slI _ rfl rfl rfl (by assumption) ?_; conv => whnf) | (refine vs_arr1 _ rfl rfl rfl (by assumption) ?_; conv => whnf) | (refine vs_loadF (by with_reducible assumption) (by assumption) rfl rfl ?_; conv => whnf) | (refine vs_loadF0 (by with_reducible assumption) (by assumption) rfl rfl ?_; conv => whnf) | (refine vs_loadI (by with_reducible assumption) (by assumption) rfl ?_; conv => whnf) | (refine vs_loadB rfl (by with_reducible assumption) (by assumption) ?_; conv => whnf)))
          refine vcall (by kernel_rfl) (insert_ok o2 c2 M k.b w2.drew hL2 hc2 hn2 hMl) ?_
          rintro _ w4 ⟨o4, c4, M', rfl, hr4, hl4, hc4, hn4, hm4, hB4⟩
          obtain ⟨f1, f2, f3, f4⟩ := fact k.b M' ((hasB_not _ _).1 hb) hm4 hl4 (.inr rfl) hcs
          conv => whnf
          refine VBack.mk ⟨_, ?_, (i + 1, M', o4, c4, true), rfl, ?_, ?_⟩
          · show ls.length - (i + 1) < ls.length - i; omega
          · exact ⟨intEq (incr (by omega)), rfl, rfl, trivial⟩
          · exact ⟨hlt, hBd.trans (hB4.mono hBd.size), hr4, hc4, hn4, f1, f2, f3, (fun e => by cases e), fun _ => f4⟩
        | false =>
          have hb : hasB M k.b = true := by cases hb : hasB M k.b with
            | true => rfl
            | false => exact absurd (ha.trans hb.symm) hab
          have hcs : con ls id k.a := (hcon _ ((hasB_iff _ _).1 hb)).trans hlk.symm
          conv => whnf
          refine vcall (by kernel_rfl) (insert_ok o2 c2 M k.a w2.drew hL2 hc2 hn2 hMl) ?_
          rintro _ w4 ⟨o4, c4, M', rfl, hr4, hl4, hc4, hn4, hm4, hB4⟩
          obtain ⟨f1, f2, f3, f4⟩ := fact k.a M' ((hasB_not _ _).1 ha) hm4 hl4 (.inl rfl) hcs
          conv => whnf
          refine VBack.mk ⟨_, ?_, (i + 1, M', o4, c4, true), rfl, ?_, ?_⟩
          · show ls.length - (i + 1) < ls.length - i; omega
          · exact ⟨intEq (incr (by omega)), rfl, rfl, trivial⟩
          · exact ⟨hlt, hBd.trans (hB4.mono hBd.size), hr4, hc4, hn4, f1, f2, f3, (fun e => by cases e), fun _ => f4⟩
    · have hge : ¬ i < ls.length := by have := of_decide_eq_false hge; omega
      obtain rfl : i = ls.length := by omega
      rw [List.take_length] at hcl
      conv => whnf
      refine VBack.mk ⟨_, ?_, (M, o2, c2, ag), rfl, ?_, ?_⟩
      · cases ag with
        | true => have := hag rfl; simp only [cond_true]; omega
        | false => have := (hcl rfl).1; simp only [cond_true, cond_false]; omega
      · exact ⟨rfl, rfl, trivial⟩
      · exact ⟨hB2, hL2, hc2, hn2, hlen, hid, hcon, fun e => (hcl e).2⟩
end Go.Proofs.YtmnjmdajgilhiaaDoor.Id

namespace Go.Proofs.YtmnjmdajgilhiaaDoor.Id
open Go Go.RowKit Go.Proofs.YtmnjmdajgilhiaaDoor.Vc Go.Proofs.YtmnjmdajgilhiaaDoor.Ky
attribute [local irreducible] loadVar storeVar Instr.indexAt Instr.index Instr.sliceAt Instr.makeSlice Instr.lookup Instr.mapUpdate Instr.range Instr.next Instr.entry Instr.makeMap Builtin.append_ Builtin.copy_ Builtin.len_ Builtin.min_ Builtin.max_ Builtin.cap_ Builtin.delete_ Builtin.clear_ convert binOp eqGuard Op.unary Calls

set_option maxRecDepth 100000 in
theorem same2_ok (oa : Option Addr) (c : Nat) (ls : List Lk) (x y : ByteArray) (w : World) (hr : Row w oa (recs lkc ls)) (hmx : ls.length ≤ 1000000) :
    Ret Tryd.prog 27 #[.slice oa ls.length c, .string x, .string y] w fun v w' => v = .bool (decide (rt ls x = rt ls y)) ∧ Below w.heap.size w w' := by
  refine ret_of_vc Tryd.func27 rfl mixed (by kernel_rfl) ?_
  conv => whnf
  refine vcall (by kernel_rfl) (members_ok oa c ls x w hr hmx) ?_
  rintro _ w1 ⟨o1, c1, L, rfl, hr1, hl1, hL, hB⟩
  conv => whnf
  refine vcall (by kernel_rfl) (has_ok o1 c1 L y w1 hr1 (by omega)) ?_
  rintro _ w2 ⟨rfl, rfl⟩
  conv => whnf
  refine VEnd.mk ⟨?_, hB⟩
  show Value.bool _ = _
  congr 1
  rw [Bool.eq_iff_iff, hasB_iff, hL y]
  simp [con]

set_option maxRecDepth 100000 in
theorem until2_ok (oa : Option Addr) (c : Nat) (ls : List Lk) (t : Int) (w : World) (hr : Row w oa (recs lkc ls)) (hmx : ls.length ≤ 1099511627776) :
    Ret Tryd.prog 28 #[.slice oa ls.length c, .int .i64 t] w fun v w' => ∃ oa' c', v = .slice oa' (unt t ls).length c' ∧ Row w' oa' (recs lkc (unt t ls)) ∧ Below w.heap.size w w' := by
  refine ret_of_vc Tryd.func28 rfl mixed (by kernel_rfl) ?_
  conv => whnf
  refine vloop (X := Nat × Option Addr × Nat) ws28_1 (fun x => [(6, .int .i64 x.1), (5, .slice x.2.1 (unt t (ls.take x.1)).length x.2.2)]) (fun x w' => x.1 ≤ ls.length ∧ Below w.heap.size w w' ∧ Own w' w.heap.size 84 3 x.2.1 (unt t (ls.take x.1)).length x.2.2 (recs lkc (unt t (ls.take x.1)))) (fun x => ls.length - x.1) (0, none, 0) (by kernel_rfl)
    ?_ ⟨Nat.zero_le _, Below.refl _ _, Own.nil _ _ _ _⟩ ?_
  · exact ⟨rfl, rfl, trivial⟩
  rintro ⟨i, oo, cc⟩ w2 j ⟨hi, hB2, ho⟩
  simp only at hi ho ⊢
  conv => whnf
  refine vif_split (fun hlt => ?_) (fun hge => ?_)
  · have hlt : i < ls.length := by have := of_decide_eq_true hlt; omega
    obtain ⟨b, o, rfl, hbl, hc⟩ := hr.at (by rw [recs_len lkc_len]; omega)
    have hseg := recs_seg lkc_len ls i hlt
    have hc2 := hc.below hB2 hbl
    have hus := unt_snoc t (ls.take i) ls[i]
    rw [← List.take_succ_eq_append_getElem hlt] at hus
    have hul := unt_len t (ls.take i)
    rw [List.length_take] at hul
    obtain ⟨r, hrr⟩ : ∃ r, r = ls[i] := ⟨_, rfl⟩
    rw [← hrr] at hseg hus
    conv => whnf
    (repeat (first | (refine VReq.mk (by first | decide | omega) ?_; conv => whnf) | (refine VPend.mk rfl ?_; conv => whnf) | (refine VNext.keep rfl ?_; conv => whnf) | (refine vs_slI1 _ rfl rfl rfl (by assumption) ?_; conv => whnf) | (refine vs_slI _ rfl rfl rfl (by assumption) ?_; conv => whnf) | (refine vs_arr1 _ rfl rfl rfl (by assumption) ?_; conv => whnf) | (refine vs_loadF (by with_reducible assumption) (by assumption) rfl rfl ?_; conv => whnf) | (refine vs_loadF0 (by with_reducible assumption) (by assumption) rfl rfl ?_; conv => whnf) | (refine vs_loadI (by with_reducible assumption) (by assumption) rfl ?_; conv => whnf) | (refine vs_loadB rfl (by with_reducible assumption) (by assumption) ?_; conv => whnf)))
    refine vif_split (fun h => ?_) (fun h => ?_)
    · have h : r.t ≤ t := of_decide_eq_true h
      rw [if_pos h] at hus
      conv => whnf
      (repeat (first | (refine VReq.mk (by first | decide | omega) ?_; conv => whnf) | (refine VPend.mk rfl ?_; conv => whnf) | (refine VNext.keep rfl ?_; conv => whnf) | (refine vs_slI1 _ rfl rfl rfl (by assumption) ?_; conv => whnf) | (refine vs_slI _ rfl rfl rfl (by assumption) ?_; conv => whnf) | (refine vs_arr1 _ rfl rfl rfl (by assumption) ?_; conv => whnf) | (refine vs_loadF (by with_reducible assumption) (by assumption) rfl rfl ?_; conv => whnf) | (refine vs_loadF0 (by with_reducible assumption) (by assumption) rfl rfl ?_; conv => whnf) | (refine vs_loadI (by with_reducible assumption) (by assumption) rfl ?_; conv => whnf) | (refine vs_loadB rfl (by with_reducible assumption) (by assumption) ?_; conv => whnf)))
      refine vs_loadS hc2 hseg rfl rfl ?_
      conv => whnf
      refine vs_appL (n := (unt t (ls.take i)).length) r ho (by omega) hB2.size ?_
      intro o4 c4 w4 ho4 hB4 _
      rw [← recs_one lkc, ← recs_append] at ho4
      conv => whnf
      refine VBack.mk ⟨_, ?_, (i + 1, o4, c4), rfl, ?_, ?_⟩
      · show ls.length - (i + 1) < ls.length - i; omega
      · exact ⟨intEq (incr (by omega)), sliceEq (by rw [hus, List.length_append]; rfl), trivial⟩
      · exact ⟨hlt, hB2.trans hB4, by rw [hus, List.length_append]; exact ho4⟩
    · have h : ¬ r.t ≤ t := of_decide_eq_false h
      rw [if_neg h] at hus
      conv => whnf
      refine VBack.mk ⟨_, ?_, (i + 1, oo, cc), rfl, ?_, ?_⟩
      · show ls.length - (i + 1) < ls.length - i; omega
      · exact ⟨intEq (incr (by omega)), sliceEq (by rw [hus]), trivial⟩
      · exact ⟨hlt, hB2, by rw [hus]; exact ho⟩
  · have hge : ¬ i < ls.length := by have := of_decide_eq_false hge; omega
    obtain rfl : i = ls.length := by omega
    rw [List.take_length] at ho ⊢
    conv => whnf
    exact VEnd.mk ⟨oo, cc, rfl, ho.row, hB2⟩

theorem lk_eq (r r' : Lk) : (sEq r.a r'.a && (sEq r.b r'.b && (r.t == r'.t && true))) = decide (r = r') := by
  rw [sEq_dec, sEq_dec]
  obtain ⟨a, b, t⟩ := r
  obtain ⟨a', b', t'⟩ := r'
  by_cases h1 : a = a' <;> by_cases h2 : b = b' <;> by_cases h3 : t = t' <;> simp [h1, h2, h3]
set_option maxRecDepth 100000 in
theorem sameLinks_ok (oa oa' : Option Addr) (c c' : Nat) (ls ls' : List Lk) (w : World) (hr : Row w oa (recs lkc ls)) (hr' : Row w oa' (recs lkc ls')) (hmx : ls.length ≤ 1099511627776) (hmx' : ls'.length ≤ 1099511627776) :
    Ret Tryd.prog 19 #[.slice oa ls.length c, .slice oa' ls'.length c'] w fun v w' => v = .bool (decide (ls = ls')) ∧ Quiet w w' := by
  refine ret_of_vc Tryd.func19 rfl mixed (by kernel_rfl) ?_
  conv => whnf
  refine vif_split (fun hl => ?_) (fun hl => ?_)
  · have hl : ¬ ls.length = ls'.length := by intro e; simp [e] at hl
    rw [show decide (ls = ls') = false by simp; intro e; exact hl (by rw [e])]
    conv => whnf
    exact VEnd.mk ⟨rfl, Quiet.refl _⟩
  have hl : ls.length = ls'.length := by have : (ls.length : Int) = ls'.length := by { simpa using hl }; omega
  conv => whnf
  refine vloop (X := Nat) ws19_1 (fun i => [(5, .int .i64 i)]) (fun i w' => i ≤ ls.length ∧ Quiet w w' ∧ ∀ j (h : j < i) (h1 : j < ls.length) (h2 : j < ls'.length), ls[j] = ls'[j]) (fun i => ls.length - i) 0 (by kernel_rfl)
    ?_ ⟨Nat.zero_le _, Quiet.refl _, fun j h => absurd h (Nat.not_lt_zero _)⟩ ?_
  · exact ⟨rfl, trivial⟩
  rintro i w2 j ⟨hi, hQ, hp⟩
  conv => whnf
  refine vif_split (fun hlt => ?_) (fun hge => ?_)
  · have hlt : i < ls.length := by have := of_decide_eq_true hlt; omega
    have hlt' : i < ls'.length := by omega
    obtain ⟨b, o, rfl, hbl, hc⟩ := hr.at (by rw [recs_len lkc_len]; omega)
    obtain ⟨b', o', rfl, hbl', hc'⟩ := hr'.at (by rw [recs_len lkc_len]; omega)
    have hseg := recs_seg lkc_len ls i hlt
    have hseg' := recs_seg lkc_len ls' i hlt'
    have hc2 := (hc.below (hQ.below w.heap.size) hbl).drew
    have hc2' := (hc'.below (hQ.below w.heap.size) hbl').drew
    conv => whnf
    (refine vdrawAt plan19 (by kernel_rfl) ?_; conv => whnf)
    (repeat (first | (refine VReq.mk (by first | decide | omega) ?_; conv => whnf) | (refine VPend.mk rfl ?_; conv => whnf) | (refine VNext.keep rfl ?_; conv => whnf) | (refine vs_slI1 _ rfl rfl rfl (by assumption) ?_; conv => whnf) | (refine vs_slI _ rfl rfl rfl (by assumption) ?_; conv => whnf) | (refine vs_arr1 _ rfl rfl rfl (by assumption) ?_; conv => whnf) | (refine vs_loadF (by with_reducible assumption) (by assumption) rfl rfl ?_; conv => whnf) | (refine vs_loadF0 (by with_reducible assumption) (by assumption) rfl rfl ?_; conv => whnf) | (refine vs_loadI (by with_reducible assumption) (by assumption) rfl ?_; conv => whnf) | (refine vs_loadB rfl (by with_reducible assumption) (by assumption) ?_; conv => whnf)))
    refine vs_loadS hc2 hseg rfl rfl ?_
    conv => whnf
    (repeat (first | (refine VReq.mk (by first | decide | omega) ?_; conv => whnf) | (refine VPend.mk rfl ?_; conv => whnf) | (refine VNext.keep rfl ?_; conv => whnf) | (refine vs_slI1 _ rfl rfl rfl (by assumption) ?_; conv => whnf) | (refine vs_slI _ rfl rfl rfl (by assumption) ?_; conv => whnf) | (refine vs_arr1 _ rfl rfl rfl (by assumption) ?_; conv => whnf) | (refine vs_loadF (by with_reducible assumption) (by assumption) rfl rfl ?_; conv => whnf) | (refine vs_loadF0 (by with_reducible assumption) (by assumption) rfl rfl ?_; conv => whnf) | (refine vs_loadI (by with_reducible assumption) (by assumption) rfl ?_; conv => whnf) | (refine vs_loadB rfl (by with_reducible assumption) (by assumption) ?_; conv => whnf)))
    refine vs_loadS hc2' hseg' rfl rfl ?_
    conv => whnf
    (repeat (first | (refine VReq.mk (by first | decide | omega) ?_; conv => whnf) | (refine VPend.mk rfl ?_; conv => whnf) | (refine VNext.keep rfl ?_; conv => whnf) | (refine vs_slI1 _ rfl rfl rfl (by assumption) ?_; conv => whnf) | (refine vs_slI _ rfl rfl rfl (by assumption) ?_; conv => whnf) | (refine vs_arr1 _ rfl rfl rfl (by assumption) ?_; conv => whnf) | (refine vs_loadF (by with_reducible assumption) (by assumption) rfl rfl ?_; conv => whnf) | (refine vs_loadF0 (by with_reducible assumption) (by assumption) rfl rfl ?_; conv => whnf) | (refine vs_loadI (by with_reducible assumption) (by assumption) rfl ?_; conv => whnf) | (refine vs_loadB rfl (by with_reducible assumption) (by assumption) ?_; conv => whnf)))
    obtain ⟨r, hrr⟩ : ∃ r : Lk, r = ls[i] := ⟨_, rfl⟩
    obtain ⟨r', hrr'⟩ : ∃ r : Lk, r = ls'[i] := ⟨_, rfl⟩
    rw [← hrr, ← hrr']
    refine vs_neS (b := (sEq r.a r'.a && (sEq r.b r'.b && (r.t == r'.t && true)))) (by kernel_rfl) (by kernel_rfl) (by kernel_rfl) rfl ?_
    rw [lk_eq r r']
    conv => whnf
    (repeat (first | (refine VReq.mk (by first | decide | omega) ?_; conv => whnf) | (refine VPend.mk rfl ?_; conv => whnf) | (refine VNext.keep rfl ?_; conv => whnf) | (refine vs_slI1 _ rfl rfl rfl (by assumption) ?_; conv => whnf) | (refine vs_slI _ rfl rfl rfl (by assumption) ?_; conv => whnf) | (refine vs_arr1 _ rfl rfl rfl (by assumption) ?_; conv => whnf) | (refine vs_loadF (by with_reducible assumption) (by assumption) rfl rfl ?_; conv => whnf) | (refine vs_loadF0 (by with_reducible assumption) (by assumption) rfl rfl ?_; conv => whnf) | (refine vs_loadI (by with_reducible assumption) (by assumption) rfl ?_; conv => whnf) | (refine vs_loadB rfl (by with_reducible assumption) (by assumption) ?_; conv => whnf)))
    refine vif_split (fun hv => ?_) (fun hv => ?_)
    · have hv : ¬ r = r' := by intro e; simp [e] at hv
      rw [show decide (ls = ls') = false by simp; intro e; apply hv; rw [hrr, hrr']; simp only [e]]
      conv => whnf
      exact VEnd.mk ⟨rfl, hQ.drew⟩
    · have hv : r = r' := by simpa using hv
      conv => whnf
      refine VBack.mk ⟨_, ?_, (i + 1), rfl, ?_, ?_⟩
      · show ls.length - (i + 1) < ls.length - i; omega
      · exact ⟨intEq (incr (by omega)), trivial⟩
      · refine ⟨hlt, hQ.drew, fun j h h1 h2 => ?_⟩
        by_cases e : j = i
        · subst e; rw [← hrr, ← hrr', hv]
        · exact hp j (by omega) h1 h2
  · have hge : ¬ i < ls.length := by have := of_decide_eq_false hge; omega
    rw [show decide (ls = ls') = true by simp; exact List.ext_getElem hl fun j h1 h2 => hp j (by omega) h1 h2]
    conv => whnf
    exact VEnd.mk ⟨rfl, hQ⟩

end Go.Proofs.YtmnjmdajgilhiaaDoor.Id
