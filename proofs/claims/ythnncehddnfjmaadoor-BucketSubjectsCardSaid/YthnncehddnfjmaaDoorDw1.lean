/- The walks of the draws' New, Left, Next, Wide and Mod: a pointer to the choices stays one, and each choice is in its range. No condition but that. -/
import Derived.Test.YthnncehddnfjmaaDoorPlans
import Derived.Test.YthnncehddnfjmaaDoorVc6
import Derived.Test.YthnncehddnfjmaaDoorDg1
import Derived.Test.YthnncehddnfjmaaDoorMp
set_option linter.unusedVariables false
set_option linter.unusedSimpArgs false
namespace Go.Proofs.YthnncehddnfjmaaDoor.Dw
open Go Go.RowKit Go.Proofs.YthnncehddnfjmaaDoor.Vc Go.Proofs.YthnncehddnfjmaaDoor.Dg
attribute [local irreducible] loadVar storeVar Instr.indexAt Instr.index Instr.sliceAt Instr.makeSlice Instr.lookup Instr.mapUpdate Instr.range Instr.next Instr.entry Instr.makeMap Builtin.append_ Builtin.copy_ Builtin.len_ Builtin.min_ Builtin.max_ Builtin.cap_ Builtin.delete_ Builtin.clear_ convert binOp eqGuard Op.unary Calls

/-- block b holds the choices, and where they stand is older -/
def Cod (w : World) (b : Nat) : Prop := ∃ (oa : Option Addr) (c : Nat) (l : List UInt8) (a : Nat), Blk w b [.slice oa l.length c, .int .i64 a] 71 ∧ (l = [] ∨ ∃ b' o, oa = some ⟨b', o, none⟩ ∧ b' < b ∧ At w b' o (bvals l)) ∧ a ≤ l.length ∧ l.length ≤ 65536
theorem Cod.lt {w : World} {b : Nat} (h : Cod w b) : b < w.heap.size := let ⟨_, _, _, _, hb, _⟩ := h; hb.lt
theorem Cod.below {w w' : World} {b B : Nat} (h : Cod w b) (hB : Below B w w') (hb : b < B) : Cod w' b := by
  obtain ⟨oa, c, l, a, h1, h2, h4, h5⟩ := h
  refine ⟨oa, c, l, a, h1.below hB hb, ?_, h4, h5⟩
  rcases h2 with h | ⟨b', o, he, hlt, hc⟩
  · exact .inl h
  · exact .inr ⟨b', o, he, hlt, At.below hc hB (Nat.lt_trans hlt hb)⟩
theorem Cod.only {w w' : World} {b k : Nat} (h : Cod w b) (hO : Only k w w') (hne : b < k) : Cod w' b := by
  obtain ⟨oa, c, l, a, h1, h2, h4, h5⟩ := h
  refine ⟨oa, c, l, a, h1.only hO (by omega), ?_, h4, h5⟩
  rcases h2 with h | ⟨b', o, he, hlt, hc⟩
  · exact .inl h
  · exact .inr ⟨b', o, he, hlt, At.only hc hO (by omega)⟩
theorem Cod.quiet {w w' : World} {b : Nat} (h : Cod w b) (hQ : Quiet w w') : Cod w' b := h.below (hQ.below (b + 1)) (Nat.lt_succ_self _)

set_option maxRecDepth 100000 in
theorem new_ok (oa : Option Addr) (c : Nat) (l : List UInt8) (m : Nat) (w : World) (hr : Row w oa (bvals l)) (hc : l.length ≤ c) (hm : m ≤ 65536) :
    Ret Tryd.prog 11 #[.slice oa l.length c, .int .i64 m] w fun v w' => v = .pointer (some ⟨w.heap.size, 0, none⟩) ∧ Cod w' w.heap.size ∧ Below w.heap.size w w' := by
  refine ret_of_vc Tryd.func11 rfl mixed (by kernel_rfl) ?_
  have fin : ∀ (l' : List UInt8), Row w oa (bvals l') → l'.length ≤ 65536 → Cod (w.alloc (.cells #[.slice oa l'.length c, .int .i64 0] 71)) w.heap.size := fun l' h hl => by
    refine ⟨oa, c, l', 0, Blk.new _ _ _, ?_, Nat.zero_le _, hl⟩
    rcases h with h | ⟨b', o, he, hlt, hx⟩
    · left; simpa [bvals] using h
    · exact .inr ⟨b', o, he, hlt, fun j v hj => by rw [Below.cell (p := ⟨b', o + j, none⟩) (balloc (Below.refl w.heap.size w) (Nat.le_refl _) _) hlt]; exact hx j v hj⟩
  conv => whnf
  refine vif_split (fun h => ?_) (fun h => ?_)
  · have h : m < l.length := by have := of_decide_eq_true h; omega
    conv => whnf
    refine vs_sliceHi (h := m) rfl rfl rfl (by omega) hc ?_
    conv => whnf
    have hf := fin (l.take m) (by have := hr.take m; simpa [bvals, List.map_take] using this) (by rw [List.length_take]; omega)
    rw [List.length_take, Nat.min_eq_left (by omega)] at hf
    exact VEnd.mk ⟨rfl, hf, balloc (Below.refl _ _) (Nat.le_refl _) _⟩
  · have h : ¬ m < l.length := by have := of_decide_eq_false h; omega
    conv => whnf
    exact VEnd.mk ⟨rfl, fin l hr (by omega), balloc (Below.refl _ _) (Nat.le_refl _) _⟩

set_option maxRecDepth 100000 in
theorem left_ok (b c a : Nat) (oa : Option Addr) (n : Nat) (w : World) (h : Blk w b [.slice oa n c, .int .i64 a] 71) :
    Ret Tryd.prog 36 #[.pointer (some ⟨b, 0, none⟩)] w fun v w' => v = .bool (decide (a < n)) ∧ Quiet w w' := by
  refine ret_of_vc Tryd.func36 rfl mixed (by kernel_rfl) ?_
  have h' : Blk w.drew b [.slice oa n c, .int .i64 a] 71 := h
  conv => whnf
  (refine vdrawAt plan36 (by kernel_rfl) ?_; conv => whnf)
  refine vs_loadB rfl h' rfl ?_
  conv => whnf
  (repeat (first | (refine VReq.mk (by first | decide | omega) ?_; conv => whnf) | (refine VPend.mk rfl ?_; conv => whnf) | (refine VNext.keep rfl ?_; conv => whnf) | (refine vs_slI1 _ rfl rfl rfl (by assumption) ?_; conv => whnf) | (refine vs_slI _ rfl rfl rfl (by assumption) ?_; conv => whnf) | (refine vs_arr1 _ rfl rfl rfl (by assumption) ?_; conv => whnf) | (refine vs_loadF (by with_reducible assumption) (by assumption) rfl rfl ?_; conv => whnf) | (refine vs_loadF0 (by with_reducible assumption) (by assumption) rfl rfl ?_; conv => whnf) | (refine vs_loadI (by with_reducible assumption) (by assumption) rfl ?_; conv => whnf) | (refine vs_loadB rfl (by with_reducible assumption) (by assumption) ?_; conv => whnf)))
  refine vs_loadB rfl h' rfl ?_
  conv => whnf
  (repeat (first | (refine VReq.mk (by first | decide | omega) ?_; conv => whnf) | (refine VPend.mk rfl ?_; conv => whnf) | (refine VNext.keep rfl ?_; conv => whnf) | (refine vs_slI1 _ rfl rfl rfl (by assumption) ?_; conv => whnf) | (refine vs_slI _ rfl rfl rfl (by assumption) ?_; conv => whnf) | (refine vs_arr1 _ rfl rfl rfl (by assumption) ?_; conv => whnf) | (refine vs_loadF (by with_reducible assumption) (by assumption) rfl rfl ?_; conv => whnf) | (refine vs_loadF0 (by with_reducible assumption) (by assumption) rfl rfl ?_; conv => whnf) | (refine vs_loadI (by with_reducible assumption) (by assumption) rfl ?_; conv => whnf) | (refine vs_loadB rfl (by with_reducible assumption) (by assumption) ?_; conv => whnf)))
  exact VEnd.mk ⟨by show Value.bool (decide ((a : Int) < (n : Int))) = _; congr 1; simp, (Quiet.refl _).drew⟩

set_option maxRecDepth 100000 in
theorem next_ok (b k : Nat) (w : World) (hk : 1 ≤ k) (hk2 : k ≤ 65536) (h : Cod w b) :
    Ret Tryd.prog 12 #[.pointer (some ⟨b, 0, none⟩), .int .i64 k] w fun v w' => ∃ x : Nat, v = .int .i64 x ∧ x < k ∧ Only b w w' ∧ Cod w' b := by
  refine ret_of_vc Tryd.func12 rfl mixed (by kernel_rfl) ?_
  obtain ⟨oa, c, l, a, h1, h2, h4, h5⟩ := h
  conv => whnf
  refine vcall (by kernel_rfl) (left_ok b c a oa l.length w h1) ?_
  rintro _ w1 ⟨rfl, hQ⟩
  have h1' := h1.quiet hQ
  have hB : Below (b + 1) w w1 := hQ.below _
  conv => whnf
  refine vif_split (fun hlt => ?_) (fun hlt => ?_)
  · conv => whnf
    exact VEnd.mk ⟨0, rfl, by omega, hQ.only b, oa, c, l, a, h1', by
      rcases h2 with h | ⟨b', o, he, hlt, hc⟩
      · exact .inl h
      · exact .inr ⟨b', o, he, hlt, At.below hc hB (by omega)⟩, h4, h5⟩
  · have hlt : a < l.length := by simpa using hlt
    conv => whnf
    refine vs_loadB rfl h1' rfl ?_
    conv => whnf
    refine vs_storeP h1' rfl rfl (by simp) ?_
    intro w2 hO2 hb2
    have hb2' : Blk w2.drew b [.slice oa l.length c, .int .i64 ((a + 1 : Nat) : Int)] 71 := by
      have := hb2
      simp only [Nat.zero_add] at this
      rw [incr (by omega)] at this
      exact this
    rcases h2 with h | ⟨b', o, he, hbb, hc⟩
    · rw [h] at hlt; simp at hlt
    subst he
    have hc2 : At w2.drew b' o (bvals l) := (At.only (At.below hc hB (by omega)) hO2 (by show b' ≠ b; omega)).drew
    have hbv := bvals_get hlt
    conv => whnf
    (refine vdrawAt plan12 (by kernel_rfl) ?_; conv => whnf)
    refine vs_loadB rfl hb2' rfl ?_
    conv => whnf
    (repeat (first | (refine VReq.mk (by first | decide | omega) ?_; conv => whnf) | (refine VPend.mk rfl ?_; conv => whnf) | (refine VNext.keep rfl ?_; conv => whnf) | (refine vs_slI1 _ rfl rfl rfl (by assumption) ?_; conv => whnf) | (refine vs_slI _ rfl rfl rfl (by assumption) ?_; conv => whnf) | (refine vs_arr1 _ rfl rfl rfl (by assumption) ?_; conv => whnf) | (refine vs_loadF (by with_reducible assumption) (by assumption) rfl rfl ?_; conv => whnf) | (refine vs_loadF0 (by with_reducible assumption) (by assumption) rfl rfl ?_; conv => whnf) | (refine vs_loadI (by with_reducible assumption) (by assumption) rfl ?_; conv => whnf) | (refine vs_loadB rfl (by with_reducible assumption) (by assumption) ?_; conv => whnf)))
    refine vs_loadB rfl hb2' rfl ?_
    conv => whnf
    (repeat (first | (refine VReq.mk (by first | decide | omega) ?_; conv => whnf) | (refine VPend.mk rfl ?_; conv => whnf) | (refine VNext.keep rfl ?_; conv => whnf) | (refine vs_slI1 _ rfl rfl rfl (by assumption) ?_; conv => whnf) | (refine vs_slI _ rfl rfl rfl (by assumption) ?_; conv => whnf) | (refine vs_arr1 _ rfl rfl rfl (by assumption) ?_; conv => whnf) | (refine vs_loadF (by with_reducible assumption) (by assumption) rfl rfl ?_; conv => whnf) | (refine vs_loadF0 (by with_reducible assumption) (by assumption) rfl rfl ?_; conv => whnf) | (refine vs_loadI (by with_reducible assumption) (by assumption) rfl ?_; conv => whnf) | (refine vs_loadB rfl (by with_reducible assumption) (by assumption) ?_; conv => whnf)))
    rw [show IntKind.i64.wrap (((a + 1 : Nat) : Int) - 1) = (a : Int) by rw [i64_of (by omega) (by omega)]; omega]
    (repeat (first | (refine VReq.mk (by first | decide | omega) ?_; conv => whnf) | (refine VPend.mk rfl ?_; conv => whnf) | (refine VNext.keep rfl ?_; conv => whnf) | (refine vs_slI1 _ rfl rfl rfl (by assumption) ?_; conv => whnf) | (refine vs_slI _ rfl rfl rfl (by assumption) ?_; conv => whnf) | (refine vs_arr1 _ rfl rfl rfl (by assumption) ?_; conv => whnf) | (refine vs_loadF (by with_reducible assumption) (by assumption) rfl rfl ?_; conv => whnf) | (refine vs_loadF0 (by with_reducible assumption) (by assumption) rfl rfl ?_; conv => whnf) | (refine vs_loadI (by with_reducible assumption) (by assumption) rfl ?_; conv => whnf) | (refine vs_loadB rfl (by with_reducible assumption) (by assumption) ?_; conv => whnf)))
    have hby : l[a].toNat < 256 := l[a].toNat_lt
    rw [i64_of (x := ((l[a].toNat : Nat) : Int)) (by omega) (by omega)]
    have hmod : ((l[a].toNat : Nat) : Int).tmod (k : Int) = ((l[a].toNat % k : Nat) : Int) := by
      rw [Int.tmod_eq_emod_of_nonneg (by omega)]; simp
    rw [hmod]
    refine VEnd.mk ⟨l[a].toNat % k, rfl, Nat.mod_lt _ hk, ?_, _, c, l, a + 1, hb2', .inr ⟨b', o, rfl, hbb, hc2⟩, hlt, h5⟩
    exact ((hQ.only b).trans hO2).drew

set_option maxRecDepth 100000 in
theorem wide_ok (b k : Nat) (w : World) (hk : 1 ≤ k) (hk2 : k ≤ 65536) (h : Cod w b) :
    Ret Tryd.prog 37 #[.pointer (some ⟨b, 0, none⟩), .int .i64 k] w fun v w' => ∃ x : Nat, v = .int .i64 x ∧ x < k ∧ Only b w w' ∧ Cod w' b := by
  refine ret_of_vc Tryd.func37 rfl mixed (by kernel_rfl) ?_
  conv => whnf
  refine vcall (by kernel_rfl) (next_ok b 256 w (by omega) (by omega) h) ?_
  rintro _ w1 ⟨x, rfl, hx, hO1, hC1⟩
  conv => whnf
  refine vcall (by kernel_rfl) (next_ok b 256 w1 (by omega) (by omega) hC1) ?_
  rintro _ w2 ⟨y, rfl, hy, hO2, hC2⟩
  conv => whnf
  refine VReq.mk (by omega) ?_
  have e1 : IntKind.i64.wrap (256 * (x : Int)) = ((256 * x : Nat) : Int) := by rw [i64_of (by omega) (by omega)]; omega
  have e2 : IntKind.i64.wrap (((256 * x : Nat) : Int) + (y : Int)) = ((256 * x + y : Nat) : Int) := by rw [i64_of (by omega) (by omega)]; omega
  have hmod : ((256 * x + y : Nat) : Int).tmod (k : Int) = (((256 * x + y) % k : Nat) : Int) := by
    rw [Int.tmod_eq_emod_of_nonneg (by omega)]; simp
  rw [e1, e2, hmod]
  conv => whnf
  exact VEnd.mk ⟨(256 * x + y) % k, rfl, Nat.mod_lt _ hk, hO1.trans hO2, hC2⟩

set_option maxRecDepth 100000 in
theorem mod_ok (x : Int) (k : Nat) (w : World) (hk : 1 ≤ k) (hk2 : k ≤ 65536) :
    Ret Tryd.prog 18 #[.int .i64 x, .int .i64 k] w fun v w' => v = .int .i64 (x % k) ∧ w' = w := by
  refine ret_of_vc Tryd.func18 rfl mixed (by kernel_rfl) ?_
  have h1 := Int.emod_nonneg x (b := (k : Int)) (by omega)
  have h2 := Int.emod_lt_of_pos x (b := (k : Int)) (by omega)
  have h3 := Int.tmod_eq_emod (a := x) (b := (k : Int))
  obtain ⟨m, hm⟩ : ∃ m, m = x % (k : Int) := ⟨_, rfl⟩
  obtain ⟨t, ht⟩ : ∃ t, t = x.tmod (k : Int) := ⟨_, rfl⟩
  rw [← hm] at h1 h2 h3 ⊢
  rw [← ht] at h3
  have h4 : t = m ∨ t = m - k := by
    rw [h3]; split
    · left; omega
    · right; omega
  have h5 : t = m - k → x.tmod (k : Int) < 0 := fun e => by rw [← ht, e]; omega
  conv => whnf
  refine VReq.mk (by omega) ?_
  rw [← ht]
  conv => whnf
  refine vif_split (fun h => ?_) (fun h => ?_)
  · have h : t < 0 := of_decide_eq_true h
    conv => whnf
    exact VEnd.mk ⟨intEq (by rw [i64_of (by omega) (by omega)]; omega), rfl⟩
  · have h : ¬ t < 0 := of_decide_eq_false h
    conv => whnf
    exact VEnd.mk ⟨intEq (by omega), rfl⟩
end Go.Proofs.YthnncehddnfjmaaDoor.Dw
