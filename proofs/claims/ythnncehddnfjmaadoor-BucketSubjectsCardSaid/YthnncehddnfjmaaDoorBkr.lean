/- What the arguments of the bucket laws and the variable halves read as. No condition. -/
import Derived.Test.YthnncehddnfjmaaDoorBk12
import Derived.Test.YthnncehddnfjmaaDoorVc7
import Derived.Test.YthnncehddnfjmaaDoorRows
import Derived.LaidMore
import Derived.OpenShut
import Derived.Stop.Joined
set_option linter.unusedVariables false
set_option linter.unusedSimpArgs false
namespace Go.Proofs.YthnncehddnfjmaaDoor.Bk
open Go Go.RowKit Go.Proofs.YthnncehddnfjmaaDoor.Vc Go.Proofs.YthnncehddnfjmaaDoor.Dg

set_option maxRecDepth 100000 in
theorem rdd_rng {H : Type} {enc : TypeId × Value → H} {w : World} {cs : List Value} {d : DataW H}
    (h : RdD enc Tryd.prog w 69 cs d) : ∃ r : Rng, cs = rc r ∧ d = .agg [.lit (.int .i64 r.f), .lit (.int .i64 r.t), .lit (.int .i64 r.v)] := by
  obtain ⟨held, fuel, p, h⟩ := h
  obtain ⟨xs, n, rfl, hd, hcl, hxl, hel⟩ := DataW.trod_struct rfl h
  injection hd with hd
  subst hd
  have h0 := hel 0 _ rfl
  have h1 := hel 1 _ rfl
  have h2 := hel 2 _ rfl
  have hcl' : cs.length = 3 := hcl
  have hxl' : xs.length = 3 := hxl
  match cs, hcl', xs, hxl' with
  | [c0, c1, c2], _, [x0, x1, x2], _ =>
    obtain ⟨k0, e0, f0, _⟩ := DataW.trod_int (t := 3) (k := .i64) rfl (show DataW.trod _ _ _ _ _ _ _ 3 [c0] = some x0 from h0)
    obtain ⟨k1, e1, f1, _⟩ := DataW.trod_int (t := 3) (k := .i64) rfl (show DataW.trod _ _ _ _ _ _ _ 3 [c1] = some x1 from h1)
    obtain ⟨k2, e2, f2, _⟩ := DataW.trod_int (t := 3) (k := .i64) rfl (show DataW.trod _ _ _ _ _ _ _ 3 [c2] = some x2 from h2)
    refine ⟨⟨k0, k1, k2⟩, ?_, ?_⟩
    · injection e0 with e0; injection e1 with e1; injection e2 with e2
      rw [e0, e1, e2]; rfl
    · simp [f0, f1, f2]
theorem rd_rngs {H : Type} {enc : TypeId × Value → H} {w : World} {css : List (List Value)} (h : ∀ c ∈ css, Rd enc Tryd.prog w 69 c) : ∃ ls : List Rng, ls.length = css.length ∧ css.flatten = recs rc ls := by
  induction css with
  | nil => exact ⟨[], rfl, rfl⟩
  | cons c r ih =>
    obtain ⟨ls, h1, h2⟩ := ih fun c hc => h c (by simp [hc])
    obtain ⟨d, hd⟩ := h c (by simp)
    obtain ⟨rg, e, _⟩ := rdd_rng hd
    refine ⟨rg :: ls, by simp [h1], ?_⟩
    rw [List.flatten_cons, h2, e]; rfl
set_option maxRecDepth 100000 in
theorem rd_ranges {H : Type} {enc : TypeId × Value → H} {w : World} {cs : List Value} (h : Rd enc Tryd.prog w 22 cs) :
    ∃ (oa : Option Addr) (ls : List Rng) (cap : Nat), cs = [.slice oa ls.length cap] ∧ ls.length ≤ cap ∧ cap ≤ maxLen ∧ Row w oa (recs rc ls) := by
  obtain ⟨oa, len, cap, css, h1, hlc, hcm, _, hcl, hr, hall⟩ := rd_slice (e := 69) rfl h
  obtain ⟨ls, h2, h3⟩ := rd_rngs fun c hc => (hall c hc).2
  rw [h3] at hr
  exact ⟨oa, ls, cap, by rw [h1, h2, hcl], by omega, hcm, hr⟩
set_option maxRecDepth 100000 in
theorem rd_ints {H : Type} {enc : TypeId × Value → H} {w : World} {cs : List Value} (h : Rd enc Tryd.prog w 23 cs) :
    ∃ (oa : Option Addr) (n cap : Nat) (vs : List Value) (W : Nat → Int), cs = [.slice oa n cap] ∧ n ≤ cap ∧ cap ≤ maxLen ∧ Row w oa vs ∧ Ints vs n W := by
  obtain ⟨oa, len, cap, css, h1, hlc, hcm, _, hcl, hr, hall⟩ := rd_slice (e := 3) rfl h
  have hb : ∃ l : List Int, css = l.map fun x => [.int .i64 x] := by
    clear hr hcl h1
    induction css with
    | nil => exact ⟨[], rfl⟩
    | cons c r ih =>
      obtain ⟨l, hl⟩ := ih (fun c hc => hall c (by simp [hc]))
      obtain ⟨n, hc, _⟩ := rd_int (k := .i64) rfl (hall c (by simp)).2
      exact ⟨n :: l, by rw [hl, hc]; rfl⟩
  obtain ⟨l, rfl⟩ := hb
  refine ⟨oa, len, cap, _, fun j => l.getD j 0, h1, hlc, hcm, hr, ?_⟩
  have hf : (l.map fun x => [Value.int .i64 x]).flatten = l.map (Value.int .i64) := by
    clear hr hcl hall
    induction l with
    | nil => rfl
    | cons a r ih => simp only [List.map_cons, List.flatten_cons, ih]; rfl
  rw [hf]
  have hll : l.length = len := by simpa using hcl
  exact ⟨by simp [hll], fun j hj => by
    have : j < l.length := by omega
    simp [this]⟩

theorem gHal : Tryd.prog.globalNamed "flagstone/flagstonelaw13.halves" = some 0 := by kernel_rfl
theorem tHal : (Tryd.prog.globals[0]?).map (·.type) = some 22 := by kernel_rfl
set_option maxRecDepth 100000 in
theorem hal_of_vars {W : World} {ps : List MemPlace} (h : DataW.LaidVars Tryd.prog W [("flagstone/flagstonelaw13.halves", Rows.laid_flagstone_flagstonelaw13_halves)] ps) : Hal W := by
  obtain ⟨g0, t0, cs0, f0, p0, q0, hg0, ht0, hv0, hd0, _⟩ := h
  obtain rfl := Option.some.inj (gHal.symm.trans hg0)
  obtain rfl := Option.some.inj (tHal.symm.trans ht0)
  have hrd : RdD _ Tryd.prog W 22 cs0.toList Rows.laid_flagstone_flagstonelaw13_halves := ⟨_, f0, _, hd0⟩
  obtain ⟨oa, len, cap, css, ds, hcs, hlc, hcm, _, hcl, hr, _, hdl, hd, hel⟩ := rdd_slice (e := 69) rfl hrd
  rcases hd with ⟨hd, _⟩ | ⟨rest, hd⟩
  · cases hd
  have hd' : ds = [.agg [.lit (.int .i64 0), .lit (.int .i64 5000), .lit (.int .i64 1)], .agg [.lit (.int .i64 5000), .lit (.int .i64 10000), .lit (.int .i64 2)]] := by
    unfold Rows.laid_flagstone_flagstonelaw13_halves at hd
    injection hd with hd _
    exact hd.symm
  subst hd'
  have hl2 : len = 2 := hdl.symm
  subst hl2
  match css, hcl with
  | [c0, c1], _ =>
    obtain ⟨r0, e0, f0⟩ := rdd_rng (hel 0 c0 _ rfl rfl)
    obtain ⟨r1, e1, f1⟩ := rdd_rng (hel 1 c1 _ rfl rfl)
    obtain ⟨a0, b0, v0⟩ := r0
    obtain ⟨a1, b1, v1⟩ := r1
    simp only [DataW.agg.injEq, List.cons.injEq, DataW.lit.injEq, Lit.int.injEq, and_true, true_and] at f0 f1
    obtain ⟨rfl, rfl, rfl⟩ := f0
    obtain ⟨rfl, rfl, rfl⟩ := f1
    refine ⟨oa, cap, ?_, ?_⟩
    · have := World.var?_cell hg0 hv0 0
      rw [Array.eq_one_of_toList hcs] at this
      simpa using this
    · have : [c0, c1].flatten = recs rc hv := by rw [e0, e1]; rfl
      rw [← this]; exact hr
theorem hal_of {W : World} (h : laidMetH Tryd.prog [("flagstone/flagstonelaw13.halves", Rows.laid_flagstone_flagstonelaw13_halves)] W) : Hal W := by
  rw [MakeChecks.laidMetH_plain _ _ _ (by kernel_rfl)] at h
  obtain ⟨ps, h, _, _⟩ := h
  exact hal_of_vars h
end Go.Proofs.YthnncehddnfjmaaDoor.Bk
