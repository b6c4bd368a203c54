/- What the arguments of the sticky laws and the laid variables read as. No condition. -/
import Derived.Test.YtinpgogjkmmjpaaDoorSx14
import Derived.Test.YtinpgogjkmmjpaaDoorAx9
import Derived.Test.YtinpgogjkmmjpaaDoorVc7
import Derived.Test.YtinpgogjkmmjpaaDoorRows
import Derived.LaidMore
import Derived.OpenShut
import Derived.Stop.Joined
set_option linter.unusedVariables false
set_option linter.unusedSimpArgs false
namespace Go.Proofs.YtinpgogjkmmjpaaDoor.Sx
open Go Go.RowKit Go.Proofs.YtinpgogjkmmjpaaDoor.Vc Go.Proofs.YtinpgogjkmmjpaaDoor.Ax Go.Proofs.YtinpgogjkmmjpaaDoor.Ky Go.Proofs.YtinpgogjkmmjpaaDoor.Id Go.Proofs.YtinpgogjkmmjpaaDoor.Sp

def chc (x : Chg) : List Value := [.int .u8 x.kind, .int .u8 x.id, .int .u8 x.other, .int .u8 x.exp, .int .u8 x.arm, .int .u8 x.cool, .int .u8 x.after]
theorem chF_v (x : Chg) : chF x = (chc x).map .v := rfl
theorem u8_of {n : Int} (h : (Lit.int .u8 n).wf = true) : ∃ k : Nat, n = k ∧ k < 256 := by
  have : 0 ≤ n ∧ n ≤ 255 := by simpa [Lit.wf, IntKind.min, IntKind.max, IntKind.signed, IntKind.bits] using h
  exact ⟨n.toNat, by omega, by omega⟩
set_option maxRecDepth 100000 in
theorem rd_chg {H : Type} {enc : TypeId × Value → H} {w : World} {cs : List Value} (h : Rd enc Tryd.prog w 31 cs) : ∃ x : Chg, cs = chc x ∧ x.ok := by
  obtain ⟨d, held, fuel, p, h⟩ := h
  obtain ⟨xs, n, rfl, hd, hcl, hxl, hel⟩ := DataW.trod_struct rfl h
  have hcl' : cs.length = 7 := hcl
  have hxl' : xs.length = 7 := hxl
  have h0 := hel 0 _ rfl
  have h1 := hel 1 _ rfl
  have h2 := hel 2 _ rfl
  have h3 := hel 3 _ rfl
  have h4 := hel 4 _ rfl
  have h5 := hel 5 _ rfl
  have h6 := hel 6 _ rfl
  match cs, hcl', xs, hxl' with
  | [c0, c1, c2, c3, c4, c5, c6], _, [x0, x1, x2, x3, x4, x5, x6], _ =>
    obtain ⟨k0, e0, _, w0⟩ := DataW.trod_int (t := 5) (k := .u8) rfl (show DataW.trod _ _ _ _ _ _ _ 5 [c0] = some x0 from h0)
    obtain ⟨k1, e1, _, w1⟩ := DataW.trod_int (t := 5) (k := .u8) rfl (show DataW.trod _ _ _ _ _ _ _ 5 [c1] = some x1 from h1)
    obtain ⟨k2, e2, _, w2⟩ := DataW.trod_int (t := 5) (k := .u8) rfl (show DataW.trod _ _ _ _ _ _ _ 5 [c2] = some x2 from h2)
    obtain ⟨k3, e3, _, w3⟩ := DataW.trod_int (t := 5) (k := .u8) rfl (show DataW.trod _ _ _ _ _ _ _ 5 [c3] = some x3 from h3)
    obtain ⟨k4, e4, _, w4⟩ := DataW.trod_int (t := 5) (k := .u8) rfl (show DataW.trod _ _ _ _ _ _ _ 5 [c4] = some x4 from h4)
    obtain ⟨k5, e5, _, w5⟩ := DataW.trod_int (t := 5) (k := .u8) rfl (show DataW.trod _ _ _ _ _ _ _ 5 [c5] = some x5 from h5)
    obtain ⟨k6, e6, _, w6⟩ := DataW.trod_int (t := 5) (k := .u8) rfl (show DataW.trod _ _ _ _ _ _ _ 5 [c6] = some x6 from h6)
    obtain ⟨n0, rfl, l0⟩ := u8_of w0
    obtain ⟨n1, rfl, l1⟩ := u8_of w1
    obtain ⟨n2, rfl, l2⟩ := u8_of w2
    obtain ⟨n3, rfl, l3⟩ := u8_of w3
    obtain ⟨n4, rfl, l4⟩ := u8_of w4
    obtain ⟨n5, rfl, l5⟩ := u8_of w5
    obtain ⟨n6, rfl, l6⟩ := u8_of w6
    injection e0 with e0; injection e1 with e1; injection e2 with e2; injection e3 with e3; injection e4 with e4; injection e5 with e5; injection e6 with e6
    exact ⟨⟨n0, n1, n2, n3, n4, n5, n6⟩, by rw [e0, e1, e2, e3, e4, e5, e6]; rfl, ⟨l0, l1, l2, l3, l4, l5, l6⟩⟩
set_option maxRecDepth 100000 in
theorem rd_chgs {H : Type} {enc : TypeId × Value → H} {w : World} {cs : List Value} (h : Rd enc Tryd.prog w 22 cs) :
    ∃ (oa : Option Addr) (l : List Chg) (cap : Nat), cs = [.slice oa l.length cap] ∧ (∀ x ∈ l, x.ok) ∧ RepL 0 loc0 (Here w) w [chsA l] [.slice oa l.length cap] := by
  obtain ⟨oa, len, cap, css, h1, hlc, hcm, hn, hcl, hr, hall⟩ := rd_slice (e := 31) rfl h
  have : ∃ l : List Chg, l.length = css.length ∧ css.flatten = recs chc l ∧ ∀ x ∈ l, x.ok := by
    clear hr hcl
    induction css with
    | nil => exact ⟨[], rfl, rfl, fun x h => by cases h⟩
    | cons c r ih =>
      obtain ⟨l, h2, h3, h4⟩ := ih fun c hc => hall c (by simp [hc])
      obtain ⟨x, e, hx⟩ := rd_chg (hall c (by simp)).2
      refine ⟨x :: l, by simp [h2], by rw [List.flatten_cons, h3, e]; rfl, fun y hy => ?_⟩
      rcases List.mem_cons.1 hy with rfl | hy
      · exact hx
      · exact h4 y hy
  obtain ⟨l, h2, h3, h4⟩ := this
  rw [h3] at hr
  have e : len = l.length := by omega
  subst e
  refine ⟨oa, l, cap, h1, h4, .lst (frep_flat chF_v (fun _ => rfl) (fun a v hv => ?_) hlc hn hr (fun b hb => hb) (by decide)), trivial⟩
  simp only [chc, List.mem_cons, List.not_mem_nil, or_false] at hv
  rcases hv with rfl | rfl | rfl | rfl | rfl | rfl | rfl <;> rfl
theorem gAsc : Tryd.prog.globalNamed "strings.asciiSpace" = some 0 := by kernel_rfl
theorem tAsc : (Tryd.prog.globals[0]?).map (·.type) = some 105 := by kernel_rfl
theorem ascL : (Rows.laid_strings_asciiSpace : DataW Unit) = .agg ((List.range 256).map fun c => .lit (.int .u8 (spT c))) := by kernel_rfl
set_option maxRecDepth 100000 in
theorem gs_of {W : World} (h : laidMetH Tryd.prog [("unicode.White_Space", Rows.laid_unicode_White_Space), ("strings.asciiSpace", Rows.laid_strings_asciiSpace)] W) : GS.holds W := by
  rw [MakeChecks.laidMetH_plain _ _ _ (by kernel_rfl)] at h
  obtain ⟨ps, ⟨_, _, _, _, _, _, _, _, _, _, ⟨g0, t0, cs0, f0, p0, q0, hg0, ht0, hv0, hd0, _⟩, _⟩, _, _⟩ := h
  obtain rfl := Option.some.inj (gAsc.symm.trans hg0)
  obtain rfl := Option.some.inj (tAsc.symm.trans ht0)
  rw [ascL] at hd0
  obtain ⟨xs, m, rfl, hd, hcl, hxl, hel⟩ := DataW.trod_array (e := 5) (n := 256) rfl hd0
  injection hd with hd _
  injection hd with hd
  have key : ∀ i, i < 256 → W.cell? ⟨0, i, none⟩ = some (.int .u8 (spT i)) := fun i hi => by
    have h1 := hel i hi
    have hx : xs[i]? = some xs[i] := List.getElem?_eq_getElem (by omega)
    rw [hx] at h1
    obtain ⟨k, e, f, _⟩ := DataW.trod_int (t := 5) (k := .u8) rfl h1
    have hf : (xs.map (·.1))[i]? = some (.lit (.int .u8 k)) := by rw [List.getElem?_map, hx, f]; rfl
    rw [← hd, List.getElem?_map, List.getElem?_range hi] at hf
    simp only [Option.map_some, Option.some.injEq, DataW.lit.injEq, Lit.int.injEq, true_and] at hf
    rw [World.var?_cell hg0 hv0 i, ← Array.getElem?_toList]
    have e1 : Tryd.prog.cellsOf 5 = 1 := by kernel_rfl
    rw [e1, Nat.mul_one] at e
    have : (cs0.toList.drop i)[0]? = some (.int .u8 k) := by
      cases hdr : cs0.toList.drop i with
      | nil => rw [hdr] at e; cases e
      | cons a r => rw [hdr] at e; injection e with e; rw [e]; rfl
    rw [List.getElem?_drop, Nat.add_zero] at this
    rw [this, hf]
  have hsz : 0 < W.heap.size := World.block_lt_of_cell? W _ (key 0 (by decide))
  refine ⟨hsz, fun g cs hg => ?_⟩
  simp only [GS] at hg
  split at hg
  · rename_i e
    injection hg with hg
    subst e; subst hg
    refine ⟨Nat.lt_succ_self _, fun j v hj => ?_⟩
    unfold spL at hj
    rw [List.getElem?_map] at hj
    rcases Nat.lt_or_ge j 256 with h1 | h1
    · rw [List.getElem?_range h1] at hj
      simp only [Option.map_some, Option.some.injEq] at hj
      rw [key j h1, hj]
    · rw [List.getElem?_eq_none (by simpa using h1)] at hj
      cases hj
  · cases hg
end Go.Proofs.YtinpgogjkmmjpaaDoor.Sx
