/- What the laid table of spaces reads as. No condition. -/
import Derived.Test.YtmnjmdajgilhiaaDoorKg
import Derived.Test.YtmnjmdajgilhiaaDoorClr
import Derived.Test.YtmnjmdajgilhiaaDoorRows
import Derived.LaidMore
import Derived.OpenShut
import Derived.Stop.Joined
set_option linter.unusedVariables false
set_option linter.unusedSimpArgs false
namespace Go.Proofs.YtmnjmdajgilhiaaDoor.Cl
open Go Go.RowKit Go.Proofs Go.Proofs.YtmnjmdajgilhiaaDoor.Vc Go.Proofs.YtmnjmdajgilhiaaDoor.Ax Go.Proofs.YtmnjmdajgilhiaaDoor.Ky Go.Proofs.YtmnjmdajgilhiaaDoor.Id
theorem i8_of {n : Int} (h : (Lit.int .i8 n).wf = true) : -128 ≤ n ∧ n ≤ 127 := by
  simpa [Lit.wf, IntKind.min, IntKind.max, IntKind.signed, IntKind.bits] using h
theorem gAsc : Tryd.prog.globalNamed "strings.asciiSpace" = some 0 := by kernel_rfl
theorem tAsc : (Tryd.prog.globals[0]?).map (·.type) = some 112 := by kernel_rfl
theorem ascL : (Rows.laid_strings_asciiSpace : DataW Unit) = .agg ((List.range 256).map fun c => .lit (.int .u8 (spT c))) := by kernel_rfl
set_option maxRecDepth 100000 in
theorem gs_of {W : World} (h : laidMetH Tryd.prog [("unicode.White_Space", Rows.laid_unicode_White_Space), ("strings.asciiSpace", Rows.laid_strings_asciiSpace)] W) : GS.holds W := by
  rw [MakeChecks.laidMetH_plain _ _ _ (by kernel_rfl)] at h
  obtain ⟨ps, ⟨_, _, _, _, _, _, _, _, _, _, ⟨g0, t0, cs0, f0, p0, q0, hg0, ht0, hv0, hd0, _⟩, _⟩, _, _⟩ := h
  obtain rfl := Option.some.inj (gAsc.symm.trans hg0)
  obtain rfl := Option.some.inj (tAsc.symm.trans ht0)
  rw [ascL] at hd0
  obtain ⟨xs, m, rfl, hd, hcl, hxl, hel⟩ := DataW.trod_array (e := 5) (n := 256) rfl hd0
  injection hd with hd _
  injection hd with hd
  have key : ∀ i, i < 256 → W.cell? ⟨0, i, none⟩ = some (.int .u8 (spT i)) := fun i hi => by
    have h1 := hel i hi
    have hx : xs[i]? = some xs[i] := List.getElem?_eq_getElem (by omega)
    rw [hx] at h1
    obtain ⟨k, e, f, _⟩ := DataW.trod_int (t := 5) (k := .u8) rfl h1
    have hf : (xs.map (·.1))[i]? = some (.lit (.int .u8 k)) := by rw [List.getElem?_map, hx, f]; rfl
    rw [← hd, List.getElem?_map, List.getElem?_range hi] at hf
    simp only [Option.map_some, Option.some.injEq, DataW.lit.injEq, Lit.int.injEq, true_and] at hf
    rw [World.var?_cell hg0 hv0 i, ← Array.getElem?_toList]
    have e1 : Tryd.prog.cellsOf 5 = 1 := by kernel_rfl
    rw [e1, Nat.mul_one] at e
    have : (cs0.toList.drop i)[0]? = some (.int .u8 k) := by
      cases hdr : cs0.toList.drop i with
      | nil => rw [hdr] at e; cases e
      | cons a r => rw [hdr] at e; injection e with e; rw [e]; rfl
    rw [List.getElem?_drop, Nat.add_zero] at this
    rw [this, hf]
  have hsz : 0 < W.heap.size := World.block_lt_of_cell? W _ (key 0 (by decide))
  refine ⟨hsz, fun g cs hg => ?_⟩
  simp only [GS] at hg
  split at hg
  · rename_i e
    injection hg with hg
    subst e; subst hg
    refine ⟨Nat.lt_succ_self _, fun j v hj => ?_⟩
    unfold spL at hj
    rw [List.getElem?_map] at hj
    rcases Nat.lt_or_ge j 256 with h1 | h1
    · rw [List.getElem?_range h1] at hj
      simp only [Option.map_some, Option.some.injEq] at hj
      rw [key j h1, hj]
    · rw [List.getElem?_eq_none (by simpa using h1)] at hj
      cases hj
  · cases hg
end Go.Proofs.YtmnjmdajgilhiaaDoor.Cl
