/- What the arguments of the column's laws read as. No condition. What the laid table of spaces reads as. No condition. -/
import Derived.Test.YtmnjmdajgilhiaaDoorJb
import Derived.Test.YtmnjmdajgilhiaaDoorAx9
import Derived.Test.YtmnjmdajgilhiaaDoorAx11
import Derived.Test.YtmnjmdajgilhiaaDoorVc7
import Derived.OpenShut
import Derived.Test.YtmnjmdajgilhiaaDoorKg
import Derived.Test.YtmnjmdajgilhiaaDoorRows
import Derived.LaidMore
import Derived.Stop.Joined
set_option linter.unusedVariables false
set_option linter.unusedSimpArgs false
namespace Go.Proofs.YtmnjmdajgilhiaaDoor.Cl
open Go Go.RowKit Go.Proofs Go.Proofs.YtmnjmdajgilhiaaDoor.Vc Go.Proofs.YtmnjmdajgilhiaaDoor.Ax
section
variable {P : Program} {H : Type} {enc : TypeId × Value → H} {w : World}
theorem rd_bool {t : TypeId} {cs : List Value} (ht : P.underlying t = some .bool) (h : Rd enc P w t cs) : ∃ b : Bool, cs = [.bool b] := by
  obtain ⟨d, held, fuel, p, h⟩ := h
  obtain ⟨b, e, _⟩ := DataW.trod_bool ht h
  exact ⟨b, e⟩
/-- a list of values of one cell -/
theorem rd_lst {α : Type} {en : α → Value} {Q : α → Prop} {t e : TypeId} {cs : List Value} (ht : P.underlying t = some (.slice e)) (one : ∀ c, Rd enc P w e c → ∃ a : α, c = [en a] ∧ Q a) (h1 : ∀ a, (en a).oneCell' = true) (h : Rd enc P w t cs) :
    ∃ (oa : Option Addr) (l : List α) (cap : Nat), cs = [.slice oa l.length cap] ∧ (∀ a ∈ l, Q a) ∧ ARep 0 loc0 (Here w) w (.lst 1 (l.map (Ax.en1 en))) (.slice oa l.length cap) := by
  obtain ⟨oa, len, cap, css, hcs, hlc, hcm, hn, hcl, hr, hall⟩ := rd_slice ht h
  have : ∃ l : List α, l.length = css.length ∧ css.flatten = recs (fun a => [en a]) l ∧ ∀ a ∈ l, Q a := by
    clear hr hcl
    induction css with
    | nil => exact ⟨[], rfl, rfl, fun x h => by cases h⟩
    | cons c r ih =>
      obtain ⟨l, h2, h3, h4⟩ := ih fun c hc => hall c (by simp [hc])
      obtain ⟨x, e, hx⟩ := one c (hall c (by simp)).2
      refine ⟨x :: l, by simp [h2], by rw [List.flatten_cons, h3, e]; rfl, fun y hy => ?_⟩
      rcases List.mem_cons.1 hy with rfl | hy
      · exact hx
      · exact h4 y hy
  obtain ⟨l, h2, h3, h4⟩ := this
  rw [h3] at hr
  have e : len = l.length := by omega
  subst e
  exact ⟨oa, l, cap, hcs, h4, .lst (frep_flat (enc := Ax.en1 en) (c := fun a => [en a]) (fun _ => rfl) (fun _ => rfl) (fun a v hv => by rw [List.mem_singleton.1 hv]; exact h1 a) hlc hn hr (fun b hb => hb) (by decide))⟩
theorem i64_of {n : Int} (h : (Lit.int .i64 n).wf = true) : I64 n := by
  have : -9223372036854775808 ≤ n ∧ n ≤ 9223372036854775807 := by simpa [Lit.wf, IntKind.min, IntKind.max, IntKind.signed, IntKind.bits] using h
  exact this
theorem u8_of {n : Int} (h : (Lit.int .u8 n).wf = true) : ∃ k : Nat, n = k ∧ k < 256 := by
  have : 0 ≤ n ∧ n ≤ 255 := by simpa [Lit.wf, IntKind.min, IntKind.max, IntKind.signed, IntKind.bits] using h
  exact ⟨n.toNat, by omega, by omega⟩
theorem u16_of {n : Int} (h : (Lit.int .u16 n).wf = true) : ∃ k : Nat, n = k ∧ k < 65536 := by
  have : 0 ≤ n ∧ n ≤ 65535 := by simpa [Lit.wf, IntKind.min, IntKind.max, IntKind.signed, IntKind.bits] using h
  exact ⟨n.toNat, by omega, by omega⟩
theorem i16_of {n : Int} (h : (Lit.int .i16 n).wf = true) : -32768 ≤ n ∧ n ≤ 32767 := by
  simpa [Lit.wf, IntKind.min, IntKind.max, IntKind.signed, IntKind.bits] using h
theorem rd_ints {t e : TypeId} {cs : List Value} (ht : P.underlying t = some (.slice e)) (he : P.underlying e = some (.int .i64)) (h : Rd enc P w t cs) :
    ∃ (oa : Option Addr) (l : Li) (cap : Nat), cs = [.slice oa l.length cap] ∧ AllI l ∧ ARep 0 loc0 (Here w) w (li l) (.slice oa l.length cap) :=
  rd_lst (en := Value.int .i64) (Q := I64) ht (fun c hc => by obtain ⟨n, e, hw⟩ := rd_int he hc; exact ⟨n, e, i64_of hw⟩) (fun _ => rfl) h
theorem rd_i16s {t e : TypeId} {cs : List Value} (ht : P.underlying t = some (.slice e)) (he : P.underlying e = some (.int .i16)) (h : Rd enc P w t cs) :
    ∃ (oa : Option Addr) (l : Li) (cap : Nat), cs = [.slice oa l.length cap] ∧ (∀ x ∈ l, -32768 ≤ x ∧ x ≤ 32767) ∧ ARep 0 loc0 (Here w) w (.lst 1 (l.map (Ax.en1 (Value.int .i16)))) (.slice oa l.length cap) :=
  rd_lst (en := Value.int .i16) (Q := fun x => -32768 ≤ x ∧ x ≤ 32767) ht (fun c hc => by obtain ⟨n, e, hw⟩ := rd_int he hc; exact ⟨n, e, i16_of hw⟩) (fun _ => rfl) h
theorem rd_bools {t e : TypeId} {cs : List Value} (ht : P.underlying t = some (.slice e)) (he : P.underlying e = some .bool) (h : Rd enc P w t cs) :
    ∃ (oa : Option Addr) (l : List Bool) (cap : Nat), cs = [.slice oa l.length cap] ∧ True ∧ ARep 0 loc0 (Here w) w (.lst 1 (l.map enBo)) (.slice oa l.length cap) := by
  obtain ⟨oa, l, cap, h1, _, h3⟩ := rd_lst (en := Value.bool) (Q := fun _ => True) ht (fun c hc => by obtain ⟨n, e⟩ := rd_bool he hc; exact ⟨n, e, trivial⟩) (fun _ => rfl) h
  exact ⟨oa, l, cap, h1, trivial, h3⟩
theorem rd_bys {t e : TypeId} {cs : List Value} (ht : P.underlying t = some (.slice e)) (he : P.underlying e = some (.int .u8)) (h : Rd enc P w t cs) :
    ∃ (oa : Option Addr) (l : By) (cap : Nat), cs = [.slice oa l.length cap] ∧ True ∧ ARep 0 loc0 (Here w) w (bs l) (.slice oa l.length cap) := by
  obtain ⟨oa, l, cap, h1, _, h3⟩ := rd_lst (en := fun c : UInt8 => Value.int .u8 (c.toNat : Int)) (Q := fun _ => True) ht (fun c hc => by
    obtain ⟨n, e, hw⟩ := rd_int he hc
    obtain ⟨k, rfl, hk⟩ := u8_of hw
    exact ⟨UInt8.ofNat k, by rw [e, toNat_ofNat hk], trivial⟩) (fun _ => rfl) h
  exact ⟨oa, l, cap, h1, trivial, h3⟩
theorem gc_of (W : World) : GC.holds W := ⟨Nat.zero_le _, fun _ _ h => by cases h⟩
end
end Go.Proofs.YtmnjmdajgilhiaaDoor.Cl

namespace Go.Proofs.YtmnjmdajgilhiaaDoor.Cl
open Go Go.RowKit Go.Proofs Go.Proofs.YtmnjmdajgilhiaaDoor.Vc Go.Proofs.YtmnjmdajgilhiaaDoor.Ax Go.Proofs.YtmnjmdajgilhiaaDoor.Ky Go.Proofs.YtmnjmdajgilhiaaDoor.Id
theorem i8_of {n : Int} (h : (Lit.int .i8 n).wf = true) : -128 ≤ n ∧ n ≤ 127 := by
  simpa [Lit.wf, IntKind.min, IntKind.max, IntKind.signed, IntKind.bits] using h
theorem gAsc : Tryd.prog.globalNamed "strings.asciiSpace" = some 0 := by kernel_rfl
theorem tAsc : (Tryd.prog.globals[0]?).map (·.type) = some 112 := by kernel_rfl
theorem ascL : (Rows.laid_strings_asciiSpace : DataW Unit) = .agg ((List.range 256).map fun c => .lit (.int .u8 (spT c))) := by kernel_rfl
set_option maxRecDepth 100000 in
theorem gs_of {W : World} (h : laidMetH Tryd.prog [("unicode.White_Space", Rows.laid_unicode_White_Space), ("strings.asciiSpace", Rows.laid_strings_asciiSpace)] W) : GS.holds W := by
  rw [MakeChecks.laidMetH_plain _ _ _ (by kernel_rfl)] at h
  obtain ⟨ps, ⟨_, _, _, _, _, _, _, _, _, _, ⟨g0, t0, cs0, f0, p0, q0, hg0, ht0, hv0, hd0, _⟩, _⟩, _, _⟩ := h
  obtain rfl := Option.some.inj (gAsc.symm.trans hg0)
  obtain rfl := Option.some.inj (tAsc.symm.trans ht0)
  rw [ascL] at hd0
  obtain ⟨xs, m, rfl, hd, hcl, hxl, hel⟩ := DataW.trod_array (e := 5) (n := 256) rfl hd0
  injection hd with hd _
  injection hd with hd
  have key : ∀ i, i < 256 → W.cell? ⟨0, i, none⟩ = some (.int .u8 (spT i)) := fun i hi => by
    have h1 := hel i hi
    have hx : xs[i]? = some xs[i] := List.getElem?_eq_getElem (by omega)
    rw [hx] at h1
    obtain ⟨k, e, f, _⟩ := DataW.trod_int (t := 5) (k := .u8) rfl h1
    have hf : (xs.map (·.1))[i]? = some (.lit (.int .u8 k)) := by rw [List.getElem?_map, hx, f]; rfl
    rw [← hd, List.getElem?_map, List.getElem?_range hi] at hf
    simp only [Option.map_some, Option.some.injEq, DataW.lit.injEq, Lit.int.injEq, true_and] at hf
    rw [World.var?_cell hg0 hv0 i, ← Array.getElem?_toList]
    have e1 : Tryd.prog.cellsOf 5 = 1 := by kernel_rfl
    rw [e1, Nat.mul_one] at e
    have : (cs0.toList.drop i)[0]? = some (.int .u8 k) := by
      cases hdr : cs0.toList.drop i with
      | nil => rw [hdr] at e; cases e
      | cons a r => rw [hdr] at e; injection e with e; rw [e]; rfl
    rw [List.getElem?_drop, Nat.add_zero] at this
    rw [this, hf]
  have hsz : 0 < W.heap.size := World.block_lt_of_cell? W _ (key 0 (by decide))
  refine ⟨hsz, fun g cs hg => ?_⟩
  simp only [GS] at hg
  split at hg
  · rename_i e
    injection hg with hg
    subst e; subst hg
    refine ⟨Nat.lt_succ_self _, fun j v hj => ?_⟩
    unfold spL at hj
    rw [List.getElem?_map] at hj
    rcases Nat.lt_or_ge j 256 with h1 | h1
    · rw [List.getElem?_range h1] at hj
      simp only [Option.map_some, Option.some.injEq] at hj
      rw [key j h1, hj]
    · rw [List.getElem?_eq_none (by simpa using h1)] at hj
      cases hj
  · cases hg
end Go.Proofs.YtmnjmdajgilhiaaDoor.Cl
