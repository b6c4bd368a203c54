/- The walk of the law's awake: it answers true. Conditions: the variable halves holds what it was laid with. -/
import Derived.Test.YthnncehddnfjmaaDoorBk11
set_option linter.unusedVariables false
set_option linter.unusedSimpArgs false
namespace Go.Proofs.YthnncehddnfjmaaDoor.Bk
open Go Go.RowKit Go.Proofs.YthnncehddnfjmaaDoor.Vc Go.Proofs.YthnncehddnfjmaaDoor.Dg Go.Proofs.YthnncehddnfjmaaDoor.Dw
attribute [local irreducible] loadVar storeVar Instr.indexAt Instr.index Instr.sliceAt Instr.makeSlice Instr.lookup Instr.mapUpdate Instr.range Instr.next Instr.entry Instr.makeMap Builtin.append_ Builtin.copy_ Builtin.len_ Builtin.min_ Builtin.max_ Builtin.cap_ Builtin.delete_ Builtin.clear_ convert binOp eqGuard Op.unary Calls

attribute [local irreducible] rwE rwL ofI
/-- the variable halves -/
def Hal (w : World) : Prop := ∃ oa c, w.cell? ⟨0, 0, none⟩ = some (.slice oa 2 c) ∧ Row w oa (recs rc hv)

set_option maxRecDepth 100000 in
theorem awake_ok (w : World) (h : Hal w) : Ret Tryd.prog 10 #[] w fun v w' => v = .bool true ∧ Below w.heap.size w w' := by
  obtain ⟨oa, c, hcell, hrow⟩ := h
  refine ret_of_vc Tryd.func10 rfl mixed (by kernel_rfl) ?_
  conv => whnf
  refine vs_load1 rfl hcell ?_
  conv => whnf
  have hW : Ints [.int .i64 6000, .int .i64 4000] 2 hw := ⟨rfl, fun j hj => by
    match j, hj with
    | 0, _ => rfl
    | 1, _ => rfl⟩
  have hB0 : Below w.heap.size w (w.alloc (.cells #[.int .i64 6000, .int .i64 4000] 3)) := balloc (Below.refl _ _) (Nat.le_refl _) _
  refine vcall (by kernel_rfl) (reweigh1_ok oa (some ⟨w.heap.size, 0, none⟩) c 2 2 hv [.int .i64 6000, .int .i64 4000] hw _ (hrow.below hB0) (by decide) (Row.alloc1 w [.int .i64 6000, .int .i64 4000] _) hW (by decide)) ?_
  rintro _ w1 ⟨o2, c2, rfl, hr2, hB1⟩
  rw [awake_out.1, awake_out.2]
  rw [awake_out.2] at hr2
  have hB1' : Below w.heap.size w w1 := hB0.trans (hB1.mono hB0.size)
  clear hB0 hB1
  conv => whnf
  refine vcall (by kernel_rfl) (same_ok o2 (some ⟨w1.heap.size, 0, none⟩) c2 3 hres hres _ (hr2.alloc _) (Row.alloc1 w1 (recs rc hres) _) (by decide) (by decide)) ?_
  rintro _ w2 ⟨rfl, hQ2⟩
  have hB2 : Below w.heap.size w w2 := (balloc hB1' (Nat.le_refl _) _).trans (hQ2.below _)
  clear hQ2 hB1'
  rw [show decide (hres = hres) = true by simp]
  conv => whnf
  refine vcall (by kernel_rfl) (of1_ok ⟨#[115]⟩ ⟨#[97]⟩ w2 (by decide) (by decide)) ?_
  rintro _ w3 ⟨rfl, hB3⟩
  conv => whnf
  refine vcall (by kernel_rfl) (of2_ok ⟨#[115]⟩ ⟨#[97]⟩ w3 (by decide) (by decide)) ?_
  rintro _ w4 ⟨rfl, hB4⟩
  conv => whnf
  refine VEnd.mk ⟨?_, hB2.trans ((hB3.mono hB2.size).trans (hB4.mono (Nat.le_trans hB2.size hB3.size)))⟩
  show Value.bool (bif true then _ else false) = _
  simp
end Go.Proofs.YthnncehddnfjmaaDoor.Bk
