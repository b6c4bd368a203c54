/- The walks of the laws' own helpers: the chapter's example, and the shortening of lists of fields. Conditions: the lists read as ls. -/
import Derived.Test.YtaiadjkeeifpgaaDg5
namespace Go.Proofs.Ytaiadjkeeifpgaa.Dg
open Go Go.RowKit Go.Proofs.Ytaiadjkeeifpgaa.Vc
attribute [local irreducible] loadVar storeVar Instr.indexAt Instr.index Instr.sliceAt Instr.makeSlice Instr.lookup Instr.mapUpdate Instr.range Instr.next Instr.entry Instr.makeMap Builtin.append_ Builtin.copy_ Builtin.len_ Builtin.min_ Builtin.max_ Builtin.cap_ Builtin.delete_ Builtin.clear_ convert binOp eqGuard Op.unary Calls

def ex15 : List UInt8 := [0, 1, 2, 3, 4, 5, 6, 7, 8, 9, 10, 11, 12, 13, 14]
theorem ex15_sum : sumI 506097522914230528 1084818905618843912 ex15 = 11613035633349379557 := by decide +kernel
theorem ex5_frame : frame [[5]] = [0, 0, 0, 0, 0, 0, 0, 1, 5] := by decide
def exTo (i : Nat) : List Value := (List.range 15).map fun j => if j < i then .int .u8 j else .int .u8 0
theorem exTo_set (i : Nat) : (exTo i).set i (.int .u8 i) = exTo (i + 1) := by
  unfold exTo
  apply List.ext_getElem
  · simp
  · intro k h1 h2
    simp only [List.getElem_set, List.getElem_map, List.getElem_range]
    by_cases hk : i = k
    · subst hk; simp
    · rw [if_neg hk]
      by_cases hki : k < i
      · rw [if_pos hki, if_pos (by omega)]
      · rw [if_neg hki, if_neg (by omega)]
theorem exTo_all : exTo 15 = bvals ex15 := rfl

set_option maxRecDepth 100000 in
theorem awake_ok (w : World) : Ret Try.prog 8 #[] w fun v w' => v = .bool true ∧ Below w.heap.size w w' := by
  refine ret_of_vc Try.func8 rfl mixed (by kernel_rfl) ?_
  conv => whnf
  refine vs_make (sz := 1) (by_ := 1) (n := 15) rfl rfl rfl rfl rfl rfl rfl rfl (by decide) (by decide) ?_
  intro w1 hw1 hb1
  have hB1 : Below w.heap.size w w1 := by rw [hw1]; exact balloc (Below.refl _ _) (Nat.le_refl _) _
  conv => whnf
  refine vloop (X := Nat) ws8_1 (fun i => [(7, .int .i64 i)]) (fun i w' => i ≤ 15 ∧ Below w.heap.size w w' ∧ Blk w' w.heap.size (exTo i) 5) (fun i => 15 - i) 0 (by kernel_rfl) ?_ ⟨by decide, hB1, hb1⟩ ?_
  · exact ⟨rfl, trivial⟩
  rintro i w2 j ⟨hi, hB2, hb2⟩
  conv => whnf
  refine vif_split (fun hlt => ?_) (fun hge => ?_)
  · have hlt : i < 15 := by have := of_decide_eq_true hlt; omega
    conv => whnf
    refine vs_sl1 i rfl rfl rfl hlt ?_
    conv => whnf
    refine vs_storeP hb2 rfl rfl (by simp [exTo]; omega) ?_
    intro w3 o3 hb3
    conv => whnf
    refine VBack.mk ⟨_, ?_, i + 1, rfl, ?_, ?_⟩
    · show 15 - (i + 1) < 15 - i; omega
    · exact ⟨intEq (incr (by omega)), trivial⟩
    · refine ⟨hlt, hB2.trans (o3.below (Nat.le_refl _)), ?_⟩
      rw [Nat.zero_add, IntWalk.u8_in _ (by omega), exTo_set i] at hb3
      exact hb3
  · have hge : ¬ i < 15 := by have := of_decide_eq_false hge; omega
    obtain rfl : i = 15 := by omega
    rw [exTo_all] at hb2
    conv => whnf
    have hw5 := Blk.new w2 #[.int .u8 5] 5
    have hr1 : Row (w2.alloc (.cells #[.int .u8 5] 5)) (some ⟨w2.heap.size, 0, none⟩) (bvals [5]) := hw5.row
    have hw6 := Blk.new (w2.alloc (.cells #[.int .u8 5] 5)) #[.slice (some ⟨w2.heap.size, 0, none⟩) 1 1] 23
    refine vcall (by kernel_rfl) (frame_ok _ 1 [.slice (some ⟨w2.heap.size, 0, none⟩) 1 1] [[5]] _ (by decide) (by decide) hw6.row ?_) ?_
    · refine ⟨rfl, fun i hi => ?_⟩
      obtain rfl : i = 0 := by simpa using hi
      exact ⟨_, _, rfl, Nat.le_refl 1, (by intro e; cases e), hr1.alloc _⟩
    rintro _ w3 ⟨oa, cc, rfl, ho3, hB3⟩
    rw [ex5_frame] at ho3 ⊢
    have hB3' : Below w.heap.size w w3 := (balloc (balloc hB2 (Nat.le_refl _) _) (Nat.le_refl _) _).trans (hB3.mono (by simp; have := hB2.size; omega))
    have hb3 : Blk w3 w.heap.size (bvals ex15) 5 := ((hb2.alloc _).alloc _).below hB3 (by simp; have := hb2.lt; omega)
    conv => whnf
    refine vcall (by kernel_rfl) (sum_ok _ _ _ 15 ex15 w3 (by decide) hb3.row) ?_
    rintro _ w4 ⟨rfl, hB4⟩
    rw [ex15_sum]
    have hr4 := ho3.row.below hB4
    obtain ⟨b, o, rfl, hbl, hc⟩ := hr4.get (by decide)
    conv => whnf
    refine vs_sl1 7 rfl rfl rfl (by decide) ?_
    conv => whnf
    refine vs_load1 rfl (hc 7 (.int .u8 1) rfl) ?_
    conv => whnf
    refine vs_sl1 8 rfl rfl rfl (by decide) ?_
    conv => whnf
    refine vs_load1 rfl (hc 8 (.int .u8 5) rfl) ?_
    conv => whnf
    exact VEnd.mk ⟨rfl, hB3'.trans (hB4.mono hB3'.size)⟩

end Go.Proofs.Ytaiadjkeeifpgaa.Dg
