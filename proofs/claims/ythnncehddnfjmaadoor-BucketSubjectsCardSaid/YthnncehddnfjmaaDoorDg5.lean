/- The walks of the reference's Frame, Hash and Mac. Conditions: as for the program's. -/
import Derived.Test.YthnncehddnfjmaaDoorDg4
set_option linter.unusedVariables false
set_option linter.unusedSimpArgs false
namespace Go.Proofs.YthnncehddnfjmaaDoor.Dg
open Go Go.RowKit Go.Proofs.YthnncehddnfjmaaDoor.Vc
attribute [local irreducible] loadVar storeVar Instr.indexAt Instr.index Instr.sliceAt Instr.makeSlice Instr.lookup Instr.mapUpdate Instr.range Instr.next Instr.entry Instr.makeMap Builtin.append_ Builtin.copy_ Builtin.len_ Builtin.min_ Builtin.max_ Builtin.cap_ Builtin.delete_ Builtin.clear_ convert binOp eqGuard Op.unary Calls

set_option maxRecDepth 100000 in
theorem frame2_ok (oa : Option Addr) (c : Nat) (vs : List Value) (ls : List (List UInt8)) (w : World) (hlen : ls.length ≤ 1099511627776) (hl : (frame ls).length ≤ 140737488355328) (hr : Row w oa vs) (hf : Fld w vs ls) :
    Ret Tryd.prog 60 #[.slice oa ls.length c] w fun v w' => ∃ oa' c', v = .slice oa' (frame ls).length c' ∧ Own w' w.heap.size 5 1 oa' (frame ls).length c' (bvals (frame ls)) ∧ Below w.heap.size w w' := by
  refine ret_of_vc Tryd.func60 rfl mixed (by kernel_rfl) ?_
  conv => whnf
  refine vloop (X := Nat × Option Addr × Nat) ws60_1 (fun x => [(3, .slice x.2.1 (frameTo ls x.1).length x.2.2), (4, .int .i64 x.1)]) (fun x w' => x.1 ≤ ls.length ∧ Below w.heap.size w w' ∧ Own w' w.heap.size 5 1 x.2.1 (frameTo ls x.1).length x.2.2 (bvals (frameTo ls x.1))) (fun x => ls.length - x.1) (0, none, 0) (by kernel_rfl)
    ?_ ⟨Nat.zero_le _, Below.refl _ _, Own.nil _ _ _ _⟩ ?_
  · exact ⟨rfl, rfl, trivial⟩
  rintro ⟨i, oo, cc⟩ w1 j ⟨hi, hB, ho⟩
  conv => whnf
  refine vif_split (fun hlt => ?_) (fun hge => ?_)
  · have hlt : i < ls.length := by have := of_decide_eq_true hlt; omega
    obtain ⟨b, o, rfl, hbl, hc⟩ := hr.get (by rw [hf.1]; omega)
    obtain ⟨oa1, c1, hv, hc1, hn1, hr1⟩ := hf.2 i hlt
    have hr1' := hr1.below hB
    have hL1 := frame_take_le ls (i + 1)
    rw [frameTo_succ ls i hlt] at hL1
    simp only [List.length_append, lenTo_len] at hL1
    conv => whnf
    refine vs_sl1 i rfl rfl rfl hlt ?_
    conv => whnf
    refine vs_load1 rfl (by rw [hB.cell (p := ⟨b, o + i, none⟩) hbl]; exact hc _ _ hv) ?_
    conv => whnf
    refine vloop (X := Nat × Option Addr × Nat) ws60_2 (fun x => [(3, .slice x.2.1 ((frameTo ls i).length + x.1) x.2.2), (6, .int .i64 (56 - 8 * (x.1 : Int)))]) (fun x w' => x.1 ≤ 8 ∧ Below w.heap.size w w' ∧ Own w' w.heap.size 5 1 x.2.1 ((frameTo ls i).length + x.1) x.2.2 (bvals (frameTo ls i ++ lenTo ls[i].length x.1))) (fun x => 8 - x.1) (0, oo, cc) (by kernel_rfl)
      ?_ ⟨Nat.zero_le _, hB, by simpa [lenTo] using ho⟩ ?_
    · exact ⟨rfl, rfl, trivial⟩
    rintro ⟨k, o2, c2⟩ w2 j2 ⟨hk, hB2, ho2⟩
    simp only at hk ho2
    conv => whnf
    refine vif_split (fun hlt2 => ?_) (fun hge2 => ?_)
    · have hlt2 : k < 8 := by have := of_decide_eq_true hlt2; simp only at this; omega
      conv => whnf
      refine VReq.mk (by rw [IntWalk.u64_in _ (by simp only; omega)]; simp only; omega) ?_
      conv => whnf
      refine vs_append (B := w.heap.size) (sz := 1) (by_ := 1) (m := 1) (n := (frameTo ls i).length + k) rfl rfl rfl rfl rfl rfl (ho2.alloc _) (Row.alloc1 _ _ _) rfl (fun u hu => by simp at hu; subst hu; rfl) (fun e => by cases e) (by omega) (Nat.le_trans hB2.size (by simp)) (by unfold maxLen; omega) ?_
      intro o3 c3 w3 ho3 hB3 _
      conv => whnf
      refine VBack.mk ⟨_, ?_, (k + 1, o3, c3), rfl, ?_, ?_⟩
      · show 8 - (k + 1) < 8 - k; omega
      · exact ⟨rfl, intEq (by rw [IntWalk.i64_in _ (by simp only; omega)]; simp only; omega), trivial⟩
      · refine ⟨hlt2, (balloc hB2 (Nat.le_refl _) _).trans hB3, ?_⟩
        simp only [lenTo]
        rw [← List.append_assoc, bvals_append, bvals_byte]
        rw [byte_eq _ (7 - k) (by omega) (by omega) _ (by rw [IntWalk.u64_in _ (by simp only; omega)]; simp only; omega)] at ho3
        exact ho3
    · have hge2 : ¬ k < 8 := by have := of_decide_eq_false hge2; simp only at this; omega
      obtain rfl : k = 8 := by omega
      conv => whnf
      have hr2 := hr1.below hB2
      refine vs_sl1 i rfl rfl rfl hlt ?_
      conv => whnf
      refine vs_load1 rfl (by rw [hB2.cell (p := ⟨b, o + i, none⟩) hbl]; exact hc _ _ hv) ?_
      conv => whnf
      refine vs_append (B := w.heap.size) (sz := 1) (by_ := 1) (m := ls[i].length) (n := (frameTo ls i).length + 8) rfl rfl rfl rfl rfl rfl ho2 hr2 (by simp) (bvals_one _) hn1 (by omega) hB2.size (by unfold maxLen; omega) ?_
      intro o3 c3 w3 ho3 hB3 _
      conv => whnf
      have hfs := frameTo_succ ls i hlt
      have hfl : (frameTo ls i).length + 8 + ls[i].length = (frameTo ls (i + 1)).length := by rw [hfs]; simp [lenTo_len]; omega
      refine VBack.mk ⟨_, ?_, (i + 1, o3, c3), rfl, ?_, ?_⟩
      · show ls.length - (i + 1) < ls.length - i; omega
      · exact ⟨sliceEq hfl, intEq (incr (by omega)), trivial⟩
      · refine ⟨hlt, hB2.trans hB3, ?_⟩
        rw [hfl, ← bvals_append, List.append_assoc, ← hfs] at ho3
        exact ho3
  · have hge : ¬ i < ls.length := by have := of_decide_eq_false hge; omega
    obtain rfl : i = ls.length := by simp only at hi; omega
    conv => whnf
    have hfa : frameTo ls ls.length = frame ls := by unfold frameTo; rw [List.take_length]
    simp only [hfa] at ho
    exact VEnd.mk ⟨oo, cc, by simp only [hfa]; rfl, ho, hB⟩

set_option maxRecDepth 100000 in
theorem hash2_ok (d : Int) (oa : Option Addr) (c : Nat) (vs : List Value) (ls : List (List UInt8)) (w : World) (hlen : ls.length ≤ 1099511627776) (hl : (frame ls).length ≤ 140737488355328) (hr : Row w oa vs) (hf : Fld w vs ls) :
    Ret Tryd.prog 49 #[.int .u64 d, .slice oa ls.length c] w fun v w' => v = .int .u64 (sumI d 0 (frame ls)) ∧ Below w.heap.size w w' := by
  refine ret_of_vc Tryd.func49 rfl mixed (by kernel_rfl) ?_
  conv => whnf
  refine vcall (by kernel_rfl) (frame2_ok oa c vs ls w hlen hl hr hf) ?_
  rintro _ w1 ⟨o1, c1, rfl, ho1, hB1⟩
  conv => whnf
  refine vcall (by kernel_rfl) (sum2_ok d 0 o1 c1 (frame ls) w1 (by omega) ho1.row) ?_
  rintro _ w2 ⟨rfl, hB2⟩
  conv => whnf
  exact VEnd.mk ⟨rfl, hB1.trans (hB2.mono hB1.size)⟩
end Go.Proofs.YthnncehddnfjmaaDoor.Dg
