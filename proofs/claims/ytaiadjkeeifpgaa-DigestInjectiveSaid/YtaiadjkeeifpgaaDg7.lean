/- The walk of the law DigestSum. Conditions: the arguments read as the lists that are named. -/
import Derived.Test.YtaiadjkeeifpgaaDg6
namespace Go.Proofs.Ytaiadjkeeifpgaa.Dg
open Go Go.RowKit Go.Proofs.Ytaiadjkeeifpgaa.Vc
attribute [local irreducible] loadVar storeVar Instr.indexAt Instr.index Instr.sliceAt Instr.makeSlice Instr.lookup Instr.mapUpdate Instr.range Instr.next Instr.entry Instr.makeMap Builtin.append_ Builtin.copy_ Builtin.len_ Builtin.min_ Builtin.max_ Builtin.cap_ Builtin.delete_ Builtin.clear_ convert binOp eqGuard Op.unary Calls


set_option maxRecDepth 100000 in
theorem lawSum_ok (k0 k1 : Int) (oa : Option Addr) (c : Nat) (l : List UInt8) (w : World) (hc : l.length ≤ c) (hr : Row w oa (bvals l)) :
    Ret Try.prog 3 #[.int .u64 k0, .int .u64 k1, .slice oa l.length c] w fun v w' => v = .bool true ∧ Below w.heap.size w w' := by
  refine ret_of_vc Try.func3 rfl mixed (by kernel_rfl) ?_
  conv => whnf
  refine vcall (by kernel_rfl) (awake_ok w) ?_
  rintro _ w1 ⟨rfl, hB1⟩
  obtain ⟨m, hm⟩ : ∃ m, m = min 600 l.length := ⟨_, rfl⟩
  have hrm := hr.take m
  have hml : (bvals l).take m = bvals (l.take m) := by simp [bvals]
  rw [hml] at hrm
  have hlm : (l.take m).length = m := by simp; omega
  obtain ⟨l', hl'⟩ : ∃ l', l' = l.take m := ⟨_, rfl⟩
  rw [← hl'] at hrm hlm
  have hmc : m ≤ c := by omega
  have hm6 : m ≤ 600 := by omega
  conv => whnf
  by_cases hlt : 600 < l.length
  · have em : m = 600 := by omega
    refine vif_true (by simp; omega) ?_
    conv => whnf
    refine vs_sliceHi (h := m) rfl rfl (by rw [em]; rfl) (by omega) hc ?_
    clear hc hr hl' hml hm hlt em
    conv => whnf
    refine vloop (X := Nat) ws3_1 (fun i => [(7, .int .i64 ((m : Int) - i))]) (fun i w' => i ≤ m + 1 ∧ Below w.heap.size w w') (fun i => m + 1 - i) 0 (by kernel_rfl) ?_ ⟨Nat.zero_le _, hB1⟩ ?_
    · exact ⟨intEq (by omega), trivial⟩
    rintro i w2 j ⟨hi, hB2⟩
    conv => whnf
    by_cases hin : i ≤ m
    · refine vif_split (fun h1 => ?_) (fun h1 => absurd h1 (by simp; omega))
      conv => whnf
      have e20 : IntKind.i64.wrap ((m : Int) - 20) = (m : Int) - 20 := IntWalk.i64_in _ (by omega)
      rw [e20]
      refine vif_split (fun h2 => ?_) (fun h2 => ?_)
      · conv => whnf
        obtain ⟨l2, hl2, hr2⟩ : ∃ l2 : List UInt8, l2.length = m - i ∧ Row w oa (bvals l2) :=
          ⟨l'.take (m - i), by simp; omega, by have := hrm.take (m - i); simpa [bvals] using this⟩
        (refine vdrawB plan3 (by kernel_rfl) ?_; conv => whnf)
        refine vs_sliceHi (h := l2.length) rfl rfl (by omega) (by omega) hmc ?_
        conv => whnf
        refine VPend.mk rfl ?_
        conv => whnf
        refine VPend.mk (fun u _ => ?_) ?_
        · conv => whnf
          refine vs_sliceHi (h := l2.length) rfl rfl (by omega) (by omega) hmc ?_
          conv => whnf
          exact VPend.mk rfl rfl
        conv => whnf
        refine vs_sliceHi (h := l2.length) rfl rfl (by omega) (by omega) hmc ?_
        conv => whnf
        refine VPend.mk rfl ?_
        conv => whnf
        refine VPend.mk (fun u _ => ?_) ?_
        · conv => whnf
          refine vs_sliceHi (h := l2.length) rfl rfl (by omega) (by omega) hmc ?_
          conv => whnf
          exact VPend.mk rfl rfl
        conv => whnf
        obtain ⟨s, hs⟩ : ∃ s, s = sumI k0 k1 l2 := ⟨_, rfl⟩
        refine vcall (by kernel_rfl) (sum_ok k0 k1 oa c l2 _ (by omega) (hr2.below hB2.drew)) ?_
        rintro _ w3 ⟨hv, hB3⟩
        rw [← hs] at hv
        subst hv
        have hB3' : Below w2.heap.size w2 w3 := Below.ofDrew hB3
        conv => whnf
        refine VNext.below hB3 ?_
        conv => whnf
        refine vcall (by kernel_rfl) (sum2_ok k0 k1 oa c l2 _ (by omega) (hr2.below (hB2.trans (hB3'.mono hB2.size)))) ?_
        rintro _ w4 ⟨hv, hB4⟩
        rw [← hs] at hv
        subst hv
        have hB4' : Below w2.heap.size w2 w4 := hB3'.trans (hB4.mono hB3'.size)
        conv => whnf
        refine VNext.below hB4 ?_
        conv => whnf
        refine VPend.mk (fun u _ => ?_) ?_
        · conv => whnf
        conv => whnf
        refine vif_false (by simp) ?_
        conv => whnf
        refine VBack.mk ⟨_, ?_, i + 1, rfl, ?_, ?_⟩
        · show m + 1 - (i + 1) < m + 1 - i; omega
        · exact ⟨intEq (by rw [IntWalk.i64_in _ (by omega)]; omega), trivial⟩
        · exact ⟨by omega, hB2.trans (hB4'.mono hB2.size)⟩
      · conv => whnf
        exact VEnd.mk ⟨rfl, hB2⟩
    · refine vif_split (fun h1 => absurd h1 (by simp; omega)) (fun h1 => ?_)
      conv => whnf
      exact VEnd.mk ⟨rfl, hB2⟩
  · have em : l.length = m := by omega
    refine vif_false (by simp; omega) ?_
    rw [em]
    clear hc hr hl' hml hm hlt em
    conv => whnf
    refine vloop (X := Nat) ws3_1 (fun i => [(7, .int .i64 ((m : Int) - i))]) (fun i w' => i ≤ m + 1 ∧ Below w.heap.size w w') (fun i => m + 1 - i) 0 (by kernel_rfl) ?_ ⟨Nat.zero_le _, hB1⟩ ?_
    · exact ⟨intEq (by omega), trivial⟩
    rintro i w2 j ⟨hi, hB2⟩
    conv => whnf
    by_cases hin : i ≤ m
    · refine vif_split (fun h1 => ?_) (fun h1 => absurd h1 (by simp; omega))
      conv => whnf
      have e20 : IntKind.i64.wrap ((m : Int) - 20) = (m : Int) - 20 := IntWalk.i64_in _ (by omega)
      rw [e20]
      refine vif_split (fun h2 => ?_) (fun h2 => ?_)
      · conv => whnf
        obtain ⟨l2, hl2, hr2⟩ : ∃ l2 : List UInt8, l2.length = m - i ∧ Row w oa (bvals l2) :=
          ⟨l'.take (m - i), by simp; omega, by have := hrm.take (m - i); simpa [bvals] using this⟩
        (refine vdrawB plan3 (by kernel_rfl) ?_; conv => whnf)
        refine vs_sliceHi (h := l2.length) rfl rfl (by omega) (by omega) hmc ?_
        conv => whnf
        refine VPend.mk rfl ?_
        conv => whnf
        refine VPend.mk (fun u _ => ?_) ?_
        · conv => whnf
          refine vs_sliceHi (h := l2.length) rfl rfl (by omega) (by omega) hmc ?_
          conv => whnf
          exact VPend.mk rfl rfl
        conv => whnf
        refine vs_sliceHi (h := l2.length) rfl rfl (by omega) (by omega) hmc ?_
        conv => whnf
        refine VPend.mk rfl ?_
        conv => whnf
        refine VPend.mk (fun u _ => ?_) ?_
        · conv => whnf
          refine vs_sliceHi (h := l2.length) rfl rfl (by omega) (by omega) hmc ?_
          conv => whnf
          exact VPend.mk rfl rfl
        conv => whnf
        obtain ⟨s, hs⟩ : ∃ s, s = sumI k0 k1 l2 := ⟨_, rfl⟩
        refine vcall (by kernel_rfl) (sum_ok k0 k1 oa c l2 _ (by omega) (hr2.below hB2.drew)) ?_
        rintro _ w3 ⟨hv, hB3⟩
        rw [← hs] at hv
        subst hv
        have hB3' : Below w2.heap.size w2 w3 := Below.ofDrew hB3
        conv => whnf
        refine VNext.below hB3 ?_
        conv => whnf
        refine vcall (by kernel_rfl) (sum2_ok k0 k1 oa c l2 _ (by omega) (hr2.below (hB2.trans (hB3'.mono hB2.size)))) ?_
        rintro _ w4 ⟨hv, hB4⟩
        rw [← hs] at hv
        subst hv
        have hB4' : Below w2.heap.size w2 w4 := hB3'.trans (hB4.mono hB3'.size)
        conv => whnf
        refine VNext.below hB4 ?_
        conv => whnf
        refine VPend.mk (fun u _ => ?_) ?_
        · conv => whnf
        conv => whnf
        refine vif_false (by simp) ?_
        conv => whnf
        refine VBack.mk ⟨_, ?_, i + 1, rfl, ?_, ?_⟩
        · show m + 1 - (i + 1) < m + 1 - i; omega
        · exact ⟨intEq (by rw [IntWalk.i64_in _ (by omega)]; omega), trivial⟩
        · exact ⟨by omega, hB2.trans (hB4'.mono hB2.size)⟩
      · conv => whnf
        exact VEnd.mk ⟨rfl, hB2⟩
    · refine vif_split (fun h1 => absurd h1 (by simp; omega)) (fun h1 => ?_)
      conv => whnf
      exact VEnd.mk ⟨rfl, hB2⟩

end Go.Proofs.Ytaiadjkeeifpgaa.Dg
