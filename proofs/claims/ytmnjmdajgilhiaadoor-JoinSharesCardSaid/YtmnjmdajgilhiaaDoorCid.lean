/- The walks of the made ids. Condition: sizes. -/
import Derived.Test.YtmnjmdajgilhiaaDoorTs
set_option linter.unusedVariables false
set_option linter.unusedSimpArgs false
namespace Go.Proofs.YtmnjmdajgilhiaaDoor.Cl
open Go Go.RowKit Go.Proofs Go.Proofs.YtmnjmdajgilhiaaDoor.Vc Go.Proofs.YtmnjmdajgilhiaaDoor.Ax
attribute [local irreducible] loadVar storeVar Instr.indexAt Instr.index Instr.sliceAt Instr.makeSlice Instr.lookup Instr.mapUpdate Instr.range Instr.next Instr.entry Instr.makeMap Builtin.append_ Builtin.copy_ Builtin.len_ Builtin.min_ Builtin.max_ Builtin.cap_ Builtin.delete_ Builtin.clear_ convert binOp eqGuard Op.unary Calls
def idsT : Tx := [[97, 110, 110], [98, 111, 98], [99, 97, 116], [100, 97, 110], [101, 118, 101], [102, 97, 121]]
def idT (n : Nat) : By := idsT.getD (n % 6) []
set_option maxRecDepth 100000 in
theorem idsTA : AFn Tryd.prog GC 24 [] 0 [] (Own1 9 1 (idsT.map enT)) := by
  refine afn_of Tryd.func24 rfl mixed (by kernel_rfl) ?_
  conv => whnf
  exact aend (.own 0) 1 _ [(0, .lab 0)] [] ⟨rfl, rfl, rfl⟩ rfl (by repeat' (first | rfl | trivial | apply And.intro)) (by repeat' (first | rfl | trivial | apply And.intro))
theorem idsT_len : idsT.length = 6 := rfl
theorem idT_len (n : Nat) : (idT n).length ≤ 200 := by
  have h : ∀ k, k < 6 → (idsT.getD k []).length ≤ 200 := by decide
  exact h _ (Nat.mod_lt _ (by decide))
attribute [local irreducible] idsT
set_option maxHeartbeats 4000000 in
set_option maxRecDepth 100000 in
theorem idTA (n : Nat) (hn : n < 1000000) : AFn Tryd.prog GC 35 [iv n] 0 [] (Is (tv (idT n))) := by
  refine afn_of Tryd.func35 rfl mixed (by kernel_rfl) ?_
  conv => whnf
  (refine acallF [] (by kernel_rfl) (idsTA) ?_ ?_; (focus (repeat' (first | rfl | trivial | apply And.intro))))
  rintro _ _ _ ⟨rfl, rfl, rfl⟩
  conv => whnf
  (refine acallF [] (by kernel_rfl) (idsTA) ?_ ?_; (focus (repeat' (first | rfl | trivial | apply And.intro))))
  rintro _ _ _ ⟨rfl, rfl, rfl⟩
  conv => whnf
  rw [List.length_map, idsT_len]
  refine VReq.mk (by decide) ?_
  conv => whnf
  have hlt : n % 6 < idsT.length := by rw [idsT_len]; omega
  refine AIn.mk' (n % 6) rfl (by rw [List.length_map]; exact hlt) ?_
  conv => whnf
  refine ARd.mapAt (List.getElem?_eq_getElem hlt) ?_
  conv => whnf
  refine aret [] (congrArg (fun x : By => Value.string ⟨x.toArray⟩) ?_)
  unfold idT
  rw [List.getD_eq_getElem?_getD, List.getElem?_eq_getElem hlt]
  rfl
end Go.Proofs.YtmnjmdajgilhiaaDoor.Cl
