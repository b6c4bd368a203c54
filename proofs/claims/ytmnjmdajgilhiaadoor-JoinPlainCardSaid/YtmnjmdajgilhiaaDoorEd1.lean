/- The walks of the made ids. Condition: sizes. The walks of the made events' source, experiments and names. Condition: sizes. -/
import Derived.Test.YtmnjmdajgilhiaaDoorTs
import Derived.Test.YtmnjmdajgilhiaaDoorEv
import Derived.Test.YtmnjmdajgilhiaaDoorKg
set_option linter.unusedVariables false
set_option linter.unusedSimpArgs false
namespace Go.Proofs.YtmnjmdajgilhiaaDoor.Cl
open Go Go.RowKit Go.Proofs Go.Proofs.YtmnjmdajgilhiaaDoor.Vc Go.Proofs.YtmnjmdajgilhiaaDoor.Ax
attribute [local irreducible] loadVar storeVar Instr.indexAt Instr.index Instr.sliceAt Instr.makeSlice Instr.lookup Instr.mapUpdate Instr.range Instr.next Instr.entry Instr.makeMap Builtin.append_ Builtin.copy_ Builtin.len_ Builtin.min_ Builtin.max_ Builtin.cap_ Builtin.delete_ Builtin.clear_ convert binOp eqGuard Op.unary Calls
def idsT : Tx := [[97, 110, 110], [98, 111, 98], [99, 97, 116], [100, 97, 110], [101, 118, 101], [102, 97, 121]]
def idT (n : Nat) : By := idsT.getD (n % 6) []
set_option maxRecDepth 100000 in
theorem idsTA : AFn Tryd.prog GC 24 [] 0 [] (Own1 9 1 (idsT.map enT)) := by
  refine afn_of Tryd.func24 rfl mixed (by kernel_rfl) ?_
  conv => whnf
  exact aend (.own 0) 1 _ [(0, .lab 0)] [] ⟨rfl, rfl, rfl⟩ rfl (by repeat' (first | rfl | trivial | apply And.intro)) (by repeat' (first | rfl | trivial | apply And.intro))
theorem idsT_len : idsT.length = 6 := rfl
theorem idT_len (n : Nat) : (idT n).length ≤ 200 := by
  have h : ∀ k, k < 6 → (idsT.getD k []).length ≤ 200 := by decide
  exact h _ (Nat.mod_lt _ (by decide))
attribute [local irreducible] idsT
set_option maxHeartbeats 4000000 in
set_option maxRecDepth 100000 in
theorem idTA (n : Nat) (hn : n < 1000000) : AFn Tryd.prog GC 35 [iv n] 0 [] (Is (tv (idT n))) := by
  refine afn_of Tryd.func35 rfl mixed (by kernel_rfl) ?_
  conv => whnf
  (refine acallF [] (by kernel_rfl) (idsTA) ?_ ?_; (focus (repeat' (first | rfl | trivial | apply And.intro))))
  rintro _ _ _ ⟨rfl, rfl, rfl⟩
  conv => whnf
  (refine acallF [] (by kernel_rfl) (idsTA) ?_ ?_; (focus (repeat' (first | rfl | trivial | apply And.intro))))
  rintro _ _ _ ⟨rfl, rfl, rfl⟩
  conv => whnf
  rw [List.length_map, idsT_len]
  refine VReq.mk (by decide) ?_
  conv => whnf
  have hlt : n % 6 < idsT.length := by rw [idsT_len]; omega
  refine AIn.mk' (n % 6) rfl (by rw [List.length_map]; exact hlt) ?_
  conv => whnf
  refine ARd.mapAt (List.getElem?_eq_getElem hlt) ?_
  conv => whnf
  refine aret [] (congrArg (fun x : By => Value.string ⟨x.toArray⟩) ?_)
  unfold idT
  rw [List.getD_eq_getElem?_getD, List.getElem?_eq_getElem hlt]
  rfl
end Go.Proofs.YtmnjmdajgilhiaaDoor.Cl

namespace Go.Proofs.YtmnjmdajgilhiaaDoor.Cl
open Go Go.RowKit Go.Proofs Go.Proofs.YtmnjmdajgilhiaaDoor.Vc Go.Proofs.YtmnjmdajgilhiaaDoor.Ax Go.Proofs.YtmnjmdajgilhiaaDoor.Ky
attribute [local irreducible] loadVar storeVar Instr.indexAt Instr.index Instr.sliceAt Instr.makeSlice Instr.lookup Instr.mapUpdate Instr.range Instr.next Instr.entry Instr.makeMap Builtin.append_ Builtin.copy_ Builtin.len_ Builtin.min_ Builtin.max_ Builtin.cap_ Builtin.delete_ Builtin.clear_ convert binOp eqGuard Op.unary Calls
def srB (L : By) (at_ : Nat) : ABlk := .var 66 [bs L, iv at_]
/-- what Next answers, and where it stands then -/
def nxV (L : By) (at_ n : Nat) : Nat := (L.getD at_ 0).toNat % n
def nxA (L : By) (at_ : Nat) : Nat := if at_ < L.length then at_ + 1 else at_
theorem nxV_lt (L : By) (at_ n : Nat) (h : 0 < n) : nxV L at_ n < n := Nat.mod_lt _ h
theorem nxA_le {L : By} {at_ : Nat} (h : at_ ≤ L.length) : nxA L at_ ≤ L.length := by unfold nxA; split <;> omega
set_option maxHeartbeats 4000000 in
set_option maxRecDepth 100000 in
theorem nextB (L : By) (at_ n : Nat) (hn : 0 < n) (hn2 : n ≤ 256) (hL : at_ ≤ 100000) (ha : at_ ≤ L.length) : AFn Tryd.prog GS 34 [.ptr 0 0, iv n] 1 [(0, srB L at_)] (fun a m H => a = iv (nxV L at_ n) ∧ m = 1 ∧ H = [(0, srB L (nxA L at_))]) := by
  refine afn_of Tryd.func34 rfl mixed (by kernel_rfl) ?_
  conv => whnf
  (refine adraw pln34 [] (by kernel_rfl) ?_; conv => whnf)
  refine vif_split (fun h => ?_) (fun h => ?_)
  · have hge : L.length ≤ at_ := by simp at h; omega
    conv => whnf
    refine aend (iv (nxV L at_ n)) 1 [(0, srB L (nxA L at_))] [] [] ⟨rfl, rfl, rfl⟩ rfl ?_ ?_
    · unfold nxA; rw [if_neg (by omega)]; repeat' (first | rfl | trivial | apply And.intro)
    · unfold nxV; rw [List.getD_eq_getElem?_getD, List.getElem?_eq_none hge, Option.getD_none, show (0 : UInt8).toNat = 0 from rfl, Nat.zero_mod]; repeat' (first | rfl | trivial | apply And.intro)
  have hlt : at_ < L.length := by simp at h; omega
  conv => whnf
  refine AAr.i64 (by omega) ?_
  conv => whnf
  (refine adraw pln34 [] (by kernel_rfl) ?_; conv => whnf)
  repeat' (first
    | (refine And.intro ?_ ?_ <;> (conv => whnf))
    | (refine AAr.to (y := ((at_ : Nat) : Int)) (by rw [show ((at_ : Nat) : Int) + 1 - 1 = ((at_ : Nat) : Int) by omega]; exact IntWalk.i64_in _ (by omega)) ?_; conv => whnf)
    | (refine AIn.mk' at_ rfl (by rw [List.length_map]; exact hlt) ?_; conv => whnf)
    | (refine ARd.mapAt (List.getElem?_eq_getElem hlt) ?_; conv => whnf)
    | (refine AAr.i64 (by have := L[at_].toNat_lt; omega) ?_; conv => whnf)
    | (refine VReq.mk (by omega) ?_; conv => whnf))
  refine aend (iv (nxV L at_ n)) 1 [(0, srB L (nxA L at_))] [] [] ⟨rfl, rfl, rfl⟩ rfl ?_ ?_
  · unfold nxA; rw [if_pos hlt]; repeat' (first | rfl | trivial | apply And.intro)
  · unfold nxV; rw [List.getD_eq_getElem?_getD, List.getElem?_eq_getElem hlt]; exact rfl
theorem nextA (L : By) (at_ n : Nat) (hn : 0 < n) (hn2 : n ≤ 256) (hL : L.length ≤ 100000) (ha : at_ ≤ L.length) : AFn Tryd.prog GS 34 [.ptr 0 0, iv n] 1 [(0, srB L at_)] (fun a m H => a = iv (nxV L at_ n) ∧ m = 1 ∧ H = [(0, srB L (nxA L at_))]) := nextB L at_ n hn hn2 (by omega) ha
set_option maxHeartbeats 4000000 in
set_option maxRecDepth 100000 in
theorem moreA (L : By) (at_ : Nat) : AFn Tryd.prog GS 33 [.ptr 0 0] 1 [(0, srB L at_)] (fun a m H => a = bv (decide (at_ < L.length)) ∧ m = 1 ∧ H = [(0, srB L at_)]) := by
  refine afn_of Tryd.func33 rfl mixed (by kernel_rfl) ?_
  conv => whnf
  (refine adraw pln33 [] (by kernel_rfl) ?_; conv => whnf)
  refine aend (bv (decide (at_ < L.length))) 1 [(0, srB L at_)] [] [] ⟨rfl, rfl, rfl⟩ rfl (by repeat' (first | rfl | trivial | apply And.intro)) ?_
  refine congrArg Value.bool ?_
  rw [List.length_map]
  exact decide_eq_decide.2 (by omega)
def expT : Tx := [[98, 108, 117, 101], [103, 114, 101, 101, 110], [102, 97, 115, 116], [115, 108, 111, 119]]
def namT : Tx := [[98, 117, 121], [118, 105, 115, 105, 116]]
set_option maxRecDepth 100000 in
theorem expTA : AFn Tryd.prog GS 13 [] 0 [] (Own1 9 1 (expT.map enT)) := by
  refine afn_of Tryd.func13 rfl mixed (by kernel_rfl) ?_
  conv => whnf
  exact aend (.own 0) 1 _ [(0, .lab 0)] [] ⟨rfl, rfl, rfl⟩ rfl (by repeat' (first | rfl | trivial | apply And.intro)) (by repeat' (first | rfl | trivial | apply And.intro))
set_option maxRecDepth 100000 in
theorem namTA : AFn Tryd.prog GS 36 [] 0 [] (Own1 9 1 (namT.map enT)) := by
  refine afn_of Tryd.func36 rfl mixed (by kernel_rfl) ?_
  conv => whnf
  exact aend (.own 0) 1 _ [(0, .lab 0)] [] ⟨rfl, rfl, rfl⟩ rfl (by repeat' (first | rfl | trivial | apply And.intro)) (by repeat' (first | rfl | trivial | apply And.intro))
end Go.Proofs.YtmnjmdajgilhiaaDoor.Cl
