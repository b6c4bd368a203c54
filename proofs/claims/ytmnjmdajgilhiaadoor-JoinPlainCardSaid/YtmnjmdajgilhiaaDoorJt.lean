/- The walk of the reference's SameExposures and SameLinks over equal lists. Condition: sizes. The walk of the reference's SameSamples over equal lists. Condition: sizes. -/
import Derived.Test.YtmnjmdajgilhiaaDoorJx
import Derived.Test.YtmnjmdajgilhiaaDoorJs
set_option linter.unusedVariables false
set_option linter.unusedSimpArgs false
namespace Go.Proofs.YtmnjmdajgilhiaaDoor.Cl
open Go Go.RowKit Go.Proofs Go.Proofs.YtmnjmdajgilhiaaDoor.Vc Go.Proofs.YtmnjmdajgilhiaaDoor.Ax Go.Proofs.YtmnjmdajgilhiaaDoor.Ky Go.Proofs.YtmnjmdajgilhiaaDoor.Id
attribute [local irreducible] loadVar storeVar Instr.indexAt Instr.index Instr.sliceAt Instr.makeSlice Instr.lookup Instr.mapUpdate Instr.range Instr.next Instr.entry Instr.makeMap Builtin.append_ Builtin.copy_ Builtin.len_ Builtin.min_ Builtin.max_ Builtin.cap_ Builtin.delete_ Builtin.clear_ convert binOp eqGuard Op.unary Calls
section
variable {G : Glob}
set_option maxHeartbeats 4000000 in
set_option maxRecDepth 100000 in
theorem sameExA (l : List Ex) (hl : l.length ≤ 1000000) : AFn Tryd.prog G 22 [.lst 6 (l.map exF), .lst 6 (l.map exF)] 0 [] (Is (bv true)) := by
  refine afn_of Tryd.func22 rfl mixed (by kernel_rfl) ?_
  conv => whnf
  refine vif_split (fun h => ?_) (fun h => ?_)
  · exfalso; simp at h
  conv => whnf
  refine aloop ws22_1 0 [5] (fun i : Nat => [(5, iv i)]) (fun _ => []) (fun i => i ≤ l.length) (fun i => l.length - i) [] [] 0 (by kernel_rfl) (fun _ => rfl) rfl (Nat.zero_le _) trivial ⟨rfl, trivial⟩ ?_
  intro i hi
  conv => whnf
  refine vif_split (fun h => ?_) (fun h => ?_)
  · have hlt : i < l.length := by simp at h; omega
    conv => whnf
    (refine adraw pln22 [] (by kernel_rfl) ?_; conv => whnf)
    repeat' (first
      | (refine And.intro ?_ ?_ <;> (conv => whnf))
      | (refine AIn.mk' i rfl (by rw [List.length_map]; exact hlt) ?_; conv => whnf)
      | (refine ARd.mapAt (List.getElem?_eq_getElem hlt) ?_; conv => whnf))
    refine AEq.mk (by kernel_rfl) rfl rfl ?_
    conv => whnf
    refine vif_split (fun h => ?_) (fun h => ?_)
    · exfalso
      simp [sEqD] at h
    conv => whnf
    refine AAr.i64 (by omega) ?_
    conv => whnf
    exact aback (i + 1) [] [] rfl (by show l.length - (i + 1) < l.length - i; omega) hlt trivial ⟨rfl, trivial⟩
  · conv => whnf
    exact aret [] (by repeat' (first | rfl | trivial | apply And.intro))
set_option maxHeartbeats 4000000 in
set_option maxRecDepth 100000 in
theorem sameLkA (l : List Lk) (hl : l.length ≤ 1000000) : AFn Tryd.prog G 19 [.lst 3 (l.map lkF), .lst 3 (l.map lkF)] 0 [] (Is (bv true)) := by
  refine afn_of Tryd.func19 rfl mixed (by kernel_rfl) ?_
  conv => whnf
  refine vif_split (fun h => ?_) (fun h => ?_)
  · exfalso; simp at h
  conv => whnf
  refine aloop ws19_1 0 [5] (fun i : Nat => [(5, iv i)]) (fun _ => []) (fun i => i ≤ l.length) (fun i => l.length - i) [] [] 0 (by kernel_rfl) (fun _ => rfl) rfl (Nat.zero_le _) trivial ⟨rfl, trivial⟩ ?_
  intro i hi
  conv => whnf
  refine vif_split (fun h => ?_) (fun h => ?_)
  · have hlt : i < l.length := by simp at h; omega
    conv => whnf
    (refine adraw pln19 [] (by kernel_rfl) ?_; conv => whnf)
    repeat' (first
      | (refine And.intro ?_ ?_ <;> (conv => whnf))
      | (refine AIn.mk' i rfl (by rw [List.length_map]; exact hlt) ?_; conv => whnf)
      | (refine ARd.mapAt (List.getElem?_eq_getElem hlt) ?_; conv => whnf))
    refine AEq.mk (by kernel_rfl) rfl rfl ?_
    conv => whnf
    refine vif_split (fun h => ?_) (fun h => ?_)
    · exfalso
      simp [sEqD] at h
    conv => whnf
    refine AAr.i64 (by omega) ?_
    conv => whnf
    exact aback (i + 1) [] [] rfl (by show l.length - (i + 1) < l.length - i; omega) hlt trivial ⟨rfl, trivial⟩
  · conv => whnf
    exact aret [] (by repeat' (first | rfl | trivial | apply And.intro))
end
end Go.Proofs.YtmnjmdajgilhiaaDoor.Cl

namespace Go.Proofs.YtmnjmdajgilhiaaDoor.Cl
open Go Go.RowKit Go.Proofs Go.Proofs.YtmnjmdajgilhiaaDoor.Vc Go.Proofs.YtmnjmdajgilhiaaDoor.Ax Go.Proofs.YtmnjmdajgilhiaaDoor.Ky Go.Proofs.YtmnjmdajgilhiaaDoor.Id
attribute [local irreducible] loadVar storeVar Instr.indexAt Instr.index Instr.sliceAt Instr.makeSlice Instr.lookup Instr.mapUpdate Instr.range Instr.next Instr.entry Instr.makeMap Builtin.append_ Builtin.copy_ Builtin.len_ Builtin.min_ Builtin.max_ Builtin.cap_ Builtin.delete_ Builtin.clear_ convert binOp eqGuard Op.unary Calls
section
variable {G : Glob}
set_option maxHeartbeats 4000000 in
set_option maxRecDepth 100000 in
theorem sameSmA (l : List Sm) (hl : l.length ≤ 1000000) : AFn Tryd.prog G 15 [smL l, smL l] 0 [] (Is (bv true)) := by
  refine afn_of Tryd.func15 rfl mixed (by kernel_rfl) ?_
  conv => whnf
  refine vif_split (fun h => ?_) (fun h => ?_)
  · exfalso; simp at h
  conv => whnf
  refine aloop ws15_1 0 [5] (fun i : Nat => [(5, iv i)]) (fun _ => []) (fun i => i ≤ l.length) (fun i => l.length - i) [] [] 0 (by kernel_rfl) (fun _ => rfl) rfl (Nat.zero_le _) trivial ⟨rfl, trivial⟩ ?_
  intro i hi
  conv => whnf
  refine vif_split (fun h => ?_) (fun h => ?_)
  · have hlt : i < l.length := by simp at h; omega
    have hg := List.getElem?_eq_getElem hlt
    generalize l[i] = s at *
    obtain ⟨⟨x1, x2, x3, x4, x5, x6⟩, v, b, f, mm⟩ := s
    conv => whnf
    (refine adraw pln15 [] (by kernel_rfl) ?_; conv => whnf)
    repeat' (first
      | (refine And.intro ?_ ?_ <;> (conv => whnf))
      | (refine AIn.mk' i rfl (by rw [List.length_map]; exact hlt) ?_; conv => whnf)
      | (refine ARd.mapAt hg ?_; conv => whnf))
    refine AEq.mk (by kernel_rfl) (by kernel_rfl) (by kernel_rfl) ?_
    conv => whnf
    refine vif_split (fun h => ?_) (fun h => ?_)
    · exfalso
      simp [sEqD] at h
    conv => whnf
    refine AAr.i64 (by omega) ?_
    conv => whnf
    exact aback (i + 1) [] [] rfl (by show l.length - (i + 1) < l.length - i; omega) hlt trivial ⟨rfl, trivial⟩
  · conv => whnf
    exact aret [] (by repeat' (first | rfl | trivial | apply And.intro))
end
end Go.Proofs.YtmnjmdajgilhiaaDoor.Cl
