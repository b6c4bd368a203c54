/- The sanity check of the join's laws: its walk. Condition: the library's table of spaces (GS). -/
import Derived.Test.YtmnjmdajgilhiaaDoorJ1
import Derived.Test.YtmnjmdajgilhiaaDoorJ2
import Derived.Test.YtmnjmdajgilhiaaDoorJt
import Derived.Test.YtmnjmdajgilhiaaDoorEd2
set_option linter.unusedVariables false
set_option linter.unusedSimpArgs false
namespace Go.Proofs.YtmnjmdajgilhiaaDoor.Cl
open Go Go.RowKit Go.Proofs Go.Proofs.YtmnjmdajgilhiaaDoor.Vc Go.Proofs.YtmnjmdajgilhiaaDoor.Ax Go.Proofs.YtmnjmdajgilhiaaDoor.Ky Go.Proofs.YtmnjmdajgilhiaaDoor.Id
attribute [local irreducible] loadVar storeVar Instr.indexAt Instr.index Instr.sliceAt Instr.makeSlice Instr.lookup Instr.mapUpdate Instr.range Instr.next Instr.entry Instr.makeMap Builtin.append_ Builtin.copy_ Builtin.len_ Builtin.min_ Builtin.max_ Builtin.cap_ Builtin.delete_ Builtin.clear_ convert binOp eqGuard Op.unary Calls
def awB : By := [98, 108, 117, 101]
def awL : List Ev := [
  ⟨[119, 101, 98], 1, 1, 1, [97, 110, 110], [98, 108, 117, 101], [], 1, 2, 0⟩,
  ⟨[119, 101, 98], 2, 2, 2, [98, 111, 98], [98, 117, 121], [], 0, 0, 5⟩,
  ⟨[119, 101, 98], 3, 3, 3, [97, 110, 110], [], [98, 111, 98], 0, 0, 0⟩,
  ⟨[119, 101, 98], 4, 2, 4, [98, 111, 98], [98, 117, 121], [], 0, 0, 7⟩]
def awM : Mt := ⟨1, [98, 117, 121], [], 9, 50, 0, 0⟩
def awX : Ex := ⟨[97, 110, 110], [119, 101, 98], 1, 1, 2, 1⟩
theorem aw_fst : fstS awL awB = [awX] := by kernel_rfl
theorem aw_smp : (if mtC awM = 0 then smpS awL awB awM 10 else []) = [⟨awX, 7, 0, 0, false⟩] := by
  kernel_rfl
theorem aw_bnd : EvB awL := ⟨by decide, by decide, by decide⟩
theorem fst_nil (name : By) : fstS [] name = [] := rfl
set_option maxHeartbeats 8000000 in
set_option maxRecDepth 100000 in
theorem awakeA : AFn Tryd.prog GS 10 [] 0 [] (Is (bv true)) := by
  have hS := samplesA awL awB awM 10 aw_bnd (by decide) (by decide)
  rw [aw_smp] at hS
  refine afn_of Tryd.func10 rfl mixed (by kernel_rfl) ?_
  conv => whnf
  refine acallF [0] (by kernel_rfl) hS ?_ ?_
  · exact ⟨⟨rfl, rfl, rfl⟩, rfl, ⟨rfl, rfl, rfl, rfl, rfl, rfl, rfl, trivial⟩, rfl, trivial⟩
  rintro _ _ _ ⟨rfl, rfl, rfl⟩
  conv => whnf
  have hF := jFirstA (G := GS) [] awB (by decide)
  rw [fst_nil] at hF
  refine AIn.mk' 0 rfl (by decide) ?_
  conv => whnf
  refine ARd.at rfl ?_
  conv => whnf
  refine AIn.mk' 0 rfl (by decide) ?_
  conv => whnf
  refine ARd.at rfl ?_
  conv => whnf
  refine acallF [] (by kernel_rfl) hF ?_ ?_
  · exact ⟨rfl, rfl, trivial⟩
  rintro _ _ _ ⟨rfl, rfl, rfl⟩
  conv => whnf
  exact aret [] (by repeat' (first | rfl | trivial | apply And.intro))
theorem EvsP.bnd {l : List Ev} (h : EvsP l) : EvB l :=
  ⟨by have := h.len; omega, fun e he => by have := (h.all e he).time; omega, fun e he => by
    rcases (h.all e he).kinds with ⟨_, _, _, _, _, hv⟩ | ⟨_, _, _, _, _, hv⟩ | ⟨_, _, _, _, _, _, hv⟩
    · omega
    · omega
    · omega⟩
theorem exp_at (w : Nat) : ∃ name, expT[w % 2]? = some name := ⟨expT[w % 2]'(by have : w % 2 < 2 := Nat.mod_lt _ (by decide); show w % 2 < 4; omega), List.getElem?_eq_getElem _⟩
end Go.Proofs.YtmnjmdajgilhiaaDoor.Cl
