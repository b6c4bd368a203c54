/- The walks of both Key over abstract values. Condition: the library's table of spaces holds what it was laid with (GS). -/
import Derived.Test.YtmnjmdajgilhiaaDoorAx8
import Derived.Test.YtmnjmdajgilhiaaDoorFd2
import Derived.Test.YtmnjmdajgilhiaaDoorPlans
set_option linter.unusedVariables false
set_option linter.unusedSimpArgs false
namespace Go.Proofs.YtmnjmdajgilhiaaDoor.Cl
open Go Go.RowKit Go.Proofs Go.Proofs.YtmnjmdajgilhiaaDoor.Vc Go.Proofs.YtmnjmdajgilhiaaDoor.Ax Go.Proofs.YtmnjmdajgilhiaaDoor.Ky Go.Proofs.YtmnjmdajgilhiaaDoor.Id
def spL : List Value := (List.range 256).map fun c => .int .u8 (spT c)
def GS : Glob := ⟨0 + 1, fun g => if g = 0 then some spL else none⟩
theorem asc_of {w : World} (h : GS.holds w) : Asc w := by
  refine ⟨Nat.lt_of_lt_of_le (Nat.lt_succ_self _) h.1, fun c hc => ?_⟩
  have := (h.2 0 spL (by simp [GS])).2 c (.int .u8 (spT c)) (by unfold spL; rw [List.getElem?_map, List.getElem?_range hc]; rfl)
  exact this
theorem keyG1 (s : ByteArray) (h : s.size ≤ 140737488355328) : AFn Tryd.prog GS 52 [.v (.string s)] 0 [] (Is (.v (.bool (keyB s)))) := afn_of_ret (l := [.string s]) fun w hG => key1_ok s w (asc_of hG) h
theorem keyG2 (s : ByteArray) (h : s.size ≤ 140737488355328) : AFn Tryd.prog GS 62 [.v (.string s)] 0 [] (Is (.v (.bool (keyB s)))) := afn_of_ret (l := [.string s]) fun w hG => key2_ok s w h
theorem key_short {s : ByteArray} (h : keyB s = true) : s.size ≤ 32 := by
  unfold keyB at h
  simp only [Bool.and_eq_true, decide_eq_true_eq] at h
  omega
end Go.Proofs.YtmnjmdajgilhiaaDoor.Cl
