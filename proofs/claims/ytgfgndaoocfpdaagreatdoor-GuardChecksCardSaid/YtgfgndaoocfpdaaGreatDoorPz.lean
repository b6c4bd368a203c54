/- The orders in which some regions are walked, checked where they are used. No condition. -/
import Derived.Test.YtgfgndaoocfpdaaGreatDoorPk11
set_option linter.unusedVariables false
namespace Go.Proofs.YtgfgndaoocfpdaaGreatDoor.Vc
open Go
def ws3_1 : List (Nat × Nat) := [(76, 89)]
def pln3 (id : Nat) : Plan :=
  match id with
  | 6 => (.take 0 (.post 1 (.take 2 (.take 3 (.take 4 (.take 6 (.one 5 (.post 7 (.take 8 (.take 9 .done))))))))))
  | 24 => (.take 0 (.take 1 (.take 2 (.take 3 (.take 4 (.take 5 (.take 6 (.take 7 (.take 8 (.take 9 .done))))))))))
  | 35 => (.take 0 (.take 1 (.take 2 (.take 3 (.take 4 (.take 5 (.take 6 (.take 7 (.take 8 (.take 9 (.take 10 (.take 11 (.take 12 (.one 13 (.take 14 (.take 15 (.post 16 .done)))))))))))))))))
  | 38 => (.take 0 (.take 2 (.one 1 (.post 3 (.take 4 (.take 5 .done))))))
  | _ => .done
end Go.Proofs.YtgfgndaoocfpdaaGreatDoor.Vc
