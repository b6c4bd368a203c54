/- The orders in which some regions are walked, checked where they are used. No condition. -/
import Derived.Test.YtgfgndaoocfpdaaGreatDoorPk11
set_option linter.unusedVariables false
namespace Go.Proofs.YtgfgndaoocfpdaaGreatDoor.Vc
open Go
def ws6_1 : List (Nat × Nat) := [(14, 14), (19, 21), (42, 105)]
def ws6_2 : List (Nat × Nat) := [(21, 21), (54, 72)]
def pln6 (id : Nat) : Plan :=
  match id with
  | 6 => (.take 0 (.take 1 (.take 2 (.take 3 (.one 4 (.post 5 (.take 6 .done)))))))
  | 14 => (.take 0 (.take 1 (.take 2 (.take 3 (.take 4 (.take 5 (.take 6 (.take 7 (.take 8 (.take 9 (.take 10 (.take 11 (.take 12 (.take 13 (.take 14 (.take 15 (.take 16 .done)))))))))))))))))
  | 16 => (.take 0 (.take 1 (.take 2 (.take 3 (.take 4 (.take 5 (.take 6 (.take 7 (.take 8 (.take 9 (.take 10 (.take 11 (.take 12 (.take 13 (.take 14 (.take 15 (.take 17 (.take 18 (.take 19 (.take 20 (.one 16 (.take 21 .done))))))))))))))))))))))
  | _ => .done
def ws7_1 : List (Nat × Nat) := [(14, 14), (17, 19), (38, 144)]
def pln7 (id : Nat) : Plan :=
  match id with
  | 6 => (.take 0 (.take 1 (.take 3 (.take 4 (.take 5 (.take 6 (.take 8 (.one 2 (.one 7 (.one 9 (.post 10 (.take 11 .done))))))))))))
  | 12 => (.take 0 (.take 1 (.take 2 (.take 3 (.take 4 (.take 5 (.take 6 (.take 7 (.take 8 (.take 9 (.take 10 (.take 11 (.take 12 (.take 13 (.take 14 (.take 15 (.take 16 (.take 17 (.take 18 (.take 19 (.take 20 (.take 21 (.take 22 (.take 23 (.take 24 (.take 25 (.take 26 (.take 27 (.take 28 (.take 29 (.take 30 (.take 31 (.take 32 (.take 33 (.take 34 (.take 35 (.take 36 (.take 37 (.take 38 (.take 39 (.take 40 (.take 41 (.take 42 (.take 43 (.take 44 (.take 45 (.take 46 (.take 47 (.take 48 (.take 49 .done))))))))))))))))))))))))))))))))))))))))))))))))))
  | _ => .done
def ws8_1 : List (Nat × Nat) := [(21, 22), (54, 73)]
def ws8_2 : List (Nat × Nat) := [(24, 27), (93, 134)]
def pln8 (id : Nat) : Plan :=
  match id with
  | 25 => (.take 0 (.take 1 (.take 2 (.take 3 (.take 4 (.take 5 (.take 7 (.take 8 (.take 9 (.take 10 (.take 11 (.take 12 (.take 13 (.take 14 (.one 6 (.post 15 (.take 16 .done)))))))))))))))))
  | 26 => (.take 0 (.take 1 (.take 2 (.take 4 (.take 5 (.one 3 (.take 6 (.take 7 (.take 8 (.take 9 (.take 10 (.take 12 (.take 13 (.one 11 (.take 14 (.take 15 .done))))))))))))))))
  | _ => .done
end Go.Proofs.YtgfgndaoocfpdaaGreatDoor.Vc
