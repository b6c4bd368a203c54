/- The orders in which the reckoner walks the regions that draw theirs: printed by a program of ours, each is checked where it is used. No condition. -/
import Derived.Test.YtaiadjkeeifpgaaVc4
namespace Go.Proofs.Ytaiadjkeeifpgaa.Vc

def ws3_1 : List (Nat × Nat) := [(6, 7), (17, 40)]
def plan3 (id : Nat) : Plan :=
  match id with
  | 8 => (.take 0 (.take 1 (.take 2 (.take 3 (.take 4 (.take 6 (.take 7 (.take 8 (.take 9 (.take 10 (.one 5 (.one 11 (.take 12 .done)))))))))))))
  | _ => .done
def plan4 (id : Nat) : Plan :=
  match id with
  | 6 => (.take 0 (.take 1 (.take 2 (.one 3 (.take 4 (.take 5 (.take 6 (.take 7 (.take 10 (.take 11 (.take 12 (.one 8 (.take 9 (.one 13 (.take 14 (.take 15 (.take 16 (.take 17 (.take 18 .done)))))))))))))))))))
  | _ => .done
def ws5_1 : List (Nat × Nat) := [(9, 10), (24, 35)]
def ws5_2 : List (Nat × Nat) := [(12, 13), (64, 83)]
def plan5 (id : Nat) : Plan :=
  match id with
  | 12 => (.take 0 (.take 1 (.take 2 (.take 3 (.take 4 (.take 5 (.one 6 (.take 7 .done))))))))
  | 17 => (.take 0 (.take 1 (.take 2 (.take 3 (.take 4 (.take 5 (.take 6 (.take 7 (.take 8 (.take 9 (.take 10 (.take 11 .done))))))))))))
  | 18 => (.take 0 (.take 3 (.take 7 (.one 1 (.take 2 (.one 4 (.take 5 (.take 6 (.take 8 (.take 9 .done))))))))))
  | _ => .done
def plan6 (id : Nat) : Plan :=
  match id with
  | 6 => (.take 0 (.take 1 (.take 3 (.take 4 (.one 2 (.one 5 (.take 6 (.take 7 (.take 8 (.take 9 (.take 11 (.take 12 (.one 10 (.one 13 (.take 14 (.take 15 (.take 16 (.take 17 (.take 21 (.two 18 (.two 19 (.take 20 (.one 22 (.one 23 (.take 24 (.take 25 (.take 26 (.take 27 (.take 28 (.take 29 (.take 33 (.take 34 (.take 35 (.one 30 (.one 31 (.take 32 (.take 36 (.take 37 (.take 38 .done)))))))))))))))))) 22 (.one 19 (.take 20 (.one 23 (.take 24 (.take 25 (.take 26 (.take 27 (.take 28 (.take 29 (.take 33 (.take 34 (.take 35 (.one 30 (.one 31 (.take 32 (.take 36 (.take 37 (.take 38 .done))))))))))))))))))) 22 (.one 18 (.one 19 (.take 20 (.one 23 (.take 24 (.take 25 (.take 26 (.take 27 (.take 28 (.take 29 (.take 33 (.take 34 (.take 35 (.one 30 (.one 31 (.take 32 (.take 36 (.take 37 (.take 38 .done)))))))))))))))))))))))))))))))))))))))
  | _ => .done
def ws8_1 : List (Nat × Nat) := [(2, 2), (7, 15)]
def ws9_1 : List (Nat × Nat) := [(9, 11), (26, 50)]
def ws9_2 : List (Nat × Nat) := [(10, 11), (33, 48)]
def ws9_3 : List (Nat × Nat) := [(8, 8), (12, 12), (54, 74)]
def ws10_1 : List (Nat × Nat) := [(8, 10), (20, 77)]
def ws10_2 : List (Nat × Nat) := [(9, 10), (27, 53)]
def ws11_1 : List (Nat × Nat) := [(4, 4), (13, 39)]
def ws12_1 : List (Nat × Nat) := [(3, 3), (5, 6), (9, 30)]
def ws12_2 : List (Nat × Nat) := [(3, 3), (6, 6), (13, 26)]
def ws13_1 : List (Nat × Nat) := [(3, 36)]
def ws13_2 : List (Nat × Nat) := [(3, 3), (6, 6), (19, 30)]
def plan18 (id : Nat) : Plan :=
  match id with
  | 0 => (.take 0 (.take 1 (.take 2 (.take 3 (.take 4 (.take 5 (.take 6 (.take 7 (.sink 8)))))))))
  | 2 => (.take 0 (.take 1 (.take 2 (.take 3 (.take 4 (.take 5 (.take 6 (.take 7 (.sink 8)))))))))
  | _ => .done
def ws19_1 : List (Nat × Nat) := [(5, 119)]
def plan19 (id : Nat) : Plan :=
  match id with
  | 2 => (.take 0 (.take 1 (.take 2 (.take 3 (.take 4 (.take 5 (.take 6 (.take 7 (.take 8 (.take 9 (.take 10 (.sink 11))))))))))))
  | 3 => (.take 0 (.take 1 (.take 2 (.take 3 (.take 4 (.take 6 (.take 7 (.take 8 (.take 9 (.take 11 (.one 5 (.take 10 (.take 12 (.sink 13))))))))))))))
  | 4 => (.take 0 (.take 1 (.take 2 (.take 3 (.take 4 (.take 6 (.one 5 (.take 7 (.sink 8)))))))))
  | 5 => (.take 0 (.take 1 (.take 2 (.take 3 (.take 4 (.take 5 (.take 6 (.take 7 (.take 8 (.take 9 (.take 10 (.sink 11))))))))))))
  | 6 => (.take 0 (.take 1 (.take 2 (.take 3 (.take 4 (.take 6 (.take 7 (.take 8 (.take 9 (.take 11 (.one 5 (.take 10 (.take 12 (.sink 13))))))))))))))
  | 7 => (.take 0 (.take 1 (.take 2 (.take 3 (.take 4 (.take 5 (.take 6 (.take 7 (.take 8 (.take 9 (.take 10 (.sink 11))))))))))))
  | 8 => (.take 0 (.take 1 (.take 2 (.take 3 (.take 4 (.take 6 (.take 7 (.take 8 (.take 9 (.take 11 (.one 5 (.take 10 (.take 12 (.sink 13))))))))))))))
  | 9 => (.take 0 (.take 1 (.take 2 (.take 3 (.take 4 (.take 5 (.take 6 (.take 7 (.take 8 (.take 9 (.take 10 (.sink 11))))))))))))
  | 10 => (.take 0 (.take 1 (.take 2 (.take 3 (.take 4 (.take 6 (.take 7 (.take 8 (.take 9 (.take 11 (.one 5 (.take 10 (.take 12 (.sink 13))))))))))))))
  | 11 => (.take 0 (.take 1 (.take 2 (.take 3 (.take 4 (.take 6 (.one 5 (.take 7 (.sink 8)))))))))
  | _ => .done
def ws20_1 : List (Nat × Nat) := [(5, 70)]
def plan20 (id : Nat) : Plan :=
  match id with
  | 5 => (.take 0 (.take 1 (.take 3 (.take 4 (.one 2 (.take 5 (.take 6 (.sink 7))))))))
  | 8 => (.take 0 (.take 1 (.take 3 (.take 4 (.one 2 (.take 5 (.take 6 (.sink 7))))))))
  | 10 => (.take 0 (.take 1 (.take 3 (.take 4 (.one 2 (.take 5 (.take 6 (.sink 7))))))))
  | 12 => (.take 0 (.take 1 (.take 3 (.take 4 (.one 2 (.take 5 (.take 6 (.sink 7))))))))
  | _ => .done

end Go.Proofs.Ytaiadjkeeifpgaa.Vc
