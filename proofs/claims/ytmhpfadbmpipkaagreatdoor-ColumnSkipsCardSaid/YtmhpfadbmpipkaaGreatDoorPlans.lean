/- The orders in which the reckoner walks the regions that draw theirs: printed by a program of ours, each is checked where it is used. No condition. -/
import Derived.Test.YtmhpfadbmpipkaaGreatDoorVc4
namespace Go.Proofs.YtmhpfadbmpipkaaGreatDoor.Vc

def ws3_1 : List (Nat × Nat) := [(12, 12), (23, 28), (93, 136)]
def ws4_1 : List (Nat × Nat) := [(6, 7), (17, 37)]
def plan4 (id : Nat) : Plan :=
  match id with
  | 10 => (.take 0 (.take 1 (.take 2 (.take 3 (.take 4 (.take 5 (.take 6 (.take 7 (.take 8 (.take 9 (.take 11 (.take 12 (.one 10 (.take 13 (.one 14 (.one 15 (.take 16 .done)))))))))))))))))
  | _ => .done
def pln4 (id : Nat) : Plan :=
  match id with
  | 10 => (.take 0 (.take 1 (.take 2 (.take 3 (.take 4 (.take 5 (.take 6 (.take 7 (.take 8 (.take 9 (.take 11 (.take 12 (.one 10 (.take 13 (.one 14 (.post 15 (.take 16 .done)))))))))))))))))
  | _ => .done
def ws5_1 : List (Nat × Nat) := [(8, 8), (11, 18), (35, 78)]
def ws8_1 : List (Nat × Nat) := [(2, 3), (5, 6), (14, 23)]
def plan8 (id : Nat) : Plan :=
  match id with
  | 13 => (.take 0 (.take 1 (.one 2 (.one 3 (.sink 4)))))
  | _ => .done
def pln8 (id : Nat) : Plan :=
  match id with
  | 13 => (.take 0 (.take 1 (.one 2 (.post 3 (.post 4 .done)))))
  | _ => .done
def ws9_1 : List (Nat × Nat) := [(2, 5), (15, 28)]
def ws9_2 : List (Nat × Nat) := [(6, 11), (32, 63)]
def ws10_1 : List (Nat × Nat) := [(4, 5), (7, 11), (16, 116)]
def plan10 (id : Nat) : Plan :=
  match id with
  | 12 => (.take 1 (.take 4 (.take 5 (.take 6 (.take 7 (.take 8 (.take 9 (.three 0 (.take 2 (.take 3 (.two 10 (.two 11 (.take 12 (.one 13 (.sink 14))) 13 (.one 11 (.take 12 (.sink 14)))) 13 (.one 10 (.one 11 (.take 12 (.sink 14))))))) 10 (.three 0 (.take 2 (.take 3 (.two 11 (.take 12 (.one 13 (.sink 14))) 13 (.one 11 (.take 12 (.sink 14)))))) 11 (.two 0 (.take 2 (.take 3 (.take 12 (.one 13 (.sink 14))))) 13 (.one 0 (.take 2 (.take 3 (.take 12 (.sink 14)))))) 13 (.two 0 (.take 2 (.take 3 (.one 11 (.take 12 (.sink 14))))) 11 (.one 0 (.take 2 (.take 3 (.take 12 (.sink 14))))))) 13 (.two 0 (.take 2 (.take 3 (.one 10 (.one 11 (.take 12 (.sink 14)))))) 10 (.two 0 (.take 2 (.take 3 (.one 11 (.take 12 (.sink 14))))) 11 (.one 0 (.take 2 (.take 3 (.take 12 (.sink 14)))))))))))))))
  | 18 => (.take 1 (.take 6 (.take 11 (.take 15 (.take 19 (.one 0 (.one 2 (.take 3 (.take 4 (.take 5 (.one 7 (.take 8 (.take 9 (.take 10 (.one 12 (.take 13 (.take 14 (.one 16 (.take 17 (.take 18 (.one 20 (.take 21 (.one 22 (.take 23 (.one 24 (.take 25 (.sink 26)))))))))))))))))))))))))))
  | 21 => (.take 0 (.take 2 (.take 3 (.one 1 (.take 4 .done)))))
  | 14 => (.take 1 (.take 6 (.take 9 (.one 0 (.one 2 (.take 3 (.take 4 (.take 5 (.one 7 (.take 8 (.one 10 (.take 11 (.one 12 (.take 13 (.sink 14)))))))))))))))
  | _ => .done
def pln10 (id : Nat) : Plan :=
  match id with
  | 12 => (.take 1 (.take 4 (.take 5 (.take 6 (.take 7 (.take 8 (.take 9 (.three 0 (.take 2 (.take 3 (.two 10 (.two 11 (.take 12 (.one 13 (.post 14 .done))) 13 (.one 11 (.take 12 (.post 14 .done)))) 13 (.one 10 (.one 11 (.take 12 (.post 14 .done))))))) 10 (.three 0 (.take 2 (.take 3 (.two 11 (.take 12 (.one 13 (.post 14 .done))) 13 (.one 11 (.take 12 (.post 14 .done)))))) 11 (.two 0 (.take 2 (.take 3 (.take 12 (.one 13 (.post 14 .done))))) 13 (.one 0 (.take 2 (.take 3 (.take 12 (.post 14 .done)))))) 13 (.two 0 (.take 2 (.take 3 (.one 11 (.take 12 (.post 14 .done))))) 11 (.one 0 (.take 2 (.take 3 (.take 12 (.post 14 .done))))))) 13 (.two 0 (.take 2 (.take 3 (.one 10 (.one 11 (.take 12 (.post 14 .done)))))) 10 (.two 0 (.take 2 (.take 3 (.one 11 (.take 12 (.post 14 .done))))) 11 (.one 0 (.take 2 (.take 3 (.take 12 (.post 14 .done)))))))))))))))
  | 18 => (.take 1 (.take 6 (.take 11 (.take 15 (.take 19 (.one 0 (.one 2 (.take 3 (.take 4 (.take 5 (.one 7 (.take 8 (.take 9 (.take 10 (.one 12 (.take 13 (.take 14 (.one 16 (.take 17 (.take 18 (.one 20 (.take 21 (.one 22 (.take 23 (.one 24 (.take 25 (.post 26 .done)))))))))))))))))))))))))))
  | 21 => (.take 0 (.take 2 (.take 3 (.one 1 (.take 4 .done)))))
  | 14 => (.take 1 (.take 6 (.take 9 (.one 0 (.one 2 (.take 3 (.take 4 (.take 5 (.one 7 (.take 8 (.one 10 (.take 11 (.one 12 (.take 13 (.post 14 .done)))))))))))))))
  | _ => .done
def plan11 (id : Nat) : Plan :=
  match id with
  | 10 => (.take 1 (.take 2 (.take 3 (.take 5 (.take 8 (.take 9 (.take 10 (.two 0 (.two 4 (.one 6 (.one 7 (.one 11 (.take 12 .done)))) 6 (.one 4 (.one 7 (.one 11 (.take 12 .done))))) 6 (.one 0 (.one 4 (.one 7 (.one 11 (.take 12 .done)))))))))))))
  | 13 => (.take 1 (.take 2 (.take 3 (.take 5 (.take 6 (.take 7 (.take 8 (.one 0 (.one 4 (.one 9 (.take 10 .done)))))))))))
  | _ => .done
def pln11 (id : Nat) : Plan :=
  match id with
  | 10 => (.take 1 (.take 2 (.take 3 (.take 5 (.take 8 (.take 9 (.take 10 (.two 0 (.two 4 (.one 6 (.one 7 (.post 11 (.take 12 .done)))) 6 (.one 4 (.one 7 (.post 11 (.take 12 .done))))) 6 (.one 0 (.one 4 (.one 7 (.post 11 (.take 12 .done)))))))))))))
  | 13 => (.take 1 (.take 2 (.take 3 (.take 5 (.take 6 (.take 7 (.take 8 (.one 0 (.one 4 (.post 9 (.take 10 .done)))))))))))
  | _ => .done
def ws12_1 : List (Nat × Nat) := [(2, 3), (6, 10), (23, 47)]
def ws13_1 : List (Nat × Nat) := [(2, 3), (6, 20), (27, 162)]
def ws13_2 : List (Nat × Nat) := [(6, 6), (20, 20), (106, 154)]
def plan13 (id : Nat) : Plan :=
  match id with
  | 11 => (.take 0 (.take 1 (.take 2 (.take 3 (.take 4 (.take 5 (.take 6 (.take 7 (.take 8 (.take 9 (.take 10 (.take 11 (.take 12 (.one 13 (.take 14 .done)))))))))))))))
  | 20 => (.take 0 (.take 1 (.take 2 (.take 3 (.take 4 (.take 5 (.take 6 (.take 7 (.take 8 (.take 9 (.take 10 (.take 11 (.take 12 (.take 13 (.take 14 (.take 15 (.take 16 (.take 17 (.take 18 (.take 19 (.take 20 (.take 21 (.take 22 (.take 23 (.take 24 (.take 25 (.take 26 (.take 27 (.take 28 (.take 29 (.take 30 (.take 31 (.take 32 (.take 33 (.take 34 (.take 35 (.take 36 (.take 37 (.take 38 (.take 39 (.take 40 (.take 41 (.one 42 (.one 43 (.take 44 .done)))))))))))))))))))))))))))))))))))))))))))))
  | _ => .done
def pln13 (id : Nat) : Plan :=
  match id with
  | 11 => (.take 0 (.take 1 (.take 2 (.take 3 (.take 4 (.take 5 (.take 6 (.take 7 (.take 8 (.take 9 (.take 10 (.take 11 (.take 12 (.post 13 (.take 14 .done)))))))))))))))
  | 20 => (.take 0 (.take 1 (.take 2 (.take 3 (.take 4 (.take 5 (.take 6 (.take 7 (.take 8 (.take 9 (.take 10 (.take 11 (.take 12 (.take 13 (.take 14 (.take 15 (.take 16 (.take 17 (.take 18 (.take 19 (.take 20 (.take 21 (.take 22 (.take 23 (.take 24 (.take 25 (.take 26 (.take 27 (.take 28 (.take 29 (.take 30 (.take 31 (.take 32 (.take 33 (.take 34 (.take 35 (.take 36 (.take 37 (.take 38 (.take 39 (.take 40 (.take 41 (.one 42 (.post 43 (.take 44 .done)))))))))))))))))))))))))))))))))))))))))))))
  | _ => .done
def ws14_1 : List (Nat × Nat) := [(4, 5), (11, 25)]
def pln14 (id : Nat) : Plan :=
  match id with
  | 6 => (.take 0 (.take 1 (.take 2 (.take 3 (.take 4 (.take 5 (.take 6 (.take 7 (.take 8 .done)))))))))
  | _ => .done
def plan14 (id : Nat) : Plan := pln14 id
def ws16_1 : List (Nat × Nat) := [(17, 17), (46, 64)]
def pln16 (id : Nat) : Plan :=
  match id with
  | 17 => (.take 0 (.take 1 (.take 2 (.take 3 (.take 4 .done)))))
  | _ => .done
def plan16 (id : Nat) : Plan := pln16 id
def ws17_1 : List (Nat × Nat) := [(11, 15), (24, 77)]
def ws18_1 : List (Nat × Nat) := [(2, 6), (8, 37)]
def pln19 (id : Nat) : Plan :=
  match id with
  | 1 => (.take 0 (.take 1 (.take 2 (.take 3 (.take 4 (.take 5 (.take 6 (.take 7 (.take 8 (.take 9 (.take 10 (.take 11 .done))))))))))))
  | _ => .done
def plan19 (id : Nat) : Plan := pln19 id
def ws22_1 : List (Nat × Nat) := [(3, 3), (5, 7), (9, 11), (18, 71)]
def ws22_2 : List (Nat × Nat) := [(6, 7), (24, 38)]
def ws22_3 : List (Nat × Nat) := [(3, 3), (9, 11), (46, 70)]
def ws22_4 : List (Nat × Nat) := [(10, 11), (52, 65)]
def plan22 (id : Nat) : Plan :=
  match id with
  | 10 => (.take 0 (.take 1 (.take 2 (.take 3 (.take 4 (.take 5 (.one 6 (.take 7 (.take 8 (.one 9 (.one 10 (.take 11 .done))))))))))))
  | _ => .done
def pln22 (id : Nat) : Plan :=
  match id with
  | 10 => (.take 0 (.take 1 (.take 2 (.take 3 (.take 4 (.take 5 (.one 6 (.take 7 (.take 8 (.one 9 (.post 10 (.take 11 .done))))))))))))
  | _ => .done
def pln23 (id : Nat) : Plan :=
  match id with
  | 1 => (.take 0 (.take 1 (.take 2 (.take 3 (.take 4 (.take 5 (.take 6 (.take 7 (.take 8 (.take 9 (.take 10 (.take 11 .done))))))))))))
  | _ => .done
def plan23 (id : Nat) : Plan := pln23 id
def ws24_1 : List (Nat × Nat) := [(0, 0), (5, 5), (15, 25)]
def ws25_1 : List (Nat × Nat) := [(4, 6), (15, 34)]
def pln25 (id : Nat) : Plan :=
  match id with
  | 1 => (.take 0 (.take 1 (.take 2 (.take 3 (.take 4 (.take 5 (.take 6 (.take 7 (.take 8 (.take 9 .done))))))))))
  | 5 => (.take 0 (.take 1 (.take 2 (.take 3 (.take 4 (.take 5 (.take 6 (.take 7 (.take 8 (.take 9 (.take 10 (.take 11 (.take 12 (.take 13 (.take 14 (.take 15 .done))))))))))))))))
  | _ => .done
def plan25 (id : Nat) : Plan := pln25 id
def ws26_1 : List (Nat × Nat) := [(3, 14), (16, 75)]
def plan26 (id : Nat) : Plan :=
  match id with
  -- region 7: no plan: [3, 8, 13, 18]
  | 8 => (.take 0 (.take 1 (.take 2 (.take 5 (.take 6 (.take 7 (.take 10 (.take 11 (.take 12 (.three 3 (.three 4 (.two 8 (.two 9 (.one 13 (.one 14 (.take 15 (.take 16 (.take 17 .done))))) 13 (.one 9 (.one 14 (.take 15 (.take 16 (.take 17 .done)))))) 13 (.one 8 (.one 9 (.one 14 (.take 15 (.take 16 (.take 17 .done))))))) 8 (.two 4 (.two 9 (.one 13 (.one 14 (.take 15 (.take 16 (.take 17 .done))))) 13 (.one 9 (.one 14 (.take 15 (.take 16 (.take 17 .done)))))) 13 (.one 4 (.one 9 (.one 14 (.take 15 (.take 16 (.take 17 .done))))))) 13 (.two 4 (.one 8 (.one 9 (.one 14 (.take 15 (.take 16 (.take 17 .done)))))) 8 (.one 4 (.one 9 (.one 14 (.take 15 (.take 16 (.take 17 .done)))))))) 8 (.two 3 (.two 4 (.two 9 (.one 13 (.one 14 (.take 15 (.take 16 (.take 17 .done))))) 13 (.one 9 (.one 14 (.take 15 (.take 16 (.take 17 .done)))))) 13 (.one 4 (.one 9 (.one 14 (.take 15 (.take 16 (.take 17 .done))))))) 13 (.one 3 (.one 4 (.one 9 (.one 14 (.take 15 (.take 16 (.take 17 .done)))))))) 13 (.two 3 (.two 4 (.one 8 (.one 9 (.one 14 (.take 15 (.take 16 (.take 17 .done)))))) 8 (.one 4 (.one 9 (.one 14 (.take 15 (.take 16 (.take 17 .done))))))) 8 (.one 3 (.one 4 (.one 9 (.one 14 (.take 15 (.take 16 (.take 17 .done))))))))))))))))))
  | 9 => (.take 0 (.take 1 (.take 2 (.take 5 (.take 6 (.take 7 (.take 10 (.take 11 (.take 12 (.three 3 (.three 4 (.two 8 (.two 9 (.one 13 (.one 14 (.take 15 (.take 16 (.take 17 .done))))) 13 (.one 9 (.one 14 (.take 15 (.take 16 (.take 17 .done)))))) 13 (.one 8 (.one 9 (.one 14 (.take 15 (.take 16 (.take 17 .done))))))) 8 (.two 4 (.two 9 (.one 13 (.one 14 (.take 15 (.take 16 (.take 17 .done))))) 13 (.one 9 (.one 14 (.take 15 (.take 16 (.take 17 .done)))))) 13 (.one 4 (.one 9 (.one 14 (.take 15 (.take 16 (.take 17 .done))))))) 13 (.two 4 (.one 8 (.one 9 (.one 14 (.take 15 (.take 16 (.take 17 .done)))))) 8 (.one 4 (.one 9 (.one 14 (.take 15 (.take 16 (.take 17 .done)))))))) 8 (.two 3 (.two 4 (.two 9 (.one 13 (.one 14 (.take 15 (.take 16 (.take 17 .done))))) 13 (.one 9 (.one 14 (.take 15 (.take 16 (.take 17 .done)))))) 13 (.one 4 (.one 9 (.one 14 (.take 15 (.take 16 (.take 17 .done))))))) 13 (.one 3 (.one 4 (.one 9 (.one 14 (.take 15 (.take 16 (.take 17 .done)))))))) 13 (.two 3 (.two 4 (.one 8 (.one 9 (.one 14 (.take 15 (.take 16 (.take 17 .done)))))) 8 (.one 4 (.one 9 (.one 14 (.take 15 (.take 16 (.take 17 .done))))))) 8 (.one 3 (.one 4 (.one 9 (.one 14 (.take 15 (.take 16 (.take 17 .done))))))))))))))))))
  | _ => .done
def pln26 (id : Nat) : Plan :=
  match id with
  -- region 7: no plan: [3, 8, 13, 18]
  | 8 => (.take 0 (.take 1 (.take 2 (.take 5 (.take 6 (.take 7 (.take 10 (.take 11 (.take 12 (.three 3 (.three 4 (.two 8 (.two 9 (.one 13 (.post 14 (.take 15 (.take 16 (.take 17 .done))))) 13 (.one 9 (.post 14 (.take 15 (.take 16 (.take 17 .done)))))) 13 (.one 8 (.one 9 (.post 14 (.take 15 (.take 16 (.take 17 .done))))))) 8 (.two 4 (.two 9 (.one 13 (.post 14 (.take 15 (.take 16 (.take 17 .done))))) 13 (.one 9 (.post 14 (.take 15 (.take 16 (.take 17 .done)))))) 13 (.one 4 (.one 9 (.post 14 (.take 15 (.take 16 (.take 17 .done))))))) 13 (.two 4 (.one 8 (.one 9 (.post 14 (.take 15 (.take 16 (.take 17 .done)))))) 8 (.one 4 (.one 9 (.post 14 (.take 15 (.take 16 (.take 17 .done)))))))) 8 (.two 3 (.two 4 (.two 9 (.one 13 (.post 14 (.take 15 (.take 16 (.take 17 .done))))) 13 (.one 9 (.post 14 (.take 15 (.take 16 (.take 17 .done)))))) 13 (.one 4 (.one 9 (.post 14 (.take 15 (.take 16 (.take 17 .done))))))) 13 (.one 3 (.one 4 (.one 9 (.post 14 (.take 15 (.take 16 (.take 17 .done)))))))) 13 (.two 3 (.two 4 (.one 8 (.one 9 (.post 14 (.take 15 (.take 16 (.take 17 .done)))))) 8 (.one 4 (.one 9 (.post 14 (.take 15 (.take 16 (.take 17 .done))))))) 8 (.one 3 (.one 4 (.one 9 (.post 14 (.take 15 (.take 16 (.take 17 .done))))))))))))))))))
  | 9 => (.take 0 (.take 1 (.take 2 (.take 5 (.take 6 (.take 7 (.take 10 (.take 11 (.take 12 (.three 3 (.three 4 (.two 8 (.two 9 (.one 13 (.post 14 (.take 15 (.take 16 (.take 17 .done))))) 13 (.one 9 (.post 14 (.take 15 (.take 16 (.take 17 .done)))))) 13 (.one 8 (.one 9 (.post 14 (.take 15 (.take 16 (.take 17 .done))))))) 8 (.two 4 (.two 9 (.one 13 (.post 14 (.take 15 (.take 16 (.take 17 .done))))) 13 (.one 9 (.post 14 (.take 15 (.take 16 (.take 17 .done)))))) 13 (.one 4 (.one 9 (.post 14 (.take 15 (.take 16 (.take 17 .done))))))) 13 (.two 4 (.one 8 (.one 9 (.post 14 (.take 15 (.take 16 (.take 17 .done)))))) 8 (.one 4 (.one 9 (.post 14 (.take 15 (.take 16 (.take 17 .done)))))))) 8 (.two 3 (.two 4 (.two 9 (.one 13 (.post 14 (.take 15 (.take 16 (.take 17 .done))))) 13 (.one 9 (.post 14 (.take 15 (.take 16 (.take 17 .done)))))) 13 (.one 4 (.one 9 (.post 14 (.take 15 (.take 16 (.take 17 .done))))))) 13 (.one 3 (.one 4 (.one 9 (.post 14 (.take 15 (.take 16 (.take 17 .done)))))))) 13 (.two 3 (.two 4 (.one 8 (.one 9 (.post 14 (.take 15 (.take 16 (.take 17 .done)))))) 8 (.one 4 (.one 9 (.post 14 (.take 15 (.take 16 (.take 17 .done))))))) 8 (.one 3 (.one 4 (.one 9 (.post 14 (.take 15 (.take 16 (.take 17 .done))))))))))))))))))
  | _ => .done
def pln27 (id : Nat) : Plan :=
  match id with
  | 1 => (.take 0 (.take 1 (.take 2 (.take 3 (.take 4 (.take 5 (.take 6 (.take 7 (.take 8 (.take 9 (.take 10 .done)))))))))))
  | _ => .done
def plan27 (id : Nat) : Plan := pln27 id
def pln28 (id : Nat) : Plan :=
  match id with
  | 1 => (.take 0 (.take 1 (.take 2 (.take 3 (.take 4 (.take 5 (.take 6 (.take 7 (.take 8 (.take 9 .done))))))))))
  | 4 => (.take 0 (.take 1 (.take 2 (.take 3 (.take 4 (.take 5 (.take 6 (.take 7 (.take 8 (.take 9 (.take 10 (.take 11 (.take 12 (.take 13 (.take 14 .done)))))))))))))))
  | _ => .done
def plan28 (id : Nat) : Plan := pln28 id
def ws34_1 : List (Nat × Nat) := [(4, 6), (13, 13), (15, 19), (21, 25), (62, 141)]
def ws34_2 : List (Nat × Nat) := [(19, 19), (85, 99)]
def ws34_3 : List (Nat × Nat) := [(4, 6), (13, 13), (21, 25), (103, 140)]
def ws34_4 : List (Nat × Nat) := [(25, 25), (126, 139)]
def plan34 (id : Nat) : Plan :=
  match id with
  | 20 => (.take 0 (.take 1 (.take 2 (.take 3 (.take 4 (.take 6 (.take 7 (.take 8 (.take 9 (.one 5 (.take 10 (.sink 11))))))))))))
  | 32 => (.take 0 (.take 1 (.take 2 (.take 3 (.take 5 (.take 6 (.take 7 (.take 8 (.one 4 (.take 9 (.sink 10)))))))))))
  | _ => .done
def pln34 (id : Nat) : Plan :=
  match id with
  | 20 => (.take 0 (.take 1 (.take 2 (.take 3 (.take 4 (.take 6 (.take 7 (.take 8 (.take 9 (.one 5 (.take 10 (.post 11 .done))))))))))))
  | 32 => (.take 0 (.take 1 (.take 2 (.take 3 (.take 5 (.take 6 (.take 7 (.take 8 (.one 4 (.take 9 (.post 10 .done)))))))))))
  | _ => .done
def ws38_1 : List (Nat × Nat) := [(2, 84)]
def pln38 (id : Nat) : Plan :=
  match id with
  | 5 => (.take 0 (.take 1 (.take 2 (.take 3 (.take 4 (.take 5 (.take 6 (.take 7 (.take 8 (.take 9 (.take 10 (.take 11 .done))))))))))))
  | 8 => (.take 0 (.take 1 (.take 2 (.take 3 (.take 4 (.take 5 (.take 6 (.take 7 (.take 8 (.take 9 (.take 10 (.take 11 (.take 12 .done)))))))))))))
  | _ => .done
def plan38 (id : Nat) : Plan := pln38 id
def ws42_1 : List (Nat × Nat) := [(4, 5), (7, 7), (18, 30)]
def pln42 (id : Nat) : Plan :=
  match id with
  | 1 => (.take 0 (.take 1 (.take 2 (.take 3 (.take 4 (.take 5 (.take 6 (.take 7 (.take 8 (.take 9 .done))))))))))
  | 5 => (.take 0 (.take 1 (.take 2 (.take 3 (.take 4 (.take 5 (.take 6 (.take 7 (.take 8 (.take 9 .done))))))))))
  | _ => .done
def plan42 (id : Nat) : Plan := pln42 id
def ws44_1 : List (Nat × Nat) := [(2, 5), (18, 49)]
def ws44_2 : List (Nat × Nat) := [(2, 2), (7, 7), (52, 59)]
def ws46_1 : List (Nat × Nat) := [(3, 4), (12, 21)]
def ws47_1 : List (Nat × Nat) := [(4, 30)]
def pln47 (id : Nat) : Plan :=
  match id with
  | 3 => (.take 0 (.take 1 (.take 2 (.take 3 (.take 4 (.take 5 (.take 6 .done)))))))
  | _ => .done
def plan47 (id : Nat) : Plan := pln47 id
def ws50_1 : List (Nat × Nat) := [(4, 4), (6, 6), (23, 30)]
def ws50_2 : List (Nat × Nat) := [(7, 7), (9, 11), (33, 47)]
def ws51_1 : List (Nat × Nat) := [(2, 2), (4, 4), (14, 25)]
def ws53_1 : List (Nat × Nat) := [(3, 5), (11, 63)]
def ws53_2 : List (Nat × Nat) := [(5, 5), (17, 33)]
def ws53_3 : List (Nat × Nat) := [(6, 6), (8, 8), (67, 78)]
def ws53_4 : List (Nat × Nat) := [(7, 7), (9, 10), (79, 99)]
def ws53_5 : List (Nat × Nat) := [(10, 10), (85, 95)]
def plan53 (id : Nat) : Plan :=
  match id with
  | 6 => (.take 0 (.take 1 (.take 2 (.take 3 (.take 4 (.take 5 (.take 6 (.take 7 (.take 8 (.take 9 (.take 10 (.take 11 (.take 12 (.take 13 (.take 14 .done)))))))))))))))
  | 8 => (.take 0 (.take 1 (.take 2 (.take 3 (.take 4 (.take 5 (.take 6 (.take 7 (.take 8 (.take 9 (.take 10 (.take 11 (.take 12 (.take 13 (.take 14 .done)))))))))))))))
  | 9 => (.take 1 (.take 2 (.take 3 (.take 5 (.take 6 (.take 7 (.take 8 (.take 11 (.take 12 (.take 13 (.two 0 (.two 4 (.one 9 (.one 10 (.one 14 (.take 15 .done)))) 9 (.one 4 (.one 10 (.one 14 (.take 15 .done))))) 9 (.one 0 (.one 4 (.one 10 (.one 14 (.take 15 .done))))))))))))))))
  | 20 => (.take 0 (.take 1 (.take 2 (.take 3 (.take 4 (.take 5 (.take 6 (.take 7 (.take 8 .done)))))))))
  | _ => .done
def pln53 (id : Nat) : Plan :=
  match id with
  | 6 => (.take 0 (.take 1 (.take 2 (.take 3 (.take 4 (.take 5 (.take 6 (.take 7 (.take 8 (.take 9 (.take 10 (.take 11 (.take 12 (.take 13 (.take 14 .done)))))))))))))))
  | 8 => (.take 0 (.take 1 (.take 2 (.take 3 (.take 4 (.take 5 (.take 6 (.take 7 (.take 8 (.take 9 (.take 10 (.take 11 (.take 12 (.take 13 (.take 14 .done)))))))))))))))
  | 9 => (.take 1 (.take 2 (.take 3 (.take 5 (.take 6 (.take 7 (.take 8 (.take 11 (.take 12 (.take 13 (.two 0 (.two 4 (.one 9 (.one 10 (.post 14 (.take 15 .done)))) 9 (.one 4 (.one 10 (.post 14 (.take 15 .done))))) 9 (.one 0 (.one 4 (.one 10 (.post 14 (.take 15 .done))))))))))))))))
  | 20 => (.take 0 (.take 1 (.take 2 (.take 3 (.take 4 (.take 5 (.take 6 (.take 7 (.take 8 .done)))))))))
  | _ => .done
def ws54_1 : List (Nat × Nat) := [(3, 5), (12, 24)]
def ws56_1 : List (Nat × Nat) := [(2, 5), (11, 75)]
def ws57_1 : List (Nat × Nat) := [(7, 8), (10, 10), (25, 41)]
def ws57_2 : List (Nat × Nat) := [(2, 4), (9, 9), (15, 15), (57, 76)]
def plan58 (id : Nat) : Plan :=
  match id with
  | 8 => (.take 1 (.take 2 (.take 5 (.take 6 (.take 8 (.take 12 (.one 0 (.take 3 (.take 4 (.one 7 (.one 9 (.take 10 (.take 11 (.one 13 (.take 14 (.take 15 (.take 16 (.take 17 (.take 18 .done)))))))))))))))))))
  | _ => .done
def pln58 (id : Nat) : Plan :=
  match id with
  | 8 => (.take 1 (.take 2 (.take 5 (.take 6 (.take 8 (.take 12 (.one 0 (.take 3 (.take 4 (.one 7 (.one 9 (.take 10 (.take 11 (.post 13 (.take 14 (.take 15 (.take 16 (.take 17 (.take 18 .done)))))))))))))))))))
  | _ => .done
def ws60_1 : List (Nat × Nat) := [(7, 7), (9, 9), (19, 28)]
def ws60_2 : List (Nat × Nat) := [(2, 4), (8, 8), (13, 13), (48, 77)]
def ws62_1 : List (Nat × Nat) := [(0, 0), (6, 6), (9, 16)]
def ws63_1 : List (Nat × Nat) := [(7, 7), (10, 23)]
def ws64_1 : List (Nat × Nat) := [(0, 0), (5, 39)]
def ws64_2 : List (Nat × Nat) := [(6, 6), (12, 28)]
def pln64 (id : Nat) : Plan :=
  match id with
  | 4 => (.take 0 (.take 1 (.take 2 (.take 3 (.take 4 (.take 5 (.take 6 (.take 7 (.take 8 (.take 9 (.take 10 (.take 11 (.take 12 (.take 13 (.take 14 .done)))))))))))))))
  | _ => .done
def plan64 (id : Nat) : Plan := pln64 id
def ws65_1 : List (Nat × Nat) := [(4, 5), (7, 9), (12, 40)]
def ws66_1 : List (Nat × Nat) := [(0, 0), (5, 5), (7, 7), (10, 20)]
def ws67_1 : List (Nat × Nat) := [(8, 8), (15, 31)]
def plan67 (id : Nat) : Plan :=
  match id with
  | 5 => (.take 0 (.take 1 (.take 2 (.take 3 (.take 4 (.take 5 (.take 6 (.take 7 (.take 8 (.take 9 (.take 10 (.sink 11))))))))))))
  | _ => .done
def pln67 (id : Nat) : Plan :=
  match id with
  | 5 => (.take 0 (.take 1 (.take 2 (.take 3 (.take 4 (.take 5 (.take 6 (.take 7 (.take 8 (.take 9 (.take 10 (.post 11 .done))))))))))))
  | _ => .done
def ws68_1 : List (Nat × Nat) := [(0, 0), (7, 9), (24, 37)]
def ws69_1 : List (Nat × Nat) := [(8, 8), (16, 29)]
def ws69_2 : List (Nat × Nat) := [(4, 5), (9, 10), (30, 55)]
def ws70_1 : List (Nat × Nat) := [(8, 12), (36, 71)]
def ws70_2 : List (Nat × Nat) := [(11, 12), (47, 70)]
def plan70 (id : Nat) : Plan :=
  match id with
  | 13 => (.take 0 (.take 1 (.take 2 (.take 3 (.take 4 (.take 5 (.take 6 (.take 7 (.take 8 (.take 9 (.take 10 (.take 11 (.take 12 (.take 13 (.take 14 (.sink 15))))))))))))))))
  | _ => .done
def pln70 (id : Nat) : Plan :=
  match id with
  | 13 => (.take 0 (.take 1 (.take 2 (.take 3 (.take 4 (.take 5 (.take 6 (.take 7 (.take 8 (.take 9 (.take 10 (.take 11 (.take 12 (.take 13 (.take 14 (.post 15 .done))))))))))))))))
  | _ => .done
def ws71_1 : List (Nat × Nat) := [(9, 13), (39, 74)]
def ws71_2 : List (Nat × Nat) := [(11, 13), (43, 65)]
def ws72_1 : List (Nat × Nat) := [(3, 8), (13, 35)]
def ws72_2 : List (Nat × Nat) := [(12, 12), (42, 55)]
def ws72_3 : List (Nat × Nat) := [(10, 12), (57, 94)]
def ws72_4 : List (Nat × Nat) := [(12, 12), (80, 93)]
def ws85_1 : List (Nat × Nat) := [(2, 5), (10, 59)]
def ws85_2 : List (Nat × Nat) := [(3, 3), (5, 5), (29, 53)]
def pln85 (id : Nat) : Plan :=
  match id with
  | 6 => (.take 0 (.take 1 (.take 2 (.take 3 (.take 4 (.take 5 (.take 6 (.take 7 (.take 8 (.take 9 .done))))))))))
  | 11 => (.take 0 (.take 1 (.take 2 (.take 3 (.take 4 (.take 5 (.take 6 (.take 7 (.take 8 (.take 9 .done))))))))))
  | _ => .done
def plan85 (id : Nat) : Plan := pln85 id
def ws87_1 : List (Nat × Nat) := [(7, 9), (13, 30)]
def ws88_1 : List (Nat × Nat) := [(2, 43)]
def ws91_1 : List (Nat × Nat) := [(5, 6), (103, 114)]
def ws91_2 : List (Nat × Nat) := [(5, 5), (7, 8), (117, 149)]
def ws91_3 : List (Nat × Nat) := [(8, 8), (122, 138)]
def ws91_4 : List (Nat × Nat) := [(5, 5), (9, 9), (157, 177)]
def ws91_5 : List (Nat × Nat) := [(5, 5), (11, 11), (186, 197)]
def ws91_6 : List (Nat × Nat) := [(5, 5), (12, 12), (198, 211)]
def ws91_7 : List (Nat × Nat) := [(16, 19), (55, 97)]
def ws91_8 : List (Nat × Nat) := [(18, 19), (71, 97)]
def plan91 (id : Nat) : Plan :=
  match id with
  | 26 => (.take 0 (.take 1 (.take 2 (.take 3 (.take 4 (.take 5 (.take 6 (.take 7 (.take 8 (.take 9 (.take 10 (.take 11 (.take 12 (.take 13 (.take 14 .done)))))))))))))))
  | 35 => (.take 0 (.take 1 (.take 2 (.take 3 (.take 4 (.take 5 (.take 6 (.take 7 (.take 8 (.take 9 (.take 10 (.take 11 (.take 12 (.take 13 (.one 14 (.take 15 .done))))))))))))))))
  | 4 => (.take 0 (.take 1 (.take 2 (.take 3 (.take 4 (.take 5 (.take 6 (.take 7 (.take 8 (.take 9 (.take 10 (.take 11 (.one 12 (.take 13 .done))))))))))))))
  | 10 => (.take 0 (.take 1 (.take 2 (.take 3 (.take 4 (.take 5 (.take 6 (.take 7 (.take 8 (.take 9 (.take 10 .done)))))))))))
  | _ => .done
def pln91 (id : Nat) : Plan :=
  match id with
  | 26 => (.take 0 (.take 1 (.take 2 (.take 3 (.take 4 (.take 5 (.take 6 (.take 7 (.take 8 (.take 9 (.take 10 (.take 11 (.take 12 (.take 13 (.take 14 .done)))))))))))))))
  | 35 => (.take 0 (.take 1 (.take 2 (.take 3 (.take 4 (.take 5 (.take 6 (.take 7 (.take 8 (.take 9 (.take 10 (.take 11 (.take 12 (.take 13 (.post 14 (.take 15 .done))))))))))))))))
  | 4 => (.take 0 (.take 1 (.take 2 (.take 3 (.take 4 (.take 5 (.take 6 (.take 7 (.take 8 (.take 9 (.take 10 (.take 11 (.post 12 (.take 13 .done))))))))))))))
  | 10 => (.take 0 (.take 1 (.take 2 (.take 3 (.take 4 (.take 5 (.take 6 (.take 7 (.take 8 (.take 9 (.take 10 .done)))))))))))
  | _ => .done
def pln95 (id : Nat) : Plan :=
  match id with
  | 10 => (.take 0 (.take 1 (.take 2 (.take 3 (.take 4 (.take 5 (.take 6 (.take 7 (.take 8 (.take 9 (.take 10 (.take 11 (.take 12 .done)))))))))))))
  | 4 => (.take 0 (.take 1 (.take 2 (.take 3 (.take 4 (.take 5 (.take 6 (.take 7 (.take 8 (.take 9 (.take 10 (.take 11 (.take 12 (.take 13 (.take 14 (.take 15 (.take 16 .done)))))))))))))))))
  | _ => .done
def plan95 (id : Nat) : Plan := pln95 id
def pln96 (id : Nat) : Plan :=
  match id with
  | 1 => (.take 0 (.take 1 (.take 2 (.take 3 (.take 4 (.take 5 (.take 6 (.take 7 (.take 8 (.take 9 (.take 10 (.take 11 (.take 12 (.take 13 (.take 14 (.take 15 .done))))))))))))))))
  | _ => .done
def plan96 (id : Nat) : Plan := pln96 id
def ws97_1 : List (Nat × Nat) := [(5, 6), (33, 42)]
def ws97_2 : List (Nat × Nat) := [(5, 5), (7, 9), (45, 87)]
def ws97_3 : List (Nat × Nat) := [(5, 5), (9, 9), (72, 87)]
def ws97_4 : List (Nat × Nat) := [(5, 5), (10, 11), (90, 112)]
def ws97_5 : List (Nat × Nat) := [(12, 12), (14, 14), (117, 126)]
def ws97_6 : List (Nat × Nat) := [(5, 5), (15, 16), (127, 157)]
def ws97_7 : List (Nat × Nat) := [(5, 5), (20, 23), (198, 244)]
def ws97_8 : List (Nat × Nat) := [(21, 23), (203, 236)]
def pln97 (id : Nat) : Plan :=
  match id with
  | 45 => (.take 0 (.take 1 (.take 2 (.take 3 (.take 4 (.take 5 (.take 6 (.take 7 (.take 8 (.take 9 (.take 10 (.take 11 (.take 12 (.take 13 (.take 14 (.take 15 (.take 16 (.take 17 (.take 18 (.take 19 (.take 20 (.take 21 (.take 22 (.take 23 (.take 24 (.take 25 (.take 26 .done)))))))))))))))))))))))))))
  | 56 => (.take 0 (.take 1 (.take 2 (.take 3 (.take 4 (.take 5 (.take 6 (.take 7 (.take 8 (.take 9 (.take 10 (.take 11 (.take 12 (.take 13 (.take 14 (.take 15 (.take 16 (.take 17 (.take 18 (.take 19 (.take 20 (.take 21 (.take 22 (.take 23 (.take 24 .done)))))))))))))))))))))))))
  | _ => .done
def plan97 (id : Nat) : Plan := pln97 id
def ws98_1 : List (Nat × Nat) := [(8, 8), (34, 46)]
def pln98 (id : Nat) : Plan :=
  match id with
  | 9 => (.take 0 (.take 1 (.take 2 (.take 3 (.take 4 (.take 5 (.take 6 (.one 7 (.take 8 (.take 9 .done))))))))))
  | _ => .done
def plan98 (id : Nat) : Plan := pln98 id
def ws101_1 : List (Nat × Nat) := [(2, 5), (10, 59)]
def ws101_2 : List (Nat × Nat) := [(3, 3), (5, 5), (29, 53)]
def pln101 (id : Nat) : Plan :=
  match id with
  | 6 => (.take 0 (.take 1 (.take 2 (.take 3 (.take 4 (.take 5 (.take 6 (.take 7 (.take 8 (.take 9 .done))))))))))
  | 11 => (.take 0 (.take 1 (.take 2 (.take 3 (.take 4 (.take 5 (.take 6 (.take 7 (.take 8 (.take 9 .done))))))))))
  | _ => .done
def plan101 (id : Nat) : Plan := pln101 id
def ws102_1 : List (Nat × Nat) := [(7, 9), (13, 30)]
def ws103_1 : List (Nat × Nat) := [(3, 4), (12, 23)]
def ws105_1 : List (Nat × Nat) := [(3, 4), (12, 23)]
def ws106_1 : List (Nat × Nat) := [(5, 8), (15, 34)]
def ws106_2 : List (Nat × Nat) := [(10, 11), (49, 63)]
def ws108_1 : List (Nat × Nat) := [(1, 3), (8, 133)]
def plan108 (id : Nat) : Plan :=
  match id with
  | 17 => (.take 0 (.take 1 (.take 2 (.take 3 (.take 4 (.take 5 (.take 6 (.take 7 (.take 8 (.take 9 (.take 10 (.take 11 (.one 12 (.take 13 (.take 14 .done)))))))))))))))
  | _ => .done
def pln108 (id : Nat) : Plan :=
  match id with
  | 17 => (.take 0 (.take 1 (.take 2 (.take 3 (.take 4 (.take 5 (.take 6 (.take 7 (.take 8 (.take 9 (.take 10 (.take 11 (.post 12 (.take 13 (.take 14 .done)))))))))))))))
  | _ => .done
def ws112_1 : List (Nat × Nat) := [(3, 58)]
def ws112_2 : List (Nat × Nat) := [(5, 5), (12, 28)]
def plan112 (id : Nat) : Plan :=
  match id with
  | 6 => (.take 0 (.take 1 (.take 2 (.take 3 (.take 4 (.take 5 (.take 6 (.take 7 (.take 8 (.take 9 (.take 10 (.take 11 (.take 12 (.take 13 (.take 14 .done)))))))))))))))
  | 8 => (.take 0 (.take 1 (.take 2 (.take 3 (.take 4 (.take 5 (.take 6 (.take 7 (.take 8 (.take 9 (.take 10 (.take 11 (.take 12 (.take 13 (.take 14 .done)))))))))))))))
  | 9 => (.take 1 (.take 2 (.take 3 (.take 5 (.take 6 (.take 7 (.take 8 (.take 11 (.take 12 (.take 13 (.two 0 (.two 4 (.one 9 (.one 10 (.one 14 (.take 15 .done)))) 9 (.one 4 (.one 10 (.one 14 (.take 15 .done))))) 9 (.one 0 (.one 4 (.one 10 (.one 14 (.take 15 .done))))))))))))))))
  | _ => .done
def pln112 (id : Nat) : Plan :=
  match id with
  | 6 => (.take 0 (.take 1 (.take 2 (.take 3 (.take 4 (.take 5 (.take 6 (.take 7 (.take 8 (.take 9 (.take 10 (.take 11 (.take 12 (.take 13 (.take 14 .done)))))))))))))))
  | 8 => (.take 0 (.take 1 (.take 2 (.take 3 (.take 4 (.take 5 (.take 6 (.take 7 (.take 8 (.take 9 (.take 10 (.take 11 (.take 12 (.take 13 (.take 14 .done)))))))))))))))
  | 9 => (.take 1 (.take 2 (.take 3 (.take 5 (.take 6 (.take 7 (.take 8 (.take 11 (.take 12 (.take 13 (.two 0 (.two 4 (.one 9 (.one 10 (.post 14 (.take 15 .done)))) 9 (.one 4 (.one 10 (.post 14 (.take 15 .done))))) 9 (.one 0 (.one 4 (.one 10 (.post 14 (.take 15 .done))))))))))))))))
  | _ => .done
def ws113_1 : List (Nat × Nat) := [(4, 18)]
def ws114_1 : List (Nat × Nat) := [(0, 0), (3, 9)]
def ws117_1 : List (Nat × Nat) := [(1, 3), (8, 133)]
def plan117 (id : Nat) : Plan :=
  match id with
  | 17 => (.take 0 (.take 1 (.take 2 (.take 3 (.take 4 (.take 5 (.take 6 (.take 7 (.take 8 (.take 9 (.take 10 (.take 11 (.one 12 (.take 13 (.take 14 .done)))))))))))))))
  | _ => .done
def pln117 (id : Nat) : Plan :=
  match id with
  | 17 => (.take 0 (.take 1 (.take 2 (.take 3 (.take 4 (.take 5 (.take 6 (.take 7 (.take 8 (.take 9 (.take 10 (.take 11 (.post 12 (.take 13 (.take 14 .done)))))))))))))))
  | _ => .done
def ws121_1 : List (Nat × Nat) := [(6, 7), (10, 48)]
def ws121_2 : List (Nat × Nat) := [(7, 7), (16, 48)]
def plan121 (id : Nat) : Plan :=
  match id with
  | 4 => (.take 0 (.take 1 (.take 2 (.take 3 (.take 4 (.take 5 (.take 6 (.take 7 (.take 8 (.take 9 (.take 10 (.take 11 (.take 12 (.one 13 (.take 14 .done)))))))))))))))
  | 6 => (.take 0 (.take 1 (.take 2 (.take 3 (.take 4 (.take 5 (.take 6 (.take 7 (.take 8 (.take 9 (.take 10 (.take 11 (.take 12 (.take 13 (.take 14 (.one 15 (.take 16 (.sink 17))))))))))))))))))
  | _ => .done
def pln121 (id : Nat) : Plan :=
  match id with
  | 4 => (.take 0 (.take 1 (.take 2 (.take 3 (.take 4 (.take 5 (.take 6 (.take 7 (.take 8 (.take 9 (.take 10 (.take 11 (.take 12 (.post 13 (.take 14 .done)))))))))))))))
  | 6 => (.take 0 (.take 1 (.take 2 (.take 3 (.take 4 (.take 5 (.take 6 (.take 7 (.take 8 (.take 9 (.take 10 (.take 11 (.take 12 (.take 13 (.take 14 (.one 15 (.take 16 (.post 17 .done))))))))))))))))))
  | _ => .done
def ws122_1 : List (Nat × Nat) := [(9, 9), (18, 26)]
def ws122_2 : List (Nat × Nat) := [(10, 10), (29, 55)]
def plan122 (id : Nat) : Plan :=
  match id with
  | 10 => (.take 0 (.take 1 (.take 2 (.take 3 (.take 4 (.take 5 (.take 6 (.take 7 (.take 8 (.take 9 (.take 10 (.take 11 (.take 12 (.take 13 (.take 14 (.take 15 (.take 16 (.one 17 (.take 18 (.sink 19))))))))))))))))))))
  | _ => .done
def pln122 (id : Nat) : Plan :=
  match id with
  | 10 => (.take 0 (.take 1 (.take 2 (.take 3 (.take 4 (.take 5 (.take 6 (.take 7 (.take 8 (.take 9 (.take 10 (.take 11 (.take 12 (.take 13 (.take 14 (.take 15 (.take 16 (.one 17 (.take 18 (.post 19 .done))))))))))))))))))))
  | _ => .done
def ws123_1 : List (Nat × Nat) := [(9, 10), (26, 64)]
def plan123 (id : Nat) : Plan :=
  match id with
  | 10 => (.take 0 (.take 1 (.take 2 (.take 3 (.take 4 (.take 5 (.take 6 (.take 7 (.take 8 (.take 9 (.take 10 (.take 11 (.take 12 (.take 13 (.take 14 (.take 15 (.take 16 (.one 17 (.take 18 (.sink 19))))))))))))))))))))
  | _ => .done
def pln123 (id : Nat) : Plan :=
  match id with
  | 10 => (.take 0 (.take 1 (.take 2 (.take 3 (.take 4 (.take 5 (.take 6 (.take 7 (.take 8 (.take 9 (.take 10 (.take 11 (.take 12 (.take 13 (.take 14 (.take 15 (.take 16 (.one 17 (.take 18 (.post 19 .done))))))))))))))))))))
  | _ => .done
def ws125_1 : List (Nat × Nat) := [(6, 7), (11, 31)]
def plan125 (id : Nat) : Plan :=
  match id with
  | 3 => (.take 0 (.take 1 (.take 2 (.take 3 (.take 4 (.take 5 (.take 6 (.take 7 (.take 8 (.take 9 (.take 10 (.take 11 (.take 12 (.one 13 (.take 14 (.sink 15))))))))))))))))
  | _ => .done
def pln125 (id : Nat) : Plan :=
  match id with
  | 3 => (.take 0 (.take 1 (.take 2 (.take 3 (.take 4 (.take 5 (.take 6 (.take 7 (.take 8 (.take 9 (.take 10 (.take 11 (.take 12 (.one 13 (.take 14 (.post 15 .done))))))))))))))))
  | _ => .done
def ws126_1 : List (Nat × Nat) := [(6, 10), (13, 132)]
def ws126_2 : List (Nat × Nat) := [(7, 7), (17, 34)]
def ws126_3 : List (Nat × Nat) := [(9, 9), (64, 94)]
def ws126_4 : List (Nat × Nat) := [(10, 10), (101, 132)]
def plan126 (id : Nat) : Plan :=
  match id with
  | 5 => (.take 0 (.take 1 (.take 2 (.take 3 (.take 4 (.take 5 (.take 6 (.take 7 (.take 8 (.take 9 (.take 10 (.take 11 (.take 12 (.one 13 (.take 14 (.take 15 .done))))))))))))))))
  | 11 => (.take 0 (.take 1 (.take 2 (.take 3 (.take 4 (.take 5 (.take 6 (.take 7 (.take 8 (.take 9 (.take 10 (.take 11 (.take 12 (.take 13 (.take 14 (.one 15 (.take 16 (.sink 17))))))))))))))))))
  | 16 => (.take 0 (.take 1 (.take 2 (.take 3 (.take 4 (.take 5 (.take 6 (.take 7 (.take 8 (.one 9 (.take 10 .done)))))))))))
  | 17 => (.take 0 (.take 1 (.take 2 (.take 3 (.take 4 (.take 5 (.take 6 (.take 7 (.take 8 (.take 9 (.take 10 (.take 11 (.take 12 (.take 13 (.take 14 (.one 15 (.take 16 (.sink 17))))))))))))))))))
  | 22 => (.take 0 (.take 1 (.take 2 (.take 3 (.take 4 (.take 5 (.take 6 (.take 7 (.take 8 (.one 9 (.take 10 .done)))))))))))
  | 23 => (.take 0 (.take 1 (.take 2 (.take 3 (.take 4 (.take 5 (.take 6 (.take 7 (.take 8 (.take 9 (.take 10 (.take 11 (.take 12 (.take 13 (.take 14 (.one 15 (.take 16 (.sink 17))))))))))))))))))
  | _ => .done
def pln126 (id : Nat) : Plan :=
  match id with
  | 5 => (.take 0 (.take 1 (.take 2 (.take 3 (.take 4 (.take 5 (.take 6 (.take 7 (.take 8 (.take 9 (.take 10 (.take 11 (.take 12 (.post 13 (.take 14 (.take 15 .done))))))))))))))))
  | 11 => (.take 0 (.take 1 (.take 2 (.take 3 (.take 4 (.take 5 (.take 6 (.take 7 (.take 8 (.take 9 (.take 10 (.take 11 (.take 12 (.take 13 (.take 14 (.one 15 (.take 16 (.post 17 .done))))))))))))))))))
  | 16 => (.take 0 (.take 1 (.take 2 (.take 3 (.take 4 (.take 5 (.take 6 (.take 7 (.take 8 (.post 9 (.take 10 .done)))))))))))
  | 17 => (.take 0 (.take 1 (.take 2 (.take 3 (.take 4 (.take 5 (.take 6 (.take 7 (.take 8 (.take 9 (.take 10 (.take 11 (.take 12 (.take 13 (.take 14 (.one 15 (.take 16 (.post 17 .done))))))))))))))))))
  | 22 => (.take 0 (.take 1 (.take 2 (.take 3 (.take 4 (.take 5 (.take 6 (.take 7 (.take 8 (.post 9 (.take 10 .done)))))))))))
  | 23 => (.take 0 (.take 1 (.take 2 (.take 3 (.take 4 (.take 5 (.take 6 (.take 7 (.take 8 (.take 9 (.take 10 (.take 11 (.take 12 (.take 13 (.take 14 (.one 15 (.take 16 (.post 17 .done))))))))))))))))))
  | _ => .done
def ws127_1 : List (Nat × Nat) := [(9, 10), (29, 82)]
def ws127_2 : List (Nat × Nat) := [(9, 9), (29, 45)]
def ws127_3 : List (Nat × Nat) := [(10, 10), (46, 61)]
def plan127 (id : Nat) : Plan :=
  match id with
  | 1 => (.take 0 (.take 1 (.take 2 (.take 3 (.take 4 (.take 5 (.take 6 (.take 7 (.take 8 (.take 9 (.take 10 (.take 11 (.take 12 (.one 13 (.take 14 (.sink 15))))))))))))))))
  | 3 => (.take 0 (.take 1 (.take 2 (.take 3 (.take 4 (.take 5 (.take 6 (.take 7 (.take 8 (.take 9 (.take 10 (.take 11 (.one 12 (.take 13 (.take 14 .done)))))))))))))))
  | 5 => (.take 0 (.take 1 (.take 2 (.take 3 (.take 4 (.take 5 (.take 6 (.take 7 (.take 8 (.take 9 (.take 10 (.take 11 (.one 12 (.take 13 .done))))))))))))))
  | 8 => (.take 0 (.take 1 (.take 2 (.take 3 (.take 4 (.take 5 (.take 6 (.take 7 (.take 8 (.take 9 (.take 10 (.take 11 (.take 12 (.one 13 (.take 14 (.sink 15))))))))))))))))
  | _ => .done
def pln127 (id : Nat) : Plan :=
  match id with
  | 1 => (.take 0 (.take 1 (.take 2 (.take 3 (.take 4 (.take 5 (.take 6 (.take 7 (.take 8 (.take 9 (.take 10 (.take 11 (.take 12 (.one 13 (.take 14 (.post 15 .done))))))))))))))))
  | 3 => (.take 0 (.take 1 (.take 2 (.take 3 (.take 4 (.take 5 (.take 6 (.take 7 (.take 8 (.take 9 (.take 10 (.take 11 (.post 12 (.take 13 (.take 14 .done)))))))))))))))
  | 5 => (.take 0 (.take 1 (.take 2 (.take 3 (.take 4 (.take 5 (.take 6 (.take 7 (.take 8 (.take 9 (.take 10 (.take 11 (.post 12 (.take 13 .done))))))))))))))
  | 8 => (.take 0 (.take 1 (.take 2 (.take 3 (.take 4 (.take 5 (.take 6 (.take 7 (.take 8 (.take 9 (.take 10 (.take 11 (.take 12 (.one 13 (.take 14 (.post 15 .done))))))))))))))))
  | _ => .done
def ws128_1 : List (Nat × Nat) := [(10, 10), (30, 45)]
def ws128_2 : List (Nat × Nat) := [(11, 11), (46, 62)]
def ws128_3 : List (Nat × Nat) := [(10, 11), (99, 152)]
def ws128_4 : List (Nat × Nat) := [(10, 10), (99, 114)]
def ws128_5 : List (Nat × Nat) := [(11, 11), (115, 131)]
def plan128 (id : Nat) : Plan :=
  match id with
  | 1 => (.take 0 (.take 1 (.take 2 (.take 3 (.take 4 (.take 5 (.take 6 (.take 7 (.take 8 (.take 9 (.take 10 (.take 11 (.take 12 (.one 13 (.take 14 (.sink 15))))))))))))))))
  | 3 => (.take 0 (.take 1 (.take 2 (.take 3 (.take 4 (.take 5 (.take 6 (.take 7 (.take 8 (.take 9 (.take 10 (.take 11 (.one 12 (.take 13 .done))))))))))))))
  | 5 => (.take 0 (.take 1 (.take 2 (.take 3 (.take 4 (.take 5 (.take 6 (.take 7 (.take 8 (.take 9 (.take 10 (.take 11 (.one 12 (.take 13 (.take 14 .done)))))))))))))))
  | 8 => (.take 0 (.take 1 (.take 2 (.take 3 (.take 4 (.take 5 (.take 6 (.take 7 (.take 8 (.take 9 (.take 10 (.take 11 (.take 12 (.one 13 (.take 14 (.sink 15))))))))))))))))
  | 10 => (.take 0 (.take 1 (.take 2 (.take 3 (.take 4 (.take 5 (.take 6 (.take 7 (.take 8 (.take 9 (.take 10 (.take 11 (.take 12 (.one 13 (.take 14 (.sink 15))))))))))))))))
  | 13 => (.take 0 (.take 1 (.take 2 (.take 3 (.take 4 (.take 5 (.take 6 (.take 7 (.take 8 (.take 9 (.take 10 (.take 11 (.one 12 (.take 13 .done))))))))))))))
  | 15 => (.take 0 (.take 1 (.take 2 (.take 3 (.take 4 (.take 5 (.take 6 (.take 7 (.take 8 (.take 9 (.take 10 (.take 11 (.one 12 (.take 13 (.take 14 .done)))))))))))))))
  | 18 => (.take 0 (.take 1 (.take 2 (.take 3 (.take 4 (.take 5 (.take 6 (.take 7 (.take 8 (.take 9 (.take 10 (.take 11 (.take 12 (.one 13 (.take 14 (.sink 15))))))))))))))))
  | 21 => (.take 0 (.take 1 (.take 2 (.take 3 (.take 4 (.take 5 (.take 6 (.take 7 (.take 8 (.take 9 (.take 10 (.take 11 (.take 12 (.one 13 (.take 14 (.sink 15))))))))))))))))
  | _ => .done
def pln128 (id : Nat) : Plan :=
  match id with
  | 1 => (.take 0 (.take 1 (.take 2 (.take 3 (.take 4 (.take 5 (.take 6 (.take 7 (.take 8 (.take 9 (.take 10 (.take 11 (.take 12 (.one 13 (.take 14 (.post 15 .done))))))))))))))))
  | 3 => (.take 0 (.take 1 (.take 2 (.take 3 (.take 4 (.take 5 (.take 6 (.take 7 (.take 8 (.take 9 (.take 10 (.take 11 (.post 12 (.take 13 .done))))))))))))))
  | 5 => (.take 0 (.take 1 (.take 2 (.take 3 (.take 4 (.take 5 (.take 6 (.take 7 (.take 8 (.take 9 (.take 10 (.take 11 (.post 12 (.take 13 (.take 14 .done)))))))))))))))
  | 8 => (.take 0 (.take 1 (.take 2 (.take 3 (.take 4 (.take 5 (.take 6 (.take 7 (.take 8 (.take 9 (.take 10 (.take 11 (.take 12 (.one 13 (.take 14 (.post 15 .done))))))))))))))))
  | 10 => (.take 0 (.take 1 (.take 2 (.take 3 (.take 4 (.take 5 (.take 6 (.take 7 (.take 8 (.take 9 (.take 10 (.take 11 (.take 12 (.one 13 (.take 14 (.post 15 .done))))))))))))))))
  | 13 => (.take 0 (.take 1 (.take 2 (.take 3 (.take 4 (.take 5 (.take 6 (.take 7 (.take 8 (.take 9 (.take 10 (.take 11 (.post 12 (.take 13 .done))))))))))))))
  | 15 => (.take 0 (.take 1 (.take 2 (.take 3 (.take 4 (.take 5 (.take 6 (.take 7 (.take 8 (.take 9 (.take 10 (.take 11 (.post 12 (.take 13 (.take 14 .done)))))))))))))))
  | 18 => (.take 0 (.take 1 (.take 2 (.take 3 (.take 4 (.take 5 (.take 6 (.take 7 (.take 8 (.take 9 (.take 10 (.take 11 (.take 12 (.one 13 (.take 14 (.post 15 .done))))))))))))))))
  | 21 => (.take 0 (.take 1 (.take 2 (.take 3 (.take 4 (.take 5 (.take 6 (.take 7 (.take 8 (.take 9 (.take 10 (.take 11 (.take 12 (.one 13 (.take 14 (.post 15 .done))))))))))))))))
  | _ => .done
def ws133_1 : List (Nat × Nat) := [(6, 7), (10, 48)]
def ws133_2 : List (Nat × Nat) := [(7, 7), (16, 48)]
def plan133 (id : Nat) : Plan :=
  match id with
  | 4 => (.take 0 (.take 1 (.take 2 (.take 3 (.take 4 (.take 5 (.take 6 (.take 7 (.take 8 (.take 9 (.take 10 (.take 11 (.take 12 (.one 13 (.take 14 .done)))))))))))))))
  | 6 => (.take 0 (.take 1 (.take 2 (.take 3 (.take 4 (.take 5 (.take 6 (.take 7 (.take 8 (.take 9 (.take 10 (.take 11 (.take 12 (.take 13 (.take 14 (.one 15 (.take 16 (.sink 17))))))))))))))))))
  | _ => .done
def pln133 (id : Nat) : Plan :=
  match id with
  | 4 => (.take 0 (.take 1 (.take 2 (.take 3 (.take 4 (.take 5 (.take 6 (.take 7 (.take 8 (.take 9 (.take 10 (.take 11 (.take 12 (.post 13 (.take 14 .done)))))))))))))))
  | 6 => (.take 0 (.take 1 (.take 2 (.take 3 (.take 4 (.take 5 (.take 6 (.take 7 (.take 8 (.take 9 (.take 10 (.take 11 (.take 12 (.take 13 (.take 14 (.one 15 (.take 16 (.post 17 .done))))))))))))))))))
  | _ => .done
def ws134_1 : List (Nat × Nat) := [(9, 9), (18, 26)]
def ws134_2 : List (Nat × Nat) := [(10, 10), (29, 55)]
def plan134 (id : Nat) : Plan :=
  match id with
  | 10 => (.take 0 (.take 1 (.take 2 (.take 3 (.take 4 (.take 5 (.take 6 (.take 7 (.take 8 (.take 9 (.take 10 (.take 11 (.take 12 (.take 13 (.take 14 (.take 15 (.take 16 (.one 17 (.take 18 (.sink 19))))))))))))))))))))
  | _ => .done
def pln134 (id : Nat) : Plan :=
  match id with
  | 10 => (.take 0 (.take 1 (.take 2 (.take 3 (.take 4 (.take 5 (.take 6 (.take 7 (.take 8 (.take 9 (.take 10 (.take 11 (.take 12 (.take 13 (.take 14 (.take 15 (.take 16 (.one 17 (.take 18 (.post 19 .done))))))))))))))))))))
  | _ => .done
def ws135_1 : List (Nat × Nat) := [(9, 10), (26, 64)]
def plan135 (id : Nat) : Plan :=
  match id with
  | 10 => (.take 0 (.take 1 (.take 2 (.take 3 (.take 4 (.take 5 (.take 6 (.take 7 (.take 8 (.take 9 (.take 10 (.take 11 (.take 12 (.take 13 (.take 14 (.take 15 (.take 16 (.one 17 (.take 18 (.sink 19))))))))))))))))))))
  | _ => .done
def pln135 (id : Nat) : Plan :=
  match id with
  | 10 => (.take 0 (.take 1 (.take 2 (.take 3 (.take 4 (.take 5 (.take 6 (.take 7 (.take 8 (.take 9 (.take 10 (.take 11 (.take 12 (.take 13 (.take 14 (.take 15 (.take 16 (.one 17 (.take 18 (.post 19 .done))))))))))))))))))))
  | _ => .done
def ws137_1 : List (Nat × Nat) := [(6, 7), (11, 31)]
def plan137 (id : Nat) : Plan :=
  match id with
  | 3 => (.take 0 (.take 1 (.take 2 (.take 3 (.take 4 (.take 5 (.take 6 (.take 7 (.take 8 (.take 9 (.take 10 (.take 11 (.take 12 (.one 13 (.take 14 (.sink 15))))))))))))))))
  | _ => .done
def pln137 (id : Nat) : Plan :=
  match id with
  | 3 => (.take 0 (.take 1 (.take 2 (.take 3 (.take 4 (.take 5 (.take 6 (.take 7 (.take 8 (.take 9 (.take 10 (.take 11 (.take 12 (.one 13 (.take 14 (.post 15 .done))))))))))))))))
  | _ => .done
def ws138_1 : List (Nat × Nat) := [(6, 10), (13, 132)]
def ws138_2 : List (Nat × Nat) := [(7, 7), (17, 34)]
def ws138_3 : List (Nat × Nat) := [(9, 9), (64, 94)]
def ws138_4 : List (Nat × Nat) := [(10, 10), (101, 132)]
def plan138 (id : Nat) : Plan :=
  match id with
  | 5 => (.take 0 (.take 1 (.take 2 (.take 3 (.take 4 (.take 5 (.take 6 (.take 7 (.take 8 (.take 9 (.take 10 (.take 11 (.take 12 (.one 13 (.take 14 (.take 15 .done))))))))))))))))
  | 11 => (.take 0 (.take 1 (.take 2 (.take 3 (.take 4 (.take 5 (.take 6 (.take 7 (.take 8 (.take 9 (.take 10 (.take 11 (.take 12 (.take 13 (.take 14 (.one 15 (.take 16 (.sink 17))))))))))))))))))
  | 16 => (.take 0 (.take 1 (.take 2 (.take 3 (.take 4 (.take 5 (.take 6 (.take 7 (.take 8 (.one 9 (.take 10 .done)))))))))))
  | 17 => (.take 0 (.take 1 (.take 2 (.take 3 (.take 4 (.take 5 (.take 6 (.take 7 (.take 8 (.take 9 (.take 10 (.take 11 (.take 12 (.take 13 (.take 14 (.one 15 (.take 16 (.sink 17))))))))))))))))))
  | 22 => (.take 0 (.take 1 (.take 2 (.take 3 (.take 4 (.take 5 (.take 6 (.take 7 (.take 8 (.one 9 (.take 10 .done)))))))))))
  | 23 => (.take 0 (.take 1 (.take 2 (.take 3 (.take 4 (.take 5 (.take 6 (.take 7 (.take 8 (.take 9 (.take 10 (.take 11 (.take 12 (.take 13 (.take 14 (.one 15 (.take 16 (.sink 17))))))))))))))))))
  | _ => .done
def pln138 (id : Nat) : Plan :=
  match id with
  | 5 => (.take 0 (.take 1 (.take 2 (.take 3 (.take 4 (.take 5 (.take 6 (.take 7 (.take 8 (.take 9 (.take 10 (.take 11 (.take 12 (.post 13 (.take 14 (.take 15 .done))))))))))))))))
  | 11 => (.take 0 (.take 1 (.take 2 (.take 3 (.take 4 (.take 5 (.take 6 (.take 7 (.take 8 (.take 9 (.take 10 (.take 11 (.take 12 (.take 13 (.take 14 (.one 15 (.take 16 (.post 17 .done))))))))))))))))))
  | 16 => (.take 0 (.take 1 (.take 2 (.take 3 (.take 4 (.take 5 (.take 6 (.take 7 (.take 8 (.post 9 (.take 10 .done)))))))))))
  | 17 => (.take 0 (.take 1 (.take 2 (.take 3 (.take 4 (.take 5 (.take 6 (.take 7 (.take 8 (.take 9 (.take 10 (.take 11 (.take 12 (.take 13 (.take 14 (.one 15 (.take 16 (.post 17 .done))))))))))))))))))
  | 22 => (.take 0 (.take 1 (.take 2 (.take 3 (.take 4 (.take 5 (.take 6 (.take 7 (.take 8 (.post 9 (.take 10 .done)))))))))))
  | 23 => (.take 0 (.take 1 (.take 2 (.take 3 (.take 4 (.take 5 (.take 6 (.take 7 (.take 8 (.take 9 (.take 10 (.take 11 (.take 12 (.take 13 (.take 14 (.one 15 (.take 16 (.post 17 .done))))))))))))))))))
  | _ => .done
def ws139_1 : List (Nat × Nat) := [(9, 10), (29, 82)]
def ws139_2 : List (Nat × Nat) := [(9, 9), (29, 45)]
def ws139_3 : List (Nat × Nat) := [(10, 10), (46, 61)]
def plan139 (id : Nat) : Plan :=
  match id with
  | 1 => (.take 0 (.take 1 (.take 2 (.take 3 (.take 4 (.take 5 (.take 6 (.take 7 (.take 8 (.take 9 (.take 10 (.take 11 (.take 12 (.one 13 (.take 14 (.sink 15))))))))))))))))
  | 3 => (.take 0 (.take 1 (.take 2 (.take 3 (.take 4 (.take 5 (.take 6 (.take 7 (.take 8 (.take 9 (.take 10 (.take 11 (.one 12 (.take 13 (.take 14 .done)))))))))))))))
  | 5 => (.take 0 (.take 1 (.take 2 (.take 3 (.take 4 (.take 5 (.take 6 (.take 7 (.take 8 (.take 9 (.take 10 (.take 11 (.one 12 (.take 13 .done))))))))))))))
  | 8 => (.take 0 (.take 1 (.take 2 (.take 3 (.take 4 (.take 5 (.take 6 (.take 7 (.take 8 (.take 9 (.take 10 (.take 11 (.take 12 (.one 13 (.take 14 (.sink 15))))))))))))))))
  | _ => .done
def pln139 (id : Nat) : Plan :=
  match id with
  | 1 => (.take 0 (.take 1 (.take 2 (.take 3 (.take 4 (.take 5 (.take 6 (.take 7 (.take 8 (.take 9 (.take 10 (.take 11 (.take 12 (.one 13 (.take 14 (.post 15 .done))))))))))))))))
  | 3 => (.take 0 (.take 1 (.take 2 (.take 3 (.take 4 (.take 5 (.take 6 (.take 7 (.take 8 (.take 9 (.take 10 (.take 11 (.post 12 (.take 13 (.take 14 .done)))))))))))))))
  | 5 => (.take 0 (.take 1 (.take 2 (.take 3 (.take 4 (.take 5 (.take 6 (.take 7 (.take 8 (.take 9 (.take 10 (.take 11 (.post 12 (.take 13 .done))))))))))))))
  | 8 => (.take 0 (.take 1 (.take 2 (.take 3 (.take 4 (.take 5 (.take 6 (.take 7 (.take 8 (.take 9 (.take 10 (.take 11 (.take 12 (.one 13 (.take 14 (.post 15 .done))))))))))))))))
  | _ => .done
def ws140_1 : List (Nat × Nat) := [(10, 10), (30, 45)]
def ws140_2 : List (Nat × Nat) := [(11, 11), (46, 62)]
def ws140_3 : List (Nat × Nat) := [(10, 11), (99, 152)]
def ws140_4 : List (Nat × Nat) := [(10, 10), (99, 114)]
def ws140_5 : List (Nat × Nat) := [(11, 11), (115, 131)]
def plan140 (id : Nat) : Plan :=
  match id with
  | 1 => (.take 0 (.take 1 (.take 2 (.take 3 (.take 4 (.take 5 (.take 6 (.take 7 (.take 8 (.take 9 (.take 10 (.take 11 (.take 12 (.one 13 (.take 14 (.sink 15))))))))))))))))
  | 3 => (.take 0 (.take 1 (.take 2 (.take 3 (.take 4 (.take 5 (.take 6 (.take 7 (.take 8 (.take 9 (.take 10 (.take 11 (.one 12 (.take 13 .done))))))))))))))
  | 5 => (.take 0 (.take 1 (.take 2 (.take 3 (.take 4 (.take 5 (.take 6 (.take 7 (.take 8 (.take 9 (.take 10 (.take 11 (.one 12 (.take 13 (.take 14 .done)))))))))))))))
  | 8 => (.take 0 (.take 1 (.take 2 (.take 3 (.take 4 (.take 5 (.take 6 (.take 7 (.take 8 (.take 9 (.take 10 (.take 11 (.take 12 (.one 13 (.take 14 (.sink 15))))))))))))))))
  | 10 => (.take 0 (.take 1 (.take 2 (.take 3 (.take 4 (.take 5 (.take 6 (.take 7 (.take 8 (.take 9 (.take 10 (.take 11 (.take 12 (.one 13 (.take 14 (.sink 15))))))))))))))))
  | 13 => (.take 0 (.take 1 (.take 2 (.take 3 (.take 4 (.take 5 (.take 6 (.take 7 (.take 8 (.take 9 (.take 10 (.take 11 (.one 12 (.take 13 .done))))))))))))))
  | 15 => (.take 0 (.take 1 (.take 2 (.take 3 (.take 4 (.take 5 (.take 6 (.take 7 (.take 8 (.take 9 (.take 10 (.take 11 (.one 12 (.take 13 (.take 14 .done)))))))))))))))
  | 18 => (.take 0 (.take 1 (.take 2 (.take 3 (.take 4 (.take 5 (.take 6 (.take 7 (.take 8 (.take 9 (.take 10 (.take 11 (.take 12 (.one 13 (.take 14 (.sink 15))))))))))))))))
  | 21 => (.take 0 (.take 1 (.take 2 (.take 3 (.take 4 (.take 5 (.take 6 (.take 7 (.take 8 (.take 9 (.take 10 (.take 11 (.take 12 (.one 13 (.take 14 (.sink 15))))))))))))))))
  | _ => .done
def pln140 (id : Nat) : Plan :=
  match id with
  | 1 => (.take 0 (.take 1 (.take 2 (.take 3 (.take 4 (.take 5 (.take 6 (.take 7 (.take 8 (.take 9 (.take 10 (.take 11 (.take 12 (.one 13 (.take 14 (.post 15 .done))))))))))))))))
  | 3 => (.take 0 (.take 1 (.take 2 (.take 3 (.take 4 (.take 5 (.take 6 (.take 7 (.take 8 (.take 9 (.take 10 (.take 11 (.post 12 (.take 13 .done))))))))))))))
  | 5 => (.take 0 (.take 1 (.take 2 (.take 3 (.take 4 (.take 5 (.take 6 (.take 7 (.take 8 (.take 9 (.take 10 (.take 11 (.post 12 (.take 13 (.take 14 .done)))))))))))))))
  | 8 => (.take 0 (.take 1 (.take 2 (.take 3 (.take 4 (.take 5 (.take 6 (.take 7 (.take 8 (.take 9 (.take 10 (.take 11 (.take 12 (.one 13 (.take 14 (.post 15 .done))))))))))))))))
  | 10 => (.take 0 (.take 1 (.take 2 (.take 3 (.take 4 (.take 5 (.take 6 (.take 7 (.take 8 (.take 9 (.take 10 (.take 11 (.take 12 (.one 13 (.take 14 (.post 15 .done))))))))))))))))
  | 13 => (.take 0 (.take 1 (.take 2 (.take 3 (.take 4 (.take 5 (.take 6 (.take 7 (.take 8 (.take 9 (.take 10 (.take 11 (.post 12 (.take 13 .done))))))))))))))
  | 15 => (.take 0 (.take 1 (.take 2 (.take 3 (.take 4 (.take 5 (.take 6 (.take 7 (.take 8 (.take 9 (.take 10 (.take 11 (.post 12 (.take 13 (.take 14 .done)))))))))))))))
  | 18 => (.take 0 (.take 1 (.take 2 (.take 3 (.take 4 (.take 5 (.take 6 (.take 7 (.take 8 (.take 9 (.take 10 (.take 11 (.take 12 (.one 13 (.take 14 (.post 15 .done))))))))))))))))
  | 21 => (.take 0 (.take 1 (.take 2 (.take 3 (.take 4 (.take 5 (.take 6 (.take 7 (.take 8 (.take 9 (.take 10 (.take 11 (.take 12 (.one 13 (.take 14 (.post 15 .done))))))))))))))))
  | _ => .done
def ws142_1 : List (Nat × Nat) := [(4, 6), (20, 57)]
def ws142_2 : List (Nat × Nat) := [(4, 4), (7, 10), (60, 113)]
def pln142 (id : Nat) : Plan :=
  match id with
  | 9 => (.take 0 (.take 1 (.take 2 (.take 3 (.take 4 (.take 5 (.take 6 (.take 7 (.take 8 (.take 9 (.take 10 (.take 11 (.take 12 (.take 13 (.take 14 (.take 15 (.take 16 (.take 17 (.take 18 (.take 19 .done))))))))))))))))))))
  | 18 => (.take 0 (.take 1 (.take 2 (.take 3 (.take 4 (.take 5 (.take 6 (.take 7 (.take 8 (.take 9 (.take 10 (.take 11 (.take 12 (.take 13 (.take 14 (.take 15 (.take 16 (.take 17 (.take 18 (.take 19 .done))))))))))))))))))))
  | _ => .done
def plan142 (id : Nat) : Plan := pln142 id
def ws143_1 : List (Nat × Nat) := [(4, 6), (16, 53)]
def ws143_2 : List (Nat × Nat) := [(4, 4), (7, 10), (56, 98)]
def pln143 (id : Nat) : Plan :=
  match id with
  | 9 => (.take 0 (.take 1 (.take 2 (.take 3 (.take 4 (.take 5 (.take 6 (.take 7 (.take 8 (.take 9 (.take 10 (.take 11 (.take 12 (.take 13 (.take 14 (.take 15 (.take 16 (.take 17 (.take 18 (.take 19 .done))))))))))))))))))))
  | _ => .done
def plan143 (id : Nat) : Plan := pln143 id
def ws144_1 : List (Nat × Nat) := [(8, 9), (11, 75)]
def plan144 (id : Nat) : Plan :=
  match id with
  | 3 => (.take 0 (.take 1 (.take 2 (.take 3 (.take 4 (.take 5 (.take 6 (.take 7 (.take 8 (.take 9 (.take 10 (.take 11 (.take 12 (.take 13 (.take 14 (.take 15 (.take 16 (.take 17 (.one 18 (.take 19 .done))))))))))))))))))))
  | 5 => (.take 0 (.take 1 (.take 2 (.take 3 (.take 4 (.take 5 (.take 6 (.take 7 (.take 8 (.take 9 (.take 10 (.take 11 (.one 12 (.take 13 .done))))))))))))))
  | 6 => (.take 0 (.take 1 (.take 2 (.take 3 (.take 4 (.take 5 (.take 6 (.take 7 (.take 8 (.take 9 (.take 10 (.take 11 (.take 12 (.take 13 (.take 14 (.take 15 (.take 16 (.take 17 (.take 18 (.take 19 (.take 20 (.one 21 (.take 22 (.sink 23))))))))))))))))))))))))
  | _ => .done
def pln144 (id : Nat) : Plan :=
  match id with
  | 3 => (.take 0 (.take 1 (.take 2 (.take 3 (.take 4 (.take 5 (.take 6 (.take 7 (.take 8 (.take 9 (.take 10 (.take 11 (.take 12 (.take 13 (.take 14 (.take 15 (.take 16 (.take 17 (.post 18 (.take 19 .done))))))))))))))))))))
  | 5 => (.take 0 (.take 1 (.take 2 (.take 3 (.take 4 (.take 5 (.take 6 (.take 7 (.take 8 (.take 9 (.take 10 (.take 11 (.post 12 (.take 13 .done))))))))))))))
  | 6 => (.take 0 (.take 1 (.take 2 (.take 3 (.take 4 (.take 5 (.take 6 (.take 7 (.take 8 (.take 9 (.take 10 (.take 11 (.take 12 (.take 13 (.take 14 (.take 15 (.take 16 (.take 17 (.take 18 (.take 19 (.take 20 (.one 21 (.take 22 (.post 23 .done))))))))))))))))))))))))
  | _ => .done
def plan146 (id : Nat) : Plan :=
  match id with
  | 1 => (.take 0 (.take 1 (.take 2 (.take 3 (.take 4 (.take 5 (.take 6 (.take 7 (.take 8 (.sink 9))))))))))
  | 2 => (.take 0 (.take 1 (.take 2 (.take 3 (.take 4 (.take 5 (.take 6 (.take 7 (.take 8 (.sink 9))))))))))
  | 3 => (.take 0 (.take 1 (.take 2 (.take 3 (.take 4 (.take 5 (.take 6 (.take 7 (.take 8 (.sink 9))))))))))
  | _ => .done
def pln146 (id : Nat) : Plan :=
  match id with
  | 1 => (.take 0 (.take 1 (.take 2 (.take 3 (.take 4 (.take 5 (.take 6 (.take 7 (.take 8 (.post 9 .done))))))))))
  | 2 => (.take 0 (.take 1 (.take 2 (.take 3 (.take 4 (.take 5 (.take 6 (.take 7 (.take 8 (.post 9 .done))))))))))
  | 3 => (.take 0 (.take 1 (.take 2 (.take 3 (.take 4 (.take 5 (.take 6 (.take 7 (.take 8 (.post 9 .done))))))))))
  | _ => .done
def ws149_1 : List (Nat × Nat) := [(8, 9), (11, 75)]
def plan149 (id : Nat) : Plan :=
  match id with
  | 3 => (.take 0 (.take 1 (.take 2 (.take 3 (.take 4 (.take 5 (.take 6 (.take 7 (.take 8 (.take 9 (.take 10 (.take 11 (.take 12 (.take 13 (.take 14 (.take 15 (.take 16 (.take 17 (.one 18 (.take 19 .done))))))))))))))))))))
  | 5 => (.take 0 (.take 1 (.take 2 (.take 3 (.take 4 (.take 5 (.take 6 (.take 7 (.take 8 (.take 9 (.take 10 (.take 11 (.one 12 (.take 13 .done))))))))))))))
  | 6 => (.take 0 (.take 1 (.take 2 (.take 3 (.take 4 (.take 5 (.take 6 (.take 7 (.take 8 (.take 9 (.take 10 (.take 11 (.take 12 (.take 13 (.take 14 (.take 15 (.take 16 (.take 17 (.take 18 (.take 19 (.take 20 (.one 21 (.take 22 (.sink 23))))))))))))))))))))))))
  | _ => .done
def pln149 (id : Nat) : Plan :=
  match id with
  | 3 => (.take 0 (.take 1 (.take 2 (.take 3 (.take 4 (.take 5 (.take 6 (.take 7 (.take 8 (.take 9 (.take 10 (.take 11 (.take 12 (.take 13 (.take 14 (.take 15 (.take 16 (.take 17 (.post 18 (.take 19 .done))))))))))))))))))))
  | 5 => (.take 0 (.take 1 (.take 2 (.take 3 (.take 4 (.take 5 (.take 6 (.take 7 (.take 8 (.take 9 (.take 10 (.take 11 (.post 12 (.take 13 .done))))))))))))))
  | 6 => (.take 0 (.take 1 (.take 2 (.take 3 (.take 4 (.take 5 (.take 6 (.take 7 (.take 8 (.take 9 (.take 10 (.take 11 (.take 12 (.take 13 (.take 14 (.take 15 (.take 16 (.take 17 (.take 18 (.take 19 (.take 20 (.one 21 (.take 22 (.post 23 .done))))))))))))))))))))))))
  | _ => .done
def plan152 (id : Nat) : Plan :=
  match id with
  | 1 => (.take 0 (.take 1 (.take 2 (.take 3 (.take 4 (.take 5 (.take 6 (.take 7 (.sink 8)))))))))
  | _ => .done
def pln152 (id : Nat) : Plan :=
  match id with
  | 1 => (.take 0 (.take 1 (.take 2 (.take 3 (.take 4 (.take 5 (.take 6 (.take 7 (.post 8 .done)))))))))
  | _ => .done
def plan153 (id : Nat) : Plan :=
  match id with
  | 1 => (.take 0 (.take 1 (.take 2 (.take 3 (.take 4 (.take 5 (.take 6 (.take 7 (.sink 8)))))))))
  | _ => .done
def pln153 (id : Nat) : Plan :=
  match id with
  | 1 => (.take 0 (.take 1 (.take 2 (.take 3 (.take 4 (.take 5 (.take 6 (.take 7 (.post 8 .done)))))))))
  | _ => .done

end Go.Proofs.YtmhpfadbmpipkaaGreatDoor.Vc
