/- The orders in which the reckoner walks the regions that draw theirs: printed by a program of ours, each is checked where it is used. No condition. -/
import Derived.Test.YtmhpfadbmpipkaaGreatVc4
namespace Go.Proofs.YtmhpfadbmpipkaaGreat.Vc

def ws3_1 : List (Nat × Nat) := [(12, 13), (42, 53)]
def ws3_2 : List (Nat × Nat) := [(12, 12), (19, 26), (93, 128)]
def plan3 (id : Nat) : Plan :=
  match id with
  | 12 => (.take 0 (.take 1 (.take 2 (.one 3 (.take 4 (.take 5 (.take 6 (.take 7 (.take 8 (.take 9 (.take 10 (.take 11 (.take 12 (.take 13 (.take 14 (.take 15 (.take 16 (.take 17 (.take 18 (.one 19 (.take 20 (.take 21 .done))))))))))))))))))))))
  | _ => .done
def pln3 (id : Nat) : Plan :=
  match id with
  | 12 => (.take 0 (.take 1 (.take 2 (.one 3 (.take 4 (.take 5 (.take 6 (.take 7 (.take 8 (.take 9 (.take 10 (.take 11 (.take 12 (.take 13 (.take 14 (.take 15 (.take 16 (.take 17 (.take 18 (.post 19 (.take 20 (.take 21 .done))))))))))))))))))))))
  | _ => .done
def ws4_1 : List (Nat × Nat) := [(9, 10), (24, 38)]
def plan4 (id : Nat) : Plan :=
  match id with
  | 11 => (.take 0 (.take 1 (.take 2 (.one 3 (.take 4 (.take 5 .done))))))
  | _ => .done
def pln4 (id : Nat) : Plan :=
  match id with
  | 11 => (.take 0 (.take 1 (.take 2 (.one 3 (.take 4 (.take 5 .done))))))
  | _ => .done
def ws6_1 : List (Nat × Nat) := [(4, 4), (6, 6), (23, 30)]
def ws6_2 : List (Nat × Nat) := [(7, 7), (9, 11), (33, 47)]
def ws7_1 : List (Nat × Nat) := [(7, 8), (10, 10), (25, 41)]
def ws7_2 : List (Nat × Nat) := [(2, 4), (9, 9), (15, 15), (57, 76)]
def ws8_1 : List (Nat × Nat) := [(3, 5), (11, 63)]
def ws8_2 : List (Nat × Nat) := [(5, 5), (17, 33)]
def ws8_3 : List (Nat × Nat) := [(6, 6), (8, 8), (67, 78)]
def ws8_4 : List (Nat × Nat) := [(7, 7), (9, 10), (79, 99)]
def ws8_5 : List (Nat × Nat) := [(10, 10), (85, 95)]
def plan8 (id : Nat) : Plan :=
  match id with
  | 6 => (.take 0 (.take 1 (.take 2 (.take 3 (.take 4 (.take 5 (.take 6 (.take 7 (.take 8 (.take 9 (.take 10 (.take 11 (.take 12 (.take 13 (.take 14 .done)))))))))))))))
  | 8 => (.take 0 (.take 1 (.take 2 (.take 3 (.take 4 (.take 5 (.take 6 (.take 7 (.take 8 (.take 9 (.take 10 (.take 11 (.take 12 (.take 13 (.take 14 .done)))))))))))))))
  | 9 => (.take 1 (.take 2 (.take 3 (.take 5 (.take 6 (.take 7 (.take 8 (.take 11 (.take 12 (.take 13 (.two 0 (.two 4 (.one 9 (.one 10 (.one 14 (.take 15 .done)))) 9 (.one 4 (.one 10 (.one 14 (.take 15 .done))))) 9 (.one 0 (.one 4 (.one 10 (.one 14 (.take 15 .done))))))))))))))))
  | 20 => (.take 0 (.take 1 (.take 2 (.take 3 (.take 4 (.take 5 (.take 6 (.take 7 (.take 8 .done)))))))))
  | _ => .done
def pln8 (id : Nat) : Plan :=
  match id with
  | 6 => (.take 0 (.take 1 (.take 2 (.take 3 (.take 4 (.take 5 (.take 6 (.take 7 (.take 8 (.take 9 (.take 10 (.take 11 (.take 12 (.take 13 (.take 14 .done)))))))))))))))
  | 8 => (.take 0 (.take 1 (.take 2 (.take 3 (.take 4 (.take 5 (.take 6 (.take 7 (.take 8 (.take 9 (.take 10 (.take 11 (.take 12 (.take 13 (.take 14 .done)))))))))))))))
  | 9 => (.take 1 (.take 2 (.take 3 (.take 5 (.take 6 (.take 7 (.take 8 (.take 11 (.take 12 (.take 13 (.two 0 (.two 4 (.one 9 (.one 10 (.post 14 (.take 15 .done)))) 9 (.one 4 (.one 10 (.post 14 (.take 15 .done))))) 9 (.one 0 (.one 4 (.one 10 (.post 14 (.take 15 .done))))))))))))))))
  | 20 => (.take 0 (.take 1 (.take 2 (.take 3 (.take 4 (.take 5 (.take 6 (.take 7 (.take 8 .done)))))))))
  | _ => .done
def ws9_1 : List (Nat × Nat) := [(4, 5), (11, 25)]
def plan9 (id : Nat) : Plan :=
  match id with
  | 6 => (.take 0 (.take 1 (.take 2 (.take 3 (.take 4 (.take 5 (.take 6 (.take 7 (.take 8 .done)))))))))
  | _ => .done
def pln9 (id : Nat) : Plan :=
  match id with
  | 6 => (.take 0 (.take 1 (.take 2 (.take 3 (.take 4 (.take 5 (.take 6 (.take 7 (.take 8 .done)))))))))
  | _ => .done
def plan10 (id : Nat) : Plan :=
  match id with
  | 10 => (.take 1 (.take 2 (.take 3 (.take 5 (.take 8 (.take 9 (.take 10 (.two 0 (.two 4 (.one 6 (.one 7 (.one 11 (.take 12 .done)))) 6 (.one 4 (.one 7 (.one 11 (.take 12 .done))))) 6 (.one 0 (.one 4 (.one 7 (.one 11 (.take 12 .done)))))))))))))
  | 13 => (.take 1 (.take 2 (.take 3 (.take 5 (.take 6 (.take 7 (.take 8 (.one 0 (.one 4 (.one 9 (.take 10 .done)))))))))))
  | _ => .done
def pln10 (id : Nat) : Plan :=
  match id with
  | 10 => (.take 1 (.take 2 (.take 3 (.take 5 (.take 8 (.take 9 (.take 10 (.two 0 (.two 4 (.one 6 (.one 7 (.post 11 (.take 12 .done)))) 6 (.one 4 (.one 7 (.post 11 (.take 12 .done))))) 6 (.one 0 (.one 4 (.one 7 (.post 11 (.take 12 .done)))))))))))))
  | 13 => (.take 1 (.take 2 (.take 3 (.take 5 (.take 6 (.take 7 (.take 8 (.one 0 (.one 4 (.post 9 (.take 10 .done)))))))))))
  | _ => .done
def ws11_1 : List (Nat × Nat) := [(7, 7), (9, 9), (19, 28)]
def ws11_2 : List (Nat × Nat) := [(2, 4), (8, 8), (13, 13), (48, 77)]
def ws13_1 : List (Nat × Nat) := [(2, 6), (8, 37)]
def ws16_1 : List (Nat × Nat) := [(2, 5), (10, 59)]
def ws16_2 : List (Nat × Nat) := [(3, 3), (5, 5), (29, 53)]
def plan16 (id : Nat) : Plan :=
  match id with
  | 6 => (.take 0 (.take 1 (.take 2 (.take 3 (.take 4 (.take 5 (.take 6 (.take 7 (.take 8 (.take 9 .done))))))))))
  | 11 => (.take 0 (.take 1 (.take 2 (.take 3 (.take 4 (.take 5 (.take 6 (.take 7 (.take 8 (.take 9 .done))))))))))
  | _ => .done
def pln16 (id : Nat) : Plan :=
  match id with
  | 6 => (.take 0 (.take 1 (.take 2 (.take 3 (.take 4 (.take 5 (.take 6 (.take 7 (.take 8 (.take 9 .done))))))))))
  | 11 => (.take 0 (.take 1 (.take 2 (.take 3 (.take 4 (.take 5 (.take 6 (.take 7 (.take 8 (.take 9 .done))))))))))
  | _ => .done
def ws19_1 : List (Nat × Nat) := [(7, 9), (13, 30)]
def plan24 (id : Nat) : Plan :=
  match id with
  | 8 => (.take 1 (.take 2 (.take 5 (.take 6 (.take 8 (.take 12 (.one 0 (.take 3 (.take 4 (.one 7 (.one 9 (.take 10 (.take 11 (.one 13 (.take 14 (.take 15 (.take 16 (.take 17 (.take 18 .done)))))))))))))))))))
  | _ => .done
def pln24 (id : Nat) : Plan :=
  match id with
  | 8 => (.take 1 (.take 2 (.take 5 (.take 6 (.take 8 (.take 12 (.one 0 (.take 3 (.take 4 (.one 7 (.one 9 (.take 10 (.take 11 (.post 13 (.take 14 (.take 15 (.take 16 (.take 17 (.take 18 .done)))))))))))))))))))
  | _ => .done
def ws26_1 : List (Nat × Nat) := [(0, 0), (5, 5), (15, 25)]
def ws28_1 : List (Nat × Nat) := [(3, 5), (12, 24)]
def plan31 (id : Nat) : Plan :=
  match id with
  | 10 => (.take 0 (.take 1 (.take 2 (.take 3 (.take 4 (.take 5 (.take 6 (.take 7 (.take 8 (.take 9 (.take 10 (.take 11 (.take 12 .done)))))))))))))
  | 4 => (.take 0 (.take 1 (.take 2 (.take 3 (.take 4 (.take 5 (.take 6 (.take 7 (.take 8 (.take 9 (.take 10 (.take 11 (.take 12 (.take 13 (.take 14 (.take 15 (.take 16 .done)))))))))))))))))
  | _ => .done
def pln31 (id : Nat) : Plan :=
  match id with
  | 10 => (.take 0 (.take 1 (.take 2 (.take 3 (.take 4 (.take 5 (.take 6 (.take 7 (.take 8 (.take 9 (.take 10 (.take 11 (.take 12 .done)))))))))))))
  | 4 => (.take 0 (.take 1 (.take 2 (.take 3 (.take 4 (.take 5 (.take 6 (.take 7 (.take 8 (.take 9 (.take 10 (.take 11 (.take 12 (.take 13 (.take 14 (.take 15 (.take 16 .done)))))))))))))))))
  | _ => .done
def plan33 (id : Nat) : Plan :=
  match id with
  | 1 => (.take 0 (.take 1 (.take 2 (.take 3 (.take 4 (.take 5 (.take 6 (.take 7 (.take 8 (.take 9 (.take 10 (.take 11 (.take 12 (.take 13 (.take 14 (.take 15 .done))))))))))))))))
  | _ => .done
def pln33 (id : Nat) : Plan :=
  match id with
  | 1 => (.take 0 (.take 1 (.take 2 (.take 3 (.take 4 (.take 5 (.take 6 (.take 7 (.take 8 (.take 9 (.take 10 (.take 11 (.take 12 (.take 13 (.take 14 (.take 15 .done))))))))))))))))
  | _ => .done
def ws36_1 : List (Nat × Nat) := [(1, 3), (8, 133)]
def plan36 (id : Nat) : Plan :=
  match id with
  | 17 => (.take 0 (.take 1 (.take 2 (.take 3 (.take 4 (.take 5 (.take 6 (.take 7 (.take 8 (.take 9 (.take 10 (.take 11 (.one 12 (.take 13 (.take 14 .done)))))))))))))))
  | _ => .done
def pln36 (id : Nat) : Plan :=
  match id with
  | 17 => (.take 0 (.take 1 (.take 2 (.take 3 (.take 4 (.take 5 (.take 6 (.take 7 (.take 8 (.take 9 (.take 10 (.take 11 (.post 12 (.take 13 (.take 14 .done)))))))))))))))
  | _ => .done
def ws39_1 : List (Nat × Nat) := [(3, 4), (12, 21)]
def ws44_1 : List (Nat × Nat) := [(2, 5), (11, 75)]
def ws46_1 : List (Nat × Nat) := [(5, 6), (103, 114)]
def ws46_2 : List (Nat × Nat) := [(5, 5), (7, 8), (117, 149)]
def ws46_3 : List (Nat × Nat) := [(8, 8), (122, 138)]
def ws46_4 : List (Nat × Nat) := [(5, 5), (9, 9), (157, 177)]
def ws46_5 : List (Nat × Nat) := [(5, 5), (11, 11), (186, 197)]
def ws46_6 : List (Nat × Nat) := [(5, 5), (12, 12), (198, 211)]
def ws46_7 : List (Nat × Nat) := [(16, 19), (55, 97)]
def ws46_8 : List (Nat × Nat) := [(18, 19), (71, 97)]
def plan46 (id : Nat) : Plan :=
  match id with
  | 26 => (.take 0 (.take 1 (.take 2 (.take 3 (.take 4 (.take 5 (.take 6 (.take 7 (.take 8 (.take 9 (.take 10 (.take 11 (.take 12 (.take 13 (.take 14 .done)))))))))))))))
  | 35 => (.take 0 (.take 1 (.take 2 (.take 3 (.take 4 (.take 5 (.take 6 (.take 7 (.take 8 (.take 9 (.take 10 (.take 11 (.take 12 (.take 13 (.one 14 (.take 15 .done))))))))))))))))
  | 4 => (.take 0 (.take 1 (.take 2 (.take 3 (.take 4 (.take 5 (.take 6 (.take 7 (.take 8 (.take 9 (.take 10 (.take 11 (.one 12 (.take 13 .done))))))))))))))
  | 10 => (.take 0 (.take 1 (.take 2 (.take 3 (.take 4 (.take 5 (.take 6 (.take 7 (.take 8 (.take 9 (.take 10 .done)))))))))))
  | _ => .done
def pln46 (id : Nat) : Plan :=
  match id with
  | 26 => (.take 0 (.take 1 (.take 2 (.take 3 (.take 4 (.take 5 (.take 6 (.take 7 (.take 8 (.take 9 (.take 10 (.take 11 (.take 12 (.take 13 (.take 14 .done)))))))))))))))
  | 35 => (.take 0 (.take 1 (.take 2 (.take 3 (.take 4 (.take 5 (.take 6 (.take 7 (.take 8 (.take 9 (.take 10 (.take 11 (.take 12 (.take 13 (.post 14 (.take 15 .done))))))))))))))))
  | 4 => (.take 0 (.take 1 (.take 2 (.take 3 (.take 4 (.take 5 (.take 6 (.take 7 (.take 8 (.take 9 (.take 10 (.take 11 (.post 12 (.take 13 .done))))))))))))))
  | 10 => (.take 0 (.take 1 (.take 2 (.take 3 (.take 4 (.take 5 (.take 6 (.take 7 (.take 8 (.take 9 (.take 10 .done)))))))))))
  | _ => .done
def ws47_1 : List (Nat × Nat) := [(2, 84)]
def plan47 (id : Nat) : Plan :=
  match id with
  | 5 => (.take 0 (.take 1 (.take 2 (.take 3 (.take 4 (.take 5 (.take 6 (.take 7 (.take 8 (.take 9 (.take 10 (.take 11 .done))))))))))))
  | 8 => (.take 0 (.take 1 (.take 2 (.take 3 (.take 4 (.take 5 (.take 6 (.take 7 (.take 8 (.take 9 (.take 10 (.take 11 (.take 12 .done)))))))))))))
  | _ => .done
def pln47 (id : Nat) : Plan :=
  match id with
  | 5 => (.take 0 (.take 1 (.take 2 (.take 3 (.take 4 (.take 5 (.take 6 (.take 7 (.take 8 (.take 9 (.take 10 (.take 11 .done))))))))))))
  | 8 => (.take 0 (.take 1 (.take 2 (.take 3 (.take 4 (.take 5 (.take 6 (.take 7 (.take 8 (.take 9 (.take 10 (.take 11 (.take 12 .done)))))))))))))
  | _ => .done
def ws49_1 : List (Nat × Nat) := [(5, 6), (33, 42)]
def ws49_2 : List (Nat × Nat) := [(5, 5), (7, 9), (45, 87)]
def ws49_3 : List (Nat × Nat) := [(5, 5), (9, 9), (72, 87)]
def ws49_4 : List (Nat × Nat) := [(5, 5), (10, 11), (90, 112)]
def ws49_5 : List (Nat × Nat) := [(12, 12), (14, 14), (117, 126)]
def ws49_6 : List (Nat × Nat) := [(5, 5), (15, 16), (127, 157)]
def ws49_7 : List (Nat × Nat) := [(5, 5), (20, 23), (198, 244)]
def ws49_8 : List (Nat × Nat) := [(21, 23), (203, 236)]
def plan49 (id : Nat) : Plan :=
  match id with
  | 45 => (.take 0 (.take 1 (.take 2 (.take 3 (.take 4 (.take 5 (.take 6 (.take 7 (.take 8 (.take 9 (.take 10 (.take 11 (.take 12 (.take 13 (.take 14 (.take 15 (.take 16 (.take 17 (.take 18 (.take 19 (.take 20 (.take 21 (.take 22 (.take 23 (.take 24 (.take 25 (.take 26 .done)))))))))))))))))))))))))))
  | 56 => (.take 0 (.take 1 (.take 2 (.take 3 (.take 4 (.take 5 (.take 6 (.take 7 (.take 8 (.take 9 (.take 10 (.take 11 (.take 12 (.take 13 (.take 14 (.take 15 (.take 16 (.take 17 (.take 18 (.take 19 (.take 20 (.take 21 (.take 22 (.take 23 (.take 24 .done)))))))))))))))))))))))))
  | _ => .done
def pln49 (id : Nat) : Plan :=
  match id with
  | 45 => (.take 0 (.take 1 (.take 2 (.take 3 (.take 4 (.take 5 (.take 6 (.take 7 (.take 8 (.take 9 (.take 10 (.take 11 (.take 12 (.take 13 (.take 14 (.take 15 (.take 16 (.take 17 (.take 18 (.take 19 (.take 20 (.take 21 (.take 22 (.take 23 (.take 24 (.take 25 (.take 26 .done)))))))))))))))))))))))))))
  | 56 => (.take 0 (.take 1 (.take 2 (.take 3 (.take 4 (.take 5 (.take 6 (.take 7 (.take 8 (.take 9 (.take 10 (.take 11 (.take 12 (.take 13 (.take 14 (.take 15 (.take 16 (.take 17 (.take 18 (.take 19 (.take 20 (.take 21 (.take 22 (.take 23 (.take 24 .done)))))))))))))))))))))))))
  | _ => .done
def ws50_1 : List (Nat × Nat) := [(0, 0), (6, 6), (9, 16)]
def ws51_1 : List (Nat × Nat) := [(7, 7), (10, 23)]
def ws52_1 : List (Nat × Nat) := [(0, 0), (5, 39)]
def ws52_2 : List (Nat × Nat) := [(6, 6), (12, 28)]
def plan52 (id : Nat) : Plan :=
  match id with
  | 4 => (.take 0 (.take 1 (.take 2 (.take 3 (.take 4 (.take 5 (.take 6 (.take 7 (.take 8 (.take 9 (.take 10 (.take 11 (.take 12 (.take 13 (.take 14 .done)))))))))))))))
  | _ => .done
def pln52 (id : Nat) : Plan :=
  match id with
  | 4 => (.take 0 (.take 1 (.take 2 (.take 3 (.take 4 (.take 5 (.take 6 (.take 7 (.take 8 (.take 9 (.take 10 (.take 11 (.take 12 (.take 13 (.take 14 .done)))))))))))))))
  | _ => .done
def ws53_1 : List (Nat × Nat) := [(4, 5), (7, 9), (12, 40)]
def ws54_1 : List (Nat × Nat) := [(0, 0), (5, 5), (7, 7), (10, 20)]
def ws55_1 : List (Nat × Nat) := [(8, 8), (15, 31)]
def plan55 (id : Nat) : Plan :=
  match id with
  | 5 => (.take 0 (.take 1 (.take 2 (.take 3 (.take 4 (.take 5 (.take 6 (.take 7 (.take 8 (.take 9 (.take 10 (.sink 11))))))))))))
  | _ => .done
def pln55 (id : Nat) : Plan :=
  match id with
  | 5 => (.take 0 (.take 1 (.take 2 (.take 3 (.take 4 (.take 5 (.take 6 (.take 7 (.take 8 (.take 9 (.take 10 (.post 11 .done))))))))))))
  | _ => .done
def ws56_1 : List (Nat × Nat) := [(0, 0), (7, 9), (24, 37)]
def ws57_1 : List (Nat × Nat) := [(8, 8), (16, 29)]
def ws57_2 : List (Nat × Nat) := [(4, 5), (9, 10), (30, 55)]
def ws58_1 : List (Nat × Nat) := [(8, 12), (36, 71)]
def ws58_2 : List (Nat × Nat) := [(11, 12), (47, 70)]
def plan58 (id : Nat) : Plan :=
  match id with
  | 13 => (.take 0 (.take 1 (.take 2 (.take 3 (.take 4 (.take 5 (.take 6 (.take 7 (.take 8 (.take 9 (.take 10 (.take 11 (.take 12 (.take 13 (.take 14 (.sink 15))))))))))))))))
  | _ => .done
def pln58 (id : Nat) : Plan :=
  match id with
  | 13 => (.take 0 (.take 1 (.take 2 (.take 3 (.take 4 (.take 5 (.take 6 (.take 7 (.take 8 (.take 9 (.take 10 (.take 11 (.take 12 (.take 13 (.take 14 (.post 15 .done))))))))))))))))
  | _ => .done
def ws59_1 : List (Nat × Nat) := [(9, 13), (39, 74)]
def ws59_2 : List (Nat × Nat) := [(11, 13), (43, 65)]
def ws60_1 : List (Nat × Nat) := [(6, 7), (10, 48)]
def ws60_2 : List (Nat × Nat) := [(7, 7), (16, 48)]
def plan60 (id : Nat) : Plan :=
  match id with
  | 4 => (.take 0 (.take 1 (.take 2 (.take 3 (.take 4 (.take 5 (.take 6 (.take 7 (.take 8 (.take 9 (.take 10 (.take 11 (.take 12 (.one 13 (.take 14 .done)))))))))))))))
  | 6 => (.take 0 (.take 1 (.take 2 (.take 3 (.take 4 (.take 5 (.take 6 (.take 7 (.take 8 (.take 9 (.take 10 (.take 11 (.take 12 (.take 13 (.take 14 (.one 15 (.take 16 (.sink 17))))))))))))))))))
  | _ => .done
def pln60 (id : Nat) : Plan :=
  match id with
  | 4 => (.take 0 (.take 1 (.take 2 (.take 3 (.take 4 (.take 5 (.take 6 (.take 7 (.take 8 (.take 9 (.take 10 (.take 11 (.take 12 (.post 13 (.take 14 .done)))))))))))))))
  | 6 => (.take 0 (.take 1 (.take 2 (.take 3 (.take 4 (.take 5 (.take 6 (.take 7 (.take 8 (.take 9 (.take 10 (.take 11 (.take 12 (.take 13 (.take 14 (.one 15 (.take 16 (.post 17 .done))))))))))))))))))
  | _ => .done
def ws61_1 : List (Nat × Nat) := [(9, 9), (18, 26)]
def ws61_2 : List (Nat × Nat) := [(10, 10), (29, 55)]
def plan61 (id : Nat) : Plan :=
  match id with
  | 10 => (.take 0 (.take 1 (.take 2 (.take 3 (.take 4 (.take 5 (.take 6 (.take 7 (.take 8 (.take 9 (.take 10 (.take 11 (.take 12 (.take 13 (.take 14 (.take 15 (.take 16 (.one 17 (.take 18 (.sink 19))))))))))))))))))))
  | _ => .done
def pln61 (id : Nat) : Plan :=
  match id with
  | 10 => (.take 0 (.take 1 (.take 2 (.take 3 (.take 4 (.take 5 (.take 6 (.take 7 (.take 8 (.take 9 (.take 10 (.take 11 (.take 12 (.take 13 (.take 14 (.take 15 (.take 16 (.one 17 (.take 18 (.post 19 .done))))))))))))))))))))
  | _ => .done
def ws62_1 : List (Nat × Nat) := [(9, 10), (26, 64)]
def plan62 (id : Nat) : Plan :=
  match id with
  | 10 => (.take 0 (.take 1 (.take 2 (.take 3 (.take 4 (.take 5 (.take 6 (.take 7 (.take 8 (.take 9 (.take 10 (.take 11 (.take 12 (.take 13 (.take 14 (.take 15 (.take 16 (.one 17 (.take 18 (.sink 19))))))))))))))))))))
  | _ => .done
def pln62 (id : Nat) : Plan :=
  match id with
  | 10 => (.take 0 (.take 1 (.take 2 (.take 3 (.take 4 (.take 5 (.take 6 (.take 7 (.take 8 (.take 9 (.take 10 (.take 11 (.take 12 (.take 13 (.take 14 (.take 15 (.take 16 (.one 17 (.take 18 (.post 19 .done))))))))))))))))))))
  | _ => .done
def ws64_1 : List (Nat × Nat) := [(6, 7), (11, 31)]
def plan64 (id : Nat) : Plan :=
  match id with
  | 3 => (.take 0 (.take 1 (.take 2 (.take 3 (.take 4 (.take 5 (.take 6 (.take 7 (.take 8 (.take 9 (.take 10 (.take 11 (.take 12 (.one 13 (.take 14 (.sink 15))))))))))))))))
  | _ => .done
def pln64 (id : Nat) : Plan :=
  match id with
  | 3 => (.take 0 (.take 1 (.take 2 (.take 3 (.take 4 (.take 5 (.take 6 (.take 7 (.take 8 (.take 9 (.take 10 (.take 11 (.take 12 (.one 13 (.take 14 (.post 15 .done))))))))))))))))
  | _ => .done
def ws65_1 : List (Nat × Nat) := [(6, 10), (13, 132)]
def ws65_2 : List (Nat × Nat) := [(7, 7), (17, 34)]
def ws65_3 : List (Nat × Nat) := [(9, 9), (64, 94)]
def ws65_4 : List (Nat × Nat) := [(10, 10), (101, 132)]
def plan65 (id : Nat) : Plan :=
  match id with
  | 5 => (.take 0 (.take 1 (.take 2 (.take 3 (.take 4 (.take 5 (.take 6 (.take 7 (.take 8 (.take 9 (.take 10 (.take 11 (.take 12 (.one 13 (.take 14 (.take 15 .done))))))))))))))))
  | 11 => (.take 0 (.take 1 (.take 2 (.take 3 (.take 4 (.take 5 (.take 6 (.take 7 (.take 8 (.take 9 (.take 10 (.take 11 (.take 12 (.take 13 (.take 14 (.one 15 (.take 16 (.sink 17))))))))))))))))))
  | 16 => (.take 0 (.take 1 (.take 2 (.take 3 (.take 4 (.take 5 (.take 6 (.take 7 (.take 8 (.one 9 (.take 10 .done)))))))))))
  | 17 => (.take 0 (.take 1 (.take 2 (.take 3 (.take 4 (.take 5 (.take 6 (.take 7 (.take 8 (.take 9 (.take 10 (.take 11 (.take 12 (.take 13 (.take 14 (.one 15 (.take 16 (.sink 17))))))))))))))))))
  | 22 => (.take 0 (.take 1 (.take 2 (.take 3 (.take 4 (.take 5 (.take 6 (.take 7 (.take 8 (.one 9 (.take 10 .done)))))))))))
  | 23 => (.take 0 (.take 1 (.take 2 (.take 3 (.take 4 (.take 5 (.take 6 (.take 7 (.take 8 (.take 9 (.take 10 (.take 11 (.take 12 (.take 13 (.take 14 (.one 15 (.take 16 (.sink 17))))))))))))))))))
  | _ => .done
def pln65 (id : Nat) : Plan :=
  match id with
  | 5 => (.take 0 (.take 1 (.take 2 (.take 3 (.take 4 (.take 5 (.take 6 (.take 7 (.take 8 (.take 9 (.take 10 (.take 11 (.take 12 (.post 13 (.take 14 (.take 15 .done))))))))))))))))
  | 11 => (.take 0 (.take 1 (.take 2 (.take 3 (.take 4 (.take 5 (.take 6 (.take 7 (.take 8 (.take 9 (.take 10 (.take 11 (.take 12 (.take 13 (.take 14 (.one 15 (.take 16 (.post 17 .done))))))))))))))))))
  | 16 => (.take 0 (.take 1 (.take 2 (.take 3 (.take 4 (.take 5 (.take 6 (.take 7 (.take 8 (.post 9 (.take 10 .done)))))))))))
  | 17 => (.take 0 (.take 1 (.take 2 (.take 3 (.take 4 (.take 5 (.take 6 (.take 7 (.take 8 (.take 9 (.take 10 (.take 11 (.take 12 (.take 13 (.take 14 (.one 15 (.take 16 (.post 17 .done))))))))))))))))))
  | 22 => (.take 0 (.take 1 (.take 2 (.take 3 (.take 4 (.take 5 (.take 6 (.take 7 (.take 8 (.post 9 (.take 10 .done)))))))))))
  | 23 => (.take 0 (.take 1 (.take 2 (.take 3 (.take 4 (.take 5 (.take 6 (.take 7 (.take 8 (.take 9 (.take 10 (.take 11 (.take 12 (.take 13 (.take 14 (.one 15 (.take 16 (.post 17 .done))))))))))))))))))
  | _ => .done
def ws66_1 : List (Nat × Nat) := [(9, 10), (29, 82)]
def ws66_2 : List (Nat × Nat) := [(9, 9), (29, 45)]
def ws66_3 : List (Nat × Nat) := [(10, 10), (46, 61)]
def plan66 (id : Nat) : Plan :=
  match id with
  | 1 => (.take 0 (.take 1 (.take 2 (.take 3 (.take 4 (.take 5 (.take 6 (.take 7 (.take 8 (.take 9 (.take 10 (.take 11 (.take 12 (.one 13 (.take 14 (.sink 15))))))))))))))))
  | 3 => (.take 0 (.take 1 (.take 2 (.take 3 (.take 4 (.take 5 (.take 6 (.take 7 (.take 8 (.take 9 (.take 10 (.take 11 (.one 12 (.take 13 (.take 14 .done)))))))))))))))
  | 5 => (.take 0 (.take 1 (.take 2 (.take 3 (.take 4 (.take 5 (.take 6 (.take 7 (.take 8 (.take 9 (.take 10 (.take 11 (.one 12 (.take 13 .done))))))))))))))
  | 8 => (.take 0 (.take 1 (.take 2 (.take 3 (.take 4 (.take 5 (.take 6 (.take 7 (.take 8 (.take 9 (.take 10 (.take 11 (.take 12 (.one 13 (.take 14 (.sink 15))))))))))))))))
  | _ => .done
def pln66 (id : Nat) : Plan :=
  match id with
  | 1 => (.take 0 (.take 1 (.take 2 (.take 3 (.take 4 (.take 5 (.take 6 (.take 7 (.take 8 (.take 9 (.take 10 (.take 11 (.take 12 (.one 13 (.take 14 (.post 15 .done))))))))))))))))
  | 3 => (.take 0 (.take 1 (.take 2 (.take 3 (.take 4 (.take 5 (.take 6 (.take 7 (.take 8 (.take 9 (.take 10 (.take 11 (.post 12 (.take 13 (.take 14 .done)))))))))))))))
  | 5 => (.take 0 (.take 1 (.take 2 (.take 3 (.take 4 (.take 5 (.take 6 (.take 7 (.take 8 (.take 9 (.take 10 (.take 11 (.post 12 (.take 13 .done))))))))))))))
  | 8 => (.take 0 (.take 1 (.take 2 (.take 3 (.take 4 (.take 5 (.take 6 (.take 7 (.take 8 (.take 9 (.take 10 (.take 11 (.take 12 (.one 13 (.take 14 (.post 15 .done))))))))))))))))
  | _ => .done
def ws67_1 : List (Nat × Nat) := [(10, 10), (30, 45)]
def ws67_2 : List (Nat × Nat) := [(11, 11), (46, 62)]
def ws67_3 : List (Nat × Nat) := [(10, 11), (99, 152)]
def ws67_4 : List (Nat × Nat) := [(10, 10), (99, 114)]
def ws67_5 : List (Nat × Nat) := [(11, 11), (115, 131)]
def plan67 (id : Nat) : Plan :=
  match id with
  | 1 => (.take 0 (.take 1 (.take 2 (.take 3 (.take 4 (.take 5 (.take 6 (.take 7 (.take 8 (.take 9 (.take 10 (.take 11 (.take 12 (.one 13 (.take 14 (.sink 15))))))))))))))))
  | 3 => (.take 0 (.take 1 (.take 2 (.take 3 (.take 4 (.take 5 (.take 6 (.take 7 (.take 8 (.take 9 (.take 10 (.take 11 (.one 12 (.take 13 .done))))))))))))))
  | 5 => (.take 0 (.take 1 (.take 2 (.take 3 (.take 4 (.take 5 (.take 6 (.take 7 (.take 8 (.take 9 (.take 10 (.take 11 (.one 12 (.take 13 (.take 14 .done)))))))))))))))
  | 8 => (.take 0 (.take 1 (.take 2 (.take 3 (.take 4 (.take 5 (.take 6 (.take 7 (.take 8 (.take 9 (.take 10 (.take 11 (.take 12 (.one 13 (.take 14 (.sink 15))))))))))))))))
  | 10 => (.take 0 (.take 1 (.take 2 (.take 3 (.take 4 (.take 5 (.take 6 (.take 7 (.take 8 (.take 9 (.take 10 (.take 11 (.take 12 (.one 13 (.take 14 (.sink 15))))))))))))))))
  | 13 => (.take 0 (.take 1 (.take 2 (.take 3 (.take 4 (.take 5 (.take 6 (.take 7 (.take 8 (.take 9 (.take 10 (.take 11 (.one 12 (.take 13 .done))))))))))))))
  | 15 => (.take 0 (.take 1 (.take 2 (.take 3 (.take 4 (.take 5 (.take 6 (.take 7 (.take 8 (.take 9 (.take 10 (.take 11 (.one 12 (.take 13 (.take 14 .done)))))))))))))))
  | 18 => (.take 0 (.take 1 (.take 2 (.take 3 (.take 4 (.take 5 (.take 6 (.take 7 (.take 8 (.take 9 (.take 10 (.take 11 (.take 12 (.one 13 (.take 14 (.sink 15))))))))))))))))
  | 21 => (.take 0 (.take 1 (.take 2 (.take 3 (.take 4 (.take 5 (.take 6 (.take 7 (.take 8 (.take 9 (.take 10 (.take 11 (.take 12 (.one 13 (.take 14 (.sink 15))))))))))))))))
  | _ => .done
def pln67 (id : Nat) : Plan :=
  match id with
  | 1 => (.take 0 (.take 1 (.take 2 (.take 3 (.take 4 (.take 5 (.take 6 (.take 7 (.take 8 (.take 9 (.take 10 (.take 11 (.take 12 (.one 13 (.take 14 (.post 15 .done))))))))))))))))
  | 3 => (.take 0 (.take 1 (.take 2 (.take 3 (.take 4 (.take 5 (.take 6 (.take 7 (.take 8 (.take 9 (.take 10 (.take 11 (.post 12 (.take 13 .done))))))))))))))
  | 5 => (.take 0 (.take 1 (.take 2 (.take 3 (.take 4 (.take 5 (.take 6 (.take 7 (.take 8 (.take 9 (.take 10 (.take 11 (.post 12 (.take 13 (.take 14 .done)))))))))))))))
  | 8 => (.take 0 (.take 1 (.take 2 (.take 3 (.take 4 (.take 5 (.take 6 (.take 7 (.take 8 (.take 9 (.take 10 (.take 11 (.take 12 (.one 13 (.take 14 (.post 15 .done))))))))))))))))
  | 10 => (.take 0 (.take 1 (.take 2 (.take 3 (.take 4 (.take 5 (.take 6 (.take 7 (.take 8 (.take 9 (.take 10 (.take 11 (.take 12 (.one 13 (.take 14 (.post 15 .done))))))))))))))))
  | 13 => (.take 0 (.take 1 (.take 2 (.take 3 (.take 4 (.take 5 (.take 6 (.take 7 (.take 8 (.take 9 (.take 10 (.take 11 (.post 12 (.take 13 .done))))))))))))))
  | 15 => (.take 0 (.take 1 (.take 2 (.take 3 (.take 4 (.take 5 (.take 6 (.take 7 (.take 8 (.take 9 (.take 10 (.take 11 (.post 12 (.take 13 (.take 14 .done)))))))))))))))
  | 18 => (.take 0 (.take 1 (.take 2 (.take 3 (.take 4 (.take 5 (.take 6 (.take 7 (.take 8 (.take 9 (.take 10 (.take 11 (.take 12 (.one 13 (.take 14 (.post 15 .done))))))))))))))))
  | 21 => (.take 0 (.take 1 (.take 2 (.take 3 (.take 4 (.take 5 (.take 6 (.take 7 (.take 8 (.take 9 (.take 10 (.take 11 (.take 12 (.one 13 (.take 14 (.post 15 .done))))))))))))))))
  | _ => .done
def ws72_1 : List (Nat × Nat) := [(3, 58)]
def ws72_2 : List (Nat × Nat) := [(5, 5), (12, 28)]
def plan72 (id : Nat) : Plan :=
  match id with
  | 6 => (.take 0 (.take 1 (.take 2 (.take 3 (.take 4 (.take 5 (.take 6 (.take 7 (.take 8 (.take 9 (.take 10 (.take 11 (.take 12 (.take 13 (.take 14 .done)))))))))))))))
  | 8 => (.take 0 (.take 1 (.take 2 (.take 3 (.take 4 (.take 5 (.take 6 (.take 7 (.take 8 (.take 9 (.take 10 (.take 11 (.take 12 (.take 13 (.take 14 .done)))))))))))))))
  | 9 => (.take 1 (.take 2 (.take 3 (.take 5 (.take 6 (.take 7 (.take 8 (.take 11 (.take 12 (.take 13 (.two 0 (.two 4 (.one 9 (.one 10 (.one 14 (.take 15 .done)))) 9 (.one 4 (.one 10 (.one 14 (.take 15 .done))))) 9 (.one 0 (.one 4 (.one 10 (.one 14 (.take 15 .done))))))))))))))))
  | _ => .done
def pln72 (id : Nat) : Plan :=
  match id with
  | 6 => (.take 0 (.take 1 (.take 2 (.take 3 (.take 4 (.take 5 (.take 6 (.take 7 (.take 8 (.take 9 (.take 10 (.take 11 (.take 12 (.take 13 (.take 14 .done)))))))))))))))
  | 8 => (.take 0 (.take 1 (.take 2 (.take 3 (.take 4 (.take 5 (.take 6 (.take 7 (.take 8 (.take 9 (.take 10 (.take 11 (.take 12 (.take 13 (.take 14 .done)))))))))))))))
  | 9 => (.take 1 (.take 2 (.take 3 (.take 5 (.take 6 (.take 7 (.take 8 (.take 11 (.take 12 (.take 13 (.two 0 (.two 4 (.one 9 (.one 10 (.post 14 (.take 15 .done)))) 9 (.one 4 (.one 10 (.post 14 (.take 15 .done))))) 9 (.one 0 (.one 4 (.one 10 (.post 14 (.take 15 .done))))))))))))))))
  | _ => .done
def ws73_1 : List (Nat × Nat) := [(4, 18)]
def ws74_1 : List (Nat × Nat) := [(0, 0), (3, 9)]
def ws75_1 : List (Nat × Nat) := [(8, 8), (34, 46)]
def plan75 (id : Nat) : Plan :=
  match id with
  | 9 => (.take 0 (.take 1 (.take 2 (.take 3 (.take 4 (.take 5 (.take 6 (.one 7 (.take 8 (.take 9 .done))))))))))
  | _ => .done
def pln75 (id : Nat) : Plan :=
  match id with
  | 9 => (.take 0 (.take 1 (.take 2 (.take 3 (.take 4 (.take 5 (.take 6 (.one 7 (.take 8 (.take 9 .done))))))))))
  | _ => .done
def ws78_1 : List (Nat × Nat) := [(2, 5), (10, 59)]
def ws78_2 : List (Nat × Nat) := [(3, 3), (5, 5), (29, 53)]
def plan78 (id : Nat) : Plan :=
  match id with
  | 6 => (.take 0 (.take 1 (.take 2 (.take 3 (.take 4 (.take 5 (.take 6 (.take 7 (.take 8 (.take 9 .done))))))))))
  | 11 => (.take 0 (.take 1 (.take 2 (.take 3 (.take 4 (.take 5 (.take 6 (.take 7 (.take 8 (.take 9 .done))))))))))
  | _ => .done
def pln78 (id : Nat) : Plan :=
  match id with
  | 6 => (.take 0 (.take 1 (.take 2 (.take 3 (.take 4 (.take 5 (.take 6 (.take 7 (.take 8 (.take 9 .done))))))))))
  | 11 => (.take 0 (.take 1 (.take 2 (.take 3 (.take 4 (.take 5 (.take 6 (.take 7 (.take 8 (.take 9 .done))))))))))
  | _ => .done
def ws79_1 : List (Nat × Nat) := [(7, 9), (13, 30)]
def ws80_1 : List (Nat × Nat) := [(3, 4), (12, 23)]
def ws81_1 : List (Nat × Nat) := [(3, 4), (12, 23)]
def ws82_1 : List (Nat × Nat) := [(8, 9), (11, 75)]
def plan82 (id : Nat) : Plan :=
  match id with
  | 3 => (.take 0 (.take 1 (.take 2 (.take 3 (.take 4 (.take 5 (.take 6 (.take 7 (.take 8 (.take 9 (.take 10 (.take 11 (.take 12 (.take 13 (.take 14 (.take 15 (.take 16 (.take 17 (.one 18 (.take 19 .done))))))))))))))))))))
  | 5 => (.take 0 (.take 1 (.take 2 (.take 3 (.take 4 (.take 5 (.take 6 (.take 7 (.take 8 (.take 9 (.take 10 (.take 11 (.one 12 (.take 13 .done))))))))))))))
  | 6 => (.take 0 (.take 1 (.take 2 (.take 3 (.take 4 (.take 5 (.take 6 (.take 7 (.take 8 (.take 9 (.take 10 (.take 11 (.take 12 (.take 13 (.take 14 (.take 15 (.take 16 (.take 17 (.take 18 (.take 19 (.take 20 (.one 21 (.take 22 (.sink 23))))))))))))))))))))))))
  | _ => .done
def pln82 (id : Nat) : Plan :=
  match id with
  | 3 => (.take 0 (.take 1 (.take 2 (.take 3 (.take 4 (.take 5 (.take 6 (.take 7 (.take 8 (.take 9 (.take 10 (.take 11 (.take 12 (.take 13 (.take 14 (.take 15 (.take 16 (.take 17 (.post 18 (.take 19 .done))))))))))))))))))))
  | 5 => (.take 0 (.take 1 (.take 2 (.take 3 (.take 4 (.take 5 (.take 6 (.take 7 (.take 8 (.take 9 (.take 10 (.take 11 (.post 12 (.take 13 .done))))))))))))))
  | 6 => (.take 0 (.take 1 (.take 2 (.take 3 (.take 4 (.take 5 (.take 6 (.take 7 (.take 8 (.take 9 (.take 10 (.take 11 (.take 12 (.take 13 (.take 14 (.take 15 (.take 16 (.take 17 (.take 18 (.take 19 (.take 20 (.one 21 (.take 22 (.post 23 .done))))))))))))))))))))))))
  | _ => .done
def plan84 (id : Nat) : Plan :=
  match id with
  | 1 => (.take 0 (.take 1 (.take 2 (.take 3 (.take 4 (.take 5 (.take 6 (.take 7 (.take 8 (.sink 9))))))))))
  | 2 => (.take 0 (.take 1 (.take 2 (.take 3 (.take 4 (.take 5 (.take 6 (.take 7 (.take 8 (.sink 9))))))))))
  | 3 => (.take 0 (.take 1 (.take 2 (.take 3 (.take 4 (.take 5 (.take 6 (.take 7 (.take 8 (.sink 9))))))))))
  | _ => .done
def pln84 (id : Nat) : Plan :=
  match id with
  | 1 => (.take 0 (.take 1 (.take 2 (.take 3 (.take 4 (.take 5 (.take 6 (.take 7 (.take 8 (.post 9 .done))))))))))
  | 2 => (.take 0 (.take 1 (.take 2 (.take 3 (.take 4 (.take 5 (.take 6 (.take 7 (.take 8 (.post 9 .done))))))))))
  | 3 => (.take 0 (.take 1 (.take 2 (.take 3 (.take 4 (.take 5 (.take 6 (.take 7 (.take 8 (.post 9 .done))))))))))
  | _ => .done
def ws88_1 : List (Nat × Nat) := [(1, 3), (8, 133)]
def plan88 (id : Nat) : Plan :=
  match id with
  | 17 => (.take 0 (.take 1 (.take 2 (.take 3 (.take 4 (.take 5 (.take 6 (.take 7 (.take 8 (.take 9 (.take 10 (.take 11 (.one 12 (.take 13 (.take 14 .done)))))))))))))))
  | _ => .done
def pln88 (id : Nat) : Plan :=
  match id with
  | 17 => (.take 0 (.take 1 (.take 2 (.take 3 (.take 4 (.take 5 (.take 6 (.take 7 (.take 8 (.take 9 (.take 10 (.take 11 (.post 12 (.take 13 (.take 14 .done)))))))))))))))
  | _ => .done
def plan91 (id : Nat) : Plan :=
  match id with
  | 1 => (.take 0 (.take 1 (.take 2 (.take 3 (.take 4 (.take 5 (.take 6 (.take 7 (.sink 8)))))))))
  | _ => .done
def pln91 (id : Nat) : Plan :=
  match id with
  | 1 => (.take 0 (.take 1 (.take 2 (.take 3 (.take 4 (.take 5 (.take 6 (.take 7 (.post 8 .done)))))))))
  | _ => .done
def ws94_1 : List (Nat × Nat) := [(6, 7), (10, 48)]
def ws94_2 : List (Nat × Nat) := [(7, 7), (16, 48)]
def plan94 (id : Nat) : Plan :=
  match id with
  | 4 => (.take 0 (.take 1 (.take 2 (.take 3 (.take 4 (.take 5 (.take 6 (.take 7 (.take 8 (.take 9 (.take 10 (.take 11 (.take 12 (.one 13 (.take 14 .done)))))))))))))))
  | 6 => (.take 0 (.take 1 (.take 2 (.take 3 (.take 4 (.take 5 (.take 6 (.take 7 (.take 8 (.take 9 (.take 10 (.take 11 (.take 12 (.take 13 (.take 14 (.one 15 (.take 16 (.sink 17))))))))))))))))))
  | _ => .done
def pln94 (id : Nat) : Plan :=
  match id with
  | 4 => (.take 0 (.take 1 (.take 2 (.take 3 (.take 4 (.take 5 (.take 6 (.take 7 (.take 8 (.take 9 (.take 10 (.take 11 (.take 12 (.post 13 (.take 14 .done)))))))))))))))
  | 6 => (.take 0 (.take 1 (.take 2 (.take 3 (.take 4 (.take 5 (.take 6 (.take 7 (.take 8 (.take 9 (.take 10 (.take 11 (.take 12 (.take 13 (.take 14 (.one 15 (.take 16 (.post 17 .done))))))))))))))))))
  | _ => .done
def ws95_1 : List (Nat × Nat) := [(9, 9), (18, 26)]
def ws95_2 : List (Nat × Nat) := [(10, 10), (29, 55)]
def plan95 (id : Nat) : Plan :=
  match id with
  | 10 => (.take 0 (.take 1 (.take 2 (.take 3 (.take 4 (.take 5 (.take 6 (.take 7 (.take 8 (.take 9 (.take 10 (.take 11 (.take 12 (.take 13 (.take 14 (.take 15 (.take 16 (.one 17 (.take 18 (.sink 19))))))))))))))))))))
  | _ => .done
def pln95 (id : Nat) : Plan :=
  match id with
  | 10 => (.take 0 (.take 1 (.take 2 (.take 3 (.take 4 (.take 5 (.take 6 (.take 7 (.take 8 (.take 9 (.take 10 (.take 11 (.take 12 (.take 13 (.take 14 (.take 15 (.take 16 (.one 17 (.take 18 (.post 19 .done))))))))))))))))))))
  | _ => .done
def ws96_1 : List (Nat × Nat) := [(9, 10), (26, 64)]
def plan96 (id : Nat) : Plan :=
  match id with
  | 10 => (.take 0 (.take 1 (.take 2 (.take 3 (.take 4 (.take 5 (.take 6 (.take 7 (.take 8 (.take 9 (.take 10 (.take 11 (.take 12 (.take 13 (.take 14 (.take 15 (.take 16 (.one 17 (.take 18 (.sink 19))))))))))))))))))))
  | _ => .done
def pln96 (id : Nat) : Plan :=
  match id with
  | 10 => (.take 0 (.take 1 (.take 2 (.take 3 (.take 4 (.take 5 (.take 6 (.take 7 (.take 8 (.take 9 (.take 10 (.take 11 (.take 12 (.take 13 (.take 14 (.take 15 (.take 16 (.one 17 (.take 18 (.post 19 .done))))))))))))))))))))
  | _ => .done
def ws98_1 : List (Nat × Nat) := [(6, 7), (11, 31)]
def plan98 (id : Nat) : Plan :=
  match id with
  | 3 => (.take 0 (.take 1 (.take 2 (.take 3 (.take 4 (.take 5 (.take 6 (.take 7 (.take 8 (.take 9 (.take 10 (.take 11 (.take 12 (.one 13 (.take 14 (.sink 15))))))))))))))))
  | _ => .done
def pln98 (id : Nat) : Plan :=
  match id with
  | 3 => (.take 0 (.take 1 (.take 2 (.take 3 (.take 4 (.take 5 (.take 6 (.take 7 (.take 8 (.take 9 (.take 10 (.take 11 (.take 12 (.one 13 (.take 14 (.post 15 .done))))))))))))))))
  | _ => .done
def ws99_1 : List (Nat × Nat) := [(6, 10), (13, 132)]
def ws99_2 : List (Nat × Nat) := [(7, 7), (17, 34)]
def ws99_3 : List (Nat × Nat) := [(9, 9), (64, 94)]
def ws99_4 : List (Nat × Nat) := [(10, 10), (101, 132)]
def plan99 (id : Nat) : Plan :=
  match id with
  | 5 => (.take 0 (.take 1 (.take 2 (.take 3 (.take 4 (.take 5 (.take 6 (.take 7 (.take 8 (.take 9 (.take 10 (.take 11 (.take 12 (.one 13 (.take 14 (.take 15 .done))))))))))))))))
  | 11 => (.take 0 (.take 1 (.take 2 (.take 3 (.take 4 (.take 5 (.take 6 (.take 7 (.take 8 (.take 9 (.take 10 (.take 11 (.take 12 (.take 13 (.take 14 (.one 15 (.take 16 (.sink 17))))))))))))))))))
  | 16 => (.take 0 (.take 1 (.take 2 (.take 3 (.take 4 (.take 5 (.take 6 (.take 7 (.take 8 (.one 9 (.take 10 .done)))))))))))
  | 17 => (.take 0 (.take 1 (.take 2 (.take 3 (.take 4 (.take 5 (.take 6 (.take 7 (.take 8 (.take 9 (.take 10 (.take 11 (.take 12 (.take 13 (.take 14 (.one 15 (.take 16 (.sink 17))))))))))))))))))
  | 22 => (.take 0 (.take 1 (.take 2 (.take 3 (.take 4 (.take 5 (.take 6 (.take 7 (.take 8 (.one 9 (.take 10 .done)))))))))))
  | 23 => (.take 0 (.take 1 (.take 2 (.take 3 (.take 4 (.take 5 (.take 6 (.take 7 (.take 8 (.take 9 (.take 10 (.take 11 (.take 12 (.take 13 (.take 14 (.one 15 (.take 16 (.sink 17))))))))))))))))))
  | _ => .done
def pln99 (id : Nat) : Plan :=
  match id with
  | 5 => (.take 0 (.take 1 (.take 2 (.take 3 (.take 4 (.take 5 (.take 6 (.take 7 (.take 8 (.take 9 (.take 10 (.take 11 (.take 12 (.post 13 (.take 14 (.take 15 .done))))))))))))))))
  | 11 => (.take 0 (.take 1 (.take 2 (.take 3 (.take 4 (.take 5 (.take 6 (.take 7 (.take 8 (.take 9 (.take 10 (.take 11 (.take 12 (.take 13 (.take 14 (.one 15 (.take 16 (.post 17 .done))))))))))))))))))
  | 16 => (.take 0 (.take 1 (.take 2 (.take 3 (.take 4 (.take 5 (.take 6 (.take 7 (.take 8 (.post 9 (.take 10 .done)))))))))))
  | 17 => (.take 0 (.take 1 (.take 2 (.take 3 (.take 4 (.take 5 (.take 6 (.take 7 (.take 8 (.take 9 (.take 10 (.take 11 (.take 12 (.take 13 (.take 14 (.one 15 (.take 16 (.post 17 .done))))))))))))))))))
  | 22 => (.take 0 (.take 1 (.take 2 (.take 3 (.take 4 (.take 5 (.take 6 (.take 7 (.take 8 (.post 9 (.take 10 .done)))))))))))
  | 23 => (.take 0 (.take 1 (.take 2 (.take 3 (.take 4 (.take 5 (.take 6 (.take 7 (.take 8 (.take 9 (.take 10 (.take 11 (.take 12 (.take 13 (.take 14 (.one 15 (.take 16 (.post 17 .done))))))))))))))))))
  | _ => .done
def ws100_1 : List (Nat × Nat) := [(9, 10), (29, 82)]
def ws100_2 : List (Nat × Nat) := [(9, 9), (29, 45)]
def ws100_3 : List (Nat × Nat) := [(10, 10), (46, 61)]
def plan100 (id : Nat) : Plan :=
  match id with
  | 1 => (.take 0 (.take 1 (.take 2 (.take 3 (.take 4 (.take 5 (.take 6 (.take 7 (.take 8 (.take 9 (.take 10 (.take 11 (.take 12 (.one 13 (.take 14 (.sink 15))))))))))))))))
  | 3 => (.take 0 (.take 1 (.take 2 (.take 3 (.take 4 (.take 5 (.take 6 (.take 7 (.take 8 (.take 9 (.take 10 (.take 11 (.one 12 (.take 13 (.take 14 .done)))))))))))))))
  | 5 => (.take 0 (.take 1 (.take 2 (.take 3 (.take 4 (.take 5 (.take 6 (.take 7 (.take 8 (.take 9 (.take 10 (.take 11 (.one 12 (.take 13 .done))))))))))))))
  | 8 => (.take 0 (.take 1 (.take 2 (.take 3 (.take 4 (.take 5 (.take 6 (.take 7 (.take 8 (.take 9 (.take 10 (.take 11 (.take 12 (.one 13 (.take 14 (.sink 15))))))))))))))))
  | _ => .done
def pln100 (id : Nat) : Plan :=
  match id with
  | 1 => (.take 0 (.take 1 (.take 2 (.take 3 (.take 4 (.take 5 (.take 6 (.take 7 (.take 8 (.take 9 (.take 10 (.take 11 (.take 12 (.one 13 (.take 14 (.post 15 .done))))))))))))))))
  | 3 => (.take 0 (.take 1 (.take 2 (.take 3 (.take 4 (.take 5 (.take 6 (.take 7 (.take 8 (.take 9 (.take 10 (.take 11 (.post 12 (.take 13 (.take 14 .done)))))))))))))))
  | 5 => (.take 0 (.take 1 (.take 2 (.take 3 (.take 4 (.take 5 (.take 6 (.take 7 (.take 8 (.take 9 (.take 10 (.take 11 (.post 12 (.take 13 .done))))))))))))))
  | 8 => (.take 0 (.take 1 (.take 2 (.take 3 (.take 4 (.take 5 (.take 6 (.take 7 (.take 8 (.take 9 (.take 10 (.take 11 (.take 12 (.one 13 (.take 14 (.post 15 .done))))))))))))))))
  | _ => .done
def ws101_1 : List (Nat × Nat) := [(10, 10), (30, 45)]
def ws101_2 : List (Nat × Nat) := [(11, 11), (46, 62)]
def ws101_3 : List (Nat × Nat) := [(10, 11), (99, 152)]
def ws101_4 : List (Nat × Nat) := [(10, 10), (99, 114)]
def ws101_5 : List (Nat × Nat) := [(11, 11), (115, 131)]
def plan101 (id : Nat) : Plan :=
  match id with
  | 1 => (.take 0 (.take 1 (.take 2 (.take 3 (.take 4 (.take 5 (.take 6 (.take 7 (.take 8 (.take 9 (.take 10 (.take 11 (.take 12 (.one 13 (.take 14 (.sink 15))))))))))))))))
  | 3 => (.take 0 (.take 1 (.take 2 (.take 3 (.take 4 (.take 5 (.take 6 (.take 7 (.take 8 (.take 9 (.take 10 (.take 11 (.one 12 (.take 13 .done))))))))))))))
  | 5 => (.take 0 (.take 1 (.take 2 (.take 3 (.take 4 (.take 5 (.take 6 (.take 7 (.take 8 (.take 9 (.take 10 (.take 11 (.one 12 (.take 13 (.take 14 .done)))))))))))))))
  | 8 => (.take 0 (.take 1 (.take 2 (.take 3 (.take 4 (.take 5 (.take 6 (.take 7 (.take 8 (.take 9 (.take 10 (.take 11 (.take 12 (.one 13 (.take 14 (.sink 15))))))))))))))))
  | 10 => (.take 0 (.take 1 (.take 2 (.take 3 (.take 4 (.take 5 (.take 6 (.take 7 (.take 8 (.take 9 (.take 10 (.take 11 (.take 12 (.one 13 (.take 14 (.sink 15))))))))))))))))
  | 13 => (.take 0 (.take 1 (.take 2 (.take 3 (.take 4 (.take 5 (.take 6 (.take 7 (.take 8 (.take 9 (.take 10 (.take 11 (.one 12 (.take 13 .done))))))))))))))
  | 15 => (.take 0 (.take 1 (.take 2 (.take 3 (.take 4 (.take 5 (.take 6 (.take 7 (.take 8 (.take 9 (.take 10 (.take 11 (.one 12 (.take 13 (.take 14 .done)))))))))))))))
  | 18 => (.take 0 (.take 1 (.take 2 (.take 3 (.take 4 (.take 5 (.take 6 (.take 7 (.take 8 (.take 9 (.take 10 (.take 11 (.take 12 (.one 13 (.take 14 (.sink 15))))))))))))))))
  | 21 => (.take 0 (.take 1 (.take 2 (.take 3 (.take 4 (.take 5 (.take 6 (.take 7 (.take 8 (.take 9 (.take 10 (.take 11 (.take 12 (.one 13 (.take 14 (.sink 15))))))))))))))))
  | _ => .done
def pln101 (id : Nat) : Plan :=
  match id with
  | 1 => (.take 0 (.take 1 (.take 2 (.take 3 (.take 4 (.take 5 (.take 6 (.take 7 (.take 8 (.take 9 (.take 10 (.take 11 (.take 12 (.one 13 (.take 14 (.post 15 .done))))))))))))))))
  | 3 => (.take 0 (.take 1 (.take 2 (.take 3 (.take 4 (.take 5 (.take 6 (.take 7 (.take 8 (.take 9 (.take 10 (.take 11 (.post 12 (.take 13 .done))))))))))))))
  | 5 => (.take 0 (.take 1 (.take 2 (.take 3 (.take 4 (.take 5 (.take 6 (.take 7 (.take 8 (.take 9 (.take 10 (.take 11 (.post 12 (.take 13 (.take 14 .done)))))))))))))))
  | 8 => (.take 0 (.take 1 (.take 2 (.take 3 (.take 4 (.take 5 (.take 6 (.take 7 (.take 8 (.take 9 (.take 10 (.take 11 (.take 12 (.one 13 (.take 14 (.post 15 .done))))))))))))))))
  | 10 => (.take 0 (.take 1 (.take 2 (.take 3 (.take 4 (.take 5 (.take 6 (.take 7 (.take 8 (.take 9 (.take 10 (.take 11 (.take 12 (.one 13 (.take 14 (.post 15 .done))))))))))))))))
  | 13 => (.take 0 (.take 1 (.take 2 (.take 3 (.take 4 (.take 5 (.take 6 (.take 7 (.take 8 (.take 9 (.take 10 (.take 11 (.post 12 (.take 13 .done))))))))))))))
  | 15 => (.take 0 (.take 1 (.take 2 (.take 3 (.take 4 (.take 5 (.take 6 (.take 7 (.take 8 (.take 9 (.take 10 (.take 11 (.post 12 (.take 13 (.take 14 .done)))))))))))))))
  | 18 => (.take 0 (.take 1 (.take 2 (.take 3 (.take 4 (.take 5 (.take 6 (.take 7 (.take 8 (.take 9 (.take 10 (.take 11 (.take 12 (.one 13 (.take 14 (.post 15 .done))))))))))))))))
  | 21 => (.take 0 (.take 1 (.take 2 (.take 3 (.take 4 (.take 5 (.take 6 (.take 7 (.take 8 (.take 9 (.take 10 (.take 11 (.take 12 (.one 13 (.take 14 (.post 15 .done))))))))))))))))
  | _ => .done
def ws103_1 : List (Nat × Nat) := [(8, 9), (11, 75)]
def plan103 (id : Nat) : Plan :=
  match id with
  | 3 => (.take 0 (.take 1 (.take 2 (.take 3 (.take 4 (.take 5 (.take 6 (.take 7 (.take 8 (.take 9 (.take 10 (.take 11 (.take 12 (.take 13 (.take 14 (.take 15 (.take 16 (.take 17 (.one 18 (.take 19 .done))))))))))))))))))))
  | 5 => (.take 0 (.take 1 (.take 2 (.take 3 (.take 4 (.take 5 (.take 6 (.take 7 (.take 8 (.take 9 (.take 10 (.take 11 (.one 12 (.take 13 .done))))))))))))))
  | 6 => (.take 0 (.take 1 (.take 2 (.take 3 (.take 4 (.take 5 (.take 6 (.take 7 (.take 8 (.take 9 (.take 10 (.take 11 (.take 12 (.take 13 (.take 14 (.take 15 (.take 16 (.take 17 (.take 18 (.take 19 (.take 20 (.one 21 (.take 22 (.sink 23))))))))))))))))))))))))
  | _ => .done
def pln103 (id : Nat) : Plan :=
  match id with
  | 3 => (.take 0 (.take 1 (.take 2 (.take 3 (.take 4 (.take 5 (.take 6 (.take 7 (.take 8 (.take 9 (.take 10 (.take 11 (.take 12 (.take 13 (.take 14 (.take 15 (.take 16 (.take 17 (.post 18 (.take 19 .done))))))))))))))))))))
  | 5 => (.take 0 (.take 1 (.take 2 (.take 3 (.take 4 (.take 5 (.take 6 (.take 7 (.take 8 (.take 9 (.take 10 (.take 11 (.post 12 (.take 13 .done))))))))))))))
  | 6 => (.take 0 (.take 1 (.take 2 (.take 3 (.take 4 (.take 5 (.take 6 (.take 7 (.take 8 (.take 9 (.take 10 (.take 11 (.take 12 (.take 13 (.take 14 (.take 15 (.take 16 (.take 17 (.take 18 (.take 19 (.take 20 (.one 21 (.take 22 (.post 23 .done))))))))))))))))))))))))
  | _ => .done
def plan106 (id : Nat) : Plan :=
  match id with
  | 1 => (.take 0 (.take 1 (.take 2 (.take 3 (.take 4 (.take 5 (.take 6 (.take 7 (.sink 8)))))))))
  | _ => .done
def pln106 (id : Nat) : Plan :=
  match id with
  | 1 => (.take 0 (.take 1 (.take 2 (.take 3 (.take 4 (.take 5 (.take 6 (.take 7 (.post 8 .done)))))))))
  | _ => .done

end Go.Proofs.YtmhpfadbmpipkaaGreat.Vc
