/- The orders in which the reckoner walks the regions that draw theirs: printed by a program of ours, each is checked where it is used. No condition. -/
import Derived.Test.YtmnjmdajgilhiaaDoorVc4
namespace Go.Proofs.YtmnjmdajgilhiaaDoor.Vc

def ws3_1 : List (Nat × Nat) := [(14, 14), (49, 62)]
def plan3 (id : Nat) : Plan :=
  match id with
  | 13 => (.take 0 (.take 1 (.take 2 (.take 3 (.take 4 (.take 5 (.take 7 (.take 8 (.take 9 (.take 10 (.one 6 (.one 11 (.take 12 (.take 13 .done))))))))))))))
  | _ => .done
def pln3 (id : Nat) : Plan :=
  match id with
  | 13 => (.take 0 (.take 1 (.take 2 (.take 3 (.take 4 (.take 5 (.take 7 (.take 8 (.take 9 (.take 10 (.one 6 (.post 11 (.take 12 (.take 13 .done))))))))))))))
  | _ => .done
def ws4_1 : List (Nat × Nat) := [(15, 15), (17, 17), (52, 73)]
def ws4_2 : List (Nat × Nat) := [(8, 8), (16, 16), (18, 18), (88, 139)]
def plan4 (id : Nat) : Plan :=
  match id with
  | 10 => (.take 0 (.take 1 (.take 2 (.take 4 (.take 5 (.take 6 (.one 3 (.one 7 (.take 8 (.take 9 .done))))))))))
  | 23 => (.take 0 (.take 1 (.take 2 (.take 3 (.take 4 (.take 5 (.take 6 (.take 7 (.take 8 (.take 9 (.take 10 (.take 11 (.take 12 (.take 13 (.take 14 (.take 15 (.take 16 (.take 17 (.take 18 (.take 19 (.take 20 (.take 21 (.take 22 (.take 23 (.take 24 (.take 25 (.take 26 (.take 27 (.take 28 (.take 29 (.take 30 (.take 31 (.take 32 (.take 33 (.take 34 (.take 35 (.take 36 (.take 37 (.take 38 .done)))))))))))))))))))))))))))))))))))))))
  | _ => .done
def pln4 (id : Nat) : Plan :=
  match id with
  | 10 => (.take 0 (.take 1 (.take 2 (.take 4 (.take 5 (.take 6 (.one 3 (.post 7 (.take 8 (.take 9 .done))))))))))
  | 23 => (.take 0 (.take 1 (.take 2 (.take 3 (.take 4 (.take 5 (.take 6 (.take 7 (.take 8 (.take 9 (.take 10 (.take 11 (.take 12 (.take 13 (.take 14 (.take 15 (.take 16 (.take 17 (.take 18 (.take 19 (.take 20 (.take 21 (.take 22 (.take 23 (.take 24 (.take 25 (.take 26 (.take 27 (.take 28 (.take 29 (.take 30 (.take 31 (.take 32 (.take 33 (.take 34 (.take 35 (.take 36 (.take 37 (.take 38 .done)))))))))))))))))))))))))))))))))))))))
  | _ => .done
def ws5_1 : List (Nat × Nat) := [(10, 11), (41, 59)]
def ws5_2 : List (Nat × Nat) := [(6, 6), (13, 25), (64, 271)]
def ws5_3 : List (Nat × Nat) := [(17, 21), (94, 192)]
def pln5 (id : Nat) : Plan :=
  match id with
  | 38 => (.take 0 (.take 1 (.take 2 (.take 3 (.take 4 (.take 5 (.take 6 (.take 7 (.take 8 (.take 9 (.take 10 (.take 11 (.take 12 (.take 13 (.take 14 (.take 15 (.take 16 (.take 17 (.take 18 (.take 19 (.take 20 (.take 21 (.take 22 (.take 23 (.take 24 (.take 25 (.take 26 (.take 27 (.take 28 (.take 29 (.take 30 (.take 31 (.take 32 (.take 33 (.take 34 (.take 35 (.take 36 (.take 37 (.take 38 (.take 39 (.take 40 (.take 41 (.take 42 (.take 43 (.take 44 (.take 45 (.take 46 (.take 47 (.take 48 (.take 49 (.take 50 (.take 51 (.take 52 (.take 53 (.take 54 (.take 55 (.take 56 (.take 57 (.take 58 (.take 59 (.take 60 (.take 61 .done))))))))))))))))))))))))))))))))))))))))))))))))))))))))))))))
  | _ => .done
def plan5 (id : Nat) : Plan := pln5 id
def ws6_1 : List (Nat × Nat) := [(6, 6), (11, 12), (46, 79)]
def ws6_2 : List (Nat × Nat) := [(6, 6), (12, 12), (55, 79)]
def plan6 (id : Nat) : Plan :=
  match id with
  | 17 => (.take 0 (.take 1 (.take 2 (.take 3 (.take 4 (.take 5 (.take 6 (.take 8 (.take 9 (.take 10 (.take 11 (.take 12 (.take 13 (.take 14 (.one 7 (.one 15 (.take 16 .done)))))))))))))))))
  | _ => .done
def pln6 (id : Nat) : Plan :=
  match id with
  | 17 => (.take 0 (.take 1 (.take 2 (.take 3 (.take 4 (.take 5 (.take 6 (.take 8 (.take 9 (.take 10 (.take 11 (.take 12 (.take 13 (.take 14 (.one 7 (.post 15 (.take 16 .done)))))))))))))))))
  | _ => .done
def ws7_1 : List (Nat × Nat) := [(4, 4), (9, 10), (32, 73)]
def ws7_2 : List (Nat × Nat) := [(4, 4), (10, 10), (38, 73)]
def ws7_3 : List (Nat × Nat) := [(4, 4), (11, 13), (74, 117)]
def plan7 (id : Nat) : Plan :=
  match id with
  | 15 => (.take 0 (.take 1 (.take 2 (.take 3 (.take 4 (.take 5 (.take 7 (.take 8 (.take 9 (.take 10 (.take 11 (.take 12 (.take 13 (.take 14 (.take 15 (.take 16 (.one 6 (.one 17 (.take 18 (.take 19 (.take 20 (.take 21 (.take 22 (.take 23 (.take 24 (.take 25 (.take 26 (.take 27 (.take 28 (.take 29 (.take 30 .done)))))))))))))))))))))))))))))))
  | 23 => (.take 0 (.take 1 (.take 2 (.take 3 (.take 4 (.take 5 (.take 6 (.take 7 (.take 8 (.take 9 (.take 10 (.take 11 (.take 12 (.take 13 (.take 14 (.take 15 (.take 16 (.take 17 .done))))))))))))))))))
  | _ => .done
def pln7 (id : Nat) : Plan :=
  match id with
  | 15 => (.take 0 (.take 1 (.take 2 (.take 3 (.take 4 (.take 5 (.take 7 (.take 8 (.take 9 (.take 10 (.take 11 (.take 12 (.take 13 (.take 14 (.take 15 (.take 16 (.one 6 (.post 17 (.take 18 (.take 19 (.take 20 (.take 21 (.take 22 (.take 23 (.take 24 (.take 25 (.take 26 (.take 27 (.take 28 (.take 29 (.take 30 .done)))))))))))))))))))))))))))))))
  | 23 => (.take 0 (.take 1 (.take 2 (.take 3 (.take 4 (.take 5 (.take 6 (.take 7 (.take 8 (.take 9 (.take 10 (.take 11 (.take 12 (.take 13 (.take 14 (.take 15 (.take 16 (.take 17 .done))))))))))))))))))
  | _ => .done
def ws8_1 : List (Nat × Nat) := [(10, 10), (14, 21), (42, 108)]
def ws8_2 : List (Nat × Nat) := [(10, 10), (21, 21), (94, 108)]
def pln8 (id : Nat) : Plan :=
  match id with
  | 23 => (.take 0 (.take 1 (.take 2 (.take 3 (.take 4 (.take 5 (.take 6 (.take 7 (.take 8 .done)))))))))
  | _ => .done
def plan8 (id : Nat) : Plan := pln8 id
def ws9_1 : List (Nat × Nat) := [(6, 7), (18, 41)]
def ws9_2 : List (Nat × Nat) := [(10, 11), (63, 74)]
def ws11_1 : List (Nat × Nat) := [(4, 5), (7, 11), (16, 116)]
def plan11 (id : Nat) : Plan :=
  match id with
  | 12 => (.take 1 (.take 4 (.take 5 (.take 6 (.take 7 (.take 8 (.take 9 (.three 0 (.take 2 (.take 3 (.two 10 (.two 11 (.take 12 (.one 13 (.sink 14))) 13 (.one 11 (.take 12 (.sink 14)))) 13 (.one 10 (.one 11 (.take 12 (.sink 14))))))) 10 (.three 0 (.take 2 (.take 3 (.two 11 (.take 12 (.one 13 (.sink 14))) 13 (.one 11 (.take 12 (.sink 14)))))) 11 (.two 0 (.take 2 (.take 3 (.take 12 (.one 13 (.sink 14))))) 13 (.one 0 (.take 2 (.take 3 (.take 12 (.sink 14)))))) 13 (.two 0 (.take 2 (.take 3 (.one 11 (.take 12 (.sink 14))))) 11 (.one 0 (.take 2 (.take 3 (.take 12 (.sink 14))))))) 13 (.two 0 (.take 2 (.take 3 (.one 10 (.one 11 (.take 12 (.sink 14)))))) 10 (.two 0 (.take 2 (.take 3 (.one 11 (.take 12 (.sink 14))))) 11 (.one 0 (.take 2 (.take 3 (.take 12 (.sink 14)))))))))))))))
  | 18 => (.take 1 (.take 6 (.take 11 (.take 15 (.take 19 (.one 0 (.one 2 (.take 3 (.take 4 (.take 5 (.one 7 (.take 8 (.take 9 (.take 10 (.one 12 (.take 13 (.take 14 (.one 16 (.take 17 (.take 18 (.one 20 (.take 21 (.one 22 (.take 23 (.one 24 (.take 25 (.sink 26)))))))))))))))))))))))))))
  | 21 => (.take 0 (.take 2 (.take 3 (.one 1 (.take 4 .done)))))
  | 14 => (.take 1 (.take 6 (.take 9 (.one 0 (.one 2 (.take 3 (.take 4 (.take 5 (.one 7 (.take 8 (.one 10 (.take 11 (.one 12 (.take 13 (.sink 14)))))))))))))))
  | _ => .done
def pln11 (id : Nat) : Plan :=
  match id with
  | 12 => (.take 1 (.take 4 (.take 5 (.take 6 (.take 7 (.take 8 (.take 9 (.three 0 (.take 2 (.take 3 (.two 10 (.two 11 (.take 12 (.one 13 (.post 14 .done))) 13 (.one 11 (.take 12 (.post 14 .done)))) 13 (.one 10 (.one 11 (.take 12 (.post 14 .done))))))) 10 (.three 0 (.take 2 (.take 3 (.two 11 (.take 12 (.one 13 (.post 14 .done))) 13 (.one 11 (.take 12 (.post 14 .done)))))) 11 (.two 0 (.take 2 (.take 3 (.take 12 (.one 13 (.post 14 .done))))) 13 (.one 0 (.take 2 (.take 3 (.take 12 (.post 14 .done)))))) 13 (.two 0 (.take 2 (.take 3 (.one 11 (.take 12 (.post 14 .done))))) 11 (.one 0 (.take 2 (.take 3 (.take 12 (.post 14 .done))))))) 13 (.two 0 (.take 2 (.take 3 (.one 10 (.one 11 (.take 12 (.post 14 .done)))))) 10 (.two 0 (.take 2 (.take 3 (.one 11 (.take 12 (.post 14 .done))))) 11 (.one 0 (.take 2 (.take 3 (.take 12 (.post 14 .done)))))))))))))))
  | 18 => (.take 1 (.take 6 (.take 11 (.take 15 (.take 19 (.one 0 (.one 2 (.take 3 (.take 4 (.take 5 (.one 7 (.take 8 (.take 9 (.take 10 (.one 12 (.take 13 (.take 14 (.one 16 (.take 17 (.take 18 (.one 20 (.take 21 (.one 22 (.take 23 (.one 24 (.take 25 (.post 26 .done)))))))))))))))))))))))))))
  | 21 => (.take 0 (.take 2 (.take 3 (.one 1 (.take 4 .done)))))
  | 14 => (.take 1 (.take 6 (.take 9 (.one 0 (.one 2 (.take 3 (.take 4 (.take 5 (.one 7 (.take 8 (.one 10 (.take 11 (.one 12 (.take 13 (.post 14 .done)))))))))))))))
  | _ => .done
def plan12 (id : Nat) : Plan :=
  match id with
  | 2 => (.take 0 (.take 4 (.take 8 (.take 11 (.two 1 (.take 2 (.two 3 (.two 5 (.take 6 (.take 7 (.two 9 (.take 10 (.two 12 (.take 13 (.take 14 (.one 15 (.sink 16)))) 15 (.one 12 (.take 13 (.take 14 (.sink 16)))))) 15 (.one 9 (.take 10 (.one 12 (.take 13 (.take 14 (.sink 16))))))))) 15 (.one 5 (.take 6 (.take 7 (.one 9 (.take 10 (.one 12 (.take 13 (.take 14 (.sink 16)))))))))) 15 (.one 3 (.one 5 (.take 6 (.take 7 (.one 9 (.take 10 (.one 12 (.take 13 (.take 14 (.sink 16)))))))))))) 15 (.one 1 (.take 2 (.one 3 (.one 5 (.take 6 (.take 7 (.one 9 (.take 10 (.one 12 (.take 13 (.take 14 (.sink 16)))))))))))))))))
  | _ => .done
def pln12 (id : Nat) : Plan :=
  match id with
  | 2 => (.take 0 (.take 4 (.take 8 (.take 11 (.two 1 (.take 2 (.two 3 (.two 5 (.take 6 (.take 7 (.two 9 (.take 10 (.two 12 (.take 13 (.take 14 (.one 15 (.post 16 .done)))) 15 (.one 12 (.take 13 (.take 14 (.post 16 .done)))))) 15 (.one 9 (.take 10 (.one 12 (.take 13 (.take 14 (.post 16 .done))))))))) 15 (.one 5 (.take 6 (.take 7 (.one 9 (.take 10 (.one 12 (.take 13 (.take 14 (.post 16 .done)))))))))) 15 (.one 3 (.one 5 (.take 6 (.take 7 (.one 9 (.take 10 (.one 12 (.take 13 (.take 14 (.post 16 .done)))))))))))) 15 (.one 1 (.take 2 (.one 3 (.one 5 (.take 6 (.take 7 (.one 9 (.take 10 (.one 12 (.take 13 (.take 14 (.post 16 .done)))))))))))))))))
  | _ => .done
def ws14_1 : List (Nat × Nat) := [(14, 18), (44, 77), (113, 124)]
def plan14 (id : Nat) : Plan :=
  match id with
  | 15 => (.take 0 (.take 1 (.take 2 (.take 3 (.take 4 (.take 5 (.one 6 (.sink 7))))))))
  | 16 => (.take 0 (.take 1 (.take 2 (.take 3 (.take 4 (.one 5 (.take 6 (.take 7 (.take 8 (.take 9 (.one 10 (.take 11 (.sink 12)))))))))))))
  | 21 => (.take 0 (.take 1 (.take 2 (.take 3 (.take 4 (.take 5 (.take 6 (.take 7 (.take 8 (.take 9 (.take 10 (.take 11 (.take 12 (.take 13 (.take 14 (.take 15 (.take 16 (.take 17 (.take 18 (.take 19 (.take 20 (.take 22 (.take 23 (.take 24 (.take 25 (.take 26 (.one 21 (.one 27 (.take 28 (.take 29 .done))))))))))))))))))))))))))))))
  | _ => .done
def pln14 (id : Nat) : Plan :=
  match id with
  | 15 => (.take 0 (.take 1 (.take 2 (.take 3 (.take 4 (.take 5 (.one 6 (.post 7 .done))))))))
  | 16 => (.take 0 (.take 1 (.take 2 (.take 3 (.take 4 (.post 5 (.take 6 (.take 7 (.take 8 (.take 9 (.one 10 (.take 11 (.post 12 .done)))))))))))))
  | 21 => (.take 0 (.take 1 (.take 2 (.take 3 (.take 4 (.take 5 (.take 6 (.take 7 (.take 8 (.take 9 (.take 10 (.take 11 (.take 12 (.take 13 (.take 14 (.take 15 (.take 16 (.take 17 (.take 18 (.take 19 (.take 20 (.take 22 (.take 23 (.take 24 (.take 25 (.take 26 (.one 21 (.post 27 (.take 28 (.take 29 .done))))))))))))))))))))))))))))))
  | _ => .done
def ws15_1 : List (Nat × Nat) := [(4, 5), (11, 25)]
def pln15 (id : Nat) : Plan :=
  match id with
  | 6 => (.take 0 (.take 1 (.take 2 (.take 3 (.take 4 (.take 5 (.take 6 (.take 7 (.take 8 .done)))))))))
  | _ => .done
def plan15 (id : Nat) : Plan := pln15 id
def ws17_1 : List (Nat × Nat) := [(4, 17)]
def ws18_1 : List (Nat × Nat) := [(6, 10), (14, 53)]
def plan18 (id : Nat) : Plan :=
  match id with
  | 19 => (.take 0 (.take 1 (.take 2 (.take 4 (.take 5 (.take 6 (.one 3 (.one 7 (.take 8 (.take 9 .done))))))))))
  | _ => .done
def pln18 (id : Nat) : Plan :=
  match id with
  | 19 => (.take 0 (.take 1 (.take 2 (.take 4 (.take 5 (.take 6 (.one 3 (.post 7 (.take 8 (.take 9 .done))))))))))
  | _ => .done
def ws19_1 : List (Nat × Nat) := [(4, 5), (11, 25)]
def pln19 (id : Nat) : Plan :=
  match id with
  | 6 => (.take 0 (.take 1 (.take 2 (.take 3 (.take 4 (.take 5 (.take 6 (.take 7 (.take 8 .done)))))))))
  | _ => .done
def plan19 (id : Nat) : Plan := pln19 id
def ws21_1 : List (Nat × Nat) := [(3, 35)]
def plan21 (id : Nat) : Plan :=
  match id with
  | 6 => (.take 0 (.take 1 (.take 2 (.take 3 (.take 4 (.take 5 (.take 6 (.take 7 (.take 8 (.take 9 (.take 10 (.take 11 (.take 12 (.take 13 (.take 14 (.take 15 (.take 16 (.one 17 (.one 18 (.take 19 .done))))))))))))))))))))
  | _ => .done
def pln21 (id : Nat) : Plan :=
  match id with
  | 6 => (.take 0 (.take 1 (.take 2 (.take 3 (.take 4 (.take 5 (.take 6 (.take 7 (.take 8 (.take 9 (.take 10 (.take 11 (.take 12 (.take 13 (.take 14 (.take 15 (.take 16 (.one 17 (.post 18 (.take 19 .done))))))))))))))))))))
  | _ => .done
def ws22_1 : List (Nat × Nat) := [(4, 5), (11, 25)]
def pln22 (id : Nat) : Plan :=
  match id with
  | 6 => (.take 0 (.take 1 (.take 2 (.take 3 (.take 4 (.take 5 (.take 6 (.take 7 (.take 8 .done)))))))))
  | _ => .done
def plan22 (id : Nat) : Plan := pln22 id
def ws23_1 : List (Nat × Nat) := [(6, 11), (14, 72)]
def ws23_2 : List (Nat × Nat) := [(10, 11), (37, 55)]
def plan23 (id : Nat) : Plan :=
  match id with
  | 13 => (.take 0 (.take 1 (.take 2 (.take 3 (.take 4 (.take 5 (.take 6 (.take 7 (.take 8 (.take 9 (.one 10 (.take 11 (.take 12 (.take 13 .done))))))))))))))
  | _ => .done
def pln23 (id : Nat) : Plan :=
  match id with
  | 13 => (.take 0 (.take 1 (.take 2 (.take 3 (.take 4 (.take 5 (.take 6 (.take 7 (.take 8 (.take 9 (.post 10 (.take 11 (.take 12 (.take 13 .done))))))))))))))
  | _ => .done
def ws26_1 : List (Nat × Nat) := [(8, 8), (11, 12), (20, 49)]
def ws26_2 : List (Nat × Nat) := [(8, 8), (12, 12), (33, 49)]
def pln26 (id : Nat) : Plan :=
  match id with
  | 10 => (.take 0 (.take 1 (.take 2 (.take 3 (.take 4 (.take 5 (.take 6 (.take 7 (.take 8 (.take 9 .done))))))))))
  | _ => .done
def plan26 (id : Nat) : Plan := pln26 id
def ws28_1 : List (Nat × Nat) := [(5, 26)]
def ws29_1 : List (Nat × Nat) := [(11, 11), (29, 50)]
def ws29_2 : List (Nat × Nat) := [(12, 19), (51, 208)]
def ws29_3 : List (Nat × Nat) := [(15, 16), (18, 19), (80, 186)]
def plan29 (id : Nat) : Plan :=
  match id with
  | 8 => (.take 0 (.take 1 (.take 2 (.take 3 (.take 4 (.take 5 (.take 6 (.take 7 (.take 8 (.take 9 (.take 10 (.take 11 (.take 12 (.take 13 (.one 14 (.take 15 (.sink 16)))))))))))))))))
  | 13 => (.take 0 (.take 1 (.take 2 (.take 3 (.take 4 (.take 5 (.take 6 (.take 7 (.take 8 (.take 9 .done))))))))))
  | 16 => (.take 0 (.take 2 (.take 3 (.take 4 (.take 5 (.take 6 (.one 1 (.one 7 (.take 8 .done)))))))))
  | 21 => (.take 0 (.take 1 (.take 2 (.take 3 (.take 4 (.take 5 (.take 6 (.take 7 (.take 8 (.take 9 (.take 10 (.take 11 (.take 12 (.take 13 (.take 14 (.take 15 (.take 16 (.take 17 (.take 18 (.take 19 (.take 20 (.take 21 (.take 22 (.take 23 (.take 24 (.take 25 (.take 26 (.take 27 (.take 28 .done)))))))))))))))))))))))))))))
  | 24 => (.take 0 (.take 1 (.take 2 (.take 3 (.take 4 (.take 5 (.take 6 (.take 7 (.take 8 (.take 9 (.take 10 (.take 11 (.take 12 (.take 13 (.take 14 (.take 15 (.take 16 (.take 17 (.take 18 .done)))))))))))))))))))
  | 26 => (.take 0 (.take 1 (.take 2 (.take 3 (.take 4 (.take 5 (.take 6 (.take 7 (.take 8 (.take 9 (.take 10 (.take 11 (.take 12 (.take 13 (.take 14 (.take 15 (.take 16 (.take 17 (.take 18 (.take 19 (.take 20 (.take 21 (.take 22 (.take 23 (.take 24 (.take 25 (.take 26 (.take 27 (.take 28 (.take 29 (.take 30 (.take 31 (.take 32 (.take 33 (.take 34 (.one 35 (.take 36 .done)))))))))))))))))))))))))))))))))))))
  | _ => .done
def pln29 (id : Nat) : Plan :=
  match id with
  | 8 => (.take 0 (.take 1 (.take 2 (.take 3 (.take 4 (.take 5 (.take 6 (.take 7 (.take 8 (.take 9 (.take 10 (.take 11 (.take 12 (.take 13 (.one 14 (.take 15 (.post 16 .done)))))))))))))))))
  | 13 => (.take 0 (.take 1 (.take 2 (.take 3 (.take 4 (.take 5 (.take 6 (.take 7 (.take 8 (.take 9 .done))))))))))
  | 16 => (.take 0 (.take 2 (.take 3 (.take 4 (.take 5 (.take 6 (.one 1 (.post 7 (.take 8 .done)))))))))
  | 21 => (.take 0 (.take 1 (.take 2 (.take 3 (.take 4 (.take 5 (.take 6 (.take 7 (.take 8 (.take 9 (.take 10 (.take 11 (.take 12 (.take 13 (.take 14 (.take 15 (.take 16 (.take 17 (.take 18 (.take 19 (.take 20 (.take 21 (.take 22 (.take 23 (.take 24 (.take 25 (.take 26 (.take 27 (.take 28 .done)))))))))))))))))))))))))))))
  | 24 => (.take 0 (.take 1 (.take 2 (.take 3 (.take 4 (.take 5 (.take 6 (.take 7 (.take 8 (.take 9 (.take 10 (.take 11 (.take 12 (.take 13 (.take 14 (.take 15 (.take 16 (.take 17 (.take 18 .done)))))))))))))))))))
  | 26 => (.take 0 (.take 1 (.take 2 (.take 3 (.take 4 (.take 5 (.take 6 (.take 7 (.take 8 (.take 9 (.take 10 (.take 11 (.take 12 (.take 13 (.take 14 (.take 15 (.take 16 (.take 17 (.take 18 (.take 19 (.take 20 (.take 21 (.take 22 (.take 23 (.take 24 (.take 25 (.take 26 (.take 27 (.take 28 (.take 29 (.take 30 (.take 31 (.take 32 (.take 33 (.take 34 (.post 35 (.take 36 .done)))))))))))))))))))))))))))))))))))))
  | _ => .done
def ws30_1 : List (Nat × Nat) := [(7, 7), (9, 10), (17, 43)]
def ws31_1 : List (Nat × Nat) := [(7, 9), (14, 47)]
def ws32_1 : List (Nat × Nat) := [(6, 8), (12, 46)]
def plan32 (id : Nat) : Plan :=
  match id with
  | 6 => (.take 0 (.take 1 (.take 2 (.take 4 (.take 5 (.take 7 (.take 9 (.one 3 (.take 6 (.one 8 (.one 10 (.take 11 (.one 12 (.one 13 (.take 14 .done)))))))))))))))
  | _ => .done
def pln32 (id : Nat) : Plan :=
  match id with
  | 6 => (.take 0 (.take 1 (.take 2 (.take 4 (.take 5 (.take 7 (.take 9 (.one 3 (.take 6 (.one 8 (.one 10 (.take 11 (.one 12 (.post 13 (.take 14 .done)))))))))))))))
  | _ => .done
def pln33 (id : Nat) : Plan :=
  match id with
  | 1 => (.take 0 (.take 1 (.take 2 (.take 3 (.take 4 (.take 5 (.take 6 (.take 7 (.take 8 (.take 9 (.take 10 .done)))))))))))
  | _ => .done
def plan33 (id : Nat) : Plan := pln33 id
def pln34 (id : Nat) : Plan :=
  match id with
  | 1 => (.take 0 (.take 1 (.take 2 (.take 3 (.take 4 (.take 5 (.take 6 (.take 7 (.take 8 (.take 9 .done))))))))))
  | 4 => (.take 0 (.take 1 (.take 2 (.take 3 (.take 4 (.take 5 (.take 6 (.take 7 (.take 8 (.take 9 (.take 10 (.take 11 (.take 12 (.take 13 (.take 14 .done)))))))))))))))
  | _ => .done
def plan34 (id : Nat) : Plan := pln34 id
def pln37 (id : Nat) : Plan :=
  match id with
  | 2 => (.take 1 (.take 2 (.two 0 (.take 3 (.take 4 (.take 5 (.take 6 (.one 7 (.one 8 (.take 9 .done))))))) 7 (.one 0 (.take 3 (.take 4 (.take 5 (.take 6 (.one 8 (.take 9 .done))))))))))
  | _ => .done
def plan37 (id : Nat) : Plan := pln37 id
def pln40 (id : Nat) : Plan :=
  match id with
  | 4 => (.take 0 (.take 1 (.take 2 (.take 3 (.take 4 (.take 5 (.take 6 (.take 7 (.take 8 (.take 9 (.take 10 (.take 11 (.take 12 (.take 13 (.take 14 .done)))))))))))))))
  | _ => .done
def plan40 (id : Nat) : Plan := pln40 id
def ws42_1 : List (Nat × Nat) := [(8, 8), (10, 11), (18, 37)]
def plan43 (id : Nat) : Plan :=
  match id with
  | 1 => (.take 0 (.take 1 (.take 2 (.take 3 (.take 4 (.take 5 (.take 6 (.one 7 (.one 8 (.take 9 (.sink 10)))))))))))
  | _ => .done
def pln43 (id : Nat) : Plan :=
  match id with
  | 1 => (.take 0 (.take 1 (.take 2 (.take 3 (.take 4 (.take 5 (.take 6 (.one 7 (.one 8 (.take 9 (.post 10 .done)))))))))))
  | _ => .done
def plan44 (id : Nat) : Plan :=
  match id with
  | 1 => (.take 0 (.take 1 (.take 2 (.take 3 (.take 4 (.take 5 (.take 6 (.take 7 (.take 8 (.take 9 (.take 10 (.take 11 (.take 12 (.take 13 (.take 14 (.take 15 (.take 16 (.take 17 (.take 18 (.take 19 (.take 20 (.take 21 (.take 22 (.sink 23))))))))))))))))))))))))
  | _ => .done
def pln44 (id : Nat) : Plan :=
  match id with
  | 1 => (.take 0 (.take 1 (.take 2 (.take 3 (.take 4 (.take 5 (.take 6 (.take 7 (.take 8 (.take 9 (.take 10 (.take 11 (.take 12 (.take 13 (.take 14 (.take 15 (.take 16 (.take 17 (.take 18 (.take 19 (.take 20 (.take 21 (.take 22 (.post 23 .done))))))))))))))))))))))))
  | _ => .done
def ws45_1 : List (Nat × Nat) := [(7, 8), (10, 10), (20, 59)]
def pln45 (id : Nat) : Plan :=
  match id with
  | 9 => (.take 0 (.take 2 (.take 3 (.take 6 (.one 1 (.take 4 (.take 5 (.one 7 (.take 8 (.take 9 .done))))))))))
  | _ => .done
def plan45 (id : Nat) : Plan := pln45 id
def ws46_1 : List (Nat × Nat) := [(10, 10), (12, 15), (17, 17), (38, 75)]
def ws46_2 : List (Nat × Nat) := [(12, 15), (17, 17), (48, 74)]
def ws46_3 : List (Nat × Nat) := [(17, 17), (64, 73)]
def ws49_1 : List (Nat × Nat) := [(5, 10), (13, 50)]
def ws49_2 : List (Nat × Nat) := [(5, 10), (14, 50)]
def plan49 (id : Nat) : Plan :=
  match id with
  | 8 => (.take 0 (.take 1 (.take 2 (.take 3 (.take 4 (.take 5 (.take 7 (.take 8 (.take 9 (.take 10 (.take 11 (.take 12 (.one 6 (.one 13 (.take 14 (.take 15 .done))))))))))))))))
  | _ => .done
def pln49 (id : Nat) : Plan :=
  match id with
  | 8 => (.take 0 (.take 1 (.take 2 (.take 3 (.take 4 (.take 5 (.take 7 (.take 8 (.take 9 (.take 10 (.take 11 (.take 12 (.one 6 (.post 13 (.take 14 (.take 15 .done))))))))))))))))
  | _ => .done
def ws50_1 : List (Nat × Nat) := [(4, 17)]
def ws52_1 : List (Nat × Nat) := [(2, 5), (18, 49)]
def ws52_2 : List (Nat × Nat) := [(2, 2), (7, 7), (52, 59)]
def ws53_1 : List (Nat × Nat) := [(5, 5), (8, 22)]
def ws54_1 : List (Nat × Nat) := [(5, 7), (16, 35)]
def ws58_1 : List (Nat × Nat) := [(3, 3), (6, 6), (10, 24)]
def ws59_1 : List (Nat × Nat) := [(5, 5), (7, 7), (10, 22)]
def ws60_1 : List (Nat × Nat) := [(7, 7), (9, 9), (11, 11), (21, 45)]
def ws60_2 : List (Nat × Nat) := [(7, 7), (11, 11), (31, 44)]
def ws62_1 : List (Nat × Nat) := [(2, 2), (4, 4), (14, 25)]
def ws63_1 : List (Nat × Nat) := [(5, 19)]
def plan63 (id : Nat) : Plan :=
  match id with
  | 4 => (.take 1 (.take 2 (.take 3 (.take 5 (.take 8 (.take 9 (.take 10 (.two 0 (.two 4 (.one 6 (.one 7 (.one 11 (.take 12 .done)))) 6 (.one 4 (.one 7 (.one 11 (.take 12 .done))))) 6 (.one 0 (.one 4 (.one 7 (.one 11 (.take 12 .done)))))))))))))
  | _ => .done
def pln63 (id : Nat) : Plan :=
  match id with
  | 4 => (.take 1 (.take 2 (.take 3 (.take 5 (.take 8 (.take 9 (.take 10 (.two 0 (.two 4 (.one 6 (.one 7 (.post 11 (.take 12 .done)))) 6 (.one 4 (.one 7 (.post 11 (.take 12 .done))))) 6 (.one 0 (.one 4 (.one 7 (.post 11 (.take 12 .done)))))))))))))
  | _ => .done
def ws66_1 : List (Nat × Nat) := [(3, 8), (13, 35)]
def ws66_2 : List (Nat × Nat) := [(12, 12), (42, 55)]
def ws66_3 : List (Nat × Nat) := [(10, 12), (57, 94)]
def ws66_4 : List (Nat × Nat) := [(12, 12), (80, 93)]
def ws67_1 : List (Nat × Nat) := [(4, 5), (8, 18)]
def ws69_1 : List (Nat × Nat) := [(5, 5), (9, 19)]
def ws70_1 : List (Nat × Nat) := [(1, 1), (4, 16)]
def ws72_1 : List (Nat × Nat) := [(2, 5), (10, 59)]
def ws72_2 : List (Nat × Nat) := [(3, 3), (5, 5), (29, 53)]
def pln72 (id : Nat) : Plan :=
  match id with
  | 6 => (.take 0 (.take 1 (.take 2 (.take 3 (.take 4 (.take 5 (.take 6 (.take 7 (.take 8 (.take 9 .done))))))))))
  | 11 => (.take 0 (.take 1 (.take 2 (.take 3 (.take 4 (.take 5 (.take 6 (.take 7 (.take 8 (.take 9 .done))))))))))
  | _ => .done
def plan72 (id : Nat) : Plan := pln72 id
def ws73_1 : List (Nat × Nat) := [(2, 43)]
def ws75_1 : List (Nat × Nat) := [(5, 8), (15, 34)]
def ws75_2 : List (Nat × Nat) := [(10, 11), (49, 63)]
def ws77_1 : List (Nat × Nat) := [(1, 3), (8, 133)]
def plan77 (id : Nat) : Plan :=
  match id with
  | 17 => (.take 0 (.take 1 (.take 2 (.take 3 (.take 4 (.take 5 (.take 6 (.take 7 (.take 8 (.take 9 (.take 10 (.take 11 (.one 12 (.take 13 (.take 14 .done)))))))))))))))
  | _ => .done
def pln77 (id : Nat) : Plan :=
  match id with
  | 17 => (.take 0 (.take 1 (.take 2 (.take 3 (.take 4 (.take 5 (.take 6 (.take 7 (.take 8 (.take 9 (.take 10 (.take 11 (.post 12 (.take 13 (.take 14 .done)))))))))))))))
  | _ => .done
def ws80_1 : List (Nat × Nat) := [(6, 7), (10, 48)]
def ws80_2 : List (Nat × Nat) := [(7, 7), (16, 48)]
def plan80 (id : Nat) : Plan :=
  match id with
  | 4 => (.take 0 (.take 1 (.take 2 (.take 3 (.take 4 (.take 5 (.take 6 (.take 7 (.take 8 (.take 9 (.take 10 (.take 11 (.take 12 (.one 13 (.take 14 .done)))))))))))))))
  | 6 => (.take 0 (.take 1 (.take 2 (.take 3 (.take 4 (.take 5 (.take 6 (.take 7 (.take 8 (.take 9 (.take 10 (.take 11 (.take 12 (.take 13 (.take 14 (.one 15 (.take 16 (.sink 17))))))))))))))))))
  | _ => .done
def pln80 (id : Nat) : Plan :=
  match id with
  | 4 => (.take 0 (.take 1 (.take 2 (.take 3 (.take 4 (.take 5 (.take 6 (.take 7 (.take 8 (.take 9 (.take 10 (.take 11 (.take 12 (.post 13 (.take 14 .done)))))))))))))))
  | 6 => (.take 0 (.take 1 (.take 2 (.take 3 (.take 4 (.take 5 (.take 6 (.take 7 (.take 8 (.take 9 (.take 10 (.take 11 (.take 12 (.take 13 (.take 14 (.one 15 (.take 16 (.post 17 .done))))))))))))))))))
  | _ => .done
def ws81_1 : List (Nat × Nat) := [(9, 9), (18, 26)]
def ws81_2 : List (Nat × Nat) := [(10, 10), (29, 55)]
def plan81 (id : Nat) : Plan :=
  match id with
  | 10 => (.take 0 (.take 1 (.take 2 (.take 3 (.take 4 (.take 5 (.take 6 (.take 7 (.take 8 (.take 9 (.take 10 (.take 11 (.take 12 (.take 13 (.take 14 (.take 15 (.take 16 (.one 17 (.take 18 (.sink 19))))))))))))))))))))
  | _ => .done
def pln81 (id : Nat) : Plan :=
  match id with
  | 10 => (.take 0 (.take 1 (.take 2 (.take 3 (.take 4 (.take 5 (.take 6 (.take 7 (.take 8 (.take 9 (.take 10 (.take 11 (.take 12 (.take 13 (.take 14 (.take 15 (.take 16 (.one 17 (.take 18 (.post 19 .done))))))))))))))))))))
  | _ => .done
def ws82_1 : List (Nat × Nat) := [(9, 10), (26, 64)]
def plan82 (id : Nat) : Plan :=
  match id with
  | 10 => (.take 0 (.take 1 (.take 2 (.take 3 (.take 4 (.take 5 (.take 6 (.take 7 (.take 8 (.take 9 (.take 10 (.take 11 (.take 12 (.take 13 (.take 14 (.take 15 (.take 16 (.one 17 (.take 18 (.sink 19))))))))))))))))))))
  | _ => .done
def pln82 (id : Nat) : Plan :=
  match id with
  | 10 => (.take 0 (.take 1 (.take 2 (.take 3 (.take 4 (.take 5 (.take 6 (.take 7 (.take 8 (.take 9 (.take 10 (.take 11 (.take 12 (.take 13 (.take 14 (.take 15 (.take 16 (.one 17 (.take 18 (.post 19 .done))))))))))))))))))))
  | _ => .done
def ws84_1 : List (Nat × Nat) := [(6, 7), (11, 31)]
def plan84 (id : Nat) : Plan :=
  match id with
  | 3 => (.take 0 (.take 1 (.take 2 (.take 3 (.take 4 (.take 5 (.take 6 (.take 7 (.take 8 (.take 9 (.take 10 (.take 11 (.take 12 (.one 13 (.take 14 (.sink 15))))))))))))))))
  | _ => .done
def pln84 (id : Nat) : Plan :=
  match id with
  | 3 => (.take 0 (.take 1 (.take 2 (.take 3 (.take 4 (.take 5 (.take 6 (.take 7 (.take 8 (.take 9 (.take 10 (.take 11 (.take 12 (.one 13 (.take 14 (.post 15 .done))))))))))))))))
  | _ => .done
def ws85_1 : List (Nat × Nat) := [(6, 10), (13, 132)]
def ws85_2 : List (Nat × Nat) := [(7, 7), (17, 34)]
def ws85_3 : List (Nat × Nat) := [(9, 9), (64, 94)]
def ws85_4 : List (Nat × Nat) := [(10, 10), (101, 132)]
def plan85 (id : Nat) : Plan :=
  match id with
  | 5 => (.take 0 (.take 1 (.take 2 (.take 3 (.take 4 (.take 5 (.take 6 (.take 7 (.take 8 (.take 9 (.take 10 (.take 11 (.take 12 (.one 13 (.take 14 (.take 15 .done))))))))))))))))
  | 11 => (.take 0 (.take 1 (.take 2 (.take 3 (.take 4 (.take 5 (.take 6 (.take 7 (.take 8 (.take 9 (.take 10 (.take 11 (.take 12 (.take 13 (.take 14 (.one 15 (.take 16 (.sink 17))))))))))))))))))
  | 16 => (.take 0 (.take 1 (.take 2 (.take 3 (.take 4 (.take 5 (.take 6 (.take 7 (.take 8 (.one 9 (.take 10 .done)))))))))))
  | 17 => (.take 0 (.take 1 (.take 2 (.take 3 (.take 4 (.take 5 (.take 6 (.take 7 (.take 8 (.take 9 (.take 10 (.take 11 (.take 12 (.take 13 (.take 14 (.one 15 (.take 16 (.sink 17))))))))))))))))))
  | 22 => (.take 0 (.take 1 (.take 2 (.take 3 (.take 4 (.take 5 (.take 6 (.take 7 (.take 8 (.one 9 (.take 10 .done)))))))))))
  | 23 => (.take 0 (.take 1 (.take 2 (.take 3 (.take 4 (.take 5 (.take 6 (.take 7 (.take 8 (.take 9 (.take 10 (.take 11 (.take 12 (.take 13 (.take 14 (.one 15 (.take 16 (.sink 17))))))))))))))))))
  | _ => .done
def pln85 (id : Nat) : Plan :=
  match id with
  | 5 => (.take 0 (.take 1 (.take 2 (.take 3 (.take 4 (.take 5 (.take 6 (.take 7 (.take 8 (.take 9 (.take 10 (.take 11 (.take 12 (.post 13 (.take 14 (.take 15 .done))))))))))))))))
  | 11 => (.take 0 (.take 1 (.take 2 (.take 3 (.take 4 (.take 5 (.take 6 (.take 7 (.take 8 (.take 9 (.take 10 (.take 11 (.take 12 (.take 13 (.take 14 (.one 15 (.take 16 (.post 17 .done))))))))))))))))))
  | 16 => (.take 0 (.take 1 (.take 2 (.take 3 (.take 4 (.take 5 (.take 6 (.take 7 (.take 8 (.post 9 (.take 10 .done)))))))))))
  | 17 => (.take 0 (.take 1 (.take 2 (.take 3 (.take 4 (.take 5 (.take 6 (.take 7 (.take 8 (.take 9 (.take 10 (.take 11 (.take 12 (.take 13 (.take 14 (.one 15 (.take 16 (.post 17 .done))))))))))))))))))
  | 22 => (.take 0 (.take 1 (.take 2 (.take 3 (.take 4 (.take 5 (.take 6 (.take 7 (.take 8 (.post 9 (.take 10 .done)))))))))))
  | 23 => (.take 0 (.take 1 (.take 2 (.take 3 (.take 4 (.take 5 (.take 6 (.take 7 (.take 8 (.take 9 (.take 10 (.take 11 (.take 12 (.take 13 (.take 14 (.one 15 (.take 16 (.post 17 .done))))))))))))))))))
  | _ => .done
def ws87_1 : List (Nat × Nat) := [(9, 10), (29, 82)]
def ws87_2 : List (Nat × Nat) := [(9, 9), (29, 45)]
def ws87_3 : List (Nat × Nat) := [(10, 10), (46, 61)]
def plan87 (id : Nat) : Plan :=
  match id with
  | 1 => (.take 0 (.take 1 (.take 2 (.take 3 (.take 4 (.take 5 (.take 6 (.take 7 (.take 8 (.take 9 (.take 10 (.take 11 (.take 12 (.one 13 (.take 14 (.sink 15))))))))))))))))
  | 3 => (.take 0 (.take 1 (.take 2 (.take 3 (.take 4 (.take 5 (.take 6 (.take 7 (.take 8 (.take 9 (.take 10 (.take 11 (.one 12 (.take 13 (.take 14 .done)))))))))))))))
  | 5 => (.take 0 (.take 1 (.take 2 (.take 3 (.take 4 (.take 5 (.take 6 (.take 7 (.take 8 (.take 9 (.take 10 (.take 11 (.one 12 (.take 13 .done))))))))))))))
  | 8 => (.take 0 (.take 1 (.take 2 (.take 3 (.take 4 (.take 5 (.take 6 (.take 7 (.take 8 (.take 9 (.take 10 (.take 11 (.take 12 (.one 13 (.take 14 (.sink 15))))))))))))))))
  | _ => .done
def pln87 (id : Nat) : Plan :=
  match id with
  | 1 => (.take 0 (.take 1 (.take 2 (.take 3 (.take 4 (.take 5 (.take 6 (.take 7 (.take 8 (.take 9 (.take 10 (.take 11 (.take 12 (.one 13 (.take 14 (.post 15 .done))))))))))))))))
  | 3 => (.take 0 (.take 1 (.take 2 (.take 3 (.take 4 (.take 5 (.take 6 (.take 7 (.take 8 (.take 9 (.take 10 (.take 11 (.post 12 (.take 13 (.take 14 .done)))))))))))))))
  | 5 => (.take 0 (.take 1 (.take 2 (.take 3 (.take 4 (.take 5 (.take 6 (.take 7 (.take 8 (.take 9 (.take 10 (.take 11 (.post 12 (.take 13 .done))))))))))))))
  | 8 => (.take 0 (.take 1 (.take 2 (.take 3 (.take 4 (.take 5 (.take 6 (.take 7 (.take 8 (.take 9 (.take 10 (.take 11 (.take 12 (.one 13 (.take 14 (.post 15 .done))))))))))))))))
  | _ => .done
def ws88_1 : List (Nat × Nat) := [(10, 10), (30, 45)]
def ws88_2 : List (Nat × Nat) := [(11, 11), (46, 62)]
def ws88_3 : List (Nat × Nat) := [(10, 11), (99, 152)]
def ws88_4 : List (Nat × Nat) := [(10, 10), (99, 114)]
def ws88_5 : List (Nat × Nat) := [(11, 11), (115, 131)]
def plan88 (id : Nat) : Plan :=
  match id with
  | 1 => (.take 0 (.take 1 (.take 2 (.take 3 (.take 4 (.take 5 (.take 6 (.take 7 (.take 8 (.take 9 (.take 10 (.take 11 (.take 12 (.one 13 (.take 14 (.sink 15))))))))))))))))
  | 3 => (.take 0 (.take 1 (.take 2 (.take 3 (.take 4 (.take 5 (.take 6 (.take 7 (.take 8 (.take 9 (.take 10 (.take 11 (.one 12 (.take 13 .done))))))))))))))
  | 5 => (.take 0 (.take 1 (.take 2 (.take 3 (.take 4 (.take 5 (.take 6 (.take 7 (.take 8 (.take 9 (.take 10 (.take 11 (.one 12 (.take 13 (.take 14 .done)))))))))))))))
  | 8 => (.take 0 (.take 1 (.take 2 (.take 3 (.take 4 (.take 5 (.take 6 (.take 7 (.take 8 (.take 9 (.take 10 (.take 11 (.take 12 (.one 13 (.take 14 (.sink 15))))))))))))))))
  | 10 => (.take 0 (.take 1 (.take 2 (.take 3 (.take 4 (.take 5 (.take 6 (.take 7 (.take 8 (.take 9 (.take 10 (.take 11 (.take 12 (.one 13 (.take 14 (.sink 15))))))))))))))))
  | 13 => (.take 0 (.take 1 (.take 2 (.take 3 (.take 4 (.take 5 (.take 6 (.take 7 (.take 8 (.take 9 (.take 10 (.take 11 (.one 12 (.take 13 .done))))))))))))))
  | 15 => (.take 0 (.take 1 (.take 2 (.take 3 (.take 4 (.take 5 (.take 6 (.take 7 (.take 8 (.take 9 (.take 10 (.take 11 (.one 12 (.take 13 (.take 14 .done)))))))))))))))
  | 18 => (.take 0 (.take 1 (.take 2 (.take 3 (.take 4 (.take 5 (.take 6 (.take 7 (.take 8 (.take 9 (.take 10 (.take 11 (.take 12 (.one 13 (.take 14 (.sink 15))))))))))))))))
  | 21 => (.take 0 (.take 1 (.take 2 (.take 3 (.take 4 (.take 5 (.take 6 (.take 7 (.take 8 (.take 9 (.take 10 (.take 11 (.take 12 (.one 13 (.take 14 (.sink 15))))))))))))))))
  | _ => .done
def pln88 (id : Nat) : Plan :=
  match id with
  | 1 => (.take 0 (.take 1 (.take 2 (.take 3 (.take 4 (.take 5 (.take 6 (.take 7 (.take 8 (.take 9 (.take 10 (.take 11 (.take 12 (.one 13 (.take 14 (.post 15 .done))))))))))))))))
  | 3 => (.take 0 (.take 1 (.take 2 (.take 3 (.take 4 (.take 5 (.take 6 (.take 7 (.take 8 (.take 9 (.take 10 (.take 11 (.post 12 (.take 13 .done))))))))))))))
  | 5 => (.take 0 (.take 1 (.take 2 (.take 3 (.take 4 (.take 5 (.take 6 (.take 7 (.take 8 (.take 9 (.take 10 (.take 11 (.post 12 (.take 13 (.take 14 .done)))))))))))))))
  | 8 => (.take 0 (.take 1 (.take 2 (.take 3 (.take 4 (.take 5 (.take 6 (.take 7 (.take 8 (.take 9 (.take 10 (.take 11 (.take 12 (.one 13 (.take 14 (.post 15 .done))))))))))))))))
  | 10 => (.take 0 (.take 1 (.take 2 (.take 3 (.take 4 (.take 5 (.take 6 (.take 7 (.take 8 (.take 9 (.take 10 (.take 11 (.take 12 (.one 13 (.take 14 (.post 15 .done))))))))))))))))
  | 13 => (.take 0 (.take 1 (.take 2 (.take 3 (.take 4 (.take 5 (.take 6 (.take 7 (.take 8 (.take 9 (.take 10 (.take 11 (.post 12 (.take 13 .done))))))))))))))
  | 15 => (.take 0 (.take 1 (.take 2 (.take 3 (.take 4 (.take 5 (.take 6 (.take 7 (.take 8 (.take 9 (.take 10 (.take 11 (.post 12 (.take 13 (.take 14 .done)))))))))))))))
  | 18 => (.take 0 (.take 1 (.take 2 (.take 3 (.take 4 (.take 5 (.take 6 (.take 7 (.take 8 (.take 9 (.take 10 (.take 11 (.take 12 (.one 13 (.take 14 (.post 15 .done))))))))))))))))
  | 21 => (.take 0 (.take 1 (.take 2 (.take 3 (.take 4 (.take 5 (.take 6 (.take 7 (.take 8 (.take 9 (.take 10 (.take 11 (.take 12 (.one 13 (.take 14 (.post 15 .done))))))))))))))))
  | _ => .done
def ws91_1 : List (Nat × Nat) := [(4, 6), (20, 57)]
def ws91_2 : List (Nat × Nat) := [(4, 4), (7, 10), (60, 113)]
def pln91 (id : Nat) : Plan :=
  match id with
  | 9 => (.take 0 (.take 1 (.take 2 (.take 3 (.take 4 (.take 5 (.take 6 (.take 7 (.take 8 (.take 9 (.take 10 (.take 11 (.take 12 (.take 13 (.take 14 (.take 15 (.take 16 (.take 17 (.take 18 (.take 19 .done))))))))))))))))))))
  | 18 => (.take 0 (.take 1 (.take 2 (.take 3 (.take 4 (.take 5 (.take 6 (.take 7 (.take 8 (.take 9 (.take 10 (.take 11 (.take 12 (.take 13 (.take 14 (.take 15 (.take 16 (.take 17 (.take 18 (.take 19 .done))))))))))))))))))))
  | _ => .done
def plan91 (id : Nat) : Plan := pln91 id
def ws92_1 : List (Nat × Nat) := [(4, 6), (16, 53)]
def ws92_2 : List (Nat × Nat) := [(4, 4), (7, 10), (56, 98)]
def pln92 (id : Nat) : Plan :=
  match id with
  | 9 => (.take 0 (.take 1 (.take 2 (.take 3 (.take 4 (.take 5 (.take 6 (.take 7 (.take 8 (.take 9 (.take 10 (.take 11 (.take 12 (.take 13 (.take 14 (.take 15 (.take 16 (.take 17 (.take 18 (.take 19 .done))))))))))))))))))))
  | _ => .done
def plan92 (id : Nat) : Plan := pln92 id
def ws93_1 : List (Nat × Nat) := [(8, 9), (11, 75)]
def plan93 (id : Nat) : Plan :=
  match id with
  | 3 => (.take 0 (.take 1 (.take 2 (.take 3 (.take 4 (.take 5 (.take 6 (.take 7 (.take 8 (.take 9 (.take 10 (.take 11 (.take 12 (.take 13 (.take 14 (.take 15 (.take 16 (.take 17 (.one 18 (.take 19 .done))))))))))))))))))))
  | 5 => (.take 0 (.take 1 (.take 2 (.take 3 (.take 4 (.take 5 (.take 6 (.take 7 (.take 8 (.take 9 (.take 10 (.take 11 (.one 12 (.take 13 .done))))))))))))))
  | 6 => (.take 0 (.take 1 (.take 2 (.take 3 (.take 4 (.take 5 (.take 6 (.take 7 (.take 8 (.take 9 (.take 10 (.take 11 (.take 12 (.take 13 (.take 14 (.take 15 (.take 16 (.take 17 (.take 18 (.take 19 (.take 20 (.one 21 (.take 22 (.sink 23))))))))))))))))))))))))
  | _ => .done
def pln93 (id : Nat) : Plan :=
  match id with
  | 3 => (.take 0 (.take 1 (.take 2 (.take 3 (.take 4 (.take 5 (.take 6 (.take 7 (.take 8 (.take 9 (.take 10 (.take 11 (.take 12 (.take 13 (.take 14 (.take 15 (.take 16 (.take 17 (.post 18 (.take 19 .done))))))))))))))))))))
  | 5 => (.take 0 (.take 1 (.take 2 (.take 3 (.take 4 (.take 5 (.take 6 (.take 7 (.take 8 (.take 9 (.take 10 (.take 11 (.post 12 (.take 13 .done))))))))))))))
  | 6 => (.take 0 (.take 1 (.take 2 (.take 3 (.take 4 (.take 5 (.take 6 (.take 7 (.take 8 (.take 9 (.take 10 (.take 11 (.take 12 (.take 13 (.take 14 (.take 15 (.take 16 (.take 17 (.take 18 (.take 19 (.take 20 (.one 21 (.take 22 (.post 23 .done))))))))))))))))))))))))
  | _ => .done
def plan95 (id : Nat) : Plan :=
  match id with
  | 1 => (.take 0 (.take 1 (.take 2 (.take 3 (.take 4 (.take 5 (.take 6 (.take 7 (.take 8 (.sink 9))))))))))
  | 2 => (.take 0 (.take 1 (.take 2 (.take 3 (.take 4 (.take 5 (.take 6 (.take 7 (.take 8 (.sink 9))))))))))
  | 3 => (.take 0 (.take 1 (.take 2 (.take 3 (.take 4 (.take 5 (.take 6 (.take 7 (.take 8 (.sink 9))))))))))
  | _ => .done
def pln95 (id : Nat) : Plan :=
  match id with
  | 1 => (.take 0 (.take 1 (.take 2 (.take 3 (.take 4 (.take 5 (.take 6 (.take 7 (.take 8 (.post 9 .done))))))))))
  | 2 => (.take 0 (.take 1 (.take 2 (.take 3 (.take 4 (.take 5 (.take 6 (.take 7 (.take 8 (.post 9 .done))))))))))
  | 3 => (.take 0 (.take 1 (.take 2 (.take 3 (.take 4 (.take 5 (.take 6 (.take 7 (.take 8 (.post 9 .done))))))))))
  | _ => .done
def plan99 (id : Nat) : Plan :=
  match id with
  | 1 => (.take 0 (.take 1 (.take 2 (.take 3 (.take 4 (.take 5 (.take 6 (.take 7 (.sink 8)))))))))
  | _ => .done
def pln99 (id : Nat) : Plan :=
  match id with
  | 1 => (.take 0 (.take 1 (.take 2 (.take 3 (.take 4 (.take 5 (.take 6 (.take 7 (.post 8 .done)))))))))
  | _ => .done

end Go.Proofs.YtmnjmdajgilhiaaDoor.Vc
