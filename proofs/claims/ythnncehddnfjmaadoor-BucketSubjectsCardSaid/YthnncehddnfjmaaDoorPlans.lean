/- The orders in which the reckoner walks the regions that draw theirs: printed by a program of ours, each is checked where it is used. No condition. -/
import Derived.Test.YthnncehddnfjmaaDoorVc4
namespace Go.Proofs.YthnncehddnfjmaaDoor.Vc

def ws3_1 : List (Nat × Nat) := [(6, 6), (9, 15), (45, 75)]
def ws3_2 : List (Nat × Nat) := [(6, 6), (17, 17), (19, 23), (80, 114)]
def ws3_3 : List (Nat × Nat) := [(6, 6), (19, 23), (88, 113)]
def ws4_1 : List (Nat × Nat) := [(8, 8), (14, 14), (16, 19), (39, 94)]
def ws4_2 : List (Nat × Nat) := [(8, 8), (16, 19), (63, 93)]
def ws4_3 : List (Nat × Nat) := [(8, 8), (19, 19), (80, 92)]
def pln4 (id : Nat) : Plan :=
  match id with
  | 23 => (.take 0 (.take 1 (.take 2 (.take 3 (.take 4 (.take 5 (.take 6 (.take 7 (.take 8 .done)))))))))
  | _ => .done
def plan4 (id : Nat) : Plan := pln4 id
def ws6_1 : List (Nat × Nat) := [(4, 4), (8, 14), (31, 81)]
def ws6_2 : List (Nat × Nat) := [(4, 4), (14, 14), (62, 80)]
def pln6 (id : Nat) : Plan :=
  match id with
  | 19 => (.take 0 (.take 1 (.take 2 (.take 3 (.take 4 (.take 5 (.take 6 (.take 7 (.take 8 (.take 9 (.take 10 (.take 11 (.take 12 (.take 13 (.take 14 .done)))))))))))))))
  | _ => .done
def plan6 (id : Nat) : Plan := pln6 id
def ws7_1 : List (Nat × Nat) := [(12, 13), (44, 59)]
def pln7 (id : Nat) : Plan :=
  match id with
  | 14 => (.take 0 (.take 1 (.take 2 (.take 3 (.take 4 (.take 5 (.take 6 (.take 7 (.take 8 (.take 9 (.take 10 (.take 11 (.take 12 .done)))))))))))))
  | 20 => (.take 0 (.take 1 (.take 3 (.one 2 (.take 4 (.take 5 (.take 6 (.take 7 (.take 9 (.one 8 (.take 10 (.take 11 (.take 12 (.take 13 (.take 14 (.take 15 (.take 16 (.take 17 (.take 18 (.take 19 (.take 20 (.take 21 (.take 22 (.take 23 (.take 24 (.take 25 (.take 26 (.take 28 (.one 27 (.take 29 (.take 30 (.take 31 (.take 32 .done)))))))))))))))))))))))))))))))))
  | _ => .done
def plan7 (id : Nat) : Plan := pln7 id
def ws8_1 : List (Nat × Nat) := [(8, 8), (10, 14), (38, 60)]
def pln8 (id : Nat) : Plan :=
  match id with
  | 5 => (.take 0 (.take 1 (.take 6 (.one 2 (.one 3 (.one 4 (.take 5 .done)))))))
  | _ => .done
def plan8 (id : Nat) : Plan := pln8 id
def ws9_1 : List (Nat × Nat) := [(10, 10), (13, 17), (43, 88)]
def ws9_2 : List (Nat × Nat) := [(10, 10), (19, 27), (93, 143)]
def plan9 (id : Nat) : Plan :=
  match id with
  | 10 => (.take 0 (.take 1 (.take 2 (.take 3 (.take 4 (.take 5 (.take 6 (.take 7 (.take 8 (.take 9 (.take 10 (.take 11 (.one 12 (.take 13 (.take 14 (.take 15 (.take 16 (.take 17 .done))))))))))))))))))
  | 11 => (.take 0 (.take 1 (.take 2 (.take 3 (.take 4 (.take 5 (.take 6 (.take 7 (.take 8 (.take 9 (.take 10 (.take 11 (.one 12 (.take 13 (.take 14 (.take 15 (.take 16 (.take 17 .done))))))))))))))))))
  | _ => .done
def pln9 (id : Nat) : Plan :=
  match id with
  | 10 => (.take 0 (.take 1 (.take 2 (.take 3 (.take 4 (.take 5 (.take 6 (.take 7 (.take 8 (.take 9 (.take 10 (.take 11 (.post 12 (.take 13 (.take 14 (.take 15 (.take 16 (.take 17 .done))))))))))))))))))
  | 11 => (.take 0 (.take 1 (.take 2 (.take 3 (.take 4 (.take 5 (.take 6 (.take 7 (.take 8 (.take 9 (.take 10 (.take 11 (.post 12 (.take 13 (.take 14 (.take 15 (.take 16 (.take 17 .done))))))))))))))))))
  | _ => .done
def pln12 (id : Nat) : Plan :=
  match id with
  | 4 => (.take 0 (.take 1 (.take 2 (.take 3 (.take 4 (.take 5 (.take 6 (.take 7 (.take 8 (.take 9 (.take 10 (.take 11 (.take 12 (.take 13 (.take 14 .done)))))))))))))))
  | _ => .done
def plan12 (id : Nat) : Plan := pln12 id
def ws13_1 : List (Nat × Nat) := [(5, 10), (12, 48)]
def ws14_1 : List (Nat × Nat) := [(6, 7), (10, 34)]
def ws15_1 : List (Nat × Nat) := [(9, 10), (35, 44)]
def ws15_2 : List (Nat × Nat) := [(12, 13), (47, 69)]
def ws15_3 : List (Nat × Nat) := [(14, 17), (70, 129)]
def ws15_4 : List (Nat × Nat) := [(15, 15), (77, 87)]
def pln15 (id : Nat) : Plan :=
  match id with
  | 18 => (.take 0 (.take 1 (.take 2 (.take 3 (.take 4 (.take 5 (.take 6 (.take 7 (.take 8 .done)))))))))
  | 27 => (.take 0 (.take 1 (.take 2 (.take 3 (.take 4 (.take 5 (.take 6 (.take 7 (.take 8 .done)))))))))
  | 32 => (.take 0 (.take 1 (.take 2 (.take 3 (.take 4 (.take 5 (.take 6 (.take 7 (.take 8 (.take 9 (.take 10 (.take 11 (.take 12 (.take 13 .done))))))))))))))
  | _ => .done
def plan15 (id : Nat) : Plan := pln15 id
def ws16_1 : List (Nat × Nat) := [(10, 11), (33, 59)]
def ws16_2 : List (Nat × Nat) := [(12, 13), (60, 96)]
def ws16_3 : List (Nat × Nat) := [(13, 13), (64, 96)]
def pln16 (id : Nat) : Plan :=
  match id with
  | 13 => (.take 0 (.take 1 (.take 2 (.take 3 (.take 4 (.take 5 (.take 6 (.take 7 (.take 8 .done)))))))))
  | 22 => (.take 0 (.take 1 (.take 2 (.take 3 (.take 4 (.take 5 (.take 6 (.take 7 (.take 8 .done)))))))))
  | _ => .done
def plan16 (id : Nat) : Plan := pln16 id
def ws17_1 : List (Nat × Nat) := [(4, 5), (11, 25)]
def pln17 (id : Nat) : Plan :=
  match id with
  | 6 => (.take 0 (.take 1 (.take 2 (.take 3 (.take 4 (.take 5 (.take 6 (.take 7 (.take 8 .done)))))))))
  | _ => .done
def plan17 (id : Nat) : Plan := pln17 id
def ws19_1 : List (Nat × Nat) := [(4, 4), (6, 6), (9, 25)]
def ws20_1 : List (Nat × Nat) := [(4, 32)]
def ws21_1 : List (Nat × Nat) := [(7, 7), (14, 32)]
def ws22_1 : List (Nat × Nat) := [(7, 7), (15, 43)]
def ws23_1 : List (Nat × Nat) := [(7, 8), (13, 25)]
def pln23 (id : Nat) : Plan :=
  match id with
  | 6 => (.take 0 (.take 1 (.take 2 (.take 3 (.take 4 (.take 5 (.take 6 .done)))))))
  | _ => .done
def plan23 (id : Nat) : Plan := pln23 id
def ws24_1 : List (Nat × Nat) := [(7, 8), (13, 29)]
def pln24 (id : Nat) : Plan :=
  match id with
  | 6 => (.take 0 (.take 1 (.take 2 (.take 3 (.take 4 (.take 5 (.take 6 (.take 7 (.take 8 .done)))))))))
  | _ => .done
def plan24 (id : Nat) : Plan := pln24 id
def ws25_1 : List (Nat × Nat) := [(5, 8), (16, 36)]
def ws26_1 : List (Nat × Nat) := [(5, 7), (13, 42)]
def plan32 (id : Nat) : Plan :=
  match id with
  | 4 => (.take 0 (.take 1 (.take 2 (.one 3 (.one 4 (.one 5 (.take 6 (.sink 7))))))))
  | 6 => (.take 0 (.take 1 (.take 2 (.one 3 (.one 4 (.one 5 (.take 6 (.sink 7))))))))
  | _ => .done
def pln32 (id : Nat) : Plan :=
  match id with
  | 4 => (.take 0 (.take 1 (.take 2 (.one 3 (.one 4 (.post 5 (.take 6 (.post 7 .done))))))))
  | 6 => (.take 0 (.take 1 (.take 2 (.one 3 (.one 4 (.post 5 (.take 6 (.post 7 .done))))))))
  | _ => .done
def pln36 (id : Nat) : Plan :=
  match id with
  | 1 => (.take 0 (.take 1 (.take 2 (.take 3 (.take 4 (.take 5 (.take 6 (.take 7 (.take 8 (.take 9 (.take 10 .done)))))))))))
  | _ => .done
def plan36 (id : Nat) : Plan := pln36 id
def ws38_1 : List (Nat × Nat) := [(4, 4), (7, 7), (14, 47)]
def ws39_1 : List (Nat × Nat) := [(2, 3), (5, 5), (11, 24)]
def ws40_1 : List (Nat × Nat) := [(5, 5), (12, 18)]
def ws40_2 : List (Nat × Nat) := [(8, 11), (22, 50)]
def ws40_3 : List (Nat × Nat) := [(11, 11), (36, 49)]
def pln40 (id : Nat) : Plan :=
  match id with
  | 12 => (.take 0 (.take 1 (.take 2 (.take 3 (.take 4 (.take 5 (.take 6 (.take 7 (.take 8 .done)))))))))
  | _ => .done
def plan40 (id : Nat) : Plan := pln40 id
def ws41_1 : List (Nat × Nat) := [(4, 6), (10, 69)]
def pln41 (id : Nat) : Plan :=
  match id with
  | 9 => (.take 0 (.take 1 (.take 2 (.take 3 (.take 4 (.take 5 (.take 6 (.take 7 (.take 8 (.take 9 (.take 10 (.take 11 (.take 12 (.take 13 (.take 14 (.take 15 (.take 16 (.take 17 (.take 18 (.take 19 (.take 20 (.take 21 (.take 22 (.take 23 (.take 24 (.take 25 (.take 26 (.take 27 (.take 28 (.take 29 (.take 30 (.take 31 (.take 32 (.take 33 .done))))))))))))))))))))))))))))))))))
  | _ => .done
def plan41 (id : Nat) : Plan := pln41 id
def ws42_1 : List (Nat × Nat) := [(2, 4), (8, 32)]
def ws43_1 : List (Nat × Nat) := [(4, 5), (10, 37)]
def ws43_2 : List (Nat × Nat) := [(5, 5), (20, 37)]
def ws44_1 : List (Nat × Nat) := [(3, 46)]
def pln44 (id : Nat) : Plan :=
  match id with
  | 5 => (.take 0 (.take 1 (.take 2 (.take 3 (.take 4 (.take 5 (.take 6 (.take 7 (.take 8 (.take 9 (.take 10 (.take 11 (.take 12 (.take 13 (.take 14 (.take 15 (.take 16 .done)))))))))))))))))
  | _ => .done
def plan44 (id : Nat) : Plan := pln44 id
def ws47_1 : List (Nat × Nat) := [(0, 0), (3, 3), (5, 5), (10, 25)]
def ws50_1 : List (Nat × Nat) := [(7, 7), (13, 48)]
def plan50 (id : Nat) : Plan :=
  match id with
  | 7 => (.take 0 (.take 1 (.take 2 (.take 3 (.take 4 (.take 5 (.take 6 (.take 7 (.take 8 (.take 9 (.take 10 (.take 11 (.take 12 (.one 13 (.take 14 (.one 15 (.one 16 (.take 17 (.sink 18)))))))))))))))))))
  | _ => .done
def pln50 (id : Nat) : Plan :=
  match id with
  | 7 => (.take 0 (.take 1 (.take 2 (.take 3 (.take 4 (.take 5 (.take 6 (.take 7 (.take 8 (.take 9 (.take 10 (.take 11 (.take 12 (.one 13 (.take 14 (.one 15 (.post 16 (.take 17 (.post 18 .done)))))))))))))))))))
  | _ => .done
def ws51_1 : List (Nat × Nat) := [(7, 7), (11, 11), (31, 42)]
def ws52_1 : List (Nat × Nat) := [(7, 7), (10, 10), (25, 45)]
def ws54_1 : List (Nat × Nat) := [(0, 0), (4, 18)]
def ws57_1 : List (Nat × Nat) := [(9, 11), (26, 50)]
def ws57_2 : List (Nat × Nat) := [(10, 11), (33, 48)]
def ws57_3 : List (Nat × Nat) := [(8, 8), (12, 12), (54, 74)]
def ws58_1 : List (Nat × Nat) := [(3, 3), (5, 6), (9, 30)]
def ws58_2 : List (Nat × Nat) := [(3, 3), (6, 6), (13, 26)]
def ws59_1 : List (Nat × Nat) := [(8, 10), (20, 77)]
def ws59_2 : List (Nat × Nat) := [(9, 10), (27, 53)]
def ws60_1 : List (Nat × Nat) := [(3, 36)]
def ws60_2 : List (Nat × Nat) := [(3, 3), (6, 6), (19, 30)]
def ws64_1 : List (Nat × Nat) := [(5, 26)]
def plan66 (id : Nat) : Plan :=
  match id with
  | 0 => (.take 0 (.take 1 (.take 2 (.take 3 (.take 4 (.take 5 (.take 6 (.take 7 (.sink 8)))))))))
  | 2 => (.take 0 (.take 1 (.take 2 (.take 3 (.take 4 (.take 5 (.take 6 (.take 7 (.sink 8)))))))))
  | _ => .done
def pln66 (id : Nat) : Plan :=
  match id with
  | 0 => (.take 0 (.take 1 (.take 2 (.take 3 (.take 4 (.take 5 (.take 6 (.take 7 (.post 8 .done)))))))))
  | 2 => (.take 0 (.take 1 (.take 2 (.take 3 (.take 4 (.take 5 (.take 6 (.take 7 (.post 8 .done)))))))))
  | _ => .done
def ws67_1 : List (Nat × Nat) := [(5, 119)]
def plan67 (id : Nat) : Plan :=
  match id with
  | 2 => (.take 0 (.take 1 (.take 2 (.take 3 (.take 4 (.take 5 (.take 6 (.take 7 (.take 8 (.take 9 (.take 10 (.sink 11))))))))))))
  | 3 => (.take 0 (.take 1 (.take 2 (.take 3 (.take 4 (.take 6 (.take 7 (.take 8 (.take 9 (.take 11 (.one 5 (.take 10 (.take 12 (.sink 13))))))))))))))
  | 4 => (.take 0 (.take 1 (.take 2 (.take 3 (.take 4 (.take 6 (.one 5 (.take 7 (.sink 8)))))))))
  | 5 => (.take 0 (.take 1 (.take 2 (.take 3 (.take 4 (.take 5 (.take 6 (.take 7 (.take 8 (.take 9 (.take 10 (.sink 11))))))))))))
  | 6 => (.take 0 (.take 1 (.take 2 (.take 3 (.take 4 (.take 6 (.take 7 (.take 8 (.take 9 (.take 11 (.one 5 (.take 10 (.take 12 (.sink 13))))))))))))))
  | 7 => (.take 0 (.take 1 (.take 2 (.take 3 (.take 4 (.take 5 (.take 6 (.take 7 (.take 8 (.take 9 (.take 10 (.sink 11))))))))))))
  | 8 => (.take 0 (.take 1 (.take 2 (.take 3 (.take 4 (.take 6 (.take 7 (.take 8 (.take 9 (.take 11 (.one 5 (.take 10 (.take 12 (.sink 13))))))))))))))
  | 9 => (.take 0 (.take 1 (.take 2 (.take 3 (.take 4 (.take 5 (.take 6 (.take 7 (.take 8 (.take 9 (.take 10 (.sink 11))))))))))))
  | 10 => (.take 0 (.take 1 (.take 2 (.take 3 (.take 4 (.take 6 (.take 7 (.take 8 (.take 9 (.take 11 (.one 5 (.take 10 (.take 12 (.sink 13))))))))))))))
  | 11 => (.take 0 (.take 1 (.take 2 (.take 3 (.take 4 (.take 6 (.one 5 (.take 7 (.sink 8)))))))))
  | _ => .done
def pln67 (id : Nat) : Plan :=
  match id with
  | 2 => (.take 0 (.take 1 (.take 2 (.take 3 (.take 4 (.take 5 (.take 6 (.take 7 (.take 8 (.take 9 (.take 10 (.post 11 .done))))))))))))
  | 3 => (.take 0 (.take 1 (.take 2 (.take 3 (.take 4 (.take 6 (.take 7 (.take 8 (.take 9 (.take 11 (.one 5 (.take 10 (.take 12 (.post 13 .done))))))))))))))
  | 4 => (.take 0 (.take 1 (.take 2 (.take 3 (.take 4 (.take 6 (.one 5 (.take 7 (.post 8 .done)))))))))
  | 5 => (.take 0 (.take 1 (.take 2 (.take 3 (.take 4 (.take 5 (.take 6 (.take 7 (.take 8 (.take 9 (.take 10 (.post 11 .done))))))))))))
  | 6 => (.take 0 (.take 1 (.take 2 (.take 3 (.take 4 (.take 6 (.take 7 (.take 8 (.take 9 (.take 11 (.one 5 (.take 10 (.take 12 (.post 13 .done))))))))))))))
  | 7 => (.take 0 (.take 1 (.take 2 (.take 3 (.take 4 (.take 5 (.take 6 (.take 7 (.take 8 (.take 9 (.take 10 (.post 11 .done))))))))))))
  | 8 => (.take 0 (.take 1 (.take 2 (.take 3 (.take 4 (.take 6 (.take 7 (.take 8 (.take 9 (.take 11 (.one 5 (.take 10 (.take 12 (.post 13 .done))))))))))))))
  | 9 => (.take 0 (.take 1 (.take 2 (.take 3 (.take 4 (.take 5 (.take 6 (.take 7 (.take 8 (.take 9 (.take 10 (.post 11 .done))))))))))))
  | 10 => (.take 0 (.take 1 (.take 2 (.take 3 (.take 4 (.take 6 (.take 7 (.take 8 (.take 9 (.take 11 (.one 5 (.take 10 (.take 12 (.post 13 .done))))))))))))))
  | 11 => (.take 0 (.take 1 (.take 2 (.take 3 (.take 4 (.take 6 (.one 5 (.take 7 (.post 8 .done)))))))))
  | _ => .done
def ws68_1 : List (Nat × Nat) := [(5, 70)]
def plan68 (id : Nat) : Plan :=
  match id with
  | 5 => (.take 0 (.take 1 (.take 3 (.take 4 (.one 2 (.take 5 (.take 6 (.sink 7))))))))
  | 8 => (.take 0 (.take 1 (.take 3 (.take 4 (.one 2 (.take 5 (.take 6 (.sink 7))))))))
  | 10 => (.take 0 (.take 1 (.take 3 (.take 4 (.one 2 (.take 5 (.take 6 (.sink 7))))))))
  | 12 => (.take 0 (.take 1 (.take 3 (.take 4 (.one 2 (.take 5 (.take 6 (.sink 7))))))))
  | _ => .done
def pln68 (id : Nat) : Plan :=
  match id with
  | 5 => (.take 0 (.take 1 (.take 3 (.take 4 (.one 2 (.take 5 (.take 6 (.post 7 .done))))))))
  | 8 => (.take 0 (.take 1 (.take 3 (.take 4 (.one 2 (.take 5 (.take 6 (.post 7 .done))))))))
  | 10 => (.take 0 (.take 1 (.take 3 (.take 4 (.one 2 (.take 5 (.take 6 (.post 7 .done))))))))
  | 12 => (.take 0 (.take 1 (.take 3 (.take 4 (.one 2 (.take 5 (.take 6 (.post 7 .done))))))))
  | _ => .done
def ws69_1 : List (Nat × Nat) := [(4, 5), (8, 18)]
def ws77_1 : List (Nat × Nat) := [(1, 1), (4, 11), (19, 95)]
def plan77 (id : Nat) : Plan :=
  match id with
  | 7 => (.take 0 (.take 1 (.take 2 (.take 3 (.take 4 (.take 5 (.take 6 (.take 7 (.take 8 (.take 9 (.take 10 (.take 11 (.one 12 (.take 13 (.sink 14)))))))))))))))
  | 8 => (.take 0 (.take 1 (.take 2 (.take 3 (.take 4 (.take 5 (.take 6 (.take 7 (.take 8 (.take 9 (.take 10 (.take 11 (.one 12 (.take 13 (.sink 14)))))))))))))))
  | 9 => (.take 0 (.take 1 (.take 2 (.take 3 (.take 4 (.take 5 (.take 6 (.take 7 (.take 8 (.take 9 (.take 10 (.take 11 (.one 12 (.take 13 (.sink 14)))))))))))))))
  | 10 => (.take 0 (.take 1 (.take 2 (.take 3 (.take 4 (.take 5 (.take 6 (.take 7 (.take 8 (.take 9 (.take 10 (.take 11 (.one 12 (.take 13 (.sink 14)))))))))))))))
  | 17 => (.take 0 (.take 1 (.take 2 (.take 3 (.take 4 (.take 5 (.take 6 (.take 7 (.take 8 (.take 9 (.take 10 (.take 11 (.one 12 (.take 13 (.sink 14)))))))))))))))
  | 18 => (.take 0 (.take 1 (.take 2 (.take 3 (.take 4 (.take 5 (.take 6 (.take 7 (.take 8 (.take 9 (.take 10 (.take 11 (.one 12 (.take 13 (.sink 14)))))))))))))))
  | 23 => (.take 0 (.take 1 (.take 2 (.take 3 (.take 4 (.take 5 (.take 6 (.take 7 (.take 8 (.take 9 (.take 10 (.take 11 (.one 12 (.take 13 (.sink 14)))))))))))))))
  | _ => .done
def pln77 (id : Nat) : Plan :=
  match id with
  | 7 => (.take 0 (.take 1 (.take 2 (.take 3 (.take 4 (.take 5 (.take 6 (.take 7 (.take 8 (.take 9 (.take 10 (.take 11 (.one 12 (.take 13 (.post 14 .done)))))))))))))))
  | 8 => (.take 0 (.take 1 (.take 2 (.take 3 (.take 4 (.take 5 (.take 6 (.take 7 (.take 8 (.take 9 (.take 10 (.take 11 (.one 12 (.take 13 (.post 14 .done)))))))))))))))
  | 9 => (.take 0 (.take 1 (.take 2 (.take 3 (.take 4 (.take 5 (.take 6 (.take 7 (.take 8 (.take 9 (.take 10 (.take 11 (.one 12 (.take 13 (.post 14 .done)))))))))))))))
  | 10 => (.take 0 (.take 1 (.take 2 (.take 3 (.take 4 (.take 5 (.take 6 (.take 7 (.take 8 (.take 9 (.take 10 (.take 11 (.one 12 (.take 13 (.post 14 .done)))))))))))))))
  | 17 => (.take 0 (.take 1 (.take 2 (.take 3 (.take 4 (.take 5 (.take 6 (.take 7 (.take 8 (.take 9 (.take 10 (.take 11 (.one 12 (.take 13 (.post 14 .done)))))))))))))))
  | 18 => (.take 0 (.take 1 (.take 2 (.take 3 (.take 4 (.take 5 (.take 6 (.take 7 (.take 8 (.take 9 (.take 10 (.take 11 (.one 12 (.take 13 (.post 14 .done)))))))))))))))
  | 23 => (.take 0 (.take 1 (.take 2 (.take 3 (.take 4 (.take 5 (.take 6 (.take 7 (.take 8 (.take 9 (.take 10 (.take 11 (.one 12 (.take 13 (.post 14 .done)))))))))))))))
  | _ => .done
def ws78_1 : List (Nat × Nat) := [(1, 1), (13, 13), (44, 57)]
def ws78_2 : List (Nat × Nat) := [(1, 1), (13, 13), (18, 18), (66, 82)]

end Go.Proofs.YthnncehddnfjmaaDoor.Vc
