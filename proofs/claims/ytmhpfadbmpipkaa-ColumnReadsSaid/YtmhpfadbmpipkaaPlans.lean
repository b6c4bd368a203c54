/- The orders in which the reckoner walks the regions that draw theirs: printed by a program of ours, each is checked where it is used. No condition. -/
import Derived.Test.YtmhpfadbmpipkaaVc4
namespace Go.Proofs.Ytmhpfadbmpipkaa.Vc

def plan3 (id : Nat) : Plan :=
  match id with
  | 6 => (.take 0 (.take 3 (.one 1 (.take 2 (.one 4 (.take 5 (.take 6 (.take 7 (.take 8 (.take 11 (.one 9 (.take 10 (.one 12 (.take 13 (.take 14 (.take 15 (.take 16 .done)))))))))))))))))
  | _ => .done
def pln3 (id : Nat) : Plan :=
  match id with
  | 6 => (.take 0 (.take 3 (.one 1 (.take 2 (.one 4 (.take 5 (.take 6 (.take 7 (.take 8 (.take 11 (.one 9 (.take 10 (.one 12 (.take 13 (.take 14 (.take 15 (.take 16 .done)))))))))))))))))
  | _ => .done
def ws4_1 : List (Nat × Nat) := [(10, 11), (13, 14), (24, 42)]
def ws4_2 : List (Nat × Nat) := [(12, 12), (15, 16), (43, 64)]
def ws5_1 : List (Nat × Nat) := [(12, 12), (14, 21), (35, 70)]
def ws6_1 : List (Nat × Nat) := [(8, 14), (25, 71)]
def ws8_1 : List (Nat × Nat) := [(5, 53)]
def ws9_1 : List (Nat × Nat) := [(2, 6), (8, 37)]
def ws10_1 : List (Nat × Nat) := [(3, 5), (12, 24)]
def plan11 (id : Nat) : Plan :=
  match id with
  | 10 => (.take 1 (.take 2 (.take 3 (.take 5 (.take 8 (.take 9 (.take 10 (.two 0 (.two 4 (.one 6 (.one 7 (.one 11 (.take 12 .done)))) 6 (.one 4 (.one 7 (.one 11 (.take 12 .done))))) 6 (.one 0 (.one 4 (.one 7 (.one 11 (.take 12 .done)))))))))))))
  | 13 => (.take 1 (.take 2 (.take 3 (.take 5 (.take 6 (.take 7 (.take 8 (.one 0 (.one 4 (.one 9 (.take 10 .done)))))))))))
  | _ => .done
def pln11 (id : Nat) : Plan :=
  match id with
  | 10 => (.take 1 (.take 2 (.take 3 (.take 5 (.take 8 (.take 9 (.take 10 (.two 0 (.two 4 (.one 6 (.one 7 (.post 11 (.take 12 .done)))) 6 (.one 4 (.one 7 (.post 11 (.take 12 .done))))) 6 (.one 0 (.one 4 (.one 7 (.post 11 (.take 12 .done)))))))))))))
  | 13 => (.take 1 (.take 2 (.take 3 (.take 5 (.take 6 (.take 7 (.take 8 (.one 0 (.one 4 (.post 9 (.take 10 .done)))))))))))
  | _ => .done
def plan12 (id : Nat) : Plan :=
  match id with
  | 8 => (.take 1 (.take 2 (.take 5 (.take 6 (.take 8 (.take 12 (.one 0 (.take 3 (.take 4 (.one 7 (.one 9 (.take 10 (.take 11 (.one 13 (.take 14 (.take 15 (.take 16 (.take 17 (.take 18 .done)))))))))))))))))))
  | _ => .done
def pln12 (id : Nat) : Plan :=
  match id with
  | 8 => (.take 1 (.take 2 (.take 5 (.take 6 (.take 8 (.take 12 (.one 0 (.take 3 (.take 4 (.one 7 (.one 9 (.take 10 (.take 11 (.post 13 (.take 14 (.take 15 (.take 16 (.take 17 (.take 18 .done)))))))))))))))))))
  | _ => .done
def ws14_1 : List (Nat × Nat) := [(4, 5), (11, 25)]
def plan14 (id : Nat) : Plan :=
  match id with
  | 6 => (.take 0 (.take 1 (.take 2 (.take 3 (.take 4 (.take 5 (.take 6 (.take 7 (.take 8 .done)))))))))
  | _ => .done
def pln14 (id : Nat) : Plan :=
  match id with
  | 6 => (.take 0 (.take 1 (.take 2 (.take 3 (.take 4 (.take 5 (.take 6 (.take 7 (.take 8 .done)))))))))
  | _ => .done
def ws17_1 : List (Nat × Nat) := [(5, 6), (103, 114)]
def ws17_2 : List (Nat × Nat) := [(5, 5), (7, 8), (117, 149)]
def ws17_3 : List (Nat × Nat) := [(8, 8), (122, 138)]
def ws17_4 : List (Nat × Nat) := [(5, 5), (9, 9), (157, 177)]
def ws17_5 : List (Nat × Nat) := [(5, 5), (11, 11), (186, 197)]
def ws17_6 : List (Nat × Nat) := [(5, 5), (12, 12), (198, 211)]
def ws17_7 : List (Nat × Nat) := [(16, 19), (55, 97)]
def ws17_8 : List (Nat × Nat) := [(18, 19), (71, 97)]
def plan17 (id : Nat) : Plan :=
  match id with
  | 26 => (.take 0 (.take 1 (.take 2 (.take 3 (.take 4 (.take 5 (.take 6 (.take 7 (.take 8 (.take 9 (.take 10 (.take 11 (.take 12 (.take 13 (.take 14 .done)))))))))))))))
  | 35 => (.take 0 (.take 1 (.take 2 (.take 3 (.take 4 (.take 5 (.take 6 (.take 7 (.take 8 (.take 9 (.take 10 (.take 11 (.take 12 (.take 13 (.one 14 (.take 15 .done))))))))))))))))
  | 4 => (.take 0 (.take 1 (.take 2 (.take 3 (.take 4 (.take 5 (.take 6 (.take 7 (.take 8 (.take 9 (.take 10 (.take 11 (.one 12 (.take 13 .done))))))))))))))
  | 10 => (.take 0 (.take 1 (.take 2 (.take 3 (.take 4 (.take 5 (.take 6 (.take 7 (.take 8 (.take 9 (.take 10 .done)))))))))))
  | _ => .done
def pln17 (id : Nat) : Plan :=
  match id with
  | 26 => (.take 0 (.take 1 (.take 2 (.take 3 (.take 4 (.take 5 (.take 6 (.take 7 (.take 8 (.take 9 (.take 10 (.take 11 (.take 12 (.take 13 (.take 14 .done)))))))))))))))
  | 35 => (.take 0 (.take 1 (.take 2 (.take 3 (.take 4 (.take 5 (.take 6 (.take 7 (.take 8 (.take 9 (.take 10 (.take 11 (.take 12 (.take 13 (.post 14 (.take 15 .done))))))))))))))))
  | 4 => (.take 0 (.take 1 (.take 2 (.take 3 (.take 4 (.take 5 (.take 6 (.take 7 (.take 8 (.take 9 (.take 10 (.take 11 (.post 12 (.take 13 .done))))))))))))))
  | 10 => (.take 0 (.take 1 (.take 2 (.take 3 (.take 4 (.take 5 (.take 6 (.take 7 (.take 8 (.take 9 (.take 10 .done)))))))))))
  | _ => .done
def ws19_1 : List (Nat × Nat) := [(2, 5), (11, 75)]
def ws24_1 : List (Nat × Nat) := [(5, 6), (33, 42)]
def ws24_2 : List (Nat × Nat) := [(5, 5), (7, 9), (45, 87)]
def ws24_3 : List (Nat × Nat) := [(5, 5), (9, 9), (72, 87)]
def ws24_4 : List (Nat × Nat) := [(5, 5), (10, 11), (90, 112)]
def ws24_5 : List (Nat × Nat) := [(12, 12), (14, 14), (117, 126)]
def ws24_6 : List (Nat × Nat) := [(5, 5), (15, 16), (127, 157)]
def ws24_7 : List (Nat × Nat) := [(5, 5), (20, 23), (198, 244)]
def ws24_8 : List (Nat × Nat) := [(21, 23), (203, 236)]
def plan24 (id : Nat) : Plan :=
  match id with
  | 45 => (.take 0 (.take 1 (.take 2 (.take 3 (.take 4 (.take 5 (.take 6 (.take 7 (.take 8 (.take 9 (.take 10 (.take 11 (.take 12 (.take 13 (.take 14 (.take 15 (.take 16 (.take 17 (.take 18 (.take 19 (.take 20 (.take 21 (.take 22 (.take 23 (.take 24 (.take 25 (.take 26 .done)))))))))))))))))))))))))))
  | 56 => (.take 0 (.take 1 (.take 2 (.take 3 (.take 4 (.take 5 (.take 6 (.take 7 (.take 8 (.take 9 (.take 10 (.take 11 (.take 12 (.take 13 (.take 14 (.take 15 (.take 16 (.take 17 (.take 18 (.take 19 (.take 20 (.take 21 (.take 22 (.take 23 (.take 24 .done)))))))))))))))))))))))))
  | _ => .done
def pln24 (id : Nat) : Plan :=
  match id with
  | 45 => (.take 0 (.take 1 (.take 2 (.take 3 (.take 4 (.take 5 (.take 6 (.take 7 (.take 8 (.take 9 (.take 10 (.take 11 (.take 12 (.take 13 (.take 14 (.take 15 (.take 16 (.take 17 (.take 18 (.take 19 (.take 20 (.take 21 (.take 22 (.take 23 (.take 24 (.take 25 (.take 26 .done)))))))))))))))))))))))))))
  | 56 => (.take 0 (.take 1 (.take 2 (.take 3 (.take 4 (.take 5 (.take 6 (.take 7 (.take 8 (.take 9 (.take 10 (.take 11 (.take 12 (.take 13 (.take 14 (.take 15 (.take 16 (.take 17 (.take 18 (.take 19 (.take 20 (.take 21 (.take 22 (.take 23 (.take 24 .done)))))))))))))))))))))))))
  | _ => .done
def plan25 (id : Nat) : Plan :=
  match id with
  | 1 => (.take 0 (.take 1 (.take 2 (.take 3 (.take 4 (.take 5 (.take 6 (.take 7 (.take 8 (.take 9 (.take 10 (.take 11 (.take 12 (.take 13 (.take 14 (.take 15 .done))))))))))))))))
  | _ => .done
def pln25 (id : Nat) : Plan :=
  match id with
  | 1 => (.take 0 (.take 1 (.take 2 (.take 3 (.take 4 (.take 5 (.take 6 (.take 7 (.take 8 (.take 9 (.take 10 (.take 11 (.take 12 (.take 13 (.take 14 (.take 15 .done))))))))))))))))
  | _ => .done
def ws26_1 : List (Nat × Nat) := [(0, 0), (6, 6), (9, 16)]
def ws27_1 : List (Nat × Nat) := [(7, 7), (10, 23)]
def ws28_1 : List (Nat × Nat) := [(0, 0), (5, 39)]
def ws28_2 : List (Nat × Nat) := [(6, 6), (12, 28)]
def plan28 (id : Nat) : Plan :=
  match id with
  | 4 => (.take 0 (.take 1 (.take 2 (.take 3 (.take 4 (.take 5 (.take 6 (.take 7 (.take 8 (.take 9 (.take 10 (.take 11 (.take 12 (.take 13 (.take 14 .done)))))))))))))))
  | _ => .done
def pln28 (id : Nat) : Plan :=
  match id with
  | 4 => (.take 0 (.take 1 (.take 2 (.take 3 (.take 4 (.take 5 (.take 6 (.take 7 (.take 8 (.take 9 (.take 10 (.take 11 (.take 12 (.take 13 (.take 14 .done)))))))))))))))
  | _ => .done
def ws29_1 : List (Nat × Nat) := [(4, 5), (7, 9), (12, 40)]
def ws30_1 : List (Nat × Nat) := [(0, 0), (5, 5), (7, 7), (10, 20)]
def ws31_1 : List (Nat × Nat) := [(8, 8), (15, 31)]
def plan31 (id : Nat) : Plan :=
  match id with
  | 5 => (.take 0 (.take 1 (.take 2 (.take 3 (.take 4 (.take 5 (.take 6 (.take 7 (.take 8 (.take 9 (.take 10 (.sink 11))))))))))))
  | _ => .done
def pln31 (id : Nat) : Plan :=
  match id with
  | 5 => (.take 0 (.take 1 (.take 2 (.take 3 (.take 4 (.take 5 (.take 6 (.take 7 (.take 8 (.take 9 (.take 10 (.post 11 .done))))))))))))
  | _ => .done
def ws32_1 : List (Nat × Nat) := [(0, 0), (7, 9), (24, 37)]
def ws33_1 : List (Nat × Nat) := [(8, 8), (16, 29)]
def ws33_2 : List (Nat × Nat) := [(4, 5), (9, 10), (30, 55)]
def ws34_1 : List (Nat × Nat) := [(8, 12), (36, 71)]
def ws34_2 : List (Nat × Nat) := [(11, 12), (47, 70)]
def plan34 (id : Nat) : Plan :=
  match id with
  | 13 => (.take 0 (.take 1 (.take 2 (.take 3 (.take 4 (.take 5 (.take 6 (.take 7 (.take 8 (.take 9 (.take 10 (.take 11 (.take 12 (.take 13 (.take 14 (.sink 15))))))))))))))))
  | _ => .done
def pln34 (id : Nat) : Plan :=
  match id with
  | 13 => (.take 0 (.take 1 (.take 2 (.take 3 (.take 4 (.take 5 (.take 6 (.take 7 (.take 8 (.take 9 (.take 10 (.take 11 (.take 12 (.take 13 (.take 14 (.post 15 .done))))))))))))))))
  | _ => .done
def ws35_1 : List (Nat × Nat) := [(9, 13), (39, 74)]
def ws35_2 : List (Nat × Nat) := [(11, 13), (43, 65)]
def ws37_1 : List (Nat × Nat) := [(3, 4), (12, 21)]
def ws38_1 : List (Nat × Nat) := [(0, 0), (5, 5), (15, 25)]
def ws39_1 : List (Nat × Nat) := [(3, 58)]
def ws39_2 : List (Nat × Nat) := [(5, 5), (12, 28)]
def plan39 (id : Nat) : Plan :=
  match id with
  | 6 => (.take 0 (.take 1 (.take 2 (.take 3 (.take 4 (.take 5 (.take 6 (.take 7 (.take 8 (.take 9 (.take 10 (.take 11 (.take 12 (.take 13 (.take 14 .done)))))))))))))))
  | 8 => (.take 0 (.take 1 (.take 2 (.take 3 (.take 4 (.take 5 (.take 6 (.take 7 (.take 8 (.take 9 (.take 10 (.take 11 (.take 12 (.take 13 (.take 14 .done)))))))))))))))
  | 9 => (.take 1 (.take 2 (.take 3 (.take 5 (.take 6 (.take 7 (.take 8 (.take 11 (.take 12 (.take 13 (.two 0 (.two 4 (.one 9 (.one 10 (.one 14 (.take 15 .done)))) 9 (.one 4 (.one 10 (.one 14 (.take 15 .done))))) 9 (.one 0 (.one 4 (.one 10 (.one 14 (.take 15 .done))))))))))))))))
  | _ => .done
def pln39 (id : Nat) : Plan :=
  match id with
  | 6 => (.take 0 (.take 1 (.take 2 (.take 3 (.take 4 (.take 5 (.take 6 (.take 7 (.take 8 (.take 9 (.take 10 (.take 11 (.take 12 (.take 13 (.take 14 .done)))))))))))))))
  | 8 => (.take 0 (.take 1 (.take 2 (.take 3 (.take 4 (.take 5 (.take 6 (.take 7 (.take 8 (.take 9 (.take 10 (.take 11 (.take 12 (.take 13 (.take 14 .done)))))))))))))))
  | 9 => (.take 1 (.take 2 (.take 3 (.take 5 (.take 6 (.take 7 (.take 8 (.take 11 (.take 12 (.take 13 (.two 0 (.two 4 (.one 9 (.one 10 (.post 14 (.take 15 .done)))) 9 (.one 4 (.one 10 (.post 14 (.take 15 .done))))) 9 (.one 0 (.one 4 (.one 10 (.post 14 (.take 15 .done))))))))))))))))
  | _ => .done
def ws40_1 : List (Nat × Nat) := [(4, 18)]
def ws41_1 : List (Nat × Nat) := [(0, 0), (3, 9)]
def ws44_1 : List (Nat × Nat) := [(2, 84)]
def plan44 (id : Nat) : Plan :=
  match id with
  | 5 => (.take 0 (.take 1 (.take 2 (.take 3 (.take 4 (.take 5 (.take 6 (.take 7 (.take 8 (.take 9 (.take 10 (.take 11 .done))))))))))))
  | 8 => (.take 0 (.take 1 (.take 2 (.take 3 (.take 4 (.take 5 (.take 6 (.take 7 (.take 8 (.take 9 (.take 10 (.take 11 (.take 12 .done)))))))))))))
  | _ => .done
def pln44 (id : Nat) : Plan :=
  match id with
  | 5 => (.take 0 (.take 1 (.take 2 (.take 3 (.take 4 (.take 5 (.take 6 (.take 7 (.take 8 (.take 9 (.take 10 (.take 11 .done))))))))))))
  | 8 => (.take 0 (.take 1 (.take 2 (.take 3 (.take 4 (.take 5 (.take 6 (.take 7 (.take 8 (.take 9 (.take 10 (.take 11 (.take 12 .done)))))))))))))
  | _ => .done
def ws47_1 : List (Nat × Nat) := [(8, 8), (34, 46)]
def plan47 (id : Nat) : Plan :=
  match id with
  | 9 => (.take 0 (.take 1 (.take 2 (.take 3 (.take 4 (.take 5 (.take 6 (.one 7 (.take 8 (.take 9 .done))))))))))
  | _ => .done
def pln47 (id : Nat) : Plan :=
  match id with
  | 9 => (.take 0 (.take 1 (.take 2 (.take 3 (.take 4 (.take 5 (.take 6 (.one 7 (.take 8 (.take 9 .done))))))))))
  | _ => .done
def ws50_1 : List (Nat × Nat) := [(2, 5), (10, 59)]
def ws50_2 : List (Nat × Nat) := [(3, 3), (5, 5), (29, 53)]
def plan50 (id : Nat) : Plan :=
  match id with
  | 6 => (.take 0 (.take 1 (.take 2 (.take 3 (.take 4 (.take 5 (.take 6 (.take 7 (.take 8 (.take 9 .done))))))))))
  | 11 => (.take 0 (.take 1 (.take 2 (.take 3 (.take 4 (.take 5 (.take 6 (.take 7 (.take 8 (.take 9 .done))))))))))
  | _ => .done
def pln50 (id : Nat) : Plan :=
  match id with
  | 6 => (.take 0 (.take 1 (.take 2 (.take 3 (.take 4 (.take 5 (.take 6 (.take 7 (.take 8 (.take 9 .done))))))))))
  | 11 => (.take 0 (.take 1 (.take 2 (.take 3 (.take 4 (.take 5 (.take 6 (.take 7 (.take 8 (.take 9 .done))))))))))
  | _ => .done
def ws51_1 : List (Nat × Nat) := [(7, 9), (13, 30)]
def ws52_1 : List (Nat × Nat) := [(3, 4), (12, 23)]
def ws54_1 : List (Nat × Nat) := [(3, 4), (12, 23)]
def ws57_1 : List (Nat × Nat) := [(1, 3), (8, 133)]
def plan57 (id : Nat) : Plan :=
  match id with
  | 17 => (.take 0 (.take 1 (.take 2 (.take 3 (.take 4 (.take 5 (.take 6 (.take 7 (.take 8 (.take 9 (.take 10 (.take 11 (.one 12 (.take 13 (.take 14 .done)))))))))))))))
  | _ => .done
def pln57 (id : Nat) : Plan :=
  match id with
  | 17 => (.take 0 (.take 1 (.take 2 (.take 3 (.take 4 (.take 5 (.take 6 (.take 7 (.take 8 (.take 9 (.take 10 (.take 11 (.post 12 (.take 13 (.take 14 .done)))))))))))))))
  | _ => .done
def ws63_1 : List (Nat × Nat) := [(6, 7), (10, 48)]
def ws63_2 : List (Nat × Nat) := [(7, 7), (16, 48)]
def plan63 (id : Nat) : Plan :=
  match id with
  | 4 => (.take 0 (.take 1 (.take 2 (.take 3 (.take 4 (.take 5 (.take 6 (.take 7 (.take 8 (.take 9 (.take 10 (.take 11 (.take 12 (.one 13 (.take 14 .done)))))))))))))))
  | 6 => (.take 0 (.take 1 (.take 2 (.take 3 (.take 4 (.take 5 (.take 6 (.take 7 (.take 8 (.take 9 (.take 10 (.take 11 (.take 12 (.take 13 (.take 14 (.one 15 (.take 16 (.sink 17))))))))))))))))))
  | _ => .done
def pln63 (id : Nat) : Plan :=
  match id with
  | 4 => (.take 0 (.take 1 (.take 2 (.take 3 (.take 4 (.take 5 (.take 6 (.take 7 (.take 8 (.take 9 (.take 10 (.take 11 (.take 12 (.post 13 (.take 14 .done)))))))))))))))
  | 6 => (.take 0 (.take 1 (.take 2 (.take 3 (.take 4 (.take 5 (.take 6 (.take 7 (.take 8 (.take 9 (.take 10 (.take 11 (.take 12 (.take 13 (.take 14 (.one 15 (.take 16 (.post 17 .done))))))))))))))))))
  | _ => .done
def ws64_1 : List (Nat × Nat) := [(9, 9), (18, 26)]
def ws64_2 : List (Nat × Nat) := [(10, 10), (29, 55)]
def plan64 (id : Nat) : Plan :=
  match id with
  | 10 => (.take 0 (.take 1 (.take 2 (.take 3 (.take 4 (.take 5 (.take 6 (.take 7 (.take 8 (.take 9 (.take 10 (.take 11 (.take 12 (.take 13 (.take 14 (.take 15 (.take 16 (.one 17 (.take 18 (.sink 19))))))))))))))))))))
  | _ => .done
def pln64 (id : Nat) : Plan :=
  match id with
  | 10 => (.take 0 (.take 1 (.take 2 (.take 3 (.take 4 (.take 5 (.take 6 (.take 7 (.take 8 (.take 9 (.take 10 (.take 11 (.take 12 (.take 13 (.take 14 (.take 15 (.take 16 (.one 17 (.take 18 (.post 19 .done))))))))))))))))))))
  | _ => .done
def ws65_1 : List (Nat × Nat) := [(9, 10), (26, 64)]
def plan65 (id : Nat) : Plan :=
  match id with
  | 10 => (.take 0 (.take 1 (.take 2 (.take 3 (.take 4 (.take 5 (.take 6 (.take 7 (.take 8 (.take 9 (.take 10 (.take 11 (.take 12 (.take 13 (.take 14 (.take 15 (.take 16 (.one 17 (.take 18 (.sink 19))))))))))))))))))))
  | _ => .done
def pln65 (id : Nat) : Plan :=
  match id with
  | 10 => (.take 0 (.take 1 (.take 2 (.take 3 (.take 4 (.take 5 (.take 6 (.take 7 (.take 8 (.take 9 (.take 10 (.take 11 (.take 12 (.take 13 (.take 14 (.take 15 (.take 16 (.one 17 (.take 18 (.post 19 .done))))))))))))))))))))
  | _ => .done
def ws67_1 : List (Nat × Nat) := [(6, 7), (11, 31)]
def plan67 (id : Nat) : Plan :=
  match id with
  | 3 => (.take 0 (.take 1 (.take 2 (.take 3 (.take 4 (.take 5 (.take 6 (.take 7 (.take 8 (.take 9 (.take 10 (.take 11 (.take 12 (.one 13 (.take 14 (.sink 15))))))))))))))))
  | _ => .done
def pln67 (id : Nat) : Plan :=
  match id with
  | 3 => (.take 0 (.take 1 (.take 2 (.take 3 (.take 4 (.take 5 (.take 6 (.take 7 (.take 8 (.take 9 (.take 10 (.take 11 (.take 12 (.one 13 (.take 14 (.post 15 .done))))))))))))))))
  | _ => .done
def ws68_1 : List (Nat × Nat) := [(6, 10), (13, 132)]
def ws68_2 : List (Nat × Nat) := [(7, 7), (17, 34)]
def ws68_3 : List (Nat × Nat) := [(9, 9), (64, 94)]
def ws68_4 : List (Nat × Nat) := [(10, 10), (101, 132)]
def plan68 (id : Nat) : Plan :=
  match id with
  | 5 => (.take 0 (.take 1 (.take 2 (.take 3 (.take 4 (.take 5 (.take 6 (.take 7 (.take 8 (.take 9 (.take 10 (.take 11 (.take 12 (.one 13 (.take 14 (.take 15 .done))))))))))))))))
  | 11 => (.take 0 (.take 1 (.take 2 (.take 3 (.take 4 (.take 5 (.take 6 (.take 7 (.take 8 (.take 9 (.take 10 (.take 11 (.take 12 (.take 13 (.take 14 (.one 15 (.take 16 (.sink 17))))))))))))))))))
  | 16 => (.take 0 (.take 1 (.take 2 (.take 3 (.take 4 (.take 5 (.take 6 (.take 7 (.take 8 (.one 9 (.take 10 .done)))))))))))
  | 17 => (.take 0 (.take 1 (.take 2 (.take 3 (.take 4 (.take 5 (.take 6 (.take 7 (.take 8 (.take 9 (.take 10 (.take 11 (.take 12 (.take 13 (.take 14 (.one 15 (.take 16 (.sink 17))))))))))))))))))
  | 22 => (.take 0 (.take 1 (.take 2 (.take 3 (.take 4 (.take 5 (.take 6 (.take 7 (.take 8 (.one 9 (.take 10 .done)))))))))))
  | 23 => (.take 0 (.take 1 (.take 2 (.take 3 (.take 4 (.take 5 (.take 6 (.take 7 (.take 8 (.take 9 (.take 10 (.take 11 (.take 12 (.take 13 (.take 14 (.one 15 (.take 16 (.sink 17))))))))))))))))))
  | _ => .done
def pln68 (id : Nat) : Plan :=
  match id with
  | 5 => (.take 0 (.take 1 (.take 2 (.take 3 (.take 4 (.take 5 (.take 6 (.take 7 (.take 8 (.take 9 (.take 10 (.take 11 (.take 12 (.post 13 (.take 14 (.take 15 .done))))))))))))))))
  | 11 => (.take 0 (.take 1 (.take 2 (.take 3 (.take 4 (.take 5 (.take 6 (.take 7 (.take 8 (.take 9 (.take 10 (.take 11 (.take 12 (.take 13 (.take 14 (.one 15 (.take 16 (.post 17 .done))))))))))))))))))
  | 16 => (.take 0 (.take 1 (.take 2 (.take 3 (.take 4 (.take 5 (.take 6 (.take 7 (.take 8 (.post 9 (.take 10 .done)))))))))))
  | 17 => (.take 0 (.take 1 (.take 2 (.take 3 (.take 4 (.take 5 (.take 6 (.take 7 (.take 8 (.take 9 (.take 10 (.take 11 (.take 12 (.take 13 (.take 14 (.one 15 (.take 16 (.post 17 .done))))))))))))))))))
  | 22 => (.take 0 (.take 1 (.take 2 (.take 3 (.take 4 (.take 5 (.take 6 (.take 7 (.take 8 (.post 9 (.take 10 .done)))))))))))
  | 23 => (.take 0 (.take 1 (.take 2 (.take 3 (.take 4 (.take 5 (.take 6 (.take 7 (.take 8 (.take 9 (.take 10 (.take 11 (.take 12 (.take 13 (.take 14 (.one 15 (.take 16 (.post 17 .done))))))))))))))))))
  | _ => .done
def ws69_1 : List (Nat × Nat) := [(9, 10), (29, 82)]
def ws69_2 : List (Nat × Nat) := [(9, 9), (29, 45)]
def ws69_3 : List (Nat × Nat) := [(10, 10), (46, 61)]
def plan69 (id : Nat) : Plan :=
  match id with
  | 1 => (.take 0 (.take 1 (.take 2 (.take 3 (.take 4 (.take 5 (.take 6 (.take 7 (.take 8 (.take 9 (.take 10 (.take 11 (.take 12 (.one 13 (.take 14 (.sink 15))))))))))))))))
  | 3 => (.take 0 (.take 1 (.take 2 (.take 3 (.take 4 (.take 5 (.take 6 (.take 7 (.take 8 (.take 9 (.take 10 (.take 11 (.one 12 (.take 13 (.take 14 .done)))))))))))))))
  | 5 => (.take 0 (.take 1 (.take 2 (.take 3 (.take 4 (.take 5 (.take 6 (.take 7 (.take 8 (.take 9 (.take 10 (.take 11 (.one 12 (.take 13 .done))))))))))))))
  | 8 => (.take 0 (.take 1 (.take 2 (.take 3 (.take 4 (.take 5 (.take 6 (.take 7 (.take 8 (.take 9 (.take 10 (.take 11 (.take 12 (.one 13 (.take 14 (.sink 15))))))))))))))))
  | _ => .done
def pln69 (id : Nat) : Plan :=
  match id with
  | 1 => (.take 0 (.take 1 (.take 2 (.take 3 (.take 4 (.take 5 (.take 6 (.take 7 (.take 8 (.take 9 (.take 10 (.take 11 (.take 12 (.one 13 (.take 14 (.post 15 .done))))))))))))))))
  | 3 => (.take 0 (.take 1 (.take 2 (.take 3 (.take 4 (.take 5 (.take 6 (.take 7 (.take 8 (.take 9 (.take 10 (.take 11 (.post 12 (.take 13 (.take 14 .done)))))))))))))))
  | 5 => (.take 0 (.take 1 (.take 2 (.take 3 (.take 4 (.take 5 (.take 6 (.take 7 (.take 8 (.take 9 (.take 10 (.take 11 (.post 12 (.take 13 .done))))))))))))))
  | 8 => (.take 0 (.take 1 (.take 2 (.take 3 (.take 4 (.take 5 (.take 6 (.take 7 (.take 8 (.take 9 (.take 10 (.take 11 (.take 12 (.one 13 (.take 14 (.post 15 .done))))))))))))))))
  | _ => .done
def ws70_1 : List (Nat × Nat) := [(10, 10), (30, 45)]
def ws70_2 : List (Nat × Nat) := [(11, 11), (46, 62)]
def ws70_3 : List (Nat × Nat) := [(10, 11), (99, 152)]
def ws70_4 : List (Nat × Nat) := [(10, 10), (99, 114)]
def ws70_5 : List (Nat × Nat) := [(11, 11), (115, 131)]
def plan70 (id : Nat) : Plan :=
  match id with
  | 1 => (.take 0 (.take 1 (.take 2 (.take 3 (.take 4 (.take 5 (.take 6 (.take 7 (.take 8 (.take 9 (.take 10 (.take 11 (.take 12 (.one 13 (.take 14 (.sink 15))))))))))))))))
  | 3 => (.take 0 (.take 1 (.take 2 (.take 3 (.take 4 (.take 5 (.take 6 (.take 7 (.take 8 (.take 9 (.take 10 (.take 11 (.one 12 (.take 13 .done))))))))))))))
  | 5 => (.take 0 (.take 1 (.take 2 (.take 3 (.take 4 (.take 5 (.take 6 (.take 7 (.take 8 (.take 9 (.take 10 (.take 11 (.one 12 (.take 13 (.take 14 .done)))))))))))))))
  | 8 => (.take 0 (.take 1 (.take 2 (.take 3 (.take 4 (.take 5 (.take 6 (.take 7 (.take 8 (.take 9 (.take 10 (.take 11 (.take 12 (.one 13 (.take 14 (.sink 15))))))))))))))))
  | 10 => (.take 0 (.take 1 (.take 2 (.take 3 (.take 4 (.take 5 (.take 6 (.take 7 (.take 8 (.take 9 (.take 10 (.take 11 (.take 12 (.one 13 (.take 14 (.sink 15))))))))))))))))
  | 13 => (.take 0 (.take 1 (.take 2 (.take 3 (.take 4 (.take 5 (.take 6 (.take 7 (.take 8 (.take 9 (.take 10 (.take 11 (.one 12 (.take 13 .done))))))))))))))
  | 15 => (.take 0 (.take 1 (.take 2 (.take 3 (.take 4 (.take 5 (.take 6 (.take 7 (.take 8 (.take 9 (.take 10 (.take 11 (.one 12 (.take 13 (.take 14 .done)))))))))))))))
  | 18 => (.take 0 (.take 1 (.take 2 (.take 3 (.take 4 (.take 5 (.take 6 (.take 7 (.take 8 (.take 9 (.take 10 (.take 11 (.take 12 (.one 13 (.take 14 (.sink 15))))))))))))))))
  | 21 => (.take 0 (.take 1 (.take 2 (.take 3 (.take 4 (.take 5 (.take 6 (.take 7 (.take 8 (.take 9 (.take 10 (.take 11 (.take 12 (.one 13 (.take 14 (.sink 15))))))))))))))))
  | _ => .done
def pln70 (id : Nat) : Plan :=
  match id with
  | 1 => (.take 0 (.take 1 (.take 2 (.take 3 (.take 4 (.take 5 (.take 6 (.take 7 (.take 8 (.take 9 (.take 10 (.take 11 (.take 12 (.one 13 (.take 14 (.post 15 .done))))))))))))))))
  | 3 => (.take 0 (.take 1 (.take 2 (.take 3 (.take 4 (.take 5 (.take 6 (.take 7 (.take 8 (.take 9 (.take 10 (.take 11 (.post 12 (.take 13 .done))))))))))))))
  | 5 => (.take 0 (.take 1 (.take 2 (.take 3 (.take 4 (.take 5 (.take 6 (.take 7 (.take 8 (.take 9 (.take 10 (.take 11 (.post 12 (.take 13 (.take 14 .done)))))))))))))))
  | 8 => (.take 0 (.take 1 (.take 2 (.take 3 (.take 4 (.take 5 (.take 6 (.take 7 (.take 8 (.take 9 (.take 10 (.take 11 (.take 12 (.one 13 (.take 14 (.post 15 .done))))))))))))))))
  | 10 => (.take 0 (.take 1 (.take 2 (.take 3 (.take 4 (.take 5 (.take 6 (.take 7 (.take 8 (.take 9 (.take 10 (.take 11 (.take 12 (.one 13 (.take 14 (.post 15 .done))))))))))))))))
  | 13 => (.take 0 (.take 1 (.take 2 (.take 3 (.take 4 (.take 5 (.take 6 (.take 7 (.take 8 (.take 9 (.take 10 (.take 11 (.post 12 (.take 13 .done))))))))))))))
  | 15 => (.take 0 (.take 1 (.take 2 (.take 3 (.take 4 (.take 5 (.take 6 (.take 7 (.take 8 (.take 9 (.take 10 (.take 11 (.post 12 (.take 13 (.take 14 .done)))))))))))))))
  | 18 => (.take 0 (.take 1 (.take 2 (.take 3 (.take 4 (.take 5 (.take 6 (.take 7 (.take 8 (.take 9 (.take 10 (.take 11 (.take 12 (.one 13 (.take 14 (.post 15 .done))))))))))))))))
  | 21 => (.take 0 (.take 1 (.take 2 (.take 3 (.take 4 (.take 5 (.take 6 (.take 7 (.take 8 (.take 9 (.take 10 (.take 11 (.take 12 (.one 13 (.take 14 (.post 15 .done))))))))))))))))
  | _ => .done
def ws73_1 : List (Nat × Nat) := [(8, 9), (11, 75)]
def plan73 (id : Nat) : Plan :=
  match id with
  | 3 => (.take 0 (.take 1 (.take 2 (.take 3 (.take 4 (.take 5 (.take 6 (.take 7 (.take 8 (.take 9 (.take 10 (.take 11 (.take 12 (.take 13 (.take 14 (.take 15 (.take 16 (.take 17 (.one 18 (.take 19 .done))))))))))))))))))))
  | 5 => (.take 0 (.take 1 (.take 2 (.take 3 (.take 4 (.take 5 (.take 6 (.take 7 (.take 8 (.take 9 (.take 10 (.take 11 (.one 12 (.take 13 .done))))))))))))))
  | 6 => (.take 0 (.take 1 (.take 2 (.take 3 (.take 4 (.take 5 (.take 6 (.take 7 (.take 8 (.take 9 (.take 10 (.take 11 (.take 12 (.take 13 (.take 14 (.take 15 (.take 16 (.take 17 (.take 18 (.take 19 (.take 20 (.one 21 (.take 22 (.sink 23))))))))))))))))))))))))
  | _ => .done
def pln73 (id : Nat) : Plan :=
  match id with
  | 3 => (.take 0 (.take 1 (.take 2 (.take 3 (.take 4 (.take 5 (.take 6 (.take 7 (.take 8 (.take 9 (.take 10 (.take 11 (.take 12 (.take 13 (.take 14 (.take 15 (.take 16 (.take 17 (.post 18 (.take 19 .done))))))))))))))))))))
  | 5 => (.take 0 (.take 1 (.take 2 (.take 3 (.take 4 (.take 5 (.take 6 (.take 7 (.take 8 (.take 9 (.take 10 (.take 11 (.post 12 (.take 13 .done))))))))))))))
  | 6 => (.take 0 (.take 1 (.take 2 (.take 3 (.take 4 (.take 5 (.take 6 (.take 7 (.take 8 (.take 9 (.take 10 (.take 11 (.take 12 (.take 13 (.take 14 (.take 15 (.take 16 (.take 17 (.take 18 (.take 19 (.take 20 (.one 21 (.take 22 (.post 23 .done))))))))))))))))))))))))
  | _ => .done
def plan75 (id : Nat) : Plan :=
  match id with
  | 1 => (.take 0 (.take 1 (.take 2 (.take 3 (.take 4 (.take 5 (.take 6 (.take 7 (.take 8 (.sink 9))))))))))
  | 2 => (.take 0 (.take 1 (.take 2 (.take 3 (.take 4 (.take 5 (.take 6 (.take 7 (.take 8 (.sink 9))))))))))
  | 3 => (.take 0 (.take 1 (.take 2 (.take 3 (.take 4 (.take 5 (.take 6 (.take 7 (.take 8 (.sink 9))))))))))
  | _ => .done
def pln75 (id : Nat) : Plan :=
  match id with
  | 1 => (.take 0 (.take 1 (.take 2 (.take 3 (.take 4 (.take 5 (.take 6 (.take 7 (.take 8 (.post 9 .done))))))))))
  | 2 => (.take 0 (.take 1 (.take 2 (.take 3 (.take 4 (.take 5 (.take 6 (.take 7 (.take 8 (.post 9 .done))))))))))
  | 3 => (.take 0 (.take 1 (.take 2 (.take 3 (.take 4 (.take 5 (.take 6 (.take 7 (.take 8 (.post 9 .done))))))))))
  | _ => .done
def plan78 (id : Nat) : Plan :=
  match id with
  | 1 => (.take 0 (.take 1 (.take 2 (.take 3 (.take 4 (.take 5 (.take 6 (.take 7 (.sink 8)))))))))
  | _ => .done
def pln78 (id : Nat) : Plan :=
  match id with
  | 1 => (.take 0 (.take 1 (.take 2 (.take 3 (.take 4 (.take 5 (.take 6 (.take 7 (.post 8 .done)))))))))
  | _ => .done

end Go.Proofs.Ytmhpfadbmpipkaa.Vc
