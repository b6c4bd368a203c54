/- The orders in which the reckoner walks the regions that draw theirs: printed by a program of ours, each is checked where it is used. No condition. -/
import Derived.Test.YtinpgogjkmmjpaaDoorVc4
namespace Go.Proofs.YtinpgogjkmmjpaaDoor.Vc

def ws3_1 : List (Nat × Nat) := [(2, 2), (4, 12), (18, 68)]
def pln3 (id : Nat) : Plan :=
  match id with
  | 9 => (.take 0 (.take 1 (.take 2 (.take 3 (.take 4 (.two 5 (.take 6 (.take 7 (.take 8 (.take 9 (.take 10 (.one 11 (.one 12 (.take 13 (.take 14 (.take 15 .done)))))))))) 11 (.one 5 (.take 6 (.take 7 (.take 8 (.take 9 (.take 10 (.one 12 (.take 13 (.take 14 (.take 15 .done))))))))))))))))
  | 10 => (.take 0 (.take 1 (.take 2 (.take 3 (.take 4 (.two 5 (.take 6 (.take 7 (.take 8 (.take 9 (.take 10 (.one 11 (.one 12 (.take 13 (.take 14 (.take 15 .done)))))))))) 11 (.one 5 (.take 6 (.take 7 (.take 8 (.take 9 (.take 10 (.one 12 (.take 13 (.take 14 (.take 15 .done))))))))))))))))
  | _ => .done
def plan3 (id : Nat) : Plan := pln3 id
def plan4 (id : Nat) : Plan :=
  match id with
  | 6 => (.take 0 (.take 1 (.take 3 (.take 4 (.take 7 (.take 8 (.three 2 (.three 5 (.two 6 (.two 9 (.take 10 (.one 11 (.sink 12))) 11 (.one 9 (.take 10 (.sink 12)))) 11 (.one 6 (.one 9 (.take 10 (.sink 12))))) 6 (.two 5 (.two 9 (.take 10 (.one 11 (.sink 12))) 11 (.one 9 (.take 10 (.sink 12)))) 11 (.one 5 (.one 9 (.take 10 (.sink 12))))) 11 (.two 5 (.one 6 (.one 9 (.take 10 (.sink 12)))) 6 (.one 5 (.one 9 (.take 10 (.sink 12)))))) 6 (.two 2 (.two 5 (.two 9 (.take 10 (.one 11 (.sink 12))) 11 (.one 9 (.take 10 (.sink 12)))) 11 (.one 5 (.one 9 (.take 10 (.sink 12))))) 11 (.one 2 (.one 5 (.one 9 (.take 10 (.sink 12)))))) 11 (.two 2 (.two 5 (.one 6 (.one 9 (.take 10 (.sink 12)))) 6 (.one 5 (.one 9 (.take 10 (.sink 12))))) 6 (.one 2 (.one 5 (.one 9 (.take 10 (.sink 12)))))))))))))
  | 10 => (.take 0 (.take 1 (.take 2 (.take 3 (.take 4 (.take 5 (.take 6 (.take 7 (.take 8 (.take 9 .done))))))))))
  | 19 => (.take 0 (.take 1 (.take 2 (.take 3 (.take 4 (.take 5 (.take 6 (.take 7 (.take 8 (.take 9 .done))))))))))
  | 39 => (.take 0 (.take 2 (.one 1 (.one 3 (.take 4 (.take 5 .done))))))
  | _ => .done
def pln4 (id : Nat) : Plan :=
  match id with
  | 6 => (.take 0 (.take 1 (.take 3 (.take 4 (.take 7 (.take 8 (.three 2 (.three 5 (.two 6 (.two 9 (.take 10 (.one 11 (.post 12 .done))) 11 (.one 9 (.take 10 (.post 12 .done)))) 11 (.one 6 (.one 9 (.take 10 (.post 12 .done))))) 6 (.two 5 (.two 9 (.take 10 (.one 11 (.post 12 .done))) 11 (.one 9 (.take 10 (.post 12 .done)))) 11 (.one 5 (.one 9 (.take 10 (.post 12 .done))))) 11 (.two 5 (.one 6 (.one 9 (.take 10 (.post 12 .done)))) 6 (.one 5 (.one 9 (.take 10 (.post 12 .done)))))) 6 (.two 2 (.two 5 (.two 9 (.take 10 (.one 11 (.post 12 .done))) 11 (.one 9 (.take 10 (.post 12 .done)))) 11 (.one 5 (.one 9 (.take 10 (.post 12 .done))))) 11 (.one 2 (.one 5 (.one 9 (.take 10 (.post 12 .done)))))) 11 (.two 2 (.two 5 (.one 6 (.one 9 (.take 10 (.post 12 .done)))) 6 (.one 5 (.one 9 (.take 10 (.post 12 .done))))) 6 (.one 2 (.one 5 (.one 9 (.take 10 (.post 12 .done)))))))))))))
  | 10 => (.take 0 (.take 1 (.take 2 (.take 3 (.take 4 (.take 5 (.take 6 (.take 7 (.take 8 (.take 9 .done))))))))))
  | 19 => (.take 0 (.take 1 (.take 2 (.take 3 (.take 4 (.take 5 (.take 6 (.take 7 (.take 8 (.take 9 .done))))))))))
  | 39 => (.take 0 (.take 2 (.one 1 (.post 3 (.take 4 (.take 5 .done))))))
  | _ => .done
def ws5_1 : List (Nat × Nat) := [(4, 4), (7, 10), (24, 79)]
def ws5_2 : List (Nat × Nat) := [(4, 4), (9, 10), (34, 79)]
def ws5_3 : List (Nat × Nat) := [(4, 4), (10, 10), (41, 79)]
def plan5 (id : Nat) : Plan :=
  match id with
  | 17 => (.take 0 (.take 1 (.take 2 (.take 3 (.take 4 (.take 5 (.take 6 (.one 7 (.take 8 (.take 9 (.take 10 (.take 11 (.take 12 (.take 13 (.take 14 (.take 15 (.one 16 (.take 17 (.take 18 (.take 19 (.take 20 (.take 21 (.take 22 (.take 23 (.take 24 (.take 25 (.take 26 (.take 27 (.take 28 (.take 29 (.take 30 (.take 31 (.one 32 (.take 33 .done))))))))))))))))))))))))))))))))))
  | _ => .done
def pln5 (id : Nat) : Plan :=
  match id with
  | 17 => (.take 0 (.take 1 (.take 2 (.take 3 (.take 4 (.take 5 (.take 6 (.post 7 (.take 8 (.take 9 (.take 10 (.take 11 (.take 12 (.take 13 (.take 14 (.take 15 (.post 16 (.take 17 (.take 18 (.take 19 (.take 20 (.take 21 (.take 22 (.take 23 (.take 24 (.take 25 (.take 26 (.take 27 (.take 28 (.take 29 (.take 30 (.take 31 (.post 32 (.take 33 .done))))))))))))))))))))))))))))))))))
  | _ => .done
def ws6_1 : List (Nat × Nat) := [(2, 2), (4, 11), (17, 119)]
def ws6_2 : List (Nat × Nat) := [(2, 2), (9, 11), (85, 118)]
def plan6 (id : Nat) : Plan :=
  match id with
  | 9 => (.take 0 (.take 1 (.take 2 (.take 3 (.take 4 (.two 5 (.take 6 (.take 7 (.take 8 (.take 9 (.take 10 (.one 11 (.one 12 (.take 13 (.take 14 (.take 15 .done)))))))))) 11 (.one 5 (.take 6 (.take 7 (.take 8 (.take 9 (.take 10 (.one 12 (.take 13 (.take 14 (.take 15 .done))))))))))))))))
  | 11 => (.take 0 (.take 1 (.take 2 (.take 3 (.take 4 (.take 5 (.take 6 (.take 7 (.take 8 (.take 9 (.take 10 (.take 11 (.take 12 (.take 13 (.take 14 (.take 15 (.take 16 (.take 17 (.take 18 (.take 19 (.take 20 (.take 21 (.take 22 (.take 23 (.take 24 (.take 25 (.take 26 (.take 27 (.take 28 (.take 29 (.take 30 (.take 31 (.take 32 (.take 33 (.take 34 (.one 35 (.take 36 (.take 37 (.take 38 (.take 39 (.take 40 (.take 41 (.take 42 (.take 43 (.take 44 (.take 45 (.one 46 (.take 47 (.take 48 .done)))))))))))))))))))))))))))))))))))))))))))))))))
  | 16 => (.take 0 (.take 1 (.take 2 (.take 3 (.take 4 (.take 5 (.take 6 (.take 7 (.take 8 (.take 9 (.two 10 (.one 11 (.one 12 (.sink 13))) 11 (.one 10 (.one 12 (.sink 13))))))))))))))
  | 19 => (.take 0 (.take 1 (.take 2 (.take 3 (.take 4 (.one 5 (.take 6 (.sink 7))))))))
  | _ => .done
def pln6 (id : Nat) : Plan :=
  match id with
  | 9 => (.take 0 (.take 1 (.take 2 (.take 3 (.take 4 (.two 5 (.take 6 (.take 7 (.take 8 (.take 9 (.take 10 (.one 11 (.one 12 (.take 13 (.take 14 (.take 15 .done)))))))))) 11 (.one 5 (.take 6 (.take 7 (.take 8 (.take 9 (.take 10 (.one 12 (.take 13 (.take 14 (.take 15 .done))))))))))))))))
  | 11 => (.take 0 (.take 1 (.take 2 (.take 3 (.take 4 (.take 5 (.take 6 (.take 7 (.take 8 (.take 9 (.take 10 (.take 11 (.take 12 (.take 13 (.take 14 (.take 15 (.take 16 (.take 17 (.take 18 (.take 19 (.take 20 (.take 21 (.take 22 (.take 23 (.take 24 (.take 25 (.take 26 (.take 27 (.take 28 (.take 29 (.take 30 (.take 31 (.take 32 (.take 33 (.take 34 (.post 35 (.take 36 (.take 37 (.take 38 (.take 39 (.take 40 (.take 41 (.take 42 (.take 43 (.take 44 (.take 45 (.one 46 (.take 47 (.take 48 .done)))))))))))))))))))))))))))))))))))))))))))))))))
  | 16 => (.take 0 (.take 1 (.take 2 (.take 3 (.take 4 (.take 5 (.take 6 (.take 7 (.take 8 (.take 9 (.two 10 (.one 11 (.one 12 (.post 13 .done))) 11 (.one 10 (.one 12 (.post 13 .done))))))))))))))
  | 19 => (.take 0 (.take 1 (.take 2 (.take 3 (.take 4 (.one 5 (.take 6 (.post 7 .done))))))))
  | _ => .done
def ws7_1 : List (Nat × Nat) := [(6, 6), (13, 23), (58, 149)]
def ws8_1 : List (Nat × Nat) := [(8, 8), (16, 20), (47, 86)]
def plan8 (id : Nat) : Plan :=
  match id with
  | 9 => (.take 0 (.take 1 (.take 4 (.take 5 (.take 6 (.one 2 (.one 3 (.take 7 (.take 8 (.take 9 (.take 10 .done)))))))))))
  | 16 => (.take 0 (.take 1 (.take 2 (.take 3 (.take 4 (.one 5 (.take 6 (.sink 7))))))))
  | _ => .done
def pln8 (id : Nat) : Plan :=
  match id with
  | 9 => (.take 0 (.take 1 (.take 4 (.take 5 (.take 6 (.one 2 (.one 3 (.take 7 (.take 8 (.take 9 (.take 10 .done)))))))))))
  | 16 => (.take 0 (.take 1 (.take 2 (.take 3 (.take 4 (.one 5 (.take 6 (.post 7 .done))))))))
  | _ => .done
def pln9 (id : Nat) : Plan :=
  match id with
  | 6 => (.take 0 (.take 1 (.take 4 (.take 5 (.take 6 (.one 2 (.one 3 (.take 7 (.take 8 (.take 9 (.take 10 .done)))))))))))
  | 7 => (.take 0 (.take 1 (.take 2 (.take 3 (.take 4 (.take 5 (.take 6 (.take 7 (.take 8 (.take 9 (.take 10 (.take 11 (.take 12 (.take 13 .done))))))))))))))
  | _ => .done
def plan9 (id : Nat) : Plan := pln9 id
def plan10 (id : Nat) : Plan :=
  match id with
  | 15 => (.take 0 (.take 2 (.one 1 (.one 3 (.take 4 (.take 5 (.take 6 (.take 7 (.take 8 (.take 9 (.take 10 (.take 11 (.take 12 (.take 13 (.take 14 (.take 15 (.take 16 (.take 17 (.take 18 (.take 19 (.take 20 (.take 21 (.take 22 (.take 23 (.take 24 (.take 25 (.take 26 (.take 27 (.take 28 (.take 29 (.take 30 (.take 31 (.take 32 (.take 33 (.take 34 (.take 35 (.take 36 (.take 37 (.one 38 (.take 39 (.take 40 (.take 41 (.take 42 (.take 43 (.take 44 (.take 45 (.take 46 (.take 47 (.one 48 (.take 49 (.take 50 (.take 51 (.take 52 (.one 53 (.take 54 (.take 55 (.take 56 (.take 57 (.take 58 (.take 59 (.take 60 (.take 61 (.take 62 (.take 63 (.take 64 (.take 65 (.take 66 (.take 67 (.one 68 (.take 69 (.take 70 .done)))))))))))))))))))))))))))))))))))))))))))))))))))))))))))))))))))))))
  | _ => .done
def pln10 (id : Nat) : Plan :=
  match id with
  | 15 => (.take 0 (.take 2 (.one 1 (.post 3 (.take 4 (.take 5 (.take 6 (.take 7 (.take 8 (.take 9 (.take 10 (.take 11 (.take 12 (.take 13 (.take 14 (.take 15 (.take 16 (.take 17 (.take 18 (.take 19 (.take 20 (.take 21 (.take 22 (.take 23 (.take 24 (.take 25 (.take 26 (.take 27 (.take 28 (.take 29 (.take 30 (.take 31 (.take 32 (.take 33 (.take 34 (.take 35 (.take 36 (.take 37 (.post 38 (.take 39 (.take 40 (.take 41 (.take 42 (.take 43 (.take 44 (.take 45 (.take 46 (.take 47 (.post 48 (.take 49 (.take 50 (.take 51 (.take 52 (.post 53 (.take 54 (.take 55 (.take 56 (.take 57 (.take 58 (.take 59 (.take 60 (.take 61 (.take 62 (.take 63 (.take 64 (.take 65 (.take 66 (.take 67 (.post 68 (.take 69 (.take 70 .done)))))))))))))))))))))))))))))))))))))))))))))))))))))))))))))))))))))))
  | _ => .done
def ws11_1 : List (Nat × Nat) := [(4, 4), (13, 18), (69, 112)]
def ws11_2 : List (Nat × Nat) := [(4, 4), (16, 18), (91, 112)]
def ws12_1 : List (Nat × Nat) := [(6, 6), (11, 11), (13, 17), (61, 119)]
def ws12_2 : List (Nat × Nat) := [(6, 6), (17, 17), (105, 119)]
def plan12 (id : Nat) : Plan :=
  match id with
  | 6 => (.take 0 (.take 1 (.take 4 (.take 5 (.take 6 (.one 2 (.one 3 (.take 7 (.take 8 (.take 9 (.take 10 .done)))))))))))
  | 18 => (.take 0 (.take 1 (.take 2 (.take 4 (.take 5 (.take 6 (.one 3 (.one 7 (.take 8 (.take 9 .done))))))))))
  | 24 => (.take 0 (.take 1 (.take 2 (.take 3 (.take 4 (.take 5 (.take 6 (.take 7 (.take 8 .done)))))))))
  | _ => .done
def pln12 (id : Nat) : Plan :=
  match id with
  | 6 => (.take 0 (.take 1 (.take 4 (.take 5 (.take 6 (.one 2 (.one 3 (.take 7 (.take 8 (.take 9 (.take 10 .done)))))))))))
  | 18 => (.take 0 (.take 1 (.take 2 (.take 4 (.take 5 (.take 6 (.one 3 (.post 7 (.take 8 (.take 9 .done))))))))))
  | 24 => (.take 0 (.take 1 (.take 2 (.take 3 (.take 4 (.take 5 (.take 6 (.take 7 (.take 8 .done)))))))))
  | _ => .done
def pln14 (id : Nat) : Plan :=
  match id with
  | 6 => (.take 0 (.take 1 (.take 2 (.take 3 (.take 5 (.take 7 (.take 8 (.take 9 (.take 10 (.take 11 (.take 12 (.three 4 (.three 6 (.three 13 (.take 14 (.take 15 (.take 16 (.take 17 (.two 18 (.one 19 (.one 20 (.one 21 (.take 22 .done)))) 19 (.one 18 (.one 20 (.one 21 (.take 22 .done))))))))) 18 (.two 13 (.take 14 (.take 15 (.take 16 (.take 17 (.one 19 (.one 20 (.one 21 (.take 22 .done)))))))) 19 (.one 13 (.take 14 (.take 15 (.take 16 (.take 17 (.one 20 (.one 21 (.take 22 .done))))))))) 19 (.two 13 (.take 14 (.take 15 (.take 16 (.take 17 (.one 18 (.one 20 (.one 21 (.take 22 .done)))))))) 18 (.one 13 (.take 14 (.take 15 (.take 16 (.take 17 (.one 20 (.one 21 (.take 22 .done)))))))))) 18 (.two 6 (.two 13 (.take 14 (.take 15 (.take 16 (.take 17 (.one 19 (.one 20 (.one 21 (.take 22 .done)))))))) 19 (.one 13 (.take 14 (.take 15 (.take 16 (.take 17 (.one 20 (.one 21 (.take 22 .done))))))))) 19 (.one 6 (.one 13 (.take 14 (.take 15 (.take 16 (.take 17 (.one 20 (.one 21 (.take 22 .done)))))))))) 19 (.two 6 (.two 13 (.take 14 (.take 15 (.take 16 (.take 17 (.one 18 (.one 20 (.one 21 (.take 22 .done)))))))) 18 (.one 13 (.take 14 (.take 15 (.take 16 (.take 17 (.one 20 (.one 21 (.take 22 .done))))))))) 18 (.one 6 (.one 13 (.take 14 (.take 15 (.take 16 (.take 17 (.one 20 (.one 21 (.take 22 .done))))))))))) 18 (.two 4 (.two 6 (.two 13 (.take 14 (.take 15 (.take 16 (.take 17 (.one 19 (.one 20 (.one 21 (.take 22 .done)))))))) 19 (.one 13 (.take 14 (.take 15 (.take 16 (.take 17 (.one 20 (.one 21 (.take 22 .done))))))))) 19 (.one 6 (.one 13 (.take 14 (.take 15 (.take 16 (.take 17 (.one 20 (.one 21 (.take 22 .done)))))))))) 19 (.one 4 (.one 6 (.one 13 (.take 14 (.take 15 (.take 16 (.take 17 (.one 20 (.one 21 (.take 22 .done))))))))))) 19 (.two 4 (.two 6 (.two 13 (.take 14 (.take 15 (.take 16 (.take 17 (.one 18 (.one 20 (.one 21 (.take 22 .done)))))))) 18 (.one 13 (.take 14 (.take 15 (.take 16 (.take 17 (.one 20 (.one 21 (.take 22 .done))))))))) 18 (.one 6 (.one 13 (.take 14 (.take 15 (.take 16 (.take 17 (.one 20 (.one 21 (.take 22 .done)))))))))) 18 (.one 4 (.one 6 (.one 13 (.take 14 (.take 15 (.take 16 (.take 17 (.one 20 (.one 21 (.take 22 .done)))))))))))))))))))))))
  | 7 => (.take 0 (.take 1 (.take 3 (.two 2 (.one 4 (.take 5 (.take 6 (.take 7 .done)))) 4 (.one 2 (.take 5 (.take 6 (.take 7 .done))))))))
  | 9 => (.take 0 (.take 1 (.take 2 (.take 3 (.take 5 (.take 6 (.take 7 (.take 9 (.two 4 (.two 8 (.two 10 (.take 11 (.take 12 (.take 13 (.take 14 (.one 15 (.one 16 (.take 17 (.take 18 .done)))))))) 15 (.one 10 (.take 11 (.take 12 (.take 13 (.take 14 (.one 16 (.take 17 (.take 18 .done))))))))) 15 (.one 8 (.one 10 (.take 11 (.take 12 (.take 13 (.take 14 (.one 16 (.take 17 (.take 18 .done)))))))))) 15 (.one 4 (.one 8 (.one 10 (.take 11 (.take 12 (.take 13 (.take 14 (.one 16 (.take 17 (.take 18 .done)))))))))))))))))))
  | 11 => (.take 0 (.take 2 (.take 3 (.take 4 (.take 5 (.take 8 (.two 1 (.take 6 (.take 7 (.two 9 (.take 10 (.take 11 (.take 12 (.take 13 (.one 14 (.one 15 (.take 16 (.take 17 .done)))))))) 14 (.one 9 (.take 10 (.take 11 (.take 12 (.take 13 (.one 15 (.take 16 (.take 17 .done))))))))))) 14 (.one 1 (.take 6 (.take 7 (.one 9 (.take 10 (.take 11 (.take 12 (.take 13 (.one 15 (.take 16 (.take 17 .done))))))))))))))))))
  | _ => .done
def plan14 (id : Nat) : Plan := pln14 id
def pln15 (id : Nat) : Plan :=
  match id with
  | 6 => (.take 0 (.take 1 (.take 2 (.take 3 (.take 5 (.take 7 (.take 8 (.take 9 (.take 10 (.take 11 (.take 12 (.three 4 (.three 6 (.three 13 (.take 14 (.take 15 (.take 16 (.take 17 (.two 18 (.one 19 (.one 20 (.one 21 (.take 22 .done)))) 19 (.one 18 (.one 20 (.one 21 (.take 22 .done))))))))) 18 (.two 13 (.take 14 (.take 15 (.take 16 (.take 17 (.one 19 (.one 20 (.one 21 (.take 22 .done)))))))) 19 (.one 13 (.take 14 (.take 15 (.take 16 (.take 17 (.one 20 (.one 21 (.take 22 .done))))))))) 19 (.two 13 (.take 14 (.take 15 (.take 16 (.take 17 (.one 18 (.one 20 (.one 21 (.take 22 .done)))))))) 18 (.one 13 (.take 14 (.take 15 (.take 16 (.take 17 (.one 20 (.one 21 (.take 22 .done)))))))))) 18 (.two 6 (.two 13 (.take 14 (.take 15 (.take 16 (.take 17 (.one 19 (.one 20 (.one 21 (.take 22 .done)))))))) 19 (.one 13 (.take 14 (.take 15 (.take 16 (.take 17 (.one 20 (.one 21 (.take 22 .done))))))))) 19 (.one 6 (.one 13 (.take 14 (.take 15 (.take 16 (.take 17 (.one 20 (.one 21 (.take 22 .done)))))))))) 19 (.two 6 (.two 13 (.take 14 (.take 15 (.take 16 (.take 17 (.one 18 (.one 20 (.one 21 (.take 22 .done)))))))) 18 (.one 13 (.take 14 (.take 15 (.take 16 (.take 17 (.one 20 (.one 21 (.take 22 .done))))))))) 18 (.one 6 (.one 13 (.take 14 (.take 15 (.take 16 (.take 17 (.one 20 (.one 21 (.take 22 .done))))))))))) 18 (.two 4 (.two 6 (.two 13 (.take 14 (.take 15 (.take 16 (.take 17 (.one 19 (.one 20 (.one 21 (.take 22 .done)))))))) 19 (.one 13 (.take 14 (.take 15 (.take 16 (.take 17 (.one 20 (.one 21 (.take 22 .done))))))))) 19 (.one 6 (.one 13 (.take 14 (.take 15 (.take 16 (.take 17 (.one 20 (.one 21 (.take 22 .done)))))))))) 19 (.one 4 (.one 6 (.one 13 (.take 14 (.take 15 (.take 16 (.take 17 (.one 20 (.one 21 (.take 22 .done))))))))))) 19 (.two 4 (.two 6 (.two 13 (.take 14 (.take 15 (.take 16 (.take 17 (.one 18 (.one 20 (.one 21 (.take 22 .done)))))))) 18 (.one 13 (.take 14 (.take 15 (.take 16 (.take 17 (.one 20 (.one 21 (.take 22 .done))))))))) 18 (.one 6 (.one 13 (.take 14 (.take 15 (.take 16 (.take 17 (.one 20 (.one 21 (.take 22 .done)))))))))) 18 (.one 4 (.one 6 (.one 13 (.take 14 (.take 15 (.take 16 (.take 17 (.one 20 (.one 21 (.take 22 .done)))))))))))))))))))))))
  | 7 => (.take 0 (.take 1 (.take 3 (.two 2 (.one 4 (.take 5 (.take 6 (.take 7 .done)))) 4 (.one 2 (.take 5 (.take 6 (.take 7 .done))))))))
  | 9 => (.take 0 (.take 1 (.take 2 (.take 3 (.take 5 (.take 6 (.take 7 (.take 9 (.two 4 (.two 8 (.two 10 (.take 11 (.take 12 (.take 13 (.take 14 (.one 15 (.one 16 (.take 17 (.take 18 .done)))))))) 15 (.one 10 (.take 11 (.take 12 (.take 13 (.take 14 (.one 16 (.take 17 (.take 18 .done))))))))) 15 (.one 8 (.one 10 (.take 11 (.take 12 (.take 13 (.take 14 (.one 16 (.take 17 (.take 18 .done)))))))))) 15 (.one 4 (.one 8 (.one 10 (.take 11 (.take 12 (.take 13 (.take 14 (.one 16 (.take 17 (.take 18 .done)))))))))))))))))))
  | 11 => (.take 0 (.take 2 (.take 3 (.take 4 (.take 5 (.take 8 (.two 1 (.take 6 (.take 7 (.two 9 (.take 10 (.take 11 (.take 12 (.take 13 (.one 14 (.one 15 (.take 16 (.take 17 .done)))))))) 14 (.one 9 (.take 10 (.take 11 (.take 12 (.take 13 (.one 15 (.take 16 (.take 17 .done))))))))))) 14 (.one 1 (.take 6 (.take 7 (.one 9 (.take 10 (.take 11 (.take 12 (.take 13 (.one 15 (.take 16 (.take 17 .done))))))))))))))))))
  | _ => .done
def plan15 (id : Nat) : Plan := pln15 id
def ws17_1 : List (Nat × Nat) := [(4, 5), (11, 25)]
def pln17 (id : Nat) : Plan :=
  match id with
  | 6 => (.take 0 (.take 1 (.take 2 (.take 3 (.take 4 (.take 5 (.take 6 (.take 7 (.take 8 .done)))))))))
  | _ => .done
def plan17 (id : Nat) : Plan := pln17 id
def ws18_1 : List (Nat × Nat) := [(4, 28)]
def pln18 (id : Nat) : Plan :=
  match id with
  | 5 => (.take 0 (.take 1 (.take 2 (.take 3 (.take 4 (.two 5 (.take 6 (.take 7 (.take 8 (.take 9 (.take 10 (.one 11 (.one 12 (.take 13 (.take 14 (.take 15 .done)))))))))) 11 (.one 5 (.take 6 (.take 7 (.take 8 (.take 9 (.take 10 (.one 12 (.take 13 (.take 14 (.take 15 .done))))))))))))))))
  | _ => .done
def plan18 (id : Nat) : Plan := pln18 id
def ws20_1 : List (Nat × Nat) := [(2, 3), (5, 5), (35, 71)]
def ws20_2 : List (Nat × Nat) := [(2, 3), (7, 7), (75, 91)]
def ws20_3 : List (Nat × Nat) := [(2, 2), (10, 11), (96, 116)]
def plan20 (id : Nat) : Plan :=
  match id with
  | 24 => (.take 0 (.take 1 (.take 2 (.take 3 (.take 4 (.take 5 (.two 6 (.take 7 (.one 8 (.sink 9))) 8 (.one 6 (.take 7 (.sink 9))))))))))
  | _ => .done
def pln20 (id : Nat) : Plan :=
  match id with
  | 24 => (.take 0 (.take 1 (.take 2 (.take 3 (.take 4 (.take 5 (.two 6 (.take 7 (.one 8 (.post 9 .done))) 8 (.one 6 (.take 7 (.post 9 .done))))))))))
  | _ => .done
def ws21_1 : List (Nat × Nat) := [(2, 4), (26, 82)]
def ws21_2 : List (Nat × Nat) := [(2, 2), (5, 5), (83, 93)]
def plan21 (id : Nat) : Plan :=
  match id with
  | 7 => (.take 0 (.take 1 (.one 2 (.take 3 (.take 4 (.take 5 (.take 6 (.one 7 (.take 8 (.take 9 (.take 10 (.take 11 (.take 12 (.take 13 (.take 14 (.take 15 (.take 16 (.take 17 (.take 18 (.take 19 (.take 20 (.take 21 (.take 22 (.take 23 (.take 24 (.take 25 (.take 26 (.take 27 (.take 28 (.take 29 (.take 30 (.take 31 (.take 32 (.take 33 (.take 34 (.take 35 (.take 36 (.take 37 (.take 38 (.take 39 (.take 40 (.take 41 (.take 42 (.take 43 (.take 44 .done)))))))))))))))))))))))))))))))))))))))))))))
  | _ => .done
def pln21 (id : Nat) : Plan :=
  match id with
  | 7 => (.take 0 (.take 1 (.post 2 (.take 3 (.take 4 (.take 5 (.take 6 (.post 7 (.take 8 (.take 9 (.take 10 (.take 11 (.take 12 (.take 13 (.take 14 (.take 15 (.take 16 (.take 17 (.take 18 (.take 19 (.take 20 (.take 21 (.take 22 (.take 23 (.take 24 (.take 25 (.take 26 (.take 27 (.take 28 (.take 29 (.take 30 (.take 31 (.take 32 (.take 33 (.take 34 (.take 35 (.take 36 (.take 37 (.take 38 (.take 39 (.take 40 (.take 41 (.take 42 (.take 43 (.take 44 .done)))))))))))))))))))))))))))))))))))))))))))))
  | _ => .done
def ws23_1 : List (Nat × Nat) := [(5, 26)]
def ws26_1 : List (Nat × Nat) := [(4, 5), (11, 25)]
def pln26 (id : Nat) : Plan :=
  match id with
  | 6 => (.take 0 (.take 1 (.take 2 (.take 3 (.take 4 (.take 5 (.take 6 (.take 7 (.take 8 .done)))))))))
  | _ => .done
def plan26 (id : Nat) : Plan := pln26 id
def ws28_1 : List (Nat × Nat) := [(15, 17), (69, 116)]
def pln28 (id : Nat) : Plan :=
  match id with
  | 21 => (.take 0 (.take 1 (.take 2 (.take 3 (.take 4 (.take 5 (.take 6 (.take 7 (.take 8 (.take 9 (.take 10 (.take 11 (.take 13 (.one 12 (.take 14 (.take 15 .done))))))))))))))))
  | _ => .done
def plan28 (id : Nat) : Plan := pln28 id
def ws31_1 : List (Nat × Nat) := [(9, 9), (11, 12), (21, 61)]
def ws33_1 : List (Nat × Nat) := [(12, 12), (19, 19), (99, 135)]
def plan33 (id : Nat) : Plan :=
  match id with
  | 12 => (.take 0 (.take 1 (.take 2 (.take 3 (.take 4 (.take 5 (.one 6 (.one 7 (.take 8 .done)))))))))
  | 26 => (.take 0 (.take 1 (.one 2 (.one 3 (.take 4 .done)))))
  | _ => .done
def pln33 (id : Nat) : Plan :=
  match id with
  | 12 => (.take 0 (.take 1 (.take 2 (.take 3 (.take 4 (.take 5 (.one 6 (.post 7 (.take 8 .done)))))))))
  | 26 => (.take 0 (.take 1 (.one 2 (.post 3 (.take 4 .done)))))
  | _ => .done
def ws34_1 : List (Nat × Nat) := [(12, 12), (16, 17), (78, 117)]
def plan34 (id : Nat) : Plan :=
  match id with
  | 11 => (.take 0 (.take 1 (.take 2 (.take 3 (.take 4 (.take 5 (.one 6 (.one 7 (.take 8 .done)))))))))
  | 24 => (.take 0 (.take 1 (.one 2 (.one 3 (.take 4 .done)))))
  | _ => .done
def pln34 (id : Nat) : Plan :=
  match id with
  | 11 => (.take 0 (.take 1 (.take 2 (.take 3 (.take 4 (.take 5 (.one 6 (.post 7 (.take 8 .done)))))))))
  | 24 => (.take 0 (.take 1 (.one 2 (.post 3 (.take 4 .done)))))
  | _ => .done
def ws35_1 : List (Nat × Nat) := [(13, 16), (60, 144)]
def plan35 (id : Nat) : Plan :=
  match id with
  | 25 => (.take 0 (.take 1 (.take 2 (.take 3 (.take 4 (.take 5 (.take 6 (.take 7 (.take 8 (.take 9 (.take 10 (.take 11 (.take 12 (.take 13 (.take 14 (.take 15 (.take 16 (.take 17 (.take 18 (.take 19 (.take 20 (.take 21 (.take 22 (.take 23 (.take 24 (.take 25 (.take 26 (.take 27 (.take 28 .done)))))))))))))))))))))))))))))
  | 26 => (.take 0 (.take 1 (.take 2 (.take 3 (.take 4 (.take 5 (.take 6 (.take 7 (.take 8 (.one 9 (.take 10 (.take 11 (.sink 12)))))))))))))
  | _ => .done
def pln35 (id : Nat) : Plan :=
  match id with
  | 25 => (.take 0 (.take 1 (.take 2 (.take 3 (.take 4 (.take 5 (.take 6 (.take 7 (.take 8 (.take 9 (.take 10 (.take 11 (.take 12 (.take 13 (.take 14 (.take 15 (.take 16 (.take 17 (.take 18 (.take 19 (.take 20 (.take 21 (.take 22 (.take 23 (.take 24 (.take 25 (.take 26 (.take 27 (.take 28 .done)))))))))))))))))))))))))))))
  | 26 => (.take 0 (.take 1 (.take 2 (.take 3 (.take 4 (.take 5 (.take 6 (.take 7 (.take 8 (.one 9 (.take 10 (.take 11 (.post 12 .done)))))))))))))
  | _ => .done
def ws36_1 : List (Nat × Nat) := [(11, 13), (31, 60)]
def ws37_1 : List (Nat × Nat) := [(11, 12), (27, 63)]
def plan37 (id : Nat) : Plan :=
  match id with
  | 12 => (.take 0 (.take 1 (.take 2 (.take 3 (.take 4 (.take 5 (.take 6 (.take 7 (.take 8 (.one 9 (.take 10 (.take 11 (.sink 12)))))))))))))
  | _ => .done
def pln37 (id : Nat) : Plan :=
  match id with
  | 12 => (.take 0 (.take 1 (.take 2 (.take 3 (.take 4 (.take 5 (.take 6 (.take 7 (.take 8 (.one 9 (.take 10 (.take 11 (.post 12 .done)))))))))))))
  | _ => .done
def plan38 (id : Nat) : Plan :=
  match id with
  | 2 => (.take 1 (.take 2 (.take 6 (.take 9 (.take 10 (.take 11 (.take 12 (.take 13 (.take 14 (.take 15 (.take 16 (.take 17 (.one 0 (.take 3 (.take 4 (.one 5 (.take 7 (.take 8 (.take 18 (.sink 19))))))))))))))))))))
  | _ => .done
def pln38 (id : Nat) : Plan :=
  match id with
  | 2 => (.take 1 (.take 2 (.take 6 (.take 9 (.take 10 (.take 11 (.take 12 (.take 13 (.take 14 (.take 15 (.take 16 (.take 17 (.one 0 (.take 3 (.take 4 (.one 5 (.take 7 (.take 8 (.take 18 (.post 19 .done))))))))))))))))))))
  | _ => .done
def ws39_1 : List (Nat × Nat) := [(7, 7), (9, 9), (21, 30)]
def ws39_2 : List (Nat × Nat) := [(10, 10), (12, 14), (36, 58)]
def ws40_1 : List (Nat × Nat) := [(7, 8), (13, 27)]
def ws40_2 : List (Nat × Nat) := [(9, 12), (28, 55)]
def pln40 (id : Nat) : Plan :=
  match id with
  | 10 => (.take 0 (.take 1 (.take 2 (.take 3 (.take 4 (.take 5 (.take 6 (.two 7 (.take 8 (.take 9 (.take 10 (.one 11 (.one 12 (.take 13 .done)))))) 11 (.one 7 (.take 8 (.take 9 (.take 10 (.one 12 (.take 13 .done))))))))))))))
  | _ => .done
def plan40 (id : Nat) : Plan := pln40 id
def ws43_1 : List (Nat × Nat) := [(2, 5), (18, 49)]
def ws43_2 : List (Nat × Nat) := [(2, 2), (7, 7), (52, 59)]
def ws46_1 : List (Nat × Nat) := [(2, 2), (4, 4), (14, 25)]
def ws47_1 : List (Nat × Nat) := [(4, 4), (6, 7), (89, 122)]
def plan47 (id : Nat) : Plan :=
  match id with
  | 2 => (.take 0 (.take 1 (.one 2 (.take 3 (.take 4 (.take 5 (.take 6 (.one 7 (.take 8 (.take 9 (.take 10 (.take 11 (.take 12 (.one 13 (.take 14 (.take 15 (.take 16 (.take 17 (.take 18 (.take 19 (.take 20 (.take 21 (.take 22 (.take 23 (.take 24 (.take 25 (.take 26 (.take 27 (.take 28 (.take 29 (.take 30 (.take 31 (.take 32 (.take 33 (.take 34 (.take 35 (.take 36 (.take 37 (.take 38 (.take 39 (.take 40 (.take 41 (.take 42 (.take 43 (.take 44 (.take 45 (.take 46 (.take 47 (.take 48 (.take 49 (.take 50 (.take 51 (.take 52 (.take 53 .done))))))))))))))))))))))))))))))))))))))))))))))))))))))
  | _ => .done
def pln47 (id : Nat) : Plan :=
  match id with
  | 2 => (.take 0 (.take 1 (.post 2 (.take 3 (.take 4 (.take 5 (.take 6 (.post 7 (.take 8 (.take 9 (.take 10 (.take 11 (.take 12 (.post 13 (.take 14 (.take 15 (.take 16 (.take 17 (.take 18 (.take 19 (.take 20 (.take 21 (.take 22 (.take 23 (.take 24 (.take 25 (.take 26 (.take 27 (.take 28 (.take 29 (.take 30 (.take 31 (.take 32 (.take 33 (.take 34 (.take 35 (.take 36 (.take 37 (.take 38 (.take 39 (.take 40 (.take 41 (.take 42 (.take 43 (.take 44 (.take 45 (.take 46 (.take 47 (.take 48 (.take 49 (.take 50 (.take 51 (.take 52 (.take 53 .done))))))))))))))))))))))))))))))))))))))))))))))))))))))
  | _ => .done
def ws48_1 : List (Nat × Nat) := [(4, 17)]
def ws49_1 : List (Nat × Nat) := [(5, 10), (13, 50)]
def ws49_2 : List (Nat × Nat) := [(5, 10), (14, 50)]
def plan49 (id : Nat) : Plan :=
  match id with
  | 8 => (.take 0 (.take 1 (.take 2 (.take 3 (.take 4 (.take 5 (.take 7 (.take 8 (.take 9 (.take 10 (.take 11 (.take 12 (.one 6 (.one 13 (.take 14 (.take 15 .done))))))))))))))))
  | _ => .done
def pln49 (id : Nat) : Plan :=
  match id with
  | 8 => (.take 0 (.take 1 (.take 2 (.take 3 (.take 4 (.take 5 (.take 7 (.take 8 (.take 9 (.take 10 (.take 11 (.take 12 (.one 6 (.post 13 (.take 14 (.take 15 .done))))))))))))))))
  | _ => .done
def plan51 (id : Nat) : Plan :=
  match id with
  | 1 => (.take 0 (.take 1 (.take 2 (.take 4 (.take 5 (.take 7 (.one 3 (.one 6 (.one 8 (.take 9 (.one 10 (.take 11 (.sink 12)))))))))))))
  | _ => .done
def pln51 (id : Nat) : Plan :=
  match id with
  | 1 => (.take 0 (.take 1 (.take 2 (.take 4 (.take 5 (.take 7 (.one 3 (.one 6 (.post 8 (.take 9 (.post 10 (.take 11 (.post 12 .done)))))))))))))
  | _ => .done
def ws54_1 : List (Nat × Nat) := [(9, 9), (13, 13), (24, 58)]
def ws55_1 : List (Nat × Nat) := [(6, 38)]
def plan58 (id : Nat) : Plan :=
  match id with
  | 1 => (.take 0 (.take 2 (.take 3 (.take 6 (.take 7 (.two 1 (.two 4 (.one 5 (.one 8 (.take 9 (.sink 10)))) 5 (.one 4 (.one 8 (.take 9 (.sink 10))))) 5 (.one 1 (.one 4 (.one 8 (.take 9 (.sink 10)))))))))))
  | _ => .done
def pln58 (id : Nat) : Plan :=
  match id with
  | 1 => (.take 0 (.take 2 (.take 3 (.take 6 (.take 7 (.two 1 (.two 4 (.one 5 (.one 8 (.take 9 (.post 10 .done)))) 5 (.one 4 (.one 8 (.take 9 (.post 10 .done))))) 5 (.one 1 (.one 4 (.one 8 (.take 9 (.post 10 .done)))))))))))
  | _ => .done
def ws60_1 : List (Nat × Nat) := [(2, 5), (10, 59)]
def ws60_2 : List (Nat × Nat) := [(3, 3), (5, 5), (29, 53)]
def pln60 (id : Nat) : Plan :=
  match id with
  | 6 => (.take 0 (.take 1 (.take 2 (.take 3 (.take 4 (.take 5 (.take 6 (.take 7 (.take 8 (.take 9 .done))))))))))
  | 11 => (.take 0 (.take 1 (.take 2 (.take 3 (.take 4 (.take 5 (.take 6 (.take 7 (.take 8 (.take 9 .done))))))))))
  | _ => .done
def plan60 (id : Nat) : Plan := pln60 id
def ws61_1 : List (Nat × Nat) := [(5, 5), (7, 20)]
def plan61 (id : Nat) : Plan :=
  match id with
  | 7 => (.take 0 (.take 1 (.take 4 (.take 5 (.take 6 (.one 2 (.one 3 (.one 7 (.take 8 .done)))))))))
  | _ => .done
def pln61 (id : Nat) : Plan :=
  match id with
  | 7 => (.take 0 (.take 1 (.take 4 (.take 5 (.take 6 (.one 2 (.one 3 (.post 7 (.take 8 .done)))))))))
  | _ => .done
def ws62_1 : List (Nat × Nat) := [(3, 8), (13, 35)]
def ws62_2 : List (Nat × Nat) := [(12, 12), (42, 55)]
def ws62_3 : List (Nat × Nat) := [(10, 12), (57, 94)]
def ws62_4 : List (Nat × Nat) := [(12, 12), (80, 93)]
def ws63_1 : List (Nat × Nat) := [(5, 5), (9, 19)]
def ws64_1 : List (Nat × Nat) := [(1, 1), (4, 16)]
def ws65_1 : List (Nat × Nat) := [(2, 43)]
def ws67_1 : List (Nat × Nat) := [(5, 19)]
def plan67 (id : Nat) : Plan :=
  match id with
  | 4 => (.take 1 (.take 2 (.take 3 (.take 5 (.take 8 (.take 9 (.take 10 (.two 0 (.two 4 (.one 6 (.one 7 (.one 11 (.take 12 .done)))) 6 (.one 4 (.one 7 (.one 11 (.take 12 .done))))) 6 (.one 0 (.one 4 (.one 7 (.one 11 (.take 12 .done)))))))))))))
  | _ => .done
def pln67 (id : Nat) : Plan :=
  match id with
  | 4 => (.take 1 (.take 2 (.take 3 (.take 5 (.take 8 (.take 9 (.take 10 (.two 0 (.two 4 (.one 6 (.one 7 (.post 11 (.take 12 .done)))) 6 (.one 4 (.one 7 (.post 11 (.take 12 .done))))) 6 (.one 0 (.one 4 (.one 7 (.post 11 (.take 12 .done)))))))))))))
  | _ => .done
def ws70_1 : List (Nat × Nat) := [(4, 5), (8, 18)]
def pln71 (id : Nat) : Plan :=
  match id with
  | 1 => (.take 0 (.take 1 (.take 2 (.take 3 (.take 4 (.take 5 (.take 6 (.take 7 (.take 8 (.take 9 (.take 10 (.take 11 (.take 12 (.take 13 (.take 15 (.one 14 (.take 16 (.take 17 (.take 18 .done)))))))))))))))))))
  | _ => .done
def plan71 (id : Nat) : Plan := pln71 id
def ws72_1 : List (Nat × Nat) := [(5, 5), (7, 7), (10, 22)]
def ws73_1 : List (Nat × Nat) := [(1, 3), (8, 133)]
def plan73 (id : Nat) : Plan :=
  match id with
  | 17 => (.take 0 (.take 1 (.take 2 (.take 3 (.take 4 (.take 5 (.take 6 (.take 7 (.take 8 (.take 9 (.take 10 (.take 11 (.one 12 (.take 13 (.take 14 .done)))))))))))))))
  | _ => .done
def pln73 (id : Nat) : Plan :=
  match id with
  | 17 => (.take 0 (.take 1 (.take 2 (.take 3 (.take 4 (.take 5 (.take 6 (.take 7 (.take 8 (.take 9 (.take 10 (.take 11 (.post 12 (.take 13 (.take 14 .done)))))))))))))))
  | _ => .done
def ws75_1 : List (Nat × Nat) := [(5, 8), (15, 34)]
def ws75_2 : List (Nat × Nat) := [(10, 11), (49, 63)]
def ws78_1 : List (Nat × Nat) := [(6, 7), (10, 48)]
def ws78_2 : List (Nat × Nat) := [(7, 7), (16, 48)]
def plan78 (id : Nat) : Plan :=
  match id with
  | 4 => (.take 0 (.take 1 (.take 2 (.take 3 (.take 4 (.take 5 (.take 6 (.take 7 (.take 8 (.take 9 (.take 10 (.take 11 (.take 12 (.one 13 (.take 14 .done)))))))))))))))
  | 6 => (.take 0 (.take 1 (.take 2 (.take 3 (.take 4 (.take 5 (.take 6 (.take 7 (.take 8 (.take 9 (.take 10 (.take 11 (.take 12 (.take 13 (.take 14 (.one 15 (.take 16 (.sink 17))))))))))))))))))
  | _ => .done
def pln78 (id : Nat) : Plan :=
  match id with
  | 4 => (.take 0 (.take 1 (.take 2 (.take 3 (.take 4 (.take 5 (.take 6 (.take 7 (.take 8 (.take 9 (.take 10 (.take 11 (.take 12 (.post 13 (.take 14 .done)))))))))))))))
  | 6 => (.take 0 (.take 1 (.take 2 (.take 3 (.take 4 (.take 5 (.take 6 (.take 7 (.take 8 (.take 9 (.take 10 (.take 11 (.take 12 (.take 13 (.take 14 (.one 15 (.take 16 (.post 17 .done))))))))))))))))))
  | _ => .done
def ws79_1 : List (Nat × Nat) := [(9, 9), (18, 26)]
def ws79_2 : List (Nat × Nat) := [(10, 10), (29, 55)]
def plan79 (id : Nat) : Plan :=
  match id with
  | 10 => (.take 0 (.take 1 (.take 2 (.take 3 (.take 4 (.take 5 (.take 6 (.take 7 (.take 8 (.take 9 (.take 10 (.take 11 (.take 12 (.take 13 (.take 14 (.take 15 (.take 16 (.one 17 (.take 18 (.sink 19))))))))))))))))))))
  | _ => .done
def pln79 (id : Nat) : Plan :=
  match id with
  | 10 => (.take 0 (.take 1 (.take 2 (.take 3 (.take 4 (.take 5 (.take 6 (.take 7 (.take 8 (.take 9 (.take 10 (.take 11 (.take 12 (.take 13 (.take 14 (.take 15 (.take 16 (.one 17 (.take 18 (.post 19 .done))))))))))))))))))))
  | _ => .done
def ws80_1 : List (Nat × Nat) := [(9, 10), (26, 64)]
def plan80 (id : Nat) : Plan :=
  match id with
  | 10 => (.take 0 (.take 1 (.take 2 (.take 3 (.take 4 (.take 5 (.take 6 (.take 7 (.take 8 (.take 9 (.take 10 (.take 11 (.take 12 (.take 13 (.take 14 (.take 15 (.take 16 (.one 17 (.take 18 (.sink 19))))))))))))))))))))
  | _ => .done
def pln80 (id : Nat) : Plan :=
  match id with
  | 10 => (.take 0 (.take 1 (.take 2 (.take 3 (.take 4 (.take 5 (.take 6 (.take 7 (.take 8 (.take 9 (.take 10 (.take 11 (.take 12 (.take 13 (.take 14 (.take 15 (.take 16 (.one 17 (.take 18 (.post 19 .done))))))))))))))))))))
  | _ => .done
def ws82_1 : List (Nat × Nat) := [(6, 7), (11, 31)]
def plan82 (id : Nat) : Plan :=
  match id with
  | 3 => (.take 0 (.take 1 (.take 2 (.take 3 (.take 4 (.take 5 (.take 6 (.take 7 (.take 8 (.take 9 (.take 10 (.take 11 (.take 12 (.one 13 (.take 14 (.sink 15))))))))))))))))
  | _ => .done
def pln82 (id : Nat) : Plan :=
  match id with
  | 3 => (.take 0 (.take 1 (.take 2 (.take 3 (.take 4 (.take 5 (.take 6 (.take 7 (.take 8 (.take 9 (.take 10 (.take 11 (.take 12 (.one 13 (.take 14 (.post 15 .done))))))))))))))))
  | _ => .done
def ws83_1 : List (Nat × Nat) := [(6, 10), (13, 132)]
def ws83_2 : List (Nat × Nat) := [(7, 7), (17, 34)]
def ws83_3 : List (Nat × Nat) := [(9, 9), (64, 94)]
def ws83_4 : List (Nat × Nat) := [(10, 10), (101, 132)]
def plan83 (id : Nat) : Plan :=
  match id with
  | 5 => (.take 0 (.take 1 (.take 2 (.take 3 (.take 4 (.take 5 (.take 6 (.take 7 (.take 8 (.take 9 (.take 10 (.take 11 (.take 12 (.one 13 (.take 14 (.take 15 .done))))))))))))))))
  | 11 => (.take 0 (.take 1 (.take 2 (.take 3 (.take 4 (.take 5 (.take 6 (.take 7 (.take 8 (.take 9 (.take 10 (.take 11 (.take 12 (.take 13 (.take 14 (.one 15 (.take 16 (.sink 17))))))))))))))))))
  | 16 => (.take 0 (.take 1 (.take 2 (.take 3 (.take 4 (.take 5 (.take 6 (.take 7 (.take 8 (.one 9 (.take 10 .done)))))))))))
  | 17 => (.take 0 (.take 1 (.take 2 (.take 3 (.take 4 (.take 5 (.take 6 (.take 7 (.take 8 (.take 9 (.take 10 (.take 11 (.take 12 (.take 13 (.take 14 (.one 15 (.take 16 (.sink 17))))))))))))))))))
  | 22 => (.take 0 (.take 1 (.take 2 (.take 3 (.take 4 (.take 5 (.take 6 (.take 7 (.take 8 (.one 9 (.take 10 .done)))))))))))
  | 23 => (.take 0 (.take 1 (.take 2 (.take 3 (.take 4 (.take 5 (.take 6 (.take 7 (.take 8 (.take 9 (.take 10 (.take 11 (.take 12 (.take 13 (.take 14 (.one 15 (.take 16 (.sink 17))))))))))))))))))
  | _ => .done
def pln83 (id : Nat) : Plan :=
  match id with
  | 5 => (.take 0 (.take 1 (.take 2 (.take 3 (.take 4 (.take 5 (.take 6 (.take 7 (.take 8 (.take 9 (.take 10 (.take 11 (.take 12 (.post 13 (.take 14 (.take 15 .done))))))))))))))))
  | 11 => (.take 0 (.take 1 (.take 2 (.take 3 (.take 4 (.take 5 (.take 6 (.take 7 (.take 8 (.take 9 (.take 10 (.take 11 (.take 12 (.take 13 (.take 14 (.one 15 (.take 16 (.post 17 .done))))))))))))))))))
  | 16 => (.take 0 (.take 1 (.take 2 (.take 3 (.take 4 (.take 5 (.take 6 (.take 7 (.take 8 (.post 9 (.take 10 .done)))))))))))
  | 17 => (.take 0 (.take 1 (.take 2 (.take 3 (.take 4 (.take 5 (.take 6 (.take 7 (.take 8 (.take 9 (.take 10 (.take 11 (.take 12 (.take 13 (.take 14 (.one 15 (.take 16 (.post 17 .done))))))))))))))))))
  | 22 => (.take 0 (.take 1 (.take 2 (.take 3 (.take 4 (.take 5 (.take 6 (.take 7 (.take 8 (.post 9 (.take 10 .done)))))))))))
  | 23 => (.take 0 (.take 1 (.take 2 (.take 3 (.take 4 (.take 5 (.take 6 (.take 7 (.take 8 (.take 9 (.take 10 (.take 11 (.take 12 (.take 13 (.take 14 (.one 15 (.take 16 (.post 17 .done))))))))))))))))))
  | _ => .done
def ws85_1 : List (Nat × Nat) := [(9, 10), (29, 82)]
def ws85_2 : List (Nat × Nat) := [(9, 9), (29, 45)]
def ws85_3 : List (Nat × Nat) := [(10, 10), (46, 61)]
def plan85 (id : Nat) : Plan :=
  match id with
  | 1 => (.take 0 (.take 1 (.take 2 (.take 3 (.take 4 (.take 5 (.take 6 (.take 7 (.take 8 (.take 9 (.take 10 (.take 11 (.take 12 (.one 13 (.take 14 (.sink 15))))))))))))))))
  | 3 => (.take 0 (.take 1 (.take 2 (.take 3 (.take 4 (.take 5 (.take 6 (.take 7 (.take 8 (.take 9 (.take 10 (.take 11 (.one 12 (.take 13 (.take 14 .done)))))))))))))))
  | 5 => (.take 0 (.take 1 (.take 2 (.take 3 (.take 4 (.take 5 (.take 6 (.take 7 (.take 8 (.take 9 (.take 10 (.take 11 (.one 12 (.take 13 .done))))))))))))))
  | 8 => (.take 0 (.take 1 (.take 2 (.take 3 (.take 4 (.take 5 (.take 6 (.take 7 (.take 8 (.take 9 (.take 10 (.take 11 (.take 12 (.one 13 (.take 14 (.sink 15))))))))))))))))
  | _ => .done
def pln85 (id : Nat) : Plan :=
  match id with
  | 1 => (.take 0 (.take 1 (.take 2 (.take 3 (.take 4 (.take 5 (.take 6 (.take 7 (.take 8 (.take 9 (.take 10 (.take 11 (.take 12 (.one 13 (.take 14 (.post 15 .done))))))))))))))))
  | 3 => (.take 0 (.take 1 (.take 2 (.take 3 (.take 4 (.take 5 (.take 6 (.take 7 (.take 8 (.take 9 (.take 10 (.take 11 (.post 12 (.take 13 (.take 14 .done)))))))))))))))
  | 5 => (.take 0 (.take 1 (.take 2 (.take 3 (.take 4 (.take 5 (.take 6 (.take 7 (.take 8 (.take 9 (.take 10 (.take 11 (.post 12 (.take 13 .done))))))))))))))
  | 8 => (.take 0 (.take 1 (.take 2 (.take 3 (.take 4 (.take 5 (.take 6 (.take 7 (.take 8 (.take 9 (.take 10 (.take 11 (.take 12 (.one 13 (.take 14 (.post 15 .done))))))))))))))))
  | _ => .done
def ws86_1 : List (Nat × Nat) := [(10, 10), (30, 45)]
def ws86_2 : List (Nat × Nat) := [(11, 11), (46, 62)]
def ws86_3 : List (Nat × Nat) := [(10, 11), (99, 152)]
def ws86_4 : List (Nat × Nat) := [(10, 10), (99, 114)]
def ws86_5 : List (Nat × Nat) := [(11, 11), (115, 131)]
def plan86 (id : Nat) : Plan :=
  match id with
  | 1 => (.take 0 (.take 1 (.take 2 (.take 3 (.take 4 (.take 5 (.take 6 (.take 7 (.take 8 (.take 9 (.take 10 (.take 11 (.take 12 (.one 13 (.take 14 (.sink 15))))))))))))))))
  | 3 => (.take 0 (.take 1 (.take 2 (.take 3 (.take 4 (.take 5 (.take 6 (.take 7 (.take 8 (.take 9 (.take 10 (.take 11 (.one 12 (.take 13 .done))))))))))))))
  | 5 => (.take 0 (.take 1 (.take 2 (.take 3 (.take 4 (.take 5 (.take 6 (.take 7 (.take 8 (.take 9 (.take 10 (.take 11 (.one 12 (.take 13 (.take 14 .done)))))))))))))))
  | 8 => (.take 0 (.take 1 (.take 2 (.take 3 (.take 4 (.take 5 (.take 6 (.take 7 (.take 8 (.take 9 (.take 10 (.take 11 (.take 12 (.one 13 (.take 14 (.sink 15))))))))))))))))
  | 10 => (.take 0 (.take 1 (.take 2 (.take 3 (.take 4 (.take 5 (.take 6 (.take 7 (.take 8 (.take 9 (.take 10 (.take 11 (.take 12 (.one 13 (.take 14 (.sink 15))))))))))))))))
  | 13 => (.take 0 (.take 1 (.take 2 (.take 3 (.take 4 (.take 5 (.take 6 (.take 7 (.take 8 (.take 9 (.take 10 (.take 11 (.one 12 (.take 13 .done))))))))))))))
  | 15 => (.take 0 (.take 1 (.take 2 (.take 3 (.take 4 (.take 5 (.take 6 (.take 7 (.take 8 (.take 9 (.take 10 (.take 11 (.one 12 (.take 13 (.take 14 .done)))))))))))))))
  | 18 => (.take 0 (.take 1 (.take 2 (.take 3 (.take 4 (.take 5 (.take 6 (.take 7 (.take 8 (.take 9 (.take 10 (.take 11 (.take 12 (.one 13 (.take 14 (.sink 15))))))))))))))))
  | 21 => (.take 0 (.take 1 (.take 2 (.take 3 (.take 4 (.take 5 (.take 6 (.take 7 (.take 8 (.take 9 (.take 10 (.take 11 (.take 12 (.one 13 (.take 14 (.sink 15))))))))))))))))
  | _ => .done
def pln86 (id : Nat) : Plan :=
  match id with
  | 1 => (.take 0 (.take 1 (.take 2 (.take 3 (.take 4 (.take 5 (.take 6 (.take 7 (.take 8 (.take 9 (.take 10 (.take 11 (.take 12 (.one 13 (.take 14 (.post 15 .done))))))))))))))))
  | 3 => (.take 0 (.take 1 (.take 2 (.take 3 (.take 4 (.take 5 (.take 6 (.take 7 (.take 8 (.take 9 (.take 10 (.take 11 (.post 12 (.take 13 .done))))))))))))))
  | 5 => (.take 0 (.take 1 (.take 2 (.take 3 (.take 4 (.take 5 (.take 6 (.take 7 (.take 8 (.take 9 (.take 10 (.take 11 (.post 12 (.take 13 (.take 14 .done)))))))))))))))
  | 8 => (.take 0 (.take 1 (.take 2 (.take 3 (.take 4 (.take 5 (.take 6 (.take 7 (.take 8 (.take 9 (.take 10 (.take 11 (.take 12 (.one 13 (.take 14 (.post 15 .done))))))))))))))))
  | 10 => (.take 0 (.take 1 (.take 2 (.take 3 (.take 4 (.take 5 (.take 6 (.take 7 (.take 8 (.take 9 (.take 10 (.take 11 (.take 12 (.one 13 (.take 14 (.post 15 .done))))))))))))))))
  | 13 => (.take 0 (.take 1 (.take 2 (.take 3 (.take 4 (.take 5 (.take 6 (.take 7 (.take 8 (.take 9 (.take 10 (.take 11 (.post 12 (.take 13 .done))))))))))))))
  | 15 => (.take 0 (.take 1 (.take 2 (.take 3 (.take 4 (.take 5 (.take 6 (.take 7 (.take 8 (.take 9 (.take 10 (.take 11 (.post 12 (.take 13 (.take 14 .done)))))))))))))))
  | 18 => (.take 0 (.take 1 (.take 2 (.take 3 (.take 4 (.take 5 (.take 6 (.take 7 (.take 8 (.take 9 (.take 10 (.take 11 (.take 12 (.one 13 (.take 14 (.post 15 .done))))))))))))))))
  | 21 => (.take 0 (.take 1 (.take 2 (.take 3 (.take 4 (.take 5 (.take 6 (.take 7 (.take 8 (.take 9 (.take 10 (.take 11 (.take 12 (.one 13 (.take 14 (.post 15 .done))))))))))))))))
  | _ => .done
def ws90_1 : List (Nat × Nat) := [(8, 9), (11, 75)]
def plan90 (id : Nat) : Plan :=
  match id with
  | 3 => (.take 0 (.take 1 (.take 2 (.take 3 (.take 4 (.take 5 (.take 6 (.take 7 (.take 8 (.take 9 (.take 10 (.take 11 (.take 12 (.take 13 (.take 14 (.take 15 (.take 16 (.take 17 (.one 18 (.take 19 .done))))))))))))))))))))
  | 5 => (.take 0 (.take 1 (.take 2 (.take 3 (.take 4 (.take 5 (.take 6 (.take 7 (.take 8 (.take 9 (.take 10 (.take 11 (.one 12 (.take 13 .done))))))))))))))
  | 6 => (.take 0 (.take 1 (.take 2 (.take 3 (.take 4 (.take 5 (.take 6 (.take 7 (.take 8 (.take 9 (.take 10 (.take 11 (.take 12 (.take 13 (.take 14 (.take 15 (.take 16 (.take 17 (.take 18 (.take 19 (.take 20 (.one 21 (.take 22 (.sink 23))))))))))))))))))))))))
  | _ => .done
def pln90 (id : Nat) : Plan :=
  match id with
  | 3 => (.take 0 (.take 1 (.take 2 (.take 3 (.take 4 (.take 5 (.take 6 (.take 7 (.take 8 (.take 9 (.take 10 (.take 11 (.take 12 (.take 13 (.take 14 (.take 15 (.take 16 (.take 17 (.post 18 (.take 19 .done))))))))))))))))))))
  | 5 => (.take 0 (.take 1 (.take 2 (.take 3 (.take 4 (.take 5 (.take 6 (.take 7 (.take 8 (.take 9 (.take 10 (.take 11 (.post 12 (.take 13 .done))))))))))))))
  | 6 => (.take 0 (.take 1 (.take 2 (.take 3 (.take 4 (.take 5 (.take 6 (.take 7 (.take 8 (.take 9 (.take 10 (.take 11 (.take 12 (.take 13 (.take 14 (.take 15 (.take 16 (.take 17 (.take 18 (.take 19 (.take 20 (.one 21 (.take 22 (.post 23 .done))))))))))))))))))))))))
  | _ => .done
def plan92 (id : Nat) : Plan :=
  match id with
  | 1 => (.take 0 (.take 1 (.take 2 (.take 3 (.take 4 (.take 5 (.take 6 (.take 7 (.take 8 (.sink 9))))))))))
  | 2 => (.take 0 (.take 1 (.take 2 (.take 3 (.take 4 (.take 5 (.take 6 (.take 7 (.take 8 (.sink 9))))))))))
  | 3 => (.take 0 (.take 1 (.take 2 (.take 3 (.take 4 (.take 5 (.take 6 (.take 7 (.take 8 (.sink 9))))))))))
  | _ => .done
def pln92 (id : Nat) : Plan :=
  match id with
  | 1 => (.take 0 (.take 1 (.take 2 (.take 3 (.take 4 (.take 5 (.take 6 (.take 7 (.take 8 (.post 9 .done))))))))))
  | 2 => (.take 0 (.take 1 (.take 2 (.take 3 (.take 4 (.take 5 (.take 6 (.take 7 (.take 8 (.post 9 .done))))))))))
  | 3 => (.take 0 (.take 1 (.take 2 (.take 3 (.take 4 (.take 5 (.take 6 (.take 7 (.take 8 (.post 9 .done))))))))))
  | _ => .done
def ws96_1 : List (Nat × Nat) := [(4, 6), (20, 57)]
def ws96_2 : List (Nat × Nat) := [(4, 4), (7, 10), (60, 113)]
def pln96 (id : Nat) : Plan :=
  match id with
  | 9 => (.take 0 (.take 1 (.take 2 (.take 3 (.take 4 (.take 5 (.take 6 (.take 7 (.take 8 (.take 9 (.take 10 (.take 11 (.take 12 (.take 13 (.take 14 (.take 15 (.take 16 (.take 17 (.take 18 (.take 19 .done))))))))))))))))))))
  | 18 => (.take 0 (.take 1 (.take 2 (.take 3 (.take 4 (.take 5 (.take 6 (.take 7 (.take 8 (.take 9 (.take 10 (.take 11 (.take 12 (.take 13 (.take 14 (.take 15 (.take 16 (.take 17 (.take 18 (.take 19 .done))))))))))))))))))))
  | _ => .done
def plan96 (id : Nat) : Plan := pln96 id
def ws97_1 : List (Nat × Nat) := [(4, 6), (16, 53)]
def ws97_2 : List (Nat × Nat) := [(4, 4), (7, 10), (56, 98)]
def pln97 (id : Nat) : Plan :=
  match id with
  | 9 => (.take 0 (.take 1 (.take 2 (.take 3 (.take 4 (.take 5 (.take 6 (.take 7 (.take 8 (.take 9 (.take 10 (.take 11 (.take 12 (.take 13 (.take 14 (.take 15 (.take 16 (.take 17 (.take 18 (.take 19 .done))))))))))))))))))))
  | _ => .done
def plan97 (id : Nat) : Plan := pln97 id
def plan98 (id : Nat) : Plan :=
  match id with
  | 1 => (.take 0 (.take 1 (.take 2 (.take 3 (.take 4 (.take 5 (.take 6 (.take 7 (.sink 8)))))))))
  | _ => .done
def pln98 (id : Nat) : Plan :=
  match id with
  | 1 => (.take 0 (.take 1 (.take 2 (.take 3 (.take 4 (.take 5 (.take 6 (.take 7 (.post 8 .done)))))))))
  | _ => .done

end Go.Proofs.YtinpgogjkmmjpaaDoor.Vc
