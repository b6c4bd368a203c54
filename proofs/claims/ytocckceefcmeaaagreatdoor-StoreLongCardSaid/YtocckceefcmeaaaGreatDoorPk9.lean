/- Joined parts of the proof. The orders in which the reckoner walks the regions that draw theirs: printed by a program of ours, each is checked where -/
import Derived.Test.YtocckceefcmeaaaGreatDoorPk2
import Derived.Test.YtocckceefcmeaaaGreatDoorProg
import Derived.KernelRfl
import Derived.IntWalk
import Derived.Test.YtocckceefcmeaaaGreatDoorPk8
import Derived.Lib.AppendZeros
set_option linter.unusedVariables false
set_option linter.unusedSimpArgs false
set_option maxRecDepth 100000
set_option maxHeartbeats 16000000
namespace Go.Proofs.YtocckceefcmeaaaGreatDoor.Vc
def ws3_1 : List (Nat × Nat) := [(8, 19), (25, 94)]
def ws4_1 : List (Nat × Nat) := [(7, 7), (19, 27)]
def ws10_1 : List (Nat × Nat) := [(10, 12), (47, 67)]
def pln10 (id : Nat) : Plan :=
 match id with
 | 13 => (.take 0 (.take 1 (.take 2 (.take 3 (.take 4 (.take 5 (.take 6 (.take 7 (.take 8 (.one 9 (.one 10 (.post 11 (.take 12 .done)))))))))))))
 | _ => .done
def ws11_1 : List (Nat × Nat) := [(10, 11), (45, 64)]
def ws12_1 : List (Nat × Nat) := [(4, 5), (11, 27)]
def pln12 (id : Nat) : Plan :=
 match id with
 | 6 => (.take 0 (.take 1 (.take 2 (.take 3 (.take 4 (.take 5 (.take 6 (.take 7 (.take 8 (.take 9 (.take 10 .done)))))))))))
 | _ => .done
def ws13_1 : List (Nat × Nat) := [(2, 5), (7, 7), (9, 9), (26, 37)]
def pln13 (id : Nat) : Plan :=
 match id with
 | 18 => (.take 0 (.take 1 (.take 2 (.take 3 (.take 4 (.take 5 (.take 6 (.take 7 (.take 8 .done)))))))))
 | _ => .done
def ws30_1 : List (Nat × Nat) := [(0, 0), (5, 5), (15, 25)]
def pln32 (id : Nat) : Plan :=
 match id with
 | 3 => (.take 0 (.take 1 (.take 2 (.take 3 (.take 4 (.take 5 (.take 6 (.take 7 (.take 8 (.take 9 (.take 10 (.take 11 (.take 12 (.take 13 (.take 14 (.take 15 (.take 16 (.take 17 (.take 18 (.take 19 (.take 20 (.take 21 (.take 22 (.take 23 (.take 24 (.take 25 (.take 26 (.take 27 (.take 28 (.take 29 (.take 30 (.take 31 (.take 32 (.take 33 (.take 34 (.take 35 (.take 36 (.take 37 (.take 38 (.take 39 (.take 40 (.one 41 (.post 42 .done)))))))))))))))))))))))))))))))))))))))))))
 | 4 => (.take 0 (.take 1 (.take 2 (.take 3 (.take 4 (.take 5 (.take 6 (.take 7 (.take 8 (.take 9 (.take 10 (.take 11 (.take 12 (.take 13 (.take 14 (.take 15 (.one 16 (.one 17 (.take 18 (.one 19 (.take 20 .done)))))))))))))))))))))
 | _ => .done
def ws35_1 : List (Nat × Nat) := [(6, 9), (17, 31)]
def pln42 (id : Nat) : Plan :=
 match id with
 | 2 => (.take 0 (.take 1 (.take 2 (.take 4 (.take 5 (.take 6 (.one 3 (.take 8 (.one 7 (.post 9 (.take 10 (.post 11 .done))))))))))))
 | _ => .done
def ws43_1 : List (Nat × Nat) := [(2, 4), (7, 7), (10, 16), (34, 66)]
def ws44_1 : List (Nat × Nat) := [(3, 3), (5, 7), (10, 32)]
def ws45_1 : List (Nat × Nat) := [(4, 4), (6, 8), (21, 35)]
def pln45 (id : Nat) : Plan :=
 match id with
 | 20 => (.take 0 (.take 1 (.take 2 (.take 3 (.take 4 (.take 5 (.take 6 (.take 7 (.one 8 (.take 9 (.post 10 (.take 11 .done))))))))))))
 | _ => .done
def ws46_1 : List (Nat × Nat) := [(5, 5), (19, 35)]
def pln46 (id : Nat) : Plan :=
 match id with
 | 7 => (.take 0 (.take 1 (.one 2 (.one 3 (.post 4 (.take 5 (.post 6 .done)))))))
 | 8 => (.take 0 (.take 1 (.one 2 (.one 3 (.post 4 (.take 5 (.post 6 .done)))))))
 | _ => .done
def ws56_1 : List (Nat × Nat) := [(2, 3), (5, 6), (14, 23)]
def pln56 (id : Nat) : Plan :=
 match id with
 | 13 => (.take 0 (.take 1 (.one 2 (.post 3 (.post 4 .done)))))
 | _ => .done
def ws59_1 : List (Nat × Nat) := [(7, 11), (16, 37)]
def ws66_1 : List (Nat × Nat) := [(3, 4), (12, 21)]
def ws68_1 : List (Nat × Nat) := [(6, 18)]
def ws70_1 : List (Nat × Nat) := [(5, 6), (9, 21)]
def ws77_1 : List (Nat × Nat) := [(3, 3), (5, 5), (8, 17)]
def pln78 (id : Nat) : Plan :=
 match id with
 | 7 => (.take 0 (.take 1 (.take 2 (.take 3 (.take 4 (.take 5 (.take 6 (.take 7 (.take 8 (.take 9 (.take 10 .done)))))))))))
 | _ => .done
def ws79_1 : List (Nat × Nat) := [(2, 3), (6, 10), (23, 47)]
def pln85 (id : Nat) : Plan :=
 match id with
 | 1 => (.take 0 (.take 1 (.take 2 (.take 3 (.take 4 (.take 5 (.take 6 (.take 7 (.take 8 (.take 9 (.take 10 (.take 11 .done))))))))))))
 | _ => .done
def ws87_1 : List (Nat × Nat) := [(3, 3), (5, 7), (9, 11), (18, 71)]
def ws87_2 : List (Nat × Nat) := [(6, 7), (24, 38)]
def ws87_3 : List (Nat × Nat) := [(3, 3), (9, 11), (46, 70)]
def ws87_4 : List (Nat × Nat) := [(10, 11), (52, 65)]
def pln87 (id : Nat) : Plan :=
 match id with
 | 10 => (.take 0 (.take 1 (.take 2 (.take 3 (.take 4 (.take 5 (.one 6 (.take 7 (.take 8 (.one 9 (.post 10 (.take 11 .done))))))))))))
 | _ => .done
def ws102_1 : List (Nat × Nat) := [(9, 11), (26, 50)]
def ws102_2 : List (Nat × Nat) := [(10, 11), (33, 48)]
def ws102_3 : List (Nat × Nat) := [(8, 8), (12, 12), (54, 74)]
def ws103_1 : List (Nat × Nat) := [(3, 3), (5, 6), (9, 30)]
def ws103_2 : List (Nat × Nat) := [(3, 3), (6, 6), (13, 26)]
def ws104_1 : List (Nat × Nat) := [(8, 10), (20, 77)]
def ws104_2 : List (Nat × Nat) := [(9, 10), (27, 53)]
def ws105_1 : List (Nat × Nat) := [(3, 36)]
def ws105_2 : List (Nat × Nat) := [(3, 3), (6, 6), (19, 30)]
def ws106_1 : List (Nat × Nat) := [(2, 5), (11, 75)]
def ws110_1 : List (Nat × Nat) := [(4, 6), (13, 13), (15, 19), (21, 25), (62, 141)]
def ws110_2 : List (Nat × Nat) := [(19, 19), (85, 99)]
def ws110_3 : List (Nat × Nat) := [(4, 6), (13, 13), (21, 25), (103, 140)]
def ws110_4 : List (Nat × Nat) := [(25, 25), (126, 139)]
def pln110 (id : Nat) : Plan :=
 match id with
 | 20 => (.take 0 (.take 1 (.take 2 (.take 3 (.take 4 (.take 6 (.take 7 (.take 8 (.take 9 (.one 5 (.take 10 (.post 11 .done))))))))))))
 | 32 => (.take 0 (.take 1 (.take 2 (.take 3 (.take 5 (.take 6 (.take 7 (.take 8 (.one 4 (.take 9 (.post 10 .done)))))))))))
 | _ => .done
def ws118_1 : List (Nat × Nat) := [(2, 5), (18, 49)]
def ws118_2 : List (Nat × Nat) := [(2, 2), (7, 7), (52, 59)]
def ws119_1 : List (Nat × Nat) := [(4, 30)]
def pln119 (id : Nat) : Plan :=
 match id with
 | 3 => (.take 0 (.take 1 (.take 2 (.take 3 (.take 4 (.take 5 (.take 6 .done)))))))
 | _ => .done
def plan119 (id : Nat) : Plan := pln119 id
def ws121_1 : List (Nat × Nat) := [(4, 4), (6, 6), (23, 30)]
def ws121_2 : List (Nat × Nat) := [(7, 7), (9, 11), (33, 47)]
def ws122_1 : List (Nat × Nat) := [(2, 6), (8, 37)]
def ws123_1 : List (Nat × Nat) := [(4, 5), (7, 7), (18, 30)]
def pln123 (id : Nat) : Plan :=
 match id with
 | 1 => (.take 0 (.take 1 (.take 2 (.take 3 (.take 4 (.take 5 (.take 6 (.take 7 (.take 8 (.take 9 .done))))))))))
 | 5 => (.take 0 (.take 1 (.take 2 (.take 3 (.take 4 (.take 5 (.take 6 (.take 7 (.take 8 (.take 9 .done))))))))))
 | _ => .done
def pln125 (id : Nat) : Plan :=
 match id with
 | 0 => (.take 0 (.take 1 (.take 2 (.take 3 (.take 4 (.take 5 (.one 6 (.take 7 (.post 8 .done)))))))))
 | _ => .done
def ws127_1 : List (Nat × Nat) := [(4, 5), (11, 21)]
def plan134 (id : Nat) : Plan :=
 match id with
 | 0 => (.take 0 (.take 1 (.take 2 (.take 3 (.take 4 (.take 5 (.take 6 (.take 7 (.sink 8)))))))))
 | 2 => (.take 0 (.take 1 (.take 2 (.take 3 (.take 4 (.take 5 (.take 6 (.take 7 (.sink 8)))))))))
 | _ => .done
def ws135_1 : List (Nat × Nat) := [(5, 119)]
def plan135 (id : Nat) : Plan :=
 match id with
 | 2 => (.take 0 (.take 1 (.take 2 (.take 3 (.take 4 (.take 5 (.take 6 (.take 7 (.take 8 (.take 9 (.take 10 (.sink 11))))))))))))
 | 3 => (.take 0 (.take 1 (.take 2 (.take 3 (.take 4 (.take 6 (.take 7 (.take 8 (.take 9 (.take 11 (.one 5 (.take 10 (.take 12 (.sink 13))))))))))))))
 | 4 => (.take 0 (.take 1 (.take 2 (.take 3 (.take 4 (.take 6 (.one 5 (.take 7 (.sink 8)))))))))
 | 5 => (.take 0 (.take 1 (.take 2 (.take 3 (.take 4 (.take 5 (.take 6 (.take 7 (.take 8 (.take 9 (.take 10 (.sink 11))))))))))))
 | 6 => (.take 0 (.take 1 (.take 2 (.take 3 (.take 4 (.take 6 (.take 7 (.take 8 (.take 9 (.take 11 (.one 5 (.take 10 (.take 12 (.sink 13))))))))))))))
 | 7 => (.take 0 (.take 1 (.take 2 (.take 3 (.take 4 (.take 5 (.take 6 (.take 7 (.take 8 (.take 9 (.take 10 (.sink 11))))))))))))
 | 8 => (.take 0 (.take 1 (.take 2 (.take 3 (.take 4 (.take 6 (.take 7 (.take 8 (.take 9 (.take 11 (.one 5 (.take 10 (.take 12 (.sink 13))))))))))))))
 | 9 => (.take 0 (.take 1 (.take 2 (.take 3 (.take 4 (.take 5 (.take 6 (.take 7 (.take 8 (.take 9 (.take 10 (.sink 11))))))))))))
 | 10 => (.take 0 (.take 1 (.take 2 (.take 3 (.take 4 (.take 6 (.take 7 (.take 8 (.take 9 (.take 11 (.one 5 (.take 10 (.take 12 (.sink 13))))))))))))))
 | 11 => (.take 0 (.take 1 (.take 2 (.take 3 (.take 4 (.take 6 (.one 5 (.take 7 (.sink 8)))))))))
 | _ => .done
def ws136_1 : List (Nat × Nat) := [(5, 70)]
def plan136 (id : Nat) : Plan :=
 match id with
 | 5 => (.take 0 (.take 1 (.take 3 (.take 4 (.one 2 (.take 5 (.take 6 (.sink 7))))))))
 | 8 => (.take 0 (.take 1 (.take 3 (.take 4 (.one 2 (.take 5 (.take 6 (.sink 7))))))))
 | 10 => (.take 0 (.take 1 (.take 3 (.take 4 (.one 2 (.take 5 (.take 6 (.sink 7))))))))
 | 12 => (.take 0 (.take 1 (.take 3 (.take 4 (.one 2 (.take 5 (.take 6 (.sink 7))))))))
 | _ => .done
def ws137_1 : List (Nat × Nat) := [(7, 8), (10, 10), (25, 41)]
def ws137_2 : List (Nat × Nat) := [(2, 4), (9, 9), (15, 15), (57, 76)]
def pln138 (id : Nat) : Plan :=
 match id with
 | 8 => (.take 1 (.take 2 (.take 5 (.take 6 (.take 8 (.take 12 (.one 0 (.take 3 (.take 4 (.one 7 (.one 9 (.take 10 (.take 11 (.post 13 (.take 14 (.take 15 (.take 16 (.take 17 (.take 18 .done)))))))))))))))))))
 | _ => .done
def ws141_1 : List (Nat × Nat) := [(4, 5), (8, 18)]
def ws142_1 : List (Nat × Nat) := [(3, 8), (13, 35)]
def ws142_2 : List (Nat × Nat) := [(12, 12), (42, 55)]
def ws142_3 : List (Nat × Nat) := [(10, 12), (57, 94)]
def ws142_4 : List (Nat × Nat) := [(12, 12), (80, 93)]
def ws157_1 : List (Nat × Nat) := [(7, 9), (13, 30)]
def pln159 (id : Nat) : Plan :=
 match id with
 | 1 => (.take 0 (.take 1 (.take 3 (.take 4 (.one 2 (.take 6 (.one 5 (.post 7 (.take 8 (.post 9 .done))))))))))
 | _ => .done
def ws160_1 : List (Nat × Nat) := [(2, 43)]
def ws172_1 : List (Nat × Nat) := [(1, 3), (8, 133)]
def ws176_1 : List (Nat × Nat) := [(0, 0), (6, 6), (9, 16)]
def ws177_1 : List (Nat × Nat) := [(7, 7), (10, 23)]
def ws178_1 : List (Nat × Nat) := [(0, 0), (5, 39)]
def ws178_2 : List (Nat × Nat) := [(6, 6), (12, 28)]
def pln178 (id : Nat) : Plan :=
 match id with
 | 4 => (.take 0 (.take 1 (.take 2 (.take 3 (.take 4 (.take 5 (.take 6 (.take 7 (.take 8 (.take 9 (.take 10 (.take 11 (.take 12 (.take 13 (.take 14 .done)))))))))))))))
 | _ => .done
def ws179_1 : List (Nat × Nat) := [(4, 5), (7, 9), (12, 40)]
def ws180_1 : List (Nat × Nat) := [(0, 0), (5, 5), (7, 7), (10, 20)]
def ws181_1 : List (Nat × Nat) := [(8, 8), (15, 31)]
def pln181 (id : Nat) : Plan :=
 match id with
 | 5 => (.take 0 (.take 1 (.take 2 (.take 3 (.take 4 (.take 5 (.take 6 (.take 7 (.take 8 (.take 9 (.take 10 (.post 11 .done))))))))))))
 | _ => .done
def ws182_1 : List (Nat × Nat) := [(0, 0), (7, 9), (24, 37)]
def ws183_1 : List (Nat × Nat) := [(8, 8), (16, 29)]
def ws183_2 : List (Nat × Nat) := [(4, 5), (9, 10), (30, 55)]
def ws184_1 : List (Nat × Nat) := [(8, 12), (36, 71)]
def ws184_2 : List (Nat × Nat) := [(11, 12), (47, 70)]
def pln184 (id : Nat) : Plan :=
 match id with
 | 13 => (.take 0 (.take 1 (.take 2 (.take 3 (.take 4 (.take 5 (.take 6 (.take 7 (.take 8 (.take 9 (.take 10 (.take 11 (.take 12 (.take 13 (.take 14 (.post 15 .done))))))))))))))))
 | _ => .done
def ws185_1 : List (Nat × Nat) := [(9, 13), (39, 74)]
def ws185_2 : List (Nat × Nat) := [(11, 13), (43, 65)]
def ws190_1 : List (Nat × Nat) := [(6, 7), (10, 48)]
def ws201_1 : List (Nat × Nat) := [(8, 8), (34, 46)]
def pln201 (id : Nat) : Plan :=
 match id with
 | 9 => (.take 0 (.take 1 (.take 2 (.take 3 (.take 4 (.take 5 (.take 6 (.one 7 (.take 8 (.take 9 .done))))))))))
 | _ => .done
def ws205_1 : List (Nat × Nat) := [(7, 9), (13, 30)]
def ws206_1 : List (Nat × Nat) := [(3, 4), (12, 23)]
def ws207_1 : List (Nat × Nat) := [(3, 4), (12, 23)]
end Go.Proofs.YtocckceefcmeaaaGreatDoor.Vc
namespace Go.Proofs.YtocckceefcmeaaaGreatDoor.Dg
open Go Go.RowKit Go.Proofs.YtocckceefcmeaaaGreatDoor.Vc
attribute [local irreducible] loadVar storeVar Instr.indexAt Instr.index Instr.sliceAt Instr.makeSlice Instr.lookup Instr.mapUpdate Instr.range Instr.next Instr.entry Instr.makeMap Builtin.append_ Builtin.copy_ Builtin.len_ Builtin.min_ Builtin.max_ Builtin.cap_ Builtin.delete_ Builtin.clear_ convert binOp eqGuard Op.unary Calls
theorem mixed : Tryz.prog.follows .mixedOrders = true := by kernel_rfl
def rotI (x : Int) (n : Nat) : Int := bitsOp .or .u64 (IntKind.u64.wrap (x * 2 ^ n)) (x.fdiv (2 ^ (64 - n)))
theorem rot_ok (x k : Int) (n : Nat) (hk : bitsOp .and .u64 (IntKind.u64.wrap k) 63 = n) (h0 : 0 < n) (h1 : n < 64) (w : World) :
  Ret Tryz.prog 164 #[.int .u64 x, .int .i64 k] w fun v w' => v = .int .u64 (rotI x n) ∧ w' = w := by
 have e3 : IntKind.u64.wrap (64 - (n : Int)) = 64 - n := IntWalk.u64_in _ (by omega)
 refine ret_of_vc Tryz.func164 rfl mixed (by kernel_rfl) ?_
 conv=>whnf
 refine VReq.mk (by rw [hk]; omega) ?_
 conv=>whnf
 refine VReq.mk ?_ ?_
 ·rw [hk, e3]; omega
 conv=>whnf
 refine VEnd.mk ⟨?_, rfl⟩
 show Value.int .u64 _ = _
 rw [hk, e3]
 unfold rotI
 have e1 : min (n : Int).toNat IntKind.u64.bits = n := by simp [IntKind.bits]; omega
 have e2 : min (64 - (n : Int)).toNat IntKind.u64.bits = 64 - n := by simp [IntKind.bits]
 rw [e1, e2]
structure S4 where
 a : Int
 b : Int
 c : Int
 d : Int
def u (x : Int) : Value := .int .u64 x
def add (x y : Int) : Int := IntKind.u64.wrap (x + y)
def xor (x y : Int) : Int := bitsOp .xor .u64 x y
def S4.round (s : S4) : S4 :=
 let a := add s.a s.b
 let b := xor (rotI s.b 13) a
 let a := rotI a 32
 let c := add s.c s.d
 let d := xor (rotI s.d 16) c
 let a := add a d
 let d := xor (rotI d 21) a
 let c := add c b
 let b := xor (rotI b 17) c
 let c := rotI c 32
 ⟨a, b, c, d⟩
def S4.rounds (s : S4) : Nat → S4
 | 0 => s
 | n + 1 => (s.rounds n).round
@[reducible] def S4.cells (s : S4) : List Value := [.int .u64 s.a, .int .u64 s.b, .int .u64 s.c, .int .u64 s.d]
theorem rounds_ok (b : Nat) (T : TypeId) (n : Nat) (hn : n < 100) (s : S4) (w : World) (hb : Blk w b s.cells T) :
  Ret Tryz.prog 135 #[.pointer (some ⟨b, 0, none⟩), .int .i64 n] w fun _ w' => ∃ t, t = s.rounds n ∧ Only b w w' ∧ Blk w' b t.cells T := by
 refine ret_of_vc Tryz.func135 rfl mixed (by kernel_rfl) ?_
 conv=>whnf
 refine vloop (X := Nat) ws135_1 (fun i => [(0, .pointer (some ⟨b, 0, none⟩)), (4, .int .i64 n), (5, .int .i64 i)]) (fun i w' => i ≤ n ∧ Only b w w' ∧ Blk w' b (s.rounds i).cells T) (fun i => n - i) 0 (by kernel_rfl) ⟨rfl, rfl, rfl, trivial⟩ ⟨Nat.zero_le _, Only.refl _ _, hb⟩ ?_
 rintro i w' j ⟨hi, ho, hb'⟩
 conv=>whnf
 refine vif_split (fun hlt => ?_) (fun hge => ?_)
 ·have hlt : i < n := by simpa using hlt
  conv=>whnf
  (refine vdrawAt plan135 (by kernel_rfl) ?_; conv=>whnf)
  repeat (first | (refine VReq.mk (by first | decide | omega) ?_; conv=>whnf) | (refine VPend.mk rfl ?_; conv=>whnf) | (refine VNext.keep rfl ?_; conv=>whnf) | (refine vs_loadB rfl (by assumption) rfl ?_; conv=>whnf) | (refine vs_arrL rfl rfl rfl ?_; conv=>whnf) | (refine vs_storeB (by assumption) rfl rfl rfl ?_; intro _ _ _; conv=>whnf))
  (refine vdrawAt plan135 (by kernel_rfl) ?_; conv=>whnf)
  repeat (first | (refine VReq.mk (by first | decide | omega) ?_; conv=>whnf) | (refine VPend.mk rfl ?_; conv=>whnf) | (refine VNext.keep rfl ?_; conv=>whnf) | (refine vs_loadB rfl (by assumption) rfl ?_; conv=>whnf) | (refine vs_arrL rfl rfl rfl ?_; conv=>whnf) | (refine vs_storeB (by assumption) rfl rfl rfl ?_; intro _ _ _; conv=>whnf))
  refine vcall (by kernel_rfl) (rot_ok _ _ 13 (by kernel_rfl) (by decide) (by decide) _) ?_
  rintro _ _ ⟨rfl, rfl⟩
  conv=>whnf
  repeat (first | (refine VReq.mk (by first | decide | omega) ?_; conv=>whnf) | (refine VPend.mk rfl ?_; conv=>whnf) | (refine VNext.keep rfl ?_; conv=>whnf) | (refine vs_loadB rfl (by assumption) rfl ?_; conv=>whnf) | (refine vs_arrL rfl rfl rfl ?_; conv=>whnf) | (refine vs_storeB (by assumption) rfl rfl rfl ?_; intro _ _ _; conv=>whnf))
  (refine vdrawAt plan135 (by kernel_rfl) ?_; conv=>whnf)
  repeat (first | (refine VReq.mk (by first | decide | omega) ?_; conv=>whnf) | (refine VPend.mk rfl ?_; conv=>whnf) | (refine VNext.keep rfl ?_; conv=>whnf) | (refine vs_loadB rfl (by assumption) rfl ?_; conv=>whnf) | (refine vs_arrL rfl rfl rfl ?_; conv=>whnf) | (refine vs_storeB (by assumption) rfl rfl rfl ?_; intro _ _ _; conv=>whnf))
  refine vcall (by kernel_rfl) (rot_ok _ _ 32 (by kernel_rfl) (by decide) (by decide) _) ?_
  rintro _ _ ⟨rfl, rfl⟩
  conv=>whnf
  repeat (first | (refine VReq.mk (by first | decide | omega) ?_; conv=>whnf) | (refine VPend.mk rfl ?_; conv=>whnf) | (refine VNext.keep rfl ?_; conv=>whnf) | (refine vs_loadB rfl (by assumption) rfl ?_; conv=>whnf) | (refine vs_arrL rfl rfl rfl ?_; conv=>whnf) | (refine vs_storeB (by assumption) rfl rfl rfl ?_; intro _ _ _; conv=>whnf))
  (refine vdrawAt plan135 (by kernel_rfl) ?_; conv=>whnf)
  repeat (first | (refine VReq.mk (by first | decide | omega) ?_; conv=>whnf) | (refine VPend.mk rfl ?_; conv=>whnf) | (refine VNext.keep rfl ?_; conv=>whnf) | (refine vs_loadB rfl (by assumption) rfl ?_; conv=>whnf) | (refine vs_arrL rfl rfl rfl ?_; conv=>whnf) | (refine vs_storeB (by assumption) rfl rfl rfl ?_; intro _ _ _; conv=>whnf))
  (refine vdrawAt plan135 (by kernel_rfl) ?_; conv=>whnf)
  repeat (first | (refine VReq.mk (by first | decide | omega) ?_; conv=>whnf) | (refine VPend.mk rfl ?_; conv=>whnf) | (refine VNext.keep rfl ?_; conv=>whnf) | (refine vs_loadB rfl (by assumption) rfl ?_; conv=>whnf) | (refine vs_arrL rfl rfl rfl ?_; conv=>whnf) | (refine vs_storeB (by assumption) rfl rfl rfl ?_; intro _ _ _; conv=>whnf))
  refine vcall (by kernel_rfl) (rot_ok _ _ 16 (by kernel_rfl) (by decide) (by decide) _) ?_
  rintro _ _ ⟨rfl, rfl⟩
  conv=>whnf
  repeat (first | (refine VReq.mk (by first | decide | omega) ?_; conv=>whnf) | (refine VPend.mk rfl ?_; conv=>whnf) | (refine VNext.keep rfl ?_; conv=>whnf) | (refine vs_loadB rfl (by assumption) rfl ?_; conv=>whnf) | (refine vs_arrL rfl rfl rfl ?_; conv=>whnf) | (refine vs_storeB (by assumption) rfl rfl rfl ?_; intro _ _ _; conv=>whnf))
  (refine vdrawAt plan135 (by kernel_rfl) ?_; conv=>whnf)
  repeat (first | (refine VReq.mk (by first | decide | omega) ?_; conv=>whnf) | (refine VPend.mk rfl ?_; conv=>whnf) | (refine VNext.keep rfl ?_; conv=>whnf) | (refine vs_loadB rfl (by assumption) rfl ?_; conv=>whnf) | (refine vs_arrL rfl rfl rfl ?_; conv=>whnf) | (refine vs_storeB (by assumption) rfl rfl rfl ?_; intro _ _ _; conv=>whnf))
  (refine vdrawAt plan135 (by kernel_rfl) ?_; conv=>whnf)
  repeat (first | (refine VReq.mk (by first | decide | omega) ?_; conv=>whnf) | (refine VPend.mk rfl ?_; conv=>whnf) | (refine VNext.keep rfl ?_; conv=>whnf) | (refine vs_loadB rfl (by assumption) rfl ?_; conv=>whnf) | (refine vs_arrL rfl rfl rfl ?_; conv=>whnf) | (refine vs_storeB (by assumption) rfl rfl rfl ?_; intro _ _ _; conv=>whnf))
  refine vcall (by kernel_rfl) (rot_ok _ _ 21 (by kernel_rfl) (by decide) (by decide) _) ?_
  rintro _ _ ⟨rfl, rfl⟩
  conv=>whnf
  repeat (first | (refine VReq.mk (by first | decide | omega) ?_; conv=>whnf) | (refine VPend.mk rfl ?_; conv=>whnf) | (refine VNext.keep rfl ?_; conv=>whnf) | (refine vs_loadB rfl (by assumption) rfl ?_; conv=>whnf) | (refine vs_arrL rfl rfl rfl ?_; conv=>whnf) | (refine vs_storeB (by assumption) rfl rfl rfl ?_; intro _ _ _; conv=>whnf))
  (refine vdrawAt plan135 (by kernel_rfl) ?_; conv=>whnf)
  repeat (first | (refine VReq.mk (by first | decide | omega) ?_; conv=>whnf) | (refine VPend.mk rfl ?_; conv=>whnf) | (refine VNext.keep rfl ?_; conv=>whnf) | (refine vs_loadB rfl (by assumption) rfl ?_; conv=>whnf) | (refine vs_arrL rfl rfl rfl ?_; conv=>whnf) | (refine vs_storeB (by assumption) rfl rfl rfl ?_; intro _ _ _; conv=>whnf))
  (refine vdrawAt plan135 (by kernel_rfl) ?_; conv=>whnf)
  repeat (first | (refine VReq.mk (by first | decide | omega) ?_; conv=>whnf) | (refine VPend.mk rfl ?_; conv=>whnf) | (refine VNext.keep rfl ?_; conv=>whnf) | (refine vs_loadB rfl (by assumption) rfl ?_; conv=>whnf) | (refine vs_arrL rfl rfl rfl ?_; conv=>whnf) | (refine vs_storeB (by assumption) rfl rfl rfl ?_; intro _ _ _; conv=>whnf))
  refine vcall (by kernel_rfl) (rot_ok _ _ 17 (by kernel_rfl) (by decide) (by decide) _) ?_
  rintro _ _ ⟨rfl, rfl⟩
  conv=>whnf
  repeat (first | (refine VReq.mk (by first | decide | omega) ?_; conv=>whnf) | (refine VPend.mk rfl ?_; conv=>whnf) | (refine VNext.keep rfl ?_; conv=>whnf) | (refine vs_loadB rfl (by assumption) rfl ?_; conv=>whnf) | (refine vs_arrL rfl rfl rfl ?_; conv=>whnf) | (refine vs_storeB (by assumption) rfl rfl rfl ?_; intro _ _ _; conv=>whnf))
  (refine vdrawAt plan135 (by kernel_rfl) ?_; conv=>whnf)
  repeat (first | (refine VReq.mk (by first | decide | omega) ?_; conv=>whnf) | (refine VPend.mk rfl ?_; conv=>whnf) | (refine VNext.keep rfl ?_; conv=>whnf) | (refine vs_loadB rfl (by assumption) rfl ?_; conv=>whnf) | (refine vs_arrL rfl rfl rfl ?_; conv=>whnf) | (refine vs_storeB (by assumption) rfl rfl rfl ?_; intro _ _ _; conv=>whnf))
  refine vcall (by kernel_rfl) (rot_ok _ _ 32 (by kernel_rfl) (by decide) (by decide) _) ?_
  rintro _ _ ⟨rfl, rfl⟩
  conv=>whnf
  repeat (first | (refine VReq.mk (by first | decide | omega) ?_; conv=>whnf) | (refine VPend.mk rfl ?_; conv=>whnf) | (refine VNext.keep rfl ?_; conv=>whnf) | (refine vs_loadB rfl (by assumption) rfl ?_; conv=>whnf) | (refine vs_arrL rfl rfl rfl ?_; conv=>whnf) | (refine vs_storeB (by assumption) rfl rfl rfl ?_; intro _ _ _; conv=>whnf))
  refine VBack.mk ⟨_, ?_, i + 1, rfl, ?_, ?_⟩
  ·show n - (i + 1) < n - i; omega
  ·exact ⟨rfl, rfl, intEq (incr (by omega)), trivial⟩
  ·refine ⟨hlt, ?_, ?_⟩
   ·(repeat (first | assumption | exact Only.refl _ _ | refine Only.step (by assumption) ?_ | refine Only.stepP (by assumption) ?_))
   ·assumption
 ·have hge : ¬ i < n := by simpa using hge
  conv=>whnf
  have : i = n := by omega
  subst this
  exact VEnd.mk ⟨_, rfl, ho, hb'⟩
def S4.word (s : S4) (m : Int) : S4 :=
 let t := S4.rounds ⟨s.a, s.b, s.c, xor s.d m⟩ 2
 ⟨xor t.a m, t.b, t.c, t.d⟩
theorem word_ok (b : Nat) (T : TypeId) (m : Int) (s : S4) (w : World) (hb : Blk w b s.cells T) :
  Ret Tryz.prog 134 #[.pointer (some ⟨b, 0, none⟩), .int .u64 m] w fun _ w' => ∃ t, t = s.word m ∧ Only b w w' ∧ Blk w' b t.cells T := by
 refine ret_of_vc Tryz.func134 rfl mixed (by kernel_rfl) ?_
 conv=>whnf
 (refine vdrawAt plan134 (by kernel_rfl) ?_; conv=>whnf)
 repeat (first | (refine VReq.mk (by first | decide | omega) ?_; conv=>whnf) | (refine VPend.mk rfl ?_; conv=>whnf) | (refine VNext.keep rfl ?_; conv=>whnf) | (refine vs_loadB rfl (by assumption) rfl ?_; conv=>whnf) | (refine vs_arrL rfl rfl rfl ?_; conv=>whnf) | (refine vs_storeB (by assumption) rfl rfl rfl ?_; intro _ _ _; conv=>whnf))
 rename_i w1 o1 hb1
 refine vcall (by kernel_rfl) (rounds_ok b T 2 (by decide) ⟨s.a, s.b, s.c, xor s.d m⟩ _ hb1) ?_
 rintro _ w2 ⟨t, ht, o2, hb2⟩
 conv=>whnf
 (refine vdrawAt plan134 (by kernel_rfl) ?_; conv=>whnf)
 repeat (first | (refine VReq.mk (by first | decide | omega) ?_; conv=>whnf) | (refine VPend.mk rfl ?_; conv=>whnf) | (refine VNext.keep rfl ?_; conv=>whnf) | (refine vs_loadB rfl (by assumption) rfl ?_; conv=>whnf) | (refine vs_arrL rfl rfl rfl ?_; conv=>whnf) | (refine vs_storeB (by assumption) rfl rfl rfl ?_; intro _ _ _; conv=>whnf))
 rename_i w3 o3 hb3
 have he : s.word m = ⟨xor t.a m, t.b, t.c, t.d⟩ := by rw [ht]; rfl
 refine VEnd.mk ⟨⟨xor t.a m, t.b, t.c, t.d⟩, he.symm, ?_, hb3⟩
 exact Only.step o3 ((o1.ofDrew).trans o2)
def orI (x y : Int) : Int := bitsOp .or .u64 x y
def shl8 (b : UInt8) (k : Nat) : Int := IntKind.u64.wrap ((b.toNat : Int) * 2 ^ (8 * k))
def wordTo (l : List UInt8) : Nat → Int
 | 0 => 0
 | n + 1 => orI (wordTo l n) (shl8 (l.getD n 0) n)
def S4.init (k0 k1 : Int) : S4 := ⟨xor k0 8317987319222330741, xor k1 7237128888997146477, xor k0 7816392313619706465, xor k1 8387220255154660723⟩
def S4.upto (k0 k1 : Int) (l : List UInt8) : Nat → S4
 | 0 => .init k0 k1
 | i + 1 => (S4.upto k0 k1 l i).word (wordTo (l.drop (8 * i)) 8)
def lastTo (l : List UInt8) : Nat → Int
 | 0 => IntKind.u64.wrap (IntKind.u64.wrap l.length * 2 ^ 56)
 | n + 1 => orI (lastTo l n) (shl8 (l.getD (l.length - l.length % 8 + n) 0) n)
def S4.done (s : S4) : Int :=
 let t := S4.rounds ⟨s.a, s.b, xor s.c 255, s.d⟩ 4
 xor (xor (xor t.a t.b) t.c) t.d
def sumI (k0 k1 : Int) (l : List UInt8) : Int := ((S4.upto k0 k1 l (l.length / 8)).word (lastTo l (l.length % 8))).done
theorem shl8_eq (x : UInt8) (k : Nat) (hk : k < 8) (n : Int) (hn : n = (8 * k : Nat)) :
  IntKind.u64.wrap (IntKind.u64.wrap (x.toNat : Int) * 2 ^ min n.toNat IntKind.u64.bits) = shl8 x k := by
 subst hn
 have h1 : IntKind.u64.wrap (x.toNat : Int) = x.toNat := IntWalk.u64_in _ (by have := x.toNat_lt; omega)
 have h2 : min ((8 * k : Nat) : Int).toNat IntKind.u64.bits = 8 * k := by simp [IntKind.bits]; omega
 rw [h1, h2]
 rfl
theorem getD_drop (l : List UInt8) (i k : Nat) (h : i + k < l.length) : (l.drop i).getD k 0 = l[i + k] := by
 simp [List.getD_eq_getElem?_getD, List.getElem?_drop, h]
theorem sum_ok (k0 k1 : Int) (oa : Option Addr) (c : Nat) (l : List UInt8) (w : World) (hl : l.length < 4611686018427387904) (hr : Row w oa (bvals l)) :
  Ret Tryz.prog 102 #[.int .u64 k0, .int .u64 k1, .slice oa l.length c] w fun v w' => v = .int .u64 (sumI k0 k1 l) ∧ Below w.heap.size w w' := by
 refine ret_of_vc Tryz.func102 rfl mixed (by kernel_rfl) ?_
 conv=>whnf
 refine vs_storeN (Blk.new _ _ _) rfl rfl rfl ?_
 intro w1 o1 hb1
 have hB1 : Below w.heap.size w w1 := ((Below.refl _ _).alloc (Nat.le_refl _) _).trans (o1.below (Nat.le_refl _))
 conv=>whnf
 repeat (first | (refine VReq.mk (by first | decide | omega) ?_; conv=>whnf) | (refine VPend.mk rfl ?_; conv=>whnf) | (refine VNext.keep rfl ?_; conv=>whnf) | (refine vs_loadB rfl (by assumption) rfl ?_; conv=>whnf) | (refine vs_arrL rfl rfl rfl ?_; conv=>whnf) | (refine vs_storeB (by assumption) rfl rfl rfl ?_; intro _ _ _; conv=>whnf))
 refine vloop (X := Nat) ws102_1 (fun i => [(9, .int .i64 (8 * i : Nat))]) (fun i w' => 8 * i ≤ l.length ∧ Below w.heap.size w w' ∧ ∃ t, t = S4.upto k0 k1 l i ∧ Blk w' w.heap.size t.cells 175) (fun i => l.length - 8 * i) 0 (by kernel_rfl)
  ?_ ⟨Nat.zero_le _, hB1, _, rfl, hb1⟩ ?_
 ·exact ⟨rfl, trivial⟩
 rintro i w2 j ⟨hi, hB2, t, ht, hb2⟩
 conv=>whnf
 have e8 : IntKind.i64.wrap ((8 * i : Nat) + 8) = ((8 * i + 8 : Nat) : Int) := by rw [IntWalk.i64_in _ (by omega)]; omega
 refine vif_split (fun hlt => ?_) (fun hge => ?_)
 ·have hlt : 8 * i + 8 ≤ l.length := by rw [e8] at hlt; have := of_decide_eq_true hlt; omega
  obtain ⟨b, o, rfl, hbl, hc⟩ := hr.get (by simp; omega)
  conv=>whnf
  refine vloop (X := Nat) ws102_2 (fun k => [(10, .int .u64 (wordTo (l.drop (8 * i)) k)), (33, .int .i64 k)]) (fun k w' => k ≤ 8 ∧ w' = w2) (fun k => 8 - k) 0 (by kernel_rfl) ?_ ⟨by omega, rfl⟩ ?_
  ·exact ⟨rfl, rfl, trivial⟩
  rintro k _ j2 ⟨hk, rfl⟩
  conv=>whnf
  refine vif_split (fun hlt2 => ?_) (fun hge2 => ?_)
  ·have hlt2 : k < 8 := by have := of_decide_eq_true hlt2; omega
   conv=>whnf
   refine vs_sl1 (8 * i + k) rfl rfl (by rw [IntWalk.i64_in _ (by omega)]; omega) (by omega) ?_
   conv=>whnf
   refine vs_load1 rfl (by rw [hB2.cell (p := ⟨b, o + (8 * i + k), none⟩) hbl]; exact hc _ _ (bvals_get (by omega))) ?_
   conv=>whnf
   refine VReq.mk (by rw [IntWalk.i64_in _ (by omega)]; omega) ?_
   conv=>whnf
   refine VBack.mk ⟨_, ?_, k + 1, rfl, ?_, ?_⟩
   ·show 8 - (k + 1) < 8 - k; omega
   ·refine ⟨intEq ?_, intEq (incr (by omega)), trivial⟩
    rw [shl8_eq _ k hlt2 _ (by rw [IntWalk.i64_in _ (by omega)]; omega), ← getD_drop l (8 * i) k (by omega)]
    rfl
   ·exact ⟨hlt2, rfl⟩
  ·have hge2 : ¬ k < 8 := by have := of_decide_eq_false hge2; omega
   obtain rfl : k = 8 := by omega
   conv=>whnf
   refine vcall (by kernel_rfl) (word_ok _ _ _ _ _ hb2) ?_
   rintro _ w3 ⟨t3, ht3, o3, hb3⟩
   conv=>whnf
   refine VBack.mk ⟨_, ?_, i + 1, rfl, ?_, ?_⟩
   ·show l.length - 8 * (i + 1) < l.length - 8 * i; omega
   ·exact ⟨intEq (by rw [e8, Nat.mul_add]), trivial⟩
   ·refine ⟨by omega, hB2.trans (o3.below (Nat.le_refl _)), t3, ?_, hb3⟩
    rw [ht3, ht]; rfl
 ·have hge : ¬ 8 * i + 8 ≤ l.length := by rw [e8] at hge; have := of_decide_eq_false hge; omega
  have hi8 : i = l.length / 8 := by omega
  obtain ⟨r, hr8⟩ : ∃ r, r = l.length % 8 := ⟨_, rfl⟩
  conv=>whnf
  repeat (first | (refine VReq.mk (by first | decide | omega) ?_; conv=>whnf) | (refine VPend.mk rfl ?_; conv=>whnf) | (refine VNext.keep rfl ?_; conv=>whnf) | (refine vs_loadB rfl (by assumption) rfl ?_; conv=>whnf) | (refine vs_arrL rfl rfl rfl ?_; conv=>whnf) | (refine vs_storeB (by assumption) rfl rfl rfl ?_; intro _ _ _; conv=>whnf))
  refine vloop (X := Nat) ws102_3 (fun k => [(8, .int .u64 (lastTo l k)), (53, .int .i64 r), (54, .int .i64 k)]) (fun k w' => k ≤ r ∧ w' = w2) (fun k => r - k) 0 (by kernel_rfl) ?_ ⟨by omega, rfl⟩ ?_
  ·exact ⟨rfl, intEq (by rw [hr8]; rfl), rfl, trivial⟩
  rintro k _ j2 ⟨hk, rfl⟩
  conv=>whnf
  refine vif_split (fun hlt2 => ?_) (fun hge2 => ?_)
  ·have hlt2 : k < r := by have := of_decide_eq_true hlt2; omega
   obtain ⟨b, o, rfl, hbl, hc⟩ := hr.get (by simp; omega)
   conv=>whnf
   repeat (first | (refine VReq.mk (by first | decide | omega) ?_; conv=>whnf) | (refine VPend.mk rfl ?_; conv=>whnf) | (refine VNext.keep rfl ?_; conv=>whnf) | (refine vs_loadB rfl (by assumption) rfl ?_; conv=>whnf) | (refine vs_arrL rfl rfl rfl ?_; conv=>whnf) | (refine vs_storeB (by assumption) rfl rfl rfl ?_; intro _ _ _; conv=>whnf))
   refine vs_sl1 (l.length - r + k) rfl rfl ?_ (by omega) ?_
   ·have e1 : Int.tmod (l.length : Int) 8 = r := by rw [hr8]; rfl
    rw [e1, IntWalk.i64_in ((l.length : Int) - r) (by omega), IntWalk.i64_in _ (by omega)]
    omega
   conv=>whnf
   refine vs_load1 rfl (by rw [hB2.cell (p := ⟨b, o + (l.length - r + k), none⟩) hbl]; exact hc _ _ (bvals_get (by omega))) ?_
   conv=>whnf
   refine VReq.mk (by rw [IntWalk.i64_in _ (by omega)]; omega) ?_
   conv=>whnf
   refine VBack.mk ⟨_, ?_, k + 1, rfl, ?_, ?_⟩
   ·show r - (k + 1) < r - k; omega
   ·refine ⟨intEq ?_, rfl, intEq (incr (by omega)), trivial⟩
    rw [shl8_eq _ k (by omega) _ (by rw [IntWalk.i64_in _ (by omega)]; omega)]
    have := getD_drop l 0 (l.length - r + k) (by omega)
    simp only [List.drop_zero, Nat.zero_add] at this
    rw [← this, hr8]
    rfl
   ·exact ⟨hlt2, rfl⟩
  ·have hge2 : ¬ k < r := by have := of_decide_eq_false hge2; omega
   obtain rfl : k = r := by omega
   conv=>whnf
   refine vcall (by kernel_rfl) (word_ok _ _ _ _ _ hb2) ?_
   rintro _ w3 ⟨t3, ht3, o3, hb3⟩
   conv=>whnf
   repeat (first | (refine VReq.mk (by first | decide | omega) ?_; conv=>whnf) | (refine VPend.mk rfl ?_; conv=>whnf) | (refine VNext.keep rfl ?_; conv=>whnf) | (refine vs_loadB rfl (by assumption) rfl ?_; conv=>whnf) | (refine vs_arrL rfl rfl rfl ?_; conv=>whnf) | (refine vs_storeB (by assumption) rfl rfl rfl ?_; intro _ _ _; conv=>whnf))
   rename_i w4 o4 hb4
   refine vcall (by kernel_rfl) (rounds_ok _ _ 4 (by decide) ⟨t3.a, t3.b, xor t3.c 255, t3.d⟩ _ hb4) ?_
   rintro _ w5 ⟨t5, ht5, o5, hb5⟩
   conv=>whnf
   repeat (first | (refine VReq.mk (by first | decide | omega) ?_; conv=>whnf) | (refine VPend.mk rfl ?_; conv=>whnf) | (refine VNext.keep rfl ?_; conv=>whnf) | (refine vs_loadB rfl (by assumption) rfl ?_; conv=>whnf) | (refine vs_arrL rfl rfl rfl ?_; conv=>whnf) | (refine vs_storeB (by assumption) rfl rfl rfl ?_; intro _ _ _; conv=>whnf))
   refine VEnd.mk ⟨?_, ?_⟩
   ·have : sumI k0 k1 l = xor (xor (xor t5.a t5.b) t5.c) t5.d := by
     unfold sumI S4.done
     rw [← hi8, ← ht, ← hr8, ← ht3, ← ht5]
    rw [this]
    rfl
   ·exact hB2.trans (((o3.trans o4).trans o5).below (Nat.le_refl _))
def lenByte (n : Nat) (k : Nat) : UInt8 := UInt8.ofNat (n / 2 ^ (8 * k) % 256)
def lenTo (n : Nat) : Nat → List UInt8
 | 0 => []
 | k + 1 => lenTo n k ++ [lenByte n (7 - k)]
def frame (ls : List (List UInt8)) : List UInt8 :=
 match ls with
 | [] => []
 | l :: r => (lenTo l.length 8 ++ l) ++ frame r
def frameTo (ls : List (List UInt8)) (i : Nat) : List UInt8 := frame (ls.take i)
theorem frame_append (a b : List (List UInt8)) : frame (a ++ b) = frame a ++ frame b := by
 induction a with
 | nil => rfl
 | cons l r ih => simp only [List.cons_append, frame, ih, List.append_assoc]
theorem frameTo_succ (ls : List (List UInt8)) (i : Nat) (h : i < ls.length) : frameTo ls (i + 1) = frameTo ls i ++ (lenTo ls[i].length 8 ++ ls[i]) := by
 unfold frameTo
 rw [List.take_succ_eq_append_getElem h, frame_append]
 simp [frame]
theorem lenTo_len (n k : Nat) : (lenTo n k).length = k := by
 induction k with
 | zero => rfl
 | succ k ih => simp [lenTo, ih]
theorem frame_take_le (ls : List (List UInt8)) (i : Nat) : (frameTo ls i).length ≤ (frame ls).length := by
 have := frame_append (ls.take i) (ls.drop i)
 rw [List.take_append_drop] at this
 unfold frameTo
 rw [this, List.length_append]
 omega
def Fld (w : World) (vs : List Value) (ls : List (List UInt8)) : Prop :=
 vs.length = ls.length ∧ ∀ i (h : i < ls.length), ∃ oa c, vs[i]? = some (.slice oa ls[i].length c) ∧ ls[i].length ≤ c ∧ (oa = none → c = 0) ∧ Row w oa (bvals ls[i])
theorem Fld.below {w w' : World} {vs : List Value} {ls : List (List UInt8)} (h : Fld w vs ls) (hb : Below w.heap.size w w') : Fld w' vs ls :=
 ⟨h.1, fun i hi => let ⟨oa, c, h1, h2, h3, h4⟩ := h.2 i hi; ⟨oa, c, h1, h2, h3, h4.below hb⟩⟩
theorem byte_eq (n k : Nat) (hk : k < 8) (hn : n < 18446744073709551616) (x : Int) (hx : x = (8 * k : Nat)) :
  IntKind.u8.wrap ((IntKind.u64.wrap (n : Int)).fdiv (2 ^ min x.toNat IntKind.u64.bits)) = ((lenByte n k).toNat : Int) := by
 subst hx
 have h1 : IntKind.u64.wrap (n : Int) = n := IntWalk.u64_in _ (by omega)
 have h2 : min ((8 * k : Nat) : Int).toNat IntKind.u64.bits = 8 * k := by simp [IntKind.bits]; omega
 rw [h1, h2, IntKind.wrap_u8]
 unfold lenByte
 have e1 : ((n : Int).fdiv (2 ^ (8 * k))) = ((n / 2 ^ (8 * k) : Nat) : Int) := by
  rw [Int.fdiv_eq_ediv_of_nonneg]
  ·simp
  ·exact Int.le_of_lt (Int.pow_pos (by decide))
 rw [e1]
 simp
theorem bvals_byte (b : UInt8) : bvals [b] = [.int .u8 b.toNat] := rfl
theorem frame_ok (oa : Option Addr) (c : Nat) (vs : List Value) (ls : List (List UInt8)) (w : World) (hlen : ls.length ≤ 1099511627776) (hl : (frame ls).length ≤ 140737488355328) (hr : Row w oa vs) (hf : Fld w vs ls) :
  Ret Tryz.prog 103 #[.slice oa ls.length c] w fun v w' => ∃ oa' c', v = .slice oa' (frame ls).length c' ∧ Own w' w.heap.size 5 1 oa' (frame ls).length c' (bvals (frame ls)) ∧ Below w.heap.size w w' := by
 refine ret_of_vc Tryz.func103 rfl mixed (by kernel_rfl) ?_
 conv=>whnf
 refine vloop (X := Nat × Option Addr × Nat) ws103_1 (fun x => [(3, .slice x.2.1 (frameTo ls x.1).length x.2.2), (9, .int .i64 x.1)]) (fun x w' => x.1 ≤ ls.length ∧ Below w.heap.size w w' ∧ Own w' w.heap.size 5 1 x.2.1 (frameTo ls x.1).length x.2.2 (bvals (frameTo ls x.1))) (fun x => ls.length - x.1) (0, none, 0) (by kernel_rfl)
  ?_ ⟨Nat.zero_le _, Below.refl _ _, Own.nil _ _ _ _⟩ ?_
 ·exact ⟨rfl, rfl, trivial⟩
 rintro ⟨i, oo, cc⟩ w1 j ⟨hi, hB, ho⟩
 conv=>whnf
 refine vif_split (fun hlt => ?_) (fun hge => ?_)
 ·have hlt : i < ls.length := by have := of_decide_eq_true hlt; omega
  obtain ⟨b, o, rfl, hbl, hc⟩ := hr.get (by rw [hf.1]; omega)
  obtain ⟨oa1, c1, hv, hc1, hn1, hr1⟩ := hf.2 i hlt
  have hr1' := hr1.below hB
  have hL1 := frame_take_le ls (i + 1)
  rw [frameTo_succ ls i hlt] at hL1
  simp only [List.length_append, lenTo_len] at hL1
  conv=>whnf
  refine vs_sl1 i rfl rfl rfl hlt ?_
  conv=>whnf
  refine vs_load1 rfl (by rw [hB.cell (p := ⟨b, o + i, none⟩) hbl]; exact hc _ _ hv) ?_
  conv=>whnf
  refine vloop (X := Nat × Option Addr × Nat) ws103_2 (fun x => [(3, .slice x.2.1 ((frameTo ls i).length + x.1) x.2.2), (6, .int .i64 (7 - (x.1 : Int)))]) (fun x w' => x.1 ≤ 8 ∧ Below w.heap.size w w' ∧ Own w' w.heap.size 5 1 x.2.1 ((frameTo ls i).length + x.1) x.2.2 (bvals (frameTo ls i ++ lenTo ls[i].length x.1))) (fun x => 8 - x.1) (0, oo, cc) (by kernel_rfl)
   ?_ ⟨Nat.zero_le _, hB, by simpa [lenTo] using ho⟩ ?_
  ·exact ⟨rfl, rfl, trivial⟩
  rintro ⟨k, o2, c2⟩ w2 j2 ⟨hk, hB2, ho2⟩
  simp only at hk ho2
  conv=>whnf
  refine vif_split (fun hlt2 => ?_) (fun hge2 => ?_)
  ·have hlt2 : k < 8 := by have := of_decide_eq_true hlt2; simp only at this; omega
   conv=>whnf
   refine VReq.mk (by rw [IntWalk.i64_in _ (by simp only; omega)]; simp only; omega) ?_
   conv=>whnf
   refine vs_append (B := w.heap.size) (sz := 1) (by_ := 1) (m := 1) (n := (frameTo ls i).length + k) rfl rfl rfl rfl rfl rfl (ho2.alloc _) (Row.alloc1 _ _ _) rfl (fun u hu => by simp at hu; subst hu; rfl) (fun e => by cases e) (by omega) (Nat.le_trans hB2.size (by simp)) (by unfold maxLen; omega) ?_
   intro o3 c3 w3 ho3 hB3 _
   conv=>whnf
   refine VBack.mk ⟨_, ?_, (k + 1, o3, c3), rfl, ?_, ?_⟩
   ·show 8 - (k + 1) < 8 - k; omega
   ·exact ⟨rfl, intEq (by rw [IntWalk.i64_in _ (by simp only; omega)]; simp only; omega), trivial⟩
   ·refine ⟨hlt2, (balloc hB2 (Nat.le_refl _) _).trans hB3, ?_⟩
    simp only [lenTo]
    rw [← List.append_assoc, bvals_append, bvals_byte]
    rw [byte_eq _ (7 - k) (by omega) (by omega) _ (by rw [IntWalk.i64_in _ (by simp only; omega)]; simp only; omega)] at ho3
    exact ho3
  ·have hge2 : ¬ k < 8 := by have := of_decide_eq_false hge2; simp only at this; omega
   obtain rfl : k = 8 := by omega
   conv=>whnf
   have hr2 := hr1.below hB2
   refine vs_append (B := w.heap.size) (sz := 1) (by_ := 1) (m := ls[i].length) (n := (frameTo ls i).length + 8) rfl rfl rfl rfl rfl rfl ho2 hr2 (by simp) (bvals_one _) hn1 (by omega) hB2.size (by unfold maxLen; omega) ?_
   intro o3 c3 w3 ho3 hB3 _
   conv=>whnf
   have hfs := frameTo_succ ls i hlt
   have hfl : (frameTo ls i).length + 8 + ls[i].length = (frameTo ls (i + 1)).length := by rw [hfs]; simp [lenTo_len]; omega
   refine VBack.mk ⟨_, ?_, (i + 1, o3, c3), rfl, ?_, ?_⟩
   ·show ls.length - (i + 1) < ls.length - i; omega
   ·exact ⟨sliceEq hfl, intEq (incr (by omega)), trivial⟩
   ·refine ⟨hlt, hB2.trans hB3, ?_⟩
    rw [hfl, ← bvals_append, List.append_assoc, ← hfs] at ho3
    exact ho3
 ·have hge : ¬ i < ls.length := by have := of_decide_eq_false hge; omega
  obtain rfl : i = ls.length := by simp only at hi; omega
  conv=>whnf
  have hfa : frameTo ls ls.length = frame ls := by unfold frameTo; rw [List.take_length]
  simp only [hfa] at ho
  exact VEnd.mk ⟨oo, cc, by simp only [hfa]; rfl, ho, hB⟩
theorem hash_ok (d : Int) (oa : Option Addr) (c : Nat) (vs : List Value) (ls : List (List UInt8)) (w : World) (hlen : ls.length ≤ 1099511627776) (hl : (frame ls).length ≤ 140737488355328) (hr : Row w oa vs) (hf : Fld w vs ls) :
  Ret Tryz.prog 69 #[.int .u64 d, .slice oa ls.length c] w fun v w' => v = .int .u64 (sumI d 0 (frame ls)) ∧ Below w.heap.size w w' := by
 refine ret_of_vc Tryz.func69 rfl mixed (by kernel_rfl) ?_
 conv=>whnf
 refine vcall (by kernel_rfl) (frame_ok oa c vs ls w hlen hl hr hf) ?_
 rintro _ w1 ⟨o1, c1, rfl, ho1, hB1⟩
 conv=>whnf
 refine vcall (by kernel_rfl) (sum_ok d 0 o1 c1 (frame ls) w1 (by omega) ho1.row) ?_
 rintro _ w2 ⟨rfl, hB2⟩
 conv=>whnf
 exact VEnd.mk ⟨rfl, hB1.trans (hB2.mono hB1.size)⟩
theorem rotate_ok (x k : Int) (n : Nat) (hk : k = n) (h0 : 0 < n) (h1 : n < 64) (w : World) :
  Ret Tryz.prog 165 #[.int .u64 x, .int .u64 k] w fun v w' => v = .int .u64 (rotI x n) ∧ w' = w := by
 subst hk
 have e3 : IntKind.u64.wrap (64 - (n : Int)) = 64 - n := IntWalk.u64_in _ (by omega)
 refine ret_of_vc Tryz.func165 rfl mixed (by kernel_rfl) ?_
 conv=>whnf
 refine VReq.mk (by omega) ?_
 conv=>whnf
 refine VReq.mk (by rw [e3]; omega) ?_
 conv=>whnf
 refine VEnd.mk ⟨?_, rfl⟩
 show Value.int .u64 _ = _
 rw [e3]
 unfold rotI
 have e1 : min (n : Int).toNat IntKind.u64.bits = n := by simp [IntKind.bits]; omega
 have e2 : min (64 - (n : Int)).toNat IntKind.u64.bits = 64 - n := by simp [IntKind.bits]
 rw [e1, e2]
theorem rounds2_ok (n : Nat) (hn : n < 100) (s : S4) (w : World) :
  Ret Tryz.prog 136 #[.agg s.cells.toArray, .int .i64 n] w fun v w' => ∃ t, t = s.rounds n ∧ v = .agg t.cells.toArray ∧ Below w.heap.size w w' := by
 refine ret_of_vc Tryz.func136 rfl mixed (by kernel_rfl) ?_
 conv=>whnf
 have hb0 := (Blk.new w s.cells.toArray 179).alloc (.cells #[.int .u64 0, .int .u64 0, .int .u64 0, .int .u64 0] 179)
 have hr0 := Blk.new (w.alloc (.cells s.cells.toArray 179)) #[.int .u64 0, .int .u64 0, .int .u64 0, .int .u64 0] 179
 have hB0 := balloc (balloc (Below.refl w.heap.size w) (Nat.le_refl _) (.cells s.cells.toArray 179)) (Nat.le_refl _) (.cells #[.int .u64 0, .int .u64 0, .int .u64 0, .int .u64 0] 179)
 refine vloop (X := Nat) ws136_1 (fun i => [(5, .int .i64 i)]) (fun i w' => i ≤ n ∧ Only w.heap.size _ w' ∧ Blk w' w.heap.size (s.rounds i).cells 179) (fun i => n - i) 0 (by kernel_rfl) ?_ ⟨Nat.zero_le _, Only.refl _ _, hb0⟩ ?_
 ·exact ⟨rfl, trivial⟩
 rintro i w' j ⟨hi, ho, hb'⟩
 conv=>whnf
 refine vif_split (fun hlt => ?_) (fun hge => ?_)
 ·have hlt : i < n := by simpa using hlt
  conv=>whnf
  repeat (first | (refine VReq.mk (by first | decide | omega) ?_; conv=>whnf) | (refine VPend.mk rfl ?_; conv=>whnf) | (refine VNext.keep rfl ?_; conv=>whnf) | (refine vs_loadB rfl (by assumption) rfl ?_; conv=>whnf) | (refine vs_arrL rfl rfl rfl ?_; conv=>whnf) | (refine vs_storeB (by assumption) rfl rfl rfl ?_; intro _ _ _; conv=>whnf))
  (refine vdrawAt plan136 (by kernel_rfl) ?_; conv=>whnf)
  repeat (first | (refine VReq.mk (by first | decide | omega) ?_; conv=>whnf) | (refine VPend.mk rfl ?_; conv=>whnf) | (refine VNext.keep rfl ?_; conv=>whnf) | (refine vs_loadB rfl (by assumption) rfl ?_; conv=>whnf) | (refine vs_arrL rfl rfl rfl ?_; conv=>whnf) | (refine vs_storeB (by assumption) rfl rfl rfl ?_; intro _ _ _; conv=>whnf))
  refine vcall (by kernel_rfl) (rotate_ok _ _ 13 rfl (by decide) (by decide) _) ?_
  rintro _ _ ⟨rfl, rfl⟩
  conv=>whnf
  repeat (first | (refine VReq.mk (by first | decide | omega) ?_; conv=>whnf) | (refine VPend.mk rfl ?_; conv=>whnf) | (refine VNext.keep rfl ?_; conv=>whnf) | (refine vs_loadB rfl (by assumption) rfl ?_; conv=>whnf) | (refine vs_arrL rfl rfl rfl ?_; conv=>whnf) | (refine vs_storeB (by assumption) rfl rfl rfl ?_; intro _ _ _; conv=>whnf))
  refine vcall (by kernel_rfl) (rotate_ok _ _ 32 rfl (by decide) (by decide) _) ?_
  rintro _ _ ⟨rfl, rfl⟩
  conv=>whnf
  repeat (first | (refine VReq.mk (by first | decide | omega) ?_; conv=>whnf) | (refine VPend.mk rfl ?_; conv=>whnf) | (refine VNext.keep rfl ?_; conv=>whnf) | (refine vs_loadB rfl (by assumption) rfl ?_; conv=>whnf) | (refine vs_arrL rfl rfl rfl ?_; conv=>whnf) | (refine vs_storeB (by assumption) rfl rfl rfl ?_; intro _ _ _; conv=>whnf))
  (refine vdrawAt plan136 (by kernel_rfl) ?_; conv=>whnf)
  repeat (first | (refine VReq.mk (by first | decide | omega) ?_; conv=>whnf) | (refine VPend.mk rfl ?_; conv=>whnf) | (refine VNext.keep rfl ?_; conv=>whnf) | (refine vs_loadB rfl (by assumption) rfl ?_; conv=>whnf) | (refine vs_arrL rfl rfl rfl ?_; conv=>whnf) | (refine vs_storeB (by assumption) rfl rfl rfl ?_; intro _ _ _; conv=>whnf))
  refine vcall (by kernel_rfl) (rotate_ok _ _ 16 rfl (by decide) (by decide) _) ?_
  rintro _ _ ⟨rfl, rfl⟩
  conv=>whnf
  repeat (first | (refine VReq.mk (by first | decide | omega) ?_; conv=>whnf) | (refine VPend.mk rfl ?_; conv=>whnf) | (refine VNext.keep rfl ?_; conv=>whnf) | (refine vs_loadB rfl (by assumption) rfl ?_; conv=>whnf) | (refine vs_arrL rfl rfl rfl ?_; conv=>whnf) | (refine vs_storeB (by assumption) rfl rfl rfl ?_; intro _ _ _; conv=>whnf))
  (refine vdrawAt plan136 (by kernel_rfl) ?_; conv=>whnf)
  repeat (first | (refine VReq.mk (by first | decide | omega) ?_; conv=>whnf) | (refine VPend.mk rfl ?_; conv=>whnf) | (refine VNext.keep rfl ?_; conv=>whnf) | (refine vs_loadB rfl (by assumption) rfl ?_; conv=>whnf) | (refine vs_arrL rfl rfl rfl ?_; conv=>whnf) | (refine vs_storeB (by assumption) rfl rfl rfl ?_; intro _ _ _; conv=>whnf))
  refine vcall (by kernel_rfl) (rotate_ok _ _ 21 rfl (by decide) (by decide) _) ?_
  rintro _ _ ⟨rfl, rfl⟩
  conv=>whnf
  repeat (first | (refine VReq.mk (by first | decide | omega) ?_; conv=>whnf) | (refine VPend.mk rfl ?_; conv=>whnf) | (refine VNext.keep rfl ?_; conv=>whnf) | (refine vs_loadB rfl (by assumption) rfl ?_; conv=>whnf) | (refine vs_arrL rfl rfl rfl ?_; conv=>whnf) | (refine vs_storeB (by assumption) rfl rfl rfl ?_; intro _ _ _; conv=>whnf))
  (refine vdrawAt plan136 (by kernel_rfl) ?_; conv=>whnf)
  repeat (first | (refine VReq.mk (by first | decide | omega) ?_; conv=>whnf) | (refine VPend.mk rfl ?_; conv=>whnf) | (refine VNext.keep rfl ?_; conv=>whnf) | (refine vs_loadB rfl (by assumption) rfl ?_; conv=>whnf) | (refine vs_arrL rfl rfl rfl ?_; conv=>whnf) | (refine vs_storeB (by assumption) rfl rfl rfl ?_; intro _ _ _; conv=>whnf))
  refine vcall (by kernel_rfl) (rotate_ok _ _ 17 rfl (by decide) (by decide) _) ?_
  rintro _ _ ⟨rfl, rfl⟩
  conv=>whnf
  repeat (first | (refine VReq.mk (by first | decide | omega) ?_; conv=>whnf) | (refine VPend.mk rfl ?_; conv=>whnf) | (refine VNext.keep rfl ?_; conv=>whnf) | (refine vs_loadB rfl (by assumption) rfl ?_; conv=>whnf) | (refine vs_arrL rfl rfl rfl ?_; conv=>whnf) | (refine vs_storeB (by assumption) rfl rfl rfl ?_; intro _ _ _; conv=>whnf))
  refine vcall (by kernel_rfl) (rotate_ok _ _ 32 rfl (by decide) (by decide) _) ?_
  rintro _ _ ⟨rfl, rfl⟩
  conv=>whnf
  repeat (first | (refine VReq.mk (by first | decide | omega) ?_; conv=>whnf) | (refine VPend.mk rfl ?_; conv=>whnf) | (refine VNext.keep rfl ?_; conv=>whnf) | (refine vs_loadB rfl (by assumption) rfl ?_; conv=>whnf) | (refine vs_arrL rfl rfl rfl ?_; conv=>whnf) | (refine vs_storeB (by assumption) rfl rfl rfl ?_; intro _ _ _; conv=>whnf))
  refine VBack.mk ⟨_, ?_, i + 1, rfl, ?_, ?_⟩
  ·show n - (i + 1) < n - i; omega
  ·exact ⟨intEq (incr (by omega)), trivial⟩
  ·refine ⟨hlt, ?_, ?_⟩
   ·(repeat (first | assumption | exact Only.refl _ _ | refine Only.step (by assumption) ?_ | refine Only.stepP (by assumption) ?_))
   ·assumption
 ·have hge : ¬ i < n := by simpa using hge
  obtain rfl : i = n := by omega
  conv=>whnf
  refine vs_loadNB rfl rfl hb' ?_
  conv=>whnf
  have hr1 := Blk.only hr0 ho (by rw [World.size_alloc]; omega)
  refine vs_storeN (o := 0) (vs := (s.rounds i).cells) hr1 rfl rfl rfl ?_
  intro w2 o2 hb2
  conv=>whnf
  refine vs_loadNB rfl rfl hb2 ?_
  conv=>whnf
  refine VPend.mk rfl ?_
  conv=>whnf
  refine VEnd.mk ⟨_, rfl, rfl, ?_⟩
  exact (hB0.trans (ho.below (Nat.le_refl _))).trans (o2.below (by rw [World.size_alloc]; omega))
theorem orI_eq (a b : Int) : orI a b = ((BitVec.ofInt 64 a ||| BitVec.ofInt 64 b).toNat : Int) := by
 unfold orI bitsOp
 show IntKind.u64.wrap ((BitVec.ofInt 64 a ||| BitVec.ofInt 64 b).toNat : Int) = _
 have := (BitVec.ofInt 64 a ||| BitVec.ofInt 64 b).isLt
 exact IntWalk.u64_in _ (by omega)
theorem orI_ofInt (a b : Int) : BitVec.ofInt 64 (orI a b) = BitVec.ofInt 64 a ||| BitVec.ofInt 64 b := by
 rw [orI_eq]
 apply BitVec.eq_of_toNat_eq
 rw [BitVec.toNat_ofInt]
 have := (BitVec.ofInt 64 a ||| BitVec.ofInt 64 b).isLt
 generalize (BitVec.ofInt 64 a ||| BitVec.ofInt 64 b).toNat = n at *
 omega
theorem wrap_u64' (n : Int) : IntKind.u64.wrap n = n % 18446744073709551616 := by
 simp [IntKind.wrap, IntKind.bits, IntKind.signed]
theorem orI_rot (a b c : Int) : orI (orI a b) c = orI (orI a c) b := by
 rw [orI_eq (orI a b), orI_eq (orI a c), orI_ofInt, orI_ofInt, BitVec.or_assoc, BitVec.or_assoc, BitVec.or_comm (BitVec.ofInt 64 b)]
theorem orI_zero (c : Int) (h : 0 ≤ c ∧ c ≤ 18446744073709551615) : orI 0 c = c := by
 rw [orI_eq]
 simp [BitVec.toNat_ofInt]
 omega
theorem last_eq (l : List UInt8) (k : Nat) : lastTo l k = orI (wordTo (l.drop (l.length - l.length % 8)) k) (IntKind.u64.wrap (IntKind.u64.wrap l.length * 2 ^ 56)) := by
 induction k with
 | zero =>
  simp only [lastTo, wordTo]
  rw [orI_zero]
  rw [wrap_u64']
  omega
 | succ k ih =>
  simp only [lastTo, wordTo, ih]
  rw [orI_rot]
  congr 2
  simp [List.getD_eq_getElem?_getD, List.getElem?_drop]
theorem len_mod (n : Nat) : IntKind.u64.wrap (IntKind.u64.wrap (n : Int) * 2 ^ 56) =
  IntKind.u64.wrap (IntKind.u64.wrap (Int.tmod (n : Int) 256) * 2 ^ min (Int.toNat 56) IntKind.u64.bits) := by
 have e : min (Int.toNat 56) IntKind.u64.bits = 56 := by decide
 have e2 : Int.tmod (n : Int) 256 = ((n % 256 : Nat) : Int) := rfl
 rw [e, e2]
 simp only [wrap_u64']
 omega
theorem sum2_ok (k0 k1 : Int) (oa : Option Addr) (c : Nat) (l : List UInt8) (w : World) (hl : l.length < 4611686018427387904) (hr : Row w oa (bvals l)) :
  Ret Tryz.prog 104 #[.int .u64 k0, .int .u64 k1, .slice oa l.length c] w fun v w' => v = .int .u64 (sumI k0 k1 l) ∧ Below w.heap.size w w' := by
 refine ret_of_vc Tryz.func104 rfl mixed (by kernel_rfl) ?_
 conv=>whnf
 refine vs_storeN (Blk.new _ _ _) rfl rfl rfl ?_
 intro w1 o1 hb1
 have hB1 : Below w.heap.size w w1 := ((Below.refl _ _).alloc (Nat.le_refl _) _).trans (o1.below (Nat.le_refl _))
 conv=>whnf
 refine vloop (X := Nat) ws104_1 (fun i => [(8, .int .i64 i)])
  (fun i w' => i ≤ l.length / 8 + 1 ∧ Below w.heap.size w w' ∧ ∃ t, t = (if i ≤ l.length / 8 then S4.upto k0 k1 l i else (S4.upto k0 k1 l (l.length / 8)).word (lastTo l (l.length % 8))) ∧ Blk w' w.heap.size t.cells 179) (fun i => l.length / 8 + 1 - i) 0 (by kernel_rfl)
  ?_ ⟨Nat.zero_le _, hB1, S4.init k0 k1, (by rw [if_pos (Nat.zero_le _)]; rfl), hb1⟩ ?_
 ·exact ⟨rfl, trivial⟩
 rintro i w2 j ⟨hi, hB2, t, ht, hb2⟩
 conv=>whnf
 refine VReq.mk (by decide) ?_
 conv=>whnf
 have eq8 : IntKind.i64.wrap (Int.tdiv (l.length : Int) 8) = ((l.length / 8 : Nat) : Int) := by
  rw [show Int.tdiv (l.length : Int) 8 = ((l.length / 8 : Nat) : Int) from rfl, IntWalk.i64_in _ (by omega)]
 refine vif_split (fun hlt => ?_) (fun hge => ?_)
 ·have hlt : i ≤ l.length / 8 := by rw [eq8] at hlt; have := of_decide_eq_true hlt; omega
  rw [if_pos hlt] at ht
  obtain ⟨e, he⟩ : ∃ e, e = min 8 (l.length - 8 * i) := ⟨_, rfl⟩
  conv=>whnf
  refine vloop (X := Nat) ws104_2 (fun k => [(9, .int .u64 (wordTo (l.drop (8 * i)) k)), (10, .int .i64 k)]) (fun k w' => k ≤ e ∧ w' = w2) (fun k => e - k) 0 (by kernel_rfl) ?_ ⟨by omega, rfl⟩ ?_
  ·exact ⟨rfl, rfl, trivial⟩
  rintro k _ j2 ⟨hk, rfl⟩
  have e1 : IntKind.i64.wrap (IntKind.i64.wrap (8 * (i : Int)) + k) = ((8 * i + k : Nat) : Int) := by
   rw [IntWalk.i64_in (8 * (i : Int)) (by omega), IntWalk.i64_in _ (by omega)]; omega
  have e8k : IntKind.i64.wrap (8 * (k : Int)) = ((8 * k : Nat) : Int) := by rw [IntWalk.i64_in _ (by omega)]; omega
  by_cases hke : k < e
  ·obtain ⟨b, o, rfl, hbl, hc⟩ := hr.get (by simp; omega)
   conv=>whnf
   refine vif_split (fun h1 => ?_) (fun h1 => absurd h1 (by simp; omega))
   conv=>whnf
   refine vif_split (fun h2 => ?_) (fun h2 => absurd h2 (by rw [e1]; simp; omega))
   conv=>whnf
   refine vs_sl1 (8 * i + k) rfl rfl e1 (by omega) ?_
   conv=>whnf
   refine vs_load1 rfl (by rw [hB2.cell (p := ⟨b, o + (8 * i + k), none⟩) hbl]; exact hc _ _ (bvals_get (by omega))) ?_
   conv=>whnf
   refine VReq.mk (by rw [e8k, IntWalk.u64_in _ (by omega)]; omega) ?_
   conv=>whnf
   refine VBack.mk ⟨_, ?_, k + 1, rfl, ?_, ?_⟩
   ·show e - (k + 1) < e - k; omega
   ·refine ⟨intEq ?_, intEq (incr (by omega)), trivial⟩
    rw [shl8_eq _ k (by omega) _ (by rw [e8k, IntWalk.u64_in _ (by omega)]), ← getD_drop l (8 * i) k (by omega)]
    rfl
   ·exact ⟨hke, rfl⟩
  ·obtain rfl : k = e := by omega
   have hwk : wordTo (l.drop (8 * i)) k = wordTo (l.drop (8 * i)) k := rfl
   by_cases hk8 : k = 8
   ·conv=>whnf
    refine vif_split (fun h1 => absurd h1 (by simp; omega)) (fun h1 => ?_)
    conv=>whnf
    refine VReq.mk (by decide) ?_
    conv=>whnf
    refine vif_split (fun h3 => absurd h3 (by rw [eq8]; simp; omega)) (fun h3 => ?_)
    conv=>whnf
    repeat (first | (refine VReq.mk (by first | decide | omega) ?_; conv=>whnf) | (refine VPend.mk rfl ?_; conv=>whnf) | (refine VNext.keep rfl ?_; conv=>whnf) | (refine vs_loadB rfl (by assumption) rfl ?_; conv=>whnf) | (refine vs_arrL rfl rfl rfl ?_; conv=>whnf) | (refine vs_storeB (by assumption) rfl rfl rfl ?_; intro _ _ _; conv=>whnf))
    rename_i w3 o3 hb3
    refine vs_loadNB rfl rfl hb3 ?_
    conv=>whnf
    refine vcall (by kernel_rfl) (rounds2_ok 2 (by decide) ⟨t.a, t.b, t.c, xor t.d (wordTo (l.drop (8 * i)) k)⟩ _) ?_
    rintro _ w4 ⟨t4, ht4, rfl, hB4⟩
    conv=>whnf
    have hb4 := hb3.below hB4 hb3.lt
    refine vs_storeN (o := 0) (vs := t4.cells) hb4 rfl rfl rfl ?_
    intro w5 o5 hb5
    conv=>whnf
    repeat (first | (refine VReq.mk (by first | decide | omega) ?_; conv=>whnf) | (refine VPend.mk rfl ?_; conv=>whnf) | (refine VNext.keep rfl ?_; conv=>whnf) | (refine vs_loadB rfl (by assumption) rfl ?_; conv=>whnf) | (refine vs_arrL rfl rfl rfl ?_; conv=>whnf) | (refine vs_storeB (by assumption) rfl rfl rfl ?_; intro _ _ _; conv=>whnf))
    rename_i w6 o6 hb6
    have hBB := (hB2.trans (o3.below (Nat.le_refl _))).trans ((hB4.mono (Nat.le_of_lt hb3.lt)).trans ((o5.trans o6).below (Nat.le_refl _)))
    refine VBack.mk ⟨_, ?_, i + 1, rfl, ?_, ?_⟩
    ·show l.length / 8 + 1 - (i + 1) < l.length / 8 + 1 - i; omega
    ·exact ⟨intEq (incr (by omega)), trivial⟩
    ·refine ⟨by omega, hBB, ⟨_, t4.b, t4.c, t4.d⟩, ?_, hb6⟩
     rw [if_pos (by omega)]
     rw [hk8] at ht4
     simp only [S4.upto, S4.word, ← ht]
     rw [← ht4, hk8]
     rfl
   ·conv=>whnf
    refine vif_split (fun h1 => ?_) (fun h1 => absurd h1 (by simp; omega))
    conv=>whnf
    refine vif_split (fun h2 => absurd h2 (by rw [e1]; simp; omega)) (fun h2 => ?_)
    conv=>whnf
    refine VReq.mk (by decide) ?_
    conv=>whnf
    refine vif_split (fun h3 => ?_) (fun h3 => absurd h3 (by rw [eq8]; simp; omega))
    conv=>whnf
    repeat (refine VReq.mk (by decide) ?_; conv=>whnf)
    repeat (first | (refine VReq.mk (by first | decide | omega) ?_; conv=>whnf) | (refine VPend.mk rfl ?_; conv=>whnf) | (refine VNext.keep rfl ?_; conv=>whnf) | (refine vs_loadB rfl (by assumption) rfl ?_; conv=>whnf) | (refine vs_arrL rfl rfl rfl ?_; conv=>whnf) | (refine vs_storeB (by assumption) rfl rfl rfl ?_; intro _ _ _; conv=>whnf))
    rename_i w3 o3 hb3
    refine vs_loadNB rfl rfl hb3 ?_
    conv=>whnf
    refine vcall (by kernel_rfl) (rounds2_ok 2 (by decide) ⟨t.a, t.b, t.c, xor t.d (bitsOp .or .u64 (wordTo (l.drop (8 * i)) k) (IntKind.u64.wrap (IntKind.u64.wrap (Int.tmod (l.length : Int) 256) * 2 ^ min (Int.toNat 56) IntKind.u64.bits)))⟩ _) ?_
    rintro _ w4 ⟨t4, ht4, rfl, hB4⟩
    conv=>whnf
    have hb4 := hb3.below hB4 hb3.lt
    refine vs_storeN (o := 0) (vs := t4.cells) hb4 rfl rfl rfl ?_
    intro w5 o5 hb5
    conv=>whnf
    repeat (first | (refine VReq.mk (by first | decide | omega) ?_; conv=>whnf) | (refine VPend.mk rfl ?_; conv=>whnf) | (refine VNext.keep rfl ?_; conv=>whnf) | (refine vs_loadB rfl (by assumption) rfl ?_; conv=>whnf) | (refine vs_arrL rfl rfl rfl ?_; conv=>whnf) | (refine vs_storeB (by assumption) rfl rfl rfl ?_; intro _ _ _; conv=>whnf))
    rename_i w6 o6 hb6
    have hBB := (hB2.trans (o3.below (Nat.le_refl _))).trans ((hB4.mono (Nat.le_of_lt hb3.lt)).trans ((o5.trans o6).below (Nat.le_refl _)))
    refine VBack.mk ⟨_, ?_, i + 1, rfl, ?_, ?_⟩
    ·show l.length / 8 + 1 - (i + 1) < l.length / 8 + 1 - i; omega
    ·exact ⟨intEq (incr (by omega)), trivial⟩
    ·refine ⟨by omega, hBB, ⟨_, t4.b, t4.c, t4.d⟩, ?_, hb6⟩
     have hiq : i = l.length / 8 := by omega
     rw [if_neg (by omega), ← hiq, ← ht]
     have hm : lastTo l (l.length % 8) = bitsOp .or .u64 (wordTo (l.drop (8 * i)) k) (IntKind.u64.wrap (IntKind.u64.wrap (Int.tmod (l.length : Int) 256) * 2 ^ min (Int.toNat 56) IntKind.u64.bits)) := by
      rw [last_eq, len_mod, show l.length - l.length % 8 = 8 * i by omega, show l.length % 8 = k by omega]
      rfl
     rw [hm]
     simp only [S4.word]
     rw [← ht4]
     rfl
 ·have hge : ¬ i ≤ l.length / 8 := by rw [eq8] at hge; have := of_decide_eq_false hge; omega
  rw [if_neg hge] at ht
  conv=>whnf
  repeat (first | (refine VReq.mk (by first | decide | omega) ?_; conv=>whnf) | (refine VPend.mk rfl ?_; conv=>whnf) | (refine VNext.keep rfl ?_; conv=>whnf) | (refine vs_loadB rfl (by assumption) rfl ?_; conv=>whnf) | (refine vs_arrL rfl rfl rfl ?_; conv=>whnf) | (refine vs_storeB (by assumption) rfl rfl rfl ?_; intro _ _ _; conv=>whnf))
  rename_i w4 o4 hb4
  refine vs_loadNB rfl rfl hb4 ?_
  conv=>whnf
  refine vcall (by kernel_rfl) (rounds2_ok 4 (by decide) ⟨t.a, t.b, xor t.c 255, t.d⟩ _) ?_
  rintro _ w5 ⟨t5, ht5, rfl, hB5⟩
  conv=>whnf
  have hb5 := hb4.below hB5 hb4.lt
  refine vs_storeN (o := 0) (vs := t5.cells) hb5 rfl rfl rfl ?_
  intro w6 o6 hb6
  conv=>whnf
  repeat (first | (refine VReq.mk (by first | decide | omega) ?_; conv=>whnf) | (refine VPend.mk rfl ?_; conv=>whnf) | (refine VNext.keep rfl ?_; conv=>whnf) | (refine vs_loadB rfl (by assumption) rfl ?_; conv=>whnf) | (refine vs_arrL rfl rfl rfl ?_; conv=>whnf) | (refine vs_storeB (by assumption) rfl rfl rfl ?_; intro _ _ _; conv=>whnf))
  refine VEnd.mk ⟨?_, (hB2.trans (o4.below (Nat.le_refl _))).trans ((hB5.mono (Nat.le_of_lt hb4.lt)).trans (o6.below (Nat.le_refl _)))⟩
  have : sumI k0 k1 l = xor (xor (xor t5.a t5.b) t5.c) t5.d := by
   unfold sumI S4.done
   rw [← ht, ← ht5]
  rw [this]
  rfl
theorem frame2_ok (oa : Option Addr) (c : Nat) (vs : List Value) (ls : List (List UInt8)) (w : World) (hlen : ls.length ≤ 1099511627776) (hl : (frame ls).length ≤ 140737488355328) (hr : Row w oa vs) (hf : Fld w vs ls) :
  Ret Tryz.prog 105 #[.slice oa ls.length c] w fun v w' => ∃ oa' c', v = .slice oa' (frame ls).length c' ∧ Own w' w.heap.size 5 1 oa' (frame ls).length c' (bvals (frame ls)) ∧ Below w.heap.size w w' := by
 refine ret_of_vc Tryz.func105 rfl mixed (by kernel_rfl) ?_
 conv=>whnf
 refine vloop (X := Nat × Option Addr × Nat) ws105_1 (fun x => [(3, .slice x.2.1 (frameTo ls x.1).length x.2.2), (4, .int .i64 x.1)]) (fun x w' => x.1 ≤ ls.length ∧ Below w.heap.size w w' ∧ Own w' w.heap.size 5 1 x.2.1 (frameTo ls x.1).length x.2.2 (bvals (frameTo ls x.1))) (fun x => ls.length - x.1) (0, none, 0) (by kernel_rfl)
  ?_ ⟨Nat.zero_le _, Below.refl _ _, Own.nil _ _ _ _⟩ ?_
 ·exact ⟨rfl, rfl, trivial⟩
 rintro ⟨i, oo, cc⟩ w1 j ⟨hi, hB, ho⟩
 conv=>whnf
 refine vif_split (fun hlt => ?_) (fun hge => ?_)
 ·have hlt : i < ls.length := by have := of_decide_eq_true hlt; omega
  obtain ⟨b, o, rfl, hbl, hc⟩ := hr.get (by rw [hf.1]; omega)
  obtain ⟨oa1, c1, hv, hc1, hn1, hr1⟩ := hf.2 i hlt
  have hr1' := hr1.below hB
  have hL1 := frame_take_le ls (i + 1)
  rw [frameTo_succ ls i hlt] at hL1
  simp only [List.length_append, lenTo_len] at hL1
  conv=>whnf
  refine vs_sl1 i rfl rfl rfl hlt ?_
  conv=>whnf
  refine vs_load1 rfl (by rw [hB.cell (p := ⟨b, o + i, none⟩) hbl]; exact hc _ _ hv) ?_
  conv=>whnf
  refine vloop (X := Nat × Option Addr × Nat) ws105_2 (fun x => [(3, .slice x.2.1 ((frameTo ls i).length + x.1) x.2.2), (6, .int .i64 (56 - 8 * (x.1 : Int)))]) (fun x w' => x.1 ≤ 8 ∧ Below w.heap.size w w' ∧ Own w' w.heap.size 5 1 x.2.1 ((frameTo ls i).length + x.1) x.2.2 (bvals (frameTo ls i ++ lenTo ls[i].length x.1))) (fun x => 8 - x.1) (0, oo, cc) (by kernel_rfl)
   ?_ ⟨Nat.zero_le _, hB, by simpa [lenTo] using ho⟩ ?_
  ·exact ⟨rfl, rfl, trivial⟩
  rintro ⟨k, o2, c2⟩ w2 j2 ⟨hk, hB2, ho2⟩
  simp only at hk ho2
  conv=>whnf
  refine vif_split (fun hlt2 => ?_) (fun hge2 => ?_)
  ·have hlt2 : k < 8 := by have := of_decide_eq_true hlt2; simp only at this; omega
   conv=>whnf
   refine VReq.mk (by rw [IntWalk.u64_in _ (by simp only; omega)]; simp only; omega) ?_
   conv=>whnf
   refine vs_append (B := w.heap.size) (sz := 1) (by_ := 1) (m := 1) (n := (frameTo ls i).length + k) rfl rfl rfl rfl rfl rfl (ho2.alloc _) (Row.alloc1 _ _ _) rfl (fun u hu => by simp at hu; subst hu; rfl) (fun e => by cases e) (by omega) (Nat.le_trans hB2.size (by simp)) (by unfold maxLen; omega) ?_
   intro o3 c3 w3 ho3 hB3 _
   conv=>whnf
   refine VBack.mk ⟨_, ?_, (k + 1, o3, c3), rfl, ?_, ?_⟩
   ·show 8 - (k + 1) < 8 - k; omega
   ·exact ⟨rfl, intEq (by rw [IntWalk.i64_in _ (by simp only; omega)]; simp only; omega), trivial⟩
   ·refine ⟨hlt2, (balloc hB2 (Nat.le_refl _) _).trans hB3, ?_⟩
    simp only [lenTo]
    rw [← List.append_assoc, bvals_append, bvals_byte]
    rw [byte_eq _ (7 - k) (by omega) (by omega) _ (by rw [IntWalk.u64_in _ (by simp only; omega)]; simp only; omega)] at ho3
    exact ho3
  ·have hge2 : ¬ k < 8 := by have := of_decide_eq_false hge2; simp only at this; omega
   obtain rfl : k = 8 := by omega
   conv=>whnf
   have hr2 := hr1.below hB2
   refine vs_sl1 i rfl rfl rfl hlt ?_
   conv=>whnf
   refine vs_load1 rfl (by rw [hB2.cell (p := ⟨b, o + i, none⟩) hbl]; exact hc _ _ hv) ?_
   conv=>whnf
   refine vs_append (B := w.heap.size) (sz := 1) (by_ := 1) (m := ls[i].length) (n := (frameTo ls i).length + 8) rfl rfl rfl rfl rfl rfl ho2 hr2 (by simp) (bvals_one _) hn1 (by omega) hB2.size (by unfold maxLen; omega) ?_
   intro o3 c3 w3 ho3 hB3 _
   conv=>whnf
   have hfs := frameTo_succ ls i hlt
   have hfl : (frameTo ls i).length + 8 + ls[i].length = (frameTo ls (i + 1)).length := by rw [hfs]; simp [lenTo_len]; omega
   refine VBack.mk ⟨_, ?_, (i + 1, o3, c3), rfl, ?_, ?_⟩
   ·show ls.length - (i + 1) < ls.length - i; omega
   ·exact ⟨sliceEq hfl, intEq (incr (by omega)), trivial⟩
   ·refine ⟨hlt, hB2.trans hB3, ?_⟩
    rw [hfl, ← bvals_append, List.append_assoc, ← hfs] at ho3
    exact ho3
 ·have hge : ¬ i < ls.length := by have := of_decide_eq_false hge; omega
  obtain rfl : i = ls.length := by simp only at hi; omega
  conv=>whnf
  have hfa : frameTo ls ls.length = frame ls := by unfold frameTo; rw [List.take_length]
  simp only [hfa] at ho
  exact VEnd.mk ⟨oo, cc, by simp only [hfa]; rfl, ho, hB⟩
theorem hash2_ok (d : Int) (oa : Option Addr) (c : Nat) (vs : List Value) (ls : List (List UInt8)) (w : World) (hlen : ls.length ≤ 1099511627776) (hl : (frame ls).length ≤ 140737488355328) (hr : Row w oa vs) (hf : Fld w vs ls) :
  Ret Tryz.prog 71 #[.int .u64 d, .slice oa ls.length c] w fun v w' => v = .int .u64 (sumI d 0 (frame ls)) ∧ Below w.heap.size w w' := by
 refine ret_of_vc Tryz.func71 rfl mixed (by kernel_rfl) ?_
 conv=>whnf
 refine vcall (by kernel_rfl) (frame2_ok oa c vs ls w hlen hl hr hf) ?_
 rintro _ w1 ⟨o1, c1, rfl, ho1, hB1⟩
 conv=>whnf
 refine vcall (by kernel_rfl) (sum2_ok d 0 o1 c1 (frame ls) w1 (by omega) ho1.row) ?_
 rintro _ w2 ⟨rfl, hB2⟩
 conv=>whnf
 exact VEnd.mk ⟨rfl, hB1.trans (hB2.mono hB1.size)⟩
end Go.Proofs.YtocckceefcmeaaaGreatDoor.Dg
namespace Go.Proofs.YtocckceefcmeaaaGreatDoor.Vc
open Go Go.RowKit Go.Proofs.YtocckceefcmeaaaGreatDoor.Vc Go.Proofs.YtocckceefcmeaaaGreatDoor.Dg
attribute [local irreducible] loadVar storeVar Instr.indexAt Instr.index Instr.sliceAt Instr.makeSlice Instr.lookup Instr.mapUpdate Instr.range Instr.next Instr.entry Instr.makeMap Builtin.append_ Builtin.copy_ Builtin.len_ Builtin.min_ Builtin.max_ Builtin.cap_ Builtin.delete_ Builtin.clear_ convert binOp eqGuard Op.unary Calls
theorem vs_sliceArr {P : Program} {w : World} {K : Value → World → Prop} {t E : TypeId} {sz n b : Nat} (ht : P.underlying t = some (.array n E)) (hs : szB P E = some sz) (k : K (.slice (some ⟨b, 0, none⟩) n n) w) :
  VSem P (Instr.sliceAt t (.pointer (some ⟨b, 0, none⟩)) none none none) w K := by
 refine vsem ?_ k
 unfold Instr.sliceAt
 rw [Sem.run_bind, run_under ht]
 simp only [Result.andThen_ok, Instr.sureAddr, Sem.run_bind, Sem.run_pure, Instr.sliceBounds, run_size hs]
 by_cases h0 : n = 0 <;> simp [h0, add0]
theorem own_ok (oa oa2 : Option Addr) (n c m c2 : Nat) (b d : List UInt8) (w : World) (hn : n = b.length) (hm : m = d.length) (hl : b.length + d.length ≤ 2000000) (hc : n ≤ c) (hnil : oa = none → c = 0) (hnil2 : oa2 = none → c2 = 0) (hr : Row w oa (bvals b)) (hr2 : Row w oa2 (bvals d)) :
  Ret Tryz.prog 65 #[.slice oa n c, .slice oa2 m c2] w fun v w' => ∃ oa' c', v = .slice oa' (n + m) c' ∧ Own w' w.heap.size 5 1 oa' (n + m) c' (bvals (b ++ d)) ∧ Below w.heap.size w w' := by
 refine ret_of_vc Tryz.func65 rfl mixed (by kernel_rfl) ?_
 have e0 : IntKind.i64.wrap ((n : Int) + (m : Int)) = ((n + m : Nat) : Int) := by rw [IntWalk.i64_in _ (by omega)]; omega
 have lb : ∀ l : List UInt8, (bvals l).length = l.length := fun l => by simp [bvals]
 conv=>whnf
 rw [e0]
 refine Ax.vs_makeC (n := 0) (m := n + m) (sz := 1) (by_ := 1) rfl rfl rfl rfl rfl rfl (Nat.zero_le _) (by omega) (by unfold maxLen; omega) ?_
 intro w1 hw1 hb1
 have hB1 : Below w.heap.size w w1 := by rw [hw1]; exact balloc (Below.refl _ _) (Nat.le_refl _) _
 have hO1 : Own w1 w.heap.size 5 1 (some ⟨w.heap.size, 0, none⟩) 0 (n + m) [] := Own.ofBlk hb1 (Nat.le_refl _) (Nat.zero_le _) (by unfold maxLen; omega) (by simp [Value.cells]) (by simp)
 conv=>whnf
 refine vs_append (B := w.heap.size) (sz := 1) (by_ := 1) (m := n) (n := 0) rfl rfl rfl rfl rfl rfl hO1 (hr.below hB1) (by rw [lb]; omega) (bvals_one _) hnil (by omega) hB1.size (by unfold maxLen; omega) ?_
 intro o2 c2' w2 hO2 hB2 _
 conv=>whnf
 refine vs_append (B := w.heap.size) (sz := 1) (by_ := 1) (m := m) (n := 0 + n) rfl rfl rfl rfl rfl rfl hO2 (hr2.below (hB1.trans hB2)) (by rw [lb]; omega) (bvals_one _) hnil2 (by omega) (Nat.le_trans hB1.size hB2.size) (by unfold maxLen; omega) ?_
 intro o3 c3' w3 hO3 hB3 _
 have hB := (hB1.trans hB2).trans hB3
 rw [Nat.zero_add, List.nil_append, ← bvals_append] at hO3
 clear hO1 hO2 hB1 hB2 hB3
 rw [Nat.zero_add]
 conv=>whnf
 exact VEnd.mk ⟨o3, c3', rfl, hO3, hB⟩
def pwTo (x i : Nat) : List Value := (List.range 8).map fun j => if j < i then .int .u8 ((lenByte x (7 - j)).toNat : Int) else .int .u8 0
theorem pwTo_set (x i : Nat) : (pwTo x i).set i (.int .u8 ((lenByte x (7 - i)).toNat : Int)) = pwTo x (i + 1) := by
 unfold pwTo
 apply List.ext_getElem
 ·simp
 ·intro k h1 h2
  simp only [List.getElem_set, List.getElem_map, List.getElem_range]
  by_cases hk : i = k
  ·subst hk; simp
  ·rw [if_neg hk]
   by_cases hki : k < i
   ·rw [if_pos hki, if_pos (by omega)]
   ·rw [if_neg hki, if_neg (by omega)]
theorem pwTo_all (x : Nat) : pwTo x 8 = bvals (lenTo x 8) := rfl
theorem putWord_ok (oa : Option Addr) (n c : Nat) (b : List UInt8) (x : Nat) (w : World) (hn : n = b.length) (hl : b.length ≤ 1000000) (hc : n ≤ c) (hnil : oa = none → c = 0) (hx : x < 18446744073709551616) (hr : Row w oa (bvals b)) :
  Ret Tryz.prog 68 #[.slice oa n c, .int .u64 x] w fun v w' => ∃ oa' c', v = .slice oa' (n + 8) c' ∧ Own w' w.heap.size 5 1 oa' (n + 8) c' (bvals (b ++ lenTo x 8)) ∧ Below w.heap.size w w' := by
 refine ret_of_vc Tryz.func68 rfl mixed (by kernel_rfl) ?_
 conv=>whnf
 refine vloop (X := Nat) ws68_1 (fun i => [(7, .int .i64 i)]) (fun i w' => i ≤ 8 ∧ Below w.heap.size w w' ∧ Blk w' w.heap.size (pwTo x i) 137) (fun i => 8 - i) 0 (by kernel_rfl) ?_ ⟨by decide, balloc (Below.refl _ _) (Nat.le_refl _) _, Blk.new w _ _⟩ ?_
 ·exact ⟨rfl, trivial⟩
 rintro i w2 j ⟨hi, hB2, hb2⟩
 conv=>whnf
 refine vif_split (fun hlt => ?_) (fun hge => ?_)
 ·have hlt : i < 8 := by have := of_decide_eq_true hlt; omega
  have e1 : IntKind.i64.wrap (8 * (i : Int)) = ((8 * i : Nat) : Int) := by rw [IntWalk.i64_in _ (by omega)]; omega
  have e2 : IntKind.i64.wrap (56 - IntKind.i64.wrap (8 * (i : Int))) = ((8 * (7 - i) : Nat) : Int) := by rw [e1, IntWalk.i64_in _ (by omega)]; omega
  conv=>whnf
  refine VReq.mk (by rw [e2]; omega) ?_
  conv=>whnf
  refine vs_arr1 i rfl rfl rfl hlt ?_
  conv=>whnf
  refine vs_storeP hb2 rfl rfl (by simp [pwTo]; omega) ?_
  intro w3 o3 hb3
  conv=>whnf
  refine VBack.mk ⟨_, ?_, i + 1, rfl, ?_, ?_⟩
  ·show 8 - (i + 1) < 8 - i; omega
  ·exact ⟨intEq (incr (by omega)), trivial⟩
  ·refine ⟨hlt, hB2.trans (o3.below (Nat.le_refl _)), ?_⟩
   rw [e2] at hb3
   have := byte_eq x (7 - i) (by omega) hx _ (rfl : ((8 * (7 - i) : Nat) : Int) = _)
   rw [IntWalk.u64_in _ (by omega)] at this
   rw [Nat.zero_add, this, pwTo_set x i] at hb3
   exact hb3
 ·have hge : ¬ i < 8 := by have := of_decide_eq_false hge; omega
  obtain rfl : i = 8 := by omega
  rw [pwTo_all] at hb2
  conv=>whnf
  refine vs_sliceArr (E := 5) (n := 8) rfl rfl ?_
  conv=>whnf
  refine vcall (by kernel_rfl) (own_ok oa (some ⟨w.heap.size, 0, none⟩) n c 8 8 b (lenTo x 8) w2 hn (lenTo_len _ _).symm (by rw [lenTo_len]; omega) hc hnil (fun e => by cases e) (hr.below hB2) hb2.row) ?_
  rintro _ w3 ⟨o3, c3, rfl, hO3, hB3⟩
  have hB := hB2.trans (hB3.mono hB2.size)
  have hO : Own w3 w.heap.size 5 1 o3 (n + 8) c3 (bvals (b ++ lenTo x 8)) := ⟨hO3.1, hO3.2.imp id fun ⟨g, cap, cur, h1, h0, h2⟩ => ⟨g, cap, cur, h1, Nat.le_trans hB2.size h0, h2⟩⟩
  clear hO3 hB3
  conv=>whnf
  exact VEnd.mk ⟨o3, c3, rfl, hO, hB⟩
theorem Own.cut {w : World} {B : Nat} {E : TypeId} {sz : Nat} {oa : Option Addr} {n c h : Nat} {xs : List Value} (hO : Own w B E sz oa n c xs) (hh : h ≤ n) : Own w B E sz oa h c (xs.take (h * sz)) := by
 have hl := hO.1
 have hm : h * sz ≤ n * sz := Nat.mul_le_mul_right _ hh
 refine ⟨by rw [List.length_take]; omega, ?_⟩
 rcases hO.2 with ⟨hv, hn⟩ | ⟨g, cap, cur, hv, hg, hb, h1, h2, h3, h4⟩
 ·injection hv with e1 e2 e3
  subst e1; subst e3
  exact .inl ⟨by rw [show h = 0 by omega], by omega⟩
 ·injection hv with e1 e2 e3
  subst e1; subst e3
  exact .inr ⟨g, c, cur, rfl, hg, hb, by omega, h2, h3, by rw [← h4, List.take_take, Nat.min_eq_left hm]⟩
theorem own_leC {w : World} {B : Nat} {E : TypeId} {sz : Nat} {oa : Option Addr} {n c : Nat} {xs : List Value} (hO : Own w B E sz oa n c xs) : n ≤ c := by
 rcases hO.2 with ⟨hv, hn⟩ | ⟨g, cap, cur, hv, hg, hb, h1, _⟩
 ·omega
 ·injection hv with _ _ e3
  omega
end Go.Proofs.YtocckceefcmeaaaGreatDoor.Vc
