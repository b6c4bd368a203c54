/- The walks of digest's rounds and words, of the program and of the reference. Conditions: the state's block holds four words and may be written; the counts are in range. -/
import Derived.Test.YthnncehddnfjmaaDoorVc6
import Derived.Test.YthnncehddnfjmaaDoorPlans
import Derived.Test.YthnncehddnfjmaaDoorProg
import Derived.KernelRfl
import Derived.IntWalk
set_option linter.unusedVariables false
set_option linter.unusedSimpArgs false
namespace Go.Proofs.YthnncehddnfjmaaDoor.Dg
open Go Go.RowKit Go.Proofs.YthnncehddnfjmaaDoor.Vc
attribute [local irreducible] loadVar storeVar Instr.indexAt Instr.index Instr.sliceAt Instr.makeSlice Instr.lookup Instr.mapUpdate Instr.range Instr.next Instr.entry Instr.makeMap Builtin.append_ Builtin.copy_ Builtin.len_ Builtin.min_ Builtin.max_ Builtin.cap_ Builtin.delete_ Builtin.clear_ convert binOp eqGuard Op.unary Calls

theorem mixed : Tryd.prog.follows .mixedOrders = true := by kernel_rfl

def rotI (x : Int) (n : Nat) : Int := bitsOp .or .u64 (IntKind.u64.wrap (x * 2 ^ n)) (x.fdiv (2 ^ (64 - n)))

set_option maxRecDepth 100000 in
theorem rot_ok (x k : Int) (n : Nat) (hk : bitsOp .and .u64 (IntKind.u64.wrap k) 63 = n) (h0 : 0 < n) (h1 : n < 64) (w : World) :
    Ret Tryd.prog 73 #[.int .u64 x, .int .i64 k] w fun v w' => v = .int .u64 (rotI x n) ∧ w' = w := by
  have e3 : IntKind.u64.wrap (64 - (n : Int)) = 64 - n := IntWalk.u64_in _ (by omega)
  refine ret_of_vc Tryd.func73 rfl mixed (by kernel_rfl) ?_
  conv => whnf
  refine VReq.mk (by rw [hk]; omega) ?_
  conv => whnf
  refine VReq.mk ?_ ?_
  · rw [hk, e3]; omega
  conv => whnf
  refine VEnd.mk ⟨?_, rfl⟩
  show Value.int .u64 _ = _
  rw [hk, e3]
  unfold rotI
  have e1 : min (n : Int).toNat IntKind.u64.bits = n := by simp [IntKind.bits]; omega
  have e2 : min (64 - (n : Int)).toNat IntKind.u64.bits = 64 - n := by simp [IntKind.bits]
  rw [e1, e2]

structure S4 where
  a : Int
  b : Int
  c : Int
  d : Int
def u (x : Int) : Value := .int .u64 x
def add (x y : Int) : Int := IntKind.u64.wrap (x + y)
def xor (x y : Int) : Int := bitsOp .xor .u64 x y
def S4.round (s : S4) : S4 :=
  let a := add s.a s.b
  let b := xor (rotI s.b 13) a
  let a := rotI a 32
  let c := add s.c s.d
  let d := xor (rotI s.d 16) c
  let a := add a d
  let d := xor (rotI d 21) a
  let c := add c b
  let b := xor (rotI b 17) c
  let c := rotI c 32
  ⟨a, b, c, d⟩
def S4.rounds (s : S4) : Nat → S4
  | 0 => s
  | n + 1 => (s.rounds n).round
@[reducible] def S4.cells (s : S4) : List Value := [.int .u64 s.a, .int .u64 s.b, .int .u64 s.c, .int .u64 s.d]

set_option maxRecDepth 100000 in
theorem rounds_ok (b : Nat) (T : TypeId) (n : Nat) (hn : n < 100) (s : S4) (w : World) (hb : Blk w b s.cells T) :
    Ret Tryd.prog 67 #[.pointer (some ⟨b, 0, none⟩), .int .i64 n] w fun _ w' => ∃ t, t = s.rounds n ∧ Only b w w' ∧ Blk w' b t.cells T := by
  refine ret_of_vc Tryd.func67 rfl mixed (by kernel_rfl) ?_
  conv => whnf
  refine vloop (X := Nat) ws67_1 (fun i => [(0, .pointer (some ⟨b, 0, none⟩)), (4, .int .i64 n), (5, .int .i64 i)]) (fun i w' => i ≤ n ∧ Only b w w' ∧ Blk w' b (s.rounds i).cells T) (fun i => n - i) 0 (by kernel_rfl) ⟨rfl, rfl, rfl, trivial⟩ ⟨Nat.zero_le _, Only.refl _ _, hb⟩ ?_
  rintro i w' j ⟨hi, ho, hb'⟩
  conv => whnf
  refine vif_split (fun hlt => ?_) (fun hge => ?_)
  · have hlt : i < n := by simpa using hlt
    conv => whnf
    (refine vdrawAt plan67 (by kernel_rfl) ?_; conv => whnf)
    repeat (first | (refine VReq.mk (by first | decide | omega) ?_; conv => whnf) | (refine VPend.mk rfl ?_; conv => whnf) | (refine VNext.keep rfl ?_; conv => whnf) | (refine vs_loadB rfl (by assumption) rfl ?_; conv => whnf) | (refine vs_arrL rfl rfl rfl ?_; conv => whnf) | (refine vs_storeB (by assumption) rfl rfl rfl ?_; intro _ _ _; conv => whnf))
    (refine vdrawAt plan67 (by kernel_rfl) ?_; conv => whnf)
    repeat (first | (refine VReq.mk (by first | decide | omega) ?_; conv => whnf) | (refine VPend.mk rfl ?_; conv => whnf) | (refine VNext.keep rfl ?_; conv => whnf) | (refine vs_loadB rfl (by assumption) rfl ?_; conv => whnf) | (refine vs_arrL rfl rfl rfl ?_; conv => whnf) | (refine vs_storeB (by assumption) rfl rfl rfl ?_; intro _ _ _; conv => whnf))
    refine vcall (by kernel_rfl) (rot_ok _ _ 13 (by kernel_rfl) (by decide) (by decide) _) ?_
    rintro _ _ ⟨rfl, rfl⟩
    conv => whnf
    repeat (first | (refine VReq.mk (by first | decide | omega) ?_; conv => whnf) | (refine VPend.mk rfl ?_; conv => whnf) | (refine VNext.keep rfl ?_; conv => whnf) | (refine vs_loadB rfl (by assumption) rfl ?_; conv => whnf) | (refine vs_arrL rfl rfl rfl ?_; conv => whnf) | (refine vs_storeB (by assumption) rfl rfl rfl ?_; intro _ _ _; conv => whnf))
    (refine vdrawAt plan67 (by kernel_rfl) ?_; conv => whnf)
    repeat (first | (refine VReq.mk (by first | decide | omega) ?_; conv => whnf) | (refine VPend.mk rfl ?_; conv => whnf) | (refine VNext.keep rfl ?_; conv => whnf) | (refine vs_loadB rfl (by assumption) rfl ?_; conv => whnf) | (refine vs_arrL rfl rfl rfl ?_; conv => whnf) | (refine vs_storeB (by assumption) rfl rfl rfl ?_; intro _ _ _; conv => whnf))
    refine vcall (by kernel_rfl) (rot_ok _ _ 32 (by kernel_rfl) (by decide) (by decide) _) ?_
    rintro _ _ ⟨rfl, rfl⟩
    conv => whnf
    repeat (first | (refine VReq.mk (by first | decide | omega) ?_; conv => whnf) | (refine VPend.mk rfl ?_; conv => whnf) | (refine VNext.keep rfl ?_; conv => whnf) | (refine vs_loadB rfl (by assumption) rfl ?_; conv => whnf) | (refine vs_arrL rfl rfl rfl ?_; conv => whnf) | (refine vs_storeB (by assumption) rfl rfl rfl ?_; intro _ _ _; conv => whnf))
    (refine vdrawAt plan67 (by kernel_rfl) ?_; conv => whnf)
    repeat (first | (refine VReq.mk (by first | decide | omega) ?_; conv => whnf) | (refine VPend.mk rfl ?_; conv => whnf) | (refine VNext.keep rfl ?_; conv => whnf) | (refine vs_loadB rfl (by assumption) rfl ?_; conv => whnf) | (refine vs_arrL rfl rfl rfl ?_; conv => whnf) | (refine vs_storeB (by assumption) rfl rfl rfl ?_; intro _ _ _; conv => whnf))
    (refine vdrawAt plan67 (by kernel_rfl) ?_; conv => whnf)
    repeat (first | (refine VReq.mk (by first | decide | omega) ?_; conv => whnf) | (refine VPend.mk rfl ?_; conv => whnf) | (refine VNext.keep rfl ?_; conv => whnf) | (refine vs_loadB rfl (by assumption) rfl ?_; conv => whnf) | (refine vs_arrL rfl rfl rfl ?_; conv => whnf) | (refine vs_storeB (by assumption) rfl rfl rfl ?_; intro _ _ _; conv => whnf))
    refine vcall (by kernel_rfl) (rot_ok _ _ 16 (by kernel_rfl) (by decide) (by decide) _) ?_
    rintro _ _ ⟨rfl, rfl⟩
    conv => whnf
    repeat (first | (refine VReq.mk (by first | decide | omega) ?_; conv => whnf) | (refine VPend.mk rfl ?_; conv => whnf) | (refine VNext.keep rfl ?_; conv => whnf) | (refine vs_loadB rfl (by assumption) rfl ?_; conv => whnf) | (refine vs_arrL rfl rfl rfl ?_; conv => whnf) | (refine vs_storeB (by assumption) rfl rfl rfl ?_; intro _ _ _; conv => whnf))
    (refine vdrawAt plan67 (by kernel_rfl) ?_; conv => whnf)
    repeat (first | (refine VReq.mk (by first | decide | omega) ?_; conv => whnf) | (refine VPend.mk rfl ?_; conv => whnf) | (refine VNext.keep rfl ?_; conv => whnf) | (refine vs_loadB rfl (by assumption) rfl ?_; conv => whnf) | (refine vs_arrL rfl rfl rfl ?_; conv => whnf) | (refine vs_storeB (by assumption) rfl rfl rfl ?_; intro _ _ _; conv => whnf))
    (refine vdrawAt plan67 (by kernel_rfl) ?_; conv => whnf)
    repeat (first | (refine VReq.mk (by first | decide | omega) ?_; conv => whnf) | (refine VPend.mk rfl ?_; conv => whnf) | (refine VNext.keep rfl ?_; conv => whnf) | (refine vs_loadB rfl (by assumption) rfl ?_; conv => whnf) | (refine vs_arrL rfl rfl rfl ?_; conv => whnf) | (refine vs_storeB (by assumption) rfl rfl rfl ?_; intro _ _ _; conv => whnf))
    refine vcall (by kernel_rfl) (rot_ok _ _ 21 (by kernel_rfl) (by decide) (by decide) _) ?_
    rintro _ _ ⟨rfl, rfl⟩
    conv => whnf
    repeat (first | (refine VReq.mk (by first | decide | omega) ?_; conv => whnf) | (refine VPend.mk rfl ?_; conv => whnf) | (refine VNext.keep rfl ?_; conv => whnf) | (refine vs_loadB rfl (by assumption) rfl ?_; conv => whnf) | (refine vs_arrL rfl rfl rfl ?_; conv => whnf) | (refine vs_storeB (by assumption) rfl rfl rfl ?_; intro _ _ _; conv => whnf))
    (refine vdrawAt plan67 (by kernel_rfl) ?_; conv => whnf)
    repeat (first | (refine VReq.mk (by first | decide | omega) ?_; conv => whnf) | (refine VPend.mk rfl ?_; conv => whnf) | (refine VNext.keep rfl ?_; conv => whnf) | (refine vs_loadB rfl (by assumption) rfl ?_; conv => whnf) | (refine vs_arrL rfl rfl rfl ?_; conv => whnf) | (refine vs_storeB (by assumption) rfl rfl rfl ?_; intro _ _ _; conv => whnf))
    (refine vdrawAt plan67 (by kernel_rfl) ?_; conv => whnf)
    repeat (first | (refine VReq.mk (by first | decide | omega) ?_; conv => whnf) | (refine VPend.mk rfl ?_; conv => whnf) | (refine VNext.keep rfl ?_; conv => whnf) | (refine vs_loadB rfl (by assumption) rfl ?_; conv => whnf) | (refine vs_arrL rfl rfl rfl ?_; conv => whnf) | (refine vs_storeB (by assumption) rfl rfl rfl ?_; intro _ _ _; conv => whnf))
    refine vcall (by kernel_rfl) (rot_ok _ _ 17 (by kernel_rfl) (by decide) (by decide) _) ?_
    rintro _ _ ⟨rfl, rfl⟩
    conv => whnf
    repeat (first | (refine VReq.mk (by first | decide | omega) ?_; conv => whnf) | (refine VPend.mk rfl ?_; conv => whnf) | (refine VNext.keep rfl ?_; conv => whnf) | (refine vs_loadB rfl (by assumption) rfl ?_; conv => whnf) | (refine vs_arrL rfl rfl rfl ?_; conv => whnf) | (refine vs_storeB (by assumption) rfl rfl rfl ?_; intro _ _ _; conv => whnf))
    (refine vdrawAt plan67 (by kernel_rfl) ?_; conv => whnf)
    repeat (first | (refine VReq.mk (by first | decide | omega) ?_; conv => whnf) | (refine VPend.mk rfl ?_; conv => whnf) | (refine VNext.keep rfl ?_; conv => whnf) | (refine vs_loadB rfl (by assumption) rfl ?_; conv => whnf) | (refine vs_arrL rfl rfl rfl ?_; conv => whnf) | (refine vs_storeB (by assumption) rfl rfl rfl ?_; intro _ _ _; conv => whnf))
    refine vcall (by kernel_rfl) (rot_ok _ _ 32 (by kernel_rfl) (by decide) (by decide) _) ?_
    rintro _ _ ⟨rfl, rfl⟩
    conv => whnf
    repeat (first | (refine VReq.mk (by first | decide | omega) ?_; conv => whnf) | (refine VPend.mk rfl ?_; conv => whnf) | (refine VNext.keep rfl ?_; conv => whnf) | (refine vs_loadB rfl (by assumption) rfl ?_; conv => whnf) | (refine vs_arrL rfl rfl rfl ?_; conv => whnf) | (refine vs_storeB (by assumption) rfl rfl rfl ?_; intro _ _ _; conv => whnf))
    refine VBack.mk ⟨_, ?_, i + 1, rfl, ?_, ?_⟩
    · show n - (i + 1) < n - i; omega
    · exact ⟨rfl, rfl, intEq (incr (by omega)), trivial⟩
    · refine ⟨hlt, ?_, ?_⟩
      · (repeat (first | assumption | exact Only.refl _ _ | refine Only.step (by assumption) ?_ | refine Only.stepP (by assumption) ?_))
      · assumption
  · have hge : ¬ i < n := by simpa using hge
    conv => whnf
    have : i = n := by omega
    subst this
    exact VEnd.mk ⟨_, rfl, ho, hb'⟩

end Go.Proofs.YthnncehddnfjmaaDoor.Dg
