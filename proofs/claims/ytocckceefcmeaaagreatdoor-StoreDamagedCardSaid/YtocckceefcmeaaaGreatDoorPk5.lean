/- Joined parts of the proof. The orders in which the reckoner walks the regions that draw theirs: printed by a program of ours, each is checked where -/
import Derived.Test.YtocckceefcmeaaaGreatDoorPk1
import Derived.Test.YtocckceefcmeaaaGreatDoorProg
import Derived.KernelRfl
import Derived.IntWalk
import Derived.Test.YtocckceefcmeaaaGreatDoorPk4
import Derived.Lib.AppendZeros
set_option linter.unusedVariables false
set_option linter.unusedSimpArgs false
set_option maxRecDepth 100000
set_option maxHeartbeats 16000000
namespace Go.Proofs.YtocckceefcmeaaaGreatDoor.Vc
open Go.Proofs.Tryz
def tk (l:List Nat)(p:Plan):Plan:=l.foldr .take p
def tr (n:Nat)(p:Plan):Plan:=tk (List.range n) p
def afP (id:Nat):Plan:=
 match id with
 | 19=>(tr 8 (.post 8 (.take 9 .done)))
 | 21=>(tr 11 (.one 11 (.take 12 (.post 13 .done))))
 | _=> .done
def abC:List (Nat×Nat):= [(10,12),(47,67)]
def ad7 (id:Nat):Plan:=
 match id with
 | 13=>(tr 9 (.one 9 (.one 10 (.post 11 (.take 12 .done)))))
 | _=> .done
def abD:List (Nat×Nat):= [(10,11),(45,64)]
def abE:List (Nat×Nat):= [(4,5),(11,27)]
def ad8 (id:Nat):Plan:=
 match id with
 | 6=>(tr 11 .done)
 | _=> .done
def abG:List (Nat×Nat):= [(2,5),(7,7),(9,9),(26,37)]
def ad9 (id:Nat):Plan:=
 match id with
 | 18=>(tr 9 .done)
 | _=> .done
def abH:List (Nat×Nat):= [(2,7),(15,33)]
def aea (id:Nat):Plan:=
 match id with
 | 14=>(tk [0,1,2,3,6,7,8,9,13,14,15,16,17,18,19,20,21,22,23,24] (.two 4 (.take 5 (.two 10 (.take 11 (.one 12 (.one 25 (tk [26,27,28] .done)))) 12 (.one 10 (.take 11 (.one 25 (tk [26,27,28] .done)))))) 12 (.one 4 (.take 5 (.one 10 (.take 11 (.one 25 (tk [26,27,28] .done))))))))
 | _=> .done
def abI:List (Nat×Nat):= [(0,0),(5,5),(15,25)]
def aaI (id:Nat):Plan:=
 match id with
 | 3=>(tr 41 (.one 41 (.post 42 .done)))
 | 4=>(tr 16 (.one 16 (.one 17 (.take 18 (.one 19 (.take 20 .done))))))
 | _=> .done
def abJ:List (Nat×Nat):= [(6,9),(17,31)]
def abK:List (Nat×Nat):= [(2,84)]
def aaJ (id:Nat):Plan:=
 match id with
 | 5=>(tr 12 .done)
 | 8=>(tr 13 .done)
 | _=> .done
def abL:List (Nat×Nat):= [(3,18)]
def aeb (id:Nat):Plan:=
 match id with
 | 2=>(tk [0,1,2,4,5,6] (.one 3 (.take 8 (.one 7 (.post 9 (.take 10 (.post 11 .done)))))))
 | _=> .done
def abM:List (Nat×Nat):= [(2,4),(7,7),(10,16),(34,66)]
def abN:List (Nat×Nat):= [(3,3),(5,7),(10,32)]
def abO:List (Nat×Nat):= [(4,4),(6,8),(21,35)]
def aec (id:Nat):Plan:=
 match id with
 | 20=>(tr 8 (.one 8 (.take 9 (.post 10 (.take 11 .done)))))
 | _=> .done
def abP:List (Nat×Nat):= [(5,5),(19,35)]
def aaK (id:Nat):Plan:=
 match id with
 | 7=>(.take 0 (.take 1 (.one 2 (.one 3 (.post 4 (.take 5 (.post 6 .done)))))))
 | 8=>(.take 0 (.take 1 (.one 2 (.one 3 (.post 4 (.take 5 (.post 6 .done)))))))
 | _=> .done
def abQ:List (Nat×Nat):= [(2,3),(5,6),(14,23)]
def aed (id:Nat):Plan:=
 match id with
 | 13=>(.take 0 (.take 1 (.one 2 (.post 3 (.post 4 .done)))))
 | _=> .done
def abR:List (Nat×Nat):= [(7,11),(16,37)]
def abS:List (Nat×Nat):= [(3,4),(12,21)]
def abT:List (Nat×Nat):= [(6,18)]
def abU:List (Nat×Nat):= [(5,6),(9,21)]
def abV:List (Nat×Nat):= [(3,3),(5,5),(8,17)]
def aee (id:Nat):Plan:=
 match id with
 | 7=>(tr 11 .done)
 | _=> .done
def abW:List (Nat×Nat):= [(2,3),(6,10),(23,47)]
def Px (id:Nat):Plan:=
 match id with
 | 1=>(tr 12 .done)
 | _=> .done
def abX:List (Nat×Nat):= [(3,3),(5,7),(9,11),(18,71)]
def Jf:List (Nat×Nat):= [(6,7),(24,38)]
def Jg:List (Nat×Nat):= [(3,3),(9,11),(46,70)]
def BQ:List (Nat×Nat):= [(10,11),(52,65)]
def Py (id:Nat):Plan:=
 match id with
 | 10=>(tr 6 (.one 6 (.take 7 (.take 8 (.one 9 (.post 10 (.take 11 .done)))))))
 | _=> .done
def XO:List (Nat×Nat):= [(9,11),(26,50)]
def XP:List (Nat×Nat):= [(10,11),(33,48)]
def XQ:List (Nat×Nat):= [(8,8),(12,12),(54,74)]
def XR:List (Nat×Nat):= [(3,3),(5,6),(9,30)]
def XT:List (Nat×Nat):= [(3,3),(6,6),(13,26)]
def XU:List (Nat×Nat):= [(8,10),(20,77)]
def XV:List (Nat×Nat):= [(9,10),(27,53)]
def XW:List (Nat×Nat):= [(3,36)]
def XY:List (Nat×Nat):= [(3,3),(6,6),(19,30)]
def XZ:List (Nat×Nat):= [(2,5),(11,75)]
def X0:List (Nat×Nat):= [(4,6),(13,13),(15,19),(21,25),(62,141)]
def DU:List (Nat×Nat):= [(19,19),(85,99)]
def DV:List (Nat×Nat):= [(4,6),(13,13),(21,25),(103,140)]
def yA:List (Nat×Nat):= [(25,25),(126,139)]
def vW (id:Nat):Plan:=
 match id with
 | 20=>(tk [0,1,2,3,4,6,7,8,9] (.one 5 (.take 10 (.post 11 .done))))
 | 32=>(tk [0,1,2,3,5,6,7,8] (.one 4 (.take 9 (.post 10 .done))))
 | _=> .done
def X3:List (Nat×Nat):= [(2,5),(18,49)]
def X4:List (Nat×Nat):= [(2,2),(7,7),(52,59)]
def X5:List (Nat×Nat):= [(4,30)]
def abY (id:Nat):Plan:=
 match id with
 | 3=>(tr 7 .done)
 | _=> .done
def X6 (id:Nat):Plan:=abY id
def Jh:List (Nat×Nat):= [(4,4),(6,6),(23,30)]
def Ji:List (Nat×Nat):= [(7,7),(9,11),(33,47)]
def X7:List (Nat×Nat):= [(2,6),(8,37)]
def X8:List (Nat×Nat):= [(4,5),(7,7),(18,30)]
def Uw (id:Nat):Plan:=
 match id with
 | 1=>(tr 10 .done)
 | 5=>(tr 10 .done)
 | _=> .done
def Ux (id:Nat):Plan:=
 match id with
 | 0=>(tr 6 (.one 6 (.take 7 (.post 8 .done))))
 | _=> .done
def X9:List (Nat×Nat):= [(4,5),(11,21)]
def Pz (id:Nat):Plan:=
 match id with
 | 0=>(tr 8 (.sink 8))
 | 2=>(tr 8 (.sink 8))
 | _=> .done
def Ya:List (Nat×Nat):= [(5,119)]
def sZ (id:Nat):Plan:=
 match id with
 | 2=>(tr 11 (.sink 11))
 | 3=>(tk [0,1,2,3,4,6,7,8,9,11] (.one 5 (.take 10 (.take 12 (.sink 13)))))
 | 4=>(tk [0,1,2,3,4,6] (.one 5 (.take 7 (.sink 8))))
 | 5=>(tr 11 (.sink 11))
 | 6=>(tk [0,1,2,3,4,6,7,8,9,11] (.one 5 (.take 10 (.take 12 (.sink 13)))))
 | 7=>(tr 11 (.sink 11))
 | 8=>(tk [0,1,2,3,4,6,7,8,9,11] (.one 5 (.take 10 (.take 12 (.sink 13)))))
 | 9=>(tr 11 (.sink 11))
 | 10=>(tk [0,1,2,3,4,6,7,8,9,11] (.one 5 (.take 10 (.take 12 (.sink 13)))))
 | 11=>(tk [0,1,2,3,4,6] (.one 5 (.take 7 (.sink 8))))
 | _=> .done
def Yb:List (Nat×Nat):= [(5,70)]
def DW (id:Nat):Plan:=
 match id with
 | 5=>(tk [0,1,3,4] (.one 2 (.take 5 (.take 6 (.sink 7)))))
 | 8=>(tk [0,1,3,4] (.one 2 (.take 5 (.take 6 (.sink 7)))))
 | 10=>(tk [0,1,3,4] (.one 2 (.take 5 (.take 6 (.sink 7)))))
 | 12=>(tk [0,1,3,4] (.one 2 (.take 5 (.take 6 (.sink 7)))))
 | _=> .done
def Yc:List (Nat×Nat):= [(7,8),(10,10),(25,41)]
def Yd:List (Nat×Nat):= [(2,4),(9,9),(15,15),(57,76)]
def Fg (id:Nat):Plan:=
 match id with
 | 8=>(tk [1,2,5,6,8,12] (.one 0 (.take 3 (.take 4 (.one 7 (.one 9 (.take 10 (.take 11 (.post 13 (tk [14,15,16,17,18] .done))))))))))
 | _=> .done
def Ye:List (Nat×Nat):= [(4,5),(8,18)]
def Yf:List (Nat×Nat):= [(3,8),(13,35)]
def Yg:List (Nat×Nat):= [(12,12),(42,55)]
def Yh:List (Nat×Nat):= [(10,12),(57,94)]
def Yi:List (Nat×Nat):= [(12,12),(80,93)]
def Yj:List (Nat×Nat):= [(7,9),(13,30)]
def abZ (id:Nat):Plan:=
 match id with
 | 1=>(tk [0,1,3,4] (.one 2 (.take 6 (.one 5 (.post 7 (.take 8 (.post 9 .done)))))))
 | _=> .done
def Yk:List (Nat×Nat):= [(2,43)]
def Yl:List (Nat×Nat):= [(1,3),(8,133)]
def Ym:List (Nat×Nat):= [(0,0),(6,6),(9,16)]
def Yn:List (Nat×Nat):= [(7,7),(10,23)]
def Yo:List (Nat×Nat):= [(0,0),(5,39)]
def Yp:List (Nat×Nat):= [(6,6),(12,28)]
def ab1 (id:Nat):Plan:=
 match id with
 | 4=>(tr 15 .done)
 | _=> .done
def Yq:List (Nat×Nat):= [(4,5),(7,9),(12,40)]
def Yr:List (Nat×Nat):= [(0,0),(5,5),(7,7),(10,20)]
def Yt:List (Nat×Nat):= [(8,8),(15,31)]
def ab2 (id:Nat):Plan:=
 match id with
 | 5=>(tr 11 (.post 11 .done))
 | _=> .done
def Yu:List (Nat×Nat):= [(0,0),(7,9),(24,37)]
def Yv:List (Nat×Nat):= [(8,8),(16,29)]
def PD:List (Nat×Nat):= [(4,5),(9,10),(30,55)]
def Yw:List (Nat×Nat):= [(8,12),(36,71)]
def Yx:List (Nat×Nat):= [(11,12),(47,70)]
def ab3 (id:Nat):Plan:=
 match id with
 | 13=>(tr 15 (.post 15 .done))
 | _=> .done
def Yy:List (Nat×Nat):= [(9,13),(39,74)]
def Yz:List (Nat×Nat):= [(11,13),(43,65)]
def YA:List (Nat×Nat):= [(6,7),(10,48)]
def YB:List (Nat×Nat):= [(8,8),(34,46)]
def ab4 (id:Nat):Plan:=
 match id with
 | 9=>(tr 7 (.one 7 (.take 8 (.take 9 .done))))
 | _=> .done
def YC:List (Nat×Nat):= [(7,9),(13,30)]
def YD:List (Nat×Nat):= [(3,4),(12,23)]
def YE:List (Nat×Nat):= [(3,4),(12,23)]
end Go.Proofs.YtocckceefcmeaaaGreatDoor.Vc
namespace Go.Proofs.YtocckceefcmeaaaGreatDoor.Dg
open RowKit Vc Go.Proofs.Tryz
attribute [local irreducible] loadVar storeVar Instr.indexAt Instr.index Instr.sliceAt Instr.makeSlice Instr.lookup Instr.mapUpdate Instr.range Instr.next Instr.entry Instr.makeMap Builtin.append_ Builtin.copy_ Builtin.len_ Builtin.min_ Builtin.max_ Builtin.cap_ Builtin.delete_ Builtin.clear_ convert binOp eqGuard Op.unary Calls
theorem mixed:Tryz.prog.follows .mixedOrders=true:=by kernel_rfl
def GH (x:Int)(n:Nat):Int:=mD .or .u64 (IntKind.u64.wrap (x*2^n)) (x.fdiv (2^(64-n)))
theorem BR (x k:Int)(n:Nat)(hk:mD .and .u64 (IntKind.u64.wrap k) 63=n)(h0:0<n)(h1:n<64)(w:World) :
  y8 Tryz.prog 164 #[.int .u64 x, .int .i64 k] w fun v w'=>v = .int .u64 (GH x n)∧w'=w:=by
 have e3:IntKind.u64.wrap (64 -(n:Int))=64-n:=IntWalk.u64_in _ (by omega)
 refine ou func164 rfl mixed (by kernel_rfl) ?_
 refine lG.mk (by rw [hk];omega) ?_
 refine lG.mk ?_ ?_
 ·rw [hk,e3];omega
 refine rV.mk ⟨?_,rfl⟩
 show Value.int .u64 _=_
 rw [hk,e3]
 unfold GH
 have e1:min (n:Int).toNat IntKind.u64.bits=n:=by simp [IntKind.bits];omega
 have e2:min (64 -(n:Int)).toNat IntKind.u64.bits=64-n:=by simp [IntKind.bits]
 rw [e1,e2]
structure S4 where
 a:Int
 b:Int
 c:Int
 d:Int
def u (x:Int):Value:= .int .u64 x
def add (x y:Int):Int:=IntKind.u64.wrap (x+y)
def xor (x y:Int):Int:=mD .xor .u64 x y
def S4.round (s:S4):S4:=
 let a:=add s.a s.b
 let b:=xor (GH s.b 13) a
 let a:=GH a 32
 let c:=add s.c s.d
 let d:=xor (GH s.d 16) c
 let a:=add a d
 let d:=xor (GH d 21) a
 let c:=add c b
 let b:=xor (GH b 17) c
 let c:=GH c 32
 ⟨a,b,c,d⟩
def S4.rounds (s:S4):Nat->S4
 | 0=>s
 | n+1=>(s.rounds n).round
@[reducible] def S4.cells (s:S4):List Value:= [.int .u64 s.a, .int .u64 s.b, .int .u64 s.c, .int .u64 s.d]
theorem Hz (b:Nat)(T:TypeId)(n:Nat)(hn:n<100)(s:S4)(w:World)(hb:qX w b s.cells T) :
  y8 Tryz.prog 135 #[.pointer (some ⟨b,0,none⟩), .int .i64 n] w fun _ w'=> ∃t,t=s.rounds n∧Only b w w'∧qX w' b t.cells T:=by
 refine ou func135 rfl mixed (by kernel_rfl) ?_
 refine qZ (X:=Nat) Ya (fun i=> [(0, .pointer (some ⟨b,0,none⟩)),(4, .int .i64 n),(5, .int .i64 i)]) (fun i w'=>i<=n∧Only b w w'∧qX w' b (s.rounds i).cells T) (fun i=>n-i) 0 (by kernel_rfl) ⟨rfl,rfl,rfl,trivial⟩ ⟨aB _,Only.refl _ _,hb⟩ ?_
 rintro i w' j ⟨hi,ho,hb'⟩
 refine lD (fun hlt=> ?_) (fun hge=> ?_)
 ·have hlt:i<n:=by simpa using hlt
  (refine pJ sZ (by kernel_rfl) ?_;conv=>whnf)
  repeat (first|(refine lG.mk (by first|decide|omega) ?_;conv=>whnf)|(refine og.mk rfl ?_;conv=>whnf)|(refine nP.keep rfl ?_;conv=>whnf)|(refine mM rfl (by assumption) rfl ?_;conv=>whnf)|(refine mY rfl rfl rfl ?_;conv=>whnf)|(refine lZ (by assumption) rfl rfl rfl ?_;intro _ _ _;conv=>whnf))
  (refine pJ sZ (by kernel_rfl) ?_;conv=>whnf)
  repeat (first|(refine lG.mk (by first|decide|omega) ?_;conv=>whnf)|(refine og.mk rfl ?_;conv=>whnf)|(refine nP.keep rfl ?_;conv=>whnf)|(refine mM rfl (by assumption) rfl ?_;conv=>whnf)|(refine mY rfl rfl rfl ?_;conv=>whnf)|(refine lZ (by assumption) rfl rfl rfl ?_;intro _ _ _;conv=>whnf))
  refine pF (by kernel_rfl) (BR _ _ 13 (by kernel_rfl) (by decide) (by decide) _) ?_
  rintro _ _ ⟨rfl,rfl⟩
  conv=>whnf
  repeat (first|(refine lG.mk (by first|decide|omega) ?_;conv=>whnf)|(refine og.mk rfl ?_;conv=>whnf)|(refine nP.keep rfl ?_;conv=>whnf)|(refine mM rfl (by assumption) rfl ?_;conv=>whnf)|(refine mY rfl rfl rfl ?_;conv=>whnf)|(refine lZ (by assumption) rfl rfl rfl ?_;intro _ _ _;conv=>whnf))
  (refine pJ sZ (by kernel_rfl) ?_;conv=>whnf)
  repeat (first|(refine lG.mk (by first|decide|omega) ?_;conv=>whnf)|(refine og.mk rfl ?_;conv=>whnf)|(refine nP.keep rfl ?_;conv=>whnf)|(refine mM rfl (by assumption) rfl ?_;conv=>whnf)|(refine mY rfl rfl rfl ?_;conv=>whnf)|(refine lZ (by assumption) rfl rfl rfl ?_;intro _ _ _;conv=>whnf))
  refine pF (by kernel_rfl) (BR _ _ 32 (by kernel_rfl) (by decide) (by decide) _) ?_
  rintro _ _ ⟨rfl,rfl⟩
  conv=>whnf
  repeat (first|(refine lG.mk (by first|decide|omega) ?_;conv=>whnf)|(refine og.mk rfl ?_;conv=>whnf)|(refine nP.keep rfl ?_;conv=>whnf)|(refine mM rfl (by assumption) rfl ?_;conv=>whnf)|(refine mY rfl rfl rfl ?_;conv=>whnf)|(refine lZ (by assumption) rfl rfl rfl ?_;intro _ _ _;conv=>whnf))
  (refine pJ sZ (by kernel_rfl) ?_;conv=>whnf)
  repeat (first|(refine lG.mk (by first|decide|omega) ?_;conv=>whnf)|(refine og.mk rfl ?_;conv=>whnf)|(refine nP.keep rfl ?_;conv=>whnf)|(refine mM rfl (by assumption) rfl ?_;conv=>whnf)|(refine mY rfl rfl rfl ?_;conv=>whnf)|(refine lZ (by assumption) rfl rfl rfl ?_;intro _ _ _;conv=>whnf))
  (refine pJ sZ (by kernel_rfl) ?_;conv=>whnf)
  repeat (first|(refine lG.mk (by first|decide|omega) ?_;conv=>whnf)|(refine og.mk rfl ?_;conv=>whnf)|(refine nP.keep rfl ?_;conv=>whnf)|(refine mM rfl (by assumption) rfl ?_;conv=>whnf)|(refine mY rfl rfl rfl ?_;conv=>whnf)|(refine lZ (by assumption) rfl rfl rfl ?_;intro _ _ _;conv=>whnf))
  refine pF (by kernel_rfl) (BR _ _ 16 (by kernel_rfl) (by decide) (by decide) _) ?_
  rintro _ _ ⟨rfl,rfl⟩
  conv=>whnf
  repeat (first|(refine lG.mk (by first|decide|omega) ?_;conv=>whnf)|(refine og.mk rfl ?_;conv=>whnf)|(refine nP.keep rfl ?_;conv=>whnf)|(refine mM rfl (by assumption) rfl ?_;conv=>whnf)|(refine mY rfl rfl rfl ?_;conv=>whnf)|(refine lZ (by assumption) rfl rfl rfl ?_;intro _ _ _;conv=>whnf))
  (refine pJ sZ (by kernel_rfl) ?_;conv=>whnf)
  repeat (first|(refine lG.mk (by first|decide|omega) ?_;conv=>whnf)|(refine og.mk rfl ?_;conv=>whnf)|(refine nP.keep rfl ?_;conv=>whnf)|(refine mM rfl (by assumption) rfl ?_;conv=>whnf)|(refine mY rfl rfl rfl ?_;conv=>whnf)|(refine lZ (by assumption) rfl rfl rfl ?_;intro _ _ _;conv=>whnf))
  (refine pJ sZ (by kernel_rfl) ?_;conv=>whnf)
  repeat (first|(refine lG.mk (by first|decide|omega) ?_;conv=>whnf)|(refine og.mk rfl ?_;conv=>whnf)|(refine nP.keep rfl ?_;conv=>whnf)|(refine mM rfl (by assumption) rfl ?_;conv=>whnf)|(refine mY rfl rfl rfl ?_;conv=>whnf)|(refine lZ (by assumption) rfl rfl rfl ?_;intro _ _ _;conv=>whnf))
  refine pF (by kernel_rfl) (BR _ _ 21 (by kernel_rfl) (by decide) (by decide) _) ?_
  rintro _ _ ⟨rfl,rfl⟩
  conv=>whnf
  repeat (first|(refine lG.mk (by first|decide|omega) ?_;conv=>whnf)|(refine og.mk rfl ?_;conv=>whnf)|(refine nP.keep rfl ?_;conv=>whnf)|(refine mM rfl (by assumption) rfl ?_;conv=>whnf)|(refine mY rfl rfl rfl ?_;conv=>whnf)|(refine lZ (by assumption) rfl rfl rfl ?_;intro _ _ _;conv=>whnf))
  (refine pJ sZ (by kernel_rfl) ?_;conv=>whnf)
  repeat (first|(refine lG.mk (by first|decide|omega) ?_;conv=>whnf)|(refine og.mk rfl ?_;conv=>whnf)|(refine nP.keep rfl ?_;conv=>whnf)|(refine mM rfl (by assumption) rfl ?_;conv=>whnf)|(refine mY rfl rfl rfl ?_;conv=>whnf)|(refine lZ (by assumption) rfl rfl rfl ?_;intro _ _ _;conv=>whnf))
  (refine pJ sZ (by kernel_rfl) ?_;conv=>whnf)
  repeat (first|(refine lG.mk (by first|decide|omega) ?_;conv=>whnf)|(refine og.mk rfl ?_;conv=>whnf)|(refine nP.keep rfl ?_;conv=>whnf)|(refine mM rfl (by assumption) rfl ?_;conv=>whnf)|(refine mY rfl rfl rfl ?_;conv=>whnf)|(refine lZ (by assumption) rfl rfl rfl ?_;intro _ _ _;conv=>whnf))
  refine pF (by kernel_rfl) (BR _ _ 17 (by kernel_rfl) (by decide) (by decide) _) ?_
  rintro _ _ ⟨rfl,rfl⟩
  conv=>whnf
  repeat (first|(refine lG.mk (by first|decide|omega) ?_;conv=>whnf)|(refine og.mk rfl ?_;conv=>whnf)|(refine nP.keep rfl ?_;conv=>whnf)|(refine mM rfl (by assumption) rfl ?_;conv=>whnf)|(refine mY rfl rfl rfl ?_;conv=>whnf)|(refine lZ (by assumption) rfl rfl rfl ?_;intro _ _ _;conv=>whnf))
  (refine pJ sZ (by kernel_rfl) ?_;conv=>whnf)
  repeat (first|(refine lG.mk (by first|decide|omega) ?_;conv=>whnf)|(refine og.mk rfl ?_;conv=>whnf)|(refine nP.keep rfl ?_;conv=>whnf)|(refine mM rfl (by assumption) rfl ?_;conv=>whnf)|(refine mY rfl rfl rfl ?_;conv=>whnf)|(refine lZ (by assumption) rfl rfl rfl ?_;intro _ _ _;conv=>whnf))
  refine pF (by kernel_rfl) (BR _ _ 32 (by kernel_rfl) (by decide) (by decide) _) ?_
  rintro _ _ ⟨rfl,rfl⟩
  conv=>whnf
  repeat (first|(refine lG.mk (by first|decide|omega) ?_;conv=>whnf)|(refine og.mk rfl ?_;conv=>whnf)|(refine nP.keep rfl ?_;conv=>whnf)|(refine mM rfl (by assumption) rfl ?_;conv=>whnf)|(refine mY rfl rfl rfl ?_;conv=>whnf)|(refine lZ (by assumption) rfl rfl rfl ?_;intro _ _ _;conv=>whnf))
  refine qJ.mk ⟨_, ?_,i+1,rfl, ?_, ?_⟩
  ·show n -(i+1)<n-i;omega
  ·exact⟨rfl,rfl,pY (incr (by omega)),trivial⟩
  ·refine⟨hlt, ?_, ?_⟩
   ·(repeat (first|assumption|exact Only.refl _ _|refine Only.step (by assumption) ?_|refine Only.aaA (by assumption) ?_))
   ·assumption
 ·have hge : ¬i<n:=by simpa using hge
  conv=>whnf
  have:i=n:=by omega
  subst this
  exact rV.mk ⟨_,rfl,ho,hb'⟩
def S4.word (s:S4)(m:Int):S4:=
 let t:=S4.rounds ⟨s.a,s.b,s.c,xor s.d m⟩ 2
 ⟨xor t.a m,t.b,t.c,t.d⟩
theorem Jj (b:Nat)(T:TypeId)(m:Int)(s:S4)(w:World)(hb:qX w b s.cells T) :
  y8 Tryz.prog 134 #[.pointer (some ⟨b,0,none⟩), .int .u64 m] w fun _ w'=> ∃t,t=s.word m∧Only b w w'∧qX w' b t.cells T:=by
 refine ou func134 rfl mixed (by kernel_rfl) ?_
 (refine pJ Pz (by kernel_rfl) ?_;conv=>whnf)
 repeat (first|(refine lG.mk (by first|decide|omega) ?_;conv=>whnf)|(refine og.mk rfl ?_;conv=>whnf)|(refine nP.keep rfl ?_;conv=>whnf)|(refine mM rfl (by assumption) rfl ?_;conv=>whnf)|(refine mY rfl rfl rfl ?_;conv=>whnf)|(refine lZ (by assumption) rfl rfl rfl ?_;intro _ _ _;conv=>whnf))
 rename_i w1 o1 hb1
 refine pF (by kernel_rfl) (Hz b T 2 (by decide) ⟨s.a,s.b,s.c,xor s.d m⟩ _ hb1) ?_
 rintro _ w2 ⟨t,ht,o2,hb2⟩
 (refine pJ Pz (by kernel_rfl) ?_;conv=>whnf)
 repeat (first|(refine lG.mk (by first|decide|omega) ?_;conv=>whnf)|(refine og.mk rfl ?_;conv=>whnf)|(refine nP.keep rfl ?_;conv=>whnf)|(refine mM rfl (by assumption) rfl ?_;conv=>whnf)|(refine mY rfl rfl rfl ?_;conv=>whnf)|(refine lZ (by assumption) rfl rfl rfl ?_;intro _ _ _;conv=>whnf))
 rename_i w3 o3 hb3
 have he:s.word m=⟨xor t.a m,t.b,t.c,t.d⟩:=by rw [ht];rfl
 refine rV.mk ⟨⟨xor t.a m,t.b,t.c,t.d⟩,he.symm, ?_,hb3⟩
 exact Only.step o3 ((o1.NJ).trans o2)
def Rl (x y:Int):Int:=mD .or .u64 x y
def Rn (b:UInt8)(k:Nat):Int:=IntKind.u64.wrap ((b.toNat:Int)*2^(8*k))
def ug (l:List UInt8):Nat->Int
 | 0=>0
 | n+1=>Rl (ug l n) (Rn (l.getD n 0) n)
def S4.init (k0 k1:Int):S4:=⟨xor k0 8317987319222330741,xor k1 7237128888997146477,xor k0 7816392313619706465,xor k1 8387220255154660723⟩
def S4.upto (k0 k1:Int)(l:List UInt8):Nat->S4
 | 0=> .init k0 k1
 | i+1=>(S4.upto k0 k1 l i).word (ug (l.drop (8*i)) 8)
def lastTo (l:List UInt8):Nat->Int
 | 0=>IntKind.u64.wrap (IntKind.u64.wrap l.length*2^56)
 | n+1=>Rl (lastTo l n) (Rn (l.getD (l.length-l.length%8+n) 0) n)
def S4.done (s:S4):Int:=
 let t:=S4.rounds ⟨s.a,s.b,xor s.c 255,s.d⟩ 4
 xor (xor (xor t.a t.b) t.c) t.d
def Ae (k0 k1:Int)(l:List UInt8):Int:=((S4.upto k0 k1 l (l.length/8)).word (lastTo l (l.length%8))).done
theorem Jk (x:UInt8)(k:Nat)(hk:k<8)(n:Int)(hn:n=(8*k:Nat)) :
  IntKind.u64.wrap (IntKind.u64.wrap (x.toNat:Int)*2^min n.toNat IntKind.u64.bits)=Rn x k:=by
 subst hn
 have h1:IntKind.u64.wrap (x.toNat:Int)=x.toNat:=IntWalk.u64_in _ (by have:=x.toNat_lt;omega)
 have h2:min ((8*k:Nat):Int).toNat IntKind.u64.bits=8*k:=by simp [IntKind.bits];omega
 rw [h1,h2]
 rfl
theorem getD_drop (l:List UInt8)(i k:Nat)(h:i+k<l.length):(l.drop i).getD k 0=l[i+k]:=by
 simp [aW,cZ,h]
theorem ab5 (k0 k1:Int)(oa:Option Addr)(c:Nat)(l:List UInt8)(w:World)(hl:l.length<4611686018427387904)(hr:Row w oa (nR l)) :
  y8 Tryz.prog 102 #[.int .u64 k0, .int .u64 k1, .slice oa l.length c] w fun v w'=>v = .int .u64 (Ae k0 k1 l)∧Below w.heap.size w w':=by
 refine ou func102 rfl mixed (by kernel_rfl) ?_
 refine uH (qX.new _ _ _) rfl rfl rfl ?_
 intro w1 o1 hb1
 have hB1:Below w.heap.size w w1:=((Below.refl _ _).alloc (ay _) _).trans (o1.below (ay _))
 conv=>whnf
 repeat (first|(refine lG.mk (by first|decide|omega) ?_;conv=>whnf)|(refine og.mk rfl ?_;conv=>whnf)|(refine nP.keep rfl ?_;conv=>whnf)|(refine mM rfl (by assumption) rfl ?_;conv=>whnf)|(refine mY rfl rfl rfl ?_;conv=>whnf)|(refine lZ (by assumption) rfl rfl rfl ?_;intro _ _ _;conv=>whnf))
 refine qZ (X:=Nat) XO (fun i=> [(9, .int .i64 (8*i:Nat))]) (fun i w'=>8*i<=l.length∧Below w.heap.size w w'∧∃t,t=S4.upto k0 k1 l i∧qX w' w.heap.size t.cells 175) (fun i=>l.length-8*i) 0 (by kernel_rfl)
  ?_ ⟨aB _,hB1,_,rfl,hb1⟩ ?_
 ·exact⟨rfl,trivial⟩
 rintro i w2 j ⟨hi,hB2,t,ht,hb2⟩
 conv=>whnf
 have e8:IntKind.i64.wrap ((8*i:Nat)+8)=((8*i+8:Nat):Int):=by rw [IntWalk.i64_in _ (by omega)];omega
 refine lD (fun hlt=> ?_) (fun hge=> ?_)
 ·have hlt:8*i+8<=l.length:=by rw [e8]at hlt;have:=of_decide_eq_true hlt;omega
  obtain⟨b,o,rfl,hbl,hc⟩:=hr.get (by simp;omega)
  refine qZ (X:=Nat) XP (fun k=> [(10, .int .u64 (ug (l.drop (8*i)) k)),(33, .int .i64 k)]) (fun k w'=>k<=8∧w'=w2) (fun k=>8-k) 0 (by kernel_rfl) ?_ ⟨by omega,rfl⟩ ?_
  ·exact⟨rfl,rfl,trivial⟩
  rintro k _ j2 ⟨hk,rfl⟩
  refine lD (fun hlt2=> ?_) (fun Fh=> ?_)
  ·have hlt2:k<8:=by have:=of_decide_eq_true hlt2;omega
   refine y9 (8*i+k) rfl rfl (by rw [IntWalk.i64_in _ (by omega)];omega) (by omega) ?_
   refine oG rfl (by rw [hB2.cell (p:=⟨b,o+(8*i+k),none⟩) hbl];exact hc _ _ (uI (by omega))) ?_
   refine lG.mk (by rw [IntWalk.i64_in _ (by omega)];omega) ?_
   refine qJ.mk ⟨_, ?_,k+1,rfl, ?_, ?_⟩
   ·show 8 -(k+1)<8-k;omega
   ·refine⟨pY ?_,pY (incr (by omega)),trivial⟩
    rw [Jk _ k hlt2 _ (by rw [IntWalk.i64_in _ (by omega)];omega), <-getD_drop l (8*i) k (by omega)]
    rfl
   ·exact⟨hlt2,rfl⟩
  ·have Fh : ¬k<8:=by have:=of_decide_eq_false Fh;omega
   obtain rfl:k=8:=by omega
   refine pF (by kernel_rfl) (Jj _ _ _ _ _ hb2) ?_
   rintro _ w3 ⟨t3,ht3,o3,hb3⟩
   refine qJ.mk ⟨_, ?_,i+1,rfl, ?_, ?_⟩
   ·show l.length-8*(i+1)<l.length-8*i;omega
   ·exact⟨pY (by rw [e8,Nat.mul_add]),trivial⟩
   ·refine⟨by omega,hB2.trans (o3.below (ay _)),t3, ?_,hb3⟩
    rw [ht3,ht];rfl
 ·have hge : ¬8*i+8<=l.length:=by rw [e8]at hge;have:=of_decide_eq_false hge;omega
  have hi8:i=l.length/8:=by omega
  obtain⟨r,hr8⟩ : ∃r,r=l.length%8:=⟨_,rfl⟩
  conv=>whnf
  repeat (first|(refine lG.mk (by first|decide|omega) ?_;conv=>whnf)|(refine og.mk rfl ?_;conv=>whnf)|(refine nP.keep rfl ?_;conv=>whnf)|(refine mM rfl (by assumption) rfl ?_;conv=>whnf)|(refine mY rfl rfl rfl ?_;conv=>whnf)|(refine lZ (by assumption) rfl rfl rfl ?_;intro _ _ _;conv=>whnf))
  refine qZ (X:=Nat) XQ (fun k=> [(8, .int .u64 (lastTo l k)),(53, .int .i64 r),(54, .int .i64 k)]) (fun k w'=>k<=r∧w'=w2) (fun k=>r-k) 0 (by kernel_rfl) ?_ ⟨by omega,rfl⟩ ?_
  ·exact⟨rfl,pY (by rw [hr8];rfl),rfl,trivial⟩
  rintro k _ j2 ⟨hk,rfl⟩
  refine lD (fun hlt2=> ?_) (fun Fh=> ?_)
  ·have hlt2:k<r:=by have:=of_decide_eq_true hlt2;omega
   obtain⟨b,o,rfl,hbl,hc⟩:=hr.get (by simp;omega)
   conv=>whnf
   repeat (first|(refine lG.mk (by first|decide|omega) ?_;conv=>whnf)|(refine og.mk rfl ?_;conv=>whnf)|(refine nP.keep rfl ?_;conv=>whnf)|(refine mM rfl (by assumption) rfl ?_;conv=>whnf)|(refine mY rfl rfl rfl ?_;conv=>whnf)|(refine lZ (by assumption) rfl rfl rfl ?_;intro _ _ _;conv=>whnf))
   refine y9 (l.length-r+k) rfl rfl ?_ (by omega) ?_
   ·have e1:Int.tmod (l.length:Int) 8=r:=by rw [hr8];rfl
    rw [e1,IntWalk.i64_in ((l.length:Int)-r) (by omega),IntWalk.i64_in _ (by omega)]
    omega
   refine oG rfl (by rw [hB2.cell (p:=⟨b,o+(l.length-r+k),none⟩) hbl];exact hc _ _ (uI (by omega))) ?_
   refine lG.mk (by rw [IntWalk.i64_in _ (by omega)];omega) ?_
   refine qJ.mk ⟨_, ?_,k+1,rfl, ?_, ?_⟩
   ·show r -(k+1)<r-k;omega
   ·refine⟨pY ?_,rfl,pY (incr (by omega)),trivial⟩
    rw [Jk _ k (by omega) _ (by rw [IntWalk.i64_in _ (by omega)];omega)]
    have:=getD_drop l 0 (l.length-r+k) (by omega)
    simp only [gK,aS]at this
    rw [<-this,hr8]
    rfl
   ·exact⟨hlt2,rfl⟩
  ·have Fh : ¬k<r:=by have:=of_decide_eq_false Fh;omega
   obtain rfl:k=r:=by omega
   refine pF (by kernel_rfl) (Jj _ _ _ _ _ hb2) ?_
   rintro _ w3 ⟨t3,ht3,o3,hb3⟩
   conv=>whnf
   repeat (first|(refine lG.mk (by first|decide|omega) ?_;conv=>whnf)|(refine og.mk rfl ?_;conv=>whnf)|(refine nP.keep rfl ?_;conv=>whnf)|(refine mM rfl (by assumption) rfl ?_;conv=>whnf)|(refine mY rfl rfl rfl ?_;conv=>whnf)|(refine lZ (by assumption) rfl rfl rfl ?_;intro _ _ _;conv=>whnf))
   rename_i w4 o4 hb4
   refine pF (by kernel_rfl) (Hz _ _ 4 (by decide) ⟨t3.a,t3.b,xor t3.c 255,t3.d⟩ _ hb4) ?_
   rintro _ w5 ⟨t5,ht5,o5,hb5⟩
   conv=>whnf
   repeat (first|(refine lG.mk (by first|decide|omega) ?_;conv=>whnf)|(refine og.mk rfl ?_;conv=>whnf)|(refine nP.keep rfl ?_;conv=>whnf)|(refine mM rfl (by assumption) rfl ?_;conv=>whnf)|(refine mY rfl rfl rfl ?_;conv=>whnf)|(refine lZ (by assumption) rfl rfl rfl ?_;intro _ _ _;conv=>whnf))
   refine rV.mk ⟨?_, ?_⟩
   ·have:Ae k0 k1 l=xor (xor (xor t5.a t5.b) t5.c) t5.d:=by
     unfold Ae S4.done
     rw [<-hi8, <-ht, <-hr8, <-ht3, <-ht5]
    rw [this]
    rfl
   ·exact hB2.trans (((o3.trans o4).trans o5).below (ay _))
def wZ (n:Nat)(k:Nat):UInt8:=UInt8.ofNat (n/2^(8*k)%256)
def tX (n:Nat):Nat->List UInt8
 | 0=> []
 | k+1=>tX n k++ [wZ n (7-k)]
def frame (ls:List (List UInt8)):List UInt8:=
 match ls with
 | []=> []
 | l::r=>(tX l.length 8++l)++frame r
def nT (ls:List (List UInt8))(i:Nat):List UInt8:=frame (ls.take i)
theorem Af (a b:List (List UInt8)):frame (a++b)=frame a++frame b:=by
 induction a with
 | nil=>rfl
 | cons l r ih=>simp only [gW,frame,ih,aO]
theorem uz (ls:List (List UInt8))(i:Nat)(h:i<ls.length):nT ls (i+1)=nT ls i++(tX ls[i].length 8++ls[i]):=by
 unfold nT
 rw [aH h,Af]
 simp [frame]
theorem sQ (n k:Nat):(tX n k).length=k:=by
 induction k with
 | zero=>rfl
 | succ k ih=>simp [tX,ih]
theorem yX (ls:List (List UInt8))(i:Nat):(nT ls i).length<=(frame ls).length:=by
 have:=Af (ls.take i) (ls.drop i)
 rw [eY]at this
 unfold nT
 rw [this,ak]
 omega
def YF (w:World)(vs:List Value)(ls:List (List UInt8)):Prop:=
 vs.length=ls.length∧∀i (h:i<ls.length), ∃oa c,vs[i]? = some (.slice oa ls[i].length c)∧ls[i].length<=c∧(oa=none->c=0)∧Row w oa (nR ls[i])
theorem YF.below {w w':World}{vs:List Value}{ls:List (List UInt8)}(h:YF w vs ls)(hb:Below w.heap.size w w'):YF w' vs ls:=
 ⟨h.1,fun i hi=>let ⟨oa,c,h1,h2,h3,h4⟩:=h.2 i hi;⟨oa,c,h1,h2,h3,h4.below hb⟩⟩
theorem Jl (n k:Nat)(hk:k<8)(hn:n<18446744073709551616)(x:Int)(hx:x=(8*k:Nat)) :
  IntKind.u8.wrap ((IntKind.u64.wrap (n:Int)).fdiv (2^min x.toNat IntKind.u64.bits))=((wZ n k).toNat:Int):=by
 subst hx
 have h1:IntKind.u64.wrap (n:Int)=n:=IntWalk.u64_in _ (by omega)
 have h2:min ((8*k:Nat):Int).toNat IntKind.u64.bits=8*k:=by simp [IntKind.bits];omega
 rw [h1,h2,IntKind.wrap_u8]
 unfold wZ
 have e1:((n:Int).fdiv (2^(8*k)))=((n/2^(8*k):Nat):Int):=by
  rw [fD]
  ·simp
  ·exact Int.le_of_lt (Int.pow_pos (by decide))
 rw [e1]
 simp
theorem zy (b:UInt8):nR [b] = [.int .u8 b.toNat]:=rfl
theorem Uy (oa:Option Addr)(c:Nat)(vs:List Value)(ls:List (List UInt8))(w:World)(hlen:ls.length<=1099511627776)(hl:(frame ls).length<=140737488355328)(hr:Row w oa vs)(hf:YF w vs ls) :
  y8 Tryz.prog 103 #[.slice oa ls.length c] w fun v w'=> ∃oW c',v = .slice oW (frame ls).length c'∧Own w' w.heap.size 5 1 oW (frame ls).length c' (nR (frame ls))∧Below w.heap.size w w':=by
 refine ou func103 rfl mixed (by kernel_rfl) ?_
 refine qZ (X:=Nat×Option Addr×Nat) XR (fun x=> [(3, .slice x.2.1 (nT ls x.1).length x.2.2),(9, .int .i64 x.1)]) (fun x w'=>x.1<=ls.length∧Below w.heap.size w w'∧Own w' w.heap.size 5 1 x.2.1 (nT ls x.1).length x.2.2 (nR (nT ls x.1))) (fun x=>ls.length-x.1) (0,none,0) (by kernel_rfl)
  ?_ ⟨aB _,Below.refl _ _,Own.nil _ _ _ _⟩ ?_
 ·exact⟨rfl,rfl,trivial⟩
 rintro⟨i,oo,cc⟩ w1 j ⟨hi,hB,ho⟩
 refine lD (fun hlt=> ?_) (fun hge=> ?_)
 ·have hlt:i<ls.length:=by have:=of_decide_eq_true hlt;omega
  obtain⟨b,o,rfl,hbl,hc⟩:=hr.get (by rw [hf.1];omega)
  obtain⟨oa1,c1,hv,hc1,hn1,hr1⟩:=hf.2 i hlt
  have hr1':=hr1.below hB
  have hL1:=yX ls (i+1)
  rw [uz ls i hlt]at hL1
  simp only [ak,sQ]at hL1
  refine y9 i rfl rfl rfl hlt ?_
  refine oG rfl (by rw [hB.cell (p:=⟨b,o+i,none⟩) hbl];exact hc _ _ hv) ?_
  refine qZ (X:=Nat×Option Addr×Nat) XT (fun x=> [(3, .slice x.2.1 ((nT ls i).length+x.1) x.2.2),(6, .int .i64 (7 -(x.1:Int)))]) (fun x w'=>x.1<=8∧Below w.heap.size w w'∧Own w' w.heap.size 5 1 x.2.1 ((nT ls i).length+x.1) x.2.2 (nR (nT ls i++tX ls[i].length x.1))) (fun x=>8-x.1) (0,oo,cc) (by kernel_rfl)
   ?_ ⟨aB _,hB,by simpa [tX]using ho⟩ ?_
  ·exact⟨rfl,rfl,trivial⟩
  rintro⟨k,o2,c2⟩ w2 j2 ⟨hk,hB2,ho2⟩
  simp only at hk ho2
  refine lD (fun hlt2=> ?_) (fun Fh=> ?_)
  ·have hlt2:k<8:=by have:=of_decide_eq_true hlt2;simp only at this;omega
   refine lG.mk (by rw [IntWalk.i64_in _ (by simp only;omega)];simp only;omega) ?_
   refine qc (B:=w.heap.size) (sz:=1) (qU:=1) (m:=1) (n:=(nT ls i).length+k) rfl rfl rfl rfl rfl rfl (ho2.alloc _) (Row.alloc1 _ _ _) rfl (fun u hu=>by simp at hu;subst hu;rfl) (fun e=>by cases e) (by omega) (dN hB2.size (by simp)) (by unfold maxLen;omega) ?_
   intro o3 c3 w3 ho3 hB3 _
   refine qJ.mk ⟨_, ?_,(k+1,o3,c3),rfl, ?_, ?_⟩
   ·show 8 -(k+1)<8-k;omega
   ·exact⟨rfl,pY (by rw [IntWalk.i64_in _ (by simp only;omega)];simp only;omega),trivial⟩
   ·refine⟨hlt2,(qV hB2 (ay _) _).trans hB3, ?_⟩
    simp only [tX]
    rw [<-aO,oQ,zy]
    rw [Jl _ (7-k) (by omega) (by omega) _ (by rw [IntWalk.i64_in _ (by simp only;omega)];simp only;omega)]at ho3
    exact ho3
  ·have Fh : ¬k<8:=by have:=of_decide_eq_false Fh;simp only at this;omega
   obtain rfl:k=8:=by omega
   conv=>whnf
   have hr2:=hr1.below hB2
   refine qc (B:=w.heap.size) (sz:=1) (qU:=1) (m:=ls[i].length) (n:=(nT ls i).length+8) rfl rfl rfl rfl rfl rfl ho2 hr2 (by simp) (sK _) hn1 (by omega) hB2.size (by unfold maxLen;omega) ?_
   intro o3 c3 w3 ho3 hB3 _
   conv=>whnf
   have hfs:=uz ls i hlt
   have hfl:(nT ls i).length+8+ls[i].length=(nT ls (i+1)).length:=by rw [hfs];simp [sQ];omega
   refine qJ.mk ⟨_, ?_,(i+1,o3,c3),rfl, ?_, ?_⟩
   ·show ls.length -(i+1)<ls.length-i;omega
   ·exact⟨O7 hfl,pY (incr (by omega)),trivial⟩
   ·refine⟨hlt,hB2.trans hB3, ?_⟩
    rw [hfl, <-oQ,aO, <-hfs]at ho3
    exact ho3
 ·have hge : ¬i<ls.length:=by have:=of_decide_eq_false hge;omega
  obtain rfl:i=ls.length:=by simp only at hi;omega
  conv=>whnf
  have hfa:nT ls ls.length=frame ls:=by unfold nT;rw [bn]
  simp only [hfa]at ho
  exact rV.mk ⟨oo,cc,by simp only [hfa];rfl,ho,hB⟩
theorem YG (d:Int)(oa:Option Addr)(c:Nat)(vs:List Value)(ls:List (List UInt8))(w:World)(hlen:ls.length<=1099511627776)(hl:(frame ls).length<=140737488355328)(hr:Row w oa vs)(hf:YF w vs ls) :
  y8 Tryz.prog 69 #[.int .u64 d, .slice oa ls.length c] w fun v w'=>v = .int .u64 (Ae d 0 (frame ls))∧Below w.heap.size w w':=by
 refine ou func69 rfl mixed (by kernel_rfl) ?_
 refine pF (by kernel_rfl) (Uy oa c vs ls w hlen hl hr hf) ?_
 rintro _ w1 ⟨o1,c1,rfl,ho1,hB1⟩
 refine pF (by kernel_rfl) (ab5 d 0 o1 c1 (frame ls) w1 (by omega) ho1.row) ?_
 rintro _ w2 ⟨rfl,hB2⟩
 exact rV.mk ⟨rfl,hB1.trans (hB2.mono hB1.size)⟩
theorem uK (x k:Int)(n:Nat)(hk:k=n)(h0:0<n)(h1:n<64)(w:World) :
  y8 Tryz.prog 165 #[.int .u64 x, .int .u64 k] w fun v w'=>v = .int .u64 (GH x n)∧w'=w:=by
 subst hk
 have e3:IntKind.u64.wrap (64 -(n:Int))=64-n:=IntWalk.u64_in _ (by omega)
 refine ou func165 rfl mixed (by kernel_rfl) ?_
 refine lG.mk (by omega) ?_
 refine lG.mk (by rw [e3];omega) ?_
 refine rV.mk ⟨?_,rfl⟩
 show Value.int .u64 _=_
 rw [e3]
 unfold GH
 have e1:min (n:Int).toNat IntKind.u64.bits=n:=by simp [IntKind.bits];omega
 have e2:min (64 -(n:Int)).toNat IntKind.u64.bits=64-n:=by simp [IntKind.bits]
 rw [e1,e2]
theorem zA (n:Nat)(hn:n<100)(s:S4)(w:World) :
  y8 Tryz.prog 136 #[.agg s.cells.toArray, .int .i64 n] w fun v w'=> ∃t,t=s.rounds n∧v = .agg t.cells.toArray∧Below w.heap.size w w':=by
 refine ou func136 rfl mixed (by kernel_rfl) ?_
 conv=>whnf
 have hb0:=(qX.new w s.cells.toArray 179).alloc (.cells #[.int .u64 0, .int .u64 0, .int .u64 0, .int .u64 0] 179)
 have hr0:=qX.new (w.alloc (.cells s.cells.toArray 179)) #[.int .u64 0, .int .u64 0, .int .u64 0, .int .u64 0] 179
 have hB0:=qV (qV (Below.refl w.heap.size w) (ay _) (.cells s.cells.toArray 179)) (ay _) (.cells #[.int .u64 0, .int .u64 0, .int .u64 0, .int .u64 0] 179)
 refine qZ (X:=Nat) Yb (fun i=> [(5, .int .i64 i)]) (fun i w'=>i<=n∧Only w.heap.size _ w'∧qX w' w.heap.size (s.rounds i).cells 179) (fun i=>n-i) 0 (by kernel_rfl) ?_ ⟨aB _,Only.refl _ _,hb0⟩ ?_
 ·exact⟨rfl,trivial⟩
 rintro i w' j ⟨hi,ho,hb'⟩
 refine lD (fun hlt=> ?_) (fun hge=> ?_)
 ·have hlt:i<n:=by simpa using hlt
  conv=>whnf
  repeat (first|(refine lG.mk (by first|decide|omega) ?_;conv=>whnf)|(refine og.mk rfl ?_;conv=>whnf)|(refine nP.keep rfl ?_;conv=>whnf)|(refine mM rfl (by assumption) rfl ?_;conv=>whnf)|(refine mY rfl rfl rfl ?_;conv=>whnf)|(refine lZ (by assumption) rfl rfl rfl ?_;intro _ _ _;conv=>whnf))
  (refine pJ DW (by kernel_rfl) ?_;conv=>whnf)
  repeat (first|(refine lG.mk (by first|decide|omega) ?_;conv=>whnf)|(refine og.mk rfl ?_;conv=>whnf)|(refine nP.keep rfl ?_;conv=>whnf)|(refine mM rfl (by assumption) rfl ?_;conv=>whnf)|(refine mY rfl rfl rfl ?_;conv=>whnf)|(refine lZ (by assumption) rfl rfl rfl ?_;intro _ _ _;conv=>whnf))
  refine pF (by kernel_rfl) (uK _ _ 13 rfl (by decide) (by decide) _) ?_
  rintro _ _ ⟨rfl,rfl⟩
  conv=>whnf
  repeat (first|(refine lG.mk (by first|decide|omega) ?_;conv=>whnf)|(refine og.mk rfl ?_;conv=>whnf)|(refine nP.keep rfl ?_;conv=>whnf)|(refine mM rfl (by assumption) rfl ?_;conv=>whnf)|(refine mY rfl rfl rfl ?_;conv=>whnf)|(refine lZ (by assumption) rfl rfl rfl ?_;intro _ _ _;conv=>whnf))
  refine pF (by kernel_rfl) (uK _ _ 32 rfl (by decide) (by decide) _) ?_
  rintro _ _ ⟨rfl,rfl⟩
  conv=>whnf
  repeat (first|(refine lG.mk (by first|decide|omega) ?_;conv=>whnf)|(refine og.mk rfl ?_;conv=>whnf)|(refine nP.keep rfl ?_;conv=>whnf)|(refine mM rfl (by assumption) rfl ?_;conv=>whnf)|(refine mY rfl rfl rfl ?_;conv=>whnf)|(refine lZ (by assumption) rfl rfl rfl ?_;intro _ _ _;conv=>whnf))
  (refine pJ DW (by kernel_rfl) ?_;conv=>whnf)
  repeat (first|(refine lG.mk (by first|decide|omega) ?_;conv=>whnf)|(refine og.mk rfl ?_;conv=>whnf)|(refine nP.keep rfl ?_;conv=>whnf)|(refine mM rfl (by assumption) rfl ?_;conv=>whnf)|(refine mY rfl rfl rfl ?_;conv=>whnf)|(refine lZ (by assumption) rfl rfl rfl ?_;intro _ _ _;conv=>whnf))
  refine pF (by kernel_rfl) (uK _ _ 16 rfl (by decide) (by decide) _) ?_
  rintro _ _ ⟨rfl,rfl⟩
  conv=>whnf
  repeat (first|(refine lG.mk (by first|decide|omega) ?_;conv=>whnf)|(refine og.mk rfl ?_;conv=>whnf)|(refine nP.keep rfl ?_;conv=>whnf)|(refine mM rfl (by assumption) rfl ?_;conv=>whnf)|(refine mY rfl rfl rfl ?_;conv=>whnf)|(refine lZ (by assumption) rfl rfl rfl ?_;intro _ _ _;conv=>whnf))
  (refine pJ DW (by kernel_rfl) ?_;conv=>whnf)
  repeat (first|(refine lG.mk (by first|decide|omega) ?_;conv=>whnf)|(refine og.mk rfl ?_;conv=>whnf)|(refine nP.keep rfl ?_;conv=>whnf)|(refine mM rfl (by assumption) rfl ?_;conv=>whnf)|(refine mY rfl rfl rfl ?_;conv=>whnf)|(refine lZ (by assumption) rfl rfl rfl ?_;intro _ _ _;conv=>whnf))
  refine pF (by kernel_rfl) (uK _ _ 21 rfl (by decide) (by decide) _) ?_
  rintro _ _ ⟨rfl,rfl⟩
  conv=>whnf
  repeat (first|(refine lG.mk (by first|decide|omega) ?_;conv=>whnf)|(refine og.mk rfl ?_;conv=>whnf)|(refine nP.keep rfl ?_;conv=>whnf)|(refine mM rfl (by assumption) rfl ?_;conv=>whnf)|(refine mY rfl rfl rfl ?_;conv=>whnf)|(refine lZ (by assumption) rfl rfl rfl ?_;intro _ _ _;conv=>whnf))
  (refine pJ DW (by kernel_rfl) ?_;conv=>whnf)
  repeat (first|(refine lG.mk (by first|decide|omega) ?_;conv=>whnf)|(refine og.mk rfl ?_;conv=>whnf)|(refine nP.keep rfl ?_;conv=>whnf)|(refine mM rfl (by assumption) rfl ?_;conv=>whnf)|(refine mY rfl rfl rfl ?_;conv=>whnf)|(refine lZ (by assumption) rfl rfl rfl ?_;intro _ _ _;conv=>whnf))
  refine pF (by kernel_rfl) (uK _ _ 17 rfl (by decide) (by decide) _) ?_
  rintro _ _ ⟨rfl,rfl⟩
  conv=>whnf
  repeat (first|(refine lG.mk (by first|decide|omega) ?_;conv=>whnf)|(refine og.mk rfl ?_;conv=>whnf)|(refine nP.keep rfl ?_;conv=>whnf)|(refine mM rfl (by assumption) rfl ?_;conv=>whnf)|(refine mY rfl rfl rfl ?_;conv=>whnf)|(refine lZ (by assumption) rfl rfl rfl ?_;intro _ _ _;conv=>whnf))
  refine pF (by kernel_rfl) (uK _ _ 32 rfl (by decide) (by decide) _) ?_
  rintro _ _ ⟨rfl,rfl⟩
  conv=>whnf
  repeat (first|(refine lG.mk (by first|decide|omega) ?_;conv=>whnf)|(refine og.mk rfl ?_;conv=>whnf)|(refine nP.keep rfl ?_;conv=>whnf)|(refine mM rfl (by assumption) rfl ?_;conv=>whnf)|(refine mY rfl rfl rfl ?_;conv=>whnf)|(refine lZ (by assumption) rfl rfl rfl ?_;intro _ _ _;conv=>whnf))
  refine qJ.mk ⟨_, ?_,i+1,rfl, ?_, ?_⟩
  ·show n -(i+1)<n-i;omega
  ·exact⟨pY (incr (by omega)),trivial⟩
  ·refine⟨hlt, ?_, ?_⟩
   ·(repeat (first|assumption|exact Only.refl _ _|refine Only.step (by assumption) ?_|refine Only.aaA (by assumption) ?_))
   ·assumption
 ·have hge : ¬i<n:=by simpa using hge
  obtain rfl:i=n:=by omega
  refine wC rfl rfl hb' ?_
  conv=>whnf
  have hr1:=qX.only hr0 ho (by rw [World.size_alloc];omega)
  refine uH (o:=0) (vs:=(s.rounds i).cells) hr1 rfl rfl rfl ?_
  intro w2 o2 hb2
  refine wC rfl rfl hb2 ?_
  refine og.mk rfl ?_
  refine rV.mk ⟨_,rfl,rfl, ?_⟩
  exact(hB0.trans (ho.below (ay _))).trans (o2.below (by rw [World.size_alloc];omega))
theorem Jm (a b:Int):Rl a b=((BitVec.ofInt 64 a ||| BitVec.ofInt 64 b).toNat:Int):=by
 unfold Rl mD
 show IntKind.u64.wrap ((BitVec.ofInt 64 a ||| BitVec.ofInt 64 b).toNat:Int)=_
 have:=(BitVec.ofInt 64 a ||| BitVec.ofInt 64 b).isLt
 exact IntWalk.u64_in _ (by omega)
theorem HY (a b:Int):BitVec.ofInt 64 (Rl a b)=BitVec.ofInt 64 a ||| BitVec.ofInt 64 b:=by
 rw [Jm]
 apply jE
 rw [jR]
 have:=(BitVec.ofInt 64 a ||| BitVec.ofInt 64 b).isLt
 generalize (BitVec.ofInt 64 a ||| BitVec.ofInt 64 b).toNat=n at *
 omega
theorem H6 (n:Int):IntKind.u64.wrap n=n%18446744073709551616:=by
 simp [IntKind.wrap,IntKind.bits,IntKind.signed]
theorem YH (a b c:Int):Rl (Rl a b) c=Rl (Rl a c) b:=by
 rw [Jm (Rl a b),Jm (Rl a c),HY,HY,BitVec.or_assoc,BitVec.or_assoc,BitVec.or_comm (BitVec.ofInt 64 b)]
theorem Uz (c:Int)(h:0<=c∧c<=18446744073709551615):Rl 0 c=c:=by
 rw [Jm]
 simp [jR]
 omega
theorem YI (l:List UInt8)(k:Nat):lastTo l k=Rl (ug (l.drop (l.length-l.length%8)) k) (IntKind.u64.wrap (IntKind.u64.wrap l.length*2^56)):=by
 induction k with
 | zero=>
  simp only [lastTo,ug]
  rw [Uz]
  rw [H6]
  omega
 | succ k ih=>
  simp only [lastTo,ug,ih]
  rw [YH]
  congr 2
  simp [aW,cZ]
theorem YJ (n:Nat):IntKind.u64.wrap (IntKind.u64.wrap (n:Int)*2^56) =
  IntKind.u64.wrap (IntKind.u64.wrap (Int.tmod (n:Int) 256)*2^min (Int.toNat 56) IntKind.u64.bits):=by
 have e:min (Int.toNat 56) IntKind.u64.bits=56:=by decide
 have e2:Int.tmod (n:Int) 256=((n%256:Nat):Int):=rfl
 rw [e,e2]
 simp only [H6]
 omega
theorem YK (k0 k1:Int)(oa:Option Addr)(c:Nat)(l:List UInt8)(w:World)(hl:l.length<4611686018427387904)(hr:Row w oa (nR l)) :
  y8 Tryz.prog 104 #[.int .u64 k0, .int .u64 k1, .slice oa l.length c] w fun v w'=>v = .int .u64 (Ae k0 k1 l)∧Below w.heap.size w w':=by
 refine ou func104 rfl mixed (by kernel_rfl) ?_
 refine uH (qX.new _ _ _) rfl rfl rfl ?_
 intro w1 o1 hb1
 have hB1:Below w.heap.size w w1:=((Below.refl _ _).alloc (ay _) _).trans (o1.below (ay _))
 refine qZ (X:=Nat) XU (fun i=> [(8, .int .i64 i)])
  (fun i w'=>i<=l.length/8+1∧Below w.heap.size w w'∧∃t,t=(if i<=l.length/8 then S4.upto k0 k1 l i else(S4.upto k0 k1 l (l.length/8)).word (lastTo l (l.length%8)))∧qX w' w.heap.size t.cells 179) (fun i=>l.length/8+1-i) 0 (by kernel_rfl)
  ?_ ⟨aB _,hB1,S4.init k0 k1,(by rw [if_pos (aB _)];rfl),hb1⟩ ?_
 ·exact⟨rfl,trivial⟩
 rintro i w2 j ⟨hi,hB2,t,ht,hb2⟩
 refine lG.mk (by decide) ?_
 conv=>whnf
 have eq8:IntKind.i64.wrap (Int.tdiv (l.length:Int) 8)=((l.length/8:Nat):Int):=by
  rw [show Int.tdiv (l.length:Int) 8=((l.length/8:Nat):Int)from rfl,IntWalk.i64_in _ (by omega)]
 refine lD (fun hlt=> ?_) (fun hge=> ?_)
 ·have hlt:i<=l.length/8:=by rw [eq8]at hlt;have:=of_decide_eq_true hlt;omega
  rw [if_pos hlt]at ht
  obtain⟨e,he⟩ : ∃e,e=min 8 (l.length-8*i):=⟨_,rfl⟩
  refine qZ (X:=Nat) XV (fun k=> [(9, .int .u64 (ug (l.drop (8*i)) k)),(10, .int .i64 k)]) (fun k w'=>k<=e∧w'=w2) (fun k=>e-k) 0 (by kernel_rfl) ?_ ⟨by omega,rfl⟩ ?_
  ·exact⟨rfl,rfl,trivial⟩
  rintro k _ j2 ⟨hk,rfl⟩
  have e1:IntKind.i64.wrap (IntKind.i64.wrap (8*(i:Int))+k)=((8*i+k:Nat):Int):=by
   rw [IntWalk.i64_in (8*(i:Int)) (by omega),IntWalk.i64_in _ (by omega)];omega
  have e8k:IntKind.i64.wrap (8*(k:Int))=((8*k:Nat):Int):=by rw [IntWalk.i64_in _ (by omega)];omega
  by_cases hke:k<e
  ·obtain⟨b,o,rfl,hbl,hc⟩:=hr.get (by simp;omega)
   refine lD (fun h1=> ?_) (fun h1=>absurd h1 (by simp;omega))
   refine lD (fun h2=> ?_) (fun h2=>absurd h2 (by rw [e1];simp;omega))
   refine y9 (8*i+k) rfl rfl e1 (by omega) ?_
   refine oG rfl (by rw [hB2.cell (p:=⟨b,o+(8*i+k),none⟩) hbl];exact hc _ _ (uI (by omega))) ?_
   refine lG.mk (by rw [e8k,IntWalk.u64_in _ (by omega)];omega) ?_
   refine qJ.mk ⟨_, ?_,k+1,rfl, ?_, ?_⟩
   ·show e -(k+1)<e-k;omega
   ·refine⟨pY ?_,pY (incr (by omega)),trivial⟩
    rw [Jk _ k (by omega) _ (by rw [e8k,IntWalk.u64_in _ (by omega)]), <-getD_drop l (8*i) k (by omega)]
    rfl
   ·exact⟨hke,rfl⟩
  ·obtain rfl:k=e:=by omega
   have hwk:ug (l.drop (8*i)) k=ug (l.drop (8*i)) k:=rfl
   by_cases hk8:k=8
   ·refine lD (fun h1=>absurd h1 (by simp;omega)) (fun h1=> ?_)
    refine lG.mk (by decide) ?_
    refine lD (fun h3=>absurd h3 (by rw [eq8];simp;omega)) (fun h3=> ?_)
    conv=>whnf
    repeat (first|(refine lG.mk (by first|decide|omega) ?_;conv=>whnf)|(refine og.mk rfl ?_;conv=>whnf)|(refine nP.keep rfl ?_;conv=>whnf)|(refine mM rfl (by assumption) rfl ?_;conv=>whnf)|(refine mY rfl rfl rfl ?_;conv=>whnf)|(refine lZ (by assumption) rfl rfl rfl ?_;intro _ _ _;conv=>whnf))
    rename_i w3 o3 hb3
    refine wC rfl rfl hb3 ?_
    refine pF (by kernel_rfl) (zA 2 (by decide) ⟨t.a,t.b,t.c,xor t.d (ug (l.drop (8*i)) k)⟩ _) ?_
    rintro _ w4 ⟨t4,ht4,rfl,hB4⟩
    conv=>whnf
    have hb4:=hb3.below hB4 hb3.lt
    refine uH (o:=0) (vs:=t4.cells) hb4 rfl rfl rfl ?_
    intro w5 o5 hb5
    conv=>whnf
    repeat (first|(refine lG.mk (by first|decide|omega) ?_;conv=>whnf)|(refine og.mk rfl ?_;conv=>whnf)|(refine nP.keep rfl ?_;conv=>whnf)|(refine mM rfl (by assumption) rfl ?_;conv=>whnf)|(refine mY rfl rfl rfl ?_;conv=>whnf)|(refine lZ (by assumption) rfl rfl rfl ?_;intro _ _ _;conv=>whnf))
    rename_i w6 o6 hb6
    have hBB:=(hB2.trans (o3.below (ay _))).trans ((hB4.mono (jy hb3.lt)).trans ((o5.trans o6).below (ay _)))
    refine qJ.mk ⟨_, ?_,i+1,rfl, ?_, ?_⟩
    ·show l.length/8+1 -(i+1)<l.length/8+1-i;omega
    ·exact⟨pY (incr (by omega)),trivial⟩
    ·refine⟨by omega,hBB,⟨_,t4.b,t4.c,t4.d⟩, ?_,hb6⟩
     rw [if_pos (by omega)]
     rw [hk8]at ht4
     simp only [S4.upto,S4.word, <-ht]
     rw [<-ht4,hk8]
     rfl
   ·refine lD (fun h1=> ?_) (fun h1=>absurd h1 (by simp;omega))
    refine lD (fun h2=>absurd h2 (by rw [e1];simp;omega)) (fun h2=> ?_)
    refine lG.mk (by decide) ?_
    refine lD (fun h3=> ?_) (fun h3=>absurd h3 (by rw [eq8];simp;omega))
    conv=>whnf
    repeat (refine lG.mk (by decide) ?_;conv=>whnf)
    repeat (first|(refine lG.mk (by first|decide|omega) ?_;conv=>whnf)|(refine og.mk rfl ?_;conv=>whnf)|(refine nP.keep rfl ?_;conv=>whnf)|(refine mM rfl (by assumption) rfl ?_;conv=>whnf)|(refine mY rfl rfl rfl ?_;conv=>whnf)|(refine lZ (by assumption) rfl rfl rfl ?_;intro _ _ _;conv=>whnf))
    rename_i w3 o3 hb3
    refine wC rfl rfl hb3 ?_
    refine pF (by kernel_rfl) (zA 2 (by decide) ⟨t.a,t.b,t.c,xor t.d (mD .or .u64 (ug (l.drop (8*i)) k) (IntKind.u64.wrap (IntKind.u64.wrap (Int.tmod (l.length:Int) 256)*2^min (Int.toNat 56) IntKind.u64.bits)))⟩ _) ?_
    rintro _ w4 ⟨t4,ht4,rfl,hB4⟩
    conv=>whnf
    have hb4:=hb3.below hB4 hb3.lt
    refine uH (o:=0) (vs:=t4.cells) hb4 rfl rfl rfl ?_
    intro w5 o5 hb5
    conv=>whnf
    repeat (first|(refine lG.mk (by first|decide|omega) ?_;conv=>whnf)|(refine og.mk rfl ?_;conv=>whnf)|(refine nP.keep rfl ?_;conv=>whnf)|(refine mM rfl (by assumption) rfl ?_;conv=>whnf)|(refine mY rfl rfl rfl ?_;conv=>whnf)|(refine lZ (by assumption) rfl rfl rfl ?_;intro _ _ _;conv=>whnf))
    rename_i w6 o6 hb6
    have hBB:=(hB2.trans (o3.below (ay _))).trans ((hB4.mono (jy hb3.lt)).trans ((o5.trans o6).below (ay _)))
    refine qJ.mk ⟨_, ?_,i+1,rfl, ?_, ?_⟩
    ·show l.length/8+1 -(i+1)<l.length/8+1-i;omega
    ·exact⟨pY (incr (by omega)),trivial⟩
    ·refine⟨by omega,hBB,⟨_,t4.b,t4.c,t4.d⟩, ?_,hb6⟩
     have hiq:i=l.length/8:=by omega
     rw [if_neg (by omega), <-hiq, <-ht]
     have hm:lastTo l (l.length%8)=mD .or .u64 (ug (l.drop (8*i)) k) (IntKind.u64.wrap (IntKind.u64.wrap (Int.tmod (l.length:Int) 256)*2^min (Int.toNat 56) IntKind.u64.bits)):=by
      rw [YI,YJ,show l.length-l.length%8=8*i by omega,show l.length%8=k by omega]
      rfl
     rw [hm]
     simp only [S4.word]
     rw [<-ht4]
     rfl
 ·have hge : ¬i<=l.length/8:=by rw [eq8]at hge;have:=of_decide_eq_false hge;omega
  rw [if_neg hge]at ht
  conv=>whnf
  repeat (first|(refine lG.mk (by first|decide|omega) ?_;conv=>whnf)|(refine og.mk rfl ?_;conv=>whnf)|(refine nP.keep rfl ?_;conv=>whnf)|(refine mM rfl (by assumption) rfl ?_;conv=>whnf)|(refine mY rfl rfl rfl ?_;conv=>whnf)|(refine lZ (by assumption) rfl rfl rfl ?_;intro _ _ _;conv=>whnf))
  rename_i w4 o4 hb4
  refine wC rfl rfl hb4 ?_
  refine pF (by kernel_rfl) (zA 4 (by decide) ⟨t.a,t.b,xor t.c 255,t.d⟩ _) ?_
  rintro _ w5 ⟨t5,ht5,rfl,hB5⟩
  conv=>whnf
  have hb5:=hb4.below hB5 hb4.lt
  refine uH (o:=0) (vs:=t5.cells) hb5 rfl rfl rfl ?_
  intro w6 o6 hb6
  conv=>whnf
  repeat (first|(refine lG.mk (by first|decide|omega) ?_;conv=>whnf)|(refine og.mk rfl ?_;conv=>whnf)|(refine nP.keep rfl ?_;conv=>whnf)|(refine mM rfl (by assumption) rfl ?_;conv=>whnf)|(refine mY rfl rfl rfl ?_;conv=>whnf)|(refine lZ (by assumption) rfl rfl rfl ?_;intro _ _ _;conv=>whnf))
  refine rV.mk ⟨?_,(hB2.trans (o4.below (ay _))).trans ((hB5.mono (jy hb4.lt)).trans (o6.below (ay _)))⟩
  have:Ae k0 k1 l=xor (xor (xor t5.a t5.b) t5.c) t5.d:=by
   unfold Ae S4.done
   rw [<-ht, <-ht5]
  rw [this]
  rfl
theorem Ro (oa:Option Addr)(c:Nat)(vs:List Value)(ls:List (List UInt8))(w:World)(hlen:ls.length<=1099511627776)(hl:(frame ls).length<=140737488355328)(hr:Row w oa vs)(hf:YF w vs ls) :
  y8 Tryz.prog 105 #[.slice oa ls.length c] w fun v w'=> ∃oW c',v = .slice oW (frame ls).length c'∧Own w' w.heap.size 5 1 oW (frame ls).length c' (nR (frame ls))∧Below w.heap.size w w':=by
 refine ou func105 rfl mixed (by kernel_rfl) ?_
 refine qZ (X:=Nat×Option Addr×Nat) XW (fun x=> [(3, .slice x.2.1 (nT ls x.1).length x.2.2),(4, .int .i64 x.1)]) (fun x w'=>x.1<=ls.length∧Below w.heap.size w w'∧Own w' w.heap.size 5 1 x.2.1 (nT ls x.1).length x.2.2 (nR (nT ls x.1))) (fun x=>ls.length-x.1) (0,none,0) (by kernel_rfl)
  ?_ ⟨aB _,Below.refl _ _,Own.nil _ _ _ _⟩ ?_
 ·exact⟨rfl,rfl,trivial⟩
 rintro⟨i,oo,cc⟩ w1 j ⟨hi,hB,ho⟩
 refine lD (fun hlt=> ?_) (fun hge=> ?_)
 ·have hlt:i<ls.length:=by have:=of_decide_eq_true hlt;omega
  obtain⟨b,o,rfl,hbl,hc⟩:=hr.get (by rw [hf.1];omega)
  obtain⟨oa1,c1,hv,hc1,hn1,hr1⟩:=hf.2 i hlt
  have hr1':=hr1.below hB
  have hL1:=yX ls (i+1)
  rw [uz ls i hlt]at hL1
  simp only [ak,sQ]at hL1
  refine y9 i rfl rfl rfl hlt ?_
  refine oG rfl (by rw [hB.cell (p:=⟨b,o+i,none⟩) hbl];exact hc _ _ hv) ?_
  refine qZ (X:=Nat×Option Addr×Nat) XY (fun x=> [(3, .slice x.2.1 ((nT ls i).length+x.1) x.2.2),(6, .int .i64 (56-8*(x.1:Int)))]) (fun x w'=>x.1<=8∧Below w.heap.size w w'∧Own w' w.heap.size 5 1 x.2.1 ((nT ls i).length+x.1) x.2.2 (nR (nT ls i++tX ls[i].length x.1))) (fun x=>8-x.1) (0,oo,cc) (by kernel_rfl)
   ?_ ⟨aB _,hB,by simpa [tX]using ho⟩ ?_
  ·exact⟨rfl,rfl,trivial⟩
  rintro⟨k,o2,c2⟩ w2 j2 ⟨hk,hB2,ho2⟩
  simp only at hk ho2
  refine lD (fun hlt2=> ?_) (fun Fh=> ?_)
  ·have hlt2:k<8:=by have:=of_decide_eq_true hlt2;simp only at this;omega
   refine lG.mk (by rw [IntWalk.u64_in _ (by simp only;omega)];simp only;omega) ?_
   refine qc (B:=w.heap.size) (sz:=1) (qU:=1) (m:=1) (n:=(nT ls i).length+k) rfl rfl rfl rfl rfl rfl (ho2.alloc _) (Row.alloc1 _ _ _) rfl (fun u hu=>by simp at hu;subst hu;rfl) (fun e=>by cases e) (by omega) (dN hB2.size (by simp)) (by unfold maxLen;omega) ?_
   intro o3 c3 w3 ho3 hB3 _
   refine qJ.mk ⟨_, ?_,(k+1,o3,c3),rfl, ?_, ?_⟩
   ·show 8 -(k+1)<8-k;omega
   ·exact⟨rfl,pY (by rw [IntWalk.i64_in _ (by simp only;omega)];simp only;omega),trivial⟩
   ·refine⟨hlt2,(qV hB2 (ay _) _).trans hB3, ?_⟩
    simp only [tX]
    rw [<-aO,oQ,zy]
    rw [Jl _ (7-k) (by omega) (by omega) _ (by rw [IntWalk.u64_in _ (by simp only;omega)];simp only;omega)]at ho3
    exact ho3
  ·have Fh : ¬k<8:=by have:=of_decide_eq_false Fh;simp only at this;omega
   obtain rfl:k=8:=by omega
   conv=>whnf
   have hr2:=hr1.below hB2
   refine y9 i rfl rfl rfl hlt ?_
   refine oG rfl (by rw [hB2.cell (p:=⟨b,o+i,none⟩) hbl];exact hc _ _ hv) ?_
   refine qc (B:=w.heap.size) (sz:=1) (qU:=1) (m:=ls[i].length) (n:=(nT ls i).length+8) rfl rfl rfl rfl rfl rfl ho2 hr2 (by simp) (sK _) hn1 (by omega) hB2.size (by unfold maxLen;omega) ?_
   intro o3 c3 w3 ho3 hB3 _
   conv=>whnf
   have hfs:=uz ls i hlt
   have hfl:(nT ls i).length+8+ls[i].length=(nT ls (i+1)).length:=by rw [hfs];simp [sQ];omega
   refine qJ.mk ⟨_, ?_,(i+1,o3,c3),rfl, ?_, ?_⟩
   ·show ls.length -(i+1)<ls.length-i;omega
   ·exact⟨O7 hfl,pY (incr (by omega)),trivial⟩
   ·refine⟨hlt,hB2.trans hB3, ?_⟩
    rw [hfl, <-oQ,aO, <-hfs]at ho3
    exact ho3
 ·have hge : ¬i<ls.length:=by have:=of_decide_eq_false hge;omega
  obtain rfl:i=ls.length:=by simp only at hi;omega
  conv=>whnf
  have hfa:nT ls ls.length=frame ls:=by unfold nT;rw [bn]
  simp only [hfa]at ho
  exact rV.mk ⟨oo,cc,by simp only [hfa];rfl,ho,hB⟩
theorem UA (d:Int)(oa:Option Addr)(c:Nat)(vs:List Value)(ls:List (List UInt8))(w:World)(hlen:ls.length<=1099511627776)(hl:(frame ls).length<=140737488355328)(hr:Row w oa vs)(hf:YF w vs ls) :
  y8 Tryz.prog 71 #[.int .u64 d, .slice oa ls.length c] w fun v w'=>v = .int .u64 (Ae d 0 (frame ls))∧Below w.heap.size w w':=by
 refine ou func71 rfl mixed (by kernel_rfl) ?_
 refine pF (by kernel_rfl) (Ro oa c vs ls w hlen hl hr hf) ?_
 rintro _ w1 ⟨o1,c1,rfl,ho1,hB1⟩
 refine pF (by kernel_rfl) (YK d 0 o1 c1 (frame ls) w1 (by omega) ho1.row) ?_
 rintro _ w2 ⟨rfl,hB2⟩
 exact rV.mk ⟨rfl,hB1.trans (hB2.mono hB1.size)⟩
end Go.Proofs.YtocckceefcmeaaaGreatDoor.Dg
namespace Go.Proofs.YtocckceefcmeaaaGreatDoor.Vc
open RowKit Vc Dg Go.Proofs.Tryz
attribute [local irreducible] loadVar storeVar Instr.indexAt Instr.index Instr.sliceAt Instr.makeSlice Instr.lookup Instr.mapUpdate Instr.range Instr.next Instr.entry Instr.makeMap Builtin.append_ Builtin.copy_ Builtin.len_ Builtin.min_ Builtin.max_ Builtin.cap_ Builtin.delete_ Builtin.clear_ convert binOp eqGuard Op.unary Calls
theorem LD {P:Program}{w:World}{K:Value->World->Prop}{t E:TypeId}{sz n b:Nat}(ht:P.underlying t=some (.array n E))(hs:szB P E=some sz)(k:K (.slice (some ⟨b,0,none⟩) n n) w) :
  nJ P (Instr.sliceAt t (.pointer (some ⟨b,0,none⟩)) none none none) w K:=by
 refine oP ?_ k
 unfold Instr.sliceAt
 rw [Sem.run_bind,lT ht]
 simp only [Result.andThen_ok,Instr.sureAddr,Sem.run_bind,Sem.run_pure,Instr.sliceBounds,qB hs]
 by_cases h0:n=0<;>simp [h0,add0]
theorem ab6 (oa yc:Option Addr)(n c m c2:Nat)(b d:List UInt8)(w:World)(hn:n=b.length)(hm:m=d.length)(hl:b.length+d.length<=2000000)(hc:n<=c)(hnil:oa=none->c=0)(hnil2:yc=none->c2=0)(hr:Row w oa (nR b))(hr2:Row w yc (nR d)) :
  y8 Tryz.prog 65 #[.slice oa n c, .slice yc m c2] w fun v w'=> ∃oW c',v = .slice oW (n+m) c'∧Own w' w.heap.size 5 1 oW (n+m) c' (nR (b++d))∧Below w.heap.size w w':=by
 refine ou func65 rfl mixed (by kernel_rfl) ?_
 have e0:IntKind.i64.wrap ((n:Int)+(m:Int))=((n+m:Nat):Int):=by rw [IntWalk.i64_in _ (by omega)];omega
 have lb : ∀l:List UInt8,(nR l).length=l.length:=fun l=>by simp [nR]
 conv=>whnf
 rw [e0]
 refine Ax.La (n:=0) (m:=n+m) (sz:=1) (qU:=1) rfl rfl rfl rfl rfl rfl (aB _) (by omega) (by unfold maxLen;omega) ?_
 intro w1 hw1 hb1
 have hB1:Below w.heap.size w w1:=by rw [hw1];exact qV (Below.refl _ _) (ay _) _
 have hO1:Own w1 w.heap.size 5 1 (some ⟨w.heap.size,0,none⟩) 0 (n+m) []:=Own.Et hb1 (ay _) (aB _) (by unfold maxLen;omega) (by simp [Value.cells]) (by simp)
 refine qc (B:=w.heap.size) (sz:=1) (qU:=1) (m:=n) (n:=0) rfl rfl rfl rfl rfl rfl hO1 (hr.below hB1) (by rw [lb];omega) (sK _) hnil (by omega) hB1.size (by unfold maxLen;omega) ?_
 intro o2 c2' w2 hO2 hB2 _
 refine qc (B:=w.heap.size) (sz:=1) (qU:=1) (m:=m) (n:=0+n) rfl rfl rfl rfl rfl rfl hO2 (hr2.below (hB1.trans hB2)) (by rw [lb];omega) (sK _) hnil2 (by omega) (dN hB1.size hB2.size) (by unfold maxLen;omega) ?_
 intro o3 c3' w3 hO3 hB3 _
 have hB:=(hB1.trans hB2).trans hB3
 rw [aS,bI, <-oQ]at hO3
 clear hO1 hO2 hB1 hB2 hB3
 rw [aS]
 exact rV.mk ⟨o3,c3',rfl,hO3,hB⟩
def Rq (x i:Nat):List Value:=(List.range 8).map fun j=>if j<i then .int .u8 ((wZ x (7-j)).toNat:Int)else .int .u8 0
theorem UC (x i:Nat):(Rq x i).set i (.int .u8 ((wZ x (7-i)).toNat:Int))=Rq x (i+1):=by
 unfold Rq
 apply jG
 ·simp
 ·intro k h1 h2
  simp only [List.getElem_set,kD,jm]
  by_cases hk:i=k
  ·subst hk;simp
  ·rw [if_neg hk]
   by_cases hki:k<i
   ·rw [if_pos hki,if_pos (by omega)]
   ·rw [if_neg hki,if_neg (by omega)]
theorem UD (x:Nat):Rq x 8=nR (tX x 8):=rfl
theorem Ot (oa:Option Addr)(n c:Nat)(b:List UInt8)(x:Nat)(w:World)(hn:n=b.length)(hl:b.length<=1000000)(hc:n<=c)(hnil:oa=none->c=0)(hx:x<18446744073709551616)(hr:Row w oa (nR b)) :
  y8 Tryz.prog 68 #[.slice oa n c, .int .u64 x] w fun v w'=> ∃oW c',v = .slice oW (n+8) c'∧Own w' w.heap.size 5 1 oW (n+8) c' (nR (b++tX x 8))∧Below w.heap.size w w':=by
 refine ou func68 rfl mixed (by kernel_rfl) ?_
 refine qZ (X:=Nat) abT (fun i=> [(7, .int .i64 i)]) (fun i w'=>i<=8∧Below w.heap.size w w'∧qX w' w.heap.size (Rq x i) 137) (fun i=>8-i) 0 (by kernel_rfl) ?_ ⟨by decide,qV (Below.refl _ _) (ay _) _,qX.new w _ _⟩ ?_
 ·exact⟨rfl,trivial⟩
 rintro i w2 j ⟨hi,hB2,hb2⟩
 refine lD (fun hlt=> ?_) (fun hge=> ?_)
 ·have hlt:i<8:=by have:=of_decide_eq_true hlt;omega
  have e1:IntKind.i64.wrap (8*(i:Int))=((8*i:Nat):Int):=by rw [IntWalk.i64_in _ (by omega)];omega
  have e2:IntKind.i64.wrap (56-IntKind.i64.wrap (8*(i:Int)))=((8*(7-i):Nat):Int):=by rw [e1,IntWalk.i64_in _ (by omega)];omega
  refine lG.mk (by rw [e2];omega) ?_
  refine DC i rfl rfl rfl hlt ?_
  refine Bq hb2 rfl rfl (by simp [Rq];omega) ?_
  intro w3 o3 hb3
  refine qJ.mk ⟨_, ?_,i+1,rfl, ?_, ?_⟩
  ·show 8 -(i+1)<8-i;omega
  ·exact⟨pY (incr (by omega)),trivial⟩
  ·refine⟨hlt,hB2.trans (o3.below (ay _)), ?_⟩
   rw [e2]at hb3
   have:=Jl x (7-i) (by omega) hx _ (rfl:((8*(7-i):Nat):Int)=_)
   rw [IntWalk.u64_in _ (by omega)]at this
   rw [aS,this,UC x i]at hb3
   exact hb3
 ·have hge : ¬i<8:=by have:=of_decide_eq_false hge;omega
  obtain rfl:i=8:=by omega
  rw [UD]at hb2
  refine LD (E:=5) (n:=8) rfl rfl ?_
  refine pF (by kernel_rfl) (ab6 oa (some ⟨w.heap.size,0,none⟩) n c 8 8 b (tX x 8) w2 hn (sQ _ _).symm (by rw [sQ];omega) hc hnil (fun e=>by cases e) (hr.below hB2) hb2.row) ?_
  rintro _ w3 ⟨o3,c3,rfl,hO3,hB3⟩
  have hB:=hB2.trans (hB3.mono hB2.size)
  have hO:Own w3 w.heap.size 5 1 o3 (n+8) c3 (nR (b++tX x 8)):=⟨hO3.1,hO3.2.imp id fun⟨g,cap,cur,h1,h0,h2⟩=>⟨g,cap,cur,h1,dN hB2.size h0,h2⟩⟩
  clear hO3 hB3
  exact rV.mk ⟨o3,c3,rfl,hO,hB⟩
theorem Own.cut {w:World}{B:Nat}{E:TypeId}{sz:Nat}{oa:Option Addr}{n c h:Nat}{xs:List Value}(hO:Own w B E sz oa n c xs)(hh:h<=n):Own w B E sz oa h c (xs.take (h*sz)):=by
 have hl:=hO.1
 have hm:h*sz<=n*sz:=aU _ hh
 refine⟨by rw [aK];omega, ?_⟩
 rcases hO.2 with ⟨hv,hn⟩|⟨g,cap,cur,hv,hg,hb,h1,h2,h3,h4⟩
 ·injection hv with e1 e2 e3
  subst e1;subst e3
  exact .inl ⟨by rw [show h=0 by omega],by omega⟩
 ·injection hv with e1 e2 e3
  subst e1;subst e3
  exact .inr ⟨g,c,cur,rfl,hg,hb,by omega,h2,h3,by rw [<-h4,kX,dG hm]⟩
theorem YL {w:World}{B:Nat}{E:TypeId}{sz:Nat}{oa:Option Addr}{n c:Nat}{xs:List Value}(hO:Own w B E sz oa n c xs):n<=c:=by
 rcases hO.2 with ⟨hv,hn⟩|⟨g,cap,cur,hv,hg,hb,h1,_⟩
 ·omega
 ·injection hv with _ _ e3
  omega
end Go.Proofs.YtocckceefcmeaaaGreatDoor.Vc
