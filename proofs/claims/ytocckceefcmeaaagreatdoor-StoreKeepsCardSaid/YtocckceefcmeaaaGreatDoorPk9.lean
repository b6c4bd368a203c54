/- Joined parts of the proof. The orders in which the reckoner walks the regions that draw theirs: printed by a program of ours, each is checked where -/
import Derived.Test.YtocckceefcmeaaaGreatDoorPk2
import Derived.Test.YtocckceefcmeaaaGreatDoorProg
import Derived.KernelRfl
import Derived.IntWalk
import Derived.Test.YtocckceefcmeaaaGreatDoorPk8
import Derived.Lib.AppendZeros
set_option linter.unusedVariables false
set_option linter.unusedSimpArgs false
set_option maxRecDepth 100000
set_option maxHeartbeats 16000000
namespace Go.Proofs.YtocckceefcmeaaaGreatDoor.Vc
def abE:List (Nat×Nat):= [(4,4),(7,10),(23,104)]
def adJ (id:Nat):Plan:=
 match id with
 | 12=>(.take 0 (.take 1 (.take 2 (.take 3 (.take 4 (.take 5 (.two 6 (.two 7 (.take 8 (.take 9 (.take 10 (.one 11 (.one 12 (.take 13 .done)))))) 11 (.one 7 (.take 8 (.take 9 (.take 10 (.one 12 (.take 13 .done))))))) 11 (.one 6 (.one 7 (.take 8 (.take 9 (.take 10 (.one 12 (.take 13 .done))))))))))))))
 | _=> .done
def Y0:List (Nat×Nat):= [(10,12),(47,67)]
def abG (id:Nat):Plan:=
 match id with
 | 13=>(.take 0 (.take 1 (.take 2 (.take 3 (.take 4 (.take 5 (.take 6 (.take 7 (.take 8 (.one 9 (.one 10 (.post 11 (.take 12 .done)))))))))))))
 | _=> .done
def Y1:List (Nat×Nat):= [(2,5),(7,7),(9,9),(26,37)]
def abH (id:Nat):Plan:=
 match id with
 | 18=>(.take 0 (.take 1 (.take 2 (.take 3 (.take 4 (.take 5 (.take 6 (.take 7 (.take 8 .done)))))))))
 | _=> .done
def Y2:List (Nat×Nat):= [(2,25)]
def Y3:List (Nat×Nat):= [(6,6),(15,40)]
def Y4:List (Nat×Nat):= [(4,5),(11,25)]
def abI (id:Nat):Plan:=
 match id with
 | 6=>(.take 0 (.take 1 (.take 2 (.take 3 (.take 4 (.take 5 (.take 6 (.take 7 (.take 8 .done)))))))))
 | _=> .done
def X5 (id:Nat):Plan:=
 match id with
 | 3=>(.take 0 (.take 1 (.take 2 (.take 3 (.take 4 (.take 5 (.take 6 (.take 7 (.take 8 (.take 9 (.take 10 (.take 11 (.take 12 (.take 13 (.take 14 (.take 15 (.take 16 (.take 17 (.take 18 (.take 19 (.take 20 (.take 21 (.take 22 (.take 23 (.take 24 (.take 25 (.take 26 (.take 27 (.take 28 (.take 29 (.take 30 (.take 31 (.take 32 (.take 33 (.take 34 (.take 35 (.take 36 (.take 37 (.take 38 (.take 39 (.take 40 (.one 41 (.post 42 .done)))))))))))))))))))))))))))))))))))))))))))
 | 4=>(.take 0 (.take 1 (.take 2 (.take 3 (.take 4 (.take 5 (.take 6 (.take 7 (.take 8 (.take 9 (.take 10 (.take 11 (.take 12 (.take 13 (.take 14 (.take 15 (.one 16 (.one 17 (.take 18 (.one 19 (.take 20 .done)))))))))))))))))))))
 | _=> .done
def Y5:List (Nat×Nat):= [(6,9),(17,31)]
def abJ (id:Nat):Plan:=
 match id with
 | 2=>(.take 0 (.take 1 (.take 2 (.take 4 (.take 5 (.take 6 (.one 3 (.take 8 (.one 7 (.post 9 (.take 10 (.post 11 .done))))))))))))
 | _=> .done
def Y6:List (Nat×Nat):= [(2,4),(7,7),(10,16),(34,66)]
def Y7:List (Nat×Nat):= [(3,3),(5,7),(10,32)]
def Y8:List (Nat×Nat):= [(4,4),(6,8),(21,35)]
def abK (id:Nat):Plan:=
 match id with
 | 20=>(.take 0 (.take 1 (.take 2 (.take 3 (.take 4 (.take 5 (.take 6 (.take 7 (.one 8 (.take 9 (.post 10 (.take 11 .done))))))))))))
 | _=> .done
def Y9:List (Nat×Nat):= [(5,5),(19,35)]
def X6 (id:Nat):Plan:=
 match id with
 | 7=>(.take 0 (.take 1 (.one 2 (.one 3 (.post 4 (.take 5 (.post 6 .done)))))))
 | 8=>(.take 0 (.take 1 (.one 2 (.one 3 (.post 4 (.take 5 (.post 6 .done)))))))
 | _=> .done
def Za:List (Nat×Nat):= [(2,3),(5,6),(14,23)]
def abL (id:Nat):Plan:=
 match id with
 | 13=>(.take 0 (.take 1 (.one 2 (.post 3 (.post 4 .done)))))
 | _=> .done
def Zb:List (Nat×Nat):= [(3,3),(5,5),(11,22)]
def Zc:List (Nat×Nat):= [(6,6),(8,8),(27,34)]
def Zd:List (Nat×Nat):= [(7,11),(16,37)]
def Ze:List (Nat×Nat):= [(4,5),(7,11),(16,116)]
def jq (id:Nat):Plan:=
 match id with
 | 12=>(.take 1 (.take 4 (.take 5 (.take 6 (.take 7 (.take 8 (.take 9 (.three 0 (.take 2 (.take 3 (.two 10 (.two 11 (.take 12 (.one 13 (.post 14 .done))) 13 (.one 11 (.take 12 (.post 14 .done)))) 13 (.one 10 (.one 11 (.take 12 (.post 14 .done))))))) 10 (.three 0 (.take 2 (.take 3 (.two 11 (.take 12 (.one 13 (.post 14 .done))) 13 (.one 11 (.take 12 (.post 14 .done)))))) 11 (.two 0 (.take 2 (.take 3 (.take 12 (.one 13 (.post 14 .done))))) 13 (.one 0 (.take 2 (.take 3 (.take 12 (.post 14 .done)))))) 13 (.two 0 (.take 2 (.take 3 (.one 11 (.take 12 (.post 14 .done))))) 11 (.one 0 (.take 2 (.take 3 (.take 12 (.post 14 .done))))))) 13 (.two 0 (.take 2 (.take 3 (.one 10 (.one 11 (.take 12 (.post 14 .done)))))) 10 (.two 0 (.take 2 (.take 3 (.one 11 (.take 12 (.post 14 .done))))) 11 (.one 0 (.take 2 (.take 3 (.take 12 (.post 14 .done)))))))))))))))
 | 18=>(.take 1 (.take 6 (.take 11 (.take 15 (.take 19 (.one 0 (.one 2 (.take 3 (.take 4 (.take 5 (.one 7 (.take 8 (.take 9 (.take 10 (.one 12 (.take 13 (.take 14 (.one 16 (.take 17 (.take 18 (.one 20 (.take 21 (.one 22 (.take 23 (.one 24 (.take 25 (.post 26 .done)))))))))))))))))))))))))))
 | 21=>(.take 0 (.take 2 (.take 3 (.one 1 (.take 4 .done)))))
 | 14=>(.take 1 (.take 6 (.take 9 (.one 0 (.one 2 (.take 3 (.take 4 (.take 5 (.one 7 (.take 8 (.one 10 (.take 11 (.one 12 (.take 13 (.post 14 .done)))))))))))))))
 | _=> .done
def Zf:List (Nat×Nat):= [(3,4),(12,21)]
def Zg:List (Nat×Nat):= [(6,18)]
def Zh:List (Nat×Nat):= [(3,3),(5,5),(8,17)]
def abM (id:Nat):Plan:=
 match id with
 | 7=>(.take 0 (.take 1 (.take 2 (.take 3 (.take 4 (.take 5 (.take 6 (.take 7 (.take 8 (.take 9 (.take 10 .done)))))))))))
 | _=> .done
def Zi:List (Nat×Nat):= [(2,3),(6,10),(23,47)]
def J7 (id:Nat):Plan:=
 match id with
 | 1=>(.take 0 (.take 1 (.take 2 (.take 3 (.take 4 (.take 5 (.take 6 (.take 7 (.take 8 (.take 9 (.take 10 (.take 11 .done))))))))))))
 | _=> .done
def Zj:List (Nat×Nat):= [(3,3),(5,7),(9,11),(18,71)]
def DI:List (Nat×Nat):= [(6,7),(24,38)]
def DJ:List (Nat×Nat):= [(3,3),(9,11),(46,70)]
def uV:List (Nat×Nat):= [(10,11),(52,65)]
def J8 (id:Nat):Plan:=
 match id with
 | 10=>(.take 0 (.take 1 (.take 2 (.take 3 (.take 4 (.take 5 (.one 6 (.take 7 (.take 8 (.one 9 (.post 10 (.take 11 .done))))))))))))
 | _=> .done
def abN (id:Nat):Plan:=
 match id with
 | 1=>(.take 0 (.take 1 (.take 2 (.take 3 (.take 4 (.take 5 (.take 6 (.take 7 (.take 8 (.take 9 (.take 10 .done)))))))))))
 | _=> .done
def X7 (id:Nat):Plan:=
 match id with
 | 1=>(.take 0 (.take 1 (.take 2 (.take 3 (.take 4 (.take 5 (.take 6 (.take 7 (.take 8 (.take 9 .done))))))))))
 | 4=>(.take 0 (.take 1 (.take 2 (.take 3 (.take 4 (.take 5 (.take 6 (.take 7 (.take 8 (.take 9 (.take 10 (.take 11 (.take 12 (.take 13 (.take 14 .done)))))))))))))))
 | _=> .done
def Uu:List (Nat×Nat):= [(9,11),(26,50)]
def Uw:List (Nat×Nat):= [(10,11),(33,48)]
def Ux:List (Nat×Nat):= [(8,8),(12,12),(54,74)]
def Uy:List (Nat×Nat):= [(3,3),(5,6),(9,30)]
def Uz:List (Nat×Nat):= [(3,3),(6,6),(13,26)]
def UA:List (Nat×Nat):= [(2,5),(11,75)]
def UC:List (Nat×Nat):= [(4,6),(13,13),(15,19),(21,25),(62,141)]
def xw:List (Nat×Nat):= [(19,19),(85,99)]
def xC:List (Nat×Nat):= [(4,6),(13,13),(21,25),(103,140)]
def pF:List (Nat×Nat):= [(25,25),(126,139)]
def lQ (id:Nat):Plan:=
 match id with
 | 20=>(.take 0 (.take 1 (.take 2 (.take 3 (.take 4 (.take 6 (.take 7 (.take 8 (.take 9 (.one 5 (.take 10 (.post 11 .done))))))))))))
 | 32=>(.take 0 (.take 1 (.take 2 (.take 3 (.take 5 (.take 6 (.take 7 (.take 8 (.one 4 (.take 9 (.post 10 .done)))))))))))
 | _=> .done
def UD:List (Nat×Nat):= [(2,5),(18,49)]
def UE:List (Nat×Nat):= [(2,2),(7,7),(52,59)]
def UF:List (Nat×Nat):= [(4,30)]
def Zk (id:Nat):Plan:=
 match id with
 | 3=>(.take 0 (.take 1 (.take 2 (.take 3 (.take 4 (.take 5 (.take 6 .done)))))))
 | _=> .done
def UG (id:Nat):Plan:=Zk id
def DK:List (Nat×Nat):= [(4,4),(6,6),(23,30)]
def DL:List (Nat×Nat):= [(7,7),(9,11),(33,47)]
def UH:List (Nat×Nat):= [(2,6),(8,37)]
def UJ:List (Nat×Nat):= [(4,5),(7,7),(18,30)]
def PL (id:Nat):Plan:=
 match id with
 | 1=>(.take 0 (.take 1 (.take 2 (.take 3 (.take 4 (.take 5 (.take 6 (.take 7 (.take 8 (.take 9 .done))))))))))
 | 5=>(.take 0 (.take 1 (.take 2 (.take 3 (.take 4 (.take 5 (.take 6 (.take 7 (.take 8 (.take 9 .done))))))))))
 | _=> .done
def PN (id:Nat):Plan:=
 match id with
 | 0=>(.take 0 (.take 1 (.take 2 (.take 3 (.take 4 (.take 5 (.one 6 (.take 7 (.post 8 .done)))))))))
 | _=> .done
def UK:List (Nat×Nat):= [(4,5),(11,21)]
def J9 (id:Nat):Plan:=
 match id with
 | 0=>(.take 0 (.take 1 (.take 2 (.take 3 (.take 4 (.take 5 (.take 6 (.take 7 (.sink 8)))))))))
 | 2=>(.take 0 (.take 1 (.take 2 (.take 3 (.take 4 (.take 5 (.take 6 (.take 7 (.sink 8)))))))))
 | _=> .done
def UL:List (Nat×Nat):= [(5,119)]
def jB (id:Nat):Plan:=
 match id with
 | 2=>(.take 0 (.take 1 (.take 2 (.take 3 (.take 4 (.take 5 (.take 6 (.take 7 (.take 8 (.take 9 (.take 10 (.sink 11))))))))))))
 | 3=>(.take 0 (.take 1 (.take 2 (.take 3 (.take 4 (.take 6 (.take 7 (.take 8 (.take 9 (.take 11 (.one 5 (.take 10 (.take 12 (.sink 13))))))))))))))
 | 4=>(.take 0 (.take 1 (.take 2 (.take 3 (.take 4 (.take 6 (.one 5 (.take 7 (.sink 8)))))))))
 | 5=>(.take 0 (.take 1 (.take 2 (.take 3 (.take 4 (.take 5 (.take 6 (.take 7 (.take 8 (.take 9 (.take 10 (.sink 11))))))))))))
 | 6=>(.take 0 (.take 1 (.take 2 (.take 3 (.take 4 (.take 6 (.take 7 (.take 8 (.take 9 (.take 11 (.one 5 (.take 10 (.take 12 (.sink 13))))))))))))))
 | 7=>(.take 0 (.take 1 (.take 2 (.take 3 (.take 4 (.take 5 (.take 6 (.take 7 (.take 8 (.take 9 (.take 10 (.sink 11))))))))))))
 | 8=>(.take 0 (.take 1 (.take 2 (.take 3 (.take 4 (.take 6 (.take 7 (.take 8 (.take 9 (.take 11 (.one 5 (.take 10 (.take 12 (.sink 13))))))))))))))
 | 9=>(.take 0 (.take 1 (.take 2 (.take 3 (.take 4 (.take 5 (.take 6 (.take 7 (.take 8 (.take 9 (.take 10 (.sink 11))))))))))))
 | 10=>(.take 0 (.take 1 (.take 2 (.take 3 (.take 4 (.take 6 (.take 7 (.take 8 (.take 9 (.take 11 (.one 5 (.take 10 (.take 12 (.sink 13))))))))))))))
 | 11=>(.take 0 (.take 1 (.take 2 (.take 3 (.take 4 (.take 6 (.one 5 (.take 7 (.sink 8)))))))))
 | _=> .done
def UM:List (Nat×Nat):= [(7,8),(10,10),(25,41)]
def UN:List (Nat×Nat):= [(2,4),(9,9),(15,15),(57,76)]
def zl (id:Nat):Plan:=
 match id with
 | 8=>(.take 1 (.take 2 (.take 5 (.take 6 (.take 8 (.take 12 (.one 0 (.take 3 (.take 4 (.one 7 (.one 9 (.take 10 (.take 11 (.post 13 (.take 14 (.take 15 (.take 16 (.take 17 (.take 18 .done)))))))))))))))))))
 | _=> .done
def UO:List (Nat×Nat):= [(4,5),(8,18)]
def UQ:List (Nat×Nat):= [(3,8),(13,35)]
def UR:List (Nat×Nat):= [(12,12),(42,55)]
def UU:List (Nat×Nat):= [(10,12),(57,94)]
def UW:List (Nat×Nat):= [(12,12),(80,93)]
def UY:List (Nat×Nat):= [(7,9),(13,30)]
def Zl (id:Nat):Plan:=
 match id with
 | 1=>(.take 0 (.take 1 (.take 3 (.take 4 (.one 2 (.take 6 (.one 5 (.post 7 (.take 8 (.post 9 .done))))))))))
 | _=> .done
def UZ:List (Nat×Nat):= [(2,43)]
def U0:List (Nat×Nat):= [(1,3),(8,133)]
def U1:List (Nat×Nat):= [(0,0),(6,6),(9,16)]
def U2:List (Nat×Nat):= [(7,7),(10,23)]
def U3:List (Nat×Nat):= [(0,0),(5,39)]
def U4:List (Nat×Nat):= [(6,6),(12,28)]
def Zm (id:Nat):Plan:=
 match id with
 | 4=>(.take 0 (.take 1 (.take 2 (.take 3 (.take 4 (.take 5 (.take 6 (.take 7 (.take 8 (.take 9 (.take 10 (.take 11 (.take 12 (.take 13 (.take 14 .done)))))))))))))))
 | _=> .done
def U5:List (Nat×Nat):= [(4,5),(7,9),(12,40)]
def U6:List (Nat×Nat):= [(0,0),(5,5),(7,7),(10,20)]
def U7:List (Nat×Nat):= [(8,8),(15,31)]
def Zn (id:Nat):Plan:=
 match id with
 | 5=>(.take 0 (.take 1 (.take 2 (.take 3 (.take 4 (.take 5 (.take 6 (.take 7 (.take 8 (.take 9 (.take 10 (.post 11 .done))))))))))))
 | _=> .done
def U8:List (Nat×Nat):= [(0,0),(7,9),(24,37)]
def U9:List (Nat×Nat):= [(8,8),(16,29)]
def Ko:List (Nat×Nat):= [(4,5),(9,10),(30,55)]
def Va:List (Nat×Nat):= [(8,12),(36,71)]
def Vb:List (Nat×Nat):= [(11,12),(47,70)]
def Zo (id:Nat):Plan:=
 match id with
 | 13=>(.take 0 (.take 1 (.take 2 (.take 3 (.take 4 (.take 5 (.take 6 (.take 7 (.take 8 (.take 9 (.take 10 (.take 11 (.take 12 (.take 13 (.take 14 (.post 15 .done))))))))))))))))
 | _=> .done
def Vd:List (Nat×Nat):= [(9,13),(39,74)]
def Ve:List (Nat×Nat):= [(11,13),(43,65)]
def Vf:List (Nat×Nat):= [(6,7),(10,48)]
def Vg:List (Nat×Nat):= [(8,8),(34,46)]
def Zp (id:Nat):Plan:=
 match id with
 | 9=>(.take 0 (.take 1 (.take 2 (.take 3 (.take 4 (.take 5 (.take 6 (.one 7 (.take 8 (.take 9 .done))))))))))
 | _=> .done
def Vh:List (Nat×Nat):= [(7,9),(13,30)]
def Vj:List (Nat×Nat):= [(3,4),(12,23)]
def Vk:List (Nat×Nat):= [(3,4),(12,23)]
end Go.Proofs.YtocckceefcmeaaaGreatDoor.Vc
namespace Go.Proofs.YtocckceefcmeaaaGreatDoor.Dg
open Go Go.RowKit Go.Proofs.YtocckceefcmeaaaGreatDoor.Vc
attribute [local irreducible] loadVar storeVar Instr.indexAt Instr.index Instr.sliceAt Instr.makeSlice Instr.lookup Instr.mapUpdate Instr.range Instr.next Instr.entry Instr.makeMap Builtin.append_ Builtin.copy_ Builtin.len_ Builtin.min_ Builtin.max_ Builtin.cap_ Builtin.delete_ Builtin.clear_ convert binOp eqGuard Op.unary Calls
theorem mixed:Tryz.prog.follows .mixedOrders=true:=by kernel_rfl
def FQ (x:Int)(n:Nat):Int:=bg .or .u64 (IntKind.u64.wrap (x*2^n)) (x.fdiv (2^(64-n)))
theorem uX (x k:Int)(n:Nat)(hk:bg .and .u64 (IntKind.u64.wrap k) 63=n)(h0:0<n)(h1:n<64)(w:World) :
  vS Tryz.prog 164 #[.int .u64 x, .int .i64 k] w fun v w'=>v = .int .u64 (FQ x n)∧w'=w:=by
 have e3:IntKind.u64.wrap (64 -(n:Int))=64-n:=IntWalk.u64_in _ (by omega)
 refine eu Tryz.func164 rfl mixed (by kernel_rfl) ?_
 conv=>whnf
 refine ay.mk (by rw [hk];omega) ?_
 conv=>whnf
 refine ay.mk ?_ ?_
 ·rw [hk,e3];omega
 conv=>whnf
 refine jS.mk ⟨?_,rfl⟩
 show Value.int .u64 _=_
 rw [hk,e3]
 unfold FQ
 have e1:min (n:Int).toNat IntKind.u64.bits=n:=by simp [IntKind.bits];omega
 have e2:min (64 -(n:Int)).toNat IntKind.u64.bits=64-n:=by simp [IntKind.bits]
 rw [e1,e2]
structure S4 where
 a:Int
 b:Int
 c:Int
 d:Int
def u (x:Int):Value:= .int .u64 x
def add (x y:Int):Int:=IntKind.u64.wrap (x+y)
def xor (x y:Int):Int:=bg .xor .u64 x y
def S4.round (s:S4):S4:=
 let a:=add s.a s.b
 let b:=xor (FQ s.b 13) a
 let a:=FQ a 32
 let c:=add s.c s.d
 let d:=xor (FQ s.d 16) c
 let a:=add a d
 let d:=xor (FQ d 21) a
 let c:=add c b
 let b:=xor (FQ b 17) c
 let c:=FQ c 32
 ⟨a,b,c,d⟩
def S4.rounds (s:S4):Nat→S4
 | 0=>s
 | n+1=>(s.rounds n).round
@[reducible] def S4.cells (s:S4):List Value:= [.int .u64 s.a, .int .u64 s.b, .int .u64 s.c, .int .u64 s.d]
theorem BL (b:Nat)(T:TypeId)(n:Nat)(hn:n<100)(s:S4)(w:World)(hb:jf w b s.cells T) :
  vS Tryz.prog 135 #[.pointer (some ⟨b,0,none⟩), .int .i64 n] w fun _ w'=> ∃t,t=s.rounds n∧Only b w w'∧jf w' b t.cells T:=by
 refine eu Tryz.func135 rfl mixed (by kernel_rfl) ?_
 conv=>whnf
 refine kH (X:=Nat) UL (fun i=> [(0, .pointer (some ⟨b,0,none⟩)),(4, .int .i64 n),(5, .int .i64 i)]) (fun i w'=>i≤n∧Only b w w'∧jf w' b (s.rounds i).cells T) (fun i=>n-i) 0 (by kernel_rfl) ⟨rfl,rfl,rfl,trivial⟩ ⟨Nat.zero_le _,Only.refl _ _,hb⟩ ?_
 rintro i w' j ⟨hi,ho,hb'⟩
 conv=>whnf
 refine ah (fun hlt=> ?_) (fun hge=> ?_)
 ·have hlt:i<n:=by simpa using hlt
  conv=>whnf
  (refine iJ jB (by kernel_rfl) ?_;conv=>whnf)
  repeat (first | (refine ay.mk (by first | decide | omega) ?_;conv=>whnf) | (refine fO.mk rfl ?_;conv=>whnf) | (refine dW.keep rfl ?_;conv=>whnf) | (refine cO rfl (by assumption) rfl ?_;conv=>whnf) | (refine dH rfl rfl rfl ?_;conv=>whnf) | (refine bQ (by assumption) rfl rfl rfl ?_;intro _ _ _;conv=>whnf))
  (refine iJ jB (by kernel_rfl) ?_;conv=>whnf)
  repeat (first | (refine ay.mk (by first | decide | omega) ?_;conv=>whnf) | (refine fO.mk rfl ?_;conv=>whnf) | (refine dW.keep rfl ?_;conv=>whnf) | (refine cO rfl (by assumption) rfl ?_;conv=>whnf) | (refine dH rfl rfl rfl ?_;conv=>whnf) | (refine bQ (by assumption) rfl rfl rfl ?_;intro _ _ _;conv=>whnf))
  refine kJ (by kernel_rfl) (uX _ _ 13 (by kernel_rfl) (by decide) (by decide) _) ?_
  rintro _ _ ⟨rfl,rfl⟩
  conv=>whnf
  repeat (first | (refine ay.mk (by first | decide | omega) ?_;conv=>whnf) | (refine fO.mk rfl ?_;conv=>whnf) | (refine dW.keep rfl ?_;conv=>whnf) | (refine cO rfl (by assumption) rfl ?_;conv=>whnf) | (refine dH rfl rfl rfl ?_;conv=>whnf) | (refine bQ (by assumption) rfl rfl rfl ?_;intro _ _ _;conv=>whnf))
  (refine iJ jB (by kernel_rfl) ?_;conv=>whnf)
  repeat (first | (refine ay.mk (by first | decide | omega) ?_;conv=>whnf) | (refine fO.mk rfl ?_;conv=>whnf) | (refine dW.keep rfl ?_;conv=>whnf) | (refine cO rfl (by assumption) rfl ?_;conv=>whnf) | (refine dH rfl rfl rfl ?_;conv=>whnf) | (refine bQ (by assumption) rfl rfl rfl ?_;intro _ _ _;conv=>whnf))
  refine kJ (by kernel_rfl) (uX _ _ 32 (by kernel_rfl) (by decide) (by decide) _) ?_
  rintro _ _ ⟨rfl,rfl⟩
  conv=>whnf
  repeat (first | (refine ay.mk (by first | decide | omega) ?_;conv=>whnf) | (refine fO.mk rfl ?_;conv=>whnf) | (refine dW.keep rfl ?_;conv=>whnf) | (refine cO rfl (by assumption) rfl ?_;conv=>whnf) | (refine dH rfl rfl rfl ?_;conv=>whnf) | (refine bQ (by assumption) rfl rfl rfl ?_;intro _ _ _;conv=>whnf))
  (refine iJ jB (by kernel_rfl) ?_;conv=>whnf)
  repeat (first | (refine ay.mk (by first | decide | omega) ?_;conv=>whnf) | (refine fO.mk rfl ?_;conv=>whnf) | (refine dW.keep rfl ?_;conv=>whnf) | (refine cO rfl (by assumption) rfl ?_;conv=>whnf) | (refine dH rfl rfl rfl ?_;conv=>whnf) | (refine bQ (by assumption) rfl rfl rfl ?_;intro _ _ _;conv=>whnf))
  (refine iJ jB (by kernel_rfl) ?_;conv=>whnf)
  repeat (first | (refine ay.mk (by first | decide | omega) ?_;conv=>whnf) | (refine fO.mk rfl ?_;conv=>whnf) | (refine dW.keep rfl ?_;conv=>whnf) | (refine cO rfl (by assumption) rfl ?_;conv=>whnf) | (refine dH rfl rfl rfl ?_;conv=>whnf) | (refine bQ (by assumption) rfl rfl rfl ?_;intro _ _ _;conv=>whnf))
  refine kJ (by kernel_rfl) (uX _ _ 16 (by kernel_rfl) (by decide) (by decide) _) ?_
  rintro _ _ ⟨rfl,rfl⟩
  conv=>whnf
  repeat (first | (refine ay.mk (by first | decide | omega) ?_;conv=>whnf) | (refine fO.mk rfl ?_;conv=>whnf) | (refine dW.keep rfl ?_;conv=>whnf) | (refine cO rfl (by assumption) rfl ?_;conv=>whnf) | (refine dH rfl rfl rfl ?_;conv=>whnf) | (refine bQ (by assumption) rfl rfl rfl ?_;intro _ _ _;conv=>whnf))
  (refine iJ jB (by kernel_rfl) ?_;conv=>whnf)
  repeat (first | (refine ay.mk (by first | decide | omega) ?_;conv=>whnf) | (refine fO.mk rfl ?_;conv=>whnf) | (refine dW.keep rfl ?_;conv=>whnf) | (refine cO rfl (by assumption) rfl ?_;conv=>whnf) | (refine dH rfl rfl rfl ?_;conv=>whnf) | (refine bQ (by assumption) rfl rfl rfl ?_;intro _ _ _;conv=>whnf))
  (refine iJ jB (by kernel_rfl) ?_;conv=>whnf)
  repeat (first | (refine ay.mk (by first | decide | omega) ?_;conv=>whnf) | (refine fO.mk rfl ?_;conv=>whnf) | (refine dW.keep rfl ?_;conv=>whnf) | (refine cO rfl (by assumption) rfl ?_;conv=>whnf) | (refine dH rfl rfl rfl ?_;conv=>whnf) | (refine bQ (by assumption) rfl rfl rfl ?_;intro _ _ _;conv=>whnf))
  refine kJ (by kernel_rfl) (uX _ _ 21 (by kernel_rfl) (by decide) (by decide) _) ?_
  rintro _ _ ⟨rfl,rfl⟩
  conv=>whnf
  repeat (first | (refine ay.mk (by first | decide | omega) ?_;conv=>whnf) | (refine fO.mk rfl ?_;conv=>whnf) | (refine dW.keep rfl ?_;conv=>whnf) | (refine cO rfl (by assumption) rfl ?_;conv=>whnf) | (refine dH rfl rfl rfl ?_;conv=>whnf) | (refine bQ (by assumption) rfl rfl rfl ?_;intro _ _ _;conv=>whnf))
  (refine iJ jB (by kernel_rfl) ?_;conv=>whnf)
  repeat (first | (refine ay.mk (by first | decide | omega) ?_;conv=>whnf) | (refine fO.mk rfl ?_;conv=>whnf) | (refine dW.keep rfl ?_;conv=>whnf) | (refine cO rfl (by assumption) rfl ?_;conv=>whnf) | (refine dH rfl rfl rfl ?_;conv=>whnf) | (refine bQ (by assumption) rfl rfl rfl ?_;intro _ _ _;conv=>whnf))
  (refine iJ jB (by kernel_rfl) ?_;conv=>whnf)
  repeat (first | (refine ay.mk (by first | decide | omega) ?_;conv=>whnf) | (refine fO.mk rfl ?_;conv=>whnf) | (refine dW.keep rfl ?_;conv=>whnf) | (refine cO rfl (by assumption) rfl ?_;conv=>whnf) | (refine dH rfl rfl rfl ?_;conv=>whnf) | (refine bQ (by assumption) rfl rfl rfl ?_;intro _ _ _;conv=>whnf))
  refine kJ (by kernel_rfl) (uX _ _ 17 (by kernel_rfl) (by decide) (by decide) _) ?_
  rintro _ _ ⟨rfl,rfl⟩
  conv=>whnf
  repeat (first | (refine ay.mk (by first | decide | omega) ?_;conv=>whnf) | (refine fO.mk rfl ?_;conv=>whnf) | (refine dW.keep rfl ?_;conv=>whnf) | (refine cO rfl (by assumption) rfl ?_;conv=>whnf) | (refine dH rfl rfl rfl ?_;conv=>whnf) | (refine bQ (by assumption) rfl rfl rfl ?_;intro _ _ _;conv=>whnf))
  (refine iJ jB (by kernel_rfl) ?_;conv=>whnf)
  repeat (first | (refine ay.mk (by first | decide | omega) ?_;conv=>whnf) | (refine fO.mk rfl ?_;conv=>whnf) | (refine dW.keep rfl ?_;conv=>whnf) | (refine cO rfl (by assumption) rfl ?_;conv=>whnf) | (refine dH rfl rfl rfl ?_;conv=>whnf) | (refine bQ (by assumption) rfl rfl rfl ?_;intro _ _ _;conv=>whnf))
  refine kJ (by kernel_rfl) (uX _ _ 32 (by kernel_rfl) (by decide) (by decide) _) ?_
  rintro _ _ ⟨rfl,rfl⟩
  conv=>whnf
  repeat (first | (refine ay.mk (by first | decide | omega) ?_;conv=>whnf) | (refine fO.mk rfl ?_;conv=>whnf) | (refine dW.keep rfl ?_;conv=>whnf) | (refine cO rfl (by assumption) rfl ?_;conv=>whnf) | (refine dH rfl rfl rfl ?_;conv=>whnf) | (refine bQ (by assumption) rfl rfl rfl ?_;intro _ _ _;conv=>whnf))
  refine jQ.mk ⟨_, ?_,i+1,rfl, ?_, ?_⟩
  ·show n -(i+1)<n-i;omega
  ·exact⟨rfl,rfl,jo (incr (by omega)),trivial⟩
  ·refine⟨hlt, ?_, ?_⟩
   ·(repeat (first | assumption | exact Only.refl _ _ | refine Only.step (by assumption) ?_ | refine Only.abp (by assumption) ?_))
   ·assumption
 ·have hge : ¬i<n:=by simpa using hge
  conv=>whnf
  have:i=n:=by omega
  subst this
  exact jS.mk ⟨_,rfl,ho,hb'⟩
def S4.word (s:S4)(m:Int):S4:=
 let t:=S4.rounds ⟨s.a,s.b,s.c,xor s.d m⟩ 2
 ⟨xor t.a m,t.b,t.c,t.d⟩
theorem DN (b:Nat)(T:TypeId)(m:Int)(s:S4)(w:World)(hb:jf w b s.cells T) :
  vS Tryz.prog 134 #[.pointer (some ⟨b,0,none⟩), .int .u64 m] w fun _ w'=> ∃t,t=s.word m∧Only b w w'∧jf w' b t.cells T:=by
 refine eu Tryz.func134 rfl mixed (by kernel_rfl) ?_
 conv=>whnf
 (refine iJ J9 (by kernel_rfl) ?_;conv=>whnf)
 repeat (first | (refine ay.mk (by first | decide | omega) ?_;conv=>whnf) | (refine fO.mk rfl ?_;conv=>whnf) | (refine dW.keep rfl ?_;conv=>whnf) | (refine cO rfl (by assumption) rfl ?_;conv=>whnf) | (refine dH rfl rfl rfl ?_;conv=>whnf) | (refine bQ (by assumption) rfl rfl rfl ?_;intro _ _ _;conv=>whnf))
 rename_i w1 o1 hb1
 refine kJ (by kernel_rfl) (BL b T 2 (by decide) ⟨s.a,s.b,s.c,xor s.d m⟩ _ hb1) ?_
 rintro _ w2 ⟨t,ht,o2,hb2⟩
 conv=>whnf
 (refine iJ J9 (by kernel_rfl) ?_;conv=>whnf)
 repeat (first | (refine ay.mk (by first | decide | omega) ?_;conv=>whnf) | (refine fO.mk rfl ?_;conv=>whnf) | (refine dW.keep rfl ?_;conv=>whnf) | (refine cO rfl (by assumption) rfl ?_;conv=>whnf) | (refine dH rfl rfl rfl ?_;conv=>whnf) | (refine bQ (by assumption) rfl rfl rfl ?_;intro _ _ _;conv=>whnf))
 rename_i w3 o3 hb3
 have he:s.word m=⟨xor t.a m,t.b,t.c,t.d⟩:=by rw [ht];rfl
 refine jS.mk ⟨⟨xor t.a m,t.b,t.c,t.d⟩,he.symm, ?_,hb3⟩
 exact Only.step o3 ((o1.Ia).trans o2)
def orI (x y:Int):Int:=bg .or .u64 x y
def PO (b:UInt8)(k:Nat):Int:=IntKind.u64.wrap ((b.toNat:Int)*2^(8*k))
def IY (l:List UInt8):Nat→Int
 | 0=>0
 | n+1=>orI (IY l n) (PO (l.getD n 0) n)
def S4.init (k0 k1:Int):S4:=⟨xor k0 8317987319222330741,xor k1 7237128888997146477,xor k0 7816392313619706465,xor k1 8387220255154660723⟩
def S4.upto (k0 k1:Int)(l:List UInt8):Nat→S4
 | 0=> .init k0 k1
 | i+1=>(S4.upto k0 k1 l i).word (IY (l.drop (8*i)) 8)
def lastTo (l:List UInt8):Nat→Int
 | 0=>IntKind.u64.wrap (IntKind.u64.wrap l.length*2^56)
 | n+1=>orI (lastTo l n) (PO (l.getD (l.length-l.length%8+n) 0) n)
def S4.done (s:S4):Int:=
 let t:=S4.rounds ⟨s.a,s.b,xor s.c 255,s.d⟩ 4
 xor (xor (xor t.a t.b) t.c) t.d
def DR (k0 k1:Int)(l:List UInt8):Int:=((S4.upto k0 k1 l (l.length/8)).word (lastTo l (l.length%8))).done
theorem Kq (x:UInt8)(k:Nat)(hk:k<8)(n:Int)(hn:n=(8*k:Nat)) :
  IntKind.u64.wrap (IntKind.u64.wrap (x.toNat:Int)*2^min n.toNat IntKind.u64.bits)=PO x k:=by
 subst hn
 have h1:IntKind.u64.wrap (x.toNat:Int)=x.toNat:=IntWalk.u64_in _ (by have:=x.toNat_lt;omega)
 have h2:min ((8*k:Nat):Int).toNat IntKind.u64.bits=8*k:=by simp [IntKind.bits];omega
 rw [h1,h2]
 rfl
theorem getD_drop (l:List UInt8)(i k:Nat)(h:i+k<l.length):(l.drop i).getD k 0=l[i+k]:=by
 simp [List.getD_eq_getElem?_getD,List.getElem?_drop,h]
theorem Zq (k0 k1:Int)(oa:Option Addr)(c:Nat)(l:List UInt8)(w:World)(hl:l.length<4611686018427387904)(hr:Row w oa (cZ l)) :
  vS Tryz.prog 102 #[.int .u64 k0, .int .u64 k1, .slice oa l.length c] w fun v w'=>v = .int .u64 (DR k0 k1 l)∧Below w.heap.size w w':=by
 refine eu Tryz.func102 rfl mixed (by kernel_rfl) ?_
 conv=>whnf
 refine MB (jf.new _ _ _) rfl rfl rfl ?_
 intro w1 o1 hb1
 have hB1:Below w.heap.size w w1:=((Below.refl _ _).alloc (Nat.le_refl _) _).trans (o1.below (Nat.le_refl _))
 conv=>whnf
 repeat (first | (refine ay.mk (by first | decide | omega) ?_;conv=>whnf) | (refine fO.mk rfl ?_;conv=>whnf) | (refine dW.keep rfl ?_;conv=>whnf) | (refine cO rfl (by assumption) rfl ?_;conv=>whnf) | (refine dH rfl rfl rfl ?_;conv=>whnf) | (refine bQ (by assumption) rfl rfl rfl ?_;intro _ _ _;conv=>whnf))
 refine kH (X:=Nat) Uu (fun i=> [(9, .int .i64 (8*i:Nat))]) (fun i w'=>8*i≤l.length∧Below w.heap.size w w'∧∃t,t=S4.upto k0 k1 l i∧jf w' w.heap.size t.cells 175) (fun i=>l.length-8*i) 0 (by kernel_rfl)
  ?_ ⟨Nat.zero_le _,hB1,_,rfl,hb1⟩ ?_
 ·exact⟨rfl,trivial⟩
 rintro i w2 j ⟨hi,hB2,t,ht,hb2⟩
 conv=>whnf
 have e8:IntKind.i64.wrap ((8*i:Nat)+8)=((8*i+8:Nat):Int):=by rw [IntWalk.i64_in _ (by omega)];omega
 refine ah (fun hlt=> ?_) (fun hge=> ?_)
 ·have hlt:8*i+8≤l.length:=by rw [e8]at hlt;have:=of_decide_eq_true hlt;omega
  obtain⟨b,o,rfl,hbl,hc⟩:=hr.get (by simp;omega)
  conv=>whnf
  refine kH (X:=Nat) Uw (fun k=> [(10, .int .u64 (IY (l.drop (8*i)) k)),(33, .int .i64 k)]) (fun k w'=>k≤8∧w'=w2) (fun k=>8-k) 0 (by kernel_rfl) ?_ ⟨by omega,rfl⟩ ?_
  ·exact⟨rfl,rfl,trivial⟩
  rintro k _ j2 ⟨hk,rfl⟩
  conv=>whnf
  refine ah (fun hlt2=> ?_) (fun FT=> ?_)
  ·have hlt2:k<8:=by have:=of_decide_eq_true hlt2;omega
   conv=>whnf
   refine CP (8*i+k) rfl rfl (by rw [IntWalk.i64_in _ (by omega)];omega) (by omega) ?_
   conv=>whnf
   refine dS rfl (by rw [hB2.cell (p:=⟨b,o+(8*i+k),none⟩) hbl];exact hc _ _ (lY (by omega))) ?_
   conv=>whnf
   refine ay.mk (by rw [IntWalk.i64_in _ (by omega)];omega) ?_
   conv=>whnf
   refine jQ.mk ⟨_, ?_,k+1,rfl, ?_, ?_⟩
   ·show 8 -(k+1)<8-k;omega
   ·refine⟨jo ?_,jo (incr (by omega)),trivial⟩
    rw [Kq _ k hlt2 _ (by rw [IntWalk.i64_in _ (by omega)];omega), ←getD_drop l (8*i) k (by omega)]
    rfl
   ·exact⟨hlt2,rfl⟩
  ·have FT : ¬k<8:=by have:=of_decide_eq_false FT;omega
   obtain rfl:k=8:=by omega
   conv=>whnf
   refine kJ (by kernel_rfl) (DN _ _ _ _ _ hb2) ?_
   rintro _ w3 ⟨t3,ht3,o3,hb3⟩
   conv=>whnf
   refine jQ.mk ⟨_, ?_,i+1,rfl, ?_, ?_⟩
   ·show l.length-8*(i+1)<l.length-8*i;omega
   ·exact⟨jo (by rw [e8,Nat.mul_add]),trivial⟩
   ·refine⟨by omega,hB2.trans (o3.below (Nat.le_refl _)),t3, ?_,hb3⟩
    rw [ht3,ht];rfl
 ·have hge : ¬8*i+8≤l.length:=by rw [e8]at hge;have:=of_decide_eq_false hge;omega
  have hi8:i=l.length/8:=by omega
  obtain⟨r,hr8⟩ : ∃r,r=l.length%8:=⟨_,rfl⟩
  conv=>whnf
  repeat (first | (refine ay.mk (by first | decide | omega) ?_;conv=>whnf) | (refine fO.mk rfl ?_;conv=>whnf) | (refine dW.keep rfl ?_;conv=>whnf) | (refine cO rfl (by assumption) rfl ?_;conv=>whnf) | (refine dH rfl rfl rfl ?_;conv=>whnf) | (refine bQ (by assumption) rfl rfl rfl ?_;intro _ _ _;conv=>whnf))
  refine kH (X:=Nat) Ux (fun k=> [(8, .int .u64 (lastTo l k)),(53, .int .i64 r),(54, .int .i64 k)]) (fun k w'=>k≤r∧w'=w2) (fun k=>r-k) 0 (by kernel_rfl) ?_ ⟨by omega,rfl⟩ ?_
  ·exact⟨rfl,jo (by rw [hr8];rfl),rfl,trivial⟩
  rintro k _ j2 ⟨hk,rfl⟩
  conv=>whnf
  refine ah (fun hlt2=> ?_) (fun FT=> ?_)
  ·have hlt2:k<r:=by have:=of_decide_eq_true hlt2;omega
   obtain⟨b,o,rfl,hbl,hc⟩:=hr.get (by simp;omega)
   conv=>whnf
   repeat (first | (refine ay.mk (by first | decide | omega) ?_;conv=>whnf) | (refine fO.mk rfl ?_;conv=>whnf) | (refine dW.keep rfl ?_;conv=>whnf) | (refine cO rfl (by assumption) rfl ?_;conv=>whnf) | (refine dH rfl rfl rfl ?_;conv=>whnf) | (refine bQ (by assumption) rfl rfl rfl ?_;intro _ _ _;conv=>whnf))
   refine CP (l.length-r+k) rfl rfl ?_ (by omega) ?_
   ·have e1:Int.tmod (l.length:Int) 8=r:=by rw [hr8];rfl
    rw [e1,IntWalk.i64_in ((l.length:Int)-r) (by omega),IntWalk.i64_in _ (by omega)]
    omega
   conv=>whnf
   refine dS rfl (by rw [hB2.cell (p:=⟨b,o+(l.length-r+k),none⟩) hbl];exact hc _ _ (lY (by omega))) ?_
   conv=>whnf
   refine ay.mk (by rw [IntWalk.i64_in _ (by omega)];omega) ?_
   conv=>whnf
   refine jQ.mk ⟨_, ?_,k+1,rfl, ?_, ?_⟩
   ·show r -(k+1)<r-k;omega
   ·refine⟨jo ?_,rfl,jo (incr (by omega)),trivial⟩
    rw [Kq _ k (by omega) _ (by rw [IntWalk.i64_in _ (by omega)];omega)]
    have:=getD_drop l 0 (l.length-r+k) (by omega)
    simp only [List.drop_zero,Nat.zero_add]at this
    rw [←this,hr8]
    rfl
   ·exact⟨hlt2,rfl⟩
  ·have FT : ¬k<r:=by have:=of_decide_eq_false FT;omega
   obtain rfl:k=r:=by omega
   conv=>whnf
   refine kJ (by kernel_rfl) (DN _ _ _ _ _ hb2) ?_
   rintro _ w3 ⟨t3,ht3,o3,hb3⟩
   conv=>whnf
   repeat (first | (refine ay.mk (by first | decide | omega) ?_;conv=>whnf) | (refine fO.mk rfl ?_;conv=>whnf) | (refine dW.keep rfl ?_;conv=>whnf) | (refine cO rfl (by assumption) rfl ?_;conv=>whnf) | (refine dH rfl rfl rfl ?_;conv=>whnf) | (refine bQ (by assumption) rfl rfl rfl ?_;intro _ _ _;conv=>whnf))
   rename_i w4 o4 hb4
   refine kJ (by kernel_rfl) (BL _ _ 4 (by decide) ⟨t3.a,t3.b,xor t3.c 255,t3.d⟩ _ hb4) ?_
   rintro _ w5 ⟨t5,ht5,o5,hb5⟩
   conv=>whnf
   repeat (first | (refine ay.mk (by first | decide | omega) ?_;conv=>whnf) | (refine fO.mk rfl ?_;conv=>whnf) | (refine dW.keep rfl ?_;conv=>whnf) | (refine cO rfl (by assumption) rfl ?_;conv=>whnf) | (refine dH rfl rfl rfl ?_;conv=>whnf) | (refine bQ (by assumption) rfl rfl rfl ?_;intro _ _ _;conv=>whnf))
   refine jS.mk ⟨?_, ?_⟩
   ·have:DR k0 k1 l=xor (xor (xor t5.a t5.b) t5.c) t5.d:=by
     unfold DR S4.done
     rw [←hi8, ←ht, ←hr8, ←ht3, ←ht5]
    rw [this]
    rfl
   ·exact hB2.trans (((o3.trans o4).trans o5).below (Nat.le_refl _))
def nG (n:Nat)(k:Nat):UInt8:=UInt8.ofNat (n/2^(8*k)%256)
def lG (n:Nat):Nat→List UInt8
 | 0=> []
 | k+1=>lG n k++ [nG n (7-k)]
def frame (ls:List (List UInt8)):List UInt8:=
 match ls with
 | []=> []
 | l::r=>(lG l.length 8++l)++frame r
def fD (ls:List (List UInt8))(i:Nat):List UInt8:=frame (ls.take i)
theorem rM (a b:List (List UInt8)):frame (a++b)=frame a++frame b:=by
 induction a with
 | nil=>rfl
 | cons l r ih=>simp only [List.cons_append,frame,ih,List.append_assoc]
theorem rO (ls:List (List UInt8))(i:Nat)(h:i<ls.length):fD ls (i+1)=fD ls i++(lG ls[i].length 8++ls[i]):=by
 unfold fD
 rw [List.take_succ_eq_append_getElem h,rM]
 simp [frame]
theorem mJ (n k:Nat):(lG n k).length=k:=by
 induction k with
 | zero=>rfl
 | succ k ih=>simp [lG,ih]
theorem AU (ls:List (List UInt8))(i:Nat):(fD ls i).length≤(frame ls).length:=by
 have:=rM (ls.take i) (ls.drop i)
 rw [List.take_append_drop]at this
 unfold fD
 rw [this,List.length_append]
 omega
def Zr (w:World)(vs:List Value)(ls:List (List UInt8)):Prop:=
 vs.length=ls.length∧∀i (h:i<ls.length), ∃oa c,vs[i]? = some (.slice oa ls[i].length c)∧ls[i].length≤c∧(oa=none→c=0)∧Row w oa (cZ ls[i])
theorem Zr.below {w w':World}{vs:List Value}{ls:List (List UInt8)}(h:Zr w vs ls)(hb:Below w.heap.size w w'):Zr w' vs ls:=
 ⟨h.1,fun i hi=>let ⟨oa,c,h1,h2,h3,h4⟩:=h.2 i hi;⟨oa,c,h1,h2,h3,h4.below hb⟩⟩
theorem Kr (n k:Nat)(hk:k<8)(hn:n<18446744073709551616)(x:Int)(hx:x=(8*k:Nat)) :
  IntKind.u8.wrap ((IntKind.u64.wrap (n:Int)).fdiv (2^min x.toNat IntKind.u64.bits))=((nG n k).toNat:Int):=by
 subst hx
 have h1:IntKind.u64.wrap (n:Int)=n:=IntWalk.u64_in _ (by omega)
 have h2:min ((8*k:Nat):Int).toNat IntKind.u64.bits=8*k:=by simp [IntKind.bits];omega
 rw [h1,h2,IntKind.wrap_u8]
 unfold nG
 have e1:((n:Int).fdiv (2^(8*k)))=((n/2^(8*k):Nat):Int):=by
  rw [Int.fdiv_eq_ediv_of_nonneg]
  ·simp
  ·exact Int.le_of_lt (Int.pow_pos (by decide))
 rw [e1]
 simp
theorem IZ (b:UInt8):cZ [b] = [.int .u8 b.toNat]:=rfl
theorem PU (oa:Option Addr)(c:Nat)(vs:List Value)(ls:List (List UInt8))(w:World)(hlen:ls.length≤1099511627776)(hl:(frame ls).length≤140737488355328)(hr:Row w oa vs)(hf:Zr w vs ls) :
  vS Tryz.prog 103 #[.slice oa ls.length c] w fun v w'=> ∃gG c',v = .slice gG (frame ls).length c'∧Own w' w.heap.size 5 1 gG (frame ls).length c' (cZ (frame ls))∧Below w.heap.size w w':=by
 refine eu Tryz.func103 rfl mixed (by kernel_rfl) ?_
 conv=>whnf
 refine kH (X:=Nat×Option Addr×Nat) Uy (fun x=> [(3, .slice x.2.1 (fD ls x.1).length x.2.2),(9, .int .i64 x.1)]) (fun x w'=>x.1≤ls.length∧Below w.heap.size w w'∧Own w' w.heap.size 5 1 x.2.1 (fD ls x.1).length x.2.2 (cZ (fD ls x.1))) (fun x=>ls.length-x.1) (0,none,0) (by kernel_rfl)
  ?_ ⟨Nat.zero_le _,Below.refl _ _,Own.nil _ _ _ _⟩ ?_
 ·exact⟨rfl,rfl,trivial⟩
 rintro⟨i,oo,cc⟩ w1 j ⟨hi,hB,ho⟩
 conv=>whnf
 refine ah (fun hlt=> ?_) (fun hge=> ?_)
 ·have hlt:i<ls.length:=by have:=of_decide_eq_true hlt;omega
  obtain⟨b,o,rfl,hbl,hc⟩:=hr.get (by rw [hf.1];omega)
  obtain⟨oa1,c1,hv,hc1,hn1,hr1⟩:=hf.2 i hlt
  have hr1':=hr1.below hB
  have hL1:=AU ls (i+1)
  rw [rO ls i hlt]at hL1
  simp only [List.length_append,mJ]at hL1
  conv=>whnf
  refine CP i rfl rfl rfl hlt ?_
  conv=>whnf
  refine dS rfl (by rw [hB.cell (p:=⟨b,o+i,none⟩) hbl];exact hc _ _ hv) ?_
  conv=>whnf
  refine kH (X:=Nat×Option Addr×Nat) Uz (fun x=> [(3, .slice x.2.1 ((fD ls i).length+x.1) x.2.2),(6, .int .i64 (7 -(x.1:Int)))]) (fun x w'=>x.1≤8∧Below w.heap.size w w'∧Own w' w.heap.size 5 1 x.2.1 ((fD ls i).length+x.1) x.2.2 (cZ (fD ls i++lG ls[i].length x.1))) (fun x=>8-x.1) (0,oo,cc) (by kernel_rfl)
   ?_ ⟨Nat.zero_le _,hB,by simpa [lG]using ho⟩ ?_
  ·exact⟨rfl,rfl,trivial⟩
  rintro⟨k,o2,c2⟩ w2 j2 ⟨hk,hB2,ho2⟩
  simp only at hk ho2
  conv=>whnf
  refine ah (fun hlt2=> ?_) (fun FT=> ?_)
  ·have hlt2:k<8:=by have:=of_decide_eq_true hlt2;simp only at this;omega
   conv=>whnf
   refine ay.mk (by rw [IntWalk.i64_in _ (by simp only;omega)];simp only;omega) ?_
   conv=>whnf
   refine oW (B:=w.heap.size) (sz:=1) (iy:=1) (m:=1) (n:=(fD ls i).length+k) rfl rfl rfl rfl rfl rfl (ho2.alloc _) (Row.alloc1 _ _ _) rfl (fun u hu=>by simp at hu;subst hu;rfl) (fun e=>by cases e) (by omega) (Nat.le_trans hB2.size (by simp)) (by unfold maxLen;omega) ?_
   intro o3 c3 w3 ho3 hB3 _
   conv=>whnf
   refine jQ.mk ⟨_, ?_,(k+1,o3,c3),rfl, ?_, ?_⟩
   ·show 8 -(k+1)<8-k;omega
   ·exact⟨rfl,jo (by rw [IntWalk.i64_in _ (by simp only;omega)];simp only;omega),trivial⟩
   ·refine⟨hlt2,(kK hB2 (Nat.le_refl _) _).trans hB3, ?_⟩
    simp only [lG]
    rw [←List.append_assoc,mZ,IZ]
    rw [Kr _ (7-k) (by omega) (by omega) _ (by rw [IntWalk.i64_in _ (by simp only;omega)];simp only;omega)]at ho3
    exact ho3
  ·have FT : ¬k<8:=by have:=of_decide_eq_false FT;simp only at this;omega
   obtain rfl:k=8:=by omega
   conv=>whnf
   have hr2:=hr1.below hB2
   refine oW (B:=w.heap.size) (sz:=1) (iy:=1) (m:=ls[i].length) (n:=(fD ls i).length+8) rfl rfl rfl rfl rfl rfl ho2 hr2 (by simp) (uz _) hn1 (by omega) hB2.size (by unfold maxLen;omega) ?_
   intro o3 c3 w3 ho3 hB3 _
   conv=>whnf
   have hfs:=rO ls i hlt
   have hfl:(fD ls i).length+8+ls[i].length=(fD ls (i+1)).length:=by rw [hfs];simp [mJ];omega
   refine jQ.mk ⟨_, ?_,(i+1,o3,c3),rfl, ?_, ?_⟩
   ·show ls.length -(i+1)<ls.length-i;omega
   ·exact⟨TL hfl,jo (incr (by omega)),trivial⟩
   ·refine⟨hlt,hB2.trans hB3, ?_⟩
    rw [hfl, ←mZ,List.append_assoc, ←hfs]at ho3
    exact ho3
 ·have hge : ¬i<ls.length:=by have:=of_decide_eq_false hge;omega
  obtain rfl:i=ls.length:=by simp only at hi;omega
  conv=>whnf
  have hfa:fD ls ls.length=frame ls:=by unfold fD;rw [List.take_length]
  simp only [hfa]at ho
  exact jS.mk ⟨oo,cc,by simp only [hfa];rfl,ho,hB⟩
theorem Vl (d:Int)(oa:Option Addr)(c:Nat)(vs:List Value)(ls:List (List UInt8))(w:World)(hlen:ls.length≤1099511627776)(hl:(frame ls).length≤140737488355328)(hr:Row w oa vs)(hf:Zr w vs ls) :
  vS Tryz.prog 69 #[.int .u64 d, .slice oa ls.length c] w fun v w'=>v = .int .u64 (DR d 0 (frame ls))∧Below w.heap.size w w':=by
 refine eu Tryz.func69 rfl mixed (by kernel_rfl) ?_
 conv=>whnf
 refine kJ (by kernel_rfl) (PU oa c vs ls w hlen hl hr hf) ?_
 rintro _ w1 ⟨o1,c1,rfl,ho1,hB1⟩
 conv=>whnf
 refine kJ (by kernel_rfl) (Zq d 0 o1 c1 (frame ls) w1 (by omega) ho1.row) ?_
 rintro _ w2 ⟨rfl,hB2⟩
 conv=>whnf
 exact jS.mk ⟨rfl,hB1.trans (hB2.mono hB1.size)⟩
end Go.Proofs.YtocckceefcmeaaaGreatDoor.Dg
namespace Go.Proofs.YtocckceefcmeaaaGreatDoor.Vc
open Go Go.RowKit Go.Proofs.YtocckceefcmeaaaGreatDoor.Vc Go.Proofs.YtocckceefcmeaaaGreatDoor.Dg
attribute [local irreducible] loadVar storeVar Instr.indexAt Instr.index Instr.sliceAt Instr.makeSlice Instr.lookup Instr.mapUpdate Instr.range Instr.next Instr.entry Instr.makeMap Builtin.append_ Builtin.copy_ Builtin.len_ Builtin.min_ Builtin.max_ Builtin.cap_ Builtin.delete_ Builtin.clear_ convert binOp eqGuard Op.unary Calls
theorem FU {P:Program}{w:World}{K:Value→World→Prop}{t E:TypeId}{sz n b:Nat}(ht:P.underlying t=some (.array n E))(hs:szB P E=some sz)(k:K (.slice (some ⟨b,0,none⟩) n n) w) :
  bM P (Instr.sliceAt t (.pointer (some ⟨b,0,none⟩)) none none none) w K:=by
 refine dR ?_ k
 unfold Instr.sliceAt
 rw [Sem.run_bind,aO ht]
 simp only [Result.andThen_ok,Instr.sureAddr,Sem.run_bind,Sem.run_pure,Instr.sliceBounds,fQ hs]
 by_cases h0:n=0<;>simp [h0,add0]
theorem Zt (oa vT:Option Addr)(n c m c2:Nat)(b d:List UInt8)(w:World)(hn:n=b.length)(hm:m=d.length)(hl:b.length+d.length≤2000000)(hc:n≤c)(hnil:oa=none→c=0)(hnil2:vT=none→c2=0)(hr:Row w oa (cZ b))(hr2:Row w vT (cZ d)) :
  vS Tryz.prog 65 #[.slice oa n c, .slice vT m c2] w fun v w'=> ∃gG c',v = .slice gG (n+m) c'∧Own w' w.heap.size 5 1 gG (n+m) c' (cZ (b++d))∧Below w.heap.size w w':=by
 refine eu Tryz.func65 rfl mixed (by kernel_rfl) ?_
 have e0:IntKind.i64.wrap ((n:Int)+(m:Int))=((n+m:Nat):Int):=by rw [IntWalk.i64_in _ (by omega)];omega
 have lb : ∀l:List UInt8,(cZ l).length=l.length:=fun l=>by simp [cZ]
 conv=>whnf
 rw [e0]
 refine Ax.Fp (n:=0) (m:=n+m) (sz:=1) (iy:=1) rfl rfl rfl rfl rfl rfl (Nat.zero_le _) (by omega) (by unfold maxLen;omega) ?_
 intro w1 hw1 hb1
 have hB1:Below w.heap.size w w1:=by rw [hw1];exact kK (Below.refl _ _) (Nat.le_refl _) _
 have hO1:Own w1 w.heap.size 5 1 (some ⟨w.heap.size,0,none⟩) 0 (n+m) []:=Own.vU hb1 (Nat.le_refl _) (Nat.zero_le _) (by unfold maxLen;omega) (by simp [Value.cells]) (by simp)
 conv=>whnf
 refine oW (B:=w.heap.size) (sz:=1) (iy:=1) (m:=n) (n:=0) rfl rfl rfl rfl rfl rfl hO1 (hr.below hB1) (by rw [lb];omega) (uz _) hnil (by omega) hB1.size (by unfold maxLen;omega) ?_
 intro o2 c2' w2 hO2 hB2 _
 conv=>whnf
 refine oW (B:=w.heap.size) (sz:=1) (iy:=1) (m:=m) (n:=0+n) rfl rfl rfl rfl rfl rfl hO2 (hr2.below (hB1.trans hB2)) (by rw [lb];omega) (uz _) hnil2 (by omega) (Nat.le_trans hB1.size hB2.size) (by unfold maxLen;omega) ?_
 intro o3 c3' w3 hO3 hB3 _
 have hB:=(hB1.trans hB2).trans hB3
 rw [Nat.zero_add,List.nil_append, ←mZ]at hO3
 clear hO1 hO2 hB1 hB2 hB3
 rw [Nat.zero_add]
 conv=>whnf
 exact jS.mk ⟨o3,c3',rfl,hO3,hB⟩
def Na (x i:Nat):List Value:=(List.range 8).map fun j=>if j<i then .int .u8 ((nG x (7-j)).toNat:Int)else .int .u8 0
theorem PV (x i:Nat):(Na x i).set i (.int .u8 ((nG x (7-i)).toNat:Int))=Na x (i+1):=by
 unfold Na
 apply List.ext_getElem
 ·simp
 ·intro k h1 h2
  simp only [List.getElem_set,List.getElem_map,List.getElem_range]
  by_cases hk:i=k
  ·subst hk;simp
  ·rw [if_neg hk]
   by_cases hki:k<i
   ·rw [if_pos hki,if_pos (by omega)]
   ·rw [if_neg hki,if_neg (by omega)]
theorem PW (x:Nat):Na x 8=cZ (lG x 8):=rfl
theorem I4 (oa:Option Addr)(n c:Nat)(b:List UInt8)(x:Nat)(w:World)(hn:n=b.length)(hl:b.length≤1000000)(hc:n≤c)(hnil:oa=none→c=0)(hx:x<18446744073709551616)(hr:Row w oa (cZ b)) :
  vS Tryz.prog 68 #[.slice oa n c, .int .u64 x] w fun v w'=> ∃gG c',v = .slice gG (n+8) c'∧Own w' w.heap.size 5 1 gG (n+8) c' (cZ (b++lG x 8))∧Below w.heap.size w w':=by
 refine eu Tryz.func68 rfl mixed (by kernel_rfl) ?_
 conv=>whnf
 refine kH (X:=Nat) Zg (fun i=> [(7, .int .i64 i)]) (fun i w'=>i≤8∧Below w.heap.size w w'∧jf w' w.heap.size (Na x i) 137) (fun i=>8-i) 0 (by kernel_rfl) ?_ ⟨by decide,kK (Below.refl _ _) (Nat.le_refl _) _,jf.new w _ _⟩ ?_
 ·exact⟨rfl,trivial⟩
 rintro i w2 j ⟨hi,hB2,hb2⟩
 conv=>whnf
 refine ah (fun hlt=> ?_) (fun hge=> ?_)
 ·have hlt:i<8:=by have:=of_decide_eq_true hlt;omega
  have e1:IntKind.i64.wrap (8*(i:Int))=((8*i:Nat):Int):=by rw [IntWalk.i64_in _ (by omega)];omega
  have e2:IntKind.i64.wrap (56-IntKind.i64.wrap (8*(i:Int)))=((8*(7-i):Nat):Int):=by rw [e1,IntWalk.i64_in _ (by omega)];omega
  conv=>whnf
  refine ay.mk (by rw [e2];omega) ?_
  conv=>whnf
  refine wW i rfl rfl rfl hlt ?_
  conv=>whnf
  refine uy hb2 rfl rfl (by simp [Na];omega) ?_
  intro w3 o3 hb3
  conv=>whnf
  refine jQ.mk ⟨_, ?_,i+1,rfl, ?_, ?_⟩
  ·show 8 -(i+1)<8-i;omega
  ·exact⟨jo (incr (by omega)),trivial⟩
  ·refine⟨hlt,hB2.trans (o3.below (Nat.le_refl _)), ?_⟩
   rw [e2]at hb3
   have:=Kr x (7-i) (by omega) hx _ (rfl:((8*(7-i):Nat):Int)=_)
   rw [IntWalk.u64_in _ (by omega)]at this
   rw [Nat.zero_add,this,PV x i]at hb3
   exact hb3
 ·have hge : ¬i<8:=by have:=of_decide_eq_false hge;omega
  obtain rfl:i=8:=by omega
  rw [PW]at hb2
  conv=>whnf
  refine FU (E:=5) (n:=8) rfl rfl ?_
  conv=>whnf
  refine kJ (by kernel_rfl) (Zt oa (some ⟨w.heap.size,0,none⟩) n c 8 8 b (lG x 8) w2 hn (mJ _ _).symm (by rw [mJ];omega) hc hnil (fun e=>by cases e) (hr.below hB2) hb2.row) ?_
  rintro _ w3 ⟨o3,c3,rfl,hO3,hB3⟩
  have hB:=hB2.trans (hB3.mono hB2.size)
  have hO:Own w3 w.heap.size 5 1 o3 (n+8) c3 (cZ (b++lG x 8)):=⟨hO3.1,hO3.2.imp id fun⟨g,cap,cur,h1,h0,h2⟩=>⟨g,cap,cur,h1,Nat.le_trans hB2.size h0,h2⟩⟩
  clear hO3 hB3
  conv=>whnf
  exact jS.mk ⟨o3,c3,rfl,hO,hB⟩
theorem Own.cut {w:World}{B:Nat}{E:TypeId}{sz:Nat}{oa:Option Addr}{n c h:Nat}{xs:List Value}(hO:Own w B E sz oa n c xs)(hh:h≤n):Own w B E sz oa h c (xs.take (h*sz)):=by
 have hl:=hO.1
 have hm:h*sz≤n*sz:=Nat.mul_le_mul_right _ hh
 refine⟨by rw [List.length_take];omega, ?_⟩
 rcases hO.2 with ⟨hv,hn⟩ | ⟨g,cap,cur,hv,hg,hb,h1,h2,h3,h4⟩
 ·injection hv with e1 e2 e3
  subst e1;subst e3
  exact .inl ⟨by rw [show h=0 by omega],by omega⟩
 ·injection hv with e1 e2 e3
  subst e1;subst e3
  exact .inr ⟨g,c,cur,rfl,hg,hb,by omega,h2,h3,by rw [←h4,List.take_take,Nat.min_eq_left hm]⟩
theorem Vm {w:World}{B:Nat}{E:TypeId}{sz:Nat}{oa:Option Addr}{n c:Nat}{xs:List Value}(hO:Own w B E sz oa n c xs):n≤c:=by
 rcases hO.2 with ⟨hv,hn⟩ | ⟨g,cap,cur,hv,hg,hb,h1,_⟩
 ·omega
 ·injection hv with _ _ e3
  omega
theorem I5 {P:Program}{w:World}{K:Value→World→Prop}{t ty E:TypeId}{oa:Option Addr}{n c:Nat}(ht:P.underlying t=some (.slice E))(k:K (.int .i64 c) w):bM P (Builtin.cap_ #[t] ty #[.slice oa n c]) w K:=by
 refine dR ?_ k
 unfold Builtin.cap_
 simp [Sem.run_bind,aO ht,goInt]
theorem I7 {P:Program}{w:World}{K:Value→World→Prop}{t tn ty E:TypeId}{sz iy n:Nat}{kn k:IntKind}{zs:List Value}(ht:P.underlying t=some (.slice E))(htn:P.underlying tn=some (.int kn))(hs:szB P E=some sz)(hby:fG P E=some iy)(hz:lu P E=some zs)
  (hzl:zs.length=sz) (hsz:Nat.ble 1 sz=true) (h0:0<n) (hbytes:n*iy≤140737488355328) (hn:n≤maxLen)
  (hk : ∀c w' xs,Own w' w.heap.size E sz (some ⟨w.heap.size,0,none⟩) n c xs→Below w.heap.size w w'→K (.slice (some ⟨w.heap.size,0,none⟩) n c) w') :
  bM P (Builtin.append_ #[t,tn] ty #[.slice none 0 0, .int k (n:Int)]) w K:=by
 obtain⟨i,hi,rfl⟩:=fP hs
 have hb':i.bytes=iy:=by simpa [fG,hi]using hby
 subst hb'
 obtain⟨z,hz1,hz2⟩ : ∃z,i.zero=some z∧z.cells.toList=zs:=by
  unfold lu at hz
  simp only [hi,Option.bind_some]at hz
  cases hzz:i.zero with
  | none=>simp [hzz]at hz
  | some z=>simp only [hzz,Option.map_some,Option.some.injEq]at hz;exact⟨z,rfl,hz⟩
 have hsz':1≤i.size:=Nat.le_of_ble_eq_true hsz
 have hzc:z.cells.size=i.size:=by rw [←hz2]at hzl;simpa using hzl
 have hrun:=Lib.run_append_nil_zeros (P:=P) w t tn ty E i z k kn ht htn hi hz1 n h0 (by omega) (by unfold maxLen at hn;omega) (by omega)
 have hge:=grownCap_ge w n 0 E
 have hcm:=grownCap_le_maxLen w n 0 E hn
 have hcs : ∀m,(Builtin.zeroCells z.cells m).size=m*i.size:=fun m=>by simp [Builtin.zeroCells,hzc]
 refine dR hrun (hk _ _ ((Builtin.zeroCells z.cells n++Builtin.zeroCells z.cells (grownCap w n 0 E-n)).toList.take (n*i.size)) (Own.vU (cur:=(Builtin.zeroCells z.cells n++Builtin.zeroCells z.cells (grownCap w n 0 E-n)).toList) ?_ (Nat.le_refl _) hge hcm ?_ rfl) ?_)
 ·have:=jf.new w.drew (Builtin.zeroCells z.cells n++Builtin.zeroCells z.cells (grownCap w n 0 E-n)) E
  simpa using this
 ·rw [Array.length_toList,Array.size_append,hcs,hcs, ←Nat.add_mul]
  congr 1;omega
 ·exact kK (Below.drew (Below.refl _ _)) (Nat.le_refl _) _
theorem PX (n:Nat)(w:World)(hn:0<n)(hl:n≤1000000) :
  vS Tryz.prog 88 #[.slice none 0 0, .int .i64 n] w fun v w'=> ∃oa c,v = .slice oa 0 c∧Own w' w.heap.size 95 10 oa 0 c []∧Below w.heap.size w w':=by
 refine eu Tryz.func88 rfl mixed (by kernel_rfl) ?_
 conv=>whnf
 refine I5 rfl ?_
 have e0:IntKind.i64.wrap ((n:Int)-IntKind.i64.wrap (((0:Nat):Int) -((0:Nat):Int)))=(n:Int):=by rw [IntWalk.i64_in (((0:Nat):Int) -((0:Nat):Int)) (by omega),IntWalk.i64_in _ (by omega)];omega
 conv=>whnf
 rw [e0,show decide ((n:Int)>0)=true from decide_eq_true (by omega)]
 conv=>whnf
 refine I5 rfl ?_
 conv=>whnf
 refine yB (h:=0) (sz:=10) rfl rfl rfl (Nat.le_refl _) (Nat.le_refl _) ?_
 conv=>whnf
 refine I7 (sz:=10) (iy:=112) rfl rfl rfl rfl rfl rfl rfl hn (by omega) (by unfold maxLen;omega) ?_
 intro c w1 xs hO hB
 have hc:=Vm hO
 conv=>whnf
 refine yB (h:=0) (sz:=10) rfl rfl rfl (Nat.zero_le _) hc ?_
 conv=>whnf
 exact jS.mk ⟨_,_,rfl,by have:=hO.cut (Nat.zero_le n);simpa using this,hB⟩
end Go.Proofs.YtocckceefcmeaaaGreatDoor.Vc
