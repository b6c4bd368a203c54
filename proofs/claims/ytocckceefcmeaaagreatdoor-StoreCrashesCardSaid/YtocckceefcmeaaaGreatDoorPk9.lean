/- Joined parts of the proof. The orders in which the reckoner walks the regions that draw theirs: printed by a program of ours, each is checked where -/
import Derived.Test.YtocckceefcmeaaaGreatDoorPk2
import Derived.Test.YtocckceefcmeaaaGreatDoorProg
import Derived.KernelRfl
import Derived.IntWalk
import Derived.Test.YtocckceefcmeaaaGreatDoorPk8
import Derived.Lib.AppendZeros
set_option linter.unusedVariables false
set_option linter.unusedSimpArgs false
set_option maxRecDepth 100000
set_option maxHeartbeats 16000000
namespace Go.Proofs.YtocckceefcmeaaaGreatDoor.Vc
def acd:List (Nat×Nat):= [(4,4),(7,18),(31,170)]
def dB (id:Nat):Plan:=
 match id with
 | 12=>(.take 0 (.take 1 (.take 2 (.take 3 (.take 4 (.take 5 (.take 6 (.take 7 (.take 8 (.post 9 (.take 10 (.post 11 .done))))))))))))
 | 13=>(.take 1 (.take 3 (.take 4 (.take 5 (.take 6 (.take 7 (.one 0 (.one 2 (.post 8 (.post 9 (.take 10 .done)))))))))))
 | 14=>(.take 0 (.take 1 (.take 2 (.take 3 (.take 4 (.take 5 (.two 6 (.two 7 (.take 8 (.take 9 (.take 10 (.one 11 (.one 12 (.take 13 .done)))))) 11 (.one 7 (.take 8 (.take 9 (.take 10 (.one 12 (.take 13 .done))))))) 11 (.one 6 (.one 7 (.take 8 (.take 9 (.take 10 (.one 12 (.take 13 .done))))))))))))))
 | 23=>(.take 0 (.take 1 (.take 2 (.take 3 (.take 4 (.take 5 (.post 6 (.post 7 .done))))))))
 | 25=>(.take 0 (.take 1 (.take 2 (.take 3 (.take 4 (.take 5 (.take 6 (.take 7 (.two 8 (.two 9 (.take 10 (.take 11 (.take 12 (.one 13 (.one 14 (.take 15 .done)))))) 13 (.one 9 (.take 10 (.take 11 (.take 12 (.one 14 (.take 15 .done))))))) 13 (.one 8 (.one 9 (.take 10 (.take 11 (.take 12 (.one 14 (.take 15 .done))))))))))))))))
 | 27=>(.take 0 (.take 1 (.take 2 (.take 3 (.take 4 (.take 5 (.take 6 (.post 7 (.post 8 .done)))))))))
 | 31=>(.take 0 (.take 1 (.take 2 (.take 4 (.take 5 (.take 6 (.one 3 (.post 7 (.take 8 (.take 9 .done))))))))))
 | 34=>(.take 0 (.take 1 (.take 2 (.take 3 (.post 4 .done)))))
 | _=> .done
def Zw:List (Nat×Nat):= [(10,12),(47,67)]
def ace (id:Nat):Plan:=
 match id with
 | 13=>(.take 0 (.take 1 (.take 2 (.take 3 (.take 4 (.take 5 (.take 6 (.take 7 (.take 8 (.one 9 (.one 10 (.post 11 (.take 12 .done)))))))))))))
 | _=> .done
def Zx:List (Nat×Nat):= [(2,5),(7,7),(9,9),(26,37)]
def acf (id:Nat):Plan:=
 match id with
 | 18=>(.take 0 (.take 1 (.take 2 (.take 3 (.take 4 (.take 5 (.take 6 (.take 7 (.take 8 .done)))))))))
 | _=> .done
def Zy:List (Nat×Nat):= [(2,25)]
def Zz:List (Nat×Nat):= [(6,6),(15,40)]
def ZA:List (Nat×Nat):= [(6,7),(17,65)]
def Qp (id:Nat):Plan:=
 match id with
 | 9=>(.take 0 (.take 1 (.take 2 (.take 3 (.take 4 (.take 5 (.take 6 (.take 7 (.take 8 (.take 9 (.take 10 (.take 11 (.take 12 .done)))))))))))))
 | 11=>(.take 0 (.take 1 (.take 2 (.take 3 (.take 4 (.take 5 (.take 6 (.take 7 (.take 8 (.post 9 .done))))))))))
 | _=> .done
def Qq:List (Nat×Nat):= [(4,5),(11,25)]
def Yz (id:Nat):Plan:=
 match id with
 | 6=>(.take 0 (.take 1 (.take 2 (.take 3 (.take 4 (.take 5 (.take 6 (.take 7 (.take 8 .done)))))))))
 | _=> .done
def YA (id:Nat):Plan:=
 match id with
 | 3=>(.take 0 (.take 1 (.take 2 (.take 3 (.take 4 (.take 5 (.take 6 (.take 7 (.take 8 (.take 9 (.take 10 (.take 11 (.take 12 (.take 13 (.take 14 (.take 15 (.take 16 (.take 17 (.take 18 (.take 19 (.take 20 (.take 21 (.take 22 (.take 23 (.take 24 (.take 25 (.take 26 (.take 27 (.take 28 (.take 29 (.take 30 (.take 31 (.take 32 (.take 33 (.take 34 (.take 35 (.take 36 (.take 37 (.take 38 (.take 39 (.take 40 (.one 41 (.post 42 .done)))))))))))))))))))))))))))))))))))))))))))
 | 4=>(.take 0 (.take 1 (.take 2 (.take 3 (.take 4 (.take 5 (.take 6 (.take 7 (.take 8 (.take 9 (.take 10 (.take 11 (.take 12 (.take 13 (.take 14 (.take 15 (.one 16 (.one 17 (.take 18 (.one 19 (.take 20 .done)))))))))))))))))))))
 | _=> .done
def ZB:List (Nat×Nat):= [(6,9),(17,31)]
def acg (id:Nat):Plan:=
 match id with
 | 2=>(.take 0 (.take 1 (.take 2 (.take 4 (.take 5 (.take 6 (.one 3 (.take 8 (.one 7 (.post 9 (.take 10 (.post 11 .done))))))))))))
 | _=> .done
def ZC:List (Nat×Nat):= [(2,4),(7,7),(10,16),(34,66)]
def ZE:List (Nat×Nat):= [(3,3),(5,7),(10,32)]
def ZF:List (Nat×Nat):= [(4,4),(6,8),(21,35)]
def ach (id:Nat):Plan:=
 match id with
 | 20=>(.take 0 (.take 1 (.take 2 (.take 3 (.take 4 (.take 5 (.take 6 (.take 7 (.one 8 (.take 9 (.post 10 (.take 11 .done))))))))))))
 | _=> .done
def ZG:List (Nat×Nat):= [(5,5),(19,35)]
def YB (id:Nat):Plan:=
 match id with
 | 7=>(.take 0 (.take 1 (.one 2 (.one 3 (.post 4 (.take 5 (.post 6 .done)))))))
 | 8=>(.take 0 (.take 1 (.one 2 (.one 3 (.post 4 (.take 5 (.post 6 .done)))))))
 | _=> .done
def ZH:List (Nat×Nat):= [(2,2),(5,5),(39,61)]
def ZI:List (Nat×Nat):= [(2,3),(5,6),(14,23)]
def aci (id:Nat):Plan:=
 match id with
 | 13=>(.take 0 (.take 1 (.one 2 (.post 3 (.post 4 .done)))))
 | _=> .done
def ZJ:List (Nat×Nat):= [(3,3),(5,5),(11,22)]
def ZK:List (Nat×Nat):= [(6,6),(8,8),(27,34)]
def ZL:List (Nat×Nat):= [(7,11),(16,37)]
def ZM:List (Nat×Nat):= [(4,5),(7,11),(16,116)]
def jK (id:Nat):Plan:=
 match id with
 | 12=>(.take 1 (.take 4 (.take 5 (.take 6 (.take 7 (.take 8 (.take 9 (.three 0 (.take 2 (.take 3 (.two 10 (.two 11 (.take 12 (.one 13 (.post 14 .done))) 13 (.one 11 (.take 12 (.post 14 .done)))) 13 (.one 10 (.one 11 (.take 12 (.post 14 .done))))))) 10 (.three 0 (.take 2 (.take 3 (.two 11 (.take 12 (.one 13 (.post 14 .done))) 13 (.one 11 (.take 12 (.post 14 .done)))))) 11 (.two 0 (.take 2 (.take 3 (.take 12 (.one 13 (.post 14 .done))))) 13 (.one 0 (.take 2 (.take 3 (.take 12 (.post 14 .done)))))) 13 (.two 0 (.take 2 (.take 3 (.one 11 (.take 12 (.post 14 .done))))) 11 (.one 0 (.take 2 (.take 3 (.take 12 (.post 14 .done))))))) 13 (.two 0 (.take 2 (.take 3 (.one 10 (.one 11 (.take 12 (.post 14 .done)))))) 10 (.two 0 (.take 2 (.take 3 (.one 11 (.take 12 (.post 14 .done))))) 11 (.one 0 (.take 2 (.take 3 (.take 12 (.post 14 .done)))))))))))))))
 | 18=>(.take 1 (.take 6 (.take 11 (.take 15 (.take 19 (.one 0 (.one 2 (.take 3 (.take 4 (.take 5 (.one 7 (.take 8 (.take 9 (.take 10 (.one 12 (.take 13 (.take 14 (.one 16 (.take 17 (.take 18 (.one 20 (.take 21 (.one 22 (.take 23 (.one 24 (.take 25 (.post 26 .done)))))))))))))))))))))))))))
 | 21=>(.take 0 (.take 2 (.take 3 (.one 1 (.take 4 .done)))))
 | 14=>(.take 1 (.take 6 (.take 9 (.one 0 (.one 2 (.take 3 (.take 4 (.take 5 (.one 7 (.take 8 (.one 10 (.take 11 (.one 12 (.take 13 (.post 14 .done)))))))))))))))
 | _=> .done
def ZN:List (Nat×Nat):= [(3,4),(12,21)]
def ZO:List (Nat×Nat):= [(6,18)]
def ZP:List (Nat×Nat):= [(3,3),(5,5),(8,17)]
def acj (id:Nat):Plan:=
 match id with
 | 7=>(.take 0 (.take 1 (.take 2 (.take 3 (.take 4 (.take 5 (.take 6 (.take 7 (.take 8 (.take 9 (.take 10 .done)))))))))))
 | _=> .done
def ZQ:List (Nat×Nat):= [(2,3),(6,10),(23,47)]
def La (id:Nat):Plan:=
 match id with
 | 1=>(.take 0 (.take 1 (.take 2 (.take 3 (.take 4 (.take 5 (.take 6 (.take 7 (.take 8 (.take 9 (.take 10 (.take 11 .done))))))))))))
 | _=> .done
def ZR:List (Nat×Nat):= [(3,3),(5,7),(9,11),(18,71)]
def Ec:List (Nat×Nat):= [(6,7),(24,38)]
def Ed:List (Nat×Nat):= [(3,3),(9,11),(46,70)]
def vV:List (Nat×Nat):= [(10,11),(52,65)]
def Lc (id:Nat):Plan:=
 match id with
 | 10=>(.take 0 (.take 1 (.take 2 (.take 3 (.take 4 (.take 5 (.one 6 (.take 7 (.take 8 (.one 9 (.post 10 (.take 11 .done))))))))))))
 | _=> .done
def acn (id:Nat):Plan:=
 match id with
 | 1=>(.take 0 (.take 1 (.take 2 (.take 3 (.take 4 (.take 5 (.take 6 (.take 7 (.take 8 (.take 9 (.take 10 .done)))))))))))
 | _=> .done
def YC (id:Nat):Plan:=
 match id with
 | 1=>(.take 0 (.take 1 (.take 2 (.take 3 (.take 4 (.take 5 (.take 6 (.take 7 (.take 8 (.take 9 .done))))))))))
 | 4=>(.take 0 (.take 1 (.take 2 (.take 3 (.take 4 (.take 5 (.take 6 (.take 7 (.take 8 (.take 9 (.take 10 (.take 11 (.take 12 (.take 13 (.take 14 .done)))))))))))))))
 | _=> .done
def U5:List (Nat×Nat):= [(9,11),(26,50)]
def U6:List (Nat×Nat):= [(10,11),(33,48)]
def U7:List (Nat×Nat):= [(8,8),(12,12),(54,74)]
def U8:List (Nat×Nat):= [(3,3),(5,6),(9,30)]
def U9:List (Nat×Nat):= [(3,3),(6,6),(13,26)]
def Va:List (Nat×Nat):= [(2,5),(11,75)]
def Vb:List (Nat×Nat):= [(4,6),(13,13),(15,19),(21,25),(62,141)]
def yc:List (Nat×Nat):= [(19,19),(85,99)]
def yg:List (Nat×Nat):= [(4,6),(13,13),(21,25),(103,140)]
def qm:List (Nat×Nat):= [(25,25),(126,139)]
def mW (id:Nat):Plan:=
 match id with
 | 20=>(.take 0 (.take 1 (.take 2 (.take 3 (.take 4 (.take 6 (.take 7 (.take 8 (.take 9 (.one 5 (.take 10 (.post 11 .done))))))))))))
 | 32=>(.take 0 (.take 1 (.take 2 (.take 3 (.take 5 (.take 6 (.take 7 (.take 8 (.one 4 (.take 9 (.post 10 .done)))))))))))
 | _=> .done
def Vd:List (Nat×Nat):= [(2,5),(18,49)]
def Ve:List (Nat×Nat):= [(2,2),(7,7),(52,59)]
def Vf:List (Nat×Nat):= [(4,30)]
def ZT (id:Nat):Plan:=
 match id with
 | 3=>(.take 0 (.take 1 (.take 2 (.take 3 (.take 4 (.take 5 (.take 6 .done)))))))
 | _=> .done
def Vg (id:Nat):Plan:=ZT id
def Ee:List (Nat×Nat):= [(4,4),(6,6),(23,30)]
def Ef:List (Nat×Nat):= [(7,7),(9,11),(33,47)]
def Vh:List (Nat×Nat):= [(2,6),(8,37)]
def Vj:List (Nat×Nat):= [(4,5),(7,7),(18,30)]
def Qr (id:Nat):Plan:=
 match id with
 | 1=>(.take 0 (.take 1 (.take 2 (.take 3 (.take 4 (.take 5 (.take 6 (.take 7 (.take 8 (.take 9 .done))))))))))
 | 5=>(.take 0 (.take 1 (.take 2 (.take 3 (.take 4 (.take 5 (.take 6 (.take 7 (.take 8 (.take 9 .done))))))))))
 | _=> .done
def Qs (id:Nat):Plan:=
 match id with
 | 0=>(.take 0 (.take 1 (.take 2 (.take 3 (.take 4 (.take 5 (.one 6 (.take 7 (.post 8 .done)))))))))
 | _=> .done
def Vk:List (Nat×Nat):= [(4,5),(11,21)]
def Ld (id:Nat):Plan:=
 match id with
 | 0=>(.take 0 (.take 1 (.take 2 (.take 3 (.take 4 (.take 5 (.take 6 (.take 7 (.sink 8)))))))))
 | 2=>(.take 0 (.take 1 (.take 2 (.take 3 (.take 4 (.take 5 (.take 6 (.take 7 (.sink 8)))))))))
 | _=> .done
def Vl:List (Nat×Nat):= [(5,119)]
def jR (id:Nat):Plan:=
 match id with
 | 2=>(.take 0 (.take 1 (.take 2 (.take 3 (.take 4 (.take 5 (.take 6 (.take 7 (.take 8 (.take 9 (.take 10 (.sink 11))))))))))))
 | 3=>(.take 0 (.take 1 (.take 2 (.take 3 (.take 4 (.take 6 (.take 7 (.take 8 (.take 9 (.take 11 (.one 5 (.take 10 (.take 12 (.sink 13))))))))))))))
 | 4=>(.take 0 (.take 1 (.take 2 (.take 3 (.take 4 (.take 6 (.one 5 (.take 7 (.sink 8)))))))))
 | 5=>(.take 0 (.take 1 (.take 2 (.take 3 (.take 4 (.take 5 (.take 6 (.take 7 (.take 8 (.take 9 (.take 10 (.sink 11))))))))))))
 | 6=>(.take 0 (.take 1 (.take 2 (.take 3 (.take 4 (.take 6 (.take 7 (.take 8 (.take 9 (.take 11 (.one 5 (.take 10 (.take 12 (.sink 13))))))))))))))
 | 7=>(.take 0 (.take 1 (.take 2 (.take 3 (.take 4 (.take 5 (.take 6 (.take 7 (.take 8 (.take 9 (.take 10 (.sink 11))))))))))))
 | 8=>(.take 0 (.take 1 (.take 2 (.take 3 (.take 4 (.take 6 (.take 7 (.take 8 (.take 9 (.take 11 (.one 5 (.take 10 (.take 12 (.sink 13))))))))))))))
 | 9=>(.take 0 (.take 1 (.take 2 (.take 3 (.take 4 (.take 5 (.take 6 (.take 7 (.take 8 (.take 9 (.take 10 (.sink 11))))))))))))
 | 10=>(.take 0 (.take 1 (.take 2 (.take 3 (.take 4 (.take 6 (.take 7 (.take 8 (.take 9 (.take 11 (.one 5 (.take 10 (.take 12 (.sink 13))))))))))))))
 | 11=>(.take 0 (.take 1 (.take 2 (.take 3 (.take 4 (.take 6 (.one 5 (.take 7 (.sink 8)))))))))
 | _=> .done
def Vm:List (Nat×Nat):= [(7,8),(10,10),(25,41)]
def Vo:List (Nat×Nat):= [(2,4),(9,9),(15,15),(57,76)]
def zQ (id:Nat):Plan:=
 match id with
 | 8=>(.take 1 (.take 2 (.take 5 (.take 6 (.take 8 (.take 12 (.one 0 (.take 3 (.take 4 (.one 7 (.one 9 (.take 10 (.take 11 (.post 13 (.take 14 (.take 15 (.take 16 (.take 17 (.take 18 .done)))))))))))))))))))
 | _=> .done
def Vp:List (Nat×Nat):= [(4,5),(8,18)]
def Vq:List (Nat×Nat):= [(3,8),(13,35)]
def Vr:List (Nat×Nat):= [(12,12),(42,55)]
def Vs:List (Nat×Nat):= [(10,12),(57,94)]
def Vt:List (Nat×Nat):= [(12,12),(80,93)]
def Vu:List (Nat×Nat):= [(7,9),(13,30)]
def ZU (id:Nat):Plan:=
 match id with
 | 1=>(.take 0 (.take 1 (.take 3 (.take 4 (.one 2 (.take 6 (.one 5 (.post 7 (.take 8 (.post 9 .done))))))))))
 | _=> .done
def Vw:List (Nat×Nat):= [(2,43)]
def Vx:List (Nat×Nat):= [(1,3),(8,133)]
def Vy:List (Nat×Nat):= [(0,0),(6,6),(9,16)]
def Vz:List (Nat×Nat):= [(7,7),(10,23)]
def VA:List (Nat×Nat):= [(0,0),(5,39)]
def VB:List (Nat×Nat):= [(6,6),(12,28)]
def ZV (id:Nat):Plan:=
 match id with
 | 4=>(.take 0 (.take 1 (.take 2 (.take 3 (.take 4 (.take 5 (.take 6 (.take 7 (.take 8 (.take 9 (.take 10 (.take 11 (.take 12 (.take 13 (.take 14 .done)))))))))))))))
 | _=> .done
def VD:List (Nat×Nat):= [(4,5),(7,9),(12,40)]
def VE:List (Nat×Nat):= [(0,0),(5,5),(7,7),(10,20)]
def VF:List (Nat×Nat):= [(8,8),(15,31)]
def ZW (id:Nat):Plan:=
 match id with
 | 5=>(.take 0 (.take 1 (.take 2 (.take 3 (.take 4 (.take 5 (.take 6 (.take 7 (.take 8 (.take 9 (.take 10 (.post 11 .done))))))))))))
 | _=> .done
def VG:List (Nat×Nat):= [(0,0),(7,9),(24,37)]
def VH:List (Nat×Nat):= [(8,8),(16,29)]
def Le:List (Nat×Nat):= [(4,5),(9,10),(30,55)]
def VI:List (Nat×Nat):= [(8,12),(36,71)]
def VJ:List (Nat×Nat):= [(11,12),(47,70)]
def ZX (id:Nat):Plan:=
 match id with
 | 13=>(.take 0 (.take 1 (.take 2 (.take 3 (.take 4 (.take 5 (.take 6 (.take 7 (.take 8 (.take 9 (.take 10 (.take 11 (.take 12 (.take 13 (.take 14 (.post 15 .done))))))))))))))))
 | _=> .done
def VK:List (Nat×Nat):= [(9,13),(39,74)]
def VL:List (Nat×Nat):= [(11,13),(43,65)]
def VN:List (Nat×Nat):= [(6,7),(10,48)]
def VO:List (Nat×Nat):= [(8,8),(34,46)]
def ZY (id:Nat):Plan:=
 match id with
 | 9=>(.take 0 (.take 1 (.take 2 (.take 3 (.take 4 (.take 5 (.take 6 (.one 7 (.take 8 (.take 9 .done))))))))))
 | _=> .done
def VP:List (Nat×Nat):= [(7,9),(13,30)]
def VQ:List (Nat×Nat):= [(3,4),(12,23)]
def VR:List (Nat×Nat):= [(3,4),(12,23)]
end Go.Proofs.YtocckceefcmeaaaGreatDoor.Vc
namespace Go.Proofs.YtocckceefcmeaaaGreatDoor.Dg
open Go Go.RowKit Go.Proofs.YtocckceefcmeaaaGreatDoor.Vc
attribute [local irreducible] loadVar storeVar Instr.indexAt Instr.index Instr.sliceAt Instr.makeSlice Instr.lookup Instr.mapUpdate Instr.range Instr.next Instr.entry Instr.makeMap Builtin.append_ Builtin.copy_ Builtin.len_ Builtin.min_ Builtin.max_ Builtin.cap_ Builtin.delete_ Builtin.clear_ convert binOp eqGuard Op.unary Calls
theorem mixed:Tryz.prog.follows .mixedOrders=true:=by kernel_rfl
def Gq (x:Int)(n:Nat):Int:=bn .or .u64 (IntKind.u64.wrap (x*2^n)) (x.fdiv (2^(64-n)))
theorem vW (x k:Int)(n:Nat)(hk:bn .and .u64 (IntKind.u64.wrap k) 63=n)(h0:0<n)(h1:n<64)(w:World) :
  wQ Tryz.prog 164 #[.int .u64 x, .int .i64 k] w fun v w'=>v = .int .u64 (Gq x n)∧w'=w:=by
 have e3:IntKind.u64.wrap (64 -(n:Int))=64-n:=IntWalk.u64_in _ (by omega)
 refine fE Tryz.func164 rfl mixed (by kernel_rfl) ?_
 conv=>whnf
 refine ay.mk (by rw [hk];omega) ?_
 conv=>whnf
 refine ay.mk ?_ ?_
 ·rw [hk,e3];omega
 conv=>whnf
 refine kN.mk ⟨?_,rfl⟩
 show Value.int .u64 _=_
 rw [hk,e3]
 unfold Gq
 have e1:min (n:Int).toNat IntKind.u64.bits=n:=by simp [IntKind.bits];omega
 have e2:min (64 -(n:Int)).toNat IntKind.u64.bits=64-n:=by simp [IntKind.bits]
 rw [e1,e2]
structure S4 where
 a:Int
 b:Int
 c:Int
 d:Int
def u (x:Int):Value:= .int .u64 x
def add (x y:Int):Int:=IntKind.u64.wrap (x+y)
def xor (x y:Int):Int:=bn .xor .u64 x y
def S4.round (s:S4):S4:=
 let a:=add s.a s.b
 let b:=xor (Gq s.b 13) a
 let a:=Gq a 32
 let c:=add s.c s.d
 let d:=xor (Gq s.d 16) c
 let a:=add a d
 let d:=xor (Gq d 21) a
 let c:=add c b
 let b:=xor (Gq b 17) c
 let c:=Gq c 32
 ⟨a,b,c,d⟩
def S4.rounds (s:S4):Nat→S4
 | 0=>s
 | n+1=>(s.rounds n).round
@[reducible] def S4.cells (s:S4):List Value:= [.int .u64 s.a, .int .u64 s.b, .int .u64 s.c, .int .u64 s.d]
theorem CP (b:Nat)(T:TypeId)(n:Nat)(hn:n<100)(s:S4)(w:World)(hb:jC w b s.cells T) :
  wQ Tryz.prog 135 #[.pointer (some ⟨b,0,none⟩), .int .i64 n] w fun _ w'=> ∃t,t=s.rounds n∧Only b w w'∧jC w' b t.cells T:=by
 refine fE Tryz.func135 rfl mixed (by kernel_rfl) ?_
 conv=>whnf
 refine lD (X:=Nat) Vl (fun i=> [(0, .pointer (some ⟨b,0,none⟩)),(4, .int .i64 n),(5, .int .i64 i)]) (fun i w'=>i≤n∧Only b w w'∧jC w' b (s.rounds i).cells T) (fun i=>n-i) 0 (by kernel_rfl) ⟨rfl,rfl,rfl,trivial⟩ ⟨Nat.zero_le _,Only.refl _ _,hb⟩ ?_
 rintro i w' j ⟨hi,ho,hb'⟩
 conv=>whnf
 refine ah (fun hlt=> ?_) (fun hge=> ?_)
 ·have hlt:i<n:=by simpa using hlt
  conv=>whnf
  (refine iY jR (by kernel_rfl) ?_;conv=>whnf)
  repeat (first | (refine ay.mk (by first | decide | omega) ?_;conv=>whnf) | (refine gK.mk rfl ?_;conv=>whnf) | (refine eY.keep rfl ?_;conv=>whnf) | (refine dh rfl (by assumption) rfl ?_;conv=>whnf) | (refine dN rfl rfl rfl ?_;conv=>whnf) | (refine bU (by assumption) rfl rfl rfl ?_;intro _ _ _;conv=>whnf))
  (refine iY jR (by kernel_rfl) ?_;conv=>whnf)
  repeat (first | (refine ay.mk (by first | decide | omega) ?_;conv=>whnf) | (refine gK.mk rfl ?_;conv=>whnf) | (refine eY.keep rfl ?_;conv=>whnf) | (refine dh rfl (by assumption) rfl ?_;conv=>whnf) | (refine dN rfl rfl rfl ?_;conv=>whnf) | (refine bU (by assumption) rfl rfl rfl ?_;intro _ _ _;conv=>whnf))
  refine lF (by kernel_rfl) (vW _ _ 13 (by kernel_rfl) (by decide) (by decide) _) ?_
  rintro _ _ ⟨rfl,rfl⟩
  conv=>whnf
  repeat (first | (refine ay.mk (by first | decide | omega) ?_;conv=>whnf) | (refine gK.mk rfl ?_;conv=>whnf) | (refine eY.keep rfl ?_;conv=>whnf) | (refine dh rfl (by assumption) rfl ?_;conv=>whnf) | (refine dN rfl rfl rfl ?_;conv=>whnf) | (refine bU (by assumption) rfl rfl rfl ?_;intro _ _ _;conv=>whnf))
  (refine iY jR (by kernel_rfl) ?_;conv=>whnf)
  repeat (first | (refine ay.mk (by first | decide | omega) ?_;conv=>whnf) | (refine gK.mk rfl ?_;conv=>whnf) | (refine eY.keep rfl ?_;conv=>whnf) | (refine dh rfl (by assumption) rfl ?_;conv=>whnf) | (refine dN rfl rfl rfl ?_;conv=>whnf) | (refine bU (by assumption) rfl rfl rfl ?_;intro _ _ _;conv=>whnf))
  refine lF (by kernel_rfl) (vW _ _ 32 (by kernel_rfl) (by decide) (by decide) _) ?_
  rintro _ _ ⟨rfl,rfl⟩
  conv=>whnf
  repeat (first | (refine ay.mk (by first | decide | omega) ?_;conv=>whnf) | (refine gK.mk rfl ?_;conv=>whnf) | (refine eY.keep rfl ?_;conv=>whnf) | (refine dh rfl (by assumption) rfl ?_;conv=>whnf) | (refine dN rfl rfl rfl ?_;conv=>whnf) | (refine bU (by assumption) rfl rfl rfl ?_;intro _ _ _;conv=>whnf))
  (refine iY jR (by kernel_rfl) ?_;conv=>whnf)
  repeat (first | (refine ay.mk (by first | decide | omega) ?_;conv=>whnf) | (refine gK.mk rfl ?_;conv=>whnf) | (refine eY.keep rfl ?_;conv=>whnf) | (refine dh rfl (by assumption) rfl ?_;conv=>whnf) | (refine dN rfl rfl rfl ?_;conv=>whnf) | (refine bU (by assumption) rfl rfl rfl ?_;intro _ _ _;conv=>whnf))
  (refine iY jR (by kernel_rfl) ?_;conv=>whnf)
  repeat (first | (refine ay.mk (by first | decide | omega) ?_;conv=>whnf) | (refine gK.mk rfl ?_;conv=>whnf) | (refine eY.keep rfl ?_;conv=>whnf) | (refine dh rfl (by assumption) rfl ?_;conv=>whnf) | (refine dN rfl rfl rfl ?_;conv=>whnf) | (refine bU (by assumption) rfl rfl rfl ?_;intro _ _ _;conv=>whnf))
  refine lF (by kernel_rfl) (vW _ _ 16 (by kernel_rfl) (by decide) (by decide) _) ?_
  rintro _ _ ⟨rfl,rfl⟩
  conv=>whnf
  repeat (first | (refine ay.mk (by first | decide | omega) ?_;conv=>whnf) | (refine gK.mk rfl ?_;conv=>whnf) | (refine eY.keep rfl ?_;conv=>whnf) | (refine dh rfl (by assumption) rfl ?_;conv=>whnf) | (refine dN rfl rfl rfl ?_;conv=>whnf) | (refine bU (by assumption) rfl rfl rfl ?_;intro _ _ _;conv=>whnf))
  (refine iY jR (by kernel_rfl) ?_;conv=>whnf)
  repeat (first | (refine ay.mk (by first | decide | omega) ?_;conv=>whnf) | (refine gK.mk rfl ?_;conv=>whnf) | (refine eY.keep rfl ?_;conv=>whnf) | (refine dh rfl (by assumption) rfl ?_;conv=>whnf) | (refine dN rfl rfl rfl ?_;conv=>whnf) | (refine bU (by assumption) rfl rfl rfl ?_;intro _ _ _;conv=>whnf))
  (refine iY jR (by kernel_rfl) ?_;conv=>whnf)
  repeat (first | (refine ay.mk (by first | decide | omega) ?_;conv=>whnf) | (refine gK.mk rfl ?_;conv=>whnf) | (refine eY.keep rfl ?_;conv=>whnf) | (refine dh rfl (by assumption) rfl ?_;conv=>whnf) | (refine dN rfl rfl rfl ?_;conv=>whnf) | (refine bU (by assumption) rfl rfl rfl ?_;intro _ _ _;conv=>whnf))
  refine lF (by kernel_rfl) (vW _ _ 21 (by kernel_rfl) (by decide) (by decide) _) ?_
  rintro _ _ ⟨rfl,rfl⟩
  conv=>whnf
  repeat (first | (refine ay.mk (by first | decide | omega) ?_;conv=>whnf) | (refine gK.mk rfl ?_;conv=>whnf) | (refine eY.keep rfl ?_;conv=>whnf) | (refine dh rfl (by assumption) rfl ?_;conv=>whnf) | (refine dN rfl rfl rfl ?_;conv=>whnf) | (refine bU (by assumption) rfl rfl rfl ?_;intro _ _ _;conv=>whnf))
  (refine iY jR (by kernel_rfl) ?_;conv=>whnf)
  repeat (first | (refine ay.mk (by first | decide | omega) ?_;conv=>whnf) | (refine gK.mk rfl ?_;conv=>whnf) | (refine eY.keep rfl ?_;conv=>whnf) | (refine dh rfl (by assumption) rfl ?_;conv=>whnf) | (refine dN rfl rfl rfl ?_;conv=>whnf) | (refine bU (by assumption) rfl rfl rfl ?_;intro _ _ _;conv=>whnf))
  (refine iY jR (by kernel_rfl) ?_;conv=>whnf)
  repeat (first | (refine ay.mk (by first | decide | omega) ?_;conv=>whnf) | (refine gK.mk rfl ?_;conv=>whnf) | (refine eY.keep rfl ?_;conv=>whnf) | (refine dh rfl (by assumption) rfl ?_;conv=>whnf) | (refine dN rfl rfl rfl ?_;conv=>whnf) | (refine bU (by assumption) rfl rfl rfl ?_;intro _ _ _;conv=>whnf))
  refine lF (by kernel_rfl) (vW _ _ 17 (by kernel_rfl) (by decide) (by decide) _) ?_
  rintro _ _ ⟨rfl,rfl⟩
  conv=>whnf
  repeat (first | (refine ay.mk (by first | decide | omega) ?_;conv=>whnf) | (refine gK.mk rfl ?_;conv=>whnf) | (refine eY.keep rfl ?_;conv=>whnf) | (refine dh rfl (by assumption) rfl ?_;conv=>whnf) | (refine dN rfl rfl rfl ?_;conv=>whnf) | (refine bU (by assumption) rfl rfl rfl ?_;intro _ _ _;conv=>whnf))
  (refine iY jR (by kernel_rfl) ?_;conv=>whnf)
  repeat (first | (refine ay.mk (by first | decide | omega) ?_;conv=>whnf) | (refine gK.mk rfl ?_;conv=>whnf) | (refine eY.keep rfl ?_;conv=>whnf) | (refine dh rfl (by assumption) rfl ?_;conv=>whnf) | (refine dN rfl rfl rfl ?_;conv=>whnf) | (refine bU (by assumption) rfl rfl rfl ?_;intro _ _ _;conv=>whnf))
  refine lF (by kernel_rfl) (vW _ _ 32 (by kernel_rfl) (by decide) (by decide) _) ?_
  rintro _ _ ⟨rfl,rfl⟩
  conv=>whnf
  repeat (first | (refine ay.mk (by first | decide | omega) ?_;conv=>whnf) | (refine gK.mk rfl ?_;conv=>whnf) | (refine eY.keep rfl ?_;conv=>whnf) | (refine dh rfl (by assumption) rfl ?_;conv=>whnf) | (refine dN rfl rfl rfl ?_;conv=>whnf) | (refine bU (by assumption) rfl rfl rfl ?_;intro _ _ _;conv=>whnf))
  refine kM.mk ⟨_, ?_,i+1,rfl, ?_, ?_⟩
  ·show n -(i+1)<n-i;omega
  ·exact⟨rfl,rfl,jJ (incr (by omega)),trivial⟩
  ·refine⟨hlt, ?_, ?_⟩
   ·(repeat (first | assumption | exact Only.refl _ _ | refine Only.step (by assumption) ?_ | refine Only.abV (by assumption) ?_))
   ·assumption
 ·have hge : ¬i<n:=by simpa using hge
  conv=>whnf
  have:i=n:=by omega
  subst this
  exact kN.mk ⟨_,rfl,ho,hb'⟩
def S4.word (s:S4)(m:Int):S4:=
 let t:=S4.rounds ⟨s.a,s.b,s.c,xor s.d m⟩ 2
 ⟨xor t.a m,t.b,t.c,t.d⟩
theorem Eh (b:Nat)(T:TypeId)(m:Int)(s:S4)(w:World)(hb:jC w b s.cells T) :
  wQ Tryz.prog 134 #[.pointer (some ⟨b,0,none⟩), .int .u64 m] w fun _ w'=> ∃t,t=s.word m∧Only b w w'∧jC w' b t.cells T:=by
 refine fE Tryz.func134 rfl mixed (by kernel_rfl) ?_
 conv=>whnf
 (refine iY Ld (by kernel_rfl) ?_;conv=>whnf)
 repeat (first | (refine ay.mk (by first | decide | omega) ?_;conv=>whnf) | (refine gK.mk rfl ?_;conv=>whnf) | (refine eY.keep rfl ?_;conv=>whnf) | (refine dh rfl (by assumption) rfl ?_;conv=>whnf) | (refine dN rfl rfl rfl ?_;conv=>whnf) | (refine bU (by assumption) rfl rfl rfl ?_;intro _ _ _;conv=>whnf))
 rename_i w1 o1 hb1
 refine lF (by kernel_rfl) (CP b T 2 (by decide) ⟨s.a,s.b,s.c,xor s.d m⟩ _ hb1) ?_
 rintro _ w2 ⟨t,ht,o2,hb2⟩
 conv=>whnf
 (refine iY Ld (by kernel_rfl) ?_;conv=>whnf)
 repeat (first | (refine ay.mk (by first | decide | omega) ?_;conv=>whnf) | (refine gK.mk rfl ?_;conv=>whnf) | (refine eY.keep rfl ?_;conv=>whnf) | (refine dh rfl (by assumption) rfl ?_;conv=>whnf) | (refine dN rfl rfl rfl ?_;conv=>whnf) | (refine bU (by assumption) rfl rfl rfl ?_;intro _ _ _;conv=>whnf))
 rename_i w3 o3 hb3
 have he:s.word m=⟨xor t.a m,t.b,t.c,t.d⟩:=by rw [ht];rfl
 refine kN.mk ⟨⟨xor t.a m,t.b,t.c,t.d⟩,he.symm, ?_,hb3⟩
 exact Only.step o3 ((o1.IK).trans o2)
def orI (x y:Int):Int:=bn .or .u64 x y
def Qu (b:UInt8)(k:Nat):Int:=IntKind.u64.wrap ((b.toNat:Int)*2^(8*k))
def Jt (l:List UInt8):Nat→Int
 | 0=>0
 | n+1=>orI (Jt l n) (Qu (l.getD n 0) n)
def S4.init (k0 k1:Int):S4:=⟨xor k0 8317987319222330741,xor k1 7237128888997146477,xor k0 7816392313619706465,xor k1 8387220255154660723⟩
def S4.upto (k0 k1:Int)(l:List UInt8):Nat→S4
 | 0=> .init k0 k1
 | i+1=>(S4.upto k0 k1 l i).word (Jt (l.drop (8*i)) 8)
def lastTo (l:List UInt8):Nat→Int
 | 0=>IntKind.u64.wrap (IntKind.u64.wrap l.length*2^56)
 | n+1=>orI (lastTo l n) (Qu (l.getD (l.length-l.length%8+n) 0) n)
def S4.done (s:S4):Int:=
 let t:=S4.rounds ⟨s.a,s.b,xor s.c 255,s.d⟩ 4
 xor (xor (xor t.a t.b) t.c) t.d
def Ei (k0 k1:Int)(l:List UInt8):Int:=((S4.upto k0 k1 l (l.length/8)).word (lastTo l (l.length%8))).done
theorem Lh (x:UInt8)(k:Nat)(hk:k<8)(n:Int)(hn:n=(8*k:Nat)) :
  IntKind.u64.wrap (IntKind.u64.wrap (x.toNat:Int)*2^min n.toNat IntKind.u64.bits)=Qu x k:=by
 subst hn
 have h1:IntKind.u64.wrap (x.toNat:Int)=x.toNat:=IntWalk.u64_in _ (by have:=x.toNat_lt;omega)
 have h2:min ((8*k:Nat):Int).toNat IntKind.u64.bits=8*k:=by simp [IntKind.bits];omega
 rw [h1,h2]
 rfl
theorem getD_drop (l:List UInt8)(i k:Nat)(h:i+k<l.length):(l.drop i).getD k 0=l[i+k]:=by
 simp [List.getD_eq_getElem?_getD,List.getElem?_drop,h]
theorem Z4 (k0 k1:Int)(oa:Option Addr)(c:Nat)(l:List UInt8)(w:World)(hl:l.length<4611686018427387904)(hr:Row w oa (dw l)) :
  wQ Tryz.prog 102 #[.int .u64 k0, .int .u64 k1, .slice oa l.length c] w fun v w'=>v = .int .u64 (Ei k0 k1 l)∧Below w.heap.size w w':=by
 refine fE Tryz.func102 rfl mixed (by kernel_rfl) ?_
 conv=>whnf
 refine Ns (jC.new _ _ _) rfl rfl rfl ?_
 intro w1 o1 hb1
 have hB1:Below w.heap.size w w1:=((Below.refl _ _).alloc (Nat.le_refl _) _).trans (o1.below (Nat.le_refl _))
 conv=>whnf
 repeat (first | (refine ay.mk (by first | decide | omega) ?_;conv=>whnf) | (refine gK.mk rfl ?_;conv=>whnf) | (refine eY.keep rfl ?_;conv=>whnf) | (refine dh rfl (by assumption) rfl ?_;conv=>whnf) | (refine dN rfl rfl rfl ?_;conv=>whnf) | (refine bU (by assumption) rfl rfl rfl ?_;intro _ _ _;conv=>whnf))
 refine lD (X:=Nat) U5 (fun i=> [(9, .int .i64 (8*i:Nat))]) (fun i w'=>8*i≤l.length∧Below w.heap.size w w'∧∃t,t=S4.upto k0 k1 l i∧jC w' w.heap.size t.cells 175) (fun i=>l.length-8*i) 0 (by kernel_rfl)
  ?_ ⟨Nat.zero_le _,hB1,_,rfl,hb1⟩ ?_
 ·exact⟨rfl,trivial⟩
 rintro i w2 j ⟨hi,hB2,t,ht,hb2⟩
 conv=>whnf
 have e8:IntKind.i64.wrap ((8*i:Nat)+8)=((8*i+8:Nat):Int):=by rw [IntWalk.i64_in _ (by omega)];omega
 refine ah (fun hlt=> ?_) (fun hge=> ?_)
 ·have hlt:8*i+8≤l.length:=by rw [e8]at hlt;have:=of_decide_eq_true hlt;omega
  obtain⟨b,o,rfl,hbl,hc⟩:=hr.get (by simp;omega)
  conv=>whnf
  refine lD (X:=Nat) U6 (fun k=> [(10, .int .u64 (Jt (l.drop (8*i)) k)),(33, .int .i64 k)]) (fun k w'=>k≤8∧w'=w2) (fun k=>8-k) 0 (by kernel_rfl) ?_ ⟨by omega,rfl⟩ ?_
  ·exact⟨rfl,rfl,trivial⟩
  rintro k _ j2 ⟨hk,rfl⟩
  conv=>whnf
  refine ah (fun hlt2=> ?_) (fun Gs=> ?_)
  ·have hlt2:k<8:=by have:=of_decide_eq_true hlt2;omega
   conv=>whnf
   refine Dv (8*i+k) rfl rfl (by rw [IntWalk.i64_in _ (by omega)];omega) (by omega) ?_
   conv=>whnf
   refine eP rfl (by rw [hB2.cell (p:=⟨b,o+(8*i+k),none⟩) hbl];exact hc _ _ (nD (by omega))) ?_
   conv=>whnf
   refine ay.mk (by rw [IntWalk.i64_in _ (by omega)];omega) ?_
   conv=>whnf
   refine kM.mk ⟨_, ?_,k+1,rfl, ?_, ?_⟩
   ·show 8 -(k+1)<8-k;omega
   ·refine⟨jJ ?_,jJ (incr (by omega)),trivial⟩
    rw [Lh _ k hlt2 _ (by rw [IntWalk.i64_in _ (by omega)];omega), ←getD_drop l (8*i) k (by omega)]
    rfl
   ·exact⟨hlt2,rfl⟩
  ·have Gs : ¬k<8:=by have:=of_decide_eq_false Gs;omega
   obtain rfl:k=8:=by omega
   conv=>whnf
   refine lF (by kernel_rfl) (Eh _ _ _ _ _ hb2) ?_
   rintro _ w3 ⟨t3,ht3,o3,hb3⟩
   conv=>whnf
   refine kM.mk ⟨_, ?_,i+1,rfl, ?_, ?_⟩
   ·show l.length-8*(i+1)<l.length-8*i;omega
   ·exact⟨jJ (by rw [e8,Nat.mul_add]),trivial⟩
   ·refine⟨by omega,hB2.trans (o3.below (Nat.le_refl _)),t3, ?_,hb3⟩
    rw [ht3,ht];rfl
 ·have hge : ¬8*i+8≤l.length:=by rw [e8]at hge;have:=of_decide_eq_false hge;omega
  have hi8:i=l.length/8:=by omega
  obtain⟨r,hr8⟩ : ∃r,r=l.length%8:=⟨_,rfl⟩
  conv=>whnf
  repeat (first | (refine ay.mk (by first | decide | omega) ?_;conv=>whnf) | (refine gK.mk rfl ?_;conv=>whnf) | (refine eY.keep rfl ?_;conv=>whnf) | (refine dh rfl (by assumption) rfl ?_;conv=>whnf) | (refine dN rfl rfl rfl ?_;conv=>whnf) | (refine bU (by assumption) rfl rfl rfl ?_;intro _ _ _;conv=>whnf))
  refine lD (X:=Nat) U7 (fun k=> [(8, .int .u64 (lastTo l k)),(53, .int .i64 r),(54, .int .i64 k)]) (fun k w'=>k≤r∧w'=w2) (fun k=>r-k) 0 (by kernel_rfl) ?_ ⟨by omega,rfl⟩ ?_
  ·exact⟨rfl,jJ (by rw [hr8];rfl),rfl,trivial⟩
  rintro k _ j2 ⟨hk,rfl⟩
  conv=>whnf
  refine ah (fun hlt2=> ?_) (fun Gs=> ?_)
  ·have hlt2:k<r:=by have:=of_decide_eq_true hlt2;omega
   obtain⟨b,o,rfl,hbl,hc⟩:=hr.get (by simp;omega)
   conv=>whnf
   repeat (first | (refine ay.mk (by first | decide | omega) ?_;conv=>whnf) | (refine gK.mk rfl ?_;conv=>whnf) | (refine eY.keep rfl ?_;conv=>whnf) | (refine dh rfl (by assumption) rfl ?_;conv=>whnf) | (refine dN rfl rfl rfl ?_;conv=>whnf) | (refine bU (by assumption) rfl rfl rfl ?_;intro _ _ _;conv=>whnf))
   refine Dv (l.length-r+k) rfl rfl ?_ (by omega) ?_
   ·have e1:Int.tmod (l.length:Int) 8=r:=by rw [hr8];rfl
    rw [e1,IntWalk.i64_in ((l.length:Int)-r) (by omega),IntWalk.i64_in _ (by omega)]
    omega
   conv=>whnf
   refine eP rfl (by rw [hB2.cell (p:=⟨b,o+(l.length-r+k),none⟩) hbl];exact hc _ _ (nD (by omega))) ?_
   conv=>whnf
   refine ay.mk (by rw [IntWalk.i64_in _ (by omega)];omega) ?_
   conv=>whnf
   refine kM.mk ⟨_, ?_,k+1,rfl, ?_, ?_⟩
   ·show r -(k+1)<r-k;omega
   ·refine⟨jJ ?_,rfl,jJ (incr (by omega)),trivial⟩
    rw [Lh _ k (by omega) _ (by rw [IntWalk.i64_in _ (by omega)];omega)]
    have:=getD_drop l 0 (l.length-r+k) (by omega)
    simp only [List.drop_zero,Nat.zero_add]at this
    rw [←this,hr8]
    rfl
   ·exact⟨hlt2,rfl⟩
  ·have Gs : ¬k<r:=by have:=of_decide_eq_false Gs;omega
   obtain rfl:k=r:=by omega
   conv=>whnf
   refine lF (by kernel_rfl) (Eh _ _ _ _ _ hb2) ?_
   rintro _ w3 ⟨t3,ht3,o3,hb3⟩
   conv=>whnf
   repeat (first | (refine ay.mk (by first | decide | omega) ?_;conv=>whnf) | (refine gK.mk rfl ?_;conv=>whnf) | (refine eY.keep rfl ?_;conv=>whnf) | (refine dh rfl (by assumption) rfl ?_;conv=>whnf) | (refine dN rfl rfl rfl ?_;conv=>whnf) | (refine bU (by assumption) rfl rfl rfl ?_;intro _ _ _;conv=>whnf))
   rename_i w4 o4 hb4
   refine lF (by kernel_rfl) (CP _ _ 4 (by decide) ⟨t3.a,t3.b,xor t3.c 255,t3.d⟩ _ hb4) ?_
   rintro _ w5 ⟨t5,ht5,o5,hb5⟩
   conv=>whnf
   repeat (first | (refine ay.mk (by first | decide | omega) ?_;conv=>whnf) | (refine gK.mk rfl ?_;conv=>whnf) | (refine eY.keep rfl ?_;conv=>whnf) | (refine dh rfl (by assumption) rfl ?_;conv=>whnf) | (refine dN rfl rfl rfl ?_;conv=>whnf) | (refine bU (by assumption) rfl rfl rfl ?_;intro _ _ _;conv=>whnf))
   refine kN.mk ⟨?_, ?_⟩
   ·have:Ei k0 k1 l=xor (xor (xor t5.a t5.b) t5.c) t5.d:=by
     unfold Ei S4.done
     rw [←hi8, ←ht, ←hr8, ←ht3, ←ht5]
    rw [this]
    rfl
   ·exact hB2.trans (((o3.trans o4).trans o5).below (Nat.le_refl _))
def oz (n:Nat)(k:Nat):UInt8:=UInt8.ofNat (n/2^(8*k)%256)
def mG (n:Nat):Nat→List UInt8
 | 0=> []
 | k+1=>mG n k++ [oz n (7-k)]
def frame (ls:List (List UInt8)):List UInt8:=
 match ls with
 | []=> []
 | l::r=>(mG l.length 8++l)++frame r
def gq (ls:List (List UInt8))(i:Nat):List UInt8:=frame (ls.take i)
theorem sU (a b:List (List UInt8)):frame (a++b)=frame a++frame b:=by
 induction a with
 | nil=>rfl
 | cons l r ih=>simp only [List.cons_append,frame,ih,List.append_assoc]
theorem sV (ls:List (List UInt8))(i:Nat)(h:i<ls.length):gq ls (i+1)=gq ls i++(mG ls[i].length 8++ls[i]):=by
 unfold gq
 rw [List.take_succ_eq_append_getElem h,sU]
 simp [frame]
theorem nM (n k:Nat):(mG n k).length=k:=by
 induction k with
 | zero=>rfl
 | succ k ih=>simp [mG,ih]
theorem BH (ls:List (List UInt8))(i:Nat):(gq ls i).length≤(frame ls).length:=by
 have:=sU (ls.take i) (ls.drop i)
 rw [List.take_append_drop]at this
 unfold gq
 rw [this,List.length_append]
 omega
def Z5 (w:World)(vs:List Value)(ls:List (List UInt8)):Prop:=
 vs.length=ls.length∧∀i (h:i<ls.length), ∃oa c,vs[i]? = some (.slice oa ls[i].length c)∧ls[i].length≤c∧(oa=none→c=0)∧Row w oa (dw ls[i])
theorem Z5.below {w w':World}{vs:List Value}{ls:List (List UInt8)}(h:Z5 w vs ls)(hb:Below w.heap.size w w'):Z5 w' vs ls:=
 ⟨h.1,fun i hi=>let ⟨oa,c,h1,h2,h3,h4⟩:=h.2 i hi;⟨oa,c,h1,h2,h3,h4.below hb⟩⟩
theorem Lj (n k:Nat)(hk:k<8)(hn:n<18446744073709551616)(x:Int)(hx:x=(8*k:Nat)) :
  IntKind.u8.wrap ((IntKind.u64.wrap (n:Int)).fdiv (2^min x.toNat IntKind.u64.bits))=((oz n k).toNat:Int):=by
 subst hx
 have h1:IntKind.u64.wrap (n:Int)=n:=IntWalk.u64_in _ (by omega)
 have h2:min ((8*k:Nat):Int).toNat IntKind.u64.bits=8*k:=by simp [IntKind.bits];omega
 rw [h1,h2,IntKind.wrap_u8]
 unfold oz
 have e1:((n:Int).fdiv (2^(8*k)))=((n/2^(8*k):Nat):Int):=by
  rw [Int.fdiv_eq_ediv_of_nonneg]
  ·simp
  ·exact Int.le_of_lt (Int.pow_pos (by decide))
 rw [e1]
 simp
theorem Ju (b:UInt8):dw [b] = [.int .u8 b.toNat]:=rfl
theorem Qv (oa:Option Addr)(c:Nat)(vs:List Value)(ls:List (List UInt8))(w:World)(hlen:ls.length≤1099511627776)(hl:(frame ls).length≤140737488355328)(hr:Row w oa vs)(hf:Z5 w vs ls) :
  wQ Tryz.prog 103 #[.slice oa ls.length c] w fun v w'=> ∃iq c',v = .slice iq (frame ls).length c'∧Own w' w.heap.size 5 1 iq (frame ls).length c' (dw (frame ls))∧Below w.heap.size w w':=by
 refine fE Tryz.func103 rfl mixed (by kernel_rfl) ?_
 conv=>whnf
 refine lD (X:=Nat×Option Addr×Nat) U8 (fun x=> [(3, .slice x.2.1 (gq ls x.1).length x.2.2),(9, .int .i64 x.1)]) (fun x w'=>x.1≤ls.length∧Below w.heap.size w w'∧Own w' w.heap.size 5 1 x.2.1 (gq ls x.1).length x.2.2 (dw (gq ls x.1))) (fun x=>ls.length-x.1) (0,none,0) (by kernel_rfl)
  ?_ ⟨Nat.zero_le _,Below.refl _ _,Own.nil _ _ _ _⟩ ?_
 ·exact⟨rfl,rfl,trivial⟩
 rintro⟨i,oo,cc⟩ w1 j ⟨hi,hB,ho⟩
 conv=>whnf
 refine ah (fun hlt=> ?_) (fun hge=> ?_)
 ·have hlt:i<ls.length:=by have:=of_decide_eq_true hlt;omega
  obtain⟨b,o,rfl,hbl,hc⟩:=hr.get (by rw [hf.1];omega)
  obtain⟨oa1,c1,hv,hc1,hn1,hr1⟩:=hf.2 i hlt
  have hr1':=hr1.below hB
  have hL1:=BH ls (i+1)
  rw [sV ls i hlt]at hL1
  simp only [List.length_append,nM]at hL1
  conv=>whnf
  refine Dv i rfl rfl rfl hlt ?_
  conv=>whnf
  refine eP rfl (by rw [hB.cell (p:=⟨b,o+i,none⟩) hbl];exact hc _ _ hv) ?_
  conv=>whnf
  refine lD (X:=Nat×Option Addr×Nat) U9 (fun x=> [(3, .slice x.2.1 ((gq ls i).length+x.1) x.2.2),(6, .int .i64 (7 -(x.1:Int)))]) (fun x w'=>x.1≤8∧Below w.heap.size w w'∧Own w' w.heap.size 5 1 x.2.1 ((gq ls i).length+x.1) x.2.2 (dw (gq ls i++mG ls[i].length x.1))) (fun x=>8-x.1) (0,oo,cc) (by kernel_rfl)
   ?_ ⟨Nat.zero_le _,hB,by simpa [mG]using ho⟩ ?_
  ·exact⟨rfl,rfl,trivial⟩
  rintro⟨k,o2,c2⟩ w2 j2 ⟨hk,hB2,ho2⟩
  simp only at hk ho2
  conv=>whnf
  refine ah (fun hlt2=> ?_) (fun Gs=> ?_)
  ·have hlt2:k<8:=by have:=of_decide_eq_true hlt2;simp only at this;omega
   conv=>whnf
   refine ay.mk (by rw [IntWalk.i64_in _ (by simp only;omega)];simp only;omega) ?_
   conv=>whnf
   refine pX (B:=w.heap.size) (sz:=1) (iQ:=1) (m:=1) (n:=(gq ls i).length+k) rfl rfl rfl rfl rfl rfl (ho2.alloc _) (Row.alloc1 _ _ _) rfl (fun u hu=>by simp at hu;subst hu;rfl) (fun e=>by cases e) (by omega) (Nat.le_trans hB2.size (by simp)) (by unfold maxLen;omega) ?_
   intro o3 c3 w3 ho3 hB3 _
   conv=>whnf
   refine kM.mk ⟨_, ?_,(k+1,o3,c3),rfl, ?_, ?_⟩
   ·show 8 -(k+1)<8-k;omega
   ·exact⟨rfl,jJ (by rw [IntWalk.i64_in _ (by simp only;omega)];simp only;omega),trivial⟩
   ·refine⟨hlt2,(lG hB2 (Nat.le_refl _) _).trans hB3, ?_⟩
    simp only [mG]
    rw [←List.append_assoc,nZ,Ju]
    rw [Lj _ (7-k) (by omega) (by omega) _ (by rw [IntWalk.i64_in _ (by simp only;omega)];simp only;omega)]at ho3
    exact ho3
  ·have Gs : ¬k<8:=by have:=of_decide_eq_false Gs;simp only at this;omega
   obtain rfl:k=8:=by omega
   conv=>whnf
   have hr2:=hr1.below hB2
   refine pX (B:=w.heap.size) (sz:=1) (iQ:=1) (m:=ls[i].length) (n:=(gq ls i).length+8) rfl rfl rfl rfl rfl rfl ho2 hr2 (by simp) (vg _) hn1 (by omega) hB2.size (by unfold maxLen;omega) ?_
   intro o3 c3 w3 ho3 hB3 _
   conv=>whnf
   have hfs:=sV ls i hlt
   have hfl:(gq ls i).length+8+ls[i].length=(gq ls (i+1)).length:=by rw [hfs];simp [nM];omega
   refine kM.mk ⟨_, ?_,(i+1,o3,c3),rfl, ?_, ?_⟩
   ·show ls.length -(i+1)<ls.length-i;omega
   ·exact⟨Uy hfl,jJ (incr (by omega)),trivial⟩
   ·refine⟨hlt,hB2.trans hB3, ?_⟩
    rw [hfl, ←nZ,List.append_assoc, ←hfs]at ho3
    exact ho3
 ·have hge : ¬i<ls.length:=by have:=of_decide_eq_false hge;omega
  obtain rfl:i=ls.length:=by simp only at hi;omega
  conv=>whnf
  have hfa:gq ls ls.length=frame ls:=by unfold gq;rw [List.take_length]
  simp only [hfa]at ho
  exact kN.mk ⟨oo,cc,by simp only [hfa];rfl,ho,hB⟩
theorem VT (d:Int)(oa:Option Addr)(c:Nat)(vs:List Value)(ls:List (List UInt8))(w:World)(hlen:ls.length≤1099511627776)(hl:(frame ls).length≤140737488355328)(hr:Row w oa vs)(hf:Z5 w vs ls) :
  wQ Tryz.prog 69 #[.int .u64 d, .slice oa ls.length c] w fun v w'=>v = .int .u64 (Ei d 0 (frame ls))∧Below w.heap.size w w':=by
 refine fE Tryz.func69 rfl mixed (by kernel_rfl) ?_
 conv=>whnf
 refine lF (by kernel_rfl) (Qv oa c vs ls w hlen hl hr hf) ?_
 rintro _ w1 ⟨o1,c1,rfl,ho1,hB1⟩
 conv=>whnf
 refine lF (by kernel_rfl) (Z4 d 0 o1 c1 (frame ls) w1 (by omega) ho1.row) ?_
 rintro _ w2 ⟨rfl,hB2⟩
 conv=>whnf
 exact kN.mk ⟨rfl,hB1.trans (hB2.mono hB1.size)⟩
end Go.Proofs.YtocckceefcmeaaaGreatDoor.Dg
namespace Go.Proofs.YtocckceefcmeaaaGreatDoor.Vc
open Go Go.RowKit Go.Proofs.YtocckceefcmeaaaGreatDoor.Vc Go.Proofs.YtocckceefcmeaaaGreatDoor.Dg
attribute [local irreducible] loadVar storeVar Instr.indexAt Instr.index Instr.sliceAt Instr.makeSlice Instr.lookup Instr.mapUpdate Instr.range Instr.next Instr.entry Instr.makeMap Builtin.append_ Builtin.copy_ Builtin.len_ Builtin.min_ Builtin.max_ Builtin.cap_ Builtin.delete_ Builtin.clear_ convert binOp eqGuard Op.unary Calls
theorem Gt {P:Program}{w:World}{K:Value→World→Prop}{t E:TypeId}{sz n b:Nat}(ht:P.underlying t=some (.array n E))(hs:szB P E=some sz)(k:K (.slice (some ⟨b,0,none⟩) n n) w) :
  bQ P (Instr.sliceAt t (.pointer (some ⟨b,0,none⟩)) none none none) w K:=by
 refine dZ ?_ k
 unfold Instr.sliceAt
 rw [Sem.run_bind,aO ht]
 simp only [Result.andThen_ok,Instr.sureAddr,Sem.run_bind,Sem.run_pure,Instr.sliceBounds,gU hs]
 by_cases h0:n=0<;>simp [h0,add0]
theorem Z7 (oa wR:Option Addr)(n c m c2:Nat)(b d:List UInt8)(w:World)(hn:n=b.length)(hm:m=d.length)(hl:b.length+d.length≤2000000)(hc:n≤c)(hnil:oa=none→c=0)(hnil2:wR=none→c2=0)(hr:Row w oa (dw b))(hr2:Row w wR (dw d)) :
  wQ Tryz.prog 65 #[.slice oa n c, .slice wR m c2] w fun v w'=> ∃iq c',v = .slice iq (n+m) c'∧Own w' w.heap.size 5 1 iq (n+m) c' (dw (b++d))∧Below w.heap.size w w':=by
 refine fE Tryz.func65 rfl mixed (by kernel_rfl) ?_
 have e0:IntKind.i64.wrap ((n:Int)+(m:Int))=((n+m:Nat):Int):=by rw [IntWalk.i64_in _ (by omega)];omega
 have lb : ∀l:List UInt8,(dw l).length=l.length:=fun l=>by simp [dw]
 conv=>whnf
 rw [e0]
 refine Ax.F5 (n:=0) (m:=n+m) (sz:=1) (iQ:=1) rfl rfl rfl rfl rfl rfl (Nat.zero_le _) (by omega) (by unfold maxLen;omega) ?_
 intro w1 hw1 hb1
 have hB1:Below w.heap.size w w1:=by rw [hw1];exact lG (Below.refl _ _) (Nat.le_refl _) _
 have hO1:Own w1 w.heap.size 5 1 (some ⟨w.heap.size,0,none⟩) 0 (n+m) []:=Own.wS hb1 (Nat.le_refl _) (Nat.zero_le _) (by unfold maxLen;omega) (by simp [Value.cells]) (by simp)
 conv=>whnf
 refine pX (B:=w.heap.size) (sz:=1) (iQ:=1) (m:=n) (n:=0) rfl rfl rfl rfl rfl rfl hO1 (hr.below hB1) (by rw [lb];omega) (vg _) hnil (by omega) hB1.size (by unfold maxLen;omega) ?_
 intro o2 c2' w2 hO2 hB2 _
 conv=>whnf
 refine pX (B:=w.heap.size) (sz:=1) (iQ:=1) (m:=m) (n:=0+n) rfl rfl rfl rfl rfl rfl hO2 (hr2.below (hB1.trans hB2)) (by rw [lb];omega) (vg _) hnil2 (by omega) (Nat.le_trans hB1.size hB2.size) (by unfold maxLen;omega) ?_
 intro o3 c3' w3 hO3 hB3 _
 have hB:=(hB1.trans hB2).trans hB3
 rw [Nat.zero_add,List.nil_append, ←nZ]at hO3
 clear hO1 hO2 hB1 hB2 hB3
 rw [Nat.zero_add]
 conv=>whnf
 exact kN.mk ⟨o3,c3',rfl,hO3,hB⟩
def NU (x i:Nat):List Value:=(List.range 8).map fun j=>if j<i then .int .u8 ((oz x (7-j)).toNat:Int)else .int .u8 0
theorem Qw (x i:Nat):(NU x i).set i (.int .u8 ((oz x (7-i)).toNat:Int))=NU x (i+1):=by
 unfold NU
 apply List.ext_getElem
 ·simp
 ·intro k h1 h2
  simp only [List.getElem_set,List.getElem_map,List.getElem_range]
  by_cases hk:i=k
  ·subst hk;simp
  ·rw [if_neg hk]
   by_cases hki:k<i
   ·rw [if_pos hki,if_pos (by omega)]
   ·rw [if_neg hki,if_neg (by omega)]
theorem Qx (x:Nat):NU x 8=dw (mG x 8):=rfl
theorem Jv (oa:Option Addr)(n c:Nat)(b:List UInt8)(x:Nat)(w:World)(hn:n=b.length)(hl:b.length≤1000000)(hc:n≤c)(hnil:oa=none→c=0)(hx:x<18446744073709551616)(hr:Row w oa (dw b)) :
  wQ Tryz.prog 68 #[.slice oa n c, .int .u64 x] w fun v w'=> ∃iq c',v = .slice iq (n+8) c'∧Own w' w.heap.size 5 1 iq (n+8) c' (dw (b++mG x 8))∧Below w.heap.size w w':=by
 refine fE Tryz.func68 rfl mixed (by kernel_rfl) ?_
 conv=>whnf
 refine lD (X:=Nat) ZO (fun i=> [(7, .int .i64 i)]) (fun i w'=>i≤8∧Below w.heap.size w w'∧jC w' w.heap.size (NU x i) 137) (fun i=>8-i) 0 (by kernel_rfl) ?_ ⟨by decide,lG (Below.refl _ _) (Nat.le_refl _) _,jC.new w _ _⟩ ?_
 ·exact⟨rfl,trivial⟩
 rintro i w2 j ⟨hi,hB2,hb2⟩
 conv=>whnf
 refine ah (fun hlt=> ?_) (fun hge=> ?_)
 ·have hlt:i<8:=by have:=of_decide_eq_true hlt;omega
  have e1:IntKind.i64.wrap (8*(i:Int))=((8*i:Nat):Int):=by rw [IntWalk.i64_in _ (by omega)];omega
  have e2:IntKind.i64.wrap (56-IntKind.i64.wrap (8*(i:Int)))=((8*(7-i):Nat):Int):=by rw [e1,IntWalk.i64_in _ (by omega)];omega
  conv=>whnf
  refine ay.mk (by rw [e2];omega) ?_
  conv=>whnf
  refine xQ i rfl rfl rfl hlt ?_
  conv=>whnf
  refine uZ hb2 rfl rfl (by simp [NU];omega) ?_
  intro w3 o3 hb3
  conv=>whnf
  refine kM.mk ⟨_, ?_,i+1,rfl, ?_, ?_⟩
  ·show 8 -(i+1)<8-i;omega
  ·exact⟨jJ (incr (by omega)),trivial⟩
  ·refine⟨hlt,hB2.trans (o3.below (Nat.le_refl _)), ?_⟩
   rw [e2]at hb3
   have:=Lj x (7-i) (by omega) hx _ (rfl:((8*(7-i):Nat):Int)=_)
   rw [IntWalk.u64_in _ (by omega)]at this
   rw [Nat.zero_add,this,Qw x i]at hb3
   exact hb3
 ·have hge : ¬i<8:=by have:=of_decide_eq_false hge;omega
  obtain rfl:i=8:=by omega
  rw [Qx]at hb2
  conv=>whnf
  refine Gt (E:=5) (n:=8) rfl rfl ?_
  conv=>whnf
  refine lF (by kernel_rfl) (Z7 oa (some ⟨w.heap.size,0,none⟩) n c 8 8 b (mG x 8) w2 hn (nM _ _).symm (by rw [nM];omega) hc hnil (fun e=>by cases e) (hr.below hB2) hb2.row) ?_
  rintro _ w3 ⟨o3,c3,rfl,hO3,hB3⟩
  have hB:=hB2.trans (hB3.mono hB2.size)
  have hO:Own w3 w.heap.size 5 1 o3 (n+8) c3 (dw (b++mG x 8)):=⟨hO3.1,hO3.2.imp id fun⟨g,cap,cur,h1,h0,h2⟩=>⟨g,cap,cur,h1,Nat.le_trans hB2.size h0,h2⟩⟩
  clear hO3 hB3
  conv=>whnf
  exact kN.mk ⟨o3,c3,rfl,hO,hB⟩
theorem Own.cut {w:World}{B:Nat}{E:TypeId}{sz:Nat}{oa:Option Addr}{n c h:Nat}{xs:List Value}(hO:Own w B E sz oa n c xs)(hh:h≤n):Own w B E sz oa h c (xs.take (h*sz)):=by
 have hl:=hO.1
 have hm:h*sz≤n*sz:=Nat.mul_le_mul_right _ hh
 refine⟨by rw [List.length_take];omega, ?_⟩
 rcases hO.2 with ⟨hv,hn⟩ | ⟨g,cap,cur,hv,hg,hb,h1,h2,h3,h4⟩
 ·injection hv with e1 e2 e3
  subst e1;subst e3
  exact .inl ⟨by rw [show h=0 by omega],by omega⟩
 ·injection hv with e1 e2 e3
  subst e1;subst e3
  exact .inr ⟨g,c,cur,rfl,hg,hb,by omega,h2,h3,by rw [←h4,List.take_take,Nat.min_eq_left hm]⟩
theorem VU {w:World}{B:Nat}{E:TypeId}{sz:Nat}{oa:Option Addr}{n c:Nat}{xs:List Value}(hO:Own w B E sz oa n c xs):n≤c:=by
 rcases hO.2 with ⟨hv,hn⟩ | ⟨g,cap,cur,hv,hg,hb,h1,_⟩
 ·omega
 ·injection hv with _ _ e3
  omega
theorem Jw {P:Program}{w:World}{K:Value→World→Prop}{t ty E:TypeId}{oa:Option Addr}{n c:Nat}(ht:P.underlying t=some (.slice E))(k:K (.int .i64 c) w):bQ P (Builtin.cap_ #[t] ty #[.slice oa n c]) w K:=by
 refine dZ ?_ k
 unfold Builtin.cap_
 simp [Sem.run_bind,aO ht,goInt]
theorem Jy {P:Program}{w:World}{K:Value→World→Prop}{t tn ty E:TypeId}{sz iQ n:Nat}{kn k:IntKind}{zs:List Value}(ht:P.underlying t=some (.slice E))(htn:P.underlying tn=some (.int kn))(hs:szB P E=some sz)(hby:gB P E=some iQ)(hz:lZ P E=some zs)
  (hzl:zs.length=sz) (hsz:Nat.ble 1 sz=true) (h0:0<n) (hbytes:n*iQ≤140737488355328) (hn:n≤maxLen)
  (hk : ∀c w' xs,Own w' w.heap.size E sz (some ⟨w.heap.size,0,none⟩) n c xs→Below w.heap.size w w'→K (.slice (some ⟨w.heap.size,0,none⟩) n c) w') :
  bQ P (Builtin.append_ #[t,tn] ty #[.slice none 0 0, .int k (n:Int)]) w K:=by
 obtain⟨i,hi,rfl⟩:=gQ hs
 have hb':i.bytes=iQ:=by simpa [gB,hi]using hby
 subst hb'
 obtain⟨z,hz1,hz2⟩ : ∃z,i.zero=some z∧z.cells.toList=zs:=by
  unfold lZ at hz
  simp only [hi,Option.bind_some]at hz
  cases hzz:i.zero with
  | none=>simp [hzz]at hz
  | some z=>simp only [hzz,Option.map_some,Option.some.injEq]at hz;exact⟨z,rfl,hz⟩
 have hsz':1≤i.size:=Nat.le_of_ble_eq_true hsz
 have hzc:z.cells.size=i.size:=by rw [←hz2]at hzl;simpa using hzl
 have hrun:=Lib.run_append_nil_zeros (P:=P) w t tn ty E i z k kn ht htn hi hz1 n h0 (by omega) (by unfold maxLen at hn;omega) (by omega)
 have hge:=grownCap_ge w n 0 E
 have hcm:=grownCap_le_maxLen w n 0 E hn
 have hcs : ∀m,(Builtin.zeroCells z.cells m).size=m*i.size:=fun m=>by simp [Builtin.zeroCells,hzc]
 refine dZ hrun (hk _ _ ((Builtin.zeroCells z.cells n++Builtin.zeroCells z.cells (grownCap w n 0 E-n)).toList.take (n*i.size)) (Own.wS (cur:=(Builtin.zeroCells z.cells n++Builtin.zeroCells z.cells (grownCap w n 0 E-n)).toList) ?_ (Nat.le_refl _) hge hcm ?_ rfl) ?_)
 ·have:=jC.new w.drew (Builtin.zeroCells z.cells n++Builtin.zeroCells z.cells (grownCap w n 0 E-n)) E
  simpa using this
 ·rw [Array.length_toList,Array.size_append,hcs,hcs, ←Nat.add_mul]
  congr 1;omega
 ·exact lG (Below.drew (Below.refl _ _)) (Nat.le_refl _) _
theorem Qy (n:Nat)(w:World)(hn:0<n)(hl:n≤1000000) :
  wQ Tryz.prog 88 #[.slice none 0 0, .int .i64 n] w fun v w'=> ∃oa c,v = .slice oa 0 c∧Own w' w.heap.size 95 10 oa 0 c []∧Below w.heap.size w w':=by
 refine fE Tryz.func88 rfl mixed (by kernel_rfl) ?_
 conv=>whnf
 refine Jw rfl ?_
 have e0:IntKind.i64.wrap ((n:Int)-IntKind.i64.wrap (((0:Nat):Int) -((0:Nat):Int)))=(n:Int):=by rw [IntWalk.i64_in (((0:Nat):Int) -((0:Nat):Int)) (by omega),IntWalk.i64_in _ (by omega)];omega
 conv=>whnf
 rw [e0,show decide ((n:Int)>0)=true from decide_eq_true (by omega)]
 conv=>whnf
 refine Jw rfl ?_
 conv=>whnf
 refine yY (h:=0) (sz:=10) rfl rfl rfl (Nat.le_refl _) (Nat.le_refl _) ?_
 conv=>whnf
 refine Jy (sz:=10) (iQ:=112) rfl rfl rfl rfl rfl rfl rfl hn (by omega) (by unfold maxLen;omega) ?_
 intro c w1 xs hO hB
 have hc:=VU hO
 conv=>whnf
 refine yY (h:=0) (sz:=10) rfl rfl rfl (Nat.zero_le _) hc ?_
 conv=>whnf
 exact kN.mk ⟨_,_,rfl,by have:=hO.cut (Nat.zero_le n);simpa using this,hB⟩
end Go.Proofs.YtocckceefcmeaaaGreatDoor.Vc
