/- Joined parts of the proof. The orders in which the reckoner walks the regions that draw theirs: printed by a program of ours, each is checked where -/
import Derived.Test.YtocckceefcmeaaaGreatDoorPk1
import Derived.Test.YtocckceefcmeaaaGreatDoorProg
import Derived.KernelRfl
import Derived.IntWalk
import Derived.Test.YtocckceefcmeaaaGreatDoorPk4
import Derived.Lib.AppendZeros
set_option linter.unusedVariables false
set_option linter.unusedSimpArgs false
set_option maxRecDepth 100000
set_option maxHeartbeats 16000000
namespace Go.Proofs.YtocckceefcmeaaaGreatDoor.Vc
open Go.Proofs.Tryz
def tk (l:List Nat)(p:Plan):Plan:=l.foldr .take p
def tr (n:Nat)(p:Plan):Plan:=tk (List.range n) p
def aiH:List (Nat×Nat):= [(4,4),(6,6),(8,11),(37,171)]
def V4 (id:Nat):Plan:=
 match id with
 | 12=>(.take 0 (.take 1 (.two 2 (.one 3 (.one 4 (.post 5 .done))) 3 (.one 2 (.one 4 (.post 5 .done))))))
 | 14=>(tk [0,1,2,3,4,5,6,7,8,10,11,12,13,14,15,16,17,18] (.one 9 (.take 20 (.one 19 (.post 21 (.take 22 (.post 23 .done)))))))
 | 18=>(tr 6 (.one 6 (.post 7 (tk [8,9,10] (.one 11 (.take 12 .done))))))
 | 19=>(tr 6 (.one 6 (.post 7 (tk [8,9,10] (.one 11 (.take 12 .done))))))
 | 24=>(tr 7 (.post 7 (.post 8 (tk [9,10,11] (.one 12 (.take 13 .done))))))
 | 25=>(tr 7 (.post 7 (.post 8 (tk [9,10,11] (.one 12 (.take 13 .done))))))
 | 29=>(.take 0 (.take 1 (.one 2 (.post 3 .done))))
 | _=> .done
def af2:List (Nat×Nat):= [(10,12),(47,67)]
def aiI (id:Nat):Plan:=
 match id with
 | 13=>(tr 9 (.one 9 (.one 10 (.post 11 (.take 12 .done)))))
 | _=> .done
def af4:List (Nat×Nat):= [(10,11),(45,64)]
def af5:List (Nat×Nat):= [(4,5),(11,27)]
def aiJ (id:Nat):Plan:=
 match id with
 | 6=>(tr 11 .done)
 | _=> .done
def af6:List (Nat×Nat):= [(2,5),(7,7),(9,9),(26,37)]
def aiK (id:Nat):Plan:=
 match id with
 | 18=>(tr 9 .done)
 | _=> .done
def af7:List (Nat×Nat):= [(2,7),(15,33)]
def aiL (id:Nat):Plan:=
 match id with
 | 14=>(tk [0,1,2,3,6,7,8,9,13,14,15,16,17,18,19,20,21,22,23,24] (.two 4 (.take 5 (.two 10 (.take 11 (.one 12 (.one 25 (tk [26,27,28] .done)))) 12 (.one 10 (.take 11 (.one 25 (tk [26,27,28] .done)))))) 12 (.one 4 (.take 5 (.one 10 (.take 11 (.one 25 (tk [26,27,28] .done))))))))
 | _=> .done
def af8:List (Nat×Nat):= [(2,25)]
def af9:List (Nat×Nat):= [(7,13),(28,65)]
def aga:List (Nat×Nat):= [(6,6),(15,40)]
def agb:List (Nat×Nat):= [(6,7),(17,65)]
def Yk (id:Nat):Plan:=
 match id with
 | 9=>(tr 13 .done)
 | 11=>(tr 9 (.post 9 .done))
 | _=> .done
def agc:List (Nat×Nat):= [(4,5),(11,25)]
def aiM (id:Nat):Plan:=
 match id with
 | 6=>(tr 9 .done)
 | _=> .done
def agd:List (Nat×Nat):= [(0,0),(5,5),(15,25)]
def aeV (id:Nat):Plan:=
 match id with
 | 3=>(tr 41 (.one 41 (.post 42 .done)))
 | 4=>(tr 16 (.one 16 (.one 17 (.take 18 (.one 19 (.take 20 .done))))))
 | _=> .done
def agf:List (Nat×Nat):= [(6,9),(17,31)]
def agh:List (Nat×Nat):= [(2,84)]
def aeW (id:Nat):Plan:=
 match id with
 | 5=>(tr 12 .done)
 | 8=>(tr 13 .done)
 | _=> .done
def agi:List (Nat×Nat):= [(3,18)]
def aiN (id:Nat):Plan:=
 match id with
 | 2=>(tk [0,1,2,4,5,6] (.one 3 (.take 8 (.one 7 (.post 9 (.take 10 (.post 11 .done)))))))
 | _=> .done
def agj:List (Nat×Nat):= [(2,4),(7,7),(10,16),(34,66)]
def agk:List (Nat×Nat):= [(3,3),(5,7),(10,32)]
def agl:List (Nat×Nat):= [(4,4),(6,8),(21,35)]
def aiO (id:Nat):Plan:=
 match id with
 | 20=>(tr 8 (.one 8 (.take 9 (.post 10 (.take 11 .done)))))
 | _=> .done
def agm:List (Nat×Nat):= [(5,5),(19,35)]
def aeX (id:Nat):Plan:=
 match id with
 | 7=>(.take 0 (.take 1 (.one 2 (.one 3 (.post 4 (.take 5 (.post 6 .done)))))))
 | 8=>(.take 0 (.take 1 (.one 2 (.one 3 (.post 4 (.take 5 (.post 6 .done)))))))
 | _=> .done
def agn:List (Nat×Nat):= [(6,7),(9,17),(31,77)]
def aiP (id:Nat):Plan:=
 match id with
 | 1=>(tr 15 .done)
 | _=> .done
def aiQ (id:Nat):Plan:=
 match id with
 | 1=>(tr 4 (.one 4 (tk [5,6,7] .done)))
 | _=> .done
def agp:List (Nat×Nat):= [(2,2),(5,5),(39,61)]
def agq:List (Nat×Nat):= [(2,3),(5,6),(14,23)]
def aiR (id:Nat):Plan:=
 match id with
 | 13=>(.take 0 (.take 1 (.one 2 (.post 3 (.post 4 .done)))))
 | _=> .done
def agr:List (Nat×Nat):= [(3,3),(5,5),(11,22)]
def ags:List (Nat×Nat):= [(6,6),(8,8),(27,34)]
def agt:List (Nat×Nat):= [(7,11),(16,37)]
def agu:List (Nat×Nat):= [(4,5),(7,11),(16,116)]
def uP (id:Nat):Plan:=
 match id with
 | 12=>(tk [1,4,5,6,7,8,9] (.three 0 (.take 2 (.take 3 (.two 10 (.two 11 (.take 12 (.one 13 (.post 14 .done))) 13 (.one 11 (.take 12 (.post 14 .done)))) 13 (.one 10 (.one 11 (.take 12 (.post 14 .done))))))) 10 (.three 0 (.take 2 (.take 3 (.two 11 (.take 12 (.one 13 (.post 14 .done))) 13 (.one 11 (.take 12 (.post 14 .done)))))) 11 (.two 0 (tk [2,3,12] (.one 13 (.post 14 .done))) 13 (.one 0 (tk [2,3,12] (.post 14 .done)))) 13 (.two 0 (.take 2 (.take 3 (.one 11 (.take 12 (.post 14 .done))))) 11 (.one 0 (tk [2,3,12] (.post 14 .done))))) 13 (.two 0 (.take 2 (.take 3 (.one 10 (.one 11 (.take 12 (.post 14 .done)))))) 10 (.two 0 (.take 2 (.take 3 (.one 11 (.take 12 (.post 14 .done))))) 11 (.one 0 (tk [2,3,12] (.post 14 .done)))))))
 | 18=>(tk [1,6,11,15,19] (.one 0 (.one 2 (tk [3,4,5] (.one 7 (tk [8,9,10] (.one 12 (.take 13 (.take 14 (.one 16 (.take 17 (.take 18 (.one 20 (.take 21 (.one 22 (.take 23 (.one 24 (.take 25 (.post 26 .done)))))))))))))))))))
 | 21=>(tk [0,2,3] (.one 1 (.take 4 .done)))
 | 14=>(tk [1,6,9] (.one 0 (.one 2 (tk [3,4,5] (.one 7 (.take 8 (.one 10 (.take 11 (.one 12 (.take 13 (.post 14 .done)))))))))))
 | _=> .done
def agv:List (Nat×Nat):= [(2,5),(15,28)]
def agw:List (Nat×Nat):= [(6,11),(32,63)]
def Yl (id:Nat):Plan:=
 match id with
 | 5=>(tr 14 .done)
 | _=> .done
def agx:List (Nat×Nat):= [(7,9),(13,34)]
def agy:List (Nat×Nat):= [(3,4),(12,21)]
def agz:List (Nat×Nat):= [(6,18)]
def agA:List (Nat×Nat):= [(5,6),(9,21)]
def agB:List (Nat×Nat):= [(3,3),(5,5),(8,17)]
def aiS (id:Nat):Plan:=
 match id with
 | 7=>(tr 11 .done)
 | _=> .done
def agC:List (Nat×Nat):= [(2,3),(6,10),(23,47)]
def agD:List (Nat×Nat):= [(2,3),(6,20),(27,162)]
def agE:List (Nat×Nat):= [(6,6),(20,20),(106,154)]
def aeY (id:Nat):Plan:=
 match id with
 | 11=>(tr 13 (.post 13 (.take 14 .done)))
 | 20=>(tr 42 (.one 42 (.post 43 (.take 44 .done))))
 | _=> .done
def agF:List (Nat×Nat):= [(3,26)]
def Ur (id:Nat):Plan:=
 match id with
 | 1=>(tr 12 .done)
 | _=> .done
def agG:List (Nat×Nat):= [(3,3),(5,7),(9,11),(18,71)]
def Nc:List (Nat×Nat):= [(6,7),(24,38)]
def Nh:List (Nat×Nat):= [(3,3),(9,11),(46,70)]
def EC:List (Nat×Nat):= [(10,11),(52,65)]
def Us (id:Nat):Plan:=
 match id with
 | 10=>(tr 6 (.one 6 (.take 7 (.take 8 (.one 9 (.post 10 (.take 11 .done)))))))
 | _=> .done
def aiT (id:Nat):Plan:=
 match id with
 | 1=>(tr 11 .done)
 | _=> .done
def aeZ (id:Nat):Plan:=
 match id with
 | 1=>(tr 10 .done)
 | 4=>(tr 15 .done)
 | _=> .done
def Ut (id:Nat):Plan:=
 match id with
 | 1=>(tr 12 .done)
 | _=> .done
def agH:List (Nat×Nat):= [(4,6),(15,34)]
def ae0 (id:Nat):Plan:=
 match id with
 | 1=>(tr 10 .done)
 | 5=>(tr 16 .done)
 | _=> .done
def agI:List (Nat×Nat):= [(3,14),(16,75)]
def agJ (id:Nat):Plan:=
 match id with
 | 12=>(tk [0,1,2,4] (.one 3 (.one 5 (.take 6 (.post 7 .done)))))
 | _=> .done
def abn:List (Nat×Nat):= [(9,11),(26,50)]
def abo:List (Nat×Nat):= [(10,11),(33,48)]
def abp:List (Nat×Nat):= [(8,8),(12,12),(54,74)]
def abq:List (Nat×Nat):= [(3,3),(5,6),(9,30)]
def abr:List (Nat×Nat):= [(3,3),(6,6),(13,26)]
def abt:List (Nat×Nat):= [(8,10),(20,77)]
def abu:List (Nat×Nat):= [(9,10),(27,53)]
def abv:List (Nat×Nat):= [(3,36)]
def abw:List (Nat×Nat):= [(3,3),(6,6),(19,30)]
def abx:List (Nat×Nat):= [(2,5),(11,75)]
def aby:List (Nat×Nat):= [(4,6),(13,13),(15,19),(21,25),(62,141)]
def Gm:List (Nat×Nat):= [(19,19),(85,99)]
def Gn:List (Nat×Nat):= [(4,6),(13,13),(21,25),(103,140)]
def Am:List (Nat×Nat):= [(25,25),(126,139)]
def xZ (id:Nat):Plan:=
 match id with
 | 20=>(tk [0,1,2,3,4,6,7,8,9] (.one 5 (.take 10 (.post 11 .done))))
 | 32=>(tk [0,1,2,3,5,6,7,8] (.one 4 (.take 9 (.post 10 .done))))
 | _=> .done
def agK (id:Nat):Plan:=
 match id with
 | 2=>(tk [0,1,2,3,4,5,6,7,8,9,10,11,12,13,14,15,16,17,20,21,22,23,24,25,26,27,28,29] (.one 18 (.take 19 (.one 30 (tk [31,32,33,34,35] .done)))))
 | _=> .done
def abz:List (Nat×Nat):= [(2,5),(18,49)]
def abA:List (Nat×Nat):= [(2,2),(7,7),(52,59)]
def abB:List (Nat×Nat):= [(4,30)]
def agL (id:Nat):Plan:=
 match id with
 | 3=>(tr 7 .done)
 | _=> .done
def abC (id:Nat):Plan:=agL id
def Nj:List (Nat×Nat):= [(4,4),(6,6),(23,30)]
def Nk:List (Nat×Nat):= [(7,7),(9,11),(33,47)]
def abD:List (Nat×Nat):= [(2,6),(8,37)]
def abE:List (Nat×Nat):= [(4,5),(7,7),(18,30)]
def Ym (id:Nat):Plan:=
 match id with
 | 1=>(tr 10 .done)
 | 5=>(tr 10 .done)
 | _=> .done
def Yn (id:Nat):Plan:=
 match id with
 | 0=>(tr 6 (.one 6 (.take 7 (.post 8 .done))))
 | _=> .done
def abG:List (Nat×Nat):= [(4,5),(11,21)]
def abH:List (Nat×Nat):= [(2,2),(4,4),(14,25)]
def abI:List (Nat×Nat):= [(3,5),(11,63)]
def abJ:List (Nat×Nat):= [(5,5),(17,33)]
def abK:List (Nat×Nat):= [(6,6),(8,8),(67,78)]
def abL:List (Nat×Nat):= [(7,7),(9,10),(79,99)]
def abM:List (Nat×Nat):= [(10,10),(85,95)]
def ED (id:Nat):Plan:=
 match id with
 | 6=>(tr 15 .done)
 | 8=>(tr 15 .done)
 | 9=>(tk [1,2,3,5,6,7,8,11,12,13] (.two 0 (.two 4 (.one 9 (.one 10 (.post 14 (.take 15 .done)))) 9 (.one 4 (.one 10 (.post 14 (.take 15 .done))))) 9 (.one 0 (.one 4 (.one 10 (.post 14 (.take 15 .done)))))))
 | 20=>(tr 9 .done)
 | _=> .done
def abN:List (Nat×Nat):= [(3,5),(12,24)]
def Uu (id:Nat):Plan:=
 match id with
 | 0=>(tr 8 (.sink 8))
 | 2=>(tr 8 (.sink 8))
 | _=> .done
def abO:List (Nat×Nat):= [(5,119)]
def vg (id:Nat):Plan:=
 match id with
 | 2=>(tr 11 (.sink 11))
 | 3=>(tk [0,1,2,3,4,6,7,8,9,11] (.one 5 (.take 10 (.take 12 (.sink 13)))))
 | 4=>(tk [0,1,2,3,4,6] (.one 5 (.take 7 (.sink 8))))
 | 5=>(tr 11 (.sink 11))
 | 6=>(tk [0,1,2,3,4,6,7,8,9,11] (.one 5 (.take 10 (.take 12 (.sink 13)))))
 | 7=>(tr 11 (.sink 11))
 | 8=>(tk [0,1,2,3,4,6,7,8,9,11] (.one 5 (.take 10 (.take 12 (.sink 13)))))
 | 9=>(tr 11 (.sink 11))
 | 10=>(tk [0,1,2,3,4,6,7,8,9,11] (.one 5 (.take 10 (.take 12 (.sink 13)))))
 | 11=>(tk [0,1,2,3,4,6] (.one 5 (.take 7 (.sink 8))))
 | _=> .done
def abP:List (Nat×Nat):= [(5,70)]
def Gp (id:Nat):Plan:=
 match id with
 | 5=>(tk [0,1,3,4] (.one 2 (.take 5 (.take 6 (.sink 7)))))
 | 8=>(tk [0,1,3,4] (.one 2 (.take 5 (.take 6 (.sink 7)))))
 | 10=>(tk [0,1,3,4] (.one 2 (.take 5 (.take 6 (.sink 7)))))
 | 12=>(tk [0,1,3,4] (.one 2 (.take 5 (.take 6 (.sink 7)))))
 | _=> .done
def abQ:List (Nat×Nat):= [(7,8),(10,10),(25,41)]
def abR:List (Nat×Nat):= [(2,4),(9,9),(15,15),(57,76)]
def IL (id:Nat):Plan:=
 match id with
 | 8=>(tk [1,2,5,6,8,12] (.one 0 (.take 3 (.take 4 (.one 7 (.one 9 (.take 10 (.take 11 (.post 13 (tk [14,15,16,17,18] .done))))))))))
 | _=> .done
def abS:List (Nat×Nat):= [(7,7),(9,9),(19,28)]
def abT:List (Nat×Nat):= [(2,4),(8,8),(13,13),(48,77)]
def abU:List (Nat×Nat):= [(4,5),(8,18)]
def abV:List (Nat×Nat):= [(3,8),(13,35)]
def abW:List (Nat×Nat):= [(12,12),(42,55)]
def abX:List (Nat×Nat):= [(10,12),(57,94)]
def abY:List (Nat×Nat):= [(12,12),(80,93)]
def abZ:List (Nat×Nat):= [(7,9),(13,30)]
def agM (id:Nat):Plan:=
 match id with
 | 1=>(tk [0,1,3,4] (.one 2 (.take 6 (.one 5 (.post 7 (.take 8 (.post 9 .done)))))))
 | _=> .done
def ab1:List (Nat×Nat):= [(2,43)]
def ab2:List (Nat×Nat):= [(5,6),(103,114)]
def ab3:List (Nat×Nat):= [(5,5),(7,8),(117,149)]
def ab4:List (Nat×Nat):= [(8,8),(122,138)]
def ab5:List (Nat×Nat):= [(5,5),(9,9),(157,177)]
def ab6:List (Nat×Nat):= [(5,5),(11,11),(186,197)]
def ab7:List (Nat×Nat):= [(5,5),(12,12),(198,211)]
def ab8:List (Nat×Nat):= [(16,19),(55,97)]
def ab9:List (Nat×Nat):= [(18,19),(71,97)]
def Nl (id:Nat):Plan:=
 match id with
 | 26=>(tr 15 .done)
 | 35=>(tr 14 (.post 14 (.take 15 .done)))
 | 4=>(tr 12 (.post 12 (.take 13 .done)))
 | 10=>(tr 11 .done)
 | _=> .done
def SG (id:Nat):Plan:=
 match id with
 | 10=>(tr 13 .done)
 | 4=>(tr 17 .done)
 | _=> .done
def agN (id:Nat):Plan:=
 match id with
 | 1=>(tr 16 .done)
 | _=> .done
def acd:List (Nat×Nat):= [(5,6),(33,42)]
def ace:List (Nat×Nat):= [(5,5),(7,9),(45,87)]
def Np:List (Nat×Nat):= [(5,5),(9,9),(72,87)]
def acf:List (Nat×Nat):= [(5,5),(10,11),(90,112)]
def acg:List (Nat×Nat):= [(12,12),(14,14),(117,126)]
def ach:List (Nat×Nat):= [(5,5),(15,16),(127,157)]
def aci:List (Nat×Nat):= [(5,5),(20,23),(198,244)]
def acj:List (Nat×Nat):= [(21,23),(203,236)]
def SH (id:Nat):Plan:=
 match id with
 | 45=>(tr 27 .done)
 | 56=>(tr 25 .done)
 | _=> .done
def acn:List (Nat×Nat):= [(1,3),(8,133)]
def aco:List (Nat×Nat):= [(0,0),(6,6),(9,16)]
def acp:List (Nat×Nat):= [(7,7),(10,23)]
def acr:List (Nat×Nat):= [(0,0),(5,39)]
def acs:List (Nat×Nat):= [(6,6),(12,28)]
def agO (id:Nat):Plan:=
 match id with
 | 4=>(tr 15 .done)
 | _=> .done
def acu:List (Nat×Nat):= [(4,5),(7,9),(12,40)]
def acv:List (Nat×Nat):= [(0,0),(5,5),(7,7),(10,20)]
def acw:List (Nat×Nat):= [(8,8),(15,31)]
def agP (id:Nat):Plan:=
 match id with
 | 5=>(tr 11 (.post 11 .done))
 | _=> .done
def acy:List (Nat×Nat):= [(0,0),(7,9),(24,37)]
def acz:List (Nat×Nat):= [(8,8),(16,29)]
def Uw:List (Nat×Nat):= [(4,5),(9,10),(30,55)]
def acA:List (Nat×Nat):= [(8,12),(36,71)]
def acB:List (Nat×Nat):= [(11,12),(47,70)]
def agQ (id:Nat):Plan:=
 match id with
 | 13=>(tr 15 (.post 15 .done))
 | _=> .done
def acC:List (Nat×Nat):= [(9,13),(39,74)]
def acD:List (Nat×Nat):= [(11,13),(43,65)]
def acF:List (Nat×Nat):= [(3,58)]
def acG:List (Nat×Nat):= [(5,5),(12,28)]
def IQ (id:Nat):Plan:=
 match id with
 | 6=>(tr 15 .done)
 | 8=>(tr 15 .done)
 | 9=>(tk [1,2,3,5,6,7,8,11,12,13] (.two 0 (.two 4 (.one 9 (.one 10 (.post 14 (.take 15 .done)))) 9 (.one 4 (.one 10 (.post 14 (.take 15 .done))))) 9 (.one 0 (.one 4 (.one 10 (.post 14 (.take 15 .done)))))))
 | _=> .done
def acH:List (Nat×Nat):= [(4,18)]
def acI:List (Nat×Nat):= [(0,0),(3,9)]
def acJ:List (Nat×Nat):= [(6,7),(10,48)]
def acK:List (Nat×Nat):= [(8,8),(34,46)]
def agR (id:Nat):Plan:=
 match id with
 | 9=>(tr 7 (.one 7 (.take 8 (.take 9 .done))))
 | _=> .done
def acL:List (Nat×Nat):= [(7,9),(13,30)]
def acM:List (Nat×Nat):= [(3,4),(12,23)]
def acN:List (Nat×Nat):= [(3,4),(12,23)]
end Go.Proofs.YtocckceefcmeaaaGreatDoor.Vc
namespace Go.Proofs.YtocckceefcmeaaaGreatDoor.Dg
open RowKit Vc Go.Proofs.Tryz
attribute [local irreducible] loadVar storeVar Instr.indexAt Instr.index Instr.sliceAt Instr.makeSlice Instr.lookup Instr.mapUpdate Instr.range Instr.next Instr.entry Instr.makeMap Builtin.append_ Builtin.copy_ Builtin.len_ Builtin.min_ Builtin.max_ Builtin.cap_ Builtin.delete_ Builtin.clear_ convert binOp eqGuard Op.unary Calls
theorem mixed:Tryz.prog.follows .mixedOrders=true:=by kernel_rfl
def J7 (x:Int)(n:Nat):Int:=nD .or .u64 (IntKind.u64.wrap (x*2^n)) (x.fdiv (2^(64-n)))
theorem EF (x k:Int)(n:Nat)(hk:nD .and .u64 (IntKind.u64.wrap k) 63=n)(h0:0<n)(h1:n<64)(w:World) :
  zC Tryz.prog 164 #[.int .u64 x, .int .i64 k] w fun v w'=>v = .int .u64 (J7 x n)∧w'=w:=by
 have e3:IntKind.u64.wrap (64 -(n:Int))=64-n:=IntWalk.u64_in _ (by omega)
 refine oz func164 rfl mixed (by kernel_rfl) ?_
 refine lN.mk (by rw [hk];omega) ?_
 refine lN.mk ?_ ?_
 ·rw [hk,e3];omega
 refine rX.mk ⟨?_,rfl⟩
 show Value.int .u64 _=_
 rw [hk,e3]
 unfold J7
 have e1:min (n:Int).toNat IntKind.u64.bits=n:=by simp [IntKind.bits];omega
 have e2:min (64 -(n:Int)).toNat IntKind.u64.bits=64-n:=by simp [IntKind.bits]
 rw [e1,e2]
structure S4 where
 a:Int
 b:Int
 c:Int
 d:Int
def u (x:Int):Value:= .int .u64 x
def add (x y:Int):Int:=IntKind.u64.wrap (x+y)
def xor (x y:Int):Int:=nD .xor .u64 x y
def S4.round (s:S4):S4:=
 let a:=add s.a s.b
 let b:=xor (J7 s.b 13) a
 let a:=J7 a 32
 let c:=add s.c s.d
 let d:=xor (J7 s.d 16) c
 let a:=add a d
 let d:=xor (J7 d 21) a
 let c:=add c b
 let b:=xor (J7 b 17) c
 let c:=J7 c 32
 ⟨a,b,c,d⟩
def S4.rounds (s:S4):Nat->S4
 | 0=>s
 | n+1=>(s.rounds n).round
@[reducible] def S4.cells (s:S4):List Value:= [.int .u64 s.a, .int .u64 s.b, .int .u64 s.c, .int .u64 s.d]
theorem KY (b:Nat)(T:TypeId)(n:Nat)(hn:n<100)(s:S4)(w:World)(hb:tu w b s.cells T) :
  zC Tryz.prog 135 #[.pointer (some ⟨b,0,none⟩), .int .i64 n] w fun _ w'=> ∃t,t=s.rounds n∧Only b w w'∧tu w' b t.cells T:=by
 refine oz func135 rfl mixed (by kernel_rfl) ?_
 refine tq (X:=Nat) abO (fun i=> [(0, .pointer (some ⟨b,0,none⟩)),(4, .int .i64 n),(5, .int .i64 i)]) (fun i w'=>i<=n∧Only b w w'∧tu w' b (s.rounds i).cells T) (fun i=>n-i) 0 (by kernel_rfl) ⟨rfl,rfl,rfl,trivial⟩ ⟨au _,Only.refl _ _,hb⟩ ?_
 rintro i w' j ⟨hi,ho,hb'⟩
 refine lK (fun hlt=> ?_) (fun hge=> ?_)
 ·have hlt:i<n:=by simpa using hlt
  (refine qx vg (by kernel_rfl) ?_;conv=>whnf)
  repeat (first|(refine lN.mk (by first|decide|omega) ?_;conv=>whnf)|(refine oL.mk rfl ?_;conv=>whnf)|(refine oC.keep rfl ?_;conv=>whnf)|(refine nK rfl (by assumption) rfl ?_;conv=>whnf)|(refine nT rfl rfl rfl ?_;conv=>whnf)|(refine mX (by assumption) rfl rfl rfl ?_;intro _ _ _;conv=>whnf))
  (refine qx vg (by kernel_rfl) ?_;conv=>whnf)
  repeat (first|(refine lN.mk (by first|decide|omega) ?_;conv=>whnf)|(refine oL.mk rfl ?_;conv=>whnf)|(refine oC.keep rfl ?_;conv=>whnf)|(refine nK rfl (by assumption) rfl ?_;conv=>whnf)|(refine nT rfl rfl rfl ?_;conv=>whnf)|(refine mX (by assumption) rfl rfl rfl ?_;intro _ _ _;conv=>whnf))
  refine pY (by kernel_rfl) (EF _ _ 13 (by kernel_rfl) (by decide) (by decide) _) ?_
  rintro _ _ ⟨rfl,rfl⟩
  conv=>whnf
  repeat (first|(refine lN.mk (by first|decide|omega) ?_;conv=>whnf)|(refine oL.mk rfl ?_;conv=>whnf)|(refine oC.keep rfl ?_;conv=>whnf)|(refine nK rfl (by assumption) rfl ?_;conv=>whnf)|(refine nT rfl rfl rfl ?_;conv=>whnf)|(refine mX (by assumption) rfl rfl rfl ?_;intro _ _ _;conv=>whnf))
  (refine qx vg (by kernel_rfl) ?_;conv=>whnf)
  repeat (first|(refine lN.mk (by first|decide|omega) ?_;conv=>whnf)|(refine oL.mk rfl ?_;conv=>whnf)|(refine oC.keep rfl ?_;conv=>whnf)|(refine nK rfl (by assumption) rfl ?_;conv=>whnf)|(refine nT rfl rfl rfl ?_;conv=>whnf)|(refine mX (by assumption) rfl rfl rfl ?_;intro _ _ _;conv=>whnf))
  refine pY (by kernel_rfl) (EF _ _ 32 (by kernel_rfl) (by decide) (by decide) _) ?_
  rintro _ _ ⟨rfl,rfl⟩
  conv=>whnf
  repeat (first|(refine lN.mk (by first|decide|omega) ?_;conv=>whnf)|(refine oL.mk rfl ?_;conv=>whnf)|(refine oC.keep rfl ?_;conv=>whnf)|(refine nK rfl (by assumption) rfl ?_;conv=>whnf)|(refine nT rfl rfl rfl ?_;conv=>whnf)|(refine mX (by assumption) rfl rfl rfl ?_;intro _ _ _;conv=>whnf))
  (refine qx vg (by kernel_rfl) ?_;conv=>whnf)
  repeat (first|(refine lN.mk (by first|decide|omega) ?_;conv=>whnf)|(refine oL.mk rfl ?_;conv=>whnf)|(refine oC.keep rfl ?_;conv=>whnf)|(refine nK rfl (by assumption) rfl ?_;conv=>whnf)|(refine nT rfl rfl rfl ?_;conv=>whnf)|(refine mX (by assumption) rfl rfl rfl ?_;intro _ _ _;conv=>whnf))
  (refine qx vg (by kernel_rfl) ?_;conv=>whnf)
  repeat (first|(refine lN.mk (by first|decide|omega) ?_;conv=>whnf)|(refine oL.mk rfl ?_;conv=>whnf)|(refine oC.keep rfl ?_;conv=>whnf)|(refine nK rfl (by assumption) rfl ?_;conv=>whnf)|(refine nT rfl rfl rfl ?_;conv=>whnf)|(refine mX (by assumption) rfl rfl rfl ?_;intro _ _ _;conv=>whnf))
  refine pY (by kernel_rfl) (EF _ _ 16 (by kernel_rfl) (by decide) (by decide) _) ?_
  rintro _ _ ⟨rfl,rfl⟩
  conv=>whnf
  repeat (first|(refine lN.mk (by first|decide|omega) ?_;conv=>whnf)|(refine oL.mk rfl ?_;conv=>whnf)|(refine oC.keep rfl ?_;conv=>whnf)|(refine nK rfl (by assumption) rfl ?_;conv=>whnf)|(refine nT rfl rfl rfl ?_;conv=>whnf)|(refine mX (by assumption) rfl rfl rfl ?_;intro _ _ _;conv=>whnf))
  (refine qx vg (by kernel_rfl) ?_;conv=>whnf)
  repeat (first|(refine lN.mk (by first|decide|omega) ?_;conv=>whnf)|(refine oL.mk rfl ?_;conv=>whnf)|(refine oC.keep rfl ?_;conv=>whnf)|(refine nK rfl (by assumption) rfl ?_;conv=>whnf)|(refine nT rfl rfl rfl ?_;conv=>whnf)|(refine mX (by assumption) rfl rfl rfl ?_;intro _ _ _;conv=>whnf))
  (refine qx vg (by kernel_rfl) ?_;conv=>whnf)
  repeat (first|(refine lN.mk (by first|decide|omega) ?_;conv=>whnf)|(refine oL.mk rfl ?_;conv=>whnf)|(refine oC.keep rfl ?_;conv=>whnf)|(refine nK rfl (by assumption) rfl ?_;conv=>whnf)|(refine nT rfl rfl rfl ?_;conv=>whnf)|(refine mX (by assumption) rfl rfl rfl ?_;intro _ _ _;conv=>whnf))
  refine pY (by kernel_rfl) (EF _ _ 21 (by kernel_rfl) (by decide) (by decide) _) ?_
  rintro _ _ ⟨rfl,rfl⟩
  conv=>whnf
  repeat (first|(refine lN.mk (by first|decide|omega) ?_;conv=>whnf)|(refine oL.mk rfl ?_;conv=>whnf)|(refine oC.keep rfl ?_;conv=>whnf)|(refine nK rfl (by assumption) rfl ?_;conv=>whnf)|(refine nT rfl rfl rfl ?_;conv=>whnf)|(refine mX (by assumption) rfl rfl rfl ?_;intro _ _ _;conv=>whnf))
  (refine qx vg (by kernel_rfl) ?_;conv=>whnf)
  repeat (first|(refine lN.mk (by first|decide|omega) ?_;conv=>whnf)|(refine oL.mk rfl ?_;conv=>whnf)|(refine oC.keep rfl ?_;conv=>whnf)|(refine nK rfl (by assumption) rfl ?_;conv=>whnf)|(refine nT rfl rfl rfl ?_;conv=>whnf)|(refine mX (by assumption) rfl rfl rfl ?_;intro _ _ _;conv=>whnf))
  (refine qx vg (by kernel_rfl) ?_;conv=>whnf)
  repeat (first|(refine lN.mk (by first|decide|omega) ?_;conv=>whnf)|(refine oL.mk rfl ?_;conv=>whnf)|(refine oC.keep rfl ?_;conv=>whnf)|(refine nK rfl (by assumption) rfl ?_;conv=>whnf)|(refine nT rfl rfl rfl ?_;conv=>whnf)|(refine mX (by assumption) rfl rfl rfl ?_;intro _ _ _;conv=>whnf))
  refine pY (by kernel_rfl) (EF _ _ 17 (by kernel_rfl) (by decide) (by decide) _) ?_
  rintro _ _ ⟨rfl,rfl⟩
  conv=>whnf
  repeat (first|(refine lN.mk (by first|decide|omega) ?_;conv=>whnf)|(refine oL.mk rfl ?_;conv=>whnf)|(refine oC.keep rfl ?_;conv=>whnf)|(refine nK rfl (by assumption) rfl ?_;conv=>whnf)|(refine nT rfl rfl rfl ?_;conv=>whnf)|(refine mX (by assumption) rfl rfl rfl ?_;intro _ _ _;conv=>whnf))
  (refine qx vg (by kernel_rfl) ?_;conv=>whnf)
  repeat (first|(refine lN.mk (by first|decide|omega) ?_;conv=>whnf)|(refine oL.mk rfl ?_;conv=>whnf)|(refine oC.keep rfl ?_;conv=>whnf)|(refine nK rfl (by assumption) rfl ?_;conv=>whnf)|(refine nT rfl rfl rfl ?_;conv=>whnf)|(refine mX (by assumption) rfl rfl rfl ?_;intro _ _ _;conv=>whnf))
  refine pY (by kernel_rfl) (EF _ _ 32 (by kernel_rfl) (by decide) (by decide) _) ?_
  rintro _ _ ⟨rfl,rfl⟩
  conv=>whnf
  repeat (first|(refine lN.mk (by first|decide|omega) ?_;conv=>whnf)|(refine oL.mk rfl ?_;conv=>whnf)|(refine oC.keep rfl ?_;conv=>whnf)|(refine nK rfl (by assumption) rfl ?_;conv=>whnf)|(refine nT rfl rfl rfl ?_;conv=>whnf)|(refine mX (by assumption) rfl rfl rfl ?_;intro _ _ _;conv=>whnf))
  refine rU.mk ⟨_, ?_,i+1,rfl, ?_, ?_⟩
  ·show n -(i+1)<n-i;omega
  ·exact⟨rfl,rfl,qI (incr (by omega)),trivial⟩
  ·refine⟨hlt, ?_, ?_⟩
   ·(repeat (first|assumption|exact Only.refl _ _|refine Only.step (by assumption) ?_|refine Only.aeN (by assumption) ?_))
   ·assumption
 ·have hge : ¬i<n:=by simpa using hge
  conv=>whnf
  have:i=n:=by omega
  subst this
  exact rX.mk ⟨_,rfl,ho,hb'⟩
def S4.word (s:S4)(m:Int):S4:=
 let t:=S4.rounds ⟨s.a,s.b,s.c,xor s.d m⟩ 2
 ⟨xor t.a m,t.b,t.c,t.d⟩
theorem Gq (b:Nat)(T:TypeId)(m:Int)(s:S4)(w:World)(hb:tu w b s.cells T) :
  zC Tryz.prog 134 #[.pointer (some ⟨b,0,none⟩), .int .u64 m] w fun _ w'=> ∃t,t=s.word m∧Only b w w'∧tu w' b t.cells T:=by
 refine oz func134 rfl mixed (by kernel_rfl) ?_
 (refine qx Uu (by kernel_rfl) ?_;conv=>whnf)
 repeat (first|(refine lN.mk (by first|decide|omega) ?_;conv=>whnf)|(refine oL.mk rfl ?_;conv=>whnf)|(refine oC.keep rfl ?_;conv=>whnf)|(refine nK rfl (by assumption) rfl ?_;conv=>whnf)|(refine nT rfl rfl rfl ?_;conv=>whnf)|(refine mX (by assumption) rfl rfl rfl ?_;intro _ _ _;conv=>whnf))
 rename_i w1 o1 hb1
 refine pY (by kernel_rfl) (KY b T 2 (by decide) ⟨s.a,s.b,s.c,xor s.d m⟩ _ hb1) ?_
 rintro _ w2 ⟨t,ht,o2,hb2⟩
 (refine qx Uu (by kernel_rfl) ?_;conv=>whnf)
 repeat (first|(refine lN.mk (by first|decide|omega) ?_;conv=>whnf)|(refine oL.mk rfl ?_;conv=>whnf)|(refine oC.keep rfl ?_;conv=>whnf)|(refine nK rfl (by assumption) rfl ?_;conv=>whnf)|(refine nT rfl rfl rfl ?_;conv=>whnf)|(refine mX (by assumption) rfl rfl rfl ?_;intro _ _ _;conv=>whnf))
 rename_i w3 o3 hb3
 have he:s.word m=⟨xor t.a m,t.b,t.c,t.d⟩:=by rw [ht];rfl
 refine rX.mk ⟨⟨xor t.a m,t.b,t.c,t.d⟩,he.symm, ?_,hb3⟩
 exact Only.step o3 ((o1.Rq).trans o2)
def V5 (x y:Int):Int:=nD .or .u64 x y
def V6 (b:UInt8)(k:Nat):Int:=IntKind.u64.wrap ((b.toNat:Int)*2^(8*k))
def vS (l:List UInt8):Nat->Int
 | 0=>0
 | n+1=>V5 (vS l n) (V6 (l.getD n 0) n)
def S4.init (k0 k1:Int):S4:=⟨xor k0 8317987319222330741,xor k1 7237128888997146477,xor k0 7816392313619706465,xor k1 8387220255154660723⟩
def S4.upto (k0 k1:Int)(l:List UInt8):Nat->S4
 | 0=> .init k0 k1
 | i+1=>(S4.upto k0 k1 l i).word (vS (l.drop (8*i)) 8)
def lastTo (l:List UInt8):Nat->Int
 | 0=>IntKind.u64.wrap (IntKind.u64.wrap l.length*2^56)
 | n+1=>V5 (lastTo l n) (V6 (l.getD (l.length-l.length%8+n) 0) n)
def S4.done (s:S4):Int:=
 let t:=S4.rounds ⟨s.a,s.b,xor s.c 255,s.d⟩ 4
 xor (xor (xor t.a t.b) t.c) t.d
def CY (k0 k1:Int)(l:List UInt8):Int:=((S4.upto k0 k1 l (l.length/8)).word (lastTo l (l.length%8))).done
theorem Nq (x:UInt8)(k:Nat)(hk:k<8)(n:Int)(hn:n=(8*k:Nat)) :
  IntKind.u64.wrap (IntKind.u64.wrap (x.toNat:Int)*2^min n.toNat IntKind.u64.bits)=V6 x k:=by
 subst hn
 have h1:IntKind.u64.wrap (x.toNat:Int)=x.toNat:=IntWalk.u64_in _ (by have:=x.toNat_lt;omega)
 have h2:min ((8*k:Nat):Int).toNat IntKind.u64.bits=8*k:=by simp [IntKind.bits];omega
 rw [h1,h2]
 rfl
theorem getD_drop (l:List UInt8)(i k:Nat)(h:i+k<l.length):(l.drop i).getD k 0=l[i+k]:=by
 simp [ay,dA,h]
theorem agS (k0 k1:Int)(oa:Option Addr)(c:Nat)(l:List UInt8)(w:World)(hl:l.length<4611686018427387904)(hr:Row w oa (oH l)) :
  zC Tryz.prog 102 #[.int .u64 k0, .int .u64 k1, .slice oa l.length c] w fun v w'=>v = .int .u64 (CY k0 k1 l)∧Below w.heap.size w w':=by
 refine oz func102 rfl mixed (by kernel_rfl) ?_
 refine wJ (tu.new _ _ _) rfl rfl rfl ?_
 intro w1 o1 hb1
 have hB1:Below w.heap.size w w1:=((Below.refl _ _).alloc (aA _) _).trans (o1.below (aA _))
 conv=>whnf
 repeat (first|(refine lN.mk (by first|decide|omega) ?_;conv=>whnf)|(refine oL.mk rfl ?_;conv=>whnf)|(refine oC.keep rfl ?_;conv=>whnf)|(refine nK rfl (by assumption) rfl ?_;conv=>whnf)|(refine nT rfl rfl rfl ?_;conv=>whnf)|(refine mX (by assumption) rfl rfl rfl ?_;intro _ _ _;conv=>whnf))
 refine tq (X:=Nat) abn (fun i=> [(9, .int .i64 (8*i:Nat))]) (fun i w'=>8*i<=l.length∧Below w.heap.size w w'∧∃t,t=S4.upto k0 k1 l i∧tu w' w.heap.size t.cells 175) (fun i=>l.length-8*i) 0 (by kernel_rfl)
  ?_ ⟨au _,hB1,_,rfl,hb1⟩ ?_
 ·exact⟨rfl,trivial⟩
 rintro i w2 j ⟨hi,hB2,t,ht,hb2⟩
 conv=>whnf
 have e8:IntKind.i64.wrap ((8*i:Nat)+8)=((8*i+8:Nat):Int):=by rw [IntWalk.i64_in _ (by omega)];omega
 refine lK (fun hlt=> ?_) (fun hge=> ?_)
 ·have hlt:8*i+8<=l.length:=by rw [e8]at hlt;have:=of_decide_eq_true hlt;omega
  obtain⟨b,o,rfl,hbl,hc⟩:=hr.get (by simp;omega)
  refine tq (X:=Nat) abo (fun k=> [(10, .int .u64 (vS (l.drop (8*i)) k)),(33, .int .i64 k)]) (fun k w'=>k<=8∧w'=w2) (fun k=>8-k) 0 (by kernel_rfl) ?_ ⟨by omega,rfl⟩ ?_
  ·exact⟨rfl,rfl,trivial⟩
  rintro k _ j2 ⟨hk,rfl⟩
  refine lK (fun hlt2=> ?_) (fun IU=> ?_)
  ·have hlt2:k<8:=by have:=of_decide_eq_true hlt2;omega
   refine Bl (8*i+k) rfl rfl (by rw [IntWalk.i64_in _ (by omega)];omega) (by omega) ?_
   refine oV rfl (by rw [hB2.cell (p:=⟨b,o+(8*i+k),none⟩) hbl];exact hc _ _ (wK (by omega))) ?_
   refine lN.mk (by rw [IntWalk.i64_in _ (by omega)];omega) ?_
   refine rU.mk ⟨_, ?_,k+1,rfl, ?_, ?_⟩
   ·show 8 -(k+1)<8-k;omega
   ·refine⟨qI ?_,qI (incr (by omega)),trivial⟩
    rw [Nq _ k hlt2 _ (by rw [IntWalk.i64_in _ (by omega)];omega), <-getD_drop l (8*i) k (by omega)]
    rfl
   ·exact⟨hlt2,rfl⟩
  ·have IU : ¬k<8:=by have:=of_decide_eq_false IU;omega
   obtain rfl:k=8:=by omega
   refine pY (by kernel_rfl) (Gq _ _ _ _ _ hb2) ?_
   rintro _ w3 ⟨t3,ht3,o3,hb3⟩
   refine rU.mk ⟨_, ?_,i+1,rfl, ?_, ?_⟩
   ·show l.length-8*(i+1)<l.length-8*i;omega
   ·exact⟨qI (by rw [e8,Nat.mul_add]),trivial⟩
   ·refine⟨by omega,hB2.trans (o3.below (aA _)),t3, ?_,hb3⟩
    rw [ht3,ht];rfl
 ·have hge : ¬8*i+8<=l.length:=by rw [e8]at hge;have:=of_decide_eq_false hge;omega
  have hi8:i=l.length/8:=by omega
  obtain⟨r,hr8⟩ : ∃r,r=l.length%8:=⟨_,rfl⟩
  conv=>whnf
  repeat (first|(refine lN.mk (by first|decide|omega) ?_;conv=>whnf)|(refine oL.mk rfl ?_;conv=>whnf)|(refine oC.keep rfl ?_;conv=>whnf)|(refine nK rfl (by assumption) rfl ?_;conv=>whnf)|(refine nT rfl rfl rfl ?_;conv=>whnf)|(refine mX (by assumption) rfl rfl rfl ?_;intro _ _ _;conv=>whnf))
  refine tq (X:=Nat) abp (fun k=> [(8, .int .u64 (lastTo l k)),(53, .int .i64 r),(54, .int .i64 k)]) (fun k w'=>k<=r∧w'=w2) (fun k=>r-k) 0 (by kernel_rfl) ?_ ⟨by omega,rfl⟩ ?_
  ·exact⟨rfl,qI (by rw [hr8];rfl),rfl,trivial⟩
  rintro k _ j2 ⟨hk,rfl⟩
  refine lK (fun hlt2=> ?_) (fun IU=> ?_)
  ·have hlt2:k<r:=by have:=of_decide_eq_true hlt2;omega
   obtain⟨b,o,rfl,hbl,hc⟩:=hr.get (by simp;omega)
   conv=>whnf
   repeat (first|(refine lN.mk (by first|decide|omega) ?_;conv=>whnf)|(refine oL.mk rfl ?_;conv=>whnf)|(refine oC.keep rfl ?_;conv=>whnf)|(refine nK rfl (by assumption) rfl ?_;conv=>whnf)|(refine nT rfl rfl rfl ?_;conv=>whnf)|(refine mX (by assumption) rfl rfl rfl ?_;intro _ _ _;conv=>whnf))
   refine Bl (l.length-r+k) rfl rfl ?_ (by omega) ?_
   ·have e1:Int.tmod (l.length:Int) 8=r:=by rw [hr8];rfl
    rw [e1,IntWalk.i64_in ((l.length:Int)-r) (by omega),IntWalk.i64_in _ (by omega)]
    omega
   refine oV rfl (by rw [hB2.cell (p:=⟨b,o+(l.length-r+k),none⟩) hbl];exact hc _ _ (wK (by omega))) ?_
   refine lN.mk (by rw [IntWalk.i64_in _ (by omega)];omega) ?_
   refine rU.mk ⟨_, ?_,k+1,rfl, ?_, ?_⟩
   ·show r -(k+1)<r-k;omega
   ·refine⟨qI ?_,rfl,qI (incr (by omega)),trivial⟩
    rw [Nq _ k (by omega) _ (by rw [IntWalk.i64_in _ (by omega)];omega)]
    have:=getD_drop l 0 (l.length-r+k) (by omega)
    simp only [dJ,aV]at this
    rw [<-this,hr8]
    rfl
   ·exact⟨hlt2,rfl⟩
  ·have IU : ¬k<r:=by have:=of_decide_eq_false IU;omega
   obtain rfl:k=r:=by omega
   refine pY (by kernel_rfl) (Gq _ _ _ _ _ hb2) ?_
   rintro _ w3 ⟨t3,ht3,o3,hb3⟩
   conv=>whnf
   repeat (first|(refine lN.mk (by first|decide|omega) ?_;conv=>whnf)|(refine oL.mk rfl ?_;conv=>whnf)|(refine oC.keep rfl ?_;conv=>whnf)|(refine nK rfl (by assumption) rfl ?_;conv=>whnf)|(refine nT rfl rfl rfl ?_;conv=>whnf)|(refine mX (by assumption) rfl rfl rfl ?_;intro _ _ _;conv=>whnf))
   rename_i w4 o4 hb4
   refine pY (by kernel_rfl) (KY _ _ 4 (by decide) ⟨t3.a,t3.b,xor t3.c 255,t3.d⟩ _ hb4) ?_
   rintro _ w5 ⟨t5,ht5,o5,hb5⟩
   conv=>whnf
   repeat (first|(refine lN.mk (by first|decide|omega) ?_;conv=>whnf)|(refine oL.mk rfl ?_;conv=>whnf)|(refine oC.keep rfl ?_;conv=>whnf)|(refine nK rfl (by assumption) rfl ?_;conv=>whnf)|(refine nT rfl rfl rfl ?_;conv=>whnf)|(refine mX (by assumption) rfl rfl rfl ?_;intro _ _ _;conv=>whnf))
   refine rX.mk ⟨?_, ?_⟩
   ·have:CY k0 k1 l=xor (xor (xor t5.a t5.b) t5.c) t5.d:=by
     unfold CY S4.done
     rw [<-hi8, <-ht, <-hr8, <-ht3, <-ht5]
    rw [this]
    rfl
   ·exact hB2.trans (((o3.trans o4).trans o5).below (aA _))
def yX (n:Nat)(k:Nat):UInt8:=UInt8.ofNat (n/2^(8*k)%256)
def vM (n:Nat):Nat->List UInt8
 | 0=> []
 | k+1=>vM n k++ [yX n (7-k)]
def frame (ls:List (List UInt8)):List UInt8:=
 match ls with
 | []=> []
 | l::r=>(vM l.length 8++l)++frame r
def oI (ls:List (List UInt8))(i:Nat):List UInt8:=frame (ls.take i)
theorem CZ (a b:List (List UInt8)):frame (a++b)=frame a++frame b:=by
 induction a with
 | nil=>rfl
 | cons l r ih=>simp only [iq,frame,ih,aH]
theorem vX (ls:List (List UInt8))(i:Nat)(h:i<ls.length):oI ls (i+1)=oI ls i++(vM ls[i].length 8++ls[i]):=by
 unfold oI
 rw [aG h,CZ]
 simp [frame]
theorem uT (n k:Nat):(vM n k).length=k:=by
 induction k with
 | zero=>rfl
 | succ k ih=>simp [vM,ih]
theorem Ba (ls:List (List UInt8))(i:Nat):(oI ls i).length<=(frame ls).length:=by
 have:=CZ (ls.take i) (ls.drop i)
 rw [gy]at this
 unfold oI
 rw [this,ak]
 omega
def Fld (w:World)(vs:List Value)(ls:List (List UInt8)):Prop:=
 vs.length=ls.length∧∀i (h:i<ls.length), ∃oa c,vs[i]? = some (.slice oa ls[i].length c)∧ls[i].length<=c∧(oa=none->c=0)∧Row w oa (oH ls[i])
theorem Fld.below {w w':World}{vs:List Value}{ls:List (List UInt8)}(h:Fld w vs ls)(hb:Below w.heap.size w w'):Fld w' vs ls:=
 ⟨h.1,fun i hi=>let ⟨oa,c,h1,h2,h3,h4⟩:=h.2 i hi;⟨oa,c,h1,h2,h3,h4.below hb⟩⟩
theorem Nr (n k:Nat)(hk:k<8)(hn:n<18446744073709551616)(x:Int)(hx:x=(8*k:Nat)) :
  IntKind.u8.wrap ((IntKind.u64.wrap (n:Int)).fdiv (2^min x.toNat IntKind.u64.bits))=((yX n k).toNat:Int):=by
 subst hx
 have h1:IntKind.u64.wrap (n:Int)=n:=IntWalk.u64_in _ (by omega)
 have h2:min ((8*k:Nat):Int).toNat IntKind.u64.bits=8*k:=by simp [IntKind.bits];omega
 rw [h1,h2,IntKind.wrap_u8]
 unfold yX
 have e1:((n:Int).fdiv (2^(8*k)))=((n/2^(8*k):Nat):Int):=by
  rw [gB]
  ·simp
  ·exact Int.le_of_lt (Int.pow_pos (by decide))
 rw [e1]
 simp
theorem BI (b:UInt8):oH [b] = [.int .u8 b.toNat]:=rfl
theorem Yo (oa:Option Addr)(c:Nat)(vs:List Value)(ls:List (List UInt8))(w:World)(hlen:ls.length<=1099511627776)(hl:(frame ls).length<=140737488355328)(hr:Row w oa vs)(hf:Fld w vs ls) :
  zC Tryz.prog 103 #[.slice oa ls.length c] w fun v w'=> ∃qy c',v = .slice qy (frame ls).length c'∧Own w' w.heap.size 5 1 qy (frame ls).length c' (oH (frame ls))∧Below w.heap.size w w':=by
 refine oz func103 rfl mixed (by kernel_rfl) ?_
 refine tq (X:=Nat×Option Addr×Nat) abq (fun x=> [(3, .slice x.2.1 (oI ls x.1).length x.2.2),(9, .int .i64 x.1)]) (fun x w'=>x.1<=ls.length∧Below w.heap.size w w'∧Own w' w.heap.size 5 1 x.2.1 (oI ls x.1).length x.2.2 (oH (oI ls x.1))) (fun x=>ls.length-x.1) (0,none,0) (by kernel_rfl)
  ?_ ⟨au _,Below.refl _ _,Own.nil _ _ _ _⟩ ?_
 ·exact⟨rfl,rfl,trivial⟩
 rintro⟨i,oo,cc⟩ w1 j ⟨hi,hB,ho⟩
 refine lK (fun hlt=> ?_) (fun hge=> ?_)
 ·have hlt:i<ls.length:=by have:=of_decide_eq_true hlt;omega
  obtain⟨b,o,rfl,hbl,hc⟩:=hr.get (by rw [hf.1];omega)
  obtain⟨oa1,c1,hv,hc1,hn1,hr1⟩:=hf.2 i hlt
  have hr1':=hr1.below hB
  have hL1:=Ba ls (i+1)
  rw [vX ls i hlt]at hL1
  simp only [ak,uT]at hL1
  refine Bl i rfl rfl rfl hlt ?_
  refine oV rfl (by rw [hB.cell (p:=⟨b,o+i,none⟩) hbl];exact hc _ _ hv) ?_
  refine tq (X:=Nat×Option Addr×Nat) abr (fun x=> [(3, .slice x.2.1 ((oI ls i).length+x.1) x.2.2),(6, .int .i64 (7 -(x.1:Int)))]) (fun x w'=>x.1<=8∧Below w.heap.size w w'∧Own w' w.heap.size 5 1 x.2.1 ((oI ls i).length+x.1) x.2.2 (oH (oI ls i++vM ls[i].length x.1))) (fun x=>8-x.1) (0,oo,cc) (by kernel_rfl)
   ?_ ⟨au _,hB,by simpa [vM]using ho⟩ ?_
  ·exact⟨rfl,rfl,trivial⟩
  rintro⟨k,o2,c2⟩ w2 j2 ⟨hk,hB2,ho2⟩
  simp only at hk ho2
  refine lK (fun hlt2=> ?_) (fun IU=> ?_)
  ·have hlt2:k<8:=by have:=of_decide_eq_true hlt2;simp only at this;omega
   refine lN.mk (by rw [IntWalk.i64_in _ (by simp only;omega)];simp only;omega) ?_
   refine qL (B:=w.heap.size) (sz:=1) (qY:=1) (m:=1) (n:=(oI ls i).length+k) rfl rfl rfl rfl rfl rfl (ho2.alloc _) (Row.alloc1 _ _ _) rfl (fun u hu=>by simp at hu;subst hu;rfl) (fun e=>by cases e) (by omega) (dM hB2.size (by simp)) (by unfold maxLen;omega) ?_
   intro o3 c3 w3 ho3 hB3 _
   refine rU.mk ⟨_, ?_,(k+1,o3,c3),rfl, ?_, ?_⟩
   ·show 8 -(k+1)<8-k;omega
   ·exact⟨rfl,qI (by rw [IntWalk.i64_in _ (by simp only;omega)];simp only;omega),trivial⟩
   ·refine⟨hlt2,(rP hB2 (aA _) _).trans hB3, ?_⟩
    simp only [vM]
    rw [<-aH,pK,BI]
    rw [Nr _ (7-k) (by omega) (by omega) _ (by rw [IntWalk.i64_in _ (by simp only;omega)];simp only;omega)]at ho3
    exact ho3
  ·have IU : ¬k<8:=by have:=of_decide_eq_false IU;simp only at this;omega
   obtain rfl:k=8:=by omega
   conv=>whnf
   have hr2:=hr1.below hB2
   refine qL (B:=w.heap.size) (sz:=1) (qY:=1) (m:=ls[i].length) (n:=(oI ls i).length+8) rfl rfl rfl rfl rfl rfl ho2 hr2 (by simp) (uQ _) hn1 (by omega) hB2.size (by unfold maxLen;omega) ?_
   intro o3 c3 w3 ho3 hB3 _
   conv=>whnf
   have hfs:=vX ls i hlt
   have hfl:(oI ls i).length+8+ls[i].length=(oI ls (i+1)).length:=by rw [hfs];simp [uT];omega
   refine rU.mk ⟨_, ?_,(i+1,o3,c3),rfl, ?_, ?_⟩
   ·show ls.length -(i+1)<ls.length-i;omega
   ·exact⟨Ue hfl,qI (incr (by omega)),trivial⟩
   ·refine⟨hlt,hB2.trans hB3, ?_⟩
    rw [hfl, <-pK,aH, <-hfs]at ho3
    exact ho3
 ·have hge : ¬i<ls.length:=by have:=of_decide_eq_false hge;omega
  obtain rfl:i=ls.length:=by simp only at hi;omega
  conv=>whnf
  have hfa:oI ls ls.length=frame ls:=by unfold oI;rw [aW]
  simp only [hfa]at ho
  exact rX.mk ⟨oo,cc,by simp only [hfa];rfl,ho,hB⟩
theorem acP (d:Int)(oa:Option Addr)(c:Nat)(vs:List Value)(ls:List (List UInt8))(w:World)(hlen:ls.length<=1099511627776)(hl:(frame ls).length<=140737488355328)(hr:Row w oa vs)(hf:Fld w vs ls) :
  zC Tryz.prog 69 #[.int .u64 d, .slice oa ls.length c] w fun v w'=>v = .int .u64 (CY d 0 (frame ls))∧Below w.heap.size w w':=by
 refine oz func69 rfl mixed (by kernel_rfl) ?_
 refine pY (by kernel_rfl) (Yo oa c vs ls w hlen hl hr hf) ?_
 rintro _ w1 ⟨o1,c1,rfl,ho1,hB1⟩
 refine pY (by kernel_rfl) (agS d 0 o1 c1 (frame ls) w1 (by omega) ho1.row) ?_
 rintro _ w2 ⟨rfl,hB2⟩
 exact rX.mk ⟨rfl,hB1.trans (hB2.mono hB1.size)⟩
theorem wO (x k:Int)(n:Nat)(hk:k=n)(h0:0<n)(h1:n<64)(w:World) :
  zC Tryz.prog 165 #[.int .u64 x, .int .u64 k] w fun v w'=>v = .int .u64 (J7 x n)∧w'=w:=by
 subst hk
 have e3:IntKind.u64.wrap (64 -(n:Int))=64-n:=IntWalk.u64_in _ (by omega)
 refine oz func165 rfl mixed (by kernel_rfl) ?_
 refine lN.mk (by omega) ?_
 refine lN.mk (by rw [e3];omega) ?_
 refine rX.mk ⟨?_,rfl⟩
 show Value.int .u64 _=_
 rw [e3]
 unfold J7
 have e1:min (n:Int).toNat IntKind.u64.bits=n:=by simp [IntKind.bits];omega
 have e2:min (64 -(n:Int)).toNat IntKind.u64.bits=64-n:=by simp [IntKind.bits]
 rw [e1,e2]
theorem BJ (n:Nat)(hn:n<100)(s:S4)(w:World) :
  zC Tryz.prog 136 #[.agg s.cells.toArray, .int .i64 n] w fun v w'=> ∃t,t=s.rounds n∧v = .agg t.cells.toArray∧Below w.heap.size w w':=by
 refine oz func136 rfl mixed (by kernel_rfl) ?_
 conv=>whnf
 have hb0:=(tu.new w s.cells.toArray 179).alloc (.cells #[.int .u64 0, .int .u64 0, .int .u64 0, .int .u64 0] 179)
 have hr0:=tu.new (w.alloc (.cells s.cells.toArray 179)) #[.int .u64 0, .int .u64 0, .int .u64 0, .int .u64 0] 179
 have hB0:=rP (rP (Below.refl w.heap.size w) (aA _) (.cells s.cells.toArray 179)) (aA _) (.cells #[.int .u64 0, .int .u64 0, .int .u64 0, .int .u64 0] 179)
 refine tq (X:=Nat) abP (fun i=> [(5, .int .i64 i)]) (fun i w'=>i<=n∧Only w.heap.size _ w'∧tu w' w.heap.size (s.rounds i).cells 179) (fun i=>n-i) 0 (by kernel_rfl) ?_ ⟨au _,Only.refl _ _,hb0⟩ ?_
 ·exact⟨rfl,trivial⟩
 rintro i w' j ⟨hi,ho,hb'⟩
 refine lK (fun hlt=> ?_) (fun hge=> ?_)
 ·have hlt:i<n:=by simpa using hlt
  conv=>whnf
  repeat (first|(refine lN.mk (by first|decide|omega) ?_;conv=>whnf)|(refine oL.mk rfl ?_;conv=>whnf)|(refine oC.keep rfl ?_;conv=>whnf)|(refine nK rfl (by assumption) rfl ?_;conv=>whnf)|(refine nT rfl rfl rfl ?_;conv=>whnf)|(refine mX (by assumption) rfl rfl rfl ?_;intro _ _ _;conv=>whnf))
  (refine qx Gp (by kernel_rfl) ?_;conv=>whnf)
  repeat (first|(refine lN.mk (by first|decide|omega) ?_;conv=>whnf)|(refine oL.mk rfl ?_;conv=>whnf)|(refine oC.keep rfl ?_;conv=>whnf)|(refine nK rfl (by assumption) rfl ?_;conv=>whnf)|(refine nT rfl rfl rfl ?_;conv=>whnf)|(refine mX (by assumption) rfl rfl rfl ?_;intro _ _ _;conv=>whnf))
  refine pY (by kernel_rfl) (wO _ _ 13 rfl (by decide) (by decide) _) ?_
  rintro _ _ ⟨rfl,rfl⟩
  conv=>whnf
  repeat (first|(refine lN.mk (by first|decide|omega) ?_;conv=>whnf)|(refine oL.mk rfl ?_;conv=>whnf)|(refine oC.keep rfl ?_;conv=>whnf)|(refine nK rfl (by assumption) rfl ?_;conv=>whnf)|(refine nT rfl rfl rfl ?_;conv=>whnf)|(refine mX (by assumption) rfl rfl rfl ?_;intro _ _ _;conv=>whnf))
  refine pY (by kernel_rfl) (wO _ _ 32 rfl (by decide) (by decide) _) ?_
  rintro _ _ ⟨rfl,rfl⟩
  conv=>whnf
  repeat (first|(refine lN.mk (by first|decide|omega) ?_;conv=>whnf)|(refine oL.mk rfl ?_;conv=>whnf)|(refine oC.keep rfl ?_;conv=>whnf)|(refine nK rfl (by assumption) rfl ?_;conv=>whnf)|(refine nT rfl rfl rfl ?_;conv=>whnf)|(refine mX (by assumption) rfl rfl rfl ?_;intro _ _ _;conv=>whnf))
  (refine qx Gp (by kernel_rfl) ?_;conv=>whnf)
  repeat (first|(refine lN.mk (by first|decide|omega) ?_;conv=>whnf)|(refine oL.mk rfl ?_;conv=>whnf)|(refine oC.keep rfl ?_;conv=>whnf)|(refine nK rfl (by assumption) rfl ?_;conv=>whnf)|(refine nT rfl rfl rfl ?_;conv=>whnf)|(refine mX (by assumption) rfl rfl rfl ?_;intro _ _ _;conv=>whnf))
  refine pY (by kernel_rfl) (wO _ _ 16 rfl (by decide) (by decide) _) ?_
  rintro _ _ ⟨rfl,rfl⟩
  conv=>whnf
  repeat (first|(refine lN.mk (by first|decide|omega) ?_;conv=>whnf)|(refine oL.mk rfl ?_;conv=>whnf)|(refine oC.keep rfl ?_;conv=>whnf)|(refine nK rfl (by assumption) rfl ?_;conv=>whnf)|(refine nT rfl rfl rfl ?_;conv=>whnf)|(refine mX (by assumption) rfl rfl rfl ?_;intro _ _ _;conv=>whnf))
  (refine qx Gp (by kernel_rfl) ?_;conv=>whnf)
  repeat (first|(refine lN.mk (by first|decide|omega) ?_;conv=>whnf)|(refine oL.mk rfl ?_;conv=>whnf)|(refine oC.keep rfl ?_;conv=>whnf)|(refine nK rfl (by assumption) rfl ?_;conv=>whnf)|(refine nT rfl rfl rfl ?_;conv=>whnf)|(refine mX (by assumption) rfl rfl rfl ?_;intro _ _ _;conv=>whnf))
  refine pY (by kernel_rfl) (wO _ _ 21 rfl (by decide) (by decide) _) ?_
  rintro _ _ ⟨rfl,rfl⟩
  conv=>whnf
  repeat (first|(refine lN.mk (by first|decide|omega) ?_;conv=>whnf)|(refine oL.mk rfl ?_;conv=>whnf)|(refine oC.keep rfl ?_;conv=>whnf)|(refine nK rfl (by assumption) rfl ?_;conv=>whnf)|(refine nT rfl rfl rfl ?_;conv=>whnf)|(refine mX (by assumption) rfl rfl rfl ?_;intro _ _ _;conv=>whnf))
  (refine qx Gp (by kernel_rfl) ?_;conv=>whnf)
  repeat (first|(refine lN.mk (by first|decide|omega) ?_;conv=>whnf)|(refine oL.mk rfl ?_;conv=>whnf)|(refine oC.keep rfl ?_;conv=>whnf)|(refine nK rfl (by assumption) rfl ?_;conv=>whnf)|(refine nT rfl rfl rfl ?_;conv=>whnf)|(refine mX (by assumption) rfl rfl rfl ?_;intro _ _ _;conv=>whnf))
  refine pY (by kernel_rfl) (wO _ _ 17 rfl (by decide) (by decide) _) ?_
  rintro _ _ ⟨rfl,rfl⟩
  conv=>whnf
  repeat (first|(refine lN.mk (by first|decide|omega) ?_;conv=>whnf)|(refine oL.mk rfl ?_;conv=>whnf)|(refine oC.keep rfl ?_;conv=>whnf)|(refine nK rfl (by assumption) rfl ?_;conv=>whnf)|(refine nT rfl rfl rfl ?_;conv=>whnf)|(refine mX (by assumption) rfl rfl rfl ?_;intro _ _ _;conv=>whnf))
  refine pY (by kernel_rfl) (wO _ _ 32 rfl (by decide) (by decide) _) ?_
  rintro _ _ ⟨rfl,rfl⟩
  conv=>whnf
  repeat (first|(refine lN.mk (by first|decide|omega) ?_;conv=>whnf)|(refine oL.mk rfl ?_;conv=>whnf)|(refine oC.keep rfl ?_;conv=>whnf)|(refine nK rfl (by assumption) rfl ?_;conv=>whnf)|(refine nT rfl rfl rfl ?_;conv=>whnf)|(refine mX (by assumption) rfl rfl rfl ?_;intro _ _ _;conv=>whnf))
  refine rU.mk ⟨_, ?_,i+1,rfl, ?_, ?_⟩
  ·show n -(i+1)<n-i;omega
  ·exact⟨qI (incr (by omega)),trivial⟩
  ·refine⟨hlt, ?_, ?_⟩
   ·(repeat (first|assumption|exact Only.refl _ _|refine Only.step (by assumption) ?_|refine Only.aeN (by assumption) ?_))
   ·assumption
 ·have hge : ¬i<n:=by simpa using hge
  obtain rfl:i=n:=by omega
  refine yB rfl rfl hb' ?_
  conv=>whnf
  have hr1:=tu.only hr0 ho (by rw [World.size_alloc];omega)
  refine wJ (o:=0) (vs:=(s.rounds i).cells) hr1 rfl rfl rfl ?_
  intro w2 o2 hb2
  refine yB rfl rfl hb2 ?_
  refine oL.mk rfl ?_
  refine rX.mk ⟨_,rfl,rfl, ?_⟩
  exact(hB0.trans (ho.below (aA _))).trans (o2.below (by rw [World.size_alloc];omega))
theorem Ns (a b:Int):V5 a b=((BitVec.ofInt 64 a ||| BitVec.ofInt 64 b).toNat:Int):=by
 unfold V5 nD
 show IntKind.u64.wrap ((BitVec.ofInt 64 a ||| BitVec.ofInt 64 b).toNat:Int)=_
 have:=(BitVec.ofInt 64 a ||| BitVec.ofInt 64 b).isLt
 exact IntWalk.u64_in _ (by omega)
theorem KZ (a b:Int):BitVec.ofInt 64 (V5 a b)=BitVec.ofInt 64 a ||| BitVec.ofInt 64 b:=by
 rw [Ns]
 apply jR
 rw [kF]
 have:=(BitVec.ofInt 64 a ||| BitVec.ofInt 64 b).isLt
 generalize (BitVec.ofInt 64 a ||| BitVec.ofInt 64 b).toNat=n at *
 omega
theorem La (n:Int):IntKind.u64.wrap n=n%18446744073709551616:=by
 simp [IntKind.wrap,IntKind.bits,IntKind.signed]
theorem acQ (a b c:Int):V5 (V5 a b) c=V5 (V5 a c) b:=by
 rw [Ns (V5 a b),Ns (V5 a c),KZ,KZ,BitVec.or_assoc,BitVec.or_assoc,BitVec.or_comm (BitVec.ofInt 64 b)]
theorem Yp (c:Int)(h:0<=c∧c<=18446744073709551615):V5 0 c=c:=by
 rw [Ns]
 simp [kF]
 omega
theorem acR (l:List UInt8)(k:Nat):lastTo l k=V5 (vS (l.drop (l.length-l.length%8)) k) (IntKind.u64.wrap (IntKind.u64.wrap l.length*2^56)):=by
 induction k with
 | zero=>
  simp only [lastTo,vS]
  rw [Yp]
  rw [La]
  omega
 | succ k ih=>
  simp only [lastTo,vS,ih]
  rw [acQ]
  congr 2
  simp [ay,dA]
theorem acS (n:Nat):IntKind.u64.wrap (IntKind.u64.wrap (n:Int)*2^56) =
  IntKind.u64.wrap (IntKind.u64.wrap (Int.tmod (n:Int) 256)*2^min (Int.toNat 56) IntKind.u64.bits):=by
 have e:min (Int.toNat 56) IntKind.u64.bits=56:=by decide
 have e2:Int.tmod (n:Int) 256=((n%256:Nat):Int):=rfl
 rw [e,e2]
 simp only [La]
 omega
theorem acT (k0 k1:Int)(oa:Option Addr)(c:Nat)(l:List UInt8)(w:World)(hl:l.length<4611686018427387904)(hr:Row w oa (oH l)) :
  zC Tryz.prog 104 #[.int .u64 k0, .int .u64 k1, .slice oa l.length c] w fun v w'=>v = .int .u64 (CY k0 k1 l)∧Below w.heap.size w w':=by
 refine oz func104 rfl mixed (by kernel_rfl) ?_
 refine wJ (tu.new _ _ _) rfl rfl rfl ?_
 intro w1 o1 hb1
 have hB1:Below w.heap.size w w1:=((Below.refl _ _).alloc (aA _) _).trans (o1.below (aA _))
 refine tq (X:=Nat) abt (fun i=> [(8, .int .i64 i)])
  (fun i w'=>i<=l.length/8+1∧Below w.heap.size w w'∧∃t,t=(if i<=l.length/8 then S4.upto k0 k1 l i else(S4.upto k0 k1 l (l.length/8)).word (lastTo l (l.length%8)))∧tu w' w.heap.size t.cells 179) (fun i=>l.length/8+1-i) 0 (by kernel_rfl)
  ?_ ⟨au _,hB1,S4.init k0 k1,(by rw [if_pos (au _)];rfl),hb1⟩ ?_
 ·exact⟨rfl,trivial⟩
 rintro i w2 j ⟨hi,hB2,t,ht,hb2⟩
 refine lN.mk (by decide) ?_
 conv=>whnf
 have eq8:IntKind.i64.wrap (Int.tdiv (l.length:Int) 8)=((l.length/8:Nat):Int):=by
  rw [show Int.tdiv (l.length:Int) 8=((l.length/8:Nat):Int)from rfl,IntWalk.i64_in _ (by omega)]
 refine lK (fun hlt=> ?_) (fun hge=> ?_)
 ·have hlt:i<=l.length/8:=by rw [eq8]at hlt;have:=of_decide_eq_true hlt;omega
  rw [if_pos hlt]at ht
  obtain⟨e,he⟩ : ∃e,e=min 8 (l.length-8*i):=⟨_,rfl⟩
  refine tq (X:=Nat) abu (fun k=> [(9, .int .u64 (vS (l.drop (8*i)) k)),(10, .int .i64 k)]) (fun k w'=>k<=e∧w'=w2) (fun k=>e-k) 0 (by kernel_rfl) ?_ ⟨by omega,rfl⟩ ?_
  ·exact⟨rfl,rfl,trivial⟩
  rintro k _ j2 ⟨hk,rfl⟩
  have e1:IntKind.i64.wrap (IntKind.i64.wrap (8*(i:Int))+k)=((8*i+k:Nat):Int):=by
   rw [IntWalk.i64_in (8*(i:Int)) (by omega),IntWalk.i64_in _ (by omega)];omega
  have e8k:IntKind.i64.wrap (8*(k:Int))=((8*k:Nat):Int):=by rw [IntWalk.i64_in _ (by omega)];omega
  by_cases hke:k<e
  ·obtain⟨b,o,rfl,hbl,hc⟩:=hr.get (by simp;omega)
   refine lK (fun h1=> ?_) (fun h1=>absurd h1 (by simp;omega))
   refine lK (fun h2=> ?_) (fun h2=>absurd h2 (by rw [e1];simp;omega))
   refine Bl (8*i+k) rfl rfl e1 (by omega) ?_
   refine oV rfl (by rw [hB2.cell (p:=⟨b,o+(8*i+k),none⟩) hbl];exact hc _ _ (wK (by omega))) ?_
   refine lN.mk (by rw [e8k,IntWalk.u64_in _ (by omega)];omega) ?_
   refine rU.mk ⟨_, ?_,k+1,rfl, ?_, ?_⟩
   ·show e -(k+1)<e-k;omega
   ·refine⟨qI ?_,qI (incr (by omega)),trivial⟩
    rw [Nq _ k (by omega) _ (by rw [e8k,IntWalk.u64_in _ (by omega)]), <-getD_drop l (8*i) k (by omega)]
    rfl
   ·exact⟨hke,rfl⟩
  ·obtain rfl:k=e:=by omega
   have hwk:vS (l.drop (8*i)) k=vS (l.drop (8*i)) k:=rfl
   by_cases hk8:k=8
   ·refine lK (fun h1=>absurd h1 (by simp;omega)) (fun h1=> ?_)
    refine lN.mk (by decide) ?_
    refine lK (fun h3=>absurd h3 (by rw [eq8];simp;omega)) (fun h3=> ?_)
    conv=>whnf
    repeat (first|(refine lN.mk (by first|decide|omega) ?_;conv=>whnf)|(refine oL.mk rfl ?_;conv=>whnf)|(refine oC.keep rfl ?_;conv=>whnf)|(refine nK rfl (by assumption) rfl ?_;conv=>whnf)|(refine nT rfl rfl rfl ?_;conv=>whnf)|(refine mX (by assumption) rfl rfl rfl ?_;intro _ _ _;conv=>whnf))
    rename_i w3 o3 hb3
    refine yB rfl rfl hb3 ?_
    refine pY (by kernel_rfl) (BJ 2 (by decide) ⟨t.a,t.b,t.c,xor t.d (vS (l.drop (8*i)) k)⟩ _) ?_
    rintro _ w4 ⟨t4,ht4,rfl,hB4⟩
    conv=>whnf
    have hb4:=hb3.below hB4 hb3.lt
    refine wJ (o:=0) (vs:=t4.cells) hb4 rfl rfl rfl ?_
    intro w5 o5 hb5
    conv=>whnf
    repeat (first|(refine lN.mk (by first|decide|omega) ?_;conv=>whnf)|(refine oL.mk rfl ?_;conv=>whnf)|(refine oC.keep rfl ?_;conv=>whnf)|(refine nK rfl (by assumption) rfl ?_;conv=>whnf)|(refine nT rfl rfl rfl ?_;conv=>whnf)|(refine mX (by assumption) rfl rfl rfl ?_;intro _ _ _;conv=>whnf))
    rename_i w6 o6 hb6
    have hBB:=(hB2.trans (o3.below (aA _))).trans ((hB4.mono (jO hb3.lt)).trans ((o5.trans o6).below (aA _)))
    refine rU.mk ⟨_, ?_,i+1,rfl, ?_, ?_⟩
    ·show l.length/8+1 -(i+1)<l.length/8+1-i;omega
    ·exact⟨qI (incr (by omega)),trivial⟩
    ·refine⟨by omega,hBB,⟨_,t4.b,t4.c,t4.d⟩, ?_,hb6⟩
     rw [if_pos (by omega)]
     rw [hk8]at ht4
     simp only [S4.upto,S4.word, <-ht]
     rw [<-ht4,hk8]
     rfl
   ·refine lK (fun h1=> ?_) (fun h1=>absurd h1 (by simp;omega))
    refine lK (fun h2=>absurd h2 (by rw [e1];simp;omega)) (fun h2=> ?_)
    refine lN.mk (by decide) ?_
    refine lK (fun h3=> ?_) (fun h3=>absurd h3 (by rw [eq8];simp;omega))
    conv=>whnf
    repeat (refine lN.mk (by decide) ?_;conv=>whnf)
    repeat (first|(refine lN.mk (by first|decide|omega) ?_;conv=>whnf)|(refine oL.mk rfl ?_;conv=>whnf)|(refine oC.keep rfl ?_;conv=>whnf)|(refine nK rfl (by assumption) rfl ?_;conv=>whnf)|(refine nT rfl rfl rfl ?_;conv=>whnf)|(refine mX (by assumption) rfl rfl rfl ?_;intro _ _ _;conv=>whnf))
    rename_i w3 o3 hb3
    refine yB rfl rfl hb3 ?_
    refine pY (by kernel_rfl) (BJ 2 (by decide) ⟨t.a,t.b,t.c,xor t.d (nD .or .u64 (vS (l.drop (8*i)) k) (IntKind.u64.wrap (IntKind.u64.wrap (Int.tmod (l.length:Int) 256)*2^min (Int.toNat 56) IntKind.u64.bits)))⟩ _) ?_
    rintro _ w4 ⟨t4,ht4,rfl,hB4⟩
    conv=>whnf
    have hb4:=hb3.below hB4 hb3.lt
    refine wJ (o:=0) (vs:=t4.cells) hb4 rfl rfl rfl ?_
    intro w5 o5 hb5
    conv=>whnf
    repeat (first|(refine lN.mk (by first|decide|omega) ?_;conv=>whnf)|(refine oL.mk rfl ?_;conv=>whnf)|(refine oC.keep rfl ?_;conv=>whnf)|(refine nK rfl (by assumption) rfl ?_;conv=>whnf)|(refine nT rfl rfl rfl ?_;conv=>whnf)|(refine mX (by assumption) rfl rfl rfl ?_;intro _ _ _;conv=>whnf))
    rename_i w6 o6 hb6
    have hBB:=(hB2.trans (o3.below (aA _))).trans ((hB4.mono (jO hb3.lt)).trans ((o5.trans o6).below (aA _)))
    refine rU.mk ⟨_, ?_,i+1,rfl, ?_, ?_⟩
    ·show l.length/8+1 -(i+1)<l.length/8+1-i;omega
    ·exact⟨qI (incr (by omega)),trivial⟩
    ·refine⟨by omega,hBB,⟨_,t4.b,t4.c,t4.d⟩, ?_,hb6⟩
     have hiq:i=l.length/8:=by omega
     rw [if_neg (by omega), <-hiq, <-ht]
     have hm:lastTo l (l.length%8)=nD .or .u64 (vS (l.drop (8*i)) k) (IntKind.u64.wrap (IntKind.u64.wrap (Int.tmod (l.length:Int) 256)*2^min (Int.toNat 56) IntKind.u64.bits)):=by
      rw [acR,acS,show l.length-l.length%8=8*i by omega,show l.length%8=k by omega]
      rfl
     rw [hm]
     simp only [S4.word]
     rw [<-ht4]
     rfl
 ·have hge : ¬i<=l.length/8:=by rw [eq8]at hge;have:=of_decide_eq_false hge;omega
  rw [if_neg hge]at ht
  conv=>whnf
  repeat (first|(refine lN.mk (by first|decide|omega) ?_;conv=>whnf)|(refine oL.mk rfl ?_;conv=>whnf)|(refine oC.keep rfl ?_;conv=>whnf)|(refine nK rfl (by assumption) rfl ?_;conv=>whnf)|(refine nT rfl rfl rfl ?_;conv=>whnf)|(refine mX (by assumption) rfl rfl rfl ?_;intro _ _ _;conv=>whnf))
  rename_i w4 o4 hb4
  refine yB rfl rfl hb4 ?_
  refine pY (by kernel_rfl) (BJ 4 (by decide) ⟨t.a,t.b,xor t.c 255,t.d⟩ _) ?_
  rintro _ w5 ⟨t5,ht5,rfl,hB5⟩
  conv=>whnf
  have hb5:=hb4.below hB5 hb4.lt
  refine wJ (o:=0) (vs:=t5.cells) hb5 rfl rfl rfl ?_
  intro w6 o6 hb6
  conv=>whnf
  repeat (first|(refine lN.mk (by first|decide|omega) ?_;conv=>whnf)|(refine oL.mk rfl ?_;conv=>whnf)|(refine oC.keep rfl ?_;conv=>whnf)|(refine nK rfl (by assumption) rfl ?_;conv=>whnf)|(refine nT rfl rfl rfl ?_;conv=>whnf)|(refine mX (by assumption) rfl rfl rfl ?_;intro _ _ _;conv=>whnf))
  refine rX.mk ⟨?_,(hB2.trans (o4.below (aA _))).trans ((hB5.mono (jO hb4.lt)).trans (o6.below (aA _)))⟩
  have:CY k0 k1 l=xor (xor (xor t5.a t5.b) t5.c) t5.d:=by
   unfold CY S4.done
   rw [<-ht, <-ht5]
  rw [this]
  rfl
theorem V7 (oa:Option Addr)(c:Nat)(vs:List Value)(ls:List (List UInt8))(w:World)(hlen:ls.length<=1099511627776)(hl:(frame ls).length<=140737488355328)(hr:Row w oa vs)(hf:Fld w vs ls) :
  zC Tryz.prog 105 #[.slice oa ls.length c] w fun v w'=> ∃qy c',v = .slice qy (frame ls).length c'∧Own w' w.heap.size 5 1 qy (frame ls).length c' (oH (frame ls))∧Below w.heap.size w w':=by
 refine oz func105 rfl mixed (by kernel_rfl) ?_
 refine tq (X:=Nat×Option Addr×Nat) abv (fun x=> [(3, .slice x.2.1 (oI ls x.1).length x.2.2),(4, .int .i64 x.1)]) (fun x w'=>x.1<=ls.length∧Below w.heap.size w w'∧Own w' w.heap.size 5 1 x.2.1 (oI ls x.1).length x.2.2 (oH (oI ls x.1))) (fun x=>ls.length-x.1) (0,none,0) (by kernel_rfl)
  ?_ ⟨au _,Below.refl _ _,Own.nil _ _ _ _⟩ ?_
 ·exact⟨rfl,rfl,trivial⟩
 rintro⟨i,oo,cc⟩ w1 j ⟨hi,hB,ho⟩
 refine lK (fun hlt=> ?_) (fun hge=> ?_)
 ·have hlt:i<ls.length:=by have:=of_decide_eq_true hlt;omega
  obtain⟨b,o,rfl,hbl,hc⟩:=hr.get (by rw [hf.1];omega)
  obtain⟨oa1,c1,hv,hc1,hn1,hr1⟩:=hf.2 i hlt
  have hr1':=hr1.below hB
  have hL1:=Ba ls (i+1)
  rw [vX ls i hlt]at hL1
  simp only [ak,uT]at hL1
  refine Bl i rfl rfl rfl hlt ?_
  refine oV rfl (by rw [hB.cell (p:=⟨b,o+i,none⟩) hbl];exact hc _ _ hv) ?_
  refine tq (X:=Nat×Option Addr×Nat) abw (fun x=> [(3, .slice x.2.1 ((oI ls i).length+x.1) x.2.2),(6, .int .i64 (56-8*(x.1:Int)))]) (fun x w'=>x.1<=8∧Below w.heap.size w w'∧Own w' w.heap.size 5 1 x.2.1 ((oI ls i).length+x.1) x.2.2 (oH (oI ls i++vM ls[i].length x.1))) (fun x=>8-x.1) (0,oo,cc) (by kernel_rfl)
   ?_ ⟨au _,hB,by simpa [vM]using ho⟩ ?_
  ·exact⟨rfl,rfl,trivial⟩
  rintro⟨k,o2,c2⟩ w2 j2 ⟨hk,hB2,ho2⟩
  simp only at hk ho2
  refine lK (fun hlt2=> ?_) (fun IU=> ?_)
  ·have hlt2:k<8:=by have:=of_decide_eq_true hlt2;simp only at this;omega
   refine lN.mk (by rw [IntWalk.u64_in _ (by simp only;omega)];simp only;omega) ?_
   refine qL (B:=w.heap.size) (sz:=1) (qY:=1) (m:=1) (n:=(oI ls i).length+k) rfl rfl rfl rfl rfl rfl (ho2.alloc _) (Row.alloc1 _ _ _) rfl (fun u hu=>by simp at hu;subst hu;rfl) (fun e=>by cases e) (by omega) (dM hB2.size (by simp)) (by unfold maxLen;omega) ?_
   intro o3 c3 w3 ho3 hB3 _
   refine rU.mk ⟨_, ?_,(k+1,o3,c3),rfl, ?_, ?_⟩
   ·show 8 -(k+1)<8-k;omega
   ·exact⟨rfl,qI (by rw [IntWalk.i64_in _ (by simp only;omega)];simp only;omega),trivial⟩
   ·refine⟨hlt2,(rP hB2 (aA _) _).trans hB3, ?_⟩
    simp only [vM]
    rw [<-aH,pK,BI]
    rw [Nr _ (7-k) (by omega) (by omega) _ (by rw [IntWalk.u64_in _ (by simp only;omega)];simp only;omega)]at ho3
    exact ho3
  ·have IU : ¬k<8:=by have:=of_decide_eq_false IU;simp only at this;omega
   obtain rfl:k=8:=by omega
   conv=>whnf
   have hr2:=hr1.below hB2
   refine Bl i rfl rfl rfl hlt ?_
   refine oV rfl (by rw [hB2.cell (p:=⟨b,o+i,none⟩) hbl];exact hc _ _ hv) ?_
   refine qL (B:=w.heap.size) (sz:=1) (qY:=1) (m:=ls[i].length) (n:=(oI ls i).length+8) rfl rfl rfl rfl rfl rfl ho2 hr2 (by simp) (uQ _) hn1 (by omega) hB2.size (by unfold maxLen;omega) ?_
   intro o3 c3 w3 ho3 hB3 _
   conv=>whnf
   have hfs:=vX ls i hlt
   have hfl:(oI ls i).length+8+ls[i].length=(oI ls (i+1)).length:=by rw [hfs];simp [uT];omega
   refine rU.mk ⟨_, ?_,(i+1,o3,c3),rfl, ?_, ?_⟩
   ·show ls.length -(i+1)<ls.length-i;omega
   ·exact⟨Ue hfl,qI (incr (by omega)),trivial⟩
   ·refine⟨hlt,hB2.trans hB3, ?_⟩
    rw [hfl, <-pK,aH, <-hfs]at ho3
    exact ho3
 ·have hge : ¬i<ls.length:=by have:=of_decide_eq_false hge;omega
  obtain rfl:i=ls.length:=by simp only at hi;omega
  conv=>whnf
  have hfa:oI ls ls.length=frame ls:=by unfold oI;rw [aW]
  simp only [hfa]at ho
  exact rX.mk ⟨oo,cc,by simp only [hfa];rfl,ho,hB⟩
theorem Yq (d:Int)(oa:Option Addr)(c:Nat)(vs:List Value)(ls:List (List UInt8))(w:World)(hlen:ls.length<=1099511627776)(hl:(frame ls).length<=140737488355328)(hr:Row w oa vs)(hf:Fld w vs ls) :
  zC Tryz.prog 71 #[.int .u64 d, .slice oa ls.length c] w fun v w'=>v = .int .u64 (CY d 0 (frame ls))∧Below w.heap.size w w':=by
 refine oz func71 rfl mixed (by kernel_rfl) ?_
 refine pY (by kernel_rfl) (V7 oa c vs ls w hlen hl hr hf) ?_
 rintro _ w1 ⟨o1,c1,rfl,ho1,hB1⟩
 refine pY (by kernel_rfl) (acT d 0 o1 c1 (frame ls) w1 (by omega) ho1.row) ?_
 rintro _ w2 ⟨rfl,hB2⟩
 exact rX.mk ⟨rfl,hB1.trans (hB2.mono hB1.size)⟩
end Go.Proofs.YtocckceefcmeaaaGreatDoor.Dg
namespace Go.Proofs.YtocckceefcmeaaaGreatDoor.Vc
open RowKit Vc Dg Go.Proofs.Tryz
attribute [local irreducible] loadVar storeVar Instr.indexAt Instr.index Instr.sliceAt Instr.makeSlice Instr.lookup Instr.mapUpdate Instr.range Instr.next Instr.entry Instr.makeMap Builtin.append_ Builtin.copy_ Builtin.len_ Builtin.min_ Builtin.max_ Builtin.cap_ Builtin.delete_ Builtin.clear_ convert binOp eqGuard Op.unary Calls
theorem PO {P:Program}{w:World}{K:Value->World->Prop}{t E:TypeId}{sz n b:Nat}(ht:P.underlying t=some (.array n E))(hs:szB P E=some sz)(k:K (.slice (some ⟨b,0,none⟩) n n) w) :
  nZ P (Instr.sliceAt t (.pointer (some ⟨b,0,none⟩)) none none none) w K:=by
 refine pI ?_ k
 unfold Instr.sliceAt
 rw [Sem.run_bind,mM ht]
 simp only [Result.andThen_ok,Instr.sureAddr,Sem.run_bind,Sem.run_pure,Instr.sliceBounds,qK hs]
 by_cases h0:n=0<;>simp [h0,add0]
theorem agT (oa Fa:Option Addr)(n c m c2:Nat)(b d:List UInt8)(w:World)(hn:n=b.length)(hm:m=d.length)(hl:b.length+d.length<=2000000)(hc:n<=c)(hnil:oa=none->c=0)(hnil2:Fa=none->c2=0)(hr:Row w oa (oH b))(hr2:Row w Fa (oH d)) :
  zC Tryz.prog 65 #[.slice oa n c, .slice Fa m c2] w fun v w'=> ∃qy c',v = .slice qy (n+m) c'∧Own w' w.heap.size 5 1 qy (n+m) c' (oH (b++d))∧Below w.heap.size w w':=by
 refine oz func65 rfl mixed (by kernel_rfl) ?_
 have e0:IntKind.i64.wrap ((n:Int)+(m:Int))=((n+m:Nat):Int):=by rw [IntWalk.i64_in _ (by omega)];omega
 have lb : ∀l:List UInt8,(oH l).length=l.length:=fun l=>by simp [oH]
 conv=>whnf
 rw [e0]
 refine Ax.Po (n:=0) (m:=n+m) (sz:=1) (qY:=1) rfl rfl rfl rfl rfl rfl (au _) (by omega) (by unfold maxLen;omega) ?_
 intro w1 hw1 hb1
 have hB1:Below w.heap.size w w1:=by rw [hw1];exact rP (Below.refl _ _) (aA _) _
 have hO1:Own w1 w.heap.size 5 1 (some ⟨w.heap.size,0,none⟩) 0 (n+m) []:=Own.Fe hb1 (aA _) (au _) (by unfold maxLen;omega) (by simp [Value.cells]) (by simp)
 refine qL (B:=w.heap.size) (sz:=1) (qY:=1) (m:=n) (n:=0) rfl rfl rfl rfl rfl rfl hO1 (hr.below hB1) (by rw [lb];omega) (uQ _) hnil (by omega) hB1.size (by unfold maxLen;omega) ?_
 intro o2 c2' w2 hO2 hB2 _
 refine qL (B:=w.heap.size) (sz:=1) (qY:=1) (m:=m) (n:=0+n) rfl rfl rfl rfl rfl rfl hO2 (hr2.below (hB1.trans hB2)) (by rw [lb];omega) (uQ _) hnil2 (by omega) (dM hB1.size hB2.size) (by unfold maxLen;omega) ?_
 intro o3 c3' w3 hO3 hB3 _
 have hB:=(hB1.trans hB2).trans hB3
 rw [aV,dO, <-pK]at hO3
 clear hO1 hO2 hB1 hB2 hB3
 rw [aV]
 exact rX.mk ⟨o3,c3',rfl,hO3,hB⟩
def V8 (x i:Nat):List Value:=(List.range 8).map fun j=>if j<i then .int .u8 ((yX x (7-j)).toNat:Int)else .int .u8 0
theorem Yr (x i:Nat):(V8 x i).set i (.int .u8 ((yX x (7-i)).toNat:Int))=V8 x (i+1):=by
 unfold V8
 apply jy
 ·simp
 ·intro k h1 h2
  simp only [List.getElem_set,kM,jH]
  by_cases hk:i=k
  ·subst hk;simp
  ·rw [if_neg hk]
   by_cases hki:k<i
   ·rw [if_pos hki,if_pos (by omega)]
   ·rw [if_neg hki,if_neg (by omega)]
theorem Yt (x:Nat):V8 x 8=oH (vM x 8):=rfl
theorem SI (oa:Option Addr)(n c:Nat)(b:List UInt8)(x:Nat)(w:World)(hn:n=b.length)(hl:b.length<=1000000)(hc:n<=c)(hnil:oa=none->c=0)(hx:x<18446744073709551616)(hr:Row w oa (oH b)) :
  zC Tryz.prog 68 #[.slice oa n c, .int .u64 x] w fun v w'=> ∃qy c',v = .slice qy (n+8) c'∧Own w' w.heap.size 5 1 qy (n+8) c' (oH (b++vM x 8))∧Below w.heap.size w w':=by
 refine oz func68 rfl mixed (by kernel_rfl) ?_
 refine tq (X:=Nat) agz (fun i=> [(7, .int .i64 i)]) (fun i w'=>i<=8∧Below w.heap.size w w'∧tu w' w.heap.size (V8 x i) 137) (fun i=>8-i) 0 (by kernel_rfl) ?_ ⟨by decide,rP (Below.refl _ _) (aA _) _,tu.new w _ _⟩ ?_
 ·exact⟨rfl,trivial⟩
 rintro i w2 j ⟨hi,hB2,hb2⟩
 refine lK (fun hlt=> ?_) (fun hge=> ?_)
 ·have hlt:i<8:=by have:=of_decide_eq_true hlt;omega
  have e1:IntKind.i64.wrap (8*(i:Int))=((8*i:Nat):Int):=by rw [IntWalk.i64_in _ (by omega)];omega
  have e2:IntKind.i64.wrap (56-IntKind.i64.wrap (8*(i:Int)))=((8*(7-i):Nat):Int):=by rw [e1,IntWalk.i64_in _ (by omega)];omega
  refine lN.mk (by rw [e2];omega) ?_
  refine Cb i rfl rfl rfl hlt ?_
  refine Ee hb2 rfl rfl (by simp [V8];omega) ?_
  intro w3 o3 hb3
  refine rU.mk ⟨_, ?_,i+1,rfl, ?_, ?_⟩
  ·show 8 -(i+1)<8-i;omega
  ·exact⟨qI (incr (by omega)),trivial⟩
  ·refine⟨hlt,hB2.trans (o3.below (aA _)), ?_⟩
   rw [e2]at hb3
   have:=Nr x (7-i) (by omega) hx _ (rfl:((8*(7-i):Nat):Int)=_)
   rw [IntWalk.u64_in _ (by omega)]at this
   rw [aV,this,Yr x i]at hb3
   exact hb3
 ·have hge : ¬i<8:=by have:=of_decide_eq_false hge;omega
  obtain rfl:i=8:=by omega
  rw [Yt]at hb2
  refine PO (E:=5) (n:=8) rfl rfl ?_
  refine pY (by kernel_rfl) (agT oa (some ⟨w.heap.size,0,none⟩) n c 8 8 b (vM x 8) w2 hn (uT _ _).symm (by rw [uT];omega) hc hnil (fun e=>by cases e) (hr.below hB2) hb2.row) ?_
  rintro _ w3 ⟨o3,c3,rfl,hO3,hB3⟩
  have hB:=hB2.trans (hB3.mono hB2.size)
  have hO:Own w3 w.heap.size 5 1 o3 (n+8) c3 (oH (b++vM x 8)):=⟨hO3.1,hO3.2.imp id fun⟨g,cap,cur,h1,h0,h2⟩=>⟨g,cap,cur,h1,dM hB2.size h0,h2⟩⟩
  clear hO3 hB3
  exact rX.mk ⟨o3,c3,rfl,hO,hB⟩
theorem Own.cut {w:World}{B:Nat}{E:TypeId}{sz:Nat}{oa:Option Addr}{n c h:Nat}{xs:List Value}(hO:Own w B E sz oa n c xs)(hh:h<=n):Own w B E sz oa h c (xs.take (h*sz)):=by
 have hl:=hO.1
 have hm:h*sz<=n*sz:=aX _ hh
 refine⟨by rw [aK];omega, ?_⟩
 rcases hO.2 with ⟨hv,hn⟩|⟨g,cap,cur,hv,hg,hb,h1,h2,h3,h4⟩
 ·injection hv with e1 e2 e3
  subst e1;subst e3
  exact .inl ⟨by rw [show h=0 by omega],by omega⟩
 ·injection hv with e1 e2 e3
  subst e1;subst e3
  exact .inr ⟨g,c,cur,rfl,hg,hb,by omega,h2,h3,by rw [<-h4,kE,dW hm]⟩
theorem Ux {w:World}{B:Nat}{E:TypeId}{sz:Nat}{oa:Option Addr}{n c:Nat}{xs:List Value}(hO:Own w B E sz oa n c xs):n<=c:=by
 rcases hO.2 with ⟨hv,hn⟩|⟨g,cap,cur,hv,hg,hb,h1,_⟩
 ·omega
 ·injection hv with _ _ e3
  omega
theorem SK {P:Program}{w:World}{K:Value->World->Prop}{t ty E:TypeId}{oa:Option Addr}{n c:Nat}(ht:P.underlying t=some (.slice E))(k:K (.int .i64 c) w):nZ P (Builtin.cap_ #[t] ty #[.slice oa n c]) w K:=by
 refine pI ?_ k
 unfold Builtin.cap_
 simp [Sem.run_bind,mM ht,goInt]
theorem SL {P:Program}{w:World}{K:Value->World->Prop}{t tn ty E:TypeId}{sz qY n:Nat}{kn k:IntKind}{zs:List Value}(ht:P.underlying t=some (.slice E))(htn:P.underlying tn=some (.int kn))(hs:szB P E=some sz)(hby:qG P E=some qY)(hz:xH P E=some zs)
  (hzl:zs.length=sz) (hsz:Nat.ble 1 sz=true) (h0:0<n) (hbytes:n*qY<=140737488355328) (hn:n<=maxLen)
  (hk : ∀c w' xs,Own w' w.heap.size E sz (some ⟨w.heap.size,0,none⟩) n c xs->Below w.heap.size w w'->K (.slice (some ⟨w.heap.size,0,none⟩) n c) w') :
  nZ P (Builtin.append_ #[t,tn] ty #[.slice none 0 0, .int k (n:Int)]) w K:=by
 obtain⟨i,hi,rfl⟩:=qJ hs
 have hb':i.bytes=qY:=by simpa [qG,hi]using hby
 subst hb'
 obtain⟨z,hz1,hz2⟩ : ∃z,i.zero=some z∧z.cells.toList=zs:=by
  unfold xH at hz
  simp only [hi,fU]at hz
  cases hzz:i.zero with
  | none=>simp [hzz]at hz
  | some z=>simp only [hzz,bU,aN]at hz;exact⟨z,rfl,hz⟩
 have hsz':1<=i.size:=aP hsz
 have hzc:z.cells.size=i.size:=by rw [<-hz2]at hzl;simpa using hzl
 have hrun:=Lib.run_append_nil_zeros (P:=P) w t tn ty E i z k kn ht htn hi hz1 n h0 (by omega) (by unfold maxLen at hn;omega) (by omega)
 have hge:=grownCap_ge w n 0 E
 have hcm:=grownCap_le_maxLen w n 0 E hn
 have hcs : ∀m,(Builtin.zeroCells z.cells m).size=m*i.size:=fun m=>by simp [Builtin.zeroCells,hzc]
 refine pI hrun (hk _ _ ((Builtin.zeroCells z.cells n++Builtin.zeroCells z.cells (grownCap w n 0 E-n)).toList.take (n*i.size)) (Own.Fe (cur:=(Builtin.zeroCells z.cells n++Builtin.zeroCells z.cells (grownCap w n 0 E-n)).toList) ?_ (aA _) hge hcm ?_ rfl) ?_)
 ·have:=tu.new w.drew (Builtin.zeroCells z.cells n++Builtin.zeroCells z.cells (grownCap w n 0 E-n)) E
  simpa using this
 ·rw [Array.length_toList,Array.size_append,hcs,hcs, <-bJ]
  congr 1;omega
 ·exact rP (Below.drew (Below.refl _ _)) (aA _) _
theorem Yu (n:Nat)(w:World)(hn:0<n)(hl:n<=1000000) :
  zC Tryz.prog 88 #[.slice none 0 0, .int .i64 n] w fun v w'=> ∃oa c,v = .slice oa 0 c∧Own w' w.heap.size 95 10 oa 0 c []∧Below w.heap.size w w':=by
 refine oz func88 rfl mixed (by kernel_rfl) ?_
 refine SK rfl ?_
 have e0:IntKind.i64.wrap ((n:Int)-IntKind.i64.wrap (((0:Nat):Int) -((0:Nat):Int)))=(n:Int):=by rw [IntWalk.i64_in (((0:Nat):Int) -((0:Nat):Int)) (by omega),IntWalk.i64_in _ (by omega)];omega
 conv=>whnf
 rw [e0,show decide ((n:Int)>0)=true from decide_eq_true (by omega)]
 refine SK rfl ?_
 refine H6 (h:=0) (sz:=10) rfl rfl rfl (aA _) (aA _) ?_
 refine SL (sz:=10) (qY:=112) rfl rfl rfl rfl rfl rfl rfl hn (by omega) (by unfold maxLen;omega) ?_
 intro c w1 xs hO hB
 have hc:=Ux hO
 refine H6 (h:=0) (sz:=10) rfl rfl rfl (au _) hc ?_
 exact rX.mk ⟨_,_,rfl,by have:=hO.cut (au n);simpa using this,hB⟩
end Go.Proofs.YtocckceefcmeaaaGreatDoor.Vc
