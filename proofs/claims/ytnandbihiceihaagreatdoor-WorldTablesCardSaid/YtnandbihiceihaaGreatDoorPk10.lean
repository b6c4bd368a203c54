/- Joined parts of the proof. The orders in which the reckoner walks the regions that draw theirs: printed by a program of ours, each is checked where -/
import Derived.Test.YtnandbihiceihaaGreatDoorPk2
import Derived.Test.YtnandbihiceihaaGreatDoorProg
import Derived.KernelRfl
import Derived.IntWalk
import Derived.Test.YtnandbihiceihaaGreatDoorPk9
import Derived.Lib.AppendZeros
set_option linter.unusedVariables false
set_option linter.unusedSimpArgs false
set_option maxRecDepth 100000
set_option maxHeartbeats 16000000
namespace Go.Proofs.YtnandbihiceihaaGreatDoor.Vc
open Go.Proofs.Tryz
def tk (l:List Nat)(p:Plan):Plan:=l.foldr .take p
def tr (n:Nat)(p:Plan):Plan:=tk (List.range n) p
def ais:List (Nat×Nat):= [(11,11),(13,15),(28,49)]
def ait:List (Nat×Nat):= [(4,5),(7,11),(16,116)]
def yS (id:Nat):Plan:=
 match id with
 | 12=>(tk [1,4,5,6,7,8,9] (.three 0 (.take 2 (.take 3 (.two 10 (.two 11 (.take 12 (.one 13 (.post 14 .done))) 13 (.one 11 (.take 12 (.post 14 .done)))) 13 (.one 10 (.one 11 (.take 12 (.post 14 .done))))))) 10 (.three 0 (.take 2 (.take 3 (.two 11 (.take 12 (.one 13 (.post 14 .done))) 13 (.one 11 (.take 12 (.post 14 .done)))))) 11 (.two 0 (tk [2,3,12] (.one 13 (.post 14 .done))) 13 (.one 0 (tk [2,3,12] (.post 14 .done)))) 13 (.two 0 (.take 2 (.take 3 (.one 11 (.take 12 (.post 14 .done))))) 11 (.one 0 (tk [2,3,12] (.post 14 .done))))) 13 (.two 0 (.take 2 (.take 3 (.one 10 (.one 11 (.take 12 (.post 14 .done)))))) 10 (.two 0 (.take 2 (.take 3 (.one 11 (.take 12 (.post 14 .done))))) 11 (.one 0 (tk [2,3,12] (.post 14 .done)))))))
 | 18=>(tk [1,6,11,15,19] (.one 0 (.one 2 (tk [3,4,5] (.one 7 (tk [8,9,10] (.one 12 (.take 13 (.take 14 (.one 16 (.take 17 (.take 18 (.one 20 (.take 21 (.one 22 (.take 23 (.one 24 (.take 25 (.post 26 .done)))))))))))))))))))
 | 21=>(tk [0,2,3] (.one 1 (.take 4 .done)))
 | 14=>(tk [1,6,9] (.one 0 (.one 2 (tk [3,4,5] (.one 7 (.take 8 (.one 10 (.take 11 (.one 12 (.take 13 (.post 14 .done)))))))))))
 | _=> .done
def aiu (id:Nat):Plan:=
 match id with
 | 2=>(tk [0,4,8,11] (.two 1 (.take 2 (.two 3 (.two 5 (.take 6 (.take 7 (.two 9 (.take 10 (.two 12 (.take 13 (.take 14 (.one 15 (.post 16 .done)))) 15 (.one 12 (.take 13 (.take 14 (.post 16 .done)))))) 15 (.one 9 (.take 10 (.one 12 (.take 13 (.take 14 (.post 16 .done))))))))) 15 (.one 5 (.take 6 (.take 7 (.one 9 (.take 10 (.one 12 (.take 13 (.take 14 (.post 16 .done)))))))))) 15 (.one 3 (.one 5 (.take 6 (.take 7 (.one 9 (.take 10 (.one 12 (.take 13 (.take 14 (.post 16 .done)))))))))))) 15 (.one 1 (.take 2 (.one 3 (.one 5 (.take 6 (.take 7 (.one 9 (.take 10 (.one 12 (.take 13 (.take 14 (.post 16 .done))))))))))))))
 | _=> .done
def afb:List (Nat×Nat):= [(20,20),(22,22),(72,81)]
def aiv (id:Nat):Plan:=
 match id with
 | 11=>(tk [0,1,2,3,4,5,6,7,8,10,11] (.two 9 (.two 12 (.take 13 (.one 14 (.post 15 .done))) 14 (.one 12 (.take 13 (.post 15 .done)))) 14 (.one 9 (.one 12 (.take 13 (.post 15 .done))))))
 | _=> .done
def afc:List (Nat×Nat):= [(19,20),(55,68)]
def aiw (id:Nat):Plan:=
 match id with
 | 16=>(tk [0,1,2,3,4,5,6,7,8,10,11] (.two 9 (.two 12 (.take 13 (.one 14 (.post 15 .done))) 14 (.one 12 (.take 13 (.post 15 .done)))) 14 (.one 9 (.one 12 (.take 13 (.post 15 .done))))))
 | _=> .done
def aix (id:Nat):Plan:=
 match id with
 | 2=>(.take 1 (.take 2 (.one 0 (tk [3,4,5,6,7,8] .done))))
 | _=> .done
def aiy (id:Nat):Plan:=
 match id with
 | 15=>(tr 4 (.one 4 (.take 5 (.post 6 (.take 7 (.post 8 .done))))))
 | _=> .done
def aiz (id:Nat):Plan:=
 match id with
 | 1=>(tr 11 .done)
 | _=> .done
def aef (id:Nat):Plan:=
 match id with
 | 1=>(tr 10 .done)
 | 4=>(tr 15 .done)
 | _=> .done
def afd:List (Nat×Nat):= [(14,18),(44,77),(113,124)]
def XR (id:Nat):Plan:=
 match id with
 | 15=>(tr 6 (.one 6 (.post 7 .done)))
 | 16=>(tr 5 (.post 5 (tk [6,7,8,9] (.one 10 (.take 11 (.post 12 .done))))))
 | 21=>(tk [0,1,2,3,4,5,6,7,8,9,10,11,12,13,14,15,16,17,18,19,20,22,23,24,25,26] (.one 21 (.post 27 (.take 28 (.take 29 .done)))))
 | _=> .done
def afe:List (Nat×Nat):= [(7,7),(9,10),(17,43)]
def aff:List (Nat×Nat):= [(9,11),(13,15),(18,50)]
def afg:List (Nat×Nat):= [(9,9),(13,15),(25,49)]
def afh:List (Nat×Nat):= [(6,7),(9,14),(18,89)]
def XT (id:Nat):Plan:=
 match id with
 | 9=>(tr 12 .done)
 | 14=>(tk [0,1,2,3,4,5,6,8,9] (.one 7 (.one 10 (tk [11,12,13,14] (.post 15 .done)))))
 | _=> .done
def afi:List (Nat×Nat):= [(11,11),(29,50)]
def afj:List (Nat×Nat):= [(12,19),(51,208)]
def afk:List (Nat×Nat):= [(15,16),(18,19),(80,186)]
def uO (id:Nat):Plan:=
 match id with
 | 8=>(tr 14 (.one 14 (.take 15 (.post 16 .done))))
 | 13=>(tr 10 .done)
 | 16=>(tk [0,2,3,4,5,6] (.one 1 (.post 7 (.take 8 .done))))
 | 21=>(tr 29 .done)
 | 24=>(tr 19 .done)
 | 26=>(tr 35 (.post 35 (.take 36 .done)))
 | _=> .done
def afl:List (Nat×Nat):= [(7,9),(14,47)]
def afm:List (Nat×Nat):= [(9,47)]
def afn:List (Nat×Nat):= [(5,23)]
def afo:List (Nat×Nat):= [(5,24)]
def afp:List (Nat×Nat):= [(7,7),(16,25)]
def afq:List (Nat×Nat):= [(5,5),(8,12),(26,124)]
def afr:List (Nat×Nat):= [(10,10),(32,50)]
def Oy (id:Nat):Plan:=
 match id with
 | 12=>(tr 17 .done)
 | 17=>(tk [0,1,2,3,4,5,6,7,8,9,10,12,13,14,15,16] (.one 11 (.one 17 (tk [18,19,20,21,22] (.post 23 .done)))))
 | _=> .done
def aeg (id:Nat):Plan:=
 match id with
 | 1=>(tk [0,1,3,4] (.one 2 (.post 5 (.take 6 (.post 7 (.take 8 (.post 9 .done)))))))
 | 5=>(tr 9 (.one 9 (.take 10 (.take 11 (.post 12 .done)))))
 | 10=>(tr 4 (.one 4 (.take 5 (.post 6 .done))))
 | 13=>(tk [0,1,2,3,4,5,7,8,9,10] (.one 6 (.one 11 (.take 12 (.take 13 (.one 14 (.take 15 (.take 16 (.post 17 .done)))))))))
 | 17=>(tr 13 (.one 13 (.take 14 (.take 15 (.post 16 .done)))))
 | 19=>(tk [0,1,3,4] (.one 2 (.post 5 (.take 6 (.post 7 (.take 8 (.post 9 .done)))))))
 | 21=>(tk [0,1,2,3,5,6,7,8] (.one 4 (.post 9 (tk [10,11,12] (.post 13 (tk [14,15,16] (.post 17 .done)))))))
 | _=> .done
def aeh (id:Nat):Plan:=
 match id with
 | 4=>(tr 11 (.one 11 (.take 12 (.post 13 (.take 14 .done)))))
 | _=> .done
def aiA (id:Nat):Plan:=
 match id with
 | 1=>(tr 10 (.two 10 (tk [11,12,13,14] (.one 15 (.one 16 (.take 17 (.take 18 .done))))) 15 (.one 10 (tk [11,12,13,14] (.one 16 (.take 17 (.take 18 .done)))))))
 | _=> .done
def aiB (id:Nat):Plan:=
 match id with
 | 5=>(tr 10 (.one 10 (.take 11 .done)))
 | _=> .done
def aiC (id:Nat):Plan:=
 match id with
 | 6=>(tr 15 (.post 15 .done))
 | _=> .done
def aiD (id:Nat):Plan:=
 match id with
 | 1=>(tr 10 (.one 10 (tk [11,12,13] (.post 14 .done))))
 | 20=>(tr 6 (.one 6 (.one 7 (.take 8 (.take 9 (.post 10 .done))))))
 | _=> .done
def afs:List (Nat×Nat):= [(2,5),(18,49)]
def aft:List (Nat×Nat):= [(2,2),(7,7),(52,59)]
def afu:List (Nat×Nat):= [(4,5),(10,17)]
def aiE (id:Nat):Plan:=
 match id with
 | 2=>(tk [0,1,2,4,5,6] (.one 3 (.take 8 (.one 7 (.post 9 (.take 10 (.post 11 .done)))))))
 | _=> .done
def afv:List (Nat×Nat):= [(4,4),(6,8),(21,35)]
def aiF (id:Nat):Plan:=
 match id with
 | 20=>(tr 8 (.one 8 (.take 9 (.post 10 (.take 11 .done)))))
 | _=> .done
def afw:List (Nat×Nat):= [(2,2),(4,4),(14,25)]
def TN (id:Nat):Plan:=
 match id with
 | 4=>(tr 15 .done)
 | _=> .done
def XU:List (Nat×Nat):= [(8,8),(10,11),(18,37)]
def aiG (id:Nat):Plan:=
 match id with
 | 1=>(tr 7 (.one 7 (.one 8 (.take 9 (.post 10 .done)))))
 | _=> .done
def aiH (id:Nat):Plan:=
 match id with
 | 1=>(tr 23 (.post 23 .done))
 | _=> .done
def afx:List (Nat×Nat):= [(7,8),(10,10),(20,59)]
def afy:List (Nat×Nat):= [(10,10),(12,15),(17,17),(38,75)]
def afz:List (Nat×Nat):= [(12,15),(17,17),(48,74)]
def XV:List (Nat×Nat):= [(17,17),(64,73)]
def afA:List (Nat×Nat):= [(11,11),(14,14),(51,65)]
def Aq (id:Nat):Plan:=
 match id with
 | 13=>(tk [0,2,3,4,6,8,10,11,14,16,17,18,19,20] (.two 1 (.take 5 (.two 7 (.take 9 (.two 12 (.take 13 (.two 15 (tk [21,22,23,24] (.one 25 (.post 26 .done))) 25 (.one 15 (tk [21,22,23,24] (.post 26 .done))))) 25 (.one 12 (.take 13 (.one 15 (tk [21,22,23,24] (.post 26 .done))))))) 25 (.one 7 (.take 9 (.one 12 (.take 13 (.one 15 (tk [21,22,23,24] (.post 26 .done))))))))) 25 (.one 1 (.take 5 (.one 7 (.take 9 (.one 12 (.take 13 (.one 15 (tk [21,22,23,24] (.post 26 .done)))))))))))
 | 18=>(tk [0,1,2,4,5,7,8,9] (.one 3 (tk [6,10,11,12] (.post 13 .done))))
 | 20=>(tk [0,1,2,4,5,7,8,9] (.one 3 (tk [6,10,11,12] (.post 13 .done))))
 | _=> .done
def afB:List (Nat×Nat):= [(4,5),(8,18)]
def afC:List (Nat×Nat):= [(11,14),(32,46)]
def aei (id:Nat):Plan:=
 match id with
 | 8=>(tr 11 .done)
 | _=> .done
def afD:List (Nat×Nat):= [(6,11),(14,72)]
def afE:List (Nat×Nat):= [(10,11),(37,55)]
def aiI (id:Nat):Plan:=
 match id with
 | 13=>(tr 10 (.post 10 (tk [11,12,13] .done)))
 | _=> .done
def afF:List (Nat×Nat):= [(8,8),(11,12),(20,49)]
def afG:List (Nat×Nat):= [(8,8),(12,12),(33,49)]
def aiJ (id:Nat):Plan:=
 match id with
 | 10=>(tr 10 .done)
 | _=> .done
def afH:List (Nat×Nat):= [(5,26)]
def afI:List (Nat×Nat):= [(3,35)]
def aiK (id:Nat):Plan:=
 match id with
 | 6=>(tr 17 (.one 17 (.post 18 (.take 19 .done))))
 | _=> .done
def afJ:List (Nat×Nat):= [(6,10),(14,53)]
def aiL (id:Nat):Plan:=
 match id with
 | 19=>(tk [0,1,2,4,5,6] (.one 3 (.post 7 (.take 8 (.take 9 .done)))))
 | _=> .done
def abq:List (Nat×Nat):= [(5,23)]
def abr:List (Nat×Nat):= [(11,11),(14,14),(74,94)]
def afK (id:Nat):Plan:=
 match id with
 | 1=>(tr 6 .done)
 | _=> .done
def abt:List (Nat×Nat):= [(11,13),(25,42)]
def LQ (id:Nat):Plan:=
 match id with
 | 8=>(tr 14 .done)
 | 10=>(tk [0,1,2,3,4,5,6,7,8,9,10,11,12,13,14,15,16,17,18,20] (.one 19 (.take 21 (.take 22 .done))))
 | _=> .done
def abu:List (Nat×Nat):= [(3,3),(5,5),(8,17)]
def afM (id:Nat):Plan:=
 match id with
 | 5=>(tr 9 (.two 9 (tk [10,11,12,13] (.one 14 (.one 15 (.take 16 (.take 17 .done))))) 14 (.one 9 (tk [10,11,12,13] (.one 15 (.take 16 (.take 17 .done)))))))
 | 8=>(tr 8 (.post 8 .done))
 | _=> .done
def XW (id:Nat):Plan:=
 match id with
 | 6=>(.take 0 (.post 1 (tk [2,3,4,5,6,7,8,9,10,11,12,13,14,15,16,17,18,19,20,21,22,23,24,25,26,27,28,29,30,31,32] .done)))
 | _=> .done
def XY (id:Nat):Plan:=
 match id with
 | 16=>(tr 21 .done)
 | _=> .done
def abv:List (Nat×Nat):= [(6,18)]
def afN (id:Nat):Plan:=
 match id with
 | 22=>(tr 7 .done)
 | 29=>(tr 5 (.post 5 .done))
 | _=> .done
def XZ (id:Nat):Plan:=
 match id with
 | 1=>(tk [0,1,3,4] (.one 2 (.take 6 (.one 5 (.post 7 (.take 8 (.post 9 .done)))))))
 | 5=>(tr 9 (.one 9 (.take 10 (.take 11 (.post 12 .done)))))
 | _=> .done
def X0 (id:Nat):Plan:=
 match id with
 | 10=>(.take 0 (.post 1 (tk [2,3,4,5,6,7,8,9,10,11,12,13,14,15,16,17,18] .done)))
 | 17=>(.take 0 (.post 1 (tk [2,3,4,5,6,7,8,9,10,11,12,13,14,15,16,17,18,19,20] (.post 21 (tk [22,23,24] .done)))))
 | _=> .done
def abw:List (Nat×Nat):= [(3,8),(13,35)]
def abx:List (Nat×Nat):= [(12,12),(42,55)]
def aby:List (Nat×Nat):= [(10,12),(57,94)]
def abz:List (Nat×Nat):= [(12,12),(80,93)]
def abA:List (Nat×Nat):= [(3,3),(5,5),(8,17)]
def afP (id:Nat):Plan:=
 match id with
 | 3=>(tr 41 (.one 41 (.post 42 .done)))
 | 4=>(tr 16 (.one 16 (.one 17 (.take 18 (.one 19 (.take 20 .done))))))
 | _=> .done
def afQ (id:Nat):Plan:=
 match id with
 | 13=>(.take 0 (.take 1 (.one 2 (.post 3 (.post 4 .done)))))
 | _=> .done
def abB:List (Nat×Nat):= [(10,12),(47,67)]
def afR (id:Nat):Plan:=
 match id with
 | 13=>(tr 9 (.one 9 (.one 10 (.post 11 (.take 12 .done)))))
 | _=> .done
def abC:List (Nat×Nat):= [(7,11),(16,37)]
def abD:List (Nat×Nat):= [(2,43)]
def abE:List (Nat×Nat):= [(5,5),(8,22)]
def abG:List (Nat×Nat):= [(3,3),(6,6),(10,24)]
def abH:List (Nat×Nat):= [(5,5),(7,7),(10,22)]
def abI:List (Nat×Nat):= [(7,7),(9,9),(11,11),(21,45)]
def abJ:List (Nat×Nat):= [(7,7),(11,11),(31,44)]
def abK:List (Nat×Nat):= [(8,8),(11,13),(15,15),(31,70)]
def TP:List (Nat×Nat):= [(12,13),(15,15),(38,64)]
def X3 (id:Nat):Plan:=
 match id with
 | 12=>(tr 8 .done)
 | _=> .done
def TQ:List (Nat×Nat):= [(5,7),(9,24)]
def afS (id:Nat):Plan:=
 match id with
 | 3=>(tk [0,1,2,3,4,6,7] (.one 5 (.post 8 (.take 9 .done))))
 | _=> .done
def abL:List (Nat×Nat):= [(8,10),(46,71)]
def abM:List (Nat×Nat):= [(15,16),(67,85)]
def abN:List (Nat×Nat):= [(16,16),(18,18),(102,120)]
def afT (id:Nat):Plan:=
 match id with
 | 6=>(tr 8 .done)
 | _=> .done
def TT:List (Nat×Nat):= [(5,10),(13,50)]
def TU:List (Nat×Nat):= [(5,10),(14,50)]
def abO (id:Nat):Plan:=
 match id with
 | 8=>(tk [0,1,2,3,4,5,7,8,9,10,11,12] (.one 6 (.one 13 (.take 14 (.take 15 .done)))))
 | _=> .done
def afU (id:Nat):Plan:=
 match id with
 | 8=>(tk [0,1,2,3,4,5,7,8,9,10,11,12] (.one 6 (.post 13 (.take 14 (.take 15 .done)))))
 | _=> .done
def abP:List (Nat×Nat):= [(4,17)]
def abQ:List (Nat×Nat):= [(9,13),(22,65)]
def afV (id:Nat):Plan:=
 match id with
 | 9=>(tk [0,1,2,3,4,6,7,8,9,10] (.one 5 (.post 11 (.take 12 .done))))
 | _=> .done
def abR:List (Nat×Nat):= [(4,19)]
def abS:List (Nat×Nat):= [(9,13),(16,64)]
def abT:List (Nat×Nat):= [(11,13),(22,49)]
def LU (id:Nat):Plan:=
 match id with
 | 10=>(tr 10 (.post 10 (tk [11,12,13,14,15] .done)))
 | 12=>(tr 13 (.one 13 (.post 14 (.take 15 .done))))
 | _=> .done
def abU:List (Nat×Nat):= [(8,9),(43,74)]
def afW (id:Nat):Plan:=
 match id with
 | 5=>(tr 5 (.one 5 (.take 6 (.post 7 .done))))
 | 11=>(tr 4 (.one 4 (.take 5 (.take 6 .done))))
 | _=> .done
def LV (id:Nat):Plan:=
 match id with
 | 1=>(tr 12 .done)
 | _=> .done
def abV:List (Nat×Nat):= [(3,4),(12,21)]
def abW:List (Nat×Nat):= [(9,11),(26,50)]
def abX:List (Nat×Nat):= [(10,11),(33,48)]
def abY:List (Nat×Nat):= [(8,8),(12,12),(54,74)]
def abZ:List (Nat×Nat):= [(3,3),(5,6),(9,30)]
def ab1:List (Nat×Nat):= [(3,3),(6,6),(13,26)]
def X4 (id:Nat):Plan:=
 match id with
 | 3=>(tr 12 .done)
 | _=> .done
def afX (id:Nat):Plan:=
 match id with
 | 2=>(tr 6 (.post 6 (tk [7,8,9,10,11] .done)))
 | 8=>(tr 8 .done)
 | 12=>(tr 13 .done)
 | 16=>(tr 5 (.one 5 (.take 6 (.take 7 .done))))
 | 18=>(tr 7 (.one 7 (.take 8 (.take 9 (.post 10 .done)))))
 | 4=>(tr 7 (.one 7 (.take 8 (.take 9 (.post 10 .done)))))
 | 5=>(tr 5 (.post 5 (tk [6,7,8,9,10] .done)))
 | 6=>(tr 7 (.one 7 (.one 8 (.take 9 (.take 10 (.post 11 .done))))))
 | 7=>(tr 10 (.post 10 .done))
 | _=> .done
def ab2:List (Nat×Nat):= [(4,5),(8,18)]
def afY (id:Nat):Plan:=
 match id with
 | 1=>(tk [0,1,3,4] (.one 2 (.take 6 (.one 5 (.post 7 (.take 8 (.post 9 .done)))))))
 | _=> .done
def ab3:List (Nat×Nat):= [(3,3),(5,5),(11,22)]
def ab4:List (Nat×Nat):= [(6,6),(8,8),(27,34)]
def ab5:List (Nat×Nat):= [(4,5),(11,21)]
def afZ (id:Nat):Plan:=
 match id with
 | 10=>(tr 6 (.one 6 (.take 7 (.take 8 (.one 9 (.post 10 (.take 11 .done)))))))
 | _=> .done
def ab6:List (Nat×Nat):= [(5,5),(9,19)]
def ab7:List (Nat×Nat):= [(1,1),(4,16)]
def ab8:List (Nat×Nat):= [(4,6),(9,19)]
def ab9:List (Nat×Nat):= [(9,9),(11,16),(21,57)]
def acd:List (Nat×Nat):= [(12,16),(26,51)]
def TW:List (Nat×Nat):= [(5,19)]
def TY (id:Nat):Plan:=
 match id with
 | 4=>(tk [1,2,3,5,8,9,10] (.two 0 (.two 4 (.one 6 (.one 7 (.one 11 (.take 12 .done)))) 6 (.one 4 (.one 7 (.one 11 (.take 12 .done))))) 6 (.one 0 (.one 4 (.one 7 (.one 11 (.take 12 .done)))))))
 | _=> .done
def X5 (id:Nat):Plan:=
 match id with
 | 4=>(tk [1,2,3,5,8,9,10] (.two 0 (.two 4 (.one 6 (.one 7 (.post 11 (.take 12 .done)))) 6 (.one 4 (.one 7 (.post 11 (.take 12 .done))))) 6 (.one 0 (.one 4 (.one 7 (.post 11 (.take 12 .done)))))))
 | _=> .done
def ace:List (Nat×Nat):= [(0,0),(3,9)]
def af0 (id:Nat):Plan:=
 match id with
 | 1=>(tr 12 .done)
 | 4=>(tr 7 (.one 7 (.one 8 (tk [9,10,11] (.post 12 .done)))))
 | _=> .done
def Ua (id:Nat):Plan:=
 match id with
 | 0=>(tr 8 (.sink 8))
 | 2=>(tr 8 (.sink 8))
 | _=> .done
def acf:List (Nat×Nat):= [(5,119)]
def ug (id:Nat):Plan:=
 match id with
 | 2=>(tr 11 (.sink 11))
 | 3=>(tk [0,1,2,3,4,6,7,8,9,11] (.one 5 (.take 10 (.take 12 (.sink 13)))))
 | 4=>(tk [0,1,2,3,4,6] (.one 5 (.take 7 (.sink 8))))
 | 5=>(tr 11 (.sink 11))
 | 6=>(tk [0,1,2,3,4,6,7,8,9,11] (.one 5 (.take 10 (.take 12 (.sink 13)))))
 | 7=>(tr 11 (.sink 11))
 | 8=>(tk [0,1,2,3,4,6,7,8,9,11] (.one 5 (.take 10 (.take 12 (.sink 13)))))
 | 9=>(tr 11 (.sink 11))
 | 10=>(tk [0,1,2,3,4,6,7,8,9,11] (.one 5 (.take 10 (.take 12 (.sink 13)))))
 | 11=>(tk [0,1,2,3,4,6] (.one 5 (.take 7 (.sink 8))))
 | _=> .done
def af2 (id:Nat):Plan:=
 match id with
 | 5=>(tr 6 (.post 6 (.take 7 .done)))
 | 8=>(tr 11 (.one 11 (tk [12,13,14,15] .done)))
 | _=> .done
def acg:List (Nat×Nat):= [(4,30)]
def af4 (id:Nat):Plan:=
 match id with
 | 3=>(tr 7 .done)
 | _=> .done
def ach (id:Nat):Plan:=af4 id
def af5 (id:Nat):Plan:=
 match id with
 | 1=>(tr 10 .done)
 | 5=>(tr 10 .done)
 | _=> .done
def X6 (id:Nat):Plan:=
 match id with
 | 0=>(tr 6 (.one 6 (.take 7 (.post 8 .done))))
 | _=> .done
def aci:List (Nat×Nat):= [(4,5),(8,18)]
def X7 (id:Nat):Plan:=
 match id with
 | 4=>(tr 15 .done)
 | _=> .done
def X8 (id:Nat):Plan:=
 match id with
 | 13=>(tr 15 (.post 15 .done))
 | _=> .done
end Go.Proofs.YtnandbihiceihaaGreatDoor.Vc
namespace Go.Proofs.YtnandbihiceihaaGreatDoor.Dg
open RowKit Vc Go.Proofs.Tryz
attribute [local irreducible] loadVar storeVar Instr.indexAt Instr.index Instr.sliceAt Instr.makeSlice Instr.lookup Instr.mapUpdate Instr.range Instr.next Instr.entry Instr.makeMap Builtin.append_ Builtin.copy_ Builtin.len_ Builtin.min_ Builtin.max_ Builtin.cap_ Builtin.delete_ Builtin.clear_ convert binOp eqGuard Op.unary Calls
theorem mixed:Tryz.prog.follows .mixedOrders=true:=aag
def Oz (x:Int)(n:Nat):Int:=nV .or .u64 (IntKind.u64.wrap (x*2^n)) (x.fdiv (2^(64-n)))
theorem Ea (x k:Int)(n:Nat)(hk:nV .and .u64 (IntKind.u64.wrap k) 63=n)(h0:0<n)(h1:n<64)(w:World) :
  zO Tryz.prog 313 #[.int .u64 x, .int .i64 k] w fun v w'=>v = .int .u64 (Oz x n)∧w'=w:=by
 have e3:IntKind.u64.wrap (64 -(n:Int))=64-n:=IntWalk.u64_in _ aai
 refine ou func313 rfl mixed aag ?_
 refine lW.mk (by rw [hk];omega) ?_
 refine lW.mk ?_ ?_
 ·rw [hk,e3];omega
 refine qM.mk ⟨?_,rfl⟩
 show Value.int .u64 _=_
 rw [hk,e3]
 unfold Oz
 have e1:min (n:Int).toNat IntKind.u64.bits=n:=ajG
 have e2:min (64 -(n:Int)).toNat IntKind.u64.bits=64-n:=by simp [IntKind.bits]
 rw [e1,e2]
structure S4 where
 a:Int
 b:Int
 c:Int
 d:Int
def u (x:Int):Value:= .int .u64 x
def add (x y:Int):Int:=IntKind.u64.wrap (x+y)
def xor (x y:Int):Int:=nV .xor .u64 x y
def S4.round (s:S4):S4:=
 let a:=add s.a s.b
 let b:=xor (Oz s.b 13) a
 let a:=Oz a 32
 let c:=add s.c s.d
 let d:=xor (Oz s.d 16) c
 let a:=add a d
 let d:=xor (Oz d 21) a
 let c:=add c b
 let b:=xor (Oz b 17) c
 let c:=Oz c 32
 ⟨a,b,c,d⟩
def S4.rounds (s:S4):Nat->S4
 | 0=>s
 | n+1=>(s.rounds n).round
@[reducible] def S4.cells (s:S4):List Value:= [.int .u64 s.a, .int .u64 s.b, .int .u64 s.c, .int .u64 s.d]
theorem JH (b:Nat)(T:TypeId)(n:Nat)(hn:n<100)(s:S4)(w:World)(hb:rU w b s.cells T) :
  zO Tryz.prog 259 #[.pointer (some ⟨b,0,none⟩), .int .i64 n] w fun _ w'=> ∃t,t=s.rounds n∧Only b w w'∧rU w' b t.cells T:=by
 refine ou func259 rfl mixed aag ?_
 refine su (X:=Nat) acf (fun i=> [(0, .pointer (some ⟨b,0,none⟩)),(4, .int .i64 n),(5, .int .i64 i)]) (fun i w'=>i<=n∧Only b w w'∧rU w' b (s.rounds i).cells T) (fun i=>n-i) 0 aag ⟨rfl,rfl,rfl,trivial⟩ ⟨aH _,Only.refl _ _,hb⟩ ?_
 rintro i w' j ⟨hi,ho,hb'⟩
 refine lH (fun hlt=> ?_) (fun hge=> ?_)
 ·have hlt:i<n:=by simpa using hlt
  (refine rQ ug aag ?_;conv=>whnf)
  repeat (first|(refine lW.mk aaR ?_;conv=>whnf)|(refine nO.mk rfl ?_;conv=>whnf)|(refine ng.keep rfl ?_;conv=>whnf)|(refine nH rfl aaH rfl ?_;conv=>whnf)|(refine o8 rfl rfl rfl ?_;conv=>whnf)|(refine nR aaH rfl rfl rfl ?_;intro _ _ _;conv=>whnf))
  (refine rQ ug aag ?_;conv=>whnf)
  repeat (first|(refine lW.mk aaR ?_;conv=>whnf)|(refine nO.mk rfl ?_;conv=>whnf)|(refine ng.keep rfl ?_;conv=>whnf)|(refine nH rfl aaH rfl ?_;conv=>whnf)|(refine o8 rfl rfl rfl ?_;conv=>whnf)|(refine nR aaH rfl rfl rfl ?_;intro _ _ _;conv=>whnf))
  refine qW aag (Ea _ _ 13 aag aaw aaw _) ?_
  rintro _ _ ⟨rfl,rfl⟩
  conv=>whnf
  repeat (first|(refine lW.mk aaR ?_;conv=>whnf)|(refine nO.mk rfl ?_;conv=>whnf)|(refine ng.keep rfl ?_;conv=>whnf)|(refine nH rfl aaH rfl ?_;conv=>whnf)|(refine o8 rfl rfl rfl ?_;conv=>whnf)|(refine nR aaH rfl rfl rfl ?_;intro _ _ _;conv=>whnf))
  (refine rQ ug aag ?_;conv=>whnf)
  repeat (first|(refine lW.mk aaR ?_;conv=>whnf)|(refine nO.mk rfl ?_;conv=>whnf)|(refine ng.keep rfl ?_;conv=>whnf)|(refine nH rfl aaH rfl ?_;conv=>whnf)|(refine o8 rfl rfl rfl ?_;conv=>whnf)|(refine nR aaH rfl rfl rfl ?_;intro _ _ _;conv=>whnf))
  refine qW aag (Ea _ _ 32 aag aaw aaw _) ?_
  rintro _ _ ⟨rfl,rfl⟩
  conv=>whnf
  repeat (first|(refine lW.mk aaR ?_;conv=>whnf)|(refine nO.mk rfl ?_;conv=>whnf)|(refine ng.keep rfl ?_;conv=>whnf)|(refine nH rfl aaH rfl ?_;conv=>whnf)|(refine o8 rfl rfl rfl ?_;conv=>whnf)|(refine nR aaH rfl rfl rfl ?_;intro _ _ _;conv=>whnf))
  (refine rQ ug aag ?_;conv=>whnf)
  repeat (first|(refine lW.mk aaR ?_;conv=>whnf)|(refine nO.mk rfl ?_;conv=>whnf)|(refine ng.keep rfl ?_;conv=>whnf)|(refine nH rfl aaH rfl ?_;conv=>whnf)|(refine o8 rfl rfl rfl ?_;conv=>whnf)|(refine nR aaH rfl rfl rfl ?_;intro _ _ _;conv=>whnf))
  (refine rQ ug aag ?_;conv=>whnf)
  repeat (first|(refine lW.mk aaR ?_;conv=>whnf)|(refine nO.mk rfl ?_;conv=>whnf)|(refine ng.keep rfl ?_;conv=>whnf)|(refine nH rfl aaH rfl ?_;conv=>whnf)|(refine o8 rfl rfl rfl ?_;conv=>whnf)|(refine nR aaH rfl rfl rfl ?_;intro _ _ _;conv=>whnf))
  refine qW aag (Ea _ _ 16 aag aaw aaw _) ?_
  rintro _ _ ⟨rfl,rfl⟩
  conv=>whnf
  repeat (first|(refine lW.mk aaR ?_;conv=>whnf)|(refine nO.mk rfl ?_;conv=>whnf)|(refine ng.keep rfl ?_;conv=>whnf)|(refine nH rfl aaH rfl ?_;conv=>whnf)|(refine o8 rfl rfl rfl ?_;conv=>whnf)|(refine nR aaH rfl rfl rfl ?_;intro _ _ _;conv=>whnf))
  (refine rQ ug aag ?_;conv=>whnf)
  repeat (first|(refine lW.mk aaR ?_;conv=>whnf)|(refine nO.mk rfl ?_;conv=>whnf)|(refine ng.keep rfl ?_;conv=>whnf)|(refine nH rfl aaH rfl ?_;conv=>whnf)|(refine o8 rfl rfl rfl ?_;conv=>whnf)|(refine nR aaH rfl rfl rfl ?_;intro _ _ _;conv=>whnf))
  (refine rQ ug aag ?_;conv=>whnf)
  repeat (first|(refine lW.mk aaR ?_;conv=>whnf)|(refine nO.mk rfl ?_;conv=>whnf)|(refine ng.keep rfl ?_;conv=>whnf)|(refine nH rfl aaH rfl ?_;conv=>whnf)|(refine o8 rfl rfl rfl ?_;conv=>whnf)|(refine nR aaH rfl rfl rfl ?_;intro _ _ _;conv=>whnf))
  refine qW aag (Ea _ _ 21 aag aaw aaw _) ?_
  rintro _ _ ⟨rfl,rfl⟩
  conv=>whnf
  repeat (first|(refine lW.mk aaR ?_;conv=>whnf)|(refine nO.mk rfl ?_;conv=>whnf)|(refine ng.keep rfl ?_;conv=>whnf)|(refine nH rfl aaH rfl ?_;conv=>whnf)|(refine o8 rfl rfl rfl ?_;conv=>whnf)|(refine nR aaH rfl rfl rfl ?_;intro _ _ _;conv=>whnf))
  (refine rQ ug aag ?_;conv=>whnf)
  repeat (first|(refine lW.mk aaR ?_;conv=>whnf)|(refine nO.mk rfl ?_;conv=>whnf)|(refine ng.keep rfl ?_;conv=>whnf)|(refine nH rfl aaH rfl ?_;conv=>whnf)|(refine o8 rfl rfl rfl ?_;conv=>whnf)|(refine nR aaH rfl rfl rfl ?_;intro _ _ _;conv=>whnf))
  (refine rQ ug aag ?_;conv=>whnf)
  repeat (first|(refine lW.mk aaR ?_;conv=>whnf)|(refine nO.mk rfl ?_;conv=>whnf)|(refine ng.keep rfl ?_;conv=>whnf)|(refine nH rfl aaH rfl ?_;conv=>whnf)|(refine o8 rfl rfl rfl ?_;conv=>whnf)|(refine nR aaH rfl rfl rfl ?_;intro _ _ _;conv=>whnf))
  refine qW aag (Ea _ _ 17 aag aaw aaw _) ?_
  rintro _ _ ⟨rfl,rfl⟩
  conv=>whnf
  repeat (first|(refine lW.mk aaR ?_;conv=>whnf)|(refine nO.mk rfl ?_;conv=>whnf)|(refine ng.keep rfl ?_;conv=>whnf)|(refine nH rfl aaH rfl ?_;conv=>whnf)|(refine o8 rfl rfl rfl ?_;conv=>whnf)|(refine nR aaH rfl rfl rfl ?_;intro _ _ _;conv=>whnf))
  (refine rQ ug aag ?_;conv=>whnf)
  repeat (first|(refine lW.mk aaR ?_;conv=>whnf)|(refine nO.mk rfl ?_;conv=>whnf)|(refine ng.keep rfl ?_;conv=>whnf)|(refine nH rfl aaH rfl ?_;conv=>whnf)|(refine o8 rfl rfl rfl ?_;conv=>whnf)|(refine nR aaH rfl rfl rfl ?_;intro _ _ _;conv=>whnf))
  refine qW aag (Ea _ _ 32 aag aaw aaw _) ?_
  rintro _ _ ⟨rfl,rfl⟩
  conv=>whnf
  repeat (first|(refine lW.mk aaR ?_;conv=>whnf)|(refine nO.mk rfl ?_;conv=>whnf)|(refine ng.keep rfl ?_;conv=>whnf)|(refine nH rfl aaH rfl ?_;conv=>whnf)|(refine o8 rfl rfl rfl ?_;conv=>whnf)|(refine nR aaH rfl rfl rfl ?_;intro _ _ _;conv=>whnf))
  refine qV.mk ⟨_, ?_,i+1,rfl, ?_, ?_⟩
  ·show n -(i+1)<n-i;omega
  ·exact⟨rfl,rfl,rE (incr aai),trivial⟩
  ·refine⟨hlt, ?_, ?_⟩
   ·(repeat (first|assumption|exact Only.refl _ _|refine Only.step aaH ?_|refine Only.ah6 aaH ?_))
   ·assumption
 ·have hge : ¬i<n:=by simpa using hge
  conv=>whnf
  have:i=n:=aai
  subst this
  exact qM.mk ⟨_,rfl,ho,hb'⟩
def S4.word (s:S4)(m:Int):S4:=
 let t:=S4.rounds ⟨s.a,s.b,s.c,xor s.d m⟩ 2
 ⟨xor t.a m,t.b,t.c,t.d⟩
theorem FK (b:Nat)(T:TypeId)(m:Int)(s:S4)(w:World)(hb:rU w b s.cells T) :
  zO Tryz.prog 258 #[.pointer (some ⟨b,0,none⟩), .int .u64 m] w fun _ w'=> ∃t,t=s.word m∧Only b w w'∧rU w' b t.cells T:=by
 refine ou func258 rfl mixed aag ?_
 (refine rQ Ua aag ?_;conv=>whnf)
 repeat (first|(refine lW.mk aaR ?_;conv=>whnf)|(refine nO.mk rfl ?_;conv=>whnf)|(refine ng.keep rfl ?_;conv=>whnf)|(refine nH rfl aaH rfl ?_;conv=>whnf)|(refine o8 rfl rfl rfl ?_;conv=>whnf)|(refine nR aaH rfl rfl rfl ?_;intro _ _ _;conv=>whnf))
 rename_i w1 o1 hb1
 refine qW aag (JH b T 2 aaw ⟨s.a,s.b,s.c,xor s.d m⟩ _ hb1) ?_
 rintro _ w2 ⟨t,ht,o2,hb2⟩
 (refine rQ Ua aag ?_;conv=>whnf)
 repeat (first|(refine lW.mk aaR ?_;conv=>whnf)|(refine nO.mk rfl ?_;conv=>whnf)|(refine ng.keep rfl ?_;conv=>whnf)|(refine nH rfl aaH rfl ?_;conv=>whnf)|(refine o8 rfl rfl rfl ?_;conv=>whnf)|(refine nR aaH rfl rfl rfl ?_;intro _ _ _;conv=>whnf))
 rename_i w3 o3 hb3
 have he:s.word m=⟨xor t.a m,t.b,t.c,t.d⟩:=by rw [ht];rfl
 refine qM.mk ⟨⟨xor t.a m,t.b,t.c,t.d⟩,he.symm, ?_,hb3⟩
 exact Only.step o3 ((o1.QK).trans o2)
def orI (x y:Int):Int:=nV .or .u64 x y
def acj (b:UInt8)(k:Nat):Int:=IntKind.u64.wrap ((b.toNat:Int)*2^(8*k))
def RD (l:List UInt8):Nat->Int
 | 0=>0
 | n+1=>orI (RD l n) (acj (l.getD n 0) n)
def S4.init (k0 k1:Int):S4:=⟨xor k0 8317987319222330741,xor k1 7237128888997146477,xor k0 7816392313619706465,xor k1 8387220255154660723⟩
def S4.upto (k0 k1:Int)(l:List UInt8):Nat->S4
 | 0=> .init k0 k1
 | i+1=>(S4.upto k0 k1 l i).word (RD (l.drop (8*i)) 8)
def lastTo (l:List UInt8):Nat->Int
 | 0=>IntKind.u64.wrap (IntKind.u64.wrap l.length*2^56)
 | n+1=>orI (lastTo l n) (acj (l.getD (l.length-l.length%8+n) 0) n)
def S4.done (s:S4):Int:=
 let t:=S4.rounds ⟨s.a,s.b,xor s.c 255,s.d⟩ 4
 xor (xor (xor t.a t.b) t.c) t.d
def Hw (k0 k1:Int)(l:List UInt8):Int:=((S4.upto k0 k1 l (l.length/8)).word (lastTo l (l.length%8))).done
theorem Ub (x:UInt8)(k:Nat)(hk:k<8)(n:Int)(hn:n=(8*k:Nat)) :
  IntKind.u64.wrap (IntKind.u64.wrap (x.toNat:Int)*2^min n.toNat IntKind.u64.bits)=acj x k:=by
 subst hn
 have h1:IntKind.u64.wrap (x.toNat:Int)=x.toNat:=IntWalk.u64_in _ (by have:=x.toNat_lt;omega)
 have h2:min ((8*k:Nat):Int).toNat IntKind.u64.bits=8*k:=ajG
 rw [h1,h2]
 rfl
theorem getD_drop (l:List UInt8)(i k:Nat)(h:i+k<l.length):(l.drop i).getD k 0=l[i+k]:=by
 simp [aT,dO,h]
theorem X9 (k0 k1:Int)(oa:Option Addr)(c:Nat)(l:List UInt8)(w:World)(hl:l.length<4611686018427387904)(hr:Row w oa (pI l)) :
  zO Tryz.prog 194 #[.int .u64 k0, .int .u64 k1, .slice oa l.length c] w fun v w'=>v = .int .u64 (Hw k0 k1 l)∧Below w.heap.size w w':=by
 refine ou func194 rfl mixed aag ?_
 refine Jt (rU.new _ _ _) rfl rfl rfl ?_
 intro w1 o1 hb1
 have hB1:Below w.heap.size w w1:=((Below.refl _ _).alloc (au _) _).trans (o1.below (au _))
 conv=>whnf
 repeat (first|(refine lW.mk aaR ?_;conv=>whnf)|(refine nO.mk rfl ?_;conv=>whnf)|(refine ng.keep rfl ?_;conv=>whnf)|(refine nH rfl aaH rfl ?_;conv=>whnf)|(refine o8 rfl rfl rfl ?_;conv=>whnf)|(refine nR aaH rfl rfl rfl ?_;intro _ _ _;conv=>whnf))
 refine su (X:=Nat) abW (fun i=> [(9, .int .i64 (8*i:Nat))]) (fun i w'=>8*i<=l.length∧Below w.heap.size w w'∧∃t,t=S4.upto k0 k1 l i∧rU w' w.heap.size t.cells 332) (fun i=>l.length-8*i) 0 aag
  ?_ ⟨aH _,hB1,_,rfl,hb1⟩ ?_
 ·exact⟨rfl,trivial⟩
 rintro i w2 j ⟨hi,hB2,t,ht,hb2⟩
 conv=>whnf
 have e8:IntKind.i64.wrap ((8*i:Nat)+8)=((8*i+8:Nat):Int):=acp
 refine lH (fun hlt=> ?_) (fun hge=> ?_)
 ·have hlt:8*i+8<=l.length:=by rw [e8]at hlt;have:=of_decide_eq_true hlt;omega
  obtain⟨b,o,rfl,hbl,hc⟩:=hr.get aev
  refine su (X:=Nat) abX (fun k=> [(10, .int .u64 (RD (l.drop (8*i)) k)),(33, .int .i64 k)]) (fun k w'=>k<=8∧w'=w2) (fun k=>8-k) 0 aag ?_ ⟨by omega,rfl⟩ ?_
  ·exact⟨rfl,rfl,trivial⟩
  rintro k _ j2 ⟨hk,rfl⟩
  refine lH (fun hlt2=> ?_) (fun OA=> ?_)
  ·have hlt2:k<8:=by have:=of_decide_eq_true hlt2;omega
   refine KJ (8*i+k) rfl rfl acp aai ?_
   refine oZ rfl (by rw [hB2.cell (p:=⟨b,o+(8*i+k),none⟩) hbl];exact hc _ _ (xw aai)) ?_
   refine lW.mk acp ?_
   refine qV.mk ⟨_, ?_,k+1,rfl, ?_, ?_⟩
   ·show 8 -(k+1)<8-k;omega
   ·refine⟨rE ?_,rE (incr aai),trivial⟩
    rw [Ub _ k hlt2 _ acp, <-getD_drop l (8*i) k aai]
    rfl
   ·exact⟨hlt2,rfl⟩
  ·have OA : ¬k<8:=by have:=of_decide_eq_false OA;omega
   obtain rfl:k=8:=aai
   refine qW aag (FK _ _ _ _ _ hb2) ?_
   rintro _ w3 ⟨t3,ht3,o3,hb3⟩
   refine qV.mk ⟨_, ?_,i+1,rfl, ?_, ?_⟩
   ·show l.length-8*(i+1)<l.length-8*i;omega
   ·exact⟨rE (by rw [e8,Nat.mul_add]),trivial⟩
   ·refine⟨by omega,hB2.trans (o3.below (au _)),t3, ?_,hb3⟩
    rw [ht3,ht];rfl
 ·have hge : ¬8*i+8<=l.length:=by rw [e8]at hge;have:=of_decide_eq_false hge;omega
  have hi8:i=l.length/8:=aai
  obtain⟨r,hr8⟩ : ∃r,r=l.length%8:=⟨_,rfl⟩
  conv=>whnf
  repeat (first|(refine lW.mk aaR ?_;conv=>whnf)|(refine nO.mk rfl ?_;conv=>whnf)|(refine ng.keep rfl ?_;conv=>whnf)|(refine nH rfl aaH rfl ?_;conv=>whnf)|(refine o8 rfl rfl rfl ?_;conv=>whnf)|(refine nR aaH rfl rfl rfl ?_;intro _ _ _;conv=>whnf))
  refine su (X:=Nat) abY (fun k=> [(8, .int .u64 (lastTo l k)),(53, .int .i64 r),(54, .int .i64 k)]) (fun k w'=>k<=r∧w'=w2) (fun k=>r-k) 0 aag ?_ ⟨by omega,rfl⟩ ?_
  ·exact⟨rfl,rE (by rw [hr8];rfl),rfl,trivial⟩
  rintro k _ j2 ⟨hk,rfl⟩
  refine lH (fun hlt2=> ?_) (fun OA=> ?_)
  ·have hlt2:k<r:=by have:=of_decide_eq_true hlt2;omega
   obtain⟨b,o,rfl,hbl,hc⟩:=hr.get aev
   conv=>whnf
   repeat (first|(refine lW.mk aaR ?_;conv=>whnf)|(refine nO.mk rfl ?_;conv=>whnf)|(refine ng.keep rfl ?_;conv=>whnf)|(refine nH rfl aaH rfl ?_;conv=>whnf)|(refine o8 rfl rfl rfl ?_;conv=>whnf)|(refine nR aaH rfl rfl rfl ?_;intro _ _ _;conv=>whnf))
   refine KJ (l.length-r+k) rfl rfl ?_ aai ?_
   ·have e1:Int.tmod (l.length:Int) 8=r:=by rw [hr8];rfl
    rw [e1,IntWalk.i64_in ((l.length:Int)-r) aai,IntWalk.i64_in _ aai]
    omega
   refine oZ rfl (by rw [hB2.cell (p:=⟨b,o+(l.length-r+k),none⟩) hbl];exact hc _ _ (xw aai)) ?_
   refine lW.mk acp ?_
   refine qV.mk ⟨_, ?_,k+1,rfl, ?_, ?_⟩
   ·show r -(k+1)<r-k;omega
   ·refine⟨rE ?_,rfl,rE (incr aai),trivial⟩
    rw [Ub _ k aai _ acp]
    have:=getD_drop l 0 (l.length-r+k) aai
    simp only [ji,aO]at this
    rw [<-this,hr8]
    rfl
   ·exact⟨hlt2,rfl⟩
  ·have OA : ¬k<r:=by have:=of_decide_eq_false OA;omega
   obtain rfl:k=r:=aai
   refine qW aag (FK _ _ _ _ _ hb2) ?_
   rintro _ w3 ⟨t3,ht3,o3,hb3⟩
   conv=>whnf
   repeat (first|(refine lW.mk aaR ?_;conv=>whnf)|(refine nO.mk rfl ?_;conv=>whnf)|(refine ng.keep rfl ?_;conv=>whnf)|(refine nH rfl aaH rfl ?_;conv=>whnf)|(refine o8 rfl rfl rfl ?_;conv=>whnf)|(refine nR aaH rfl rfl rfl ?_;intro _ _ _;conv=>whnf))
   rename_i w4 o4 hb4
   refine qW aag (JH _ _ 4 aaw ⟨t3.a,t3.b,xor t3.c 255,t3.d⟩ _ hb4) ?_
   rintro _ w5 ⟨t5,ht5,o5,hb5⟩
   conv=>whnf
   repeat (first|(refine lW.mk aaR ?_;conv=>whnf)|(refine nO.mk rfl ?_;conv=>whnf)|(refine ng.keep rfl ?_;conv=>whnf)|(refine nH rfl aaH rfl ?_;conv=>whnf)|(refine o8 rfl rfl rfl ?_;conv=>whnf)|(refine nR aaH rfl rfl rfl ?_;intro _ _ _;conv=>whnf))
   refine qM.mk ⟨?_, ?_⟩
   ·have:Hw k0 k1 l=xor (xor (xor t5.a t5.b) t5.c) t5.d:=by
     unfold Hw S4.done
     rw [<-hi8, <-ht, <-hr8, <-ht3, <-ht5]
    rw [this]
    rfl
   ·exact hB2.trans (((o3.trans o4).trans o5).below (au _))
def yG (n:Nat)(k:Nat):UInt8:=UInt8.ofNat (n/2^(8*k)%256)
def wM (n:Nat):Nat->List UInt8
 | 0=> []
 | k+1=>wM n k++ [yG n (7-k)]
def frame (ls:List (List UInt8)):List UInt8:=
 match ls with
 | []=> []
 | l::r=>(wM l.length 8++l)++frame r
def qA (ls:List (List UInt8))(i:Nat):List UInt8:=frame (ls.take i)
theorem CJ (a b:List (List UInt8)):frame (a++b)=frame a++frame b:=by
 induction a with
 | nil=>rfl
 | cons l r ih=>simp only [gu,frame,ih,bW]
theorem CO (ls:List (List UInt8))(i:Nat)(h:i<ls.length):qA ls (i+1)=qA ls i++(wM ls[i].length 8++ls[i]):=by
 unfold qA
 rw [aG h,CJ]
 simp [frame]
theorem xM (n k:Nat):(wM n k).length=k:=by
 induction k with
 | zero=>rfl
 | succ k ih=>simp [wM,ih]
theorem Je (ls:List (List UInt8))(i:Nat):(qA ls i).length<=(frame ls).length:=by
 have:=CJ (ls.take i) (ls.drop i)
 rw [cZ]at this
 unfold qA
 rw [this,ay]
 omega
def Fld (w:World)(vs:List Value)(ls:List (List UInt8)):Prop:=
 vs.length=ls.length∧∀i (h:i<ls.length), ∃oa c,vs[i]? = some (.slice oa ls[i].length c)∧ls[i].length<=c∧(oa=none->c=0)∧Row w oa (pI ls[i])
theorem Fld.below {w w':World}{vs:List Value}{ls:List (List UInt8)}(h:Fld w vs ls)(hb:Below w.heap.size w w'):Fld w' vs ls:=
 ⟨h.1,fun i hi=>let ⟨oa,c,h1,h2,h3,h4⟩:=h.2 i hi;⟨oa,c,h1,h2,h3,h4.below hb⟩⟩
theorem Uc (n k:Nat)(hk:k<8)(hn:n<18446744073709551616)(x:Int)(hx:x=(8*k:Nat)) :
  IntKind.u8.wrap ((IntKind.u64.wrap (n:Int)).fdiv (2^min x.toNat IntKind.u64.bits))=((yG n k).toNat:Int):=by
 subst hx
 have h1:IntKind.u64.wrap (n:Int)=n:=IntWalk.u64_in _ aai
 have h2:min ((8*k:Nat):Int).toNat IntKind.u64.bits=8*k:=ajG
 rw [h1,h2,IntKind.wrap_u8]
 unfold yG
 have e1:((n:Int).fdiv (2^(8*k)))=((n/2^(8*k):Nat):Int):=by
  rw [iy]
  ·simp
  ·exact Int.le_of_lt (Int.pow_pos aaw)
 rw [e1]
 simp
theorem RF (b:UInt8):pI [b] = [.int .u8 b.toNat]:=rfl
theorem OB (oa:Option Addr)(c:Nat)(vs:List Value)(ls:List (List UInt8))(w:World)(hlen:ls.length<=1099511627776)(hl:(frame ls).length<=140737488355328)(hr:Row w oa vs)(hf:Fld w vs ls) :
  zO Tryz.prog 195 #[.slice oa ls.length c] w fun v w'=> ∃pJ c',v = .slice pJ (frame ls).length c'∧Own w' w.heap.size 5 1 pJ (frame ls).length c' (pI (frame ls))∧Below w.heap.size w w':=by
 refine ou func195 rfl mixed aag ?_
 refine su (X:=Nat×Option Addr×Nat) abZ (fun x=> [(3, .slice x.2.1 (qA ls x.1).length x.2.2),(9, .int .i64 x.1)]) (fun x w'=>x.1<=ls.length∧Below w.heap.size w w'∧Own w' w.heap.size 5 1 x.2.1 (qA ls x.1).length x.2.2 (pI (qA ls x.1))) (fun x=>ls.length-x.1) (0,none,0) aag
  ?_ ⟨aH _,Below.refl _ _,Own.nil _ _ _ _⟩ ?_
 ·exact⟨rfl,rfl,trivial⟩
 rintro⟨i,oo,cc⟩ w1 j ⟨hi,hB,ho⟩
 refine lH (fun hlt=> ?_) (fun hge=> ?_)
 ·have hlt:i<ls.length:=adU
  obtain⟨b,o,rfl,hbl,hc⟩:=hr.get (by rw [hf.1];omega)
  obtain⟨oa1,c1,hv,hc1,hn1,hr1⟩:=hf.2 i hlt
  have hr1':=hr1.below hB
  have hL1:=Je ls (i+1)
  rw [CO ls i hlt]at hL1
  simp only [ay,xM]at hL1
  refine KJ i rfl rfl rfl hlt ?_
  refine oZ rfl (by rw [hB.cell (p:=⟨b,o+i,none⟩) hbl];exact hc _ _ hv) ?_
  refine su (X:=Nat×Option Addr×Nat) ab1 (fun x=> [(3, .slice x.2.1 ((qA ls i).length+x.1) x.2.2),(6, .int .i64 (7 -(x.1:Int)))]) (fun x w'=>x.1<=8∧Below w.heap.size w w'∧Own w' w.heap.size 5 1 x.2.1 ((qA ls i).length+x.1) x.2.2 (pI (qA ls i++wM ls[i].length x.1))) (fun x=>8-x.1) (0,oo,cc) aag
   ?_ ⟨aH _,hB,by simpa [wM]using ho⟩ ?_
  ·exact⟨rfl,rfl,trivial⟩
  rintro⟨k,o2,c2⟩ w2 j2 ⟨hk,hB2,ho2⟩
  simp only at hk ho2
  refine lH (fun hlt2=> ?_) (fun OA=> ?_)
  ·have hlt2:k<8:=by have:=of_decide_eq_true hlt2;simp only at this;omega
   refine lW.mk agB ?_
   refine nX (B:=w.heap.size) (sz:=1) (qp:=1) (m:=1) (n:=(qA ls i).length+k) rfl rfl rfl rfl rfl rfl (ho2.alloc _) (Row.alloc1 _ _ _) rfl (fun u hu=>by simp at hu;subst hu;rfl) (fun e=>by cases e) aai (bG hB2.size abb) aa5 ?_
   intro o3 c3 w3 ho3 hB3 _
   refine qV.mk ⟨_, ?_,(k+1,o3,c3),rfl, ?_, ?_⟩
   ·show 8 -(k+1)<8-k;omega
   ·exact⟨rfl,rE agB,trivial⟩
   ·refine⟨hlt2,(pW hB2 (au _) _).trans hB3, ?_⟩
    simp only [wM]
    rw [<-bW,yx,RF]
    rw [Uc _ (7-k) aai aai _ agB]at ho3
    exact ho3
  ·have OA : ¬k<8:=by have:=of_decide_eq_false OA;simp only at this;omega
   obtain rfl:k=8:=aai
   conv=>whnf
   have hr2:=hr1.below hB2
   refine nX (B:=w.heap.size) (sz:=1) (qp:=1) (m:=ls[i].length) (n:=(qA ls i).length+8) rfl rfl rfl rfl rfl rfl ho2 hr2 abb (DN _) hn1 aai hB2.size aa5 ?_
   intro o3 c3 w3 ho3 hB3 _
   conv=>whnf
   have hfs:=CO ls i hlt
   have hfl:(qA ls i).length+8+ls[i].length=(qA ls (i+1)).length:=by rw [hfs];simp [xM];omega
   refine qV.mk ⟨_, ?_,(i+1,o3,c3),rfl, ?_, ?_⟩
   ·show ls.length -(i+1)<ls.length-i;omega
   ·exact⟨aaZ hfl,rE (incr aai),trivial⟩
   ·refine⟨hlt,hB2.trans hB3, ?_⟩
    rw [hfl, <-yx,bW, <-hfs]at ho3
    exact ho3
 ·have hge : ¬i<ls.length:=adB
  obtain rfl:i=ls.length:=by simp only at hi;omega
  conv=>whnf
  have hfa:qA ls ls.length=frame ls:=by unfold qA;rw [aZ]
  simp only [hfa]at ho
  exact qM.mk ⟨oo,cc,by simp only [hfa];rfl,ho,hB⟩
theorem acn (d:Int)(oa:Option Addr)(c:Nat)(vs:List Value)(ls:List (List UInt8))(w:World)(hlen:ls.length<=1099511627776)(hl:(frame ls).length<=140737488355328)(hr:Row w oa vs)(hf:Fld w vs ls) :
  zO Tryz.prog 289 #[.int .u64 d, .slice oa ls.length c] w fun v w'=>v = .int .u64 (Hw d 0 (frame ls))∧Below w.heap.size w w':=by
 refine ou func289 rfl mixed aag ?_
 refine qW aag (OB oa c vs ls w hlen hl hr hf) ?_
 rintro _ w1 ⟨o1,c1,rfl,ho1,hB1⟩
 refine qW aag (X9 d 0 o1 c1 (frame ls) w1 aai ho1.row) ?_
 rintro _ w2 ⟨rfl,hB2⟩
 exact qM.mk ⟨rfl,hB1.trans (hB2.mono hB1.size)⟩
theorem af6 (k d:Int)(oa:Option Addr)(c:Nat)(vs:List Value)(ls:List (List UInt8))(w:World)(hlen:ls.length<=1099511627776)(hl:(frame ls).length<=140737488355328)(hr:Row w oa vs)(hf:Fld w vs ls) :
  zO Tryz.prog 126 #[.int .u64 k, .int .u64 d, .slice oa ls.length c] w fun v w'=>v = .int .u64 (Hw k (IntKind.u64.wrap (d+1)) (frame ls))∧Below w.heap.size w w':=by
 refine ou func126 rfl mixed aag ?_
 refine qW aag (OB oa c vs ls w hlen hl hr hf) ?_
 rintro _ w1 ⟨o1,c1,rfl,ho1,hB1⟩
 refine qW aag (X9 k (IntKind.u64.wrap (d+1)) o1 c1 (frame ls) w1 aai ho1.row) ?_
 rintro _ w2 ⟨rfl,hB2⟩
 exact qM.mk ⟨rfl,hB1.trans (hB2.mono hB1.size)⟩
end Go.Proofs.YtnandbihiceihaaGreatDoor.Dg
namespace Go.Proofs.YtnandbihiceihaaGreatDoor.Vc
open RowKit Vc Dg Go.Proofs.Tryz
attribute [local irreducible] loadVar storeVar Instr.indexAt Instr.index Instr.sliceAt Instr.makeSlice Instr.lookup Instr.mapUpdate Instr.range Instr.next Instr.entry Instr.makeMap Builtin.append_ Builtin.copy_ Builtin.len_ Builtin.min_ Builtin.max_ Builtin.cap_ Builtin.delete_ Builtin.clear_ convert binOp eqGuard Op.unary Calls
theorem OC {P:Program}{w:World}{K:Value->World->Prop}{t E:TypeId}{sz n b:Nat}(ht:P.underlying t=some (.array n E))(hs:szB P E=some sz)(k:K (.slice (some ⟨b,0,none⟩) n n) w) :
  nM P (Instr.sliceAt t (.pointer (some ⟨b,0,none⟩)) none none none) w K:=by
 refine oQ ?_ k
 unfold Instr.sliceAt
 rw [Sem.run_bind,l7 ht]
 simp only [Result.andThen_ok,Instr.sureAddr,Sem.run_bind,Sem.run_pure,Instr.sliceBounds,qx hs]
 by_cases h0:n=0<;>simp [h0,add0]
theorem af7 (oa zQ:Option Addr)(n c m c2:Nat)(b d:List UInt8)(w:World)(hn:n=b.length)(hm:m=d.length)(hl:b.length+d.length<=2000000)(hc:n<=c)(hnil:oa=none->c=0)(hnil2:zQ=none->c2=0)(hr:Row w oa (pI b))(hr2:Row w zQ (pI d)) :
  zO Tryz.prog 192 #[.slice oa n c, .slice zQ m c2] w fun v w'=> ∃pJ c',v = .slice pJ (n+m) c'∧Own w' w.heap.size 5 1 pJ (n+m) c' (pI (b++d))∧Below w.heap.size w w':=by
 refine ou func192 rfl mixed aag ?_
 have e0:IntKind.i64.wrap ((n:Int)+(m:Int))=((n+m:Nat):Int):=acp
 have lb : ∀l:List UInt8,(pI l).length=l.length:=fun l=>by simp [pI]
 conv=>whnf
 rw [e0]
 refine Ax.Ob (n:=0) (m:=n+m) (sz:=1) (qp:=1) rfl rfl rfl rfl rfl rfl (aH _) aai aa5 ?_
 intro w1 hw1 hb1
 have hB1:Below w.heap.size w w1:=by rw [hw1];exact pW (Below.refl _ _) (au _) _
 have hO1:Own w1 w.heap.size 5 1 (some ⟨w.heap.size,0,none⟩) 0 (n+m) []:=Own.xE hb1 (au _) (aH _) aa5 (by simp [Value.cells]) abb
 refine nX (B:=w.heap.size) (sz:=1) (qp:=1) (m:=n) (n:=0) rfl rfl rfl rfl rfl rfl hO1 (hr.below hB1) (by rw [lb];omega) (DN _) hnil aai hB1.size aa5 ?_
 intro o2 c2' w2 hO2 hB2 _
 refine nX (B:=w.heap.size) (sz:=1) (qp:=1) (m:=m) (n:=0+n) rfl rfl rfl rfl rfl rfl hO2 (hr2.below (hB1.trans hB2)) (by rw [lb];omega) (DN _) hnil2 aai (bG hB1.size hB2.size) aa5 ?_
 intro o3 c3' w3 hO3 hB3 _
 have hB:=(hB1.trans hB2).trans hB3
 rw [aO,dI, <-yx]at hO3
 clear hO1 hO2 hB1 hB2 hB3
 rw [aO]
 exact qM.mk ⟨o3,c3',rfl,hO3,hB⟩
def VJ (x i:Nat):List Value:=(List.range 8).map fun j=>if j<i then .int .u8 ((yG x (7-j)).toNat:Int)else .int .u8 0
theorem Ya (x i:Nat):(VJ x i).set i (.int .u8 ((yG x (7-i)).toNat:Int))=VJ x (i+1):=by
 unfold VJ
 apply List.ext_getElem
 ·simp
 ·intro k h1 h2
  simp only [List.getElem_set,List.getElem_map,jE]
  by_cases hk:i=k
  ·subst hk;simp
  ·rw [if_neg hk]
   by_cases hki:k<i
   ·rw [if_pos hki,if_pos aai]
   ·rw [if_neg hki,if_neg aai]
theorem Yb (x:Nat):VJ x 8=pI (wM x 8):=rfl
theorem RG (oa:Option Addr)(n c:Nat)(b:List UInt8)(x:Nat)(w:World)(hn:n=b.length)(hl:b.length<=1000000)(hc:n<=c)(hnil:oa=none->c=0)(hx:x<18446744073709551616)(hr:Row w oa (pI b)) :
  zO Tryz.prog 125 #[.slice oa n c, .int .u64 x] w fun v w'=> ∃pJ c',v = .slice pJ (n+8) c'∧Own w' w.heap.size 5 1 pJ (n+8) c' (pI (b++wM x 8))∧Below w.heap.size w w':=by
 refine ou func125 rfl mixed aag ?_
 refine su (X:=Nat) abv (fun i=> [(7, .int .i64 i)]) (fun i w'=>i<=8∧Below w.heap.size w w'∧rU w' w.heap.size (VJ x i) 266) (fun i=>8-i) 0 aag ?_ ⟨by decide,pW (Below.refl _ _) (au _) _,rU.new w _ _⟩ ?_
 ·exact⟨rfl,trivial⟩
 rintro i w2 j ⟨hi,hB2,hb2⟩
 refine lH (fun hlt=> ?_) (fun hge=> ?_)
 ·have hlt:i<8:=adU
  have e1:IntKind.i64.wrap (8*(i:Int))=((8*i:Nat):Int):=acp
  have e2:IntKind.i64.wrap (56-IntKind.i64.wrap (8*(i:Int)))=((8*(7-i):Nat):Int):=by rw [e1,IntWalk.i64_in _ aai];omega
  refine lW.mk (by rw [e2];omega) ?_
  refine uf i rfl rfl rfl hlt ?_
  refine DL hb2 rfl rfl (by simp [VJ];omega) ?_
  intro w3 o3 hb3
  refine qV.mk ⟨_, ?_,i+1,rfl, ?_, ?_⟩
  ·show 8 -(i+1)<8-i;omega
  ·exact⟨rE (incr aai),trivial⟩
  ·refine⟨hlt,hB2.trans (o3.below (au _)), ?_⟩
   rw [e2]at hb3
   have:=Uc x (7-i) aai hx _ (rfl:((8*(7-i):Nat):Int)=_)
   rw [IntWalk.u64_in _ aai]at this
   rw [aO,this,Ya x i]at hb3
   exact hb3
 ·have hge : ¬i<8:=adB
  obtain rfl:i=8:=aai
  rw [Yb]at hb2
  refine OC (E:=5) (n:=8) rfl rfl ?_
  refine qW aag (af7 oa (some ⟨w.heap.size,0,none⟩) n c 8 8 b (wM x 8) w2 hn (xM _ _).symm (by rw [xM];omega) hc hnil (fun e=>by cases e) (hr.below hB2) hb2.row) ?_
  rintro _ w3 ⟨o3,c3,rfl,hO3,hB3⟩
  have hB:=hB2.trans (hB3.mono hB2.size)
  have hO:Own w3 w.heap.size 5 1 o3 (n+8) c3 (pI (b++wM x 8)):=⟨hO3.1,hO3.2.imp id fun⟨g,cap,cur,h1,h0,h2⟩=>⟨g,cap,cur,h1,bG hB2.size h0,h2⟩⟩
  clear hO3 hB3
  exact qM.mk ⟨o3,c3,rfl,hO,hB⟩
theorem Own.cut {w:World}{B:Nat}{E:TypeId}{sz:Nat}{oa:Option Addr}{n c h:Nat}{xs:List Value}(hO:Own w B E sz oa n c xs)(hh:h<=n):Own w B E sz oa h c (xs.take (h*sz)):=by
 have hl:=hO.1
 have hm:h*sz<=n*sz:=bg _ hh
 refine⟨by rw [aN];omega, ?_⟩
 rcases hO.2 with ⟨hv,hn⟩|⟨g,cap,cur,hv,hg,hb,h1,h2,h3,h4⟩
 ·injection hv with e1 e2 e3
  subst e1;subst e3
  exact .inl ⟨by rw [show h=0 by omega],by omega⟩
 ·injection hv with e1 e2 e3
  subst e1;subst e3
  exact .inr ⟨g,c,cur,rfl,hg,hb,by omega,h2,h3,by rw [<-h4,lg,fC hm]⟩
theorem aco {w:World}{B:Nat}{E:TypeId}{sz:Nat}{oa:Option Addr}{n c:Nat}{xs:List Value}(hO:Own w B E sz oa n c xs):n<=c:=by
 rcases hO.2 with ⟨hv,hn⟩|⟨g,cap,cur,hv,hg,hb,h1,_⟩
 ·omega
 ·injection hv with _ _ e3
  omega
theorem RH {P:Program}{w:World}{K:Value->World->Prop}{t ty E:TypeId}{oa:Option Addr}{n c:Nat}(ht:P.underlying t=some (.slice E))(k:K (.int .i64 c) w):nM P (Builtin.cap_ #[t] ty #[.slice oa n c]) w K:=by
 refine oQ ?_ k
 unfold Builtin.cap_
 simp [Sem.run_bind,l7 ht,goInt]
theorem RI {P:Program}{w:World}{K:Value->World->Prop}{t tn ty E:TypeId}{sz qp n:Nat}{kn k:IntKind}{zs:List Value}(ht:P.underlying t=some (.slice E))(htn:P.underlying tn=some (.int kn))(hs:szB P E=some sz)(hby:qg P E=some qp)(hz:tu P E=some zs)
  (hzl:zs.length=sz) (hsz:Nat.ble 1 sz=true) (h0:0<n) (hbytes:n*qp<=140737488355328) (hn:n<=maxLen)
  (hk : ∀c w' xs,Own w' w.heap.size E sz (some ⟨w.heap.size,0,none⟩) n c xs->Below w.heap.size w w'->K (.slice (some ⟨w.heap.size,0,none⟩) n c) w') :
  nM P (Builtin.append_ #[t,tn] ty #[.slice none 0 0, .int k (n:Int)]) w K:=by
 obtain⟨i,hi,rfl⟩:=pU hs
 have hb':i.bytes=qp:=by simpa [qg,hi]using hby
 subst hb'
 obtain⟨z,hz1,hz2⟩ : ∃z,i.zero=some z∧z.cells.toList=zs:=by
  unfold tu at hz
  simp only [hi,eU]at hz
  cases hzz:i.zero with
  | none=>simp [hzz]at hz
  | some z=>simp only [hzz,bD,aI]at hz;exact⟨z,rfl,hz⟩
 have hsz':1<=i.size:=aF hsz
 have hzc:z.cells.size=i.size:=aek
 have hrun:=Lib.run_append_nil_zeros (P:=P) w t tn ty E i z k kn ht htn hi hz1 n h0 aai ajx aai
 have hge:=grownCap_ge w n 0 E
 have hcm:=grownCap_le_maxLen w n 0 E hn
 have hcs : ∀m,(Builtin.zeroCells z.cells m).size=m*i.size:=fun m=>by simp [Builtin.zeroCells,hzc]
 refine oQ hrun (hk _ _ ((Builtin.zeroCells z.cells n++Builtin.zeroCells z.cells (grownCap w n 0 E-n)).toList.take (n*i.size)) (Own.xE (cur:=(Builtin.zeroCells z.cells n++Builtin.zeroCells z.cells (grownCap w n 0 E-n)).toList) ?_ (au _) hge hcm ?_ rfl) ?_)
 ·have:=rU.new w.drew (Builtin.zeroCells z.cells n++Builtin.zeroCells z.cells (grownCap w n 0 E-n)) E
  simpa using this
 ·rw [Array.length_toList,Array.size_append,hcs,hcs, <-bK]
  congr 1;omega
 ·exact pW (Below.drew (Below.refl _ _)) (au _) _
theorem Yc (n:Nat)(w:World)(hn:0<n)(hl:n<=1000000) :
  zO Tryz.prog 277 #[.slice none 0 0, .int .i64 n] w fun v w'=> ∃oa c,v = .slice oa 0 c∧Own w' w.heap.size 63 10 oa 0 c []∧Below w.heap.size w w':=by
 refine ou func277 rfl mixed aag ?_
 refine RH rfl ?_
 have e0:IntKind.i64.wrap ((n:Int)-IntKind.i64.wrap (((0:Nat):Int) -((0:Nat):Int)))=(n:Int):=by rw [IntWalk.i64_in (((0:Nat):Int) -((0:Nat):Int)) aai,IntWalk.i64_in _ aai];omega
 conv=>whnf
 rw [e0,show decide ((n:Int)>0)=true from decide_eq_true aai]
 refine RH rfl ?_
 refine tK (h:=0) (sz:=10) rfl rfl rfl (au _) (au _) ?_
 refine RI (sz:=10) (qp:=112) rfl rfl rfl rfl rfl rfl rfl hn aai aa5 ?_
 intro c w1 xs hO hB
 have hc:=aco hO
 refine tK (h:=0) (sz:=10) rfl rfl rfl (aH _) hc ?_
 exact qM.mk ⟨_,_,rfl,by have:=hO.cut (aH n);simpa using this,hB⟩
end Go.Proofs.YtnandbihiceihaaGreatDoor.Vc
