/- Joined parts of the proof. The orders in which the reckoner walks the regions that draw theirs: printed by a program of ours, each is checked where -/
import Derived.Test.YtnandbihiceihaaGreatDoorNk2
import Derived.Test.YtnandbihiceihaaGreatDoorProg
import Derived.KernelRfl
import Derived.IntWalk
import Derived.Test.YtnandbihiceihaaGreatDoorNk9
import Derived.Lib.AppendZeros
set_option linter.unusedVariables false
set_option linter.unusedSimpArgs false
set_option maxRecDepth 100000
set_option maxHeartbeats 16000000
namespace Go.Proofs.YtnandbihiceihaaGreatDoor.Vc
open Go.Proofs.Tryz
def tk (l:List Nat)(p:Plan):Plan:=l.foldr .take p
def tr (n:Nat)(p:Plan):Plan:=tk (List.range n) p
def Yq:List (Nat×Nat):= [(11,11),(13,15),(28,49)]
def Yr:List (Nat×Nat):= [(11,11),(13,15),(29,51)]
def aaj (id:Nat):Plan:=
 match id with
 | 20=>(tr 3 (.one 3 (.take 4 (.post 5 .done))))
 | _=> .done
def Yt:List (Nat×Nat):= [(4,5),(82,100)]
def aak (id:Nat):Plan:=
 match id with
 | 6=>(tr 10 (.post 10 (.take 11 .done)))
 | _=> .done
def Yu (id:Nat):Plan:=
 match id with
 | 2=>(.take 1 (.take 2 (.one 0 (tk [3,4,5,6,7,8] .done))))
 | _=> .done
def Yv (id:Nat):Plan:=
 match id with
 | 15=>(tr 4 (.one 4 (.take 5 (.post 6 (.take 7 (.post 8 .done))))))
 | _=> .done
def VW:List (Nat×Nat):= [(5,5),(19,35)]
def U1 (id:Nat):Plan:=
 match id with
 | 7=>(.take 0 (.take 1 (.one 2 (.one 3 (.post 4 (.take 5 (.post 6 .done)))))))
 | 8=>(.take 0 (.take 1 (.one 2 (.one 3 (.post 4 (.take 5 (.post 6 .done)))))))
 | _=> .done
def VX:List (Nat×Nat):= [(4,5),(11,25)]
def Yw (id:Nat):Plan:=
 match id with
 | 6=>(tr 9 .done)
 | _=> .done
def U2 (id:Nat):Plan:=
 match id with
 | 1=>(tk [0,1,3,4] (.one 2 (.post 5 (.take 6 (.post 7 (.take 8 (.post 9 .done)))))))
 | 5=>(tr 9 (.one 9 (.take 10 (.take 11 (.post 12 .done)))))
 | 10=>(tr 4 (.one 4 (.take 5 (.post 6 .done))))
 | 13=>(tk [0,1,2,3,4,5,7,8,9,10] (.one 6 (.one 11 (.take 12 (.take 13 (.one 14 (.take 15 (.take 16 (.post 17 .done)))))))))
 | 17=>(tr 13 (.one 13 (.take 14 (.take 15 (.post 16 .done)))))
 | 19=>(tk [0,1,3,4] (.one 2 (.post 5 (.take 6 (.post 7 (.take 8 (.post 9 .done)))))))
 | 21=>(tk [0,1,2,3,5,6,7,8] (.one 4 (.post 9 (tk [10,11,12] (.post 13 (tk [14,15,16] (.post 17 .done)))))))
 | _=> .done
def U3 (id:Nat):Plan:=
 match id with
 | 4=>(tr 11 (.one 11 (.take 12 (.post 13 (.take 14 .done)))))
 | _=> .done
def Yx (id:Nat):Plan:=
 match id with
 | 1=>(tr 10 (.two 10 (tk [11,12,13,14] (.one 15 (.one 16 (.take 17 (.take 18 .done))))) 15 (.one 10 (tk [11,12,13,14] (.one 16 (.take 17 (.take 18 .done)))))))
 | _=> .done
def Yy (id:Nat):Plan:=
 match id with
 | 5=>(tr 10 (.one 10 (.take 11 .done)))
 | _=> .done
def Yz (id:Nat):Plan:=
 match id with
 | 6=>(tr 15 (.post 15 .done))
 | _=> .done
def YA (id:Nat):Plan:=
 match id with
 | 1=>(tr 10 (.one 10 (tk [11,12,13] (.post 14 .done))))
 | 20=>(tr 6 (.one 6 (.one 7 (.take 8 (.take 9 (.post 10 .done))))))
 | _=> .done
def VY:List (Nat×Nat):= [(2,5),(18,49)]
def VZ:List (Nat×Nat):= [(2,2),(7,7),(52,59)]
def V3:List (Nat×Nat):= [(4,5),(10,17)]
def YB (id:Nat):Plan:=
 match id with
 | 2=>(tk [0,1,2,4,5,6] (.one 3 (.take 8 (.one 7 (.post 9 (.take 10 (.post 11 .done)))))))
 | _=> .done
def V4:List (Nat×Nat):= [(4,4),(6,8),(21,35)]
def YC (id:Nat):Plan:=
 match id with
 | 20=>(tr 8 (.one 8 (.take 9 (.post 10 (.take 11 .done)))))
 | _=> .done
def V5:List (Nat×Nat):= [(2,2),(4,4),(14,25)]
def YD (id:Nat):Plan:=
 match id with
 | 1=>(tr 4 (.one 4 (tk [5,6,7] .done)))
 | _=> .done
def Ri:List (Nat×Nat):= [(3,3),(5,5),(8,17)]
def V6 (id:Nat):Plan:=
 match id with
 | 5=>(tr 9 (.two 9 (tk [10,11,12,13] (.one 14 (.one 15 (.take 16 (.take 17 .done))))) 14 (.one 9 (tk [10,11,12,13] (.one 15 (.take 16 (.take 17 .done)))))))
 | 8=>(tr 8 (.post 8 .done))
 | _=> .done
def Oi (id:Nat):Plan:=
 match id with
 | 6=>(.take 0 (.post 1 (tk [2,3,4,5,6,7,8,9,10,11,12,13,14,15,16,17,18,19,20,21,22,23,24,25,26,27,28,29,30,31,32] .done)))
 | _=> .done
def Oj (id:Nat):Plan:=
 match id with
 | 16=>(tr 21 .done)
 | _=> .done
def Rj:List (Nat×Nat):= [(6,18)]
def V7 (id:Nat):Plan:=
 match id with
 | 22=>(tr 7 .done)
 | 29=>(tr 5 (.post 5 .done))
 | _=> .done
def Ol (id:Nat):Plan:=
 match id with
 | 1=>(tk [0,1,3,4] (.one 2 (.take 6 (.one 5 (.post 7 (.take 8 (.post 9 .done)))))))
 | 5=>(tr 9 (.one 9 (.take 10 (.take 11 (.post 12 .done)))))
 | _=> .done
def Om (id:Nat):Plan:=
 match id with
 | 10=>(.take 0 (.post 1 (tk [2,3,4,5,6,7,8,9,10,11,12,13,14,15,16,17,18] .done)))
 | 17=>(.take 0 (.post 1 (tk [2,3,4,5,6,7,8,9,10,11,12,13,14,15,16,17,18,19,20] (.post 21 (tk [22,23,24] .done)))))
 | _=> .done
def Rk:List (Nat×Nat):= [(3,8),(13,35)]
def Rl:List (Nat×Nat):= [(12,12),(42,55)]
def Rn:List (Nat×Nat):= [(10,12),(57,94)]
def Ro:List (Nat×Nat):= [(12,12),(80,93)]
def Rq:List (Nat×Nat):= [(3,3),(5,5),(8,17)]
def V8 (id:Nat):Plan:=
 match id with
 | 3=>(tr 41 (.one 41 (.post 42 .done)))
 | 4=>(tr 16 (.one 16 (.one 17 (.take 18 (.one 19 (.take 20 .done))))))
 | _=> .done
def V9 (id:Nat):Plan:=
 match id with
 | 13=>(.take 0 (.take 1 (.one 2 (.post 3 (.post 4 .done)))))
 | _=> .done
def Rt:List (Nat×Nat):= [(10,12),(47,67)]
def Wh (id:Nat):Plan:=
 match id with
 | 13=>(tr 9 (.one 9 (.one 10 (.post 11 (.take 12 .done)))))
 | _=> .done
def Ru:List (Nat×Nat):= [(7,11),(16,37)]
def Rw:List (Nat×Nat):= [(2,43)]
def Rx:List (Nat×Nat):= [(3,26)]
def Wi (id:Nat):Plan:=
 match id with
 | 5=>(tr 14 .done)
 | _=> .done
def Ry:List (Nat×Nat):= [(7,9),(13,34)]
def Rz:List (Nat×Nat):= [(4,5),(11,27)]
def Wj (id:Nat):Plan:=
 match id with
 | 6=>(tr 11 .done)
 | _=> .done
def Wn (id:Nat):Plan:=
 match id with
 | 5=>(tr 5 (.one 5 (.take 6 (.post 7 .done))))
 | 11=>(tr 4 (.one 4 (.take 5 (.take 6 .done))))
 | _=> .done
def Eu (id:Nat):Plan:=
 match id with
 | 1=>(tr 12 .done)
 | _=> .done
def RD:List (Nat×Nat):= [(3,4),(12,21)]
def RF:List (Nat×Nat):= [(9,11),(26,50)]
def RG:List (Nat×Nat):= [(10,11),(33,48)]
def RH:List (Nat×Nat):= [(8,8),(12,12),(54,74)]
def RI:List (Nat×Nat):= [(3,3),(5,6),(9,30)]
def RJ:List (Nat×Nat):= [(3,3),(6,6),(13,26)]
def Oo (id:Nat):Plan:=
 match id with
 | 3=>(tr 12 .done)
 | _=> .done
def Wp (id:Nat):Plan:=
 match id with
 | 2=>(tr 6 (.post 6 (tk [7,8,9,10,11] .done)))
 | 8=>(tr 8 .done)
 | 12=>(tr 13 .done)
 | 16=>(tr 5 (.one 5 (.take 6 (.take 7 .done))))
 | 18=>(tr 7 (.one 7 (.take 8 (.take 9 (.post 10 .done)))))
 | 4=>(tr 7 (.one 7 (.take 8 (.take 9 (.post 10 .done)))))
 | 5=>(tr 5 (.post 5 (tk [6,7,8,9,10] .done)))
 | 6=>(tr 7 (.one 7 (.one 8 (.take 9 (.take 10 (.post 11 .done))))))
 | 7=>(tr 10 (.post 10 .done))
 | _=> .done
def Wq (id:Nat):Plan:=
 match id with
 | 1=>(tk [0,1,3,4] (.one 2 (.take 6 (.one 5 (.post 7 (.take 8 (.post 9 .done)))))))
 | _=> .done
def RP:List (Nat×Nat):= [(3,3),(5,5),(11,22)]
def RS:List (Nat×Nat):= [(6,6),(8,8),(27,34)]
def RU:List (Nat×Nat):= [(4,5),(11,21)]
def Ws (id:Nat):Plan:=
 match id with
 | 10=>(tr 6 (.one 6 (.take 7 (.take 8 (.one 9 (.post 10 (.take 11 .done)))))))
 | _=> .done
def RV:List (Nat×Nat):= [(2,2),(5,5),(39,61)]
def RY:List (Nat×Nat):= [(10,11),(45,64)]
def Wu (id:Nat):Plan:=
 match id with
 | 2=>(tk [0,1,2,3,4,5,6,7,8,9,10,11,12,13,14,15,16,17,20,21,22,23,24,25,26,27,28,29] (.one 18 (.take 19 (.one 30 (tk [31,32,33,34,35] .done)))))
 | _=> .done
def Wv (id:Nat):Plan:=
 match id with
 | 12=>(tk [0,1,2,4] (.one 3 (.one 5 (.take 6 (.post 7 .done)))))
 | _=> .done
def Wx (id:Nat):Plan:=
 match id with
 | 1=>(tr 12 .done)
 | 4=>(tr 7 (.one 7 (.one 8 (tk [9,10,11] (.post 12 .done)))))
 | _=> .done
def JL (id:Nat):Plan:=
 match id with
 | 0=>(tr 8 (.sink 8))
 | 2=>(tr 8 (.sink 8))
 | _=> .done
def RZ:List (Nat×Nat):= [(5,119)]
def pX (id:Nat):Plan:=
 match id with
 | 2=>(tr 11 (.sink 11))
 | 3=>(tk [0,1,2,3,4,6,7,8,9,11] (.one 5 (.take 10 (.take 12 (.sink 13)))))
 | 4=>(tk [0,1,2,3,4,6] (.one 5 (.take 7 (.sink 8))))
 | 5=>(tr 11 (.sink 11))
 | 6=>(tk [0,1,2,3,4,6,7,8,9,11] (.one 5 (.take 10 (.take 12 (.sink 13)))))
 | 7=>(tr 11 (.sink 11))
 | 8=>(tk [0,1,2,3,4,6,7,8,9,11] (.one 5 (.take 10 (.take 12 (.sink 13)))))
 | 9=>(tr 11 (.sink 11))
 | 10=>(tk [0,1,2,3,4,6,7,8,9,11] (.one 5 (.take 10 (.take 12 (.sink 13)))))
 | 11=>(tk [0,1,2,3,4,6] (.one 5 (.take 7 (.sink 8))))
 | _=> .done
def Wy (id:Nat):Plan:=
 match id with
 | 5=>(tr 6 (.post 6 (.take 7 .done)))
 | 8=>(tr 11 (.one 11 (tk [12,13,14,15] .done)))
 | _=> .done
def Si:List (Nat×Nat):= [(4,30)]
def WA (id:Nat):Plan:=
 match id with
 | 3=>(tr 7 .done)
 | _=> .done
def Sj (id:Nat):Plan:=WA id
def WB (id:Nat):Plan:=
 match id with
 | 1=>(tr 10 .done)
 | 5=>(tr 10 .done)
 | _=> .done
def Oq (id:Nat):Plan:=
 match id with
 | 0=>(tr 6 (.one 6 (.take 7 (.post 8 .done))))
 | _=> .done
def Sl:List (Nat×Nat):= [(0,0),(5,5),(15,25)]
def Sm:List (Nat×Nat):= [(4,5),(8,18)]
def Sr:List (Nat×Nat):= [(5,6),(9,21)]
def Ot (id:Nat):Plan:=
 match id with
 | 4=>(tr 15 .done)
 | _=> .done
def Ou (id:Nat):Plan:=
 match id with
 | 13=>(tr 15 (.post 15 .done))
 | _=> .done
def Sv:List (Nat×Nat):= [(8,10),(20,77)]
def Sz:List (Nat×Nat):= [(9,10),(27,53)]
def SA:List (Nat×Nat):= [(3,36)]
def SB:List (Nat×Nat):= [(3,3),(6,6),(19,30)]
def SC:List (Nat×Nat):= [(5,70)]
def zB (id:Nat):Plan:=
 match id with
 | 5=>(tk [0,1,3,4] (.one 2 (.take 5 (.take 6 (.sink 7)))))
 | 8=>(tk [0,1,3,4] (.one 2 (.take 5 (.take 6 (.sink 7)))))
 | 10=>(tk [0,1,3,4] (.one 2 (.take 5 (.take 6 (.sink 7)))))
 | 12=>(tk [0,1,3,4] (.one 2 (.take 5 (.take 6 (.sink 7)))))
 | _=> .done
end Go.Proofs.YtnandbihiceihaaGreatDoor.Vc
namespace Go.Proofs.YtnandbihiceihaaGreatDoor.Dg
open RowKit Vc Go.Proofs.Tryz
attribute [local irreducible] loadVar storeVar Instr.indexAt Instr.index Instr.sliceAt Instr.makeSlice Instr.lookup Instr.mapUpdate Instr.range Instr.next Instr.entry Instr.makeMap Builtin.append_ Builtin.copy_ Builtin.len_ Builtin.min_ Builtin.max_ Builtin.cap_ Builtin.delete_ Builtin.clear_ convert binOp eqGuard Op.unary Calls
theorem mixed:Tryz.prog.follows .mixedOrders=true:=aac
def Cb (x:Int)(n:Nat):Int:=kJ .or .u64 (IntKind.u64.wrap (x*2^n)) (x.fdiv (2^(64-n)))
theorem yG (x k:Int)(n:Nat)(hk:kJ .and .u64 (IntKind.u64.wrap k) 63=n)(h0:0<n)(h1:n<64)(w:World) :
  uD Tryz.prog 313 #[.int .u64 x, .int .i64 k] w fun v w'=>v = .int .u64 (Cb x n)∧w'=w:=by
 have e3:IntKind.u64.wrap (64 -(n:Int))=64-n:=IntWalk.u64_in _ aad
 refine kL func313 rfl mixed aac ?_
 refine jS.mk (by rw [hk];omega) ?_
 refine jS.mk ?_ ?_
 ·rw [hk,e3];omega
 refine nP.mk ⟨?_,rfl⟩
 show Value.int .u64 _=_
 rw [hk,e3]
 unfold Cb
 have e1:min (n:Int).toNat IntKind.u64.bits=n:=abd
 have e2:min (64 -(n:Int)).toNat IntKind.u64.bits=64-n:=by simp [IntKind.bits]
 rw [e1,e2]
structure S4 where
 a:Int
 b:Int
 c:Int
 d:Int
def u (x:Int):Value:= .int .u64 x
def add (x y:Int):Int:=IntKind.u64.wrap (x+y)
def xor (x y:Int):Int:=kJ .xor .u64 x y
def S4.round (s:S4):S4:=
 let a:=add s.a s.b
 let b:=xor (Cb s.b 13) a
 let a:=Cb a 32
 let c:=add s.c s.d
 let d:=xor (Cb s.d 16) c
 let a:=add a d
 let d:=xor (Cb d 21) a
 let c:=add c b
 let b:=xor (Cb b 17) c
 let c:=Cb c 32
 ⟨a,b,c,d⟩
def S4.rounds (s:S4):Nat->S4
 | 0=>s
 | n+1=>(s.rounds n).round
@[reducible] def S4.cells (s:S4):List Value:= [.int .u64 s.a, .int .u64 s.b, .int .u64 s.c, .int .u64 s.d]
theorem Di (b:Nat)(T:TypeId)(n:Nat)(hn:n<100)(s:S4)(w:World)(hb:oH w b s.cells T) :
  uD Tryz.prog 259 #[.pointer (some ⟨b,0,none⟩), .int .i64 n] w fun _ w'=> ∃t,t=s.rounds n∧Only b w w'∧oH w' b t.cells T:=by
 refine kL func259 rfl mixed aac ?_
 refine oG (X:=Nat) RZ (fun i=> [(0, .pointer (some ⟨b,0,none⟩)),(4, .int .i64 n),(5, .int .i64 i)]) (fun i w'=>i<=n∧Only b w w'∧oH w' b (s.rounds i).cells T) (fun i=>n-i) 0 aac ⟨rfl,rfl,rfl,trivial⟩ ⟨aK _,Only.refl _ _,hb⟩ ?_
 rintro i w' j ⟨hi,ho,hb'⟩
 refine jH (fun hlt=> ?_) (fun hge=> ?_)
 ·have hlt:i<n:=by simpa using hlt
  (refine mJ pX aac ?_;conv=>whnf)
  repeat (first|(refine jS.mk aam ?_;conv=>whnf)|(refine kY.mk rfl ?_;conv=>whnf)|(refine kT.keep rfl ?_;conv=>whnf)|(refine jZ rfl aal rfl ?_;conv=>whnf)|(refine kE rfl rfl rfl ?_;conv=>whnf)|(refine jV aal rfl rfl rfl ?_;intro _ _ _;conv=>whnf))
  (refine mJ pX aac ?_;conv=>whnf)
  repeat (first|(refine jS.mk aam ?_;conv=>whnf)|(refine kY.mk rfl ?_;conv=>whnf)|(refine kT.keep rfl ?_;conv=>whnf)|(refine jZ rfl aal rfl ?_;conv=>whnf)|(refine kE rfl rfl rfl ?_;conv=>whnf)|(refine jV aal rfl rfl rfl ?_;intro _ _ _;conv=>whnf))
  refine lW aac (yG _ _ 13 aac aah aah _) ?_
  rintro _ _ ⟨rfl,rfl⟩
  conv=>whnf
  repeat (first|(refine jS.mk aam ?_;conv=>whnf)|(refine kY.mk rfl ?_;conv=>whnf)|(refine kT.keep rfl ?_;conv=>whnf)|(refine jZ rfl aal rfl ?_;conv=>whnf)|(refine kE rfl rfl rfl ?_;conv=>whnf)|(refine jV aal rfl rfl rfl ?_;intro _ _ _;conv=>whnf))
  (refine mJ pX aac ?_;conv=>whnf)
  repeat (first|(refine jS.mk aam ?_;conv=>whnf)|(refine kY.mk rfl ?_;conv=>whnf)|(refine kT.keep rfl ?_;conv=>whnf)|(refine jZ rfl aal rfl ?_;conv=>whnf)|(refine kE rfl rfl rfl ?_;conv=>whnf)|(refine jV aal rfl rfl rfl ?_;intro _ _ _;conv=>whnf))
  refine lW aac (yG _ _ 32 aac aah aah _) ?_
  rintro _ _ ⟨rfl,rfl⟩
  conv=>whnf
  repeat (first|(refine jS.mk aam ?_;conv=>whnf)|(refine kY.mk rfl ?_;conv=>whnf)|(refine kT.keep rfl ?_;conv=>whnf)|(refine jZ rfl aal rfl ?_;conv=>whnf)|(refine kE rfl rfl rfl ?_;conv=>whnf)|(refine jV aal rfl rfl rfl ?_;intro _ _ _;conv=>whnf))
  (refine mJ pX aac ?_;conv=>whnf)
  repeat (first|(refine jS.mk aam ?_;conv=>whnf)|(refine kY.mk rfl ?_;conv=>whnf)|(refine kT.keep rfl ?_;conv=>whnf)|(refine jZ rfl aal rfl ?_;conv=>whnf)|(refine kE rfl rfl rfl ?_;conv=>whnf)|(refine jV aal rfl rfl rfl ?_;intro _ _ _;conv=>whnf))
  (refine mJ pX aac ?_;conv=>whnf)
  repeat (first|(refine jS.mk aam ?_;conv=>whnf)|(refine kY.mk rfl ?_;conv=>whnf)|(refine kT.keep rfl ?_;conv=>whnf)|(refine jZ rfl aal rfl ?_;conv=>whnf)|(refine kE rfl rfl rfl ?_;conv=>whnf)|(refine jV aal rfl rfl rfl ?_;intro _ _ _;conv=>whnf))
  refine lW aac (yG _ _ 16 aac aah aah _) ?_
  rintro _ _ ⟨rfl,rfl⟩
  conv=>whnf
  repeat (first|(refine jS.mk aam ?_;conv=>whnf)|(refine kY.mk rfl ?_;conv=>whnf)|(refine kT.keep rfl ?_;conv=>whnf)|(refine jZ rfl aal rfl ?_;conv=>whnf)|(refine kE rfl rfl rfl ?_;conv=>whnf)|(refine jV aal rfl rfl rfl ?_;intro _ _ _;conv=>whnf))
  (refine mJ pX aac ?_;conv=>whnf)
  repeat (first|(refine jS.mk aam ?_;conv=>whnf)|(refine kY.mk rfl ?_;conv=>whnf)|(refine kT.keep rfl ?_;conv=>whnf)|(refine jZ rfl aal rfl ?_;conv=>whnf)|(refine kE rfl rfl rfl ?_;conv=>whnf)|(refine jV aal rfl rfl rfl ?_;intro _ _ _;conv=>whnf))
  (refine mJ pX aac ?_;conv=>whnf)
  repeat (first|(refine jS.mk aam ?_;conv=>whnf)|(refine kY.mk rfl ?_;conv=>whnf)|(refine kT.keep rfl ?_;conv=>whnf)|(refine jZ rfl aal rfl ?_;conv=>whnf)|(refine kE rfl rfl rfl ?_;conv=>whnf)|(refine jV aal rfl rfl rfl ?_;intro _ _ _;conv=>whnf))
  refine lW aac (yG _ _ 21 aac aah aah _) ?_
  rintro _ _ ⟨rfl,rfl⟩
  conv=>whnf
  repeat (first|(refine jS.mk aam ?_;conv=>whnf)|(refine kY.mk rfl ?_;conv=>whnf)|(refine kT.keep rfl ?_;conv=>whnf)|(refine jZ rfl aal rfl ?_;conv=>whnf)|(refine kE rfl rfl rfl ?_;conv=>whnf)|(refine jV aal rfl rfl rfl ?_;intro _ _ _;conv=>whnf))
  (refine mJ pX aac ?_;conv=>whnf)
  repeat (first|(refine jS.mk aam ?_;conv=>whnf)|(refine kY.mk rfl ?_;conv=>whnf)|(refine kT.keep rfl ?_;conv=>whnf)|(refine jZ rfl aal rfl ?_;conv=>whnf)|(refine kE rfl rfl rfl ?_;conv=>whnf)|(refine jV aal rfl rfl rfl ?_;intro _ _ _;conv=>whnf))
  (refine mJ pX aac ?_;conv=>whnf)
  repeat (first|(refine jS.mk aam ?_;conv=>whnf)|(refine kY.mk rfl ?_;conv=>whnf)|(refine kT.keep rfl ?_;conv=>whnf)|(refine jZ rfl aal rfl ?_;conv=>whnf)|(refine kE rfl rfl rfl ?_;conv=>whnf)|(refine jV aal rfl rfl rfl ?_;intro _ _ _;conv=>whnf))
  refine lW aac (yG _ _ 17 aac aah aah _) ?_
  rintro _ _ ⟨rfl,rfl⟩
  conv=>whnf
  repeat (first|(refine jS.mk aam ?_;conv=>whnf)|(refine kY.mk rfl ?_;conv=>whnf)|(refine kT.keep rfl ?_;conv=>whnf)|(refine jZ rfl aal rfl ?_;conv=>whnf)|(refine kE rfl rfl rfl ?_;conv=>whnf)|(refine jV aal rfl rfl rfl ?_;intro _ _ _;conv=>whnf))
  (refine mJ pX aac ?_;conv=>whnf)
  repeat (first|(refine jS.mk aam ?_;conv=>whnf)|(refine kY.mk rfl ?_;conv=>whnf)|(refine kT.keep rfl ?_;conv=>whnf)|(refine jZ rfl aal rfl ?_;conv=>whnf)|(refine kE rfl rfl rfl ?_;conv=>whnf)|(refine jV aal rfl rfl rfl ?_;intro _ _ _;conv=>whnf))
  refine lW aac (yG _ _ 32 aac aah aah _) ?_
  rintro _ _ ⟨rfl,rfl⟩
  conv=>whnf
  repeat (first|(refine jS.mk aam ?_;conv=>whnf)|(refine kY.mk rfl ?_;conv=>whnf)|(refine kT.keep rfl ?_;conv=>whnf)|(refine jZ rfl aal rfl ?_;conv=>whnf)|(refine kE rfl rfl rfl ?_;conv=>whnf)|(refine jV aal rfl rfl rfl ?_;intro _ _ _;conv=>whnf))
  refine nU.mk ⟨_, ?_,i+1,rfl, ?_, ?_⟩
  ·show n -(i+1)<n-i;omega
  ·exact⟨rfl,rfl,mX (incr aad),trivial⟩
  ·refine⟨hlt, ?_, ?_⟩
   ·(repeat (first|assumption|exact Only.refl _ _|refine Only.step aal ?_|refine Only.UU aal ?_))
   ·assumption
 ·have hge : ¬i<n:=by simpa using hge
  conv=>whnf
  have:i=n:=aad
  subst this
  exact nP.mk ⟨_,rfl,ho,hb'⟩
def S4.word (s:S4)(m:Int):S4:=
 let t:=S4.rounds ⟨s.a,s.b,s.c,xor s.d m⟩ 2
 ⟨xor t.a m,t.b,t.c,t.d⟩
theorem zC (b:Nat)(T:TypeId)(m:Int)(s:S4)(w:World)(hb:oH w b s.cells T) :
  uD Tryz.prog 258 #[.pointer (some ⟨b,0,none⟩), .int .u64 m] w fun _ w'=> ∃t,t=s.word m∧Only b w w'∧oH w' b t.cells T:=by
 refine kL func258 rfl mixed aac ?_
 (refine mJ JL aac ?_;conv=>whnf)
 repeat (first|(refine jS.mk aam ?_;conv=>whnf)|(refine kY.mk rfl ?_;conv=>whnf)|(refine kT.keep rfl ?_;conv=>whnf)|(refine jZ rfl aal rfl ?_;conv=>whnf)|(refine kE rfl rfl rfl ?_;conv=>whnf)|(refine jV aal rfl rfl rfl ?_;intro _ _ _;conv=>whnf))
 rename_i w1 o1 hb1
 refine lW aac (Di b T 2 aah ⟨s.a,s.b,s.c,xor s.d m⟩ _ hb1) ?_
 rintro _ w2 ⟨t,ht,o2,hb2⟩
 (refine mJ JL aac ?_;conv=>whnf)
 repeat (first|(refine jS.mk aam ?_;conv=>whnf)|(refine kY.mk rfl ?_;conv=>whnf)|(refine kT.keep rfl ?_;conv=>whnf)|(refine jZ rfl aal rfl ?_;conv=>whnf)|(refine kE rfl rfl rfl ?_;conv=>whnf)|(refine jV aal rfl rfl rfl ?_;intro _ _ _;conv=>whnf))
 rename_i w3 o3 hb3
 have he:s.word m=⟨xor t.a m,t.b,t.c,t.d⟩:=by rw [ht];rfl
 refine nP.mk ⟨⟨xor t.a m,t.b,t.c,t.d⟩,he.symm, ?_,hb3⟩
 exact Only.step o3 ((o1.Ik).trans o2)
def LG (x y:Int):Int:=kJ .or .u64 x y
def SE (b:UInt8)(k:Nat):Int:=IntKind.u64.wrap ((b.toNat:Int)*2^(8*k))
def qy (l:List UInt8):Nat->Int
 | 0=>0
 | n+1=>LG (qy l n) (SE (l.getD n 0) n)
def S4.init (k0 k1:Int):S4:=⟨xor k0 8317987319222330741,xor k1 7237128888997146477,xor k0 7816392313619706465,xor k1 8387220255154660723⟩
def S4.upto (k0 k1:Int)(l:List UInt8):Nat->S4
 | 0=> .init k0 k1
 | i+1=>(S4.upto k0 k1 l i).word (qy (l.drop (8*i)) 8)
def lastTo (l:List UInt8):Nat->Int
 | 0=>IntKind.u64.wrap (IntKind.u64.wrap l.length*2^56)
 | n+1=>LG (lastTo l n) (SE (l.getD (l.length-l.length%8+n) 0) n)
def S4.done (s:S4):Int:=
 let t:=S4.rounds ⟨s.a,s.b,xor s.c 255,s.d⟩ 4
 xor (xor (xor t.a t.b) t.c) t.d
def vg (k0 k1:Int)(l:List UInt8):Int:=((S4.upto k0 k1 l (l.length/8)).word (lastTo l (l.length%8))).done
theorem Ew (x:UInt8)(k:Nat)(hk:k<8)(n:Int)(hn:n=(8*k:Nat)) :
  IntKind.u64.wrap (IntKind.u64.wrap (x.toNat:Int)*2^min n.toNat IntKind.u64.bits)=SE x k:=by
 subst hn
 have h1:IntKind.u64.wrap (x.toNat:Int)=x.toNat:=IntWalk.u64_in _ (by have:=x.toNat_lt;omega)
 have h2:min ((8*k:Nat):Int).toNat IntKind.u64.bits=8*k:=abd
 rw [h1,h2]
 rfl
theorem getD_drop (l:List UInt8)(i k:Nat)(h:i+k<l.length):(l.drop i).getD k 0=l[i+k]:=by
 simp [aV,bT,h]
theorem Ov (k0 k1:Int)(oa:Option Addr)(c:Nat)(l:List UInt8)(w:World)(hl:l.length<4611686018427387904)(hr:Row w oa (kV l)) :
  uD Tryz.prog 194 #[.int .u64 k0, .int .u64 k1, .slice oa l.length c] w fun v w'=>v = .int .u64 (vg k0 k1 l)∧Below w.heap.size w w':=by
 refine kL func194 rfl mixed aac ?_
 refine qE (oH.new _ _ _) rfl rfl rfl ?_
 intro w1 o1 hb1
 have hB1:Below w.heap.size w w1:=((Below.refl _ _).alloc (ay _) _).trans (o1.below (ay _))
 conv=>whnf
 repeat (first|(refine jS.mk aam ?_;conv=>whnf)|(refine kY.mk rfl ?_;conv=>whnf)|(refine kT.keep rfl ?_;conv=>whnf)|(refine jZ rfl aal rfl ?_;conv=>whnf)|(refine kE rfl rfl rfl ?_;conv=>whnf)|(refine jV aal rfl rfl rfl ?_;intro _ _ _;conv=>whnf))
 refine oG (X:=Nat) RF (fun i=> [(9, .int .i64 (8*i:Nat))]) (fun i w'=>8*i<=l.length∧Below w.heap.size w w'∧∃t,t=S4.upto k0 k1 l i∧oH w' w.heap.size t.cells 332) (fun i=>l.length-8*i) 0 aac
  ?_ ⟨aK _,hB1,_,rfl,hb1⟩ ?_
 ·exact⟨rfl,trivial⟩
 rintro i w2 j ⟨hi,hB2,t,ht,hb2⟩
 conv=>whnf
 have e8:IntKind.i64.wrap ((8*i:Nat)+8)=((8*i+8:Nat):Int):=aaB
 refine jH (fun hlt=> ?_) (fun hge=> ?_)
 ·have hlt:8*i+8<=l.length:=by rw [e8]at hlt;have:=of_decide_eq_true hlt;omega
  obtain⟨b,o,rfl,hbl,hc⟩:=hr.get aaT
  refine oG (X:=Nat) RG (fun k=> [(10, .int .u64 (qy (l.drop (8*i)) k)),(33, .int .i64 k)]) (fun k w'=>k<=8∧w'=w2) (fun k=>8-k) 0 aac ?_ ⟨by omega,rfl⟩ ?_
  ·exact⟨rfl,rfl,trivial⟩
  rintro k _ j2 ⟨hk,rfl⟩
  refine jH (fun hlt2=> ?_) (fun AZ=> ?_)
  ·have hlt2:k<8:=by have:=of_decide_eq_true hlt2;omega
   refine vP (8*i+k) rfl rfl aaB aad ?_
   refine lH rfl (by rw [hB2.cell (p:=⟨b,o+(8*i+k),none⟩) hbl];exact hc _ _ (qF aad)) ?_
   refine jS.mk aaB ?_
   refine nU.mk ⟨_, ?_,k+1,rfl, ?_, ?_⟩
   ·show 8 -(k+1)<8-k;omega
   ·refine⟨mX ?_,mX (incr aad),trivial⟩
    rw [Ew _ k hlt2 _ aaB, <-getD_drop l (8*i) k aad]
    rfl
   ·exact⟨hlt2,rfl⟩
  ·have AZ : ¬k<8:=by have:=of_decide_eq_false AZ;omega
   obtain rfl:k=8:=aad
   refine lW aac (zC _ _ _ _ _ hb2) ?_
   rintro _ w3 ⟨t3,ht3,o3,hb3⟩
   refine nU.mk ⟨_, ?_,i+1,rfl, ?_, ?_⟩
   ·show l.length-8*(i+1)<l.length-8*i;omega
   ·exact⟨mX (by rw [e8,Nat.mul_add]),trivial⟩
   ·refine⟨by omega,hB2.trans (o3.below (ay _)),t3, ?_,hb3⟩
    rw [ht3,ht];rfl
 ·have hge : ¬8*i+8<=l.length:=by rw [e8]at hge;have:=of_decide_eq_false hge;omega
  have hi8:i=l.length/8:=aad
  obtain⟨r,ZI⟩ : ∃r,r=l.length%8:=⟨_,rfl⟩
  conv=>whnf
  repeat (first|(refine jS.mk aam ?_;conv=>whnf)|(refine kY.mk rfl ?_;conv=>whnf)|(refine kT.keep rfl ?_;conv=>whnf)|(refine jZ rfl aal rfl ?_;conv=>whnf)|(refine kE rfl rfl rfl ?_;conv=>whnf)|(refine jV aal rfl rfl rfl ?_;intro _ _ _;conv=>whnf))
  refine oG (X:=Nat) RH (fun k=> [(8, .int .u64 (lastTo l k)),(53, .int .i64 r),(54, .int .i64 k)]) (fun k w'=>k<=r∧w'=w2) (fun k=>r-k) 0 aac ?_ ⟨by omega,rfl⟩ ?_
  ·exact⟨rfl,mX (by rw [ZI];rfl),rfl,trivial⟩
  rintro k _ j2 ⟨hk,rfl⟩
  refine jH (fun hlt2=> ?_) (fun AZ=> ?_)
  ·have hlt2:k<r:=by have:=of_decide_eq_true hlt2;omega
   obtain⟨b,o,rfl,hbl,hc⟩:=hr.get aaT
   conv=>whnf
   repeat (first|(refine jS.mk aam ?_;conv=>whnf)|(refine kY.mk rfl ?_;conv=>whnf)|(refine kT.keep rfl ?_;conv=>whnf)|(refine jZ rfl aal rfl ?_;conv=>whnf)|(refine kE rfl rfl rfl ?_;conv=>whnf)|(refine jV aal rfl rfl rfl ?_;intro _ _ _;conv=>whnf))
   refine vP (l.length-r+k) rfl rfl ?_ aad ?_
   ·have e1:Int.tmod (l.length:Int) 8=r:=by rw [ZI];rfl
    rw [e1,IntWalk.i64_in ((l.length:Int)-r) aad,IntWalk.i64_in _ aad]
    omega
   refine lH rfl (by rw [hB2.cell (p:=⟨b,o+(l.length-r+k),none⟩) hbl];exact hc _ _ (qF aad)) ?_
   refine jS.mk aaB ?_
   refine nU.mk ⟨_, ?_,k+1,rfl, ?_, ?_⟩
   ·show r -(k+1)<r-k;omega
   ·refine⟨mX ?_,rfl,mX (incr aad),trivial⟩
    rw [Ew _ k aad _ aaB]
    have:=getD_drop l 0 (l.length-r+k) aad
    simp only [iH,aJ]at this
    rw [<-this,ZI]
    rfl
   ·exact⟨hlt2,rfl⟩
  ·have AZ : ¬k<r:=by have:=of_decide_eq_false AZ;omega
   obtain rfl:k=r:=aad
   refine lW aac (zC _ _ _ _ _ hb2) ?_
   rintro _ w3 ⟨t3,ht3,o3,hb3⟩
   conv=>whnf
   repeat (first|(refine jS.mk aam ?_;conv=>whnf)|(refine kY.mk rfl ?_;conv=>whnf)|(refine kT.keep rfl ?_;conv=>whnf)|(refine jZ rfl aal rfl ?_;conv=>whnf)|(refine kE rfl rfl rfl ?_;conv=>whnf)|(refine jV aal rfl rfl rfl ?_;intro _ _ _;conv=>whnf))
   rename_i w4 o4 hb4
   refine lW aac (Di _ _ 4 aah ⟨t3.a,t3.b,xor t3.c 255,t3.d⟩ _ hb4) ?_
   rintro _ w5 ⟨t5,ht5,o5,hb5⟩
   conv=>whnf
   repeat (first|(refine jS.mk aam ?_;conv=>whnf)|(refine kY.mk rfl ?_;conv=>whnf)|(refine kT.keep rfl ?_;conv=>whnf)|(refine jZ rfl aal rfl ?_;conv=>whnf)|(refine kE rfl rfl rfl ?_;conv=>whnf)|(refine jV aal rfl rfl rfl ?_;intro _ _ _;conv=>whnf))
   refine nP.mk ⟨?_, ?_⟩
   ·have:vg k0 k1 l=xor (xor (xor t5.a t5.b) t5.c) t5.d:=by
     unfold vg S4.done
     rw [<-hi8, <-ht, <-ZI, <-ht3, <-ht5]
    rw [this]
    rfl
   ·exact hB2.trans (((o3.trans o4).trans o5).below (ay _))
def sW (n:Nat)(k:Nat):UInt8:=UInt8.ofNat (n/2^(8*k)%256)
def qo (n:Nat):Nat->List UInt8
 | 0=> []
 | k+1=>qo n k++ [sW n (7-k)]
def frame (ls:List (List UInt8)):List UInt8:=
 match ls with
 | []=> []
 | l::r=>(qo l.length 8++l)++frame r
def kW (ls:List (List UInt8))(i:Nat):List UInt8:=frame (ls.take i)
theorem xG (a b:List (List UInt8)):frame (a++b)=frame a++frame b:=by
 induction a with
 | nil=>rfl
 | cons l r ih=>simp only [fE,frame,ih,bg]
theorem qC (ls:List (List UInt8))(i:Nat)(h:i<ls.length):kW ls (i+1)=kW ls i++(qo ls[i].length 8++ls[i]):=by
 unfold kW
 rw [dK h,xG]
 simp [frame]
theorem pV (n k:Nat):(qo n k).length=k:=by
 induction k with
 | zero=>rfl
 | succ k ih=>simp [qo,ih]
theorem vH (ls:List (List UInt8))(i:Nat):(kW ls i).length<=(frame ls).length:=by
 have:=xG (ls.take i) (ls.drop i)
 rw [fC]at this
 unfold kW
 rw [this,aG]
 omega
def Qo (w:World)(vs:List Value)(ls:List (List UInt8)):Prop:=
 vs.length=ls.length∧∀i (h:i<ls.length), ∃oa c,vs[i]? = some (.slice oa ls[i].length c)∧ls[i].length<=c∧(oa=none->c=0)∧Row w oa (kV ls[i])
theorem Qo.below {w w':World}{vs:List Value}{ls:List (List UInt8)}(h:Qo w vs ls)(hb:Below w.heap.size w w'):Qo w' vs ls:=
 ⟨h.1,fun i hi=>let ⟨oa,c,h1,h2,h3,h4⟩:=h.2 i hi;⟨oa,c,h1,h2,h3,h4.below hb⟩⟩
theorem Ey (n k:Nat)(hk:k<8)(hn:n<18446744073709551616)(x:Int)(hx:x=(8*k:Nat)) :
  IntKind.u8.wrap ((IntKind.u64.wrap (n:Int)).fdiv (2^min x.toNat IntKind.u64.bits))=((sW n k).toNat:Int):=by
 subst hx
 have h1:IntKind.u64.wrap (n:Int)=n:=IntWalk.u64_in _ aad
 have h2:min ((8*k:Nat):Int).toNat IntKind.u64.bits=8*k:=abd
 rw [h1,h2,IntKind.wrap_u8]
 unfold sW
 have e1:((n:Int).fdiv (2^(8*k)))=((n/2^(8*k):Nat):Int):=by
  rw [gW]
  ·simp
  ·exact Int.le_of_lt (Int.pow_pos aah)
 rw [e1]
 simp
theorem wu (b:UInt8):kV [b] = [.int .u8 b.toNat]:=rfl
theorem Gn (oa:Option Addr)(c:Nat)(vs:List Value)(ls:List (List UInt8))(w:World)(hlen:ls.length<=1099511627776)(hl:(frame ls).length<=140737488355328)(hr:Row w oa vs)(hf:Qo w vs ls) :
  uD Tryz.prog 195 #[.slice oa ls.length c] w fun v w'=> ∃lV c',v = .slice lV (frame ls).length c'∧Own w' w.heap.size 5 1 lV (frame ls).length c' (kV (frame ls))∧Below w.heap.size w w':=by
 refine kL func195 rfl mixed aac ?_
 refine oG (X:=Nat×Option Addr×Nat) RI (fun x=> [(3, .slice x.2.1 (kW ls x.1).length x.2.2),(9, .int .i64 x.1)]) (fun x w'=>x.1<=ls.length∧Below w.heap.size w w'∧Own w' w.heap.size 5 1 x.2.1 (kW ls x.1).length x.2.2 (kV (kW ls x.1))) (fun x=>ls.length-x.1) (0,none,0) aac
  ?_ ⟨aK _,Below.refl _ _,Own.nil _ _ _ _⟩ ?_
 ·exact⟨rfl,rfl,trivial⟩
 rintro⟨i,oo,cc⟩ w1 j ⟨hi,hB,ho⟩
 refine jH (fun hlt=> ?_) (fun hge=> ?_)
 ·have hlt:i<ls.length:=aaH
  obtain⟨b,o,rfl,hbl,hc⟩:=hr.get (by rw [hf.1];omega)
  obtain⟨oa1,c1,hv,hc1,hn1,hr1⟩:=hf.2 i hlt
  have hr1':=hr1.below hB
  have hL1:=vH ls (i+1)
  rw [qC ls i hlt]at hL1
  simp only [aG,pV]at hL1
  refine vP i rfl rfl rfl hlt ?_
  refine lH rfl (by rw [hB.cell (p:=⟨b,o+i,none⟩) hbl];exact hc _ _ hv) ?_
  refine oG (X:=Nat×Option Addr×Nat) RJ (fun x=> [(3, .slice x.2.1 ((kW ls i).length+x.1) x.2.2),(6, .int .i64 (7 -(x.1:Int)))]) (fun x w'=>x.1<=8∧Below w.heap.size w w'∧Own w' w.heap.size 5 1 x.2.1 ((kW ls i).length+x.1) x.2.2 (kV (kW ls i++qo ls[i].length x.1))) (fun x=>8-x.1) (0,oo,cc) aac
   ?_ ⟨aK _,hB,by simpa [qo]using ho⟩ ?_
  ·exact⟨rfl,rfl,trivial⟩
  rintro⟨k,o2,c2⟩ w2 j2 ⟨hk,hB2,ho2⟩
  simp only at hk ho2
  refine jH (fun hlt2=> ?_) (fun AZ=> ?_)
  ·have hlt2:k<8:=by have:=of_decide_eq_true hlt2;simp only at this;omega
   refine jS.mk aaP ?_
   refine mZ (B:=w.heap.size) (sz:=1) (nV:=1) (m:=1) (n:=(kW ls i).length+k) rfl rfl rfl rfl rfl rfl (ho2.alloc _) (Row.alloc1 _ _ _) rfl (fun u hu=>by simp at hu;subst hu;rfl) (fun e=>by cases e) aad (bZ hB2.size aaA) aaQ ?_
   intro o3 c3 w3 ho3 hB3 _
   refine nU.mk ⟨_, ?_,(k+1,o3,c3),rfl, ?_, ?_⟩
   ·show 8 -(k+1)<8-k;omega
   ·exact⟨rfl,mX aaP,trivial⟩
   ·refine⟨hlt2,(nR hB2 (ay _) _).trans hB3, ?_⟩
    simp only [qo]
    rw [<-bg,lT,wu]
    rw [Ey _ (7-k) aad aad _ aaP]at ho3
    exact ho3
  ·have AZ : ¬k<8:=by have:=of_decide_eq_false AZ;simp only at this;omega
   obtain rfl:k=8:=aad
   conv=>whnf
   have hr2:=hr1.below hB2
   refine mZ (B:=w.heap.size) (sz:=1) (nV:=1) (m:=ls[i].length) (n:=(kW ls i).length+8) rfl rfl rfl rfl rfl rfl ho2 hr2 aaA (pK _) hn1 aad hB2.size aaQ ?_
   intro o3 c3 w3 ho3 hB3 _
   conv=>whnf
   have hfs:=qC ls i hlt
   have hfl:(kW ls i).length+8+ls[i].length=(kW ls (i+1)).length:=by rw [hfs];simp [pV];omega
   refine nU.mk ⟨_, ?_,(i+1,o3,c3),rfl, ?_, ?_⟩
   ·show ls.length -(i+1)<ls.length-i;omega
   ·exact⟨Jw hfl,mX (incr aad),trivial⟩
   ·refine⟨hlt,hB2.trans hB3, ?_⟩
    rw [hfl, <-lT,bg, <-hfs]at ho3
    exact ho3
 ·have hge : ¬i<ls.length:=aaE
  obtain rfl:i=ls.length:=by simp only at hi;omega
  conv=>whnf
  have hfa:kW ls ls.length=frame ls:=by unfold kW;rw [fD]
  simp only [hfa]at ho
  exact nP.mk ⟨oo,cc,by simp only [hfa];rfl,ho,hB⟩
theorem SG (d:Int)(oa:Option Addr)(c:Nat)(vs:List Value)(ls:List (List UInt8))(w:World)(hlen:ls.length<=1099511627776)(hl:(frame ls).length<=140737488355328)(hr:Row w oa vs)(hf:Qo w vs ls) :
  uD Tryz.prog 289 #[.int .u64 d, .slice oa ls.length c] w fun v w'=>v = .int .u64 (vg d 0 (frame ls))∧Below w.heap.size w w':=by
 refine kL func289 rfl mixed aac ?_
 refine lW aac (Gn oa c vs ls w hlen hl hr hf) ?_
 rintro _ w1 ⟨o1,c1,rfl,ho1,hB1⟩
 refine lW aac (Ov d 0 o1 c1 (frame ls) w1 aad ho1.row) ?_
 rintro _ w2 ⟨rfl,hB2⟩
 exact nP.mk ⟨rfl,hB1.trans (hB2.mono hB1.size)⟩
theorem qH (x k:Int)(n:Nat)(hk:k=n)(h0:0<n)(h1:n<64)(w:World) :
  uD Tryz.prog 405 #[.int .u64 x, .int .u64 k] w fun v w'=>v = .int .u64 (Cb x n)∧w'=w:=by
 subst hk
 have e3:IntKind.u64.wrap (64 -(n:Int))=64-n:=IntWalk.u64_in _ aad
 refine kL func405 rfl mixed aac ?_
 refine jS.mk aad ?_
 refine jS.mk (by rw [e3];omega) ?_
 refine nP.mk ⟨?_,rfl⟩
 show Value.int .u64 _=_
 rw [e3]
 unfold Cb
 have e1:min (n:Int).toNat IntKind.u64.bits=n:=abd
 have e2:min (64 -(n:Int)).toNat IntKind.u64.bits=64-n:=by simp [IntKind.bits]
 rw [e1,e2]
theorem wz (n:Nat)(hn:n<100)(s:S4)(w:World) :
  uD Tryz.prog 397 #[.agg s.cells.toArray, .int .i64 n] w fun v w'=> ∃t,t=s.rounds n∧v = .agg t.cells.toArray∧Below w.heap.size w w':=by
 refine kL func397 rfl mixed aac ?_
 conv=>whnf
 have hb0:=(oH.new w s.cells.toArray 449).alloc (.cells #[.int .u64 0, .int .u64 0, .int .u64 0, .int .u64 0] 449)
 have hr0:=oH.new (w.alloc (.cells s.cells.toArray 449)) #[.int .u64 0, .int .u64 0, .int .u64 0, .int .u64 0] 449
 have hB0:=nR (nR (Below.refl w.heap.size w) (ay _) (.cells s.cells.toArray 449)) (ay _) (.cells #[.int .u64 0, .int .u64 0, .int .u64 0, .int .u64 0] 449)
 refine oG (X:=Nat) SC (fun i=> [(5, .int .i64 i)]) (fun i w'=>i<=n∧Only w.heap.size _ w'∧oH w' w.heap.size (s.rounds i).cells 449) (fun i=>n-i) 0 aac ?_ ⟨aK _,Only.refl _ _,hb0⟩ ?_
 ·exact⟨rfl,trivial⟩
 rintro i w' j ⟨hi,ho,hb'⟩
 refine jH (fun hlt=> ?_) (fun hge=> ?_)
 ·have hlt:i<n:=by simpa using hlt
  conv=>whnf
  repeat (first|(refine jS.mk aam ?_;conv=>whnf)|(refine kY.mk rfl ?_;conv=>whnf)|(refine kT.keep rfl ?_;conv=>whnf)|(refine jZ rfl aal rfl ?_;conv=>whnf)|(refine kE rfl rfl rfl ?_;conv=>whnf)|(refine jV aal rfl rfl rfl ?_;intro _ _ _;conv=>whnf))
  (refine mJ zB aac ?_;conv=>whnf)
  repeat (first|(refine jS.mk aam ?_;conv=>whnf)|(refine kY.mk rfl ?_;conv=>whnf)|(refine kT.keep rfl ?_;conv=>whnf)|(refine jZ rfl aal rfl ?_;conv=>whnf)|(refine kE rfl rfl rfl ?_;conv=>whnf)|(refine jV aal rfl rfl rfl ?_;intro _ _ _;conv=>whnf))
  refine lW aac (qH _ _ 13 rfl aah aah _) ?_
  rintro _ _ ⟨rfl,rfl⟩
  conv=>whnf
  repeat (first|(refine jS.mk aam ?_;conv=>whnf)|(refine kY.mk rfl ?_;conv=>whnf)|(refine kT.keep rfl ?_;conv=>whnf)|(refine jZ rfl aal rfl ?_;conv=>whnf)|(refine kE rfl rfl rfl ?_;conv=>whnf)|(refine jV aal rfl rfl rfl ?_;intro _ _ _;conv=>whnf))
  refine lW aac (qH _ _ 32 rfl aah aah _) ?_
  rintro _ _ ⟨rfl,rfl⟩
  conv=>whnf
  repeat (first|(refine jS.mk aam ?_;conv=>whnf)|(refine kY.mk rfl ?_;conv=>whnf)|(refine kT.keep rfl ?_;conv=>whnf)|(refine jZ rfl aal rfl ?_;conv=>whnf)|(refine kE rfl rfl rfl ?_;conv=>whnf)|(refine jV aal rfl rfl rfl ?_;intro _ _ _;conv=>whnf))
  (refine mJ zB aac ?_;conv=>whnf)
  repeat (first|(refine jS.mk aam ?_;conv=>whnf)|(refine kY.mk rfl ?_;conv=>whnf)|(refine kT.keep rfl ?_;conv=>whnf)|(refine jZ rfl aal rfl ?_;conv=>whnf)|(refine kE rfl rfl rfl ?_;conv=>whnf)|(refine jV aal rfl rfl rfl ?_;intro _ _ _;conv=>whnf))
  refine lW aac (qH _ _ 16 rfl aah aah _) ?_
  rintro _ _ ⟨rfl,rfl⟩
  conv=>whnf
  repeat (first|(refine jS.mk aam ?_;conv=>whnf)|(refine kY.mk rfl ?_;conv=>whnf)|(refine kT.keep rfl ?_;conv=>whnf)|(refine jZ rfl aal rfl ?_;conv=>whnf)|(refine kE rfl rfl rfl ?_;conv=>whnf)|(refine jV aal rfl rfl rfl ?_;intro _ _ _;conv=>whnf))
  (refine mJ zB aac ?_;conv=>whnf)
  repeat (first|(refine jS.mk aam ?_;conv=>whnf)|(refine kY.mk rfl ?_;conv=>whnf)|(refine kT.keep rfl ?_;conv=>whnf)|(refine jZ rfl aal rfl ?_;conv=>whnf)|(refine kE rfl rfl rfl ?_;conv=>whnf)|(refine jV aal rfl rfl rfl ?_;intro _ _ _;conv=>whnf))
  refine lW aac (qH _ _ 21 rfl aah aah _) ?_
  rintro _ _ ⟨rfl,rfl⟩
  conv=>whnf
  repeat (first|(refine jS.mk aam ?_;conv=>whnf)|(refine kY.mk rfl ?_;conv=>whnf)|(refine kT.keep rfl ?_;conv=>whnf)|(refine jZ rfl aal rfl ?_;conv=>whnf)|(refine kE rfl rfl rfl ?_;conv=>whnf)|(refine jV aal rfl rfl rfl ?_;intro _ _ _;conv=>whnf))
  (refine mJ zB aac ?_;conv=>whnf)
  repeat (first|(refine jS.mk aam ?_;conv=>whnf)|(refine kY.mk rfl ?_;conv=>whnf)|(refine kT.keep rfl ?_;conv=>whnf)|(refine jZ rfl aal rfl ?_;conv=>whnf)|(refine kE rfl rfl rfl ?_;conv=>whnf)|(refine jV aal rfl rfl rfl ?_;intro _ _ _;conv=>whnf))
  refine lW aac (qH _ _ 17 rfl aah aah _) ?_
  rintro _ _ ⟨rfl,rfl⟩
  conv=>whnf
  repeat (first|(refine jS.mk aam ?_;conv=>whnf)|(refine kY.mk rfl ?_;conv=>whnf)|(refine kT.keep rfl ?_;conv=>whnf)|(refine jZ rfl aal rfl ?_;conv=>whnf)|(refine kE rfl rfl rfl ?_;conv=>whnf)|(refine jV aal rfl rfl rfl ?_;intro _ _ _;conv=>whnf))
  refine lW aac (qH _ _ 32 rfl aah aah _) ?_
  rintro _ _ ⟨rfl,rfl⟩
  conv=>whnf
  repeat (first|(refine jS.mk aam ?_;conv=>whnf)|(refine kY.mk rfl ?_;conv=>whnf)|(refine kT.keep rfl ?_;conv=>whnf)|(refine jZ rfl aal rfl ?_;conv=>whnf)|(refine kE rfl rfl rfl ?_;conv=>whnf)|(refine jV aal rfl rfl rfl ?_;intro _ _ _;conv=>whnf))
  refine nU.mk ⟨_, ?_,i+1,rfl, ?_, ?_⟩
  ·show n -(i+1)<n-i;omega
  ·exact⟨mX (incr aad),trivial⟩
  ·refine⟨hlt, ?_, ?_⟩
   ·(repeat (first|assumption|exact Only.refl _ _|refine Only.step aal ?_|refine Only.UU aal ?_))
   ·assumption
 ·have hge : ¬i<n:=by simpa using hge
  obtain rfl:i=n:=aad
  refine rX rfl rfl hb' ?_
  conv=>whnf
  have hr1:=oH.only hr0 ho (by rw [World.size_alloc];omega)
  refine qE (o:=0) (vs:=(s.rounds i).cells) hr1 rfl rfl rfl ?_
  intro w2 o2 hb2
  refine rX rfl rfl hb2 ?_
  refine kY.mk rfl ?_
  refine nP.mk ⟨_,rfl,rfl, ?_⟩
  exact(hB0.trans (ho.below (ay _))).trans (o2.below (by rw [World.size_alloc];omega))
theorem Ez (a b:Int):LG a b=((BitVec.ofInt 64 a ||| BitVec.ofInt 64 b).toNat:Int):=by
 unfold LG kJ
 show IntKind.u64.wrap ((BitVec.ofInt 64 a ||| BitVec.ofInt 64 b).toNat:Int)=_
 have:=(BitVec.ofInt 64 a ||| BitVec.ofInt 64 b).isLt
 exact IntWalk.u64_in _ aad
theorem Dj (a b:Int):BitVec.ofInt 64 (LG a b)=BitVec.ofInt 64 a ||| BitVec.ofInt 64 b:=by
 rw [Ez]
 apply jy
 rw [BitVec.toNat_ofInt]
 have:=(BitVec.ofInt 64 a ||| BitVec.ofInt 64 b).isLt
 generalize (BitVec.ofInt 64 a ||| BitVec.ofInt 64 b).toNat=n at *
 omega
theorem Dl (n:Int):IntKind.u64.wrap n=n%18446744073709551616:=by
 simp [IntKind.wrap,IntKind.bits,IntKind.signed]
theorem SH (a b c:Int):LG (LG a b) c=LG (LG a c) b:=by
 rw [Ez (LG a b),Ez (LG a c),Dj,Dj,BitVec.or_assoc,BitVec.or_assoc,BitVec.or_comm (BitVec.ofInt 64 b)]
theorem Ox (c:Int)(h:0<=c∧c<=18446744073709551615):LG 0 c=c:=by
 rw [Ez]
 simp [BitVec.toNat_ofInt]
 omega
theorem SI (l:List UInt8)(k:Nat):lastTo l k=LG (qy (l.drop (l.length-l.length%8)) k) (IntKind.u64.wrap (IntKind.u64.wrap l.length*2^56)):=by
 induction k with
 | zero=>
  simp only [lastTo,qy]
  rw [Ox]
  rw [Dl]
  omega
 | succ k ih=>
  simp only [lastTo,qy,ih]
  rw [SH]
  congr 2
  simp [aV,bT]
theorem SK (n:Nat):IntKind.u64.wrap (IntKind.u64.wrap (n:Int)*2^56) =
  IntKind.u64.wrap (IntKind.u64.wrap (Int.tmod (n:Int) 256)*2^min (Int.toNat 56) IntKind.u64.bits):=by
 have e:min (Int.toNat 56) IntKind.u64.bits=56:=aah
 have e2:Int.tmod (n:Int) 256=((n%256:Nat):Int):=rfl
 rw [e,e2]
 simp only [Dl]
 omega
theorem SL (k0 k1:Int)(oa:Option Addr)(c:Nat)(l:List UInt8)(w:World)(hl:l.length<4611686018427387904)(hr:Row w oa (kV l)) :
  uD Tryz.prog 381 #[.int .u64 k0, .int .u64 k1, .slice oa l.length c] w fun v w'=>v = .int .u64 (vg k0 k1 l)∧Below w.heap.size w w':=by
 refine kL func381 rfl mixed aac ?_
 refine qE (oH.new _ _ _) rfl rfl rfl ?_
 intro w1 o1 hb1
 have hB1:Below w.heap.size w w1:=((Below.refl _ _).alloc (ay _) _).trans (o1.below (ay _))
 refine oG (X:=Nat) Sv (fun i=> [(8, .int .i64 i)])
  (fun i w'=>i<=l.length/8+1∧Below w.heap.size w w'∧∃t,t=(if i<=l.length/8 then S4.upto k0 k1 l i else(S4.upto k0 k1 l (l.length/8)).word (lastTo l (l.length%8)))∧oH w' w.heap.size t.cells 449) (fun i=>l.length/8+1-i) 0 aac
  ?_ ⟨aK _,hB1,S4.init k0 k1,(by rw [if_pos (aK _)];rfl),hb1⟩ ?_
 ·exact⟨rfl,trivial⟩
 rintro i w2 j ⟨hi,hB2,t,ht,hb2⟩
 refine jS.mk aah ?_
 conv=>whnf
 have ZJ:IntKind.i64.wrap (Int.tdiv (l.length:Int) 8)=((l.length/8:Nat):Int):=by
  rw [show Int.tdiv (l.length:Int) 8=((l.length/8:Nat):Int)from rfl,IntWalk.i64_in _ aad]
 refine jH (fun hlt=> ?_) (fun hge=> ?_)
 ·have hlt:i<=l.length/8:=by rw [ZJ]at hlt;have:=of_decide_eq_true hlt;omega
  rw [if_pos hlt]at ht
  obtain⟨e,he⟩ : ∃e,e=min 8 (l.length-8*i):=⟨_,rfl⟩
  refine oG (X:=Nat) Sz (fun k=> [(9, .int .u64 (qy (l.drop (8*i)) k)),(10, .int .i64 k)]) (fun k w'=>k<=e∧w'=w2) (fun k=>e-k) 0 aac ?_ ⟨by omega,rfl⟩ ?_
  ·exact⟨rfl,rfl,trivial⟩
  rintro k _ j2 ⟨hk,rfl⟩
  have e1:IntKind.i64.wrap (IntKind.i64.wrap (8*(i:Int))+k)=((8*i+k:Nat):Int):=by
   rw [IntWalk.i64_in (8*(i:Int)) aad,IntWalk.i64_in _ aad];omega
  have e8k:IntKind.i64.wrap (8*(k:Int))=((8*k:Nat):Int):=aaB
  by_cases hke:k<e
  ·obtain⟨b,o,rfl,hbl,hc⟩:=hr.get aaT
   refine jH (fun h1=> ?_) (fun h1=>absurd h1 aaT)
   refine jH (fun h2=> ?_) (fun h2=>absurd h2 (by rw [e1];simp;omega))
   refine vP (8*i+k) rfl rfl e1 aad ?_
   refine lH rfl (by rw [hB2.cell (p:=⟨b,o+(8*i+k),none⟩) hbl];exact hc _ _ (qF aad)) ?_
   refine jS.mk (by rw [e8k,IntWalk.u64_in _ aad];omega) ?_
   refine nU.mk ⟨_, ?_,k+1,rfl, ?_, ?_⟩
   ·show e -(k+1)<e-k;omega
   ·refine⟨mX ?_,mX (incr aad),trivial⟩
    rw [Ew _ k aad _ (by rw [e8k,IntWalk.u64_in _ aad]), <-getD_drop l (8*i) k aad]
    rfl
   ·exact⟨hke,rfl⟩
  ·obtain rfl:k=e:=aad
   have hwk:qy (l.drop (8*i)) k=qy (l.drop (8*i)) k:=rfl
   by_cases hk8:k=8
   ·refine jH (fun h1=>absurd h1 aaT) (fun h1=> ?_)
    refine jS.mk aah ?_
    refine jH (fun h3=>absurd h3 (by rw [ZJ];simp;omega)) (fun h3=> ?_)
    conv=>whnf
    repeat (first|(refine jS.mk aam ?_;conv=>whnf)|(refine kY.mk rfl ?_;conv=>whnf)|(refine kT.keep rfl ?_;conv=>whnf)|(refine jZ rfl aal rfl ?_;conv=>whnf)|(refine kE rfl rfl rfl ?_;conv=>whnf)|(refine jV aal rfl rfl rfl ?_;intro _ _ _;conv=>whnf))
    rename_i w3 o3 hb3
    refine rX rfl rfl hb3 ?_
    refine lW aac (wz 2 aah ⟨t.a,t.b,t.c,xor t.d (qy (l.drop (8*i)) k)⟩ _) ?_
    rintro _ w4 ⟨t4,ZK,rfl,hB4⟩
    conv=>whnf
    have hb4:=hb3.below hB4 hb3.lt
    refine qE (o:=0) (vs:=t4.cells) hb4 rfl rfl rfl ?_
    intro w5 o5 hb5
    conv=>whnf
    repeat (first|(refine jS.mk aam ?_;conv=>whnf)|(refine kY.mk rfl ?_;conv=>whnf)|(refine kT.keep rfl ?_;conv=>whnf)|(refine jZ rfl aal rfl ?_;conv=>whnf)|(refine kE rfl rfl rfl ?_;conv=>whnf)|(refine jV aal rfl rfl rfl ?_;intro _ _ _;conv=>whnf))
    rename_i w6 o6 hb6
    have hBB:=(hB2.trans (o3.below (ay _))).trans ((hB4.mono (jo hb3.lt)).trans ((o5.trans o6).below (ay _)))
    refine nU.mk ⟨_, ?_,i+1,rfl, ?_, ?_⟩
    ·show l.length/8+1 -(i+1)<l.length/8+1-i;omega
    ·exact⟨mX (incr aad),trivial⟩
    ·refine⟨by omega,hBB,⟨_,t4.b,t4.c,t4.d⟩, ?_,hb6⟩
     rw [if_pos aad]
     rw [hk8]at ZK
     simp only [S4.upto,S4.word, <-ht]
     rw [<-ZK,hk8]
     rfl
   ·refine jH (fun h1=> ?_) (fun h1=>absurd h1 aaT)
    refine jH (fun h2=>absurd h2 (by rw [e1];simp;omega)) (fun h2=> ?_)
    refine jS.mk aah ?_
    refine jH (fun h3=> ?_) (fun h3=>absurd h3 (by rw [ZJ];simp;omega))
    conv=>whnf
    repeat (refine jS.mk aah ?_;conv=>whnf)
    repeat (first|(refine jS.mk aam ?_;conv=>whnf)|(refine kY.mk rfl ?_;conv=>whnf)|(refine kT.keep rfl ?_;conv=>whnf)|(refine jZ rfl aal rfl ?_;conv=>whnf)|(refine kE rfl rfl rfl ?_;conv=>whnf)|(refine jV aal rfl rfl rfl ?_;intro _ _ _;conv=>whnf))
    rename_i w3 o3 hb3
    refine rX rfl rfl hb3 ?_
    refine lW aac (wz 2 aah ⟨t.a,t.b,t.c,xor t.d (kJ .or .u64 (qy (l.drop (8*i)) k) (IntKind.u64.wrap (IntKind.u64.wrap (Int.tmod (l.length:Int) 256)*2^min (Int.toNat 56) IntKind.u64.bits)))⟩ _) ?_
    rintro _ w4 ⟨t4,ZK,rfl,hB4⟩
    conv=>whnf
    have hb4:=hb3.below hB4 hb3.lt
    refine qE (o:=0) (vs:=t4.cells) hb4 rfl rfl rfl ?_
    intro w5 o5 hb5
    conv=>whnf
    repeat (first|(refine jS.mk aam ?_;conv=>whnf)|(refine kY.mk rfl ?_;conv=>whnf)|(refine kT.keep rfl ?_;conv=>whnf)|(refine jZ rfl aal rfl ?_;conv=>whnf)|(refine kE rfl rfl rfl ?_;conv=>whnf)|(refine jV aal rfl rfl rfl ?_;intro _ _ _;conv=>whnf))
    rename_i w6 o6 hb6
    have hBB:=(hB2.trans (o3.below (ay _))).trans ((hB4.mono (jo hb3.lt)).trans ((o5.trans o6).below (ay _)))
    refine nU.mk ⟨_, ?_,i+1,rfl, ?_, ?_⟩
    ·show l.length/8+1 -(i+1)<l.length/8+1-i;omega
    ·exact⟨mX (incr aad),trivial⟩
    ·refine⟨by omega,hBB,⟨_,t4.b,t4.c,t4.d⟩, ?_,hb6⟩
     have hiq:i=l.length/8:=aad
     rw [if_neg aad, <-hiq, <-ht]
     have hm:lastTo l (l.length%8)=kJ .or .u64 (qy (l.drop (8*i)) k) (IntKind.u64.wrap (IntKind.u64.wrap (Int.tmod (l.length:Int) 256)*2^min (Int.toNat 56) IntKind.u64.bits)):=by
      rw [SI,SK,show l.length-l.length%8=8*i by omega,show l.length%8=k by omega]
      rfl
     rw [hm]
     simp only [S4.word]
     rw [<-ZK]
     rfl
 ·have hge : ¬i<=l.length/8:=by rw [ZJ]at hge;have:=of_decide_eq_false hge;omega
  rw [if_neg hge]at ht
  conv=>whnf
  repeat (first|(refine jS.mk aam ?_;conv=>whnf)|(refine kY.mk rfl ?_;conv=>whnf)|(refine kT.keep rfl ?_;conv=>whnf)|(refine jZ rfl aal rfl ?_;conv=>whnf)|(refine kE rfl rfl rfl ?_;conv=>whnf)|(refine jV aal rfl rfl rfl ?_;intro _ _ _;conv=>whnf))
  rename_i w4 o4 hb4
  refine rX rfl rfl hb4 ?_
  refine lW aac (wz 4 aah ⟨t.a,t.b,xor t.c 255,t.d⟩ _) ?_
  rintro _ w5 ⟨t5,ht5,rfl,U4⟩
  conv=>whnf
  have hb5:=hb4.below U4 hb4.lt
  refine qE (o:=0) (vs:=t5.cells) hb5 rfl rfl rfl ?_
  intro w6 o6 hb6
  conv=>whnf
  repeat (first|(refine jS.mk aam ?_;conv=>whnf)|(refine kY.mk rfl ?_;conv=>whnf)|(refine kT.keep rfl ?_;conv=>whnf)|(refine jZ rfl aal rfl ?_;conv=>whnf)|(refine kE rfl rfl rfl ?_;conv=>whnf)|(refine jV aal rfl rfl rfl ?_;intro _ _ _;conv=>whnf))
  refine nP.mk ⟨?_,(hB2.trans (o4.below (ay _))).trans ((U4.mono (jo hb4.lt)).trans (o6.below (ay _)))⟩
  have:vg k0 k1 l=xor (xor (xor t5.a t5.b) t5.c) t5.d:=by
   unfold vg S4.done
   rw [<-ht, <-ht5]
  rw [this]
  rfl
theorem LH (oa:Option Addr)(c:Nat)(vs:List Value)(ls:List (List UInt8))(w:World)(hlen:ls.length<=1099511627776)(hl:(frame ls).length<=140737488355328)(hr:Row w oa vs)(hf:Qo w vs ls) :
  uD Tryz.prog 382 #[.slice oa ls.length c] w fun v w'=> ∃lV c',v = .slice lV (frame ls).length c'∧Own w' w.heap.size 5 1 lV (frame ls).length c' (kV (frame ls))∧Below w.heap.size w w':=by
 refine kL func382 rfl mixed aac ?_
 refine oG (X:=Nat×Option Addr×Nat) SA (fun x=> [(3, .slice x.2.1 (kW ls x.1).length x.2.2),(4, .int .i64 x.1)]) (fun x w'=>x.1<=ls.length∧Below w.heap.size w w'∧Own w' w.heap.size 5 1 x.2.1 (kW ls x.1).length x.2.2 (kV (kW ls x.1))) (fun x=>ls.length-x.1) (0,none,0) aac
  ?_ ⟨aK _,Below.refl _ _,Own.nil _ _ _ _⟩ ?_
 ·exact⟨rfl,rfl,trivial⟩
 rintro⟨i,oo,cc⟩ w1 j ⟨hi,hB,ho⟩
 refine jH (fun hlt=> ?_) (fun hge=> ?_)
 ·have hlt:i<ls.length:=aaH
  obtain⟨b,o,rfl,hbl,hc⟩:=hr.get (by rw [hf.1];omega)
  obtain⟨oa1,c1,hv,hc1,hn1,hr1⟩:=hf.2 i hlt
  have hr1':=hr1.below hB
  have hL1:=vH ls (i+1)
  rw [qC ls i hlt]at hL1
  simp only [aG,pV]at hL1
  refine vP i rfl rfl rfl hlt ?_
  refine lH rfl (by rw [hB.cell (p:=⟨b,o+i,none⟩) hbl];exact hc _ _ hv) ?_
  refine oG (X:=Nat×Option Addr×Nat) SB (fun x=> [(3, .slice x.2.1 ((kW ls i).length+x.1) x.2.2),(6, .int .i64 (56-8*(x.1:Int)))]) (fun x w'=>x.1<=8∧Below w.heap.size w w'∧Own w' w.heap.size 5 1 x.2.1 ((kW ls i).length+x.1) x.2.2 (kV (kW ls i++qo ls[i].length x.1))) (fun x=>8-x.1) (0,oo,cc) aac
   ?_ ⟨aK _,hB,by simpa [qo]using ho⟩ ?_
  ·exact⟨rfl,rfl,trivial⟩
  rintro⟨k,o2,c2⟩ w2 j2 ⟨hk,hB2,ho2⟩
  simp only at hk ho2
  refine jH (fun hlt2=> ?_) (fun AZ=> ?_)
  ·have hlt2:k<8:=by have:=of_decide_eq_true hlt2;simp only at this;omega
   refine jS.mk (by rw [IntWalk.u64_in _ abf];simp only;omega) ?_
   refine mZ (B:=w.heap.size) (sz:=1) (nV:=1) (m:=1) (n:=(kW ls i).length+k) rfl rfl rfl rfl rfl rfl (ho2.alloc _) (Row.alloc1 _ _ _) rfl (fun u hu=>by simp at hu;subst hu;rfl) (fun e=>by cases e) aad (bZ hB2.size aaA) aaQ ?_
   intro o3 c3 w3 ho3 hB3 _
   refine nU.mk ⟨_, ?_,(k+1,o3,c3),rfl, ?_, ?_⟩
   ·show 8 -(k+1)<8-k;omega
   ·exact⟨rfl,mX aaP,trivial⟩
   ·refine⟨hlt2,(nR hB2 (ay _) _).trans hB3, ?_⟩
    simp only [qo]
    rw [<-bg,lT,wu]
    rw [Ey _ (7-k) aad aad _ (by rw [IntWalk.u64_in _ abf];simp only;omega)]at ho3
    exact ho3
  ·have AZ : ¬k<8:=by have:=of_decide_eq_false AZ;simp only at this;omega
   obtain rfl:k=8:=aad
   conv=>whnf
   have hr2:=hr1.below hB2
   refine vP i rfl rfl rfl hlt ?_
   refine lH rfl (by rw [hB2.cell (p:=⟨b,o+i,none⟩) hbl];exact hc _ _ hv) ?_
   refine mZ (B:=w.heap.size) (sz:=1) (nV:=1) (m:=ls[i].length) (n:=(kW ls i).length+8) rfl rfl rfl rfl rfl rfl ho2 hr2 aaA (pK _) hn1 aad hB2.size aaQ ?_
   intro o3 c3 w3 ho3 hB3 _
   conv=>whnf
   have hfs:=qC ls i hlt
   have hfl:(kW ls i).length+8+ls[i].length=(kW ls (i+1)).length:=by rw [hfs];simp [pV];omega
   refine nU.mk ⟨_, ?_,(i+1,o3,c3),rfl, ?_, ?_⟩
   ·show ls.length -(i+1)<ls.length-i;omega
   ·exact⟨Jw hfl,mX (incr aad),trivial⟩
   ·refine⟨hlt,hB2.trans hB3, ?_⟩
    rw [hfl, <-lT,bg, <-hfs]at ho3
    exact ho3
 ·have hge : ¬i<ls.length:=aaE
  obtain rfl:i=ls.length:=by simp only at hi;omega
  conv=>whnf
  have hfa:kW ls ls.length=frame ls:=by unfold kW;rw [fD]
  simp only [hfa]at ho
  exact nP.mk ⟨oo,cc,by simp only [hfa];rfl,ho,hB⟩
theorem Oy (d:Int)(oa:Option Addr)(c:Nat)(vs:List Value)(ls:List (List UInt8))(w:World)(hlen:ls.length<=1099511627776)(hl:(frame ls).length<=140737488355328)(hr:Row w oa vs)(hf:Qo w vs ls) :
  uD Tryz.prog 345 #[.int .u64 d, .slice oa ls.length c] w fun v w'=>v = .int .u64 (vg d 0 (frame ls))∧Below w.heap.size w w':=by
 refine kL func345 rfl mixed aac ?_
 refine lW aac (LH oa c vs ls w hlen hl hr hf) ?_
 rintro _ w1 ⟨o1,c1,rfl,ho1,hB1⟩
 refine lW aac (SL d 0 o1 c1 (frame ls) w1 aad ho1.row) ?_
 rintro _ w2 ⟨rfl,hB2⟩
 exact nP.mk ⟨rfl,hB1.trans (hB2.mono hB1.size)⟩
theorem WC (k d:Int)(oa:Option Addr)(c:Nat)(vs:List Value)(ls:List (List UInt8))(w:World)(hlen:ls.length<=1099511627776)(hl:(frame ls).length<=140737488355328)(hr:Row w oa vs)(hf:Qo w vs ls) :
  uD Tryz.prog 126 #[.int .u64 k, .int .u64 d, .slice oa ls.length c] w fun v w'=>v = .int .u64 (vg k (IntKind.u64.wrap (d+1)) (frame ls))∧Below w.heap.size w w':=by
 refine kL func126 rfl mixed aac ?_
 refine lW aac (Gn oa c vs ls w hlen hl hr hf) ?_
 rintro _ w1 ⟨o1,c1,rfl,ho1,hB1⟩
 refine lW aac (Ov k (IntKind.u64.wrap (d+1)) o1 c1 (frame ls) w1 aad ho1.row) ?_
 rintro _ w2 ⟨rfl,hB2⟩
 exact nP.mk ⟨rfl,hB1.trans (hB2.mono hB1.size)⟩
end Go.Proofs.YtnandbihiceihaaGreatDoor.Dg
namespace Go.Proofs.YtnandbihiceihaaGreatDoor.Vc
open RowKit Vc Dg Go.Proofs.Tryz
attribute [local irreducible] loadVar storeVar Instr.indexAt Instr.index Instr.sliceAt Instr.makeSlice Instr.lookup Instr.mapUpdate Instr.range Instr.next Instr.entry Instr.makeMap Builtin.append_ Builtin.copy_ Builtin.len_ Builtin.min_ Builtin.max_ Builtin.cap_ Builtin.delete_ Builtin.clear_ convert binOp eqGuard Op.unary Calls
theorem Gp {P:Program}{w:World}{K:Value->World->Prop}{t E:TypeId}{sz n b:Nat}(ht:P.underlying t=some (.array n E))(hs:szB P E=some sz)(k:K (.slice (some ⟨b,0,none⟩) n n) w) :
  kG P (Instr.sliceAt t (.pointer (some ⟨b,0,none⟩)) none none none) w K:=by
 refine lJ ?_ k
 unfold Instr.sliceAt
 rw [Sem.run_bind,jR ht]
 simp only [Result.andThen_ok,Instr.sureAddr,Sem.run_bind,Sem.run_pure,Instr.sliceBounds,mM hs]
 by_cases h0:n=0<;>simp [h0,add0]
theorem WE (oa uF:Option Addr)(n c m c2:Nat)(b d:List UInt8)(w:World)(hn:n=b.length)(hm:m=d.length)(hl:b.length+d.length<=2000000)(hc:n<=c)(hnil:oa=none->c=0)(hnil2:uF=none->c2=0)(hr:Row w oa (kV b))(hr2:Row w uF (kV d)) :
  uD Tryz.prog 192 #[.slice oa n c, .slice uF m c2] w fun v w'=> ∃lV c',v = .slice lV (n+m) c'∧Own w' w.heap.size 5 1 lV (n+m) c' (kV (b++d))∧Below w.heap.size w w':=by
 refine kL func192 rfl mixed aac ?_
 have e0:IntKind.i64.wrap ((n:Int)+(m:Int))=((n+m:Nat):Int):=aaB
 have lb : ∀l:List UInt8,(kV l).length=l.length:=fun l=>by simp [kV]
 conv=>whnf
 rw [e0]
 refine Ax.FZ (n:=0) (m:=n+m) (sz:=1) (nV:=1) rfl rfl rfl rfl rfl rfl (aK _) aad aaQ ?_
 intro w1 hw1 hb1
 have hB1:Below w.heap.size w w1:=by rw [hw1];exact nR (Below.refl _ _) (ay _) _
 have YE:Own w1 w.heap.size 5 1 (some ⟨w.heap.size,0,none⟩) 0 (n+m) []:=Own.wQ hb1 (ay _) (aK _) aaQ (by simp [Value.cells]) aaA
 refine mZ (B:=w.heap.size) (sz:=1) (nV:=1) (m:=n) (n:=0) rfl rfl rfl rfl rfl rfl YE (hr.below hB1) (by rw [lb];omega) (pK _) hnil aad hB1.size aaQ ?_
 intro o2 c2' w2 hO2 hB2 _
 refine mZ (B:=w.heap.size) (sz:=1) (nV:=1) (m:=m) (n:=0+n) rfl rfl rfl rfl rfl rfl hO2 (hr2.below (hB1.trans hB2)) (by rw [lb];omega) (pK _) hnil2 aad (bZ hB1.size hB2.size) aaQ ?_
 intro o3 c3' w3 hO3 hB3 _
 have hB:=(hB1.trans hB2).trans hB3
 rw [aJ,dD, <-lT]at hO3
 clear YE hO2 hB1 hB2 hB3
 rw [aJ]
 exact nP.mk ⟨o3,c3',rfl,hO3,hB⟩
def LJ (x i:Nat):List Value:=(List.range 8).map fun j=>if j<i then .int .u8 ((sW x (7-j)).toNat:Int)else .int .u8 0
theorem Oz (x i:Nat):(LJ x i).set i (.int .u8 ((sW x (7-i)).toNat:Int))=LJ x (i+1):=by
 unfold LJ
 apply List.ext_getElem
 ·simp
 ·intro k h1 h2
  simp only [List.getElem_set,List.getElem_map,iZ]
  by_cases hk:i=k
  ·subst hk;simp
  ·rw [if_neg hk]
   by_cases hki:k<i
   ·rw [if_pos hki,if_pos aad]
   ·rw [if_neg hki,if_neg aad]
theorem OA (x:Nat):LJ x 8=kV (qo x 8):=rfl
theorem I9 (oa:Option Addr)(n c:Nat)(b:List UInt8)(x:Nat)(w:World)(hn:n=b.length)(hl:b.length<=1000000)(hc:n<=c)(hnil:oa=none->c=0)(hx:x<18446744073709551616)(hr:Row w oa (kV b)) :
  uD Tryz.prog 125 #[.slice oa n c, .int .u64 x] w fun v w'=> ∃lV c',v = .slice lV (n+8) c'∧Own w' w.heap.size 5 1 lV (n+8) c' (kV (b++qo x 8))∧Below w.heap.size w w':=by
 refine kL func125 rfl mixed aac ?_
 refine oG (X:=Nat) Rj (fun i=> [(7, .int .i64 i)]) (fun i w'=>i<=8∧Below w.heap.size w w'∧oH w' w.heap.size (LJ x i) 266) (fun i=>8-i) 0 aac ?_ ⟨by decide,nR (Below.refl _ _) (ay _) _,oH.new w _ _⟩ ?_
 ·exact⟨rfl,trivial⟩
 rintro i w2 j ⟨hi,hB2,hb2⟩
 refine jH (fun hlt=> ?_) (fun hge=> ?_)
 ·have hlt:i<8:=aaH
  have e1:IntKind.i64.wrap (8*(i:Int))=((8*i:Nat):Int):=aaB
  have e2:IntKind.i64.wrap (56-IntKind.i64.wrap (8*(i:Int)))=((8*(7-i):Nat):Int):=by rw [e1,IntWalk.i64_in _ aad];omega
  refine jS.mk (by rw [e2];omega) ?_
  refine wO i rfl rfl rfl hlt ?_
  refine x9 hb2 rfl rfl (by simp [LJ];omega) ?_
  intro w3 o3 hb3
  refine nU.mk ⟨_, ?_,i+1,rfl, ?_, ?_⟩
  ·show 8 -(i+1)<8-i;omega
  ·exact⟨mX (incr aad),trivial⟩
  ·refine⟨hlt,hB2.trans (o3.below (ay _)), ?_⟩
   rw [e2]at hb3
   have:=Ey x (7-i) aad hx _ (rfl:((8*(7-i):Nat):Int)=_)
   rw [IntWalk.u64_in _ aad]at this
   rw [aJ,this,Oz x i]at hb3
   exact hb3
 ·have hge : ¬i<8:=aaE
  obtain rfl:i=8:=aad
  rw [OA]at hb2
  refine Gp (E:=5) (n:=8) rfl rfl ?_
  refine lW aac (WE oa (some ⟨w.heap.size,0,none⟩) n c 8 8 b (qo x 8) w2 hn (pV _ _).symm (by rw [pV];omega) hc hnil (fun e=>by cases e) (hr.below hB2) hb2.row) ?_
  rintro _ w3 ⟨o3,c3,rfl,hO3,hB3⟩
  have hB:=hB2.trans (hB3.mono hB2.size)
  have hO:Own w3 w.heap.size 5 1 o3 (n+8) c3 (kV (b++qo x 8)):=⟨hO3.1,hO3.2.imp id fun⟨g,cap,cur,h1,h0,h2⟩=>⟨g,cap,cur,h1,bZ hB2.size h0,h2⟩⟩
  clear hO3 hB3
  exact nP.mk ⟨o3,c3,rfl,hO,hB⟩
theorem Own.cut {w:World}{B:Nat}{E:TypeId}{sz:Nat}{oa:Option Addr}{n c h:Nat}{xs:List Value}(hO:Own w B E sz oa n c xs)(hh:h<=n):Own w B E sz oa h c (xs.take (h*sz)):=by
 have hl:=hO.1
 have hm:h*sz<=n*sz:=aP _ hh
 refine⟨by rw [aU];omega, ?_⟩
 rcases hO.2 with ⟨hv,hn⟩|⟨g,cap,cur,hv,hg,hb,h1,h2,h3,h4⟩
 ·injection hv with e1 e2 e3
  subst e1;subst e3
  exact .inl ⟨by rw [show h=0 by omega],by omega⟩
 ·injection hv with e1 e2 e3
  subst e1;subst e3
  exact .inr ⟨g,c,cur,rfl,hg,hb,by omega,h2,h3,by rw [<-h4,jC,eU hm]⟩
theorem JM {w:World}{B:Nat}{E:TypeId}{sz:Nat}{oa:Option Addr}{n c:Nat}{xs:List Value}(hO:Own w B E sz oa n c xs):n<=c:=by
 rcases hO.2 with ⟨hv,hn⟩|⟨g,cap,cur,hv,hg,hb,h1,_⟩
 ·omega
 ·injection hv with _ _ e3
  omega
theorem Ja {P:Program}{w:World}{K:Value->World->Prop}{t ty E:TypeId}{oa:Option Addr}{n c:Nat}(ht:P.underlying t=some (.slice E))(k:K (.int .i64 c) w):kG P (Builtin.cap_ #[t] ty #[.slice oa n c]) w K:=by
 refine lJ ?_ k
 unfold Builtin.cap_
 simp [Sem.run_bind,jR ht,goInt]
theorem Jb {P:Program}{w:World}{K:Value->World->Prop}{t tn ty E:TypeId}{sz nV n:Nat}{kn k:IntKind}{zs:List Value}(ht:P.underlying t=some (.slice E))(htn:P.underlying tn=some (.int kn))(hs:szB P E=some sz)(hby:l7 P E=some nV)(hz:pz P E=some zs)
  (hzl:zs.length=sz) (hsz:Nat.ble 1 sz=true) (h0:0<n) (hbytes:n*nV<=140737488355328) (hn:n<=maxLen)
  (hk : ∀c w' xs,Own w' w.heap.size E sz (some ⟨w.heap.size,0,none⟩) n c xs->Below w.heap.size w w'->K (.slice (some ⟨w.heap.size,0,none⟩) n c) w') :
  kG P (Builtin.append_ #[t,tn] ty #[.slice none 0 0, .int k (n:Int)]) w K:=by
 obtain⟨i,hi,rfl⟩:=lY hs
 have hb':i.bytes=nV:=by simpa [l7,hi]using hby
 subst hb'
 obtain⟨z,hz1,hz2⟩ : ∃z,i.zero=some z∧z.cells.toList=zs:=by
  unfold pz at hz
  simp only [hi,dh]at hz
  cases hzz:i.zero with
  | none=>simp [hzz]at hz
  | some z=>simp only [hzz,bn,aA]at hz;exact⟨z,rfl,hz⟩
 have hsz':1<=i.size:=ak hsz
 have hzc:z.cells.size=i.size:=aaI
 have hrun:=Lib.run_append_nil_zeros (P:=P) w t tn ty E i z k kn ht htn hi hz1 n h0 aad abm aad
 have hge:=grownCap_ge w n 0 E
 have hcm:=grownCap_le_maxLen w n 0 E hn
 have hcs : ∀m,(Builtin.zeroCells z.cells m).size=m*i.size:=fun m=>by simp [Builtin.zeroCells,hzc]
 refine lJ hrun (hk _ _ ((Builtin.zeroCells z.cells n++Builtin.zeroCells z.cells (grownCap w n 0 E-n)).toList.take (n*i.size)) (Own.wQ (cur:=(Builtin.zeroCells z.cells n++Builtin.zeroCells z.cells (grownCap w n 0 E-n)).toList) ?_ (ay _) hge hcm ?_ rfl) ?_)
 ·have:=oH.new w.drew (Builtin.zeroCells z.cells n++Builtin.zeroCells z.cells (grownCap w n 0 E-n)) E
  simpa using this
 ·rw [Array.length_toList,Array.size_append,hcs,hcs, <-aX]
  congr 1;omega
 ·exact nR (Below.drew (Below.refl _ _)) (ay _) _
theorem OB (n:Nat)(w:World)(hn:0<n)(hl:n<=1000000) :
  uD Tryz.prog 277 #[.slice none 0 0, .int .i64 n] w fun v w'=> ∃oa c,v = .slice oa 0 c∧Own w' w.heap.size 63 10 oa 0 c []∧Below w.heap.size w w':=by
 refine kL func277 rfl mixed aac ?_
 refine Ja rfl ?_
 have e0:IntKind.i64.wrap ((n:Int)-IntKind.i64.wrap (((0:Nat):Int) -((0:Nat):Int)))=(n:Int):=by rw [IntWalk.i64_in (((0:Nat):Int) -((0:Nat):Int)) aad,IntWalk.i64_in _ aad];omega
 conv=>whnf
 rw [e0,show decide ((n:Int)>0)=true from decide_eq_true aad]
 refine Ja rfl ?_
 refine zX (h:=0) (sz:=10) rfl rfl rfl (ay _) (ay _) ?_
 refine Jb (sz:=10) (nV:=112) rfl rfl rfl rfl rfl rfl rfl hn aad aaQ ?_
 intro c w1 xs hO hB
 have hc:=JM hO
 refine zX (h:=0) (sz:=10) rfl rfl rfl (aK _) hc ?_
 exact nP.mk ⟨_,_,rfl,by have:=hO.cut (aK n);simpa using this,hB⟩
end Go.Proofs.YtnandbihiceihaaGreatDoor.Vc
