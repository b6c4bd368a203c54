/- Joined parts of the proof. The walks of the reference's New, of the laws' empty disk and of the chapter's example; the laws of Sectors and of long  -/
import Derived.Test.YtocckceefcmeaaaGreatDoorPk19
import Derived.Test.YtocckceefcmeaaaGreatDoorPk14
import Derived.Test.YtocckceefcmeaaaGreatDoorPk16
import Derived.Test.YtocckceefcmeaaaGreatDoorPk17
import Derived.Test.YtocckceefcmeaaaGreatDoorPk18
import Derived.Test.YtocckceefcmeaaaGreatDoorPk12
import Derived.Test.YtocckceefcmeaaaGreatDoorPk15
import Derived.Test.YtocckceefcmeaaaGreatDoorPk11
set_option linter.unusedVariables false
set_option linter.unusedSimpArgs false
set_option maxRecDepth 100000
set_option maxHeartbeats 16000000
namespace Go.Proofs.YtocckceefcmeaaaGreatDoor.Cl
open Go Go.RowKit Go.Proofs Go.Proofs.YtocckceefcmeaaaGreatDoor.Vc Go.Proofs.YtocckceefcmeaaaGreatDoor.Ax Go.Proofs.YtocckceefcmeaaaGreatDoor.Ky
attribute [local irreducible] loadVar storeVar Instr.indexAt Instr.index Instr.sliceAt Instr.makeSlice Instr.lookup Instr.mapUpdate Instr.range Instr.next Instr.entry Instr.makeMap Builtin.append_ Builtin.copy_ Builtin.len_ Builtin.min_ Builtin.max_ Builtin.cap_ Builtin.delete_ Builtin.clear_ convert binOp eqGuard Op.unary Calls
def z64:By:=List.replicate 64 0
def dk0 (n:Nat):Dk:=⟨List.replicate n z64,List.replicate n z64, -1,0,false⟩
theorem MP (n:Nat):OB (List.replicate n z64):=fun s hs=>by rw [(List.mem_replicate.1 hs).2];rfl
theorem J9 {n:Nat}(h1:n%2=0)(h2:8≤n)(h3:n≤256):(dk0 n).ok:=by
 refine⟨?_, ?_, ?_,rfl,⟨Int.le_refl (-1),by show (-1:Int)≤9223372036854775807;decide⟩,⟨Int.le_refl 0,by show (0:Int)≤4611686018427387904;decide⟩,MP n,MP n⟩<;>simp [dk0]<;>omega
theorem TQ {α:Type}(n:Nat)(a:α):List.replicate (n+1) a=List.replicate n a++ [a]:=List.replicate_succ'
theorem YU (n:Nat)(h1:n%2=0)(h2:8≤n)(h3:n≤256):bD Tryz.prog GS 46 [iv n] 0 [] (Is (.bH [oN (dk0 n),iv 0])):=by
 have hm:((n:Int)).tmod 2=((n%2:Nat):Int):=rfl
 refine au Tryz.func46 rfl mixed (by kernel_rfl) ?_
 conv=>whnf
 apply ah<;>intro h
 ·exfalso;simp at h;omega
 conv=>whnf
 apply ah<;>intro h
 ·exfalso;simp at h;omega
 conv=>whnf
 refine ay.mk (by decide) ?_
 rw [hm,h1]
 conv=>whnf
 refine bg ZG 4 [5] (fun i:Nat=> [(5,iv i)]) (fun i=> [(0, .var 40 [.v (.slice none 0 0), .v (.slice none 0 0),iv 0,iv 0,bv false]),(1, .var 40 [.own 2, .own 3,iv (-1),iv 0,bv false]),(2, .rows 22 1 ((List.replicate i z64).map Af)),(3, .rows 22 1 ((List.replicate i z64).map Af))]) (fun i=>i≤n) (fun i=>n-i) [(2, .nil),(3, .nil)] [] 0 (by kernel_rfl) (fun _=>rfl) rfl (Nat.zero_le _) (by trivial) (by trivial) ?_
 intro i hi
 conv=>whnf
 apply ah<;>intro h
 rotate_left 1
 ·have hie:i=n:=by simp at h;omega
  subst hie
  conv=>whnf
  exact aX [2,3] (by trivial)
 have hlt:i<n:=by simp at h;omega
 conv=>whnf
 (refine aP YB [2,4,5] (by kernel_rfl) ?_;conv=>whnf)
 refine KG.mk' 64 rfl rfl ⟨by decide,by decide⟩ ?_
 conv=>whnf
 refine ay.mk (aG (by simp only [List.length_map,List.length_replicate,List.length_cons,List.length_nil];omega) (by kernel_rfl)) ?_
 conv=>whnf
 (refine aP YB [3,7,8] (by kernel_rfl) ?_;conv=>whnf)
 refine KG.mk' 64 rfl rfl ⟨by decide,by decide⟩ ?_
 conv=>whnf
 refine ay.mk (aG (by simp only [List.length_map,List.length_replicate,List.length_cons,List.length_nil];omega) (by kernel_rfl)) ?_
 conv=>whnf
 refine aI.i64 (by omega) ?_
 conv=>whnf
 have e : ∀i,List.map Af (List.replicate (i+1) z64)=List.map Af (List.replicate i z64)++ [[FV.lst 1 (List.replicate 64 [FV.v (Value.int .u8 0)])]]:=fun i=>by rw [TQ,List.map_append];rfl
 refine aF (i+1) [(2, .lab 6),(3, .lab 9)] [] rfl (by show n -(i+1)<n-i;omega) hlt ?_ ⟨rfl,trivial⟩
 simp only [e]
 trivial
theorem TT (k:Nat)(hk:k<256):bD Tryz.prog GS 17 [u8v k] 0 [] (Is (oN (dk0 (8+2*k%60)))):=by
 have hm:((2*k:Nat):Int).tmod 60=((2*k%60:Nat):Int):=rfl
 refine au Tryz.func17 rfl mixed (by kernel_rfl) ?_
 conv=>whnf
 refine aI.i64 (by omega) ?_
 conv=>whnf
 refine aI.to (y:=((2*k:Nat):Int)) (by rw [IntWalk.i64_in _ (by omega)];omega) ?_
 conv=>whnf
 refine ay.mk (by decide) ?_
 rw [hm]
 conv=>whnf
 refine aI.to (y:=((8+2*k%60:Nat):Int)) (by rw [IntWalk.i64_in _ (by omega)];omega) ?_
 conv=>whnf
 refine aj [] (by kernel_rfl) (YU (8+2*k%60) (by omega) (by omega) (by omega)) (by trivial) ?_
 rintro _ _ _ ⟨rfl,rfl,rfl⟩
 conv=>whnf
 exact aX [] (by trivial)
theorem TU:kC z64=false:=by
 have h:hG z64=0:=by decide
 unfold kC
 rw [h];simp
theorem adp (n:Nat):gG (List.replicate n z64)=XY:=by
 cases n with
 | zero=>rfl
 | succ n=>exact MH (by simp) (by simp [TU])
theorem MQ (n:Nat):AO (List.replicate n z64)=false:=by rw [uh,adp];rfl
theorem adq (n:Nat):ni 0 (List.replicate n z64)=0:=by
 induction n with
 | zero=>rfl
 | succ n ih=>
  unfold ni at ih ⊢
  rw [List.replicate_succ,List.foldl_cons,TU]
  exact ih
theorem EP:tab [] = [0]:=by decide
theorem Yd {n:Nat}(h2:8≤n) : ∃d:Dk,iK (dk0 n)=(⟨d,1,0,1,1,[]⟩,0)∧d.ops=2:=by
 have hl:(dk0 n).now.length=n:=by simp [dk0]
 have e1:hlf ((dk0 n).now.take ((dk0 n).now.length/2)) ((dk0 n).now.drop ((dk0 n).now.length/2))=(1,[]):=by
  have ta:(dk0 n).now.take ((dk0 n).now.length/2)=List.replicate (n/2) z64:=by
   rw [hl];show (List.replicate n z64).take (n/2)=_
   rw [List.take_replicate,Nat.min_eq_left (by omega)]
  have tb:(dk0 n).now.drop ((dk0 n).now.length/2)=List.replicate (n-n/2) z64:=by
   rw [hl];show (List.replicate n z64).drop (n/2)=_
   rw [List.drop_replicate]
  rw [ta,tb]
  unfold hlf
  rw [MQ,MQ]
  rfl
 have e2:iK (dk0 n)=lV ⟨dk0 n,0,1,0,0,[]⟩:=by
  unfold iK
  rw [if_neg (show ¬((dk0 n).dead=true) by show ¬(false=true);decide),e1]
 have e3:ni 0 (dk0 n).now=0:=adq n
 have e4:nS (tab [])=1:=by rw [EP];decide
 have e5:kJ 1 0 (tab [])=0:=by rw [EP];decide
 have e6:qO 1 0 (tab []) = [sec 1 0 0 1 (prt (tab []) 0)]:=by
  unfold qO;rw [if_pos e5];unfold secs wu;rw [e4];rfl
 refine⟨((dk0 n).put 0 (sec 1 0 0 1 (prt (tab []) 0))).flush, ?_,rfl⟩
 rw [e2]
 have hc:=yH (s:=⟨dk0 n,0,1,0,0,[]⟩) (d:=((dk0 n).put 0 (sec 1 0 0 1 (prt (tab []) 0))).flush) (e:=0) (by
  simp only [e3,hl,e4]
  rw [show (0:Int)+1=1 from rfl,e5]
  omega) (by
  simp only [e3]
  rw [show (0:Int)+1=1 from rfl,e6]
  show rJ (dk0 n) (0*_) _=_
  rw [Nat.zero_mul]
  rfl)
 rw [hc]
 simp only [e3,e4]
 rfl
theorem Ye:bD Tryz.prog GS 9 [] 0 [] (Is (bv true)):=by
 have hO:=fP (dk0 8) (J9 (by decide) (by decide) (by decide))
 obtain⟨d,e1,e2⟩:=Yd (n:=8) (by decide)
 rw [e1]at hO
 obtain⟨now,safe,fuse,ops,dead⟩:=d
 simp only at e2
 subst e2
 refine au Tryz.func9 rfl mixed (by kernel_rfl) ?_
 conv=>whnf
 refine aj [] (by kernel_rfl) (TT 0 (by decide)) (by trivial) ?_
 rintro _ _ _ ⟨rfl,rfl,rfl⟩
 conv=>whnf
 refine aj [] (by kernel_rfl) hO (by trivial) ?_
 rintro _ _ _ ⟨rfl,rfl,rfl⟩
 conv=>whnf
 exact aX [] rfl
theorem MR (d:Dk)(h:d.ok):bD Tryz.prog GS 53 [oN d] 0 [] (Is (bv true)):=by
 obtain⟨h1,h2,h3,h4,h5,h6,h7,h8⟩:=h
 have hN:=YU d.now.length h1 h2 h3
 refine au Tryz.func53 rfl mixed (by kernel_rfl) ?_
 conv=>whnf
 refine aj [] (by kernel_rfl) hN ⟨congrArg (fun n:Nat=>Value.int .i64 (n:Int)) (List.length_map _),trivial⟩ ?_
 rintro _ _ _ ⟨rfl,rfl,rfl⟩
 conv=>whnf
 apply ah<;>intro h
 ·exfalso;simp only [List.length_map]at h;simp at h;omega
 conv=>whnf
 apply ah<;>intro h
 ·exfalso;simp at h;omega
 conv=>whnf
 apply ah<;>intro h
 ·exfalso;simp at h;omega
 conv=>whnf
 apply ah<;>intro h
 ·exfalso;simp at h;omega
 conv=>whnf
 refine rE ZH [5] (fun i:Nat=> [(5,iv i)]) (fun i=>i≤d.now.length) (fun i=>d.now.length-i) 0 (by kernel_rfl) (fun _=>rfl) (by kernel_rfl) (Nat.zero_le _) (by trivial) (by trivial) ?_
 intro i hi
 conv=>whnf
 apply ah<;>intro h
 rotate_left 1
 ·conv=>whnf
  exact aX [] rfl
 have hlt:i<d.now.length:=by simp at h;omega
 have hlt2:i<d.safe.length:=by omega
 have a1:=h7 d.now[i] (List.getElem_mem hlt)
 have a2:=h8 d.safe[i] (List.getElem_mem hlt2)
 conv=>whnf
 refine bC.mk' i rfl (fQ hlt) ?_
 conv=>whnf
 refine aS.aA (List.getElem?_eq_getElem hlt) ?_
 conv=>whnf
 apply ah<;>intro h
 ·exfalso;rw [List.length_map,a1]at h;simp at h
 conv=>whnf
 refine bC.mk' i rfl (fQ hlt2) ?_
 conv=>whnf
 refine aS.aA (List.getElem?_eq_getElem hlt2) ?_
 conv=>whnf
 apply ah<;>intro h
 ·exfalso;rw [List.length_map,a2]at h;simp at h
 conv=>whnf
 refine aI.i64 (by omega) ?_
 conv=>whnf
 exact aF (i+1) [] [] rfl (by show d.now.length -(i+1)<d.now.length-i;omega) hlt (by trivial) ⟨rfl,trivial⟩
theorem Ib (l:List By)(hl:l.length≤100000):bD Tryz.prog GS 64 [ss l] 0 [] (lM 22 1 (l.map Af)):=by
 refine au Tryz.func64 rfl mixed (by kernel_rfl) ?_
 conv=>whnf
 refine ay.mk (aG (by simp only [List.length_map,List.length_nil];omega) (by kernel_rfl)) ?_
 conv=>whnf
 exact aV (.own 0) 1 _ [(0, .lab 1)] [] ⟨rfl,rfl,rfl⟩ rfl (by trivial) (by trivial)
def Dk.arm (d:Dk)(n:Int):Dk:= {d with fuse:=n}
theorem Dh (d:Dk)(h:d.ok)(n:Int):bD Tryz.prog GS 20 [oN d,iv n] 0 [] (Is (oN (d.arm (max n (-1))))):=by
 refine au Tryz.func20 rfl mixed (by kernel_rfl) ?_
 conv=>whnf
 (refine bf [] (by kernel_rfl) (MR d h) rfl ?_ ?_;(focus trivial))
 conv=>whnf
 exact aX [] (by trivial)
def kp (pick:By)(k:Nat):Bool:=decide (k/8<pick.length)&& !(bn .and .u8 (((pick.getD (k/8) 0).toNat:Int).fdiv (2^min (((k%8:Nat):Int).toNat) IntKind.u8.bits)) 1==0)
theorem adr {pick:By}{k:Nat}(h:k/8<pick.length):(bn .and .u8 ((pick[k/8].toNat:Int).fdiv (2^min (((k%8:Nat):Int).toNat) IntKind.u8.bits)) 1==0) = !kp pick k:=by
 unfold kp
 rw [decide_eq_true h,List.getD_eq_getElem?_getD,List.getElem?_eq_getElem h,Option.getD_some,Bool.true_and,Bool.not_not]
def yK (now safe:List By)(pick:By):Nat→List By×Nat
 | 0=>(now,0)
 | i+1=>if now.getD i []=safe.getD i []then yK now safe pick i else(if kp pick (yK now safe pick i).2 then(yK now safe pick i).1 else(yK now safe pick i).1.set i (safe.getD i []),(yK now safe pick i).2+1)
theorem Ic {now safe:List By}{pick:By}{i:Nat}(h1:i<now.length)(h2:i<safe.length)(h:now[i]=safe[i]):yK now safe pick (i+1)=yK now safe pick i:=by
 show (if _ then _ else _)=_
 rw [if_pos]
 rw [List.getD_eq_getElem?_getD,List.getD_eq_getElem?_getD,List.getElem?_eq_getElem h1,List.getElem?_eq_getElem h2,Option.getD_some,Option.getD_some,h]
theorem Ie {now safe:List By}{pick:By}{i:Nat}(h1:i<now.length)(h2:i<safe.length)(h:now[i]≠safe[i]){l:List By}{k:Nat}(e:yK now safe pick i=(l,k))(hk:kp pick k=true):yK now safe pick (i+1)=(l,k+1):=by
 show (if _ then _ else _)=_
 rw [if_neg,e,if_pos hk]
 rw [List.getD_eq_getElem?_getD,List.getD_eq_getElem?_getD,List.getElem?_eq_getElem h1,List.getElem?_eq_getElem h2,Option.getD_some,Option.getD_some]
 exact h
theorem Ba {now safe:List By}{pick:By}{i:Nat}(h1:i<now.length)(h2:i<safe.length)(h:now[i]≠safe[i]){l:List By}{k:Nat}(e:yK now safe pick i=(l,k))(hk:kp pick k=false):yK now safe pick (i+1)=(l.set i safe[i],k+1):=by
 show (if _ then _ else _)=_
 rw [if_neg,e,if_neg (by simp [hk]),List.getD_eq_getElem?_getD,List.getElem?_eq_getElem h2,Option.getD_some]
 rw [List.getD_eq_getElem?_getD,List.getD_eq_getElem?_getD,List.getElem?_eq_getElem h1,List.getElem?_eq_getElem h2,Option.getD_some,Option.getD_some]
 exact h
theorem Ko (now safe:List By)(pick:By)(h:safe.length=now.length) : ∀i,i≤now.length→(yK now safe pick i).1.length=now.length∧(yK now safe pick i).2≤i∧∀j,j<now.length→(yK now safe pick i).1[j]? = now[j]? ∨(yK now safe pick i).1[j]? = safe[j]? :=by
 intro i
 induction i with
 | zero=>intro _;exact⟨rfl,Nat.le_refl _,fun j _=> .inl rfl⟩
 | succ i ih=>
  intro hi
  obtain⟨a1,a2,a3⟩:=ih (by omega)
  obtain⟨l,k,e⟩ : ∃l k,yK now safe pick i=(l,k):=⟨_,_,rfl⟩
  rw [e]at a1 a2 a3
  have a1:l.length=now.length:=a1
  have a2:k≤i:=a2
  by_cases hs:now[i]=safe[i]
  ·rw [Ic (by omega) (by omega) hs,e];exact⟨a1,by show _≤_;omega,a3⟩
  cases hk:kp pick k with
  | true=>rw [Ie (by omega) (by omega) hs e hk];exact⟨a1,by show _≤_;omega,a3⟩
  | false=>
   rw [Ba (by omega) (by omega) hs e hk]
   refine⟨by rw [List.length_set];exact a1,by show _≤_;omega,fun j hj=> ?_⟩
   by_cases hij:i=j
   ·subst hij
    right
    rw [List.getElem?_set_self (by omega),List.getElem?_eq_getElem (by omega)]
   ·rw [List.getElem?_set_ne hij];exact a3 j hj
def Dk.crash (d:Dk)(pick:By):Dk:=⟨(yK d.now d.safe pick d.now.length).1,(yK d.now d.safe pick d.now.length).1, -1,d.ops,false⟩
structure CS where
 l:List By
 k:Nat
 i:Nat
theorem jU (d:Dk)(h:d.ok)(pick:By):bD Tryz.prog GS 26 [oN d,bs pick] 0 [] (Is (oN (d.crash pick))):=by
 have hhi:=h.hi
 have hsf:=h.sf
 have hC:=Ib d.now (by omega)
 have hat:=Ko d.now d.safe pick hsf
 refine au Tryz.func26 rfl mixed (by kernel_rfl) ?_
 conv=>whnf
 (refine bf [] (by kernel_rfl) (MR d h) rfl ?_ ?_;(focus trivial))
 conv=>whnf
 refine aj [] (by kernel_rfl) hC (by trivial) ?_
 rintro _ _ _ ⟨rfl,rfl,rfl⟩
 conv=>whnf
 refine bg ZA 4 [6,7] (fun x:CS=> [(6,iv x.k),(7,iv x.i)]) (fun x=> [(0, .var 40 (yF d)),(1, .var 40 [.v (.slice none 0 0), .v (.slice none 0 0),iv 0,iv 0,bv false]),(2, .var 40 [.own 3,ss d.safe,iv d.fuse,iv d.ops,bv d.dead]),(3, .rows 22 1 (x.l.map Af))]) (fun x=>x.i≤d.now.length∧yK d.now d.safe pick x.i=(x.l,x.k)) (fun x=>d.now.length-x.i) [] [] ⟨d.now,0,0⟩ (by kernel_rfl) (fun _=>rfl) rfl ⟨Nat.zero_le _,rfl⟩ (by trivial) (by trivial) ?_
 rintro⟨l,k,i⟩ ⟨hi,hI⟩
 dsimp only at hi hI
 have ha:=hat i hi
 rw [hI]at ha
 obtain⟨hll,hk, -⟩:=ha
 dsimp only at hll hk
 conv=>whnf
 apply ah<;>intro h
 rotate_left 1
 ·have hie:i=d.now.length:=by simp only [List.length_map]at h;simp at h;omega
  subst hie
  have hC2:=Ib l (by omega)
  have e:d.crash pick=⟨l,l, -1,d.ops,false⟩:=by unfold Dk.crash;rw [hI]
  rw [e]
  conv=>whnf
  refine aj [3] (by kernel_rfl) hC2 (by trivial) ?_
  rintro _ _ _ ⟨rfl,rfl,rfl⟩
  conv=>whnf
  exact aX [3,4] (by trivial)
 have hlt:i<d.now.length:=by simp only [List.length_map]at h;simp at h;omega
 have hlt2:i<d.safe.length:=by omega
 conv=>whnf
 (refine aP Qp [] (by kernel_rfl) ?_;conv=>whnf)
 have hln:i<l.length:=by omega
 refine bC.mk' i rfl (fQ hlt) ?_
 conv=>whnf
 refine aS.aA (List.getElem?_eq_getElem hlt) ?_
 conv=>whnf
 refine IX.of ?_
 conv=>whnf
 refine bC.mk' i rfl (fQ hlt2) ?_
 conv=>whnf
 refine aS.aA (List.getElem?_eq_getElem hlt2) ?_
 conv=>whnf
 refine IX.of ?_
 conv=>whnf
 rw [kH]
 by_cases hs:d.now[i]=d.safe[i]
 ·rw [decide_eq_true hs]
  conv=>whnf
  refine aI.i64 (by(try dsimp only);omega) ?_
  conv=>whnf
  exact aF ⟨l,k,i+1⟩ [] [] rfl (by show d.now.length -(i+1)<d.now.length-i;omega) ⟨hlt,(Ic hlt hlt2 hs).trans hI⟩ (by trivial) ⟨rfl,rfl,trivial⟩
 rw [decide_eq_false hs]
 have hm:((k:Nat):Int).tmod 8=((k%8:Nat):Int):=rfl
 conv=>whnf
 refine ay.mk (by decide) ?_
 refine aI.divN k 8 (by(try dsimp only);omega) ?_
 conv=>whnf
 apply ah<;>intro h
 ·have hkp:kp pick k=false:=by
   unfold kp
   rw [decide_eq_false (by simp only [List.length_map]at h;simp at h;omega),Bool.false_and]
  conv=>whnf
  (refine aP Qp [3] (by kernel_rfl) ?_;conv=>whnf)
  refine bC.mk' i rfl (fQ hlt2) ?_
  conv=>whnf
  refine aS.aA (List.getElem?_eq_getElem hlt2) ?_
  conv=>whnf
  refine bC.mk' i rfl (fQ hln) ?_
  conv=>whnf
  refine aS.aA (List.getElem?_eq_getElem hln) ?_
  conv=>whnf
  refine aI.i64 (by(try dsimp only);omega) ?_
  conv=>whnf
  refine aI.i64 (by(try dsimp only);omega) ?_
  conv=>whnf
  exact aF ⟨l.set i d.safe[i],k+1,i+1⟩ [] [] rfl (by show d.now.length -(i+1)<d.now.length-i;omega) ⟨hlt,Ba hlt hlt2 hs hI hkp⟩ (by simp only [List.map_set];trivial) ⟨rfl,rfl,trivial⟩
 have hlk:k/8<pick.length:=by simp only [List.length_map]at h;simp at h;omega
 conv=>whnf
 refine ay.mk (by decide) ?_
 refine aI.divN k 8 (by(try dsimp only);omega) ?_
 conv=>whnf
 refine bC.mk' (k/8) rfl (fQ hlk) ?_
 conv=>whnf
 refine aS.aA (List.getElem?_eq_getElem hlk) ?_
 conv=>whnf
 refine ay.mk (by decide) ?_
 rw [hm]
 conv=>whnf
 refine aI.to (y:=((k%8:Nat):Int)) (IntWalk.u64_in _ (by omega)) ?_
 conv=>whnf
 refine ay.mk (Int.natCast_nonneg _) ?_
 conv=>whnf
 rw [adr hlk]
 rcases Bool.eq_false_or_eq_true (kp pick k)with hkp | hkp
 ·rw [hkp]
  conv=>whnf
  refine aI.i64 (by(try dsimp only);omega) ?_
  conv=>whnf
  refine aI.i64 (by(try dsimp only);omega) ?_
  conv=>whnf
  exact aF ⟨l,k+1,i+1⟩ [] [] rfl (by show d.now.length -(i+1)<d.now.length-i;omega) ⟨hlt,Ie hlt hlt2 hs hI hkp⟩ (by trivial) ⟨rfl,rfl,trivial⟩
 ·rw [hkp]
  conv=>whnf
  (refine aP Qp [3] (by kernel_rfl) ?_;conv=>whnf)
  refine bC.mk' i rfl (fQ hlt2) ?_
  conv=>whnf
  refine aS.aA (List.getElem?_eq_getElem hlt2) ?_
  conv=>whnf
  refine bC.mk' i rfl (fQ hln) ?_
  conv=>whnf
  refine aS.aA (List.getElem?_eq_getElem hln) ?_
  conv=>whnf
  refine aI.i64 (by(try dsimp only);omega) ?_
  conv=>whnf
  refine aI.i64 (by(try dsimp only);omega) ?_
  conv=>whnf
  exact aF ⟨l.set i d.safe[i],k+1,i+1⟩ [] [] rfl (by show d.now.length -(i+1)<d.now.length-i;omega) ⟨hlt,Ba hlt hlt2 hs hI hkp⟩ (by simp only [List.map_set];trivial) ⟨rfl,rfl,trivial⟩
section
attribute [local irreducible] best ints en bd
end
section
attribute [local irreducible] best ints en bd
end
section
attribute [local irreducible] best ints en bd ji dsT
abbrev nx (r:Nat)(x:FV):Nat×AV:=(r,x.up)
abbrev no (aT t:Nat)(x:FV):Nat×dU:=(aT, .rows t 1 [[x]])
abbrev ne (n:Nat)(l:List (Nat×AV))(H:ak):Nat×List (Nat×AV)×ak:=(n,l,H)
end
section
attribute [local irreducible] best ints en bd ji dsT uK wG kK uJ
end
section
attribute [local irreducible] best ints en bd
end
section
attribute [local irreducible] best ints en bd
structure TY where
 ks:Tx
 j:Nat
 e:Int
end
section
attribute [local irreducible] best ints en bd ji dsT uK wG kK uJ
def tr (b:By)(bad:Bool):dU:= .var 145 [bs b,bv bad]
end
section
attribute [local irreducible] best ints en bd ji dsT uK wG kK uJ
structure KB (b:By)(n s:Nat)(body:By)(bad:Bool):Prop where
 sz:body.length≤100000
 full:MG b n fun c r=>body=rs s c∧bad=false
theorem KB.num {b:By}{n s:Nat}{body:By}{bad:Bool}(h:KB b n s body bad)(f:Ev→Int)(hf : ∀c,(cols c)[s]? = some (ints (c.map f)))(hs : ∀c,OW c→cO (c.map f)){l:List Int}{k:Nat}{ok:Bool}
  (hR : ∀l0 r,l0.length=n→cO l0→body=ints l0++r→ok=true∧l=l0∧body.drop k=r):KB b n (s+1) (body.drop k) (bad|| !ok)∧MG b n fun c _=>l=c.map f:=by
 have key:MG b n fun c _=>ok=true∧l=c.map f∧body.drop k=rs (s+1) c∧bad=false:=fun c r hc hn hb=>by
  obtain⟨h1,h2⟩:=h.full c r hc hn hb
  obtain⟨g1,g2,g3⟩:=hR (c.map f) (rs (s+1) c) (by rw [List.length_map,hn]) (hs c hc) (by rw [h1,yE s c _ (hf c)])
  exact⟨g1,g2,g3,h2⟩
 refine⟨⟨by rw [List.length_drop];have:=h.sz;omega,fun c r hc hn hb=> ?_⟩,fun c r hc hn hb=>(key c r hc hn hb).2.1⟩
 obtain⟨h1,_,h3,h4⟩:=key c r hc hn hb
 exact⟨h3,by rw [h1,h4];rfl⟩
theorem KB.txt {b:By}{n s:Nat}{body:By}{bad:Bool}(h:KB b n s body bad)(f:Ev→By)(hf : ∀c,(cols c)[s]? = some (ji (c.map f)))(hs : ∀c,OW c→yD (c.map f)){l:List By}{k:Nat}{ok:Bool}
  (hR : ∀l0 r,l0.length=n→yD l0→body=ji l0++r→ok=true∧l=l0∧body.drop k=r):KB b n (s+1) (body.drop k) (bad|| !ok)∧MG b n fun c _=>l=c.map f:=by
 have key:MG b n fun c _=>ok=true∧l=c.map f∧body.drop k=rs (s+1) c∧bad=false:=fun c r hc hn hb=>by
  obtain⟨h1,h2⟩:=h.full c r hc hn hb
  obtain⟨g1,g2,g3⟩:=hR (c.map f) (rs (s+1) c) (by rw [List.length_map,hn]) (hs c hc) (by rw [h1,yE s c _ (hf c)])
  exact⟨g1,g2,g3,h2⟩
 refine⟨⟨by rw [List.length_drop];have:=h.sz;omega,fun c r hc hn hb=> ?_⟩,fun c r hc hn hb=>(key c r hc hn hb).2.1⟩
 obtain⟨h1,_,h3,h4⟩:=key c r hc hn hb
 exact⟨h3,by rw [h1,h4];rfl⟩
structure Cs where
 a:Tx
 s:Li
 k:Li
 t:Li
 d:Tx
 nm:Tx
 o:Tx
 v:Li
 r:Li
 w:Li
def Cs.ev (x:Cs)(i:Nat):Ev:=⟨x.a.getD i [],x.s.getD i 0,x.k.getD i 0,x.t.getD i 0,x.d.getD i [],x.nm.getD i [],x.o.getD i [],x.v.getD i 0,x.r.getD i 0,x.w.getD i 0⟩
def Cs.evs (x:Cs)(n:Nat):List Ev:=(List.range n).map x.ev
structure Cs.ok (x:Cs)(n:Nat):Prop where
 a:x.a.length=n∧yD x.a
 s:x.s.length=n∧cO x.s
 k:x.k.length=n∧cO x.k
 t:x.t.length=n∧cO x.t
 d:x.d.length=n∧yD x.d
 nm:x.nm.length=n∧yD x.nm
 o:x.o.length=n∧yD x.o
 v:x.v.length=n∧cO x.v
 r:x.r.length=n∧cO x.r
 w:x.w.length=n∧cO x.w
theorem Cs.Yf (x:Cs)(n:Nat):(x.evs n).length=n:=by simp [Cs.evs]
theorem Cs.of (c:List Ev):Cs.evs ⟨c.map (·.client),c.map (·.seq),c.map (·.kind),c.map (·.time),c.map (·.id),c.map (·.name),c.map (·.other),c.map (·.ver),c.map (·.arm),c.map (·.val)⟩ c.length=c:=by
 apply List.ext_getElem
 ·rw [Cs.Yf]
 ·intro i h1 h2
  simp [Cs.evs,Cs.ev,List.getD_eq_getElem?_getD,h2]
end
section
attribute [local irreducible] num hsh oV kC gG lg tY tab kL wG sec hG hF hI hN
end
section
attribute [local irreducible] num hsh oV kC gG lg tY rO tab kL wG sec hG hF hI hN
structure RS where
 out:List Ev
 j:Nat
 k:Nat
structure PS where
 g:Int
 h:Nat
 i:Nat
end
section
attribute [local irreducible] num hsh oV kC gG lg tY rO tab kL wG sec hG hF hI hN
theorem TW (l:List Ev)(hl:l.length≤1000000):bD Tryz.prog GS 27 [el l,el l] 0 [] (Is (bv true)):=by
 refine au Tryz.func27 rfl mixed (by kernel_rfl) ?_
 conv=>whnf
 apply ah<;>intro h
 ·exfalso;simp at h
 conv=>whnf
 refine bg Qq 0 [5] (fun i:Nat=> [(5,iv i)]) (fun _=> []) (fun i=>i≤l.length) (fun i=>l.length-i) [] [] 0 (by kernel_rfl) (fun _=>rfl) rfl (Nat.zero_le _) trivial ⟨rfl,trivial⟩ ?_
 intro i hi
 conv=>whnf
 apply ah<;>intro h
 ·have hlt:i<l.length:=by simp at h;omega
  conv=>whnf
  (refine aP Yz [] (by kernel_rfl) ?_;conv=>whnf)
  repeat' (first
   | (refine And.intro ?_ ?_<;>(conv=>whnf))
   | (refine bC.mk' i rfl (fQ hlt) ?_;conv=>whnf)
   | (refine aS.aA (List.getElem?_eq_getElem hlt) ?_;conv=>whnf))
  refine kG.mk (by kernel_rfl) rfl rfl ?_
  conv=>whnf
  apply ah<;>intro h
  ·exfalso
   simp [kH]at h
  conv=>whnf
  refine aI.i64 (by omega) ?_
  conv=>whnf
  exact aF (i+1) [] [] rfl (by show l.length -(i+1)<l.length-i;omega) hlt trivial ⟨rfl,trivial⟩
 ·conv=>whnf
  exact aX [] (by trivial)
end
section
def Ig:Tx:= [[97,110,110],[98,111,98],[99,97,116],[100,97,110],[101,118,101],[102,97,121]]
def fC (n:Nat):By:=Ig.getD (n%6) []
theorem YV:bD Tryz.prog GC 128 [] 0 [] (lM 9 1 (Ig.map xK)):=by
 refine au Tryz.func128 rfl mixed (by kernel_rfl) ?_
 conv=>whnf
 exact aV (.own 0) 1 _ [(0, .lab 0)] [] ⟨rfl,rfl,rfl⟩ rfl (by trivial) (by trivial)
theorem Bc:Ig.length=6:=rfl
attribute [local irreducible] Ig
theorem Kq (n:Nat)(hn:n<1000000):bD Tryz.prog GC 94 [iv n] 0 [] (Is (tv (fC n))):=by
 refine au Tryz.func94 rfl mixed (by kernel_rfl) ?_
 conv=>whnf
 (refine aj [] (by kernel_rfl) (YV) ?_ ?_;(focus trivial))
 rintro _ _ _ ⟨rfl,rfl,rfl⟩
 conv=>whnf
 (refine aj [] (by kernel_rfl) (YV) ?_ ?_;(focus trivial))
 rintro _ _ _ ⟨rfl,rfl,rfl⟩
 conv=>whnf
 rw [List.length_map,Bc]
 refine ay.mk (by decide) ?_
 conv=>whnf
 have hlt:n%6<Ig.length:=by rw [Bc];omega
 refine bC.mk' (n%6) rfl (fQ hlt) ?_
 conv=>whnf
 refine aS.aA (List.getElem?_eq_getElem hlt) ?_
 conv=>whnf
 refine aX [] (congrArg (fun x:By=>Value.string ⟨x.toArray⟩) ?_)
 unfold fC
 rw [List.getD_eq_getElem?_getD,List.getElem?_eq_getElem hlt]
 rfl
end
def Kr (L:By)(at_:Nat):dU:= .var 131 [bs L,iv at_]
def kU (L:By)(at_ n:Nat):Nat:=(L.getD at_ 0).toNat%n
def jD (L:By)(at_:Nat):Nat:=if at_<L.length then at_+1 else at_
theorem iU (L:By)(at_ n:Nat)(h:0<n):kU L at_ n<n:=Nat.mod_lt _ h
theorem gY {L:By}{at_:Nat}(h:at_≤L.length):jD L at_≤L.length:=by unfold jD;split<;>omega
theorem ads (L:By)(at_ n:Nat)(hn:0<n)(hn2:n≤256)(hL:at_≤100000)(ha:at_≤L.length):bD Tryz.prog GS 93 [.ptr 0 0,iv n] 1 [(0,Kr L at_)] (fun a m H=>a=iv (kU L at_ n)∧m=1∧H = [(0,Kr L (jD L at_))]):=by
 refine au Tryz.func93 rfl mixed (by kernel_rfl) ?_
 conv=>whnf
 (refine aP YC [] (by kernel_rfl) ?_;conv=>whnf)
 apply ah<;>intro h
 ·have hge:L.length≤at_:=by simp at h;omega
  conv=>whnf
  refine aV (iv (kU L at_ n)) 1 [(0,Kr L (jD L at_))] [] [] ⟨rfl,rfl,rfl⟩ rfl ?_ ?_
  ·unfold jD;rw [if_neg (by omega)];trivial
  ·unfold kU;rw [List.getD_eq_getElem?_getD,List.getElem?_eq_none hge,Option.getD_none,show (0:UInt8).toNat=0 from rfl,Nat.zero_mod];trivial
 have hlt:at_<L.length:=by simp at h;omega
 conv=>whnf
 refine aI.i64 (by omega) ?_
 conv=>whnf
 (refine aP YC [] (by kernel_rfl) ?_;conv=>whnf)
 repeat' (first
  | (refine And.intro ?_ ?_<;>(conv=>whnf))
  | (refine aI.to (y:=((at_:Nat):Int)) (by rw [show ((at_:Nat):Int)+1-1=((at_:Nat):Int) by omega];exact IntWalk.i64_in _ (by omega)) ?_;conv=>whnf)
  | (refine bC.mk' at_ rfl (fQ hlt) ?_;conv=>whnf)
  | (refine aS.aA (List.getElem?_eq_getElem hlt) ?_;conv=>whnf)
  | (refine aI.i64 (by have:=L[at_].toNat_lt;omega) ?_;conv=>whnf)
  | (refine ay.mk (by omega) ?_;conv=>whnf))
 refine aV (iv (kU L at_ n)) 1 [(0,Kr L (jD L at_))] [] [] ⟨rfl,rfl,rfl⟩ rfl ?_ ?_
 ·unfold jD;rw [if_pos hlt];trivial
 ·unfold kU;rw [List.getD_eq_getElem?_getD,List.getElem?_eq_getElem hlt];exact rfl
theorem uw (L:By)(at_ n:Nat)(hn:0<n)(hn2:n≤256)(hL:L.length≤100000)(ha:at_≤L.length):bD Tryz.prog GS 93 [.ptr 0 0,iv n] 1 [(0,Kr L at_)] (fun a m H=>a=iv (kU L at_ n)∧m=1∧H = [(0,Kr L (jD L at_))]):=ads L at_ n hn hn2 (by omega) ha
theorem adt (L:By)(at_:Nat):bD Tryz.prog GS 92 [.ptr 0 0] 1 [(0,Kr L at_)] (fun a m H=>a=bv (decide (at_<L.length))∧m=1∧H = [(0,Kr L at_)]):=by
 refine au Tryz.func92 rfl mixed (by kernel_rfl) ?_
 conv=>whnf
 (refine aP acn [] (by kernel_rfl) ?_;conv=>whnf)
 refine aV (bv (decide (at_<L.length))) 1 [(0,Kr L at_)] [] [] ⟨rfl,rfl,rfl⟩ rfl (by trivial) ?_
 refine congrArg Value.bool ?_
 rw [List.length_map]
 exact decide_eq_decide.2 (by omega)
def gZ:Tx:= [[98,108,117,101],[103,114,101,101,110],[102,97,115,116],[115,108,111,119]]
def pR:Tx:= [[98,117,121],[118,105,115,105,116]]
theorem uy:bD Tryz.prog GS 95 [] 0 [] (lM 9 1 (gZ.map xK)):=by
 refine au Tryz.func95 rfl mixed (by kernel_rfl) ?_
 conv=>whnf
 exact aV (.own 0) 1 _ [(0, .lab 0)] [] ⟨rfl,rfl,rfl⟩ rfl (by trivial) (by trivial)
theorem Ua:bD Tryz.prog GS 96 [] 0 [] (lM 9 1 (pR.map xK)):=by
 refine au Tryz.func96 rfl mixed (by kernel_rfl) ?_
 conv=>whnf
 exact aV (.own 0) 1 _ [(0, .lab 0)] [] ⟨rfl,rfl,rfl⟩ rfl (by trivial) (by trivial)
def wK:Tx:= [[97,112,112],[116,97,98],[119,101,98]]
structure EvP (e:Ev):Prop where
 client:e.client∈wK
 id : ∃k:Nat,k<6∧e.id=fC k
 seq:1≤e.seq∧e.seq≤60
 time:0≤e.time∧e.time≤180
 kinds:(e.kind=1∧(∃k:Nat,k<2∧e.name=gZ.getD k [])∧e.other = []∧(1≤e.arm∧e.arm≤3)∧(1≤e.ver∧e.ver≤2)∧e.val=0)∨
  (e.kind=2∧(∃k:Nat,k<2∧e.name=pR.getD k [])∧e.other = []∧e.ver=0∧e.arm=0∧(-4≤e.val∧e.val≤35))∨
  (e.kind=3∧e.name = []∧(∃k:Nat,k<7∧e.other=fC k)∧e.other≠e.id∧e.ver=0∧e.arm=0∧e.val=0)
structure Yg (l:List Ev):Prop where
 len:l.length≤60
 all : ∀e∈l,EvP e
 asc:l.Pairwise fun a b=>a.time≤b.time
structure ES where
 out:List Ev
 a:Nat
 tm:Nat
 sq:List Nat
 last:Int
structure EI (L:By)(x:ES):Prop where
 at_:x.a≤L.length
 P:Yg x.out
 tm:x.tm≤3*x.out.length
 le : ∀e∈x.out,e.time≤(x.tm:Int)
 sl:x.sq.length=3
 sb : ∀k∈x.sq,k≤x.out.length
 last : -1≤x.last∧x.last≤2
def enN (n:Nat):List FV:= [iF n]
theorem aI.div {K:Int→Prop}(v k:Nat)(hv:v<1000000)(c:K ((v/k:Nat):Int)):aI .i64 ((v:Int).tdiv (k:Int)) K:=by
 have h:=Nat.div_le_self v k
 refine aI.to (y:=((v/k:Nat):Int)) ?_ c
 rw [show (v:Int).tdiv (k:Int)=((v/k:Nat):Int)from rfl]
 generalize v/k=q at *
 exact IntWalk.i64_in _ (by omega)
theorem qA {a b:Nat}(h:oU ⟨(fC a).toArray⟩ ⟨(fC b).toArray⟩=false):fC a≠fC b:=fun e=>by
 rw [kH,decide_eq_false_iff_not]at h;exact h e
theorem yL {a b:Nat}(ha:a<6)(hb:b<6)(h:oU ⟨(fC a).toArray⟩ ⟨(fC b).toArray⟩=true):fC (a+1)≠fC b:=by
 have h1:fC a=fC b:=by rw [kH,decide_eq_true_eq]at h;exact h
 have h2 : ∀a,a<6→∀b,b<6→fC a=fC b→fC (a+1)≠fC b:=by decide
 exact h2 a ha b hb h1
theorem fF (l:List Ev)(e:Ev):l.map jg++ [jg e]=(l++ [e]).map jg:=by rw [List.map_append];rfl
theorem EI.next {L:By}{out:List Ev}{a tm:Nat}{sq:List Nat}{last:Int}(h:EI L ⟨out,a,tm,sq,last⟩)(hl:out.length<60){a' st i k:Nat}(ha:a'≤L.length)(hst:st<4)(hi:i<3)(hk:k≤out.length){e:Ev}(het:e.time=((tm+st:Nat):Int))(he:EvP e):EI L ⟨out++ [e],a',tm+st,sq.set i (k+1),i⟩:=by
 obtain⟨hp,hP,htm,hle,hsl,hsb,hlast⟩:=h
 dsimp only at *
 have hn:(out++ [e]).length=out.length+1:=by rw [List.length_append];rfl
 refine⟨ha,⟨by dsimp only;omega,fun x hx=> ?_,List.pairwise_append.2 ⟨hP.asc,List.pairwise_singleton _ _,fun x hx y hy=> ?_⟩⟩,by dsimp only;omega,fun x hx=> ?_,by dsimp only;rw [List.length_set];exact hsl,fun x hx=> ?_,by dsimp only;omega⟩
 ·rcases List.mem_append.1 hx with h | h
  ·exact hP.all x h
  ·rw [List.mem_singleton]at h;rw [h];exact he
 ·rw [List.mem_singleton]at hy
  have:=hle x hx
  rw [hy];omega
 ·dsimp only at hx ⊢
  rcases List.mem_append.1 hx with h | h
  ·have:=hle x h;omega
  ·rw [List.mem_singleton]at h;rw [h];omega
 ·dsimp only at hx ⊢
  rcases List.mem_or_eq_of_mem_set hx with h | h
  ·have:=hsb x h;omega
  ·omega
def NxC (L:By)(p n v q:Nat):Prop:=v<n∧q≤L.length∧bD Tryz.prog GS 93 [.ptr 0 0,iv n] 1 [(0,Kr L p)] (fun a m H=>a=iv v∧m=1∧H = [(0,Kr L q)])
end Go.Proofs.YtocckceefcmeaaaGreatDoor.Cl
