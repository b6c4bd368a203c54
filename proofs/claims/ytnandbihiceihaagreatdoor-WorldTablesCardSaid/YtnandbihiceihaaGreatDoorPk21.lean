/- Joined parts of the proof. The walk of the reference's Samples -/
import Derived.Test.YtnandbihiceihaaGreatDoorPk20
import Derived.Test.YtnandbihiceihaaGreatDoorPk19
import Derived.Test.YtnandbihiceihaaGreatDoorPk17
import Derived.Test.YtnandbihiceihaaGreatDoorPk13
set_option linter.unusedVariables false
set_option linter.unusedSimpArgs false
set_option maxRecDepth 100000
set_option maxHeartbeats 16000000
namespace Go.Proofs.YtnandbihiceihaaGreatDoor.Cl
open RowKit Vc Ax Ky Go.Proofs.YtnandbihiceihaaGreatDoor.Id Go.Proofs.Tryz
attribute [local irreducible] loadVar storeVar Instr.indexAt Instr.index Instr.sliceAt Instr.makeSlice Instr.lookup Instr.mapUpdate Instr.range Instr.next Instr.entry Instr.makeMap Builtin.append_ Builtin.copy_ Builtin.len_ Builtin.min_ Builtin.max_ Builtin.cap_ Builtin.delete_ Builtin.clear_ convert binOp eqGuard Op.unary Calls
def owL (ls:List Lk)(xs:List Ex)(l:List Ev):Li:=l.map fun e=>Ar ls xs e.id e.time
def yL (A:Li)(i:Nat):Li:=A.take i++List.replicate (A.length-i) 0
theorem S9 {A:Li}{i:Nat}(h:i<=A.length):(yL A i).length=A.length:=by unfold yL;simp;omega
theorem Tc {A:Li}{i:Nat}{a:Int}(h:A[i]? = some a):(yL A i).set i a=yL A (i+1):=by
 obtain⟨hi,rfl⟩:=aB.1 h
 unfold yL
 rw [aG hi,jd _ _ aev]
 simp only [aN]
 rw [show i-min i A.length=0 by omega,show A.length-i=(A.length -(i+1))+1 by omega,fK,List.set_cons_zero,bW]
 rfl
theorem MW {ls:List Lk}{xs:List Ex}{id:By}{t:Int}{k:Nat} : Ar ls xs id t=(k:Int)↔BF ls xs id t=some k:=by
 unfold Ar
 cases BF ls xs id t with
 | none=>simp;try omega
 | some j=>simp;try omega
theorem Ws (l:List Ev)(name:By)(m:Mt)(mark:Int)(hB:EvB l)(hasc:l.Pairwise fun a b=>a.time<=b.time)(z1:m.name.length<=140737488355328)(z2:m.below.length<=140737488355328) :
  mP Tryz.prog GS 44 [el l,tv name,Jl m,iv mark] 0 [] (Is (smL (if Bh m=0 then EX l name m mark else []))):=by
 have hlen:=hB.len
 have hls:(oM l).length<=50000:=aho
 refine lJ func44 rfl mixed aag ?_
 conv=>(whnf)
 (refine lM [] aag (ZR m z1 z2) rfl ?_ ?_;(focus trivial))
 conv=>(whnf)
 apply lH<;>intro h
 ·rw [if_neg aaE]
  conv=>(whnf)
  exact lQ [] aam
 have hm:Bh m=0:=aaE
 rw [if_pos hm]
 obtain⟨rw,rc,rl,rb⟩:=F5 hm
 have htm:=hB.tim hm name
 conv=>(whnf)
 refine qc [] aag (adM l name aai hasc) aam ?_
 have hall:=P6 l name m mark
 have hsucc:=fun(i:Nat)=>JZ (l:=l) (name:=name) (m:=m) (mark:=mark) (i:=i)
 have hsl:=P7 l name m mark
 have hse : ∀k x,V8 l name m k x=⟨x,lim m (MN m (uD (oM l) (uY l name) m.window k x (oq 2 l))),lim m (PG m (uD (oM l) (uY l name) m.window k x (oq 2 l))),if m.before=0 then 0 else lim m (MN m (xg (oM l) m.before x (oq 2 l))),yT (oM l) (uY l name) name m.window k x (oq 1 l)⟩:=fun _ _=>rfl
 have hxl:(uY l name).length<=10000:=bG (zD _ _ _) (bG (qR 1 l) hlen)
 have hown:=fun id t=>adO (G:=GS) l (uY l name) id t aai aai
 generalize uY l name=xs at *
 have hlk:=MP (G:=GS) l aai
 generalize am1:oM l=ls at *
 conv=>(whnf)
 refine uT.mk' (qp:=8) l.length ahM ahM ⟨by omega,by unfold maxLen;omega⟩ ?_
 have hol:(owL ls xs l).length=l.length:=by unfold owL;simp
 conv=>(whnf)
 refine mY afi 2 [11] (fun i:Nat=> [(11,iv i)]) (fun i=> [(0,Qv m),(1, .rows 3 1 ((yL (owL ls xs l) i).map zx))]) (fun i=>i<=l.length) (fun i=>l.length-i) [] [] 0 aag (fun _=>rfl) rfl (aH _) ⟨aam,⟨rfl,rfl, ?_⟩,trivial⟩ aam ?_
 ·unfold yL
  rw [iM,dI,jK,hol,iD]
  rfl
 intro i hi
 conv=>(whnf)
 apply lH<;>intro h
 ·have hlt:i<l.length:=aaG
  have hg:=ah hlt
  have hoi:(owL ls xs l)[i]? = some (Ar ls xs l[i].id l[i].time):=by unfold owL;rw [aJ,hg];rfl
  have hst:=Tc hoi
  have hfl:=S9 (A:=owL ls xs l) (i:=i) aai
  generalize l[i]=e at *
  conv=>(whnf)
  (refine lX uO [1] aag ?_;conv=>(whnf))
  have ho:=hown e.id e.time
  repeat' (first
   | (refine And.intro ?_ ?_<;>(conv=>(whnf)))
   | (refine mJ.mk' i rfl (pF hlt) ?_;conv=>(whnf))
   | (refine mJ.mk' i rfl (by rw [aj,hfl,hol];exact hlt) ?_;conv=>(whnf))
   | (refine mQ.lU hg ?_;conv=>(whnf))
   | (refine mQ.map (by rw [hfl,hol];exact hlt) ?_;conv=>(whnf))
   | ((refine lM [] aag (ho) rfl ?_ ?_;(focus (trivial;done));(conv=>(whnf)))))
  refine lN.i64 aai ?_
  conv=>(whnf)
  refine lK (i+1) [] [] rfl aaF hlt ⟨aam,⟨rfl,rfl, ?_⟩,trivial⟩ aam
  rw [<-hst,dF]
  rfl
 have hie:i=l.length:=aaG
 subst hie
 have hfa:yL (owL ls xs l) l.length=owL ls xs l:=by unfold yL;rw [dR aai,hol];simp
 rw [hfa]
 have hog : ∀(i:Nat) (e:Ev),l[i]? = some e->(owL ls xs l)[i]? = some (Ar ls xs e.id e.time):=fun i e h=>by unfold owL;rw [aJ,h];rfl
 generalize owL ls xs l=ow at *
 conv=>(whnf)
 refine mY afj 3 [12,13] (fun k:Nat=> [(12, .own 2),(13,iv k)]) (fun k=> [(0,Qv m),(1, .rows 3 1 (ow.map zx)),(2, .rows 101 10 ((EZ l name m mark k).map UR))]) (fun k=>k<=xs.length) (fun k=>xs.length-k) [(2, .nil)] [] 0 aag (fun _=>rfl) rfl (aH _) aam aam ?_
 intro k hk
 conv=>(whnf)
 apply lH<;>intro h
 rotate_left
 ·have hke:k=xs.length:=aaG
  subst hke
  rw [hall]
  conv=>(whnf)
  exact lQ [2] aam
 have hlk2:k<xs.length:=aaG
 have hgx:=ah hlk2
 have htx:=htm.xs _ (aV hlk2)
 have hs:=hsucc k hlk2
 have aez : ∀id t,BF ls xs id t=some k->xs[k].time<=t:=fun id t ho=>by
  obtain⟨_,hp⟩:=ML ho
  unfold Iu at hp
  simp only [ak,decide_eq_true_eq]at hp
  exact hp.1
 have hse:=hse k xs[k]
 have hsk:=hsl k
 generalize xs[k]=x at *
 generalize EZ l name m mark k=out at *
 conv=>(whnf)
 (refine lX uO [] aag ?_;conv=>(whnf))
 refine mJ.mk' k rfl (pF hlk2) ?_
 conv=>(whnf)
 refine mQ.lU hgx ?_
 conv=>(whnf)
 refine lN.i64 aai ?_
 conv=>(whnf)
 refine lH (fun h1=> ?_) (fun h1=> ?_)
 ·rw [if_neg ahZ]at hs
  conv=>(whnf)
  refine lN.i64 aai ?_
  conv=>(whnf)
  exact lK (k+1) [(2, .lab 2)] [] rfl ahQ hlk2 ⟨aam,aam,⟨rfl,rfl,by rw [hs]⟩,trivial⟩ aam
 rw [if_pos ahZ]at hs
 conv=>(whnf)
 refine mJ.mk' k rfl (pF hlk2) ?_
 conv=>(whnf)
 refine mQ.lU hgx ?_
 conv=>(whnf)
 have hu2:=mP.BD (MO (G:=GS) ls x.time aai)
 have hul:=FY x.time ls
 (refine lX uO [] aag ?_;conv=>(whnf))
 repeat' (first
  | (refine And.intro ?_ ?_<;>(conv=>(whnf)))
  | (refine mJ.mk' k rfl (pF hlk2) ?_;conv=>(whnf))
  | (refine mQ.lU hgx ?_;conv=>(whnf))
  | ((refine oD [] aag (hlk) ?_ ?_;(focus (trivial;done));rintro _ _ _ ⟨rfl,rfl,rfl⟩;(conv=>(whnf))))
  | ((refine oD [] aag (hu2) ?_ ?_;(focus (trivial;done));rintro _ _ _ ⟨rfl,rfl,rfl⟩;(conv=>(whnf)))))
 refine mY afk 6 [15,16,18] (fun i:Nat=> [(15, .own 4),(16, .own 5),(18,iv i)]) (fun i=> [(0,Qv m),(1, .rows 3 1 (ow.map zx)),(2, .rows 101 10 (out.map UR)),(3, .var 101 ((UR ⟨x,0,0,0,yT ls xs name m.window k x (oq 1 (l.take i))⟩).map FV.up)),(4, .rows 63 10 ((uD ls xs m.window k x (oq 2 (l.take i))).map wX)),(5, .rows 63 10 ((xg ls m.before x (oq 2 (l.take i))).map wX))]) (fun i=>i<=l.length) (fun i=>l.length-i) [(4, .nil),(5, .nil)] [] 0 aag (fun _=>rfl) rfl (aH _) aam aam ?_
 intro i hi
 conv=>(whnf)
 refine lH (fun h2=> ?_) (fun h2=> ?_)
 rotate_left
 ·have hie:i=l.length:=agU
  subst hie
  rw [aZ]
  have hMe:Df (uD ls xs m.window k x (oq 2 l)):=hB.meas (PZ _ _ _ _ _ _) (bG (Dh _ _ _ _ _ _) (bG (qR 2 l) hlen))
  have hMb:Df (xg ls m.before x (oq 2 l)):=hB.meas (P5 _ _ _ _) (bG (Di _ _ _ _) (bG (qR 2 l) hlen))
  generalize uD ls xs m.window k x (oq 2 l)=ins at *
  generalize xg ls m.before x (oq 2 l)=bf at *
  generalize yT ls xs name m.window k x (oq 1 l)=mx at *
  conv=>(whnf)
  refine lM [4] aag (U5 m ins hm hMe z1 z2) rfl ?_ ?_;(focus trivial)
  conv=>(whnf)
  refine lH (fun h3=> ?_) (fun h3=> ?_)
  rotate_left
  ·have hb0:m.before=0:=akb
   rw [if_pos hb0]at hse
   conv=>(whnf)
   refine lW.mk (nG aaL aag) ?_
   conv=>(whnf)
   refine lN.i64 aai ?_
   conv=>(whnf)
   refine lK (k+1) [(2, .lab 7)] [] rfl ahQ hlk2 ⟨aam,aam,⟨rfl,rfl, ?_⟩,trivial⟩ aam
   rw [hs,hse,aS]
   rfl
  rw [if_neg (show ¬m.before=0 by simp at h3;omega)]at hse
  conv=>(whnf)
  refine lM [5] aag (U5 m bf hm hMb z1 z2) rfl ?_ ?_;(focus trivial)
  conv=>(whnf)
  refine lW.mk (nG aaL aag) ?_
  conv=>(whnf)
  refine lN.i64 aai ?_
  conv=>(whnf)
  refine lK (k+1) [(2, .lab 7)] [] rfl ahQ hlk2 ⟨aam,aam,⟨rfl,rfl, ?_⟩,trivial⟩ aam
  rw [hs,hse,aS]
  rfl
 have hlt:i<l.length:=agU
 have hg:=ah hlt
 have hoi:=hog i _ hg
 have hte:=hB.time _ (aV hlt)
 have ho1:=zF (k:=1) hlt
 have ho2:=zF (k:=2) hlt
 have hl1:(uD ls xs m.window k x (oq 2 (l.take i))).length<=10000:=bG (Dh _ _ _ _ _ _) (bG (qR _ _) ahg)
 have hl2:(xg ls m.before x (oq 2 (l.take i))).length<=10000:=bG (Di _ _ _ _) (bG (qR _ _) ahg)
 generalize l[i]=e at *
 have hI:uD ls xs m.window k x (oq 2 (l.take (i+1)))=if e.kind=2∧BF ls xs e.id e.time=some k∧e.time<x.time+m.window then uD ls xs m.window k x (oq 2 (l.take i))++ [e]else uD ls xs m.window k x (oq 2 (l.take i)):=by
  rw [ho2]
  by_cases hk2:e.kind=2
  ·rw [if_pos hk2,xW];simp only [hk2,true_and]
  ·rw [if_neg hk2,if_neg fun h=>hk2 h.1]
 have yY:xg ls m.before x (oq 2 (l.take (i+1)))=if e.kind=2∧x.time-m.before<=e.time∧e.time<x.time∧yQ ls x.time e.id=yQ ls x.time x.id then xg ls m.before x (oq 2 (l.take i))++ [e]else xg ls m.before x (oq 2 (l.take i)):=by
  rw [ho2]
  by_cases hk2:e.kind=2
  ·rw [if_pos hk2,JY];simp only [hk2,true_and]
  ·rw [if_neg hk2,if_neg fun h=>hk2 h.1]
 have Eh:yT ls xs name m.window k x (oq 1 (l.take (i+1)))=if e.kind=1∧BF ls xs e.id e.time=some k∧e.time<x.time+m.window then yT ls xs name m.window k x (oq 1 (l.take i))||(decide (e.name=name)&& !decide (e.arm=x.arm))else yT ls xs name m.window k x (oq 1 (l.take i)):=by
  rw [ho1]
  by_cases hk1:e.kind=1
  ·rw [if_pos hk1,Ag];simp only [hk1,true_and]
  ·rw [if_neg hk1,if_neg fun h=>hk1 h.1]
 clear ho1 ho2
 generalize uD ls xs m.window k x (oq 2 (l.take i))=wi at *
 generalize xg ls m.before x (oq 2 (l.take i))=bf at *
 generalize yT ls xs name m.window k x (oq 1 (l.take i))=mx at *
 conv=>(whnf)
 refine mJ.mk' i rfl (pF hlt) ?_
 conv=>(whnf)
 refine mQ.lU hg ?_
 conv=>(whnf)
 have adN:i<ow.length:=aai
 by_cases hk2:e.kind=2
 ·rw [if_neg fun h=>by omega]at Eh
  (refine lX uO [] aag ?_;conv=>(whnf))
  refine mJ.mk' i rfl (pF adN) ?_
  conv=>(whnf)
  refine mQ.lU hoi ?_
  conv=>(whnf)
  refine lH (fun h3=> ?_) (fun h3=> ?_)
  rotate_left
  ·rw [if_neg fun h=>by rw [MW.2 h.2.1]at h3;simp at h3]at hI
   conv=>(whnf)
   (refine lX uO [] aag ?_;conv=>(whnf))
   refine lH (fun q=> ?_) (fun q=> ?_)
   rotate_left
   ·exfalso;simp at q;omega
   conv=>(whnf)
   refine mJ.mk' k rfl (pF hlk2) ?_
   conv=>(whnf)
   refine mQ.lU hgx ?_
   conv=>(whnf)
   refine lN.i64 aai ?_
   conv=>(whnf)
   refine lH (fun u1=> ?_) (fun u1=> ?_)
   rotate_left
   ·skip
    rw [if_neg (fun h=>by simp at u1;omega)]at yY
    conv=>(whnf)
    refine lN.i64 aai ?_
    conv=>(whnf)
    exact lK (i+1) [(4, .lab 4),(5, .lab 5)] [] rfl aaF hlt ⟨aam,aam,aam,⟨rfl,by rw [Eh];trivial⟩,⟨rfl,rfl,by rw [hI];skip⟩,⟨rfl,rfl,by rw [yY]⟩,trivial⟩ aam
   conv=>(whnf)
   refine mJ.mk' k rfl (pF hlk2) ?_
   conv=>(whnf)
   refine mQ.lU hgx ?_
   conv=>(whnf)
   refine lH (fun u2=> ?_) (fun u2=> ?_)
   rotate_left
   ·skip
    rw [if_neg (fun h=>by simp at u2;omega)]at yY
    conv=>(whnf)
    refine lN.i64 aai ?_
    conv=>(whnf)
    exact lK (i+1) [(4, .lab 4),(5, .lab 5)] [] rfl aaF hlt ⟨aam,aam,aam,⟨rfl,by rw [Eh];trivial⟩,⟨rfl,rfl,by rw [hI];skip⟩,⟨rfl,rfl,by rw [yY]⟩,trivial⟩ aam
   conv=>(whnf)
   refine mJ.mk' k rfl (pF hlk2) ?_
   conv=>(whnf)
   refine mQ.lU hgx ?_
   conv=>(whnf)
   have sm:=MQ (G:=GS) (wF x.time ls) (ba e.id) (ba x.id) aai
   (refine lM [] aag (sm) rfl ?_ ?_;(focus (trivial;done));(conv=>(whnf)))
   refine lH (fun u3=> ?_) (fun u3=> ?_)
   rotate_left
   ·skip
    rw [if_neg (fun h=>(of_decide_eq_false u3) h.2.2.2)]at yY
    conv=>(whnf)
    refine lN.i64 aai ?_
    conv=>(whnf)
    exact lK (i+1) [(4, .lab 4),(5, .lab 5)] [] rfl aaF hlt ⟨aam,aam,aam,⟨rfl,by rw [Eh];trivial⟩,⟨rfl,rfl,by rw [hI];skip⟩,⟨rfl,rfl,by rw [yY]⟩,trivial⟩ aam
   rw [if_pos ⟨hk2,by simp at u1;omega,by simp at u2;omega,of_decide_eq_true u3⟩]at yY
   conv=>(whnf)
   refine lW.mk (nG aaL aag) ?_
   conv=>(whnf)
   refine lN.i64 aai ?_
   conv=>(whnf)
   refine lK (i+1) [(4, .lab 4),(5, .lab 8)] [] rfl aaF hlt ⟨aam,aam,aam,⟨rfl,by rw [Eh];trivial⟩,⟨rfl,rfl,by rw [hI];skip⟩,⟨rfl,rfl, ?_⟩,trivial⟩ aam
   rw [yY,aS]
   rfl
  have ho:BF ls xs e.id e.time=some k:=MW.1 ahq
  have htg:=aez _ _ ho
  conv=>(whnf)
  refine mJ.mk' k rfl (pF hlk2) ?_
  conv=>(whnf)
  refine mQ.lU hgx ?_
  conv=>(whnf)
  refine lH (fun q=> ?_) (fun q=> ?_)
  rotate_left
  ·exfalso;simp at q;omega
  conv=>(whnf)
  refine mJ.mk' k rfl (pF hlk2) ?_
  conv=>(whnf)
  refine mQ.lU hgx ?_
  conv=>(whnf)
  refine lN.i64 aai ?_
  conv=>(whnf)
  refine lH (fun h4=> ?_) (fun h4=> ?_)
  rotate_left
  ·rw [if_neg fun h=>by simp at h4;omega]at hI
   conv=>(whnf)
   (refine lX uO [] aag ?_;conv=>(whnf))
   refine lH (fun q=> ?_) (fun q=> ?_)
   rotate_left
   ·exfalso;simp at q;omega
   conv=>(whnf)
   refine mJ.mk' k rfl (pF hlk2) ?_
   conv=>(whnf)
   refine mQ.lU hgx ?_
   conv=>(whnf)
   refine lN.i64 aai ?_
   conv=>(whnf)
   refine lH (fun u1=> ?_) (fun u1=> ?_)
   rotate_left
   ·skip
    rw [if_neg (fun h=>by simp at u1;omega)]at yY
    conv=>(whnf)
    refine lN.i64 aai ?_
    conv=>(whnf)
    exact lK (i+1) [(4, .lab 4),(5, .lab 5)] [] rfl aaF hlt ⟨aam,aam,aam,⟨rfl,by rw [Eh];trivial⟩,⟨rfl,rfl,by rw [hI];skip⟩,⟨rfl,rfl,by rw [yY]⟩,trivial⟩ aam
   conv=>(whnf)
   refine mJ.mk' k rfl (pF hlk2) ?_
   conv=>(whnf)
   refine mQ.lU hgx ?_
   conv=>(whnf)
   refine lH (fun u2=> ?_) (fun u2=> ?_)
   rotate_left
   ·skip
    rw [if_neg (fun h=>by simp at u2;omega)]at yY
    conv=>(whnf)
    refine lN.i64 aai ?_
    conv=>(whnf)
    exact lK (i+1) [(4, .lab 4),(5, .lab 5)] [] rfl aaF hlt ⟨aam,aam,aam,⟨rfl,by rw [Eh];trivial⟩,⟨rfl,rfl,by rw [hI];skip⟩,⟨rfl,rfl,by rw [yY]⟩,trivial⟩ aam
   conv=>(whnf)
   refine mJ.mk' k rfl (pF hlk2) ?_
   conv=>(whnf)
   refine mQ.lU hgx ?_
   conv=>(whnf)
   have sm:=MQ (G:=GS) (wF x.time ls) (ba e.id) (ba x.id) aai
   (refine lM [] aag (sm) rfl ?_ ?_;(focus (trivial;done));(conv=>(whnf)))
   refine lH (fun u3=> ?_) (fun u3=> ?_)
   rotate_left
   ·skip
    rw [if_neg (fun h=>(of_decide_eq_false u3) h.2.2.2)]at yY
    conv=>(whnf)
    refine lN.i64 aai ?_
    conv=>(whnf)
    exact lK (i+1) [(4, .lab 4),(5, .lab 5)] [] rfl aaF hlt ⟨aam,aam,aam,⟨rfl,by rw [Eh];trivial⟩,⟨rfl,rfl,by rw [hI];skip⟩,⟨rfl,rfl,by rw [yY]⟩,trivial⟩ aam
   rw [if_pos ⟨hk2,by simp at u1;omega,by simp at u2;omega,of_decide_eq_true u3⟩]at yY
   conv=>(whnf)
   refine lW.mk (nG aaL aag) ?_
   conv=>(whnf)
   refine lN.i64 aai ?_
   conv=>(whnf)
   refine lK (i+1) [(4, .lab 4),(5, .lab 8)] [] rfl aaF hlt ⟨aam,aam,aam,⟨rfl,by rw [Eh];trivial⟩,⟨rfl,rfl,by rw [hI];skip⟩,⟨rfl,rfl, ?_⟩,trivial⟩ aam
   rw [yY,aS]
   rfl
  rw [if_pos ⟨hk2,ho,by simpa using h4⟩]at hI
  conv=>(whnf)
  refine lH (fun q=> ?_) (fun q=> ?_)
  rotate_left
  ·exfalso;simp at q;omega
  conv=>(whnf)
  refine lW.mk (nG aaL aag) ?_
  conv=>(whnf)
  (refine lX uO [] aag ?_;conv=>(whnf))
  refine lH (fun q=> ?_) (fun q=> ?_)
  ·exfalso;simp at q;omega
  conv=>(whnf)
  conv=>(whnf)
  (refine lX uO [] aag ?_;conv=>(whnf))
  refine lH (fun q=> ?_) (fun q=> ?_)
  rotate_left
  ·exfalso;simp at q;omega
  conv=>(whnf)
  refine mJ.mk' k rfl (pF hlk2) ?_
  conv=>(whnf)
  refine mQ.lU hgx ?_
  conv=>(whnf)
  refine lN.i64 aai ?_
  conv=>(whnf)
  refine lH (fun u1=> ?_) (fun u1=> ?_)
  rotate_left
  ·skip
   rw [if_neg (fun h=>by simp at u1;omega)]at yY
   conv=>(whnf)
   refine lN.i64 aai ?_
   conv=>(whnf)
   exact lK (i+1) [(4, .lab 8),(5, .lab 5)] [] rfl aaF hlt ⟨aam,aam,aam,⟨rfl,by rw [Eh];trivial⟩,⟨rfl,rfl,by rw [hI];(rw [aS];rfl)⟩,⟨rfl,rfl,by rw [yY]⟩,trivial⟩ aam
  conv=>(whnf)
  refine mJ.mk' k rfl (pF hlk2) ?_
  conv=>(whnf)
  refine mQ.lU hgx ?_
  conv=>(whnf)
  refine lH (fun u2=> ?_) (fun u2=> ?_)
  rotate_left
  ·skip
   rw [if_neg (fun h=>by simp at u2;omega)]at yY
   conv=>(whnf)
   refine lN.i64 aai ?_
   conv=>(whnf)
   exact lK (i+1) [(4, .lab 8),(5, .lab 5)] [] rfl aaF hlt ⟨aam,aam,aam,⟨rfl,by rw [Eh];trivial⟩,⟨rfl,rfl,by rw [hI];(rw [aS];rfl)⟩,⟨rfl,rfl,by rw [yY]⟩,trivial⟩ aam
  conv=>(whnf)
  refine mJ.mk' k rfl (pF hlk2) ?_
  conv=>(whnf)
  refine mQ.lU hgx ?_
  conv=>(whnf)
  have sm:=MQ (G:=GS) (wF x.time ls) (ba e.id) (ba x.id) aai
  (refine lM [] aag (sm) rfl ?_ ?_;(focus (trivial;done));(conv=>(whnf)))
  refine lH (fun u3=> ?_) (fun u3=> ?_)
  rotate_left
  ·skip
   rw [if_neg (fun h=>(of_decide_eq_false u3) h.2.2.2)]at yY
   conv=>(whnf)
   refine lN.i64 aai ?_
   conv=>(whnf)
   exact lK (i+1) [(4, .lab 8),(5, .lab 5)] [] rfl aaF hlt ⟨aam,aam,aam,⟨rfl,by rw [Eh];trivial⟩,⟨rfl,rfl,by rw [hI];(rw [aS];rfl)⟩,⟨rfl,rfl,by rw [yY]⟩,trivial⟩ aam
  rw [if_pos ⟨hk2,by simp at u1;omega,by simp at u2;omega,of_decide_eq_true u3⟩]at yY
  conv=>(whnf)
  refine lW.mk (nG aaL aag) ?_
  conv=>(whnf)
  refine lN.i64 aai ?_
  conv=>(whnf)
  refine lK (i+1) [(4, .lab 8),(5, .lab 10)] [] rfl aaF hlt ⟨aam,aam,aam,⟨rfl,by rw [Eh];trivial⟩,⟨rfl,rfl,by rw [hI];(rw [aS];rfl)⟩,⟨rfl,rfl, ?_⟩,trivial⟩ aam
  rw [yY,aS]
  rfl
 ·rw [if_neg fun h=>hk2 h.1]at hI
  (refine lX uO [] aag ?_;conv=>(whnf))
  refine mJ.mk' i rfl (pF adN) ?_
  conv=>(whnf)
  refine mQ.lU hoi ?_
  conv=>(whnf)
  refine lH (fun h3=> ?_) (fun h3=> ?_)
  rotate_left
  ·rw [if_neg fun h=>by rw [MW.2 h.2.1]at h3;simp at h3]at Eh
   conv=>(whnf)
   (refine lX uO [] aag ?_;conv=>(whnf))
   refine lH (fun q=> ?_) (fun q=> ?_)
   ·exfalso;simp at q;omega
   conv=>(whnf)
   rw [if_neg (fun h=>hk2 h.1)]at yY
   conv=>(whnf)
   refine lN.i64 aai ?_
   conv=>(whnf)
   exact lK (i+1) [(4, .lab 4),(5, .lab 5)] [] rfl aaF hlt ⟨aam,aam,aam,⟨rfl,by rw [Eh];trivial⟩,⟨rfl,rfl,by rw [hI];skip⟩,⟨rfl,rfl,by rw [yY]⟩,trivial⟩ aam
  have ho:BF ls xs e.id e.time=some k:=MW.1 ahq
  have htg:=aez _ _ ho
  conv=>(whnf)
  refine mJ.mk' k rfl (pF hlk2) ?_
  conv=>(whnf)
  refine mQ.lU hgx ?_
  conv=>(whnf)
  refine lH (fun q=> ?_) (fun q=> ?_)
  rotate_left
  ·exfalso;simp at q;omega
  conv=>(whnf)
  refine mJ.mk' k rfl (pF hlk2) ?_
  conv=>(whnf)
  refine mQ.lU hgx ?_
  conv=>(whnf)
  refine lN.i64 aai ?_
  conv=>(whnf)
  refine lH (fun h4=> ?_) (fun h4=> ?_)
  rotate_left
  ·rw [if_neg fun h=>by simp at h4;omega]at Eh
   conv=>(whnf)
   (refine lX uO [] aag ?_;conv=>(whnf))
   refine lH (fun q=> ?_) (fun q=> ?_)
   ·exfalso;simp at q;omega
   conv=>(whnf)
   rw [if_neg (fun h=>hk2 h.1)]at yY
   conv=>(whnf)
   refine lN.i64 aai ?_
   conv=>(whnf)
   exact lK (i+1) [(4, .lab 4),(5, .lab 5)] [] rfl aaF hlt ⟨aam,aam,aam,⟨rfl,by rw [Eh];trivial⟩,⟨rfl,rfl,by rw [hI];skip⟩,⟨rfl,rfl,by rw [yY]⟩,trivial⟩ aam
  conv=>(whnf)
  refine lH (fun q=> ?_) (fun q=> ?_)
  ·exfalso;simp at q;omega
  conv=>(whnf)
  (refine lX uO [] aag ?_;conv=>(whnf))
  refine lH (fun h5=> ?_) (fun h5=> ?_)
  rotate_left
  ·rw [if_neg fun h=>by simp at h5;exact h5 h.1]at Eh
   conv=>(whnf)
   (refine lX uO [] aag ?_;conv=>(whnf))
   refine lH (fun q=> ?_) (fun q=> ?_)
   ·exfalso;simp at q;omega
   conv=>(whnf)
   rw [if_neg (fun h=>hk2 h.1)]at yY
   conv=>(whnf)
   refine lN.i64 aai ?_
   conv=>(whnf)
   exact lK (i+1) [(4, .lab 4),(5, .lab 5)] [] rfl aaF hlt ⟨aam,aam,aam,⟨rfl,by rw [Eh];trivial⟩,⟨rfl,rfl,by rw [hI];skip⟩,⟨rfl,rfl,by rw [yY]⟩,trivial⟩ aam
  rw [if_pos ⟨by simpa using h5,ho,by simpa using h4⟩]at Eh
  conv=>(whnf)
  refine lH (fun h6=> ?_) (fun h6=> ?_)
  rotate_left
  ·have hn : ¬e.name=name:=by simpa [mW]using h6
   rw [decide_eq_false hn,gq,Bool.or_false]at Eh
   conv=>(whnf)
   (refine lX uO [] aag ?_;conv=>(whnf))
   refine lH (fun q=> ?_) (fun q=> ?_)
   ·exfalso;simp at q;omega
   conv=>(whnf)
   rw [if_neg (fun h=>hk2 h.1)]at yY
   conv=>(whnf)
   refine lN.i64 aai ?_
   conv=>(whnf)
   exact lK (i+1) [(4, .lab 4),(5, .lab 5)] [] rfl aaF hlt ⟨aam,aam,aam,⟨rfl,by rw [Eh];trivial⟩,⟨rfl,rfl,by rw [hI];skip⟩,⟨rfl,rfl,by rw [yY]⟩,trivial⟩ aam
  have hn:e.name=name:=by simpa [mW]using h6
  rw [decide_eq_true hn,gX]at Eh
  conv=>(whnf)
  refine mJ.mk' k rfl (pF hlk2) ?_
  conv=>(whnf)
  refine mQ.lU hgx ?_
  conv=>(whnf)
  refine lH (fun h7=> ?_) (fun h7=> ?_)
  rotate_left
  ·have ha:e.arm=x.arm:=by simpa using h7
   rw [decide_eq_true ha,bY,Bool.or_false]at Eh
   conv=>(whnf)
   (refine lX uO [] aag ?_;conv=>(whnf))
   refine lH (fun q=> ?_) (fun q=> ?_)
   ·exfalso;simp at q;omega
   conv=>(whnf)
   rw [if_neg (fun h=>hk2 h.1)]at yY
   conv=>(whnf)
   refine lN.i64 aai ?_
   conv=>(whnf)
   exact lK (i+1) [(4, .lab 4),(5, .lab 5)] [] rfl aaF hlt ⟨aam,aam,aam,⟨rfl,by rw [Eh];trivial⟩,⟨rfl,rfl,by rw [hI];skip⟩,⟨rfl,rfl,by rw [yY]⟩,trivial⟩ aam
  have ha : ¬e.arm=x.arm:=by simpa using h7
  rw [decide_eq_false ha,bT,Bool.or_true]at Eh
  conv=>(whnf)
  (refine lX uO [] aag ?_;conv=>(whnf))
  refine lH (fun q=> ?_) (fun q=> ?_)
  ·exfalso;simp at q;omega
  conv=>(whnf)
  rw [if_neg (fun h=>hk2 h.1)]at yY
  conv=>(whnf)
  refine lN.i64 aai ?_
  conv=>(whnf)
  exact lK (i+1) [(4, .lab 4),(5, .lab 5)] [] rfl aaF hlt ⟨aam,aam,aam,⟨rfl,by rw [Eh];trivial⟩,⟨rfl,rfl,by rw [hI];skip⟩,⟨rfl,rfl,by rw [yY]⟩,trivial⟩ aam
structure MtP (m:Mt):Prop where
 kind:1<=m.kind∧m.kind<=4
 name:m.name∈wu
 below:(m.kind=4∧m.below∈wu)∨(¬m.kind=4∧m.below = [])
 window:1<=m.window∧m.window<=30
 cap:1<=m.cap∧m.cap<=50
 cap3:m.kind=3->m.cap=1
 least:m.least = -1099511627776∨(-3<=m.least∧m.least<=6)
 before:0<=m.before∧m.before<=19
theorem U6 : ∀s∈wu,kyM s=true:=by
 intro s hs
 simp only [wu,bI,iL,or_false]at hs
 rcases hs with rfl|rfl<;>kernel_rfl
theorem U7 : ∀s∈wu,s.length<=1000:=aaw
theorem MtP.ok {m:Mt}(h:MtP m):Bh m=0:=by
 obtain⟨hk,hn,hb,hw,hc,h3,hl,hf⟩:=h
 unfold Bh
 rw [if_neg aai,if_neg,if_neg aai,if_neg]
 ·rintro(⟨h4,hne⟩|⟨h3',hc'⟩)
  ·rcases hb with ⟨h,_⟩|⟨_,h⟩
   ·exact h4 h
   ·exact hne h
  ·exact hc' (h3 h3')
 ·rw [U6 _ hn]
  rintro(h|⟨h4,h⟩)
  ·cases h
  ·rcases hb with ⟨_,hb⟩|⟨hb,_⟩
   ·rw [U6 _ hb]at h;cases h
   ·exact hb h4
theorem MtP.z1 {m:Mt}(h:MtP m):m.name.length<=140737488355328:=bG (U7 _ h.name) (aF rfl)
theorem MtP.z2 {m:Mt}(h:MtP m):m.below.length<=140737488355328:=by
 rcases h.below with ⟨_,hb⟩|⟨_,hb⟩
 ·exact bG (U7 _ hb) (aF rfl)
 ·rw [hb];exact aH _
def NxE (L:By)(p n v q:Nat):Prop:=v<n∧q<=L.length∧q<=p+1∧mP Tryz.prog GS 33 [.ptr 0 0,iv n] 1 [(0,Nv L p)] (fun a m H=>a=iv v∧m=1∧H = [(0,Nv L q)])
theorem IJ {L:By}{p:Nat}(hp:p<=L.length)(h:p<=100000)(n:Nat)(hn:0<n)(hn2:n<=256) : ∃v q,NxE L p n v q:=⟨I9 L p n,Ja L p,zG L p n hn,xk hp,by unfold Ja;split<;>omega,aex L p n hn hn2 h hp⟩
def MtO (a:AV)(n:Nat)(H:lI):Prop:= ∃m,MtP m∧a=Jl m∧n=0∧H = []
theorem aah (L:By):mP Tryz.prog GS 10 [bs L] 0 [] MtO:=by
 obtain⟨v1,q1,b1,e1,f1,c1⟩:=IJ (L:=L) (p:=0) (aH _) aai 4 aaw aaw
 obtain⟨v2,q2,b2,e2,f2,c2⟩:=IJ e1 aai 2 aaw aaw
 obtain⟨v3,q3,b3,e3,f3,c3⟩:=IJ e2 aai 30 aaw aaw
 obtain⟨v4,q4,b4,e4,f4,c4⟩:=IJ e3 aai 50 aaw aaw
 refine lJ func10 rfl mixed aag ?_
 conv=>(whnf)
 obtain⟨nm,hnm,hnb⟩ : ∃nm,wu[v2]? = some nm∧nm∈wu:=⟨_,ah (show v2<2 by omega),aV _⟩
 refine LM aiu [1] [(4,4),(8,22)] 3 [(4, .ptr 2 0)] [(0, .var 48 [iv 0,tv [],tv [],iv 0,iv 0,iv 0,iv 0]),(1,Nv L q4),(2, .var 48 [iv (1+(v1:Int)),tv nm,tv [],iv (1+(v3:Int)),iv (1+(v4:Int)),iv (-1099511627776),iv 0])] aag aag ?_ ?_
 ·conv=>(whnf)
  repeat' (first
   | (refine And.intro ?_ ?_<;>(conv=>(whnf)))
   | (refine mX [1] [] aag c1 rfl ?_ ?_ ?_;(focus (trivial;done));(focus (trivial;done));rintro _ _ _ ⟨rfl,rfl,rfl⟩;refine⟨rfl, ?_⟩;conv=>(whnf))
   | (refine mX [1] [] aag c2 rfl ?_ ?_ ?_;(focus (trivial;done));(focus (trivial;done));rintro _ _ _ ⟨rfl,rfl,rfl⟩;refine⟨rfl, ?_⟩;conv=>(whnf))
   | (refine mX [1] [] aag c3 rfl ?_ ?_ ?_;(focus (trivial;done));(focus (trivial;done));rintro _ _ _ ⟨rfl,rfl,rfl⟩;refine⟨rfl, ?_⟩;conv=>(whnf))
   | (refine mX [1] [] aag c4 rfl ?_ ?_ ?_;(focus (trivial;done));(focus (trivial;done));rintro _ _ _ ⟨rfl,rfl,rfl⟩;refine⟨rfl, ?_⟩;conv=>(whnf))
   | ((refine oD [] aag (Qb) ?_ ?_;(focus (trivial;done));rintro _ _ _ ⟨rfl,rfl,rfl⟩;(conv=>(whnf))))
   | (refine mJ.mk' v2 rfl (pF b2) ?_;conv=>(whnf))
   | (refine mQ.lU hnm ?_;conv=>(whnf))
   | (refine lN.i64 aai ?_;conv=>(whnf)))
  all_goals first
   | (refine Hq [(2, .lab 2)] [] ?_ ?_ ?_;(focus rfl);(focus trivial);(focus trivial);done)
   | (refine Hq [(2, .lab 3)] [] ?_ ?_ ?_;(focus rfl);(focus trivial);(focus trivial);done)
 conv=>(whnf)
 refine lH (fun h3=> ?_) (fun h3=> ?_)
 ·have hv:v1=2:=akb
  conv=>(whnf)
  refine lH (fun h4=> ?_) (fun h4=> ?_)
  ·exfalso;simp at h4;omega
  obtain⟨v5,q5,b5,e5,f5,c5⟩:=IJ e4 aai 3 aaw aaw
  obtain⟨v6,q6,b6,e6,f6,c6⟩:=IJ e5 aai 10 aaw aaw
  conv=>(whnf)
  refine vw [1] [] aag c5 rfl aam aam rfl ?_
  conv=>(whnf)
  refine lH (fun h5=> ?_) (fun h5=> ?_)
  ·conv=>(whnf)
   refine vw [1] [] aag c6 rfl aam aam rfl ?_
   conv=>(whnf)
   refine lN.i64 aai ?_
   obtain⟨v7,q7,b7,e7,f7,c7⟩:=IJ e6 aai 2 aaw aaw
   obtain⟨v8,q8,b8,e8,f8,c8⟩:=IJ e7 aai 20 aaw aaw
   conv=>(whnf)
   refine vw [1] [] aag c7 rfl aam aam rfl ?_
   conv=>(whnf)
   refine lH (fun h7=> ?_) (fun h7=> ?_)
   ·conv=>(whnf)
    refine vw [1] [] aag c8 rfl aam aam rfl ?_
    conv=>(whnf)
    conv=>(whnf)
    exact nI (Jl ⟨1+(v1:Int),nm,[],1+(v3:Int),1,((v6:Int)-3),(v8:Int)⟩) 0 [] [] [] ⟨_,⟨by dsimp only;omega,hnb,(.inr ⟨by dsimp only;omega,rfl⟩),by dsimp only;omega,by dsimp only;omega,(fun _=>rfl),by dsimp only;omega,by dsimp only;omega⟩,rfl,rfl,rfl⟩ rfl trivial aam
   ·skip
    conv=>(whnf)
    exact nI (Jl ⟨1+(v1:Int),nm,[],1+(v3:Int),1,((v6:Int)-3),0⟩) 0 [] [] [] ⟨_,⟨by dsimp only;omega,hnb,(.inr ⟨by dsimp only;omega,rfl⟩),by dsimp only;omega,by dsimp only;omega,(fun _=>rfl),by dsimp only;omega,by dsimp only;omega⟩,rfl,rfl,rfl⟩ rfl trivial aam
  ·skip
   obtain⟨v7,q7,b7,e7,f7,c7⟩:=IJ e5 aai 2 aaw aaw
   obtain⟨v8,q8,b8,e8,f8,c8⟩:=IJ e7 aai 20 aaw aaw
   conv=>(whnf)
   refine vw [1] [] aag c7 rfl aam aam rfl ?_
   conv=>(whnf)
   refine lH (fun h7=> ?_) (fun h7=> ?_)
   ·conv=>(whnf)
    refine vw [1] [] aag c8 rfl aam aam rfl ?_
    conv=>(whnf)
    conv=>(whnf)
    exact nI (Jl ⟨1+(v1:Int),nm,[],1+(v3:Int),1,(-1099511627776),(v8:Int)⟩) 0 [] [] [] ⟨_,⟨by dsimp only;omega,hnb,(.inr ⟨by dsimp only;omega,rfl⟩),by dsimp only;omega,by dsimp only;omega,(fun _=>rfl),by dsimp only;omega,by dsimp only;omega⟩,rfl,rfl,rfl⟩ rfl trivial aam
   ·skip
    conv=>(whnf)
    exact nI (Jl ⟨1+(v1:Int),nm,[],1+(v3:Int),1,(-1099511627776),0⟩) 0 [] [] [] ⟨_,⟨by dsimp only;omega,hnb,(.inr ⟨by dsimp only;omega,rfl⟩),by dsimp only;omega,by dsimp only;omega,(fun _=>rfl),by dsimp only;omega,by dsimp only;omega⟩,rfl,rfl,rfl⟩ rfl trivial aam
 have hn3 : ¬(1+(v1:Int))=3:=ahq
 conv=>(whnf)
 refine lH (fun h4=> ?_) (fun h4=> ?_)
 ·have hv:v1=3:=ag1
  obtain⟨v9,q9,b9,e9,f9,c9⟩:=IJ e4 aai 2 aaw aaw
  obtain⟨nb,alL,adT⟩ : ∃nm,wu[v9]? = some nm∧nm∈wu:=⟨_,ah (show v9<2 by omega),aV _⟩
  conv=>(whnf)
  (refine oD [] aag (Qb) ?_ ?_;(focus (trivial;done));rintro _ _ _ ⟨rfl,rfl,rfl⟩;(conv=>(whnf)))
  refine vw [1] [] aag c9 rfl aam aam rfl ?_
  conv=>(whnf)
  refine mJ.mk' v9 rfl (pF b9) ?_
  conv=>(whnf)
  refine mQ.lU alL ?_
  conv=>(whnf)
  obtain⟨v5,q5,b5,e5,f5,c5⟩:=IJ e9 aai 3 aaw aaw
  obtain⟨v6,q6,b6,e6,f6,c6⟩:=IJ e5 aai 10 aaw aaw
  conv=>(whnf)
  refine vw [1] [] aag c5 rfl aam aam rfl ?_
  conv=>(whnf)
  refine lH (fun h5=> ?_) (fun h5=> ?_)
  ·conv=>(whnf)
   refine vw [1] [] aag c6 rfl aam aam rfl ?_
   conv=>(whnf)
   refine lN.i64 aai ?_
   obtain⟨v7,q7,b7,e7,f7,c7⟩:=IJ e6 aai 2 aaw aaw
   obtain⟨v8,q8,b8,e8,f8,c8⟩:=IJ e7 aai 20 aaw aaw
   conv=>(whnf)
   refine vw [1] [] aag c7 rfl aam aam rfl ?_
   conv=>(whnf)
   refine lH (fun h7=> ?_) (fun h7=> ?_)
   ·conv=>(whnf)
    refine vw [1] [] aag c8 rfl aam aam rfl ?_
    conv=>(whnf)
    conv=>(whnf)
    exact nI (Jl ⟨1+(v1:Int),nm,nb,1+(v3:Int),(1+(v4:Int)),((v6:Int)-3),(v8:Int)⟩) 0 [] [] [] ⟨_,⟨by dsimp only;omega,hnb,(.inl ⟨by dsimp only;omega,adT⟩),by dsimp only;omega,by dsimp only;omega,(fun h=>absurd h hn3),by dsimp only;omega,by dsimp only;omega⟩,rfl,rfl,rfl⟩ rfl trivial aam
   ·skip
    conv=>(whnf)
    exact nI (Jl ⟨1+(v1:Int),nm,nb,1+(v3:Int),(1+(v4:Int)),((v6:Int)-3),0⟩) 0 [] [] [] ⟨_,⟨by dsimp only;omega,hnb,(.inl ⟨by dsimp only;omega,adT⟩),by dsimp only;omega,by dsimp only;omega,(fun h=>absurd h hn3),by dsimp only;omega,by dsimp only;omega⟩,rfl,rfl,rfl⟩ rfl trivial aam
  ·skip
   obtain⟨v7,q7,b7,e7,f7,c7⟩:=IJ e5 aai 2 aaw aaw
   obtain⟨v8,q8,b8,e8,f8,c8⟩:=IJ e7 aai 20 aaw aaw
   conv=>(whnf)
   refine vw [1] [] aag c7 rfl aam aam rfl ?_
   conv=>(whnf)
   refine lH (fun h7=> ?_) (fun h7=> ?_)
   ·conv=>(whnf)
    refine vw [1] [] aag c8 rfl aam aam rfl ?_
    conv=>(whnf)
    conv=>(whnf)
    exact nI (Jl ⟨1+(v1:Int),nm,nb,1+(v3:Int),(1+(v4:Int)),(-1099511627776),(v8:Int)⟩) 0 [] [] [] ⟨_,⟨by dsimp only;omega,hnb,(.inl ⟨by dsimp only;omega,adT⟩),by dsimp only;omega,by dsimp only;omega,(fun h=>absurd h hn3),by dsimp only;omega,by dsimp only;omega⟩,rfl,rfl,rfl⟩ rfl trivial aam
   ·skip
    conv=>(whnf)
    exact nI (Jl ⟨1+(v1:Int),nm,nb,1+(v3:Int),(1+(v4:Int)),(-1099511627776),0⟩) 0 [] [] [] ⟨_,⟨by dsimp only;omega,hnb,(.inl ⟨by dsimp only;omega,adT⟩),by dsimp only;omega,by dsimp only;omega,(fun h=>absurd h hn3),by dsimp only;omega,by dsimp only;omega⟩,rfl,rfl,rfl⟩ rfl trivial aam
 have hn4 : ¬(1+(v1:Int))=4:=by simpa using h4
 conv=>(whnf)
 obtain⟨v5,q5,b5,e5,f5,c5⟩:=IJ e4 aai 3 aaw aaw
 obtain⟨v6,q6,b6,e6,f6,c6⟩:=IJ e5 aai 10 aaw aaw
 conv=>(whnf)
 refine vw [1] [] aag c5 rfl aam aam rfl ?_
 conv=>(whnf)
 refine lH (fun h5=> ?_) (fun h5=> ?_)
 ·conv=>(whnf)
  refine vw [1] [] aag c6 rfl aam aam rfl ?_
  conv=>(whnf)
  refine lN.i64 aai ?_
  obtain⟨v7,q7,b7,e7,f7,c7⟩:=IJ e6 aai 2 aaw aaw
  obtain⟨v8,q8,b8,e8,f8,c8⟩:=IJ e7 aai 20 aaw aaw
  conv=>(whnf)
  refine vw [1] [] aag c7 rfl aam aam rfl ?_
  conv=>(whnf)
  refine lH (fun h7=> ?_) (fun h7=> ?_)
  ·conv=>(whnf)
   refine vw [1] [] aag c8 rfl aam aam rfl ?_
   conv=>(whnf)
   conv=>(whnf)
   exact nI (Jl ⟨1+(v1:Int),nm,[],1+(v3:Int),(1+(v4:Int)),((v6:Int)-3),(v8:Int)⟩) 0 [] [] [] ⟨_,⟨by dsimp only;omega,hnb,(.inr ⟨hn4,rfl⟩),by dsimp only;omega,by dsimp only;omega,(fun h=>absurd h hn3),by dsimp only;omega,by dsimp only;omega⟩,rfl,rfl,rfl⟩ rfl trivial aam
  ·skip
   conv=>(whnf)
   exact nI (Jl ⟨1+(v1:Int),nm,[],1+(v3:Int),(1+(v4:Int)),((v6:Int)-3),0⟩) 0 [] [] [] ⟨_,⟨by dsimp only;omega,hnb,(.inr ⟨hn4,rfl⟩),by dsimp only;omega,by dsimp only;omega,(fun h=>absurd h hn3),by dsimp only;omega,by dsimp only;omega⟩,rfl,rfl,rfl⟩ rfl trivial aam
 ·skip
  obtain⟨v7,q7,b7,e7,f7,c7⟩:=IJ e5 aai 2 aaw aaw
  obtain⟨v8,q8,b8,e8,f8,c8⟩:=IJ e7 aai 20 aaw aaw
  conv=>(whnf)
  refine vw [1] [] aag c7 rfl aam aam rfl ?_
  conv=>(whnf)
  refine lH (fun h7=> ?_) (fun h7=> ?_)
  ·conv=>(whnf)
   refine vw [1] [] aag c8 rfl aam aam rfl ?_
   conv=>(whnf)
   conv=>(whnf)
   exact nI (Jl ⟨1+(v1:Int),nm,[],1+(v3:Int),(1+(v4:Int)),(-1099511627776),(v8:Int)⟩) 0 [] [] [] ⟨_,⟨by dsimp only;omega,hnb,(.inr ⟨hn4,rfl⟩),by dsimp only;omega,by dsimp only;omega,(fun h=>absurd h hn3),by dsimp only;omega,by dsimp only;omega⟩,rfl,rfl,rfl⟩ rfl trivial aam
  ·skip
   conv=>(whnf)
   exact nI (Jl ⟨1+(v1:Int),nm,[],1+(v3:Int),(1+(v4:Int)),(-1099511627776),0⟩) 0 [] [] [] ⟨_,⟨by dsimp only;omega,hnb,(.inr ⟨hn4,rfl⟩),by dsimp only;omega,by dsimp only;omega,(fun h=>absurd h hn3),by dsimp only;omega,by dsimp only;omega⟩,rfl,rfl,rfl⟩ rfl trivial aam
structure Sc where
 num:Int
 unit:Int
 range:Int
structure Wg where
 ver:Int
 c:Int
 t:Int
def scF (s:Sc):List FV:= [iF s.num,iF s.unit,iF s.range]
abbrev Bj (l:List Sc):AV:= .lst 3 (l.map scF)
def wgF (w:Wg):List FV:= [iF w.ver,iF w.c,iF w.t]
abbrev wgL (l:List Wg):AV:= .lst 3 (l.map wgF)
def cls (n:Int):Nat:=wid 64 n.toNat
def Wu (a b:Int):Int:=if a.tmod b<0 then a.tdiv b-1 else a.tdiv b
def Bl (l:List Sm):Int:=l.foldl (fun a s=>a+s.value) 0
def sO (arm:Int)(q:List Sm):List Sm:=q.filter fun x=>decide (x.x.arm=arm)
def selC (arm:Int)(c:Nat)(q:List Sm):List Sm:=q.filter fun x=>decide (x.x.arm=arm)&&decide (cls x.before=c)
def mean (l:List Sm):Int:=Wu (Bl l) l.length
def preS (q:List Sm)(before arm cap:Int):Int:=
 if 0<(selC arm (cls before) q).length then mean (selC arm (cls before) q)
 else if 0<(sO arm q).length then mean (sO arm q)else Wu cap 2
def okW (n:Int):Prop:=1<=n∧n<=10000
instance (n:Int):Decidable (okW n):=by unfold okW;infer_instance
def okV (cap:Int)(l:List Sm):Prop:= ∀x∈l,0<=x.value∧x.value<=cap
instance (cap:Int) (l:List Sm):Decidable (okV cap l):=by unfold okV;infer_instance
def Wv (adj:Bool)(q:List Sm)(before arm cap:Int):Int:=if adj=true then preS q before arm cap else 0
def ofC (q:List Sm)(x:Sm)(w:Wg)(cap:Int):Prop:=(x.x.arm=1∨x.x.arm=2)∧okW w.c∧okW w.t∧(1<=cap∧cap<=1048576)∧okV cap (q++ [x])
instance (q:List Sm) (x:Sm) (w:Wg) (cap:Int):Decidable (ofC q x w cap):=by unfold ofC;infer_instance
def ofS (q:List Sm)(x:Sm)(w:Wg)(cap:Int)(adj:Bool):Sc:=
 ⟨if x.x.arm=1 then w.c*w.t*(Wv adj q x.before 2 cap-Wv adj q x.before 1 cap) -(w.c+w.t)*w.t*(x.value-Wv adj q x.before 1 cap)
  else w.c*w.t*(Wv adj q x.before 2 cap-Wv adj q x.before 1 cap)+(w.c+w.t)*w.c*(x.value-Wv adj q x.before 2 cap),
  w.c*w.t*cap,cap*(2*(w.c*w.t)+(w.c+w.t)*max w.c w.t)⟩
def Fa (q:List Sm)(x:Sm)(w:Wg)(cap:Int)(adj:Bool):Option Sc:=if ofC q x w cap then some (ofS q x w cap adj)else none
def wH (w:List Wg)(v:Int):Option Wg:=w.find? fun x=>decide (x.ver=v)
def yV (w:List Wg)(cap:Int)(adj:Bool)(q:List Sm)(x:Sm):List Sc:=
 match wH w x.x.ver with
 | none=> []
 | some v=>(Fa q x v cap adj).toList
def Dn (w:List Wg)(cap:Int)(adj:Bool):List Sm->List Sm->List Sc
 | _,[]=> []
 | q,x::r=>yV w cap adj q x++Dn w cap adj (q++ [x]) r
def Dp (s:List Sm)(w:List Wg)(cap:Int)(adj:Bool):List Sc:=Dn w cap adj [] s
theorem J4 {s:List Sm}{w:List Wg}{cap:Int}{adj:Bool}{i:Nat}(h:i<s.length):Dn w cap adj (s.take i) (s.drop i)=yV w cap adj (s.take i) s[i]++Dn w cap adj (s.take (i+1)) (s.drop (i+1)):=by
 rw [dH h,aG h]
 rfl
theorem aaj (w:List Wg)(cap:Int)(adj:Bool) : ∀(r q:List Sm),(Dn w cap adj q r).length<=r.length:=by
 intro r
 induction r with
 | nil=>intro q;exact aH _
 | cons x r ih=>
  intro q
  have h1:=ih (q++ [x])
  have h2:(yV w cap adj q x).length<=1:=by
   unfold yV
   split
   ·exact aH _
   ·rename_i v _
    cases Fa q x v cap adj<;>simp
  simp only [Dn,ay,bn]
  omega
theorem Qh (s:List Sm)(w:List Wg)(cap:Int)(adj:Bool):(Dp s w cap adj).length<=s.length:=aaj w cap adj s []
def okS (s:Sc):Prop:=1<=s.unit∧s.unit<=s.range∧s.range<=562949953421312∧s.unit-s.range<=s.num∧s.num<=s.range-s.unit
instance (s:Sc):Decidable (okS s):=by unfold okS;infer_instance
def U8 (e:Int):Prop:= -1000<=e∧e<=1000
instance (e:Int):Decidable (U8 e):=by unfold U8;infer_instance
def gain (s:Sc)(e F6:Int):Int:=F6*(s.num*1000-s.unit*e)
def sW (s:Sc)(e F6:Int)(up:Bool):Int:=
 if okS s∧U8 e then(if up=true then 8*s.range*1000+gain s e F6 else 8*s.range*1000-gain s e F6)else 1
def tZ (s:Sc)(e:Int):Int:=if okS s∧U8 e then 8*s.range*1000 else 1
def dvC (WI yn0 un:Nat):Nat->Nat->Nat->Nat
 | 0,q,_=>q
 | f+1,q,r=>if 4294967296<=q∨4294967296*r+un<q*yn0 then(if 4294967296<=r+WI then q-1 else dvC WI yn0 un f (q-1) (r+WI))else q
def dvQ (WI yn0 u un:Nat):Nat:=dvC WI yn0 un 4294967296 (u/WI) (u%WI)
def dvR (u un q y:Nat):Nat:=((u*4294967296+un)%18446744073709551616+18446744073709551616-q*y%18446744073709551616)%18446744073709551616
def J5 (y:Nat):Nat:=64-wid 64 y
def WJ (y:Nat):Nat:=y*2^J5 y%18446744073709551616
def dvU (hi lo y:Nat):Nat:=hi*2^J5 y%18446744073709551616 ||| lo/2^(64-J5 y)
def dvL (lo y:Nat):Nat:=lo*2^J5 y%18446744073709551616
def dvA (hi lo y:Nat):Nat:=dvQ (WJ y/4294967296) (WJ y%4294967296) (dvU hi lo y) (dvL lo y/4294967296)
def dvV (hi lo y:Nat):Nat:=dvR (dvU hi lo y) (dvL lo y/4294967296) (dvA hi lo y) (WJ y)
def dvB (hi lo y:Nat):Nat:=dvQ (WJ y/4294967296) (WJ y%4294967296) (dvV hi lo y) (dvL lo y%4294967296)
def IK (hi lo y:Nat):Nat:=if hi=0 then lo/y else(dvA hi lo y*4294967296+dvB hi lo y)%18446744073709551616
def aak (hi lo y:Nat):Nat:=if hi=0 then lo%y else dvR (dvV hi lo y) (dvL lo y%4294967296) (dvB hi lo y) (WJ y)/2^J5 y
def Ei (w num den:Int):Int:=
 if w<0∨2305843009213693952<w∨den<1∨4611686018427387904<den∨num<0 then 0
 else if den.toNat<=w.toNat*num.toNat/18446744073709551616 then 2305843009213693952
 else((min (IK (w.toNat*num.toNat/18446744073709551616) (w.toNat*num.toNat%18446744073709551616) den.toNat) 2305843009213693952:Nat):Int)
theorem uZ (w num den:Int):0<=Ei w num den∧Ei w num den<=2305843009213693952:=by
 unfold Ei
 split
 ·omega
 split
 ·omega
 ·generalize IK _ _ _=q
  omega
structure WSg where
 a:Int
 b:Int
 c:Int
 out:List Int
def wsN (e:Int)(up:Bool)(x:WSg)(s:Sc):WSg:=
 let a:=Ei x.a (sW s e 1 up) (tZ s e)
 let b:=Ei x.b (sW s e 2 up) (tZ s e)
 let c:=Ei x.c (sW s e 4 up) (tZ s e)
 ⟨a,b,c,x.out++ [(a+b+c).tdiv 3]⟩
def ws0:WSg:=⟨4294967296,4294967296,4294967296,[]⟩
def Qw (e:Int)(up:Bool)(l:List Sc):WSg:=l.foldl (wsN e up) ws0
def Am (l:List Sc)(e:Int)(up:Bool):List Int:=(Qw e up l).out
theorem IL {e:Int}{up:Bool}{l:List Sc}{i:Nat}(h:i<l.length):Qw e up (l.take (i+1))=wsN e up (Qw e up (l.take i)) l[i]:=by
 unfold Qw;rw [aG h,fJ];rfl
structure WOk (x:WSg)(n:Nat):Prop where
 a:0<=x.a∧x.a<=2305843009213693952
 b:0<=x.b∧x.b<=2305843009213693952
 c:0<=x.c∧x.c<=2305843009213693952
 len:x.out.length=n
theorem ahu:WOk ws0 0:=⟨by decide,by decide,by decide,rfl⟩
theorem ahv {e:Int}{up:Bool}{x:WSg}{n:Nat}(h:WOk x n)(s:Sc):WOk (wsN e up x s) (n+1):=⟨uZ _ _ _,uZ _ _ _,uZ _ _ _,by unfold wsN;simp [h.len]⟩
theorem Td (e:Int)(up:Bool)(l:List Sc):WOk (Qw e up l) l.length:=by
 have h : ∀i,i<=l.length->WOk (Qw e up (l.take i)) i:=by
  intro i
  induction i with
  | zero=>intro _;exact ahu
  | succ i ih=>intro hi;rw [IL aai];exact ahv (ih aai) _
 have:=h l.length (au _)
 rwa [aZ]at this
theorem IQ (l:List Sc)(e:Int)(up:Bool):(Am l e up).length=l.length:=(Td e up l).len
def J6 (level sides:Int):Int:=
 if level<1∨999<level∨sides<1∨1000<sides then 2305843009213693953 else(sides*1000*4294967296+level-1).tdiv level
def Jo:List Int->Int->Nat->Nat
 | [],_,_=>0
 | w::r,t,i=>if t<=w then i+1 else Jo r t (i+1)
def Dq (l:List Int)(t:Int):Nat:=Jo l t 0
theorem adV : ∀(l:List Int) (t:Int) (i:Nat),Jo l t i<=i+l.length:=by
 intro l
 induction l with
 | nil=>intro t i;exact aH _
 | cons w r ih=>
  intro t i
  have:=ih t (i+1)
  unfold Jo
  split
  ·simp only [bn];omega
  ·simp only [bn];omega
theorem adW (l:List Int)(t:Int):Dq l t<=l.length:=by have:=adV l t 0;unfold Dq;omega
theorem J7 {l:List Int}{t:Int}{i:Nat}(h:i<l.length):Jo (l.drop i) t i=if t<=l[i]then i+1 else Jo (l.drop (i+1)) t (i+1):=by
 rw [dH h];rfl
def zJ (l:List Sc)(e level:Int)(up:Bool):Bool:=decide (0<Dq (Am l e up) (J6 level 2))
def xX (p:Nat->Bool):Nat->Nat->Nat->Nat
 | 0,i,_=>i
 | f+1,i,j=>if i<j then(if p ((i+j)/2)=true then xX p f ((i+j)/2+1) j else xX p f i ((i+j)/2))else i
def Fe (l:List Sc)(level:Int):Int:=(xX (fun h=>zJ l ((h:Int)-1000) level true) 2001 0 2001:Nat)-1000
def Fg (l:List Sc)(level:Int):Int:=1000 -(xX (fun h=>zJ l (1000 -(h:Int)) level false) 2001 0 2001:Nat)
theorem Qi {p:Nat->Bool} : ∀(f i j:Nat),i<=j->i<=xX p f i j∧xX p f i j<=j:=by
 intro f
 induction f with
 | zero=>intro i j h;exact⟨au _,h⟩
 | succ f ih=>
  intro i j h
  unfold xX
  split
  ·split
   ·have:=ih ((i+j)/2+1) j aai;omega
   ·have:=ih i ((i+j)/2) aai;omega
  ·omega
structure BS where
 w:Int
 C:Int->Int×Int
 out:List Int
def okB (w a b c t arm:Int):Prop:=(0<=w∧w<=2305843009213693952)∧(0<=a∧a<=512)∧(0<=b∧b<=512)∧okW c∧okW t∧(arm=1∨arm=2)
instance (w a b c t arm:Int):Decidable (okB w a b c t arm):=by unfold okB;infer_instance
def yM (w a b c t arm:Int):Int:=
 if okB w a b c t arm then(if arm=1 then Ei w ((a+1)*(c+t)) ((a+b+2)*c)else Ei w ((b+1)*(c+t)) ((a+b+2)*t))else w
def yN (w a b c t arm:Int):Int×Int:=
 if okB w a b c t arm then(if arm=1 then(a+1,b)else(a,b+1))else(a,b)
def qK (w:List Wg)(x:Ex):Option Wg:=
 if x.arm=1∨x.arm=2 then(match wH w x.ver with
  | some v=>if okW v.c∧okW v.t then some v else none
  | none=>none)else none
def bsN (w:List Wg)(s:BS)(x:Ex):BS:=
 match qK w x with
 | none=>s
 | some v=>
  let c:=s.C x.ver
  let n:=yM s.w c.1 c.2 v.c v.t x.arm
  let d:=yN s.w c.1 c.2 v.c v.t x.arm
  ⟨n,fun k=>if k=x.ver then d else s.C k,s.out++ [n]⟩
def bs0:BS:=⟨4294967296,fun _=>(0,0),[]⟩
def pR (w:List Wg)(x:List Ex):BS:=x.foldl (bsN w) bs0
def uG (x:List Ex)(w:List Wg):List Int:=(pR w x).out
theorem IU {w:List Wg}{x:List Ex}{i:Nat}(h:i<x.length):pR w (x.take (i+1))=bsN w (pR w (x.take i)) x[i]:=by
 unfold pR;rw [aG h,fJ];rfl
theorem mulR {a b A B:Int}(h1:0<=a)(h2:a<=A)(h3:0<=b)(h4:b<=B):0<=a*b∧a*b<=A*B:=
 ⟨lC h1 h3,lG (Int.mul_le_mul_of_nonneg_right h2 h3) (gY h4 (lG h1 h2))⟩
theorem mulS {a b A B:Int}(h1:0<=a)(h2:a<=A)(h3 : -B<=b)(h4:b<=B) : -(A*B)<=a*b∧a*b<=A*B:=by
 rcases Int.le_total 0 b with h|h
 ·have:=mulR h1 h2 h h4
  have:0<=A*B:=lC aai aai
  omega
 ·have:=mulR h1 h2 (show 0<= -b by omega) (show -b<=B by omega)
  rw [Int.mul_neg]at this
  have:0<=A*B:=lC aai aai
  omega
theorem Ah (l:List Sm)(x:Sm):Bl (l++ [x])=Bl l+x.value:=by unfold Bl;rw [fJ];rfl
theorem Wx : ∀(l:List Sm) (a:Int),okV 1048576 l->a<=l.foldl (fun a s=>a+s.value) a∧l.foldl (fun a s=>a+s.value) a<=a+1048576*(l.length:Int):=by
 intro l
 induction l with
 | nil=>intro a _;simp
 | cons x l ih=>
  intro a h
  have h1:=ih (a+x.value) fun y hy=>h y (dU _ hy)
  have h2:=h x dw
  simp only [gJ,bn]
  omega
theorem xY {l:List Sm}(h:okV 1048576 l):0<=Bl l∧Bl l<=1048576*(l.length:Int):=by
 have:=Wx l 0 h
 unfold Bl;omega
theorem Qj {a b c:Int}(hb:0<b)(ha:0<=a)(h:a<=c*b):0<=a.tdiv b∧a.tdiv b<=c:=by
 rw [jl ha]
 refine⟨Int.ediv_nonneg ha aai, ?_⟩
 exact Int.ediv_le_of_le_mul hb h
theorem U9 {a b c:Int}(hb:0<b)(ha:0<=a)(h:a<=c*b):0<=Wu a b∧Wu a b<=c:=by
 unfold Wu
 rw [if_neg (by have:=Int.tmod_nonneg b ha;omega)]
 exact Qj hb ha h
theorem Qk {l:List Sm}(h:okV 1048576 l)(h0:0<l.length):0<=mean l∧mean l<=1048576:=
 U9 aai (xY h).1 (xY h).2
theorem Dt {q:List Sm}{b arm cap:Int}(h:okV 1048576 q)(hc:1<=cap∧cap<=1048576):0<=preS q b arm cap∧preS q b arm cap<=1048576:=by
 unfold preS
 split
 ·exact Qk (fun x hx=>h x (fA.1 hx).1) aaH
 split
 ·exact Qk (fun x hx=>h x (fA.1 hx).1) aaH
 ·exact U9 aaw aai aai
structure KC where
 n:Int
 k:Nat
section
variable {G:Glob}
theorem adX (c t:Int):mP Tryz.prog G 166 [.agg [iv c,iv t]] 0 [] (Is (bv (decide (okW c∧okW t)))):=by
 refine lJ func166 rfl mixed aag ?_
 conv=>(whnf)
 repeat' (apply lH<;>intro h<;>(conv=>(whnf)))
 all_goals (refine lQ [] (congrArg Value.bool ?_))
 all_goals (unfold okW;simp_all;try omega)
theorem J8 {c t:Int}(hc:okW c)(ht:okW t):mP Tryz.prog G 169 [.agg [iv c,iv t]] 0 [] (Is (iv (c+t))):=by
 unfold okW at hc ht
 refine lJ func169 rfl mixed aag ?_
 conv=>(whnf)
 refine lN.i64 aai ?_
 conv=>(whnf)
 exact lQ [] aam
theorem Ej {c t:Int}(hc:okW c)(ht:okW t):mP Tryz.prog G 168 [.agg [iv c,iv t]] 0 [] (Is (iv (c*t))):=by
 unfold okW at hc ht
 have:=mulR (show 0<=c by omega) hc.2 (show 0<=t by omega) ht.2
 refine lJ func168 rfl mixed aag ?_
 conv=>(whnf)
 refine lN.i64 aai ?_
 conv=>(whnf)
 exact lQ [] aam
theorem ajX (u:Nat)(hu:u<18446744073709551616):mP Tryz.prog G 308 [uv u] 0 [] (Is (iv (wid 64 u))):=by
 refine lJ func308 rfl mixed aag ?_
 conv=>(whnf)
 (refine lM [] aag (mP.up (YU u hu) G) rfl ?_ ?_;(focus trivial))
 conv=>(whnf)
 exact lQ [] aam
theorem aal (n:Int)(hn:I64 n):mP Tryz.prog G 247 [iv n] 0 [] (Is (iv (cls n))):=by
 have hm:max n 0=((n.toNat:Nat):Int):=aai
 have hb:n.toNat<18446744073709551616:=by unfold I64 at hn;omega
 refine lJ func247 rfl mixed aag ?_
 conv=>(whnf)
 rw [hm]
 refine lN.to (y:=((n.toNat:Nat):Int)) ?_ ?_
 ·exact oh aaH
 conv=>(whnf)
 (refine lM [] aag (ajX n.toNat hb) rfl ?_ ?_;(focus trivial))
 conv=>(whnf)
 exact lQ [] aam
theorem Va (n:Int)(hn:I64 n):mP Tryz.prog G 253 [iv n] 0 [] (Is (iv (cls n))):=by
 have hb:n.toNat<2^64:=by unfold I64 at hn;omega
 obtain⟨A,hA⟩ : ∃A,A=cls n:=⟨_,rfl⟩
 rw [<-hA]
 refine lJ func253 rfl mixed aag ?_
 conv=>(whnf)
 refine mY ace 0 [0,3] (fun x:KC=> [(0,iv x.n),(3,iv x.k)]) (fun _=> []) (fun x=>(x.k:Int)+wid (64-x.k) x.n.toNat=A∧x.n.toNat<2^(64-x.k)∧x.n<=9223372036854775807∧x.k<=64) (fun x=>x.n.toNat) [] [] ⟨n,0⟩ aag (fun _=>rfl) rfl ⟨by rw [hA];simp [cls],hb,by show n<=_;unfold I64 at hn;omega,by show 0<=64;decide⟩ aam aam ?_
 rintro⟨m,k⟩ ⟨h1,h2,h3,h4⟩
 dsimp only at h1 h2 h3 h4
 conv=>(whnf)
 apply lH<;>intro h
 ·have hp:0<m:=aaE
  clear hA hb hn
  have hk:k<64:=by
   rcases eG k 64 with h5|h5
   ·exact h5
   ·rw [show 64-k=0 by omega]at h2;simp at h2;omega
  obtain⟨f,hf⟩ : ∃f,64-k=f+1:=⟨63-k,by omega⟩
  have hd:m.tdiv 2=((m.toNat/2:Nat):Int):=by
   obtain⟨u,rfl⟩ : ∃u:Nat,m=u:=⟨m.toNat,by omega⟩
   rfl
  rw [hf]at h1 h2
  rw [iJ]at h2
  simp only [wid]at h1
  rw [if_neg aai]at h1
  conv=>(whnf)
  refine lW.mk aaw ?_
  conv=>(whnf)
  refine lN.i64 (by show _<=m.tdiv 2∧m.tdiv 2<=_;rw [hd];omega) ?_
  rw [show (⟨m,k⟩:KC).n.tdiv 2=((m.toNat/2:Nat):Int)from hd]
  conv=>(whnf)
  refine lN.i64 aey ?_
  conv=>(whnf)
  refine lK ⟨((m.toNat/2:Nat):Int),k+1⟩ [] [] rfl (by show (((m.toNat/2:Nat):Int)).toNat<m.toNat;omega) ⟨?_, ?_, ?_, ?_⟩ aam aam
  ·show ((k+1:Nat):Int)+wid (64 -(k+1)) (((m.toNat/2:Nat):Int)).toNat=A
   rw [show 64 -(k+1)=f by omega,dK]
   omega
  ·show (((m.toNat/2:Nat):Int)).toNat<2^(64 -(k+1))
   rw [show 64 -(k+1)=f by omega,dK]
   omega
  ·show ((m.toNat/2:Nat):Int)<=_
   omega
  ·show k+1<=64
   omega
 ·have hz:m.toNat=0:=by
   have : ¬0<m:=aaE
   omega
  have hw:wid (64-k) m.toNat=0:=by rw [hz];cases 64-k<;>simp [wid]
  rw [hw]at h1
  conv=>(whnf)
  exact lQ [] (nN (by show ((k:Nat):Int)=_;omega))
theorem Tf {a b:Int}(hb:0<b)(hr : -4611686018427387904<=a∧a<=4611686018427387904):mP Tryz.prog G 248 [iv a,iv b] 0 [] (Is (iv (Wu a b))):=by
 have h1 : -4611686018427387904<=a.tdiv b∧a.tdiv b<=4611686018427387904:=by
  have:=jZ a b
  omega
 obtain⟨r,hr⟩ : ∃r,r=Wu a b:=⟨_,rfl⟩
 rw [<-hr]
 unfold Wu at hr
 refine lJ func248 rfl mixed aag ?_
 conv=>(whnf)
 refine lW.mk aai ?_
 conv=>(whnf)
 refine lN.i64 aai ?_
 conv=>(whnf)
 refine lW.mk aai ?_
 conv=>(whnf)
 apply lH<;>intro h
 ·rw [if_pos aaE]at hr
  conv=>(whnf)
  refine lN.i64 aai ?_
  conv=>(whnf)
  exact lQ [] (nN hr.symm)
 ·rw [if_neg aaE]at hr
  conv=>(whnf)
  exact lQ [] (nN hr.symm)
theorem MZ {a b:Int}(hb:0<b)(hr : -4611686018427387904<=a∧a<=4611686018427387904):mP Tryz.prog G 254 [iv a,iv b] 0 [] (Is (iv (Wu a b))):=by
 have h1 : -4611686018427387904<=a.tdiv b∧a.tdiv b<=4611686018427387904:=by
  have:=jZ a b
  omega
 obtain⟨r,hr⟩ : ∃r,r=Wu a b:=⟨_,rfl⟩
 rw [<-hr]
 unfold Wu at hr
 refine lJ func254 rfl mixed aag ?_
 conv=>(whnf)
 refine lW.mk aai ?_
 conv=>(whnf)
 refine lN.i64 aai ?_
 conv=>(whnf)
 refine lW.mk aai ?_
 conv=>(whnf)
 apply lH<;>intro h
 ·rw [if_pos aaE]at hr
  conv=>(whnf)
  refine lN.i64 aai ?_
  conv=>(whnf)
  exact lQ [] (nN hr.symm)
 ·rw [if_neg aaE]at hr
  conv=>(whnf)
  exact lQ [] (nN hr.symm)
end
section
theorem J9 (arm:Int)(q:List Sm)(x:Sm):sO arm (q++ [x])=if x.x.arm=arm then sO arm q++ [x]else sO arm q:=by
 unfold sO
 rw [fQ]
 by_cases h:x.x.arm=arm<;>simp [h]
theorem Ko (arm:Int)(c:Nat)(q:List Sm)(x:Sm):selC arm c (q++ [x])=if x.x.arm=arm∧cls x.before=c then selC arm c q++ [x]else selC arm c q:=by
 unfold selC
 rw [fQ]
 by_cases h:x.x.arm=arm<;>by_cases h2:cls x.before=c<;>simp [h,h2]
theorem Ql (arm:Int)(q:List Sm) : ∀x∈sO arm q,x∈q:=fun x h=>(fA.1 h).1
theorem Qm (arm:Int)(c:Nat)(q:List Sm) : ∀x∈selC arm c q,x∈q:=fun x h=>(fA.1 h).1
theorem Qn (arm:Int)(q:List Sm):(sO arm q).length<=q.length:=dJ _ _
theorem Qo (arm:Int)(c:Nat)(q:List Sm):(selC arm c q).length<=q.length:=dJ _ _
attribute [local irreducible] cls Wu wid
section
variable {G:Glob}
theorem Qp (s q:List Sm)(x:Sm)(k:Nat)(arm cap:Int)(hk:s[k]? = some x)(Qx:q=s.take k)(hq:okV 1048576 q)(hb : ∀y∈q++ [x],I64 y.before)(hc:1<=cap∧cap<=1048576)(hl:s.length<=100000) :
  mP Tryz.prog G 167 [smL s,iv k,iv arm,iv cap] 0 [] (Is (iv (preS q x.before arm cap))):=by
 have hks:=(aB.1 hk).1
 have hql:q.length=k:=akc
 obtain⟨A,hA⟩ : ∃A,A=preS q x.before arm cap:=⟨_,rfl⟩
 rw [<-hA]
 unfold preS mean at hA
 refine lJ func167 rfl mixed aag ?_
 conv=>(whnf)
 apply lH<;>intro h
 ·exfalso;simp at h;omega
 conv=>(whnf)
 refine mJ.mk' k rfl (pF hks) ?_
 conv=>(whnf)
 refine mQ.lU hk ?_
 conv=>(whnf)
 (refine lM [] aag (aal x.before (hb x abb)) rfl ?_ ?_;(focus trivial))
 have hxb:=hb x abb
 conv=>(whnf)
 refine mY abK 0 [31] (fun j:Nat=> [(31,iv j)]) (fun _=> []) (fun j=>j<=2∧(1<=j->¬0<(selC arm (cls x.before) q).length)∧(2<=j->¬0<(sO arm q).length)) (fun j=>2-j) [] [] 0 aag (fun _=>rfl) rfl ⟨by decide,fun h=>by omega,fun h=>by omega⟩ aam aam ?_
 rintro j ⟨hj,hj1,hj2⟩
 have hj3:j=0∨j=1∨j=2:=aai
 rcases hj3 with rfl|rfl|rfl
 ·conv=>(whnf)
  refine mJ.mk' 0 rfl aaw ?_
  conv=>(whnf)
  refine uo.mk' 0 k rfl rfl (aH _) aeE ?_
  rw [show cut none (some (AV.v (.int .i64 (k:Int)))) 0 k (s.map UR)=q.map UR by rw [Qx];exact iw.symm]
  conv=>(whnf)
  refine mY TP 0 [12,13,38] (fun i:Nat=> [(12,iv ((selC arm (cls x.before) (q.take i)).length:Nat)),(13,iv (Bl (selC arm (cls x.before) (q.take i)))),(38,iv i)]) (fun _=> []) (fun i=>i<=q.length) (fun i=>q.length-i) [] [] 0 aag (fun _=>rfl) rfl (aH _) aam ⟨rfl,rfl,rfl,trivial⟩ ?_
  intro i hi
  have hv1:=xY (l:=selC arm (cls x.before) (q.take i)) fun y hy=>hq _ (bQ ((Qm _ _ _) _ hy))
  have hl1:(selC arm (cls x.before) (q.take i)).length<=i:=bG (Qo _ _ _) (iq _ _)
  conv=>(whnf)
  apply lH<;>intro h
  ·have hlt:i<q.length:=aaG
   have hg:=ah hlt
   have hsn:q.take (i+1)=q.take i++ [q[i]]:=aG hlt
   have hS:=Ko arm (cls x.before) (q.take i) q[i]
   rw [<-hsn]at hS
   have hv:=hq _ (aV hlt)
   have hyb:=hb _ (iK _ (aV hlt))
   generalize q[i]=y at *
   conv=>(whnf)
   refine mJ.mk' i rfl (pF hlt) ?_
   conv=>(whnf)
   refine mQ.lU hg ?_
   conv=>(whnf)
   refine lH (fun h1=> ?_) (fun h1=> ?_)
   rotate_left
   ·skip
    rw [if_neg (fun h'=>by simp at h1;exact h1 h'.1)]at hS
    conv=>(whnf)
    refine lN.i64 aai ?_
    conv=>(whnf)
    exact lK (i+1) [] [] rfl aec hlt aam ⟨by rw [hS];rfl,by rw [hS];rfl,rfl,trivial⟩
   conv=>(whnf)
   (refine lM [] aag (aal y.before hyb) rfl ?_ ?_;(focus trivial))
   conv=>(whnf)
   refine lH (fun h2=> ?_) (fun h2=> ?_)
   ·have hcc:((cls y.before:Nat):Int)=cls x.before:=ae9
    rw [if_pos ⟨by simpa using h1,by omega⟩]at hS
    have hsv:=Ah (selC arm (cls x.before) (q.take i)) y
    have hsl:(selC arm (cls x.before) (q.take i)++ [y]).length=(selC arm (cls x.before) (q.take i)).length+1:=aki
    rw [<-hS]at hsv hsl
    conv=>(whnf)
    (refine lX X3 [] aag ?_;conv=>(whnf))
    repeat' (first
     | (refine And.intro ?_ ?_<;>(conv=>(whnf)))
     | (refine lN.i64 aai ?_;conv=>(whnf)))
    all_goals exact lK (i+1) [] [] rfl aec hlt aam ⟨nN (by rw [hsl];omega),nN hsv.symm,rfl,trivial⟩
   ·have hcc : ¬((cls y.before:Nat):Int)=cls x.before:=ae9
    rw [if_neg (fun h'=>by omega)]at hS
    conv=>(whnf)
    refine lN.i64 aai ?_
    conv=>(whnf)
    exact lK (i+1) [] [] rfl aec hlt aam ⟨by rw [hS];rfl,by rw [hS];rfl,rfl,trivial⟩
  have hie:i=q.length:=aaG
  subst hie
  rw [aZ]at hv1 hl1 ⊢
  conv=>(whnf)
  refine lH (fun h0=> ?_) (fun h0=> ?_)
  ·have hp:0<(selC arm (cls x.before) q).length:=ae0
   conv=>(whnf)
   (refine lM [] aag (Tf (a:=Bl (selC arm (cls x.before) q)) (b:=((selC arm (cls x.before) q).length:Nat)) aai aai) rfl ?_ ?_;(focus trivial))
   conv=>(whnf)
   exact lQ [] (nN (by rw [hA,if_pos hp]))
  have hz : ¬0<(selC arm (cls x.before) q).length:=aeY
  conv=>(whnf)
  refine lN.i64 aaw ?_
  conv=>(whnf)
  exact lK 1 [] [] rfl aaw ⟨by decide,fun _=>hz,fun h=>by omega⟩ aam aam
 ·conv=>(whnf)
  refine mJ.mk' 1 rfl aaw ?_
  conv=>(whnf)
  refine uo.mk' 0 k rfl rfl (aH _) aeE ?_
  rw [show cut none (some (AV.v (.int .i64 (k:Int)))) 0 k (s.map UR)=q.map UR by rw [Qx];exact iw.symm]
  conv=>(whnf)
  refine mY TP 0 [12,13,38] (fun i:Nat=> [(12,iv ((sO arm (q.take i)).length:Nat)),(13,iv (Bl (sO arm (q.take i)))),(38,iv i)]) (fun _=> []) (fun i=>i<=q.length) (fun i=>q.length-i) [] [] 0 aag (fun _=>rfl) rfl (aH _) aam ⟨rfl,rfl,rfl,trivial⟩ ?_
  intro i hi
  have hv1:=xY (l:=sO arm (q.take i)) fun y hy=>hq _ (bQ ((Ql _ _) _ hy))
  have hl1:(sO arm (q.take i)).length<=i:=bG (Qn _ _) (iq _ _)
  conv=>(whnf)
  apply lH<;>intro h
  ·have hlt:i<q.length:=aaG
   have hg:=ah hlt
   have hsn:q.take (i+1)=q.take i++ [q[i]]:=aG hlt
   have hS:=J9 arm (q.take i) q[i]
   rw [<-hsn]at hS
   have hv:=hq _ (aV hlt)
   have hyb:=hb _ (iK _ (aV hlt))
   generalize q[i]=y at *
   conv=>(whnf)
   refine mJ.mk' i rfl (pF hlt) ?_
   conv=>(whnf)
   refine mQ.lU hg ?_
   conv=>(whnf)
   refine lH (fun h1=> ?_) (fun h1=> ?_)
   rotate_left
   ·skip
    rw [if_neg (fun h'=>by simp at h1;exact h1 h')]at hS
    conv=>(whnf)
    refine lN.i64 aai ?_
    conv=>(whnf)
    exact lK (i+1) [] [] rfl aec hlt aam ⟨by rw [hS];rfl,by rw [hS];rfl,rfl,trivial⟩
   ·skip
    rw [if_pos aaJ]at hS
    have hsv:=Ah (sO arm (q.take i)) y
    have hsl:(sO arm (q.take i)++ [y]).length=(sO arm (q.take i)).length+1:=aki
    rw [<-hS]at hsv hsl
    conv=>(whnf)
    (refine lX X3 [] aag ?_;conv=>(whnf))
    repeat' (first
     | (refine And.intro ?_ ?_<;>(conv=>(whnf)))
     | (refine lN.i64 aai ?_;conv=>(whnf)))
    all_goals exact lK (i+1) [] [] rfl aec hlt aam ⟨nN (by rw [hsl];omega),nN hsv.symm,rfl,trivial⟩
  have hie:i=q.length:=aaG
  subst hie
  rw [aZ]at hv1 hl1 ⊢
  conv=>(whnf)
  refine lH (fun h0=> ?_) (fun h0=> ?_)
  ·have hp:0<(sO arm q).length:=ae0
   conv=>(whnf)
   (refine lM [] aag (Tf (a:=Bl (sO arm q)) (b:=((sO arm q).length:Nat)) aai aai) rfl ?_ ?_;(focus trivial))
   conv=>(whnf)
   exact lQ [] (nN (by rw [hA,if_neg (hj1 (au _)),if_pos hp]))
  have hz : ¬0<(sO arm q).length:=aeY
  conv=>(whnf)
  refine lN.i64 aaw ?_
  conv=>(whnf)
  exact lK 2 [] [] rfl aaw ⟨by decide,fun _=>hj1 (au _),fun _=>hz⟩ aam aam
 ·conv=>(whnf)
  (refine lM [] aag (Tf (a:=cap) (b:=2) aaw aai) rfl ?_ ?_;(focus trivial))
  conv=>(whnf)
  exact lQ [] (nN (by rw [hA,if_neg (hj1 aaw),if_neg (hj2 aaw)]))
def ofA:Option Sc->AV
 | some z=> .og [.agg [iv z.num,iv z.unit,iv z.range],bv true]
 | none=> .og [.agg [iv 0,iv 0,iv 0],bv false]
theorem alQ (s q:List Sm)(x:Sm)(k:Nat)(w:Wg)(cap:Int)(adj:Bool)(hk:s[k]? = some x)(Qx:q=s.take k)(hb : ∀y∈q++ [x],I64 y.before)(hl:s.length<=100000) :
  mP Tryz.prog G 87 [smL s,iv k, .agg [iv w.ver,iv w.c,iv w.t],iv cap,bv adj] 0 [] (Is (ofA (Fa q x w cap adj))):=by
 have hks:=(aB.1 hk).1
 have hql:q.length=k:=akc
 have hqx:q++ [x]=s.take (k+1):=by rw [Qx,kH,hk];rfl
 have hqn:(q++ [x]).length=k+1:=by rw [ay,hql];rfl
 obtain⟨O,hO⟩ : ∃O,O=Fa q x w cap adj:=⟨_,rfl⟩
 rw [<-hO]
 refine lJ func87 rfl mixed aag ?_
 conv=>(whnf)
 apply lH<;>intro h
 ·exfalso;simp at h;omega
 conv=>(whnf)
 (refine lM [] aag (adX w.c w.t) rfl ?_ ?_;(focus trivial))
 conv=>(whnf)
 apply lH<;>intro h
 ·have hn : ¬(okW w.c∧okW w.t):=fun h'=>by simp [h']at h
  conv=>(whnf)
  have hO2:O=none:=by rw [hO];unfold Fa;exact if_neg (fun h'=>hn ⟨h'.2.1,h'.2.2.1⟩)
  rw [hO2]
  conv=>(whnf)
  exact lQ [] ⟨⟨rfl,rfl,rfl,trivial⟩,rfl,trivial⟩
 have hw:okW w.c∧okW w.t:=aaE
 obtain⟨hwc,hwt⟩:=hw
 conv=>(whnf)
 apply lH<;>intro h
 ·have hn:cap<1:=aaE
  conv=>(whnf)
  have hO2:O=none:=aeu
  rw [hO2]
  conv=>(whnf)
  exact lQ [] ⟨⟨rfl,rfl,rfl,trivial⟩,rfl,trivial⟩
 have hc1:1<=cap:=aaE
 conv=>(whnf)
 apply lH<;>intro h
 ·have hn:1048576<cap:=aaE
  conv=>(whnf)
  have hO2:O=none:=aeu
  rw [hO2]
  conv=>(whnf)
  exact lQ [] ⟨⟨rfl,rfl,rfl,trivial⟩,rfl,trivial⟩
 have hc:1<=cap∧cap<=1048576:=⟨hc1,by simpa using h⟩
 conv=>(whnf)
 refine lN.i64 aai ?_
 conv=>(whnf)
 refine uo.mk' 0 (k+1) rfl rfl (aH _) aeE ?_
 rw [show cut none (some (AV.v (.int .i64 ((k:Int)+1)))) 0 (k+1) (s.map UR)=(q++ [x]).map UR by rw [hqx];exact iw.symm]
 conv=>(whnf)
 refine mY afA 3 [51] (fun i:Nat=> [(51,iv i)]) (fun _=> [(2, .var 244 [iv w.c,iv w.t]),(1, .var 161 [iv 0,iv 0,iv 0]),(0, .var 88 [iv w.ver,iv w.c,iv w.t])]) (fun i=>i<=(q++ [x]).length∧okV cap ((q++ [x]).take i)) (fun i=>(q++ [x]).length-i) [] [] 0 aag (fun _=>rfl) rfl ⟨aH _,fun _ h=>by cases h⟩ aam aam ?_
 rintro i ⟨hi,hv⟩
 conv=>(whnf)
 apply lH<;>intro h
 ·have hlt:i<(q++ [x]).length:=ahK
  have hg:=ah hlt
  have hm:=aV hlt
  have hv2:=hv
  have hsn:(q++ [x]).take (i+1)=(q++ [x]).take i++ [(q++ [x])[i]]:=aG hlt
  generalize (q++ [x])[i]=z at *
  conv=>(whnf)
  refine mJ.mk' i rfl (pF hlt) ?_
  conv=>(whnf)
  refine mQ.lU hg ?_
  conv=>(whnf)
  refine lH (fun h1=> ?_) (fun h1=> ?_)
  ·have hn:z.value<0:=aaJ
   conv=>(whnf)
   have hO2:O=none:=aee
   rw [hO2]
   conv=>(whnf)
   exact lQ [] ⟨⟨rfl,rfl,rfl,trivial⟩,rfl,trivial⟩
  conv=>(whnf)
  refine lH (fun h2=> ?_) (fun h2=> ?_)
  ·have hn:cap<z.value:=ae9
   conv=>(whnf)
   have hO2:O=none:=aee
   rw [hO2]
   conv=>(whnf)
   exact lQ [] ⟨⟨rfl,rfl,rfl,trivial⟩,rfl,trivial⟩
  conv=>(whnf)
  refine lN.i64 aai ?_
  conv=>(whnf)
  exact lK (i+1) [] [] rfl (by show (q++ [x]).length -(i+1)<(q++ [x]).length-i;omega) ⟨hlt,fun y hy=>by
   rw [hsn]at hy
   rcases bC.1 hy with hy|hy
   ·exact hv y hy
   ·rw [aW.1 hy];exact⟨by simpa using h1,by simpa using h2⟩⟩ aam aam
 have hie:i=(q++ [x]).length:=ahr
 subst hie
 rw [aZ]at hv
 have hq:okV 1048576 q:=fun y hy=>by have:=hv y (iK _ hy);omega
 have hxv:=hv x abb
 have hO2:(x.x.arm=1∨x.x.arm=2)->O=some (ofS q x w cap adj):=fun ha=>by rw [hO];exact if_pos ⟨ha,hwc,hwt,hc,hv⟩
 have hO3 : ¬(x.x.arm=1∨x.x.arm=2)->O=none:=fun ha=>by rw [hO];exact if_neg fun h'=>ha h'.1
 clear hO
 have harm:x.x.arm=1∨x.x.arm=2∨(x.x.arm≠1∧x.x.arm≠2):=aai
 conv=>(whnf)
 refine lH (fun ha=> ?_) (fun ha=> ?_)
 ·have hp1:=Dt (b:=x.before) (arm:=1) hq hc
  have hp2:=Dt (b:=x.before) (arm:=2) hq hc
  have ahw:=Qp (G:=G) s q x k 1 cap hk Qx hq hb hc hl
  have ahx:=Qp (G:=G) s q x k 2 cap hk Qx hq hb hc hl
  subst ha
  have hz:ofS q x w cap true=⟨if x.x.arm=1 then w.c*w.t*(preS q x.before 2 cap-preS q x.before 1 cap) -(w.c+w.t)*w.t*(x.value-preS q x.before 1 cap)else w.c*w.t*(preS q x.before 2 cap-preS q x.before 1 cap)+(w.c+w.t)*w.c*(x.value-preS q x.before 2 cap),w.c*w.t*cap,cap*(2*(w.c*w.t)+(w.c+w.t)*max w.c w.t)⟩:=rfl
  generalize ofS q x w cap true=z at *
  generalize preS q x.before 1 cap=p1 at *
  generalize preS q x.before 2 cap=p2 at *
  have hc0:0<=w.c∧w.c<=10000:=aif
  have ht0:0<=w.t∧w.t<=10000:=aii
  have hs0:0<=w.c+w.t∧w.c+w.t<=20000:=aai
  have hx0:0<=max w.c w.t∧max w.c w.t<=10000:=aai
  have hP:=mulR hc0.1 hc0.2 ht0.1 ht0.2
  have hSt:=mulR hs0.1 hs0.2 ht0.1 ht0.2
  have hSc:=mulR hs0.1 hs0.2 hc0.1 hc0.2
  have hSm:=mulR hs0.1 hs0.2 hx0.1 hx0.2
  have hC:=mulR hP.1 hP.2 (show 0<=cap by omega) hc.2
  have hR:=mulR (show 0<=cap by omega) hc.2 (show 0<=2*(w.c*w.t)+(w.c+w.t)*max w.c w.t by omega) (show _<=400000000 by omega)
  have hD:=mulS (b:=p2-p1) (B:=1048576) hP.1 hP.2 aai aai
  have hA1:=mulS (b:=x.value-p1) (B:=1048576) hSt.1 hSt.2 aai aai
  have hA2:=mulS (b:=x.value-p2) (B:=1048576) hSc.1 hSc.2 aai aai
  conv=>(whnf)
  (refine lM [] aag (ahw) rfl ?_ ?_;(focus trivial))
  conv=>(whnf)
  (refine lM [] aag (ahx) rfl ?_ ?_;(focus trivial))
  rcases harm with ha1|ha1|ha1
  ·skip
   conv=>(whnf)
   (refine lX Aq [] aag ?_;conv=>(whnf))
   repeat' (first
    | (refine And.intro ?_ ?_<;>(conv=>(whnf)))
    | ((refine lM [] aag (Ej hwc hwt) rfl ?_ ?_;(focus (trivial;done));(conv=>(whnf))))
    | ((refine lM [] aag (J8 hwc hwt) rfl ?_ ?_;(focus (trivial;done));(conv=>(whnf))))
    | (refine lN.i64 aai ?_;conv=>(whnf))
    | (refine mJ.mk' k rfl (pF hks) ?_;conv=>(whnf))
    | (refine mQ.lU hk ?_;conv=>(whnf))
    | (refine lH (fun h1=> ?_) (fun h1=> ?_)<;>(first|(exfalso;simp [ha1]at h1;done)|(conv=>(whnf))))
    | ((refine lX Aq [] aag ?_;conv=>(whnf))))
   all_goals (rw [hO2 (.inl ha1)])
   all_goals exact lQ [] ⟨⟨nN air,nN agC,nN agC,trivial⟩,rfl,trivial⟩
  ·skip
   conv=>(whnf)
   (refine lX Aq [] aag ?_;conv=>(whnf))
   repeat' (first
    | (refine And.intro ?_ ?_<;>(conv=>(whnf)))
    | ((refine lM [] aag (Ej hwc hwt) rfl ?_ ?_;(focus (trivial;done));(conv=>(whnf))))
    | ((refine lM [] aag (J8 hwc hwt) rfl ?_ ?_;(focus (trivial;done));(conv=>(whnf))))
    | (refine lN.i64 aai ?_;conv=>(whnf))
    | (refine mJ.mk' k rfl (pF hks) ?_;conv=>(whnf))
    | (refine mQ.lU hk ?_;conv=>(whnf))
    | (refine lH (fun h1=> ?_) (fun h1=> ?_)<;>(first|(exfalso;simp [ha1]at h1;done)|(conv=>(whnf))))
    | ((refine lX Aq [] aag ?_;conv=>(whnf))))
   all_goals (rw [hO2 (.inr ha1)])
   all_goals exact lQ [] ⟨⟨nN ahL,nN agC,nN agC,trivial⟩,rfl,trivial⟩
  ·skip
   conv=>(whnf)
   (refine lX Aq [] aag ?_;conv=>(whnf))
   repeat' (first
    | (refine And.intro ?_ ?_<;>(conv=>(whnf)))
    | ((refine lM [] aag (Ej hwc hwt) rfl ?_ ?_;(focus (trivial;done));(conv=>(whnf))))
    | ((refine lM [] aag (J8 hwc hwt) rfl ?_ ?_;(focus (trivial;done));(conv=>(whnf))))
    | (refine lN.i64 aai ?_;conv=>(whnf))
    | (refine mJ.mk' k rfl (pF hks) ?_;conv=>(whnf))
    | (refine mQ.lU hk ?_;conv=>(whnf))
    | (refine lH (fun h1=> ?_) (fun h1=> ?_)<;>(first|(exfalso;simp [ha1]at h1;done)|(conv=>(whnf)))))
   all_goals (rw [hO3 (fun h'=>h'.elim ha1.1 ha1.2)])
   all_goals exact lQ [] ⟨⟨rfl,rfl,rfl,trivial⟩,rfl,trivial⟩
 ·have hz:ofS q x w cap adj=⟨if x.x.arm=1 then w.c*w.t*(0-0) -(w.c+w.t)*w.t*(x.value-0)else w.c*w.t*(0-0)+(w.c+w.t)*w.c*(x.value-0),w.c*w.t*cap,cap*(2*(w.c*w.t)+(w.c+w.t)*max w.c w.t)⟩:=by rw [ha];rfl
  generalize ofS q x w cap adj=z at *
  have hc0:0<=w.c∧w.c<=10000:=aif
  have ht0:0<=w.t∧w.t<=10000:=aii
  have hs0:0<=w.c+w.t∧w.c+w.t<=20000:=aai
  have hx0:0<=max w.c w.t∧max w.c w.t<=10000:=aai
  have hP:=mulR hc0.1 hc0.2 ht0.1 ht0.2
  have hSt:=mulR hs0.1 hs0.2 ht0.1 ht0.2
  have hSc:=mulR hs0.1 hs0.2 hc0.1 hc0.2
  have hSm:=mulR hs0.1 hs0.2 hx0.1 hx0.2
  have hC:=mulR hP.1 hP.2 (show 0<=cap by omega) hc.2
  have hR:=mulR (show 0<=cap by omega) hc.2 (show 0<=2*(w.c*w.t)+(w.c+w.t)*max w.c w.t by omega) (show _<=400000000 by omega)
  have hD:=mulS (b:=0-0) (B:=1048576) hP.1 hP.2 aai aai
  have hA1:=mulS (b:=x.value-0) (B:=1048576) hSt.1 hSt.2 aai aai
  have hA2:=mulS (b:=x.value-0) (B:=1048576) hSc.1 hSc.2 aai aai
  rcases harm with ha1|ha1|ha1
  ·skip
   conv=>(whnf)
   (refine lX Aq [] aag ?_;conv=>(whnf))
   repeat' (first
    | (refine And.intro ?_ ?_<;>(conv=>(whnf)))
    | ((refine lM [] aag (Ej hwc hwt) rfl ?_ ?_;(focus (trivial;done));(conv=>(whnf))))
    | ((refine lM [] aag (J8 hwc hwt) rfl ?_ ?_;(focus (trivial;done));(conv=>(whnf))))
    | (refine lN.i64 aai ?_;conv=>(whnf))
    | (refine mJ.mk' k rfl (pF hks) ?_;conv=>(whnf))
    | (refine mQ.lU hk ?_;conv=>(whnf))
    | (refine lH (fun h1=> ?_) (fun h1=> ?_)<;>(first|(exfalso;simp [ha1]at h1;done)|(conv=>(whnf))))
    | ((refine lX Aq [] aag ?_;conv=>(whnf))))
   all_goals (rw [hO2 (.inl ha1)])
   all_goals exact lQ [] ⟨⟨nN air,nN agC,nN agC,trivial⟩,rfl,trivial⟩
  ·skip
   conv=>(whnf)
   (refine lX Aq [] aag ?_;conv=>(whnf))
   repeat' (first
    | (refine And.intro ?_ ?_<;>(conv=>(whnf)))
    | ((refine lM [] aag (Ej hwc hwt) rfl ?_ ?_;(focus (trivial;done));(conv=>(whnf))))
    | ((refine lM [] aag (J8 hwc hwt) rfl ?_ ?_;(focus (trivial;done));(conv=>(whnf))))
    | (refine lN.i64 aai ?_;conv=>(whnf))
    | (refine mJ.mk' k rfl (pF hks) ?_;conv=>(whnf))
    | (refine mQ.lU hk ?_;conv=>(whnf))
    | (refine lH (fun h1=> ?_) (fun h1=> ?_)<;>(first|(exfalso;simp [ha1]at h1;done)|(conv=>(whnf))))
    | ((refine lX Aq [] aag ?_;conv=>(whnf))))
   all_goals (rw [hO2 (.inr ha1)])
   all_goals exact lQ [] ⟨⟨nN ahL,nN agC,nN agC,trivial⟩,rfl,trivial⟩
  ·skip
   conv=>(whnf)
   (refine lX Aq [] aag ?_;conv=>(whnf))
   repeat' (first
    | (refine And.intro ?_ ?_<;>(conv=>(whnf)))
    | ((refine lM [] aag (Ej hwc hwt) rfl ?_ ?_;(focus (trivial;done));(conv=>(whnf))))
    | ((refine lM [] aag (J8 hwc hwt) rfl ?_ ?_;(focus (trivial;done));(conv=>(whnf))))
    | (refine lN.i64 aai ?_;conv=>(whnf))
    | (refine mJ.mk' k rfl (pF hks) ?_;conv=>(whnf))
    | (refine mQ.lU hk ?_;conv=>(whnf))
    | (refine lH (fun h1=> ?_) (fun h1=> ?_)<;>(first|(exfalso;simp [ha1]at h1;done)|(conv=>(whnf)))))
   all_goals (rw [hO3 (fun h'=>h'.elim ha1.1 ha1.2)])
   all_goals exact lQ [] ⟨⟨rfl,rfl,rfl,trivial⟩,rfl,trivial⟩
end
end
end Go.Proofs.YtnandbihiceihaaGreatDoor.Cl
