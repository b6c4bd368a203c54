/- Joined parts of the proof. The walk of the made events once more: which events they are -/
import Derived.Test.YtocckceefcmeaaaGreatDoorPk11
import Derived.Test.YtocckceefcmeaaaGreatDoorPk10
import Derived.Test.YtocckceefcmeaaaGreatDoorPk7
import Derived.OpenShut
import Derived.Stop.Joined
set_option linter.unusedVariables false
set_option linter.unusedSimpArgs false
set_option maxRecDepth 100000
set_option maxHeartbeats 16000000
namespace Go.Proofs.YtocckceefcmeaaaGreatDoor.Cl
open RowKit Vc Ax Ky Go.Proofs.Tryz
attribute [local irreducible] loadVar storeVar Instr.indexAt Instr.index Instr.sliceAt Instr.makeSlice Instr.lookup Instr.mapUpdate Instr.range Instr.next Instr.entry Instr.makeMap Builtin.append_ Builtin.copy_ Builtin.len_ Builtin.min_ Builtin.max_ Builtin.cap_ Builtin.delete_ Builtin.clear_ convert binOp eqGuard Op.unary Calls
section
def LQ (L:By)(out:List Ev)(tm:Nat)(sq:List Nat)(st v2 sv:Nat)(cl:By)(v3 v5 v6 v7 v8 p8:Nat):ES:=
 ⟨out++ [⟨cl,(sv:Int)+1,1,(tm:Int)+st,pX v3,qU.getD (v5/7) [],[],1+((v8/4:Nat):Int),((1+v6%9%2:Nat):Int)+((v7/11:Nat):Int),0⟩],p8,tm+st,sq.set v2 (sv+1),v2⟩
def Vy (L:By)(out:List Ev)(tm:Nat)(sq:List Nat)(st v2 sv:Nat)(cl:By)(v3 v5 p5:Nat):ES:=
 ⟨out++ [⟨cl,(sv:Int)+1,3,(tm:Int)+st,pX v3,[],if pX v5=pX v3 then pX (v5+1)else pX v5,0,0,0⟩],p5,tm+st,sq.set v2 (sv+1),v2⟩
def evM (L:By)(out:List Ev)(tm:Nat)(sq:List Nat)(st v2 sv:Nat)(cl:By)(v3 v5 v6 p6:Nat):ES:=
 ⟨out++ [⟨cl,(sv:Int)+1,2,(tm:Int)+st,pX v3,zY.getD (v5/2) [],[],0,0,(v6:Int)-4⟩],p6,tm+st,sq.set v2 (sv+1),v2⟩
def qV (L:By)(out:List Ev)(tm:Nat)(sq:List Nat)(st v2 sv:Nat)(cl:By)(v3 v4 p4:Nat):ES:=
 if v4<3 then LQ L out tm sq st v2 sv cl v3 (wI L p4 8) (wI L (uD L p4) 10) (wI L (uD L (uD L p4)) 12) (wI L (uD L (uD L (uD L p4))) 5) (uD L (uD L (uD L (uD L p4))))
 else if v4=3 then Vy L out tm sq st v2 sv cl v3 (wI L p4 6) (uD L p4)
 else evM L out tm sq st v2 sv cl v3 (wI L p4 3) (wI L (uD L p4) 40) (uD L (uD L p4))
def FY (L:By)(x:ES):ES:=
 qV L x.out x.tm x.sq (if wI L x.a 4=0∧((wI L (uD L x.a) 3:Nat):Int)<x.last then 1 else wI L x.a 4) (wI L (uD L x.a) 3) (x.sq.getD (wI L (uD L x.a) 3) 0) (EZ.getD (wI L (uD L x.a) 3) []) (wI L (uD L (uD L x.a)) 6) (wI L (uD L (uD L (uD L x.a))) 8) (uD L (uD L (uD L (uD L x.a))))
def JL (L:By):Nat->ES->List Ev
 | 0,x=>x.out
 | m+1,x=>if x.a<L.length then JL L m (FY L x)else x.out
def evT (L:By):List Ev:=JL L 60 ⟨[],0,0,[0,0,0], -1⟩
theorem WY {L:By}{m:Nat}{x:ES}(h : ¬x.a<L.length):JL L m x=x.out:=by
 cases m with
 | zero=>rfl
 | succ m=>show (if _ then _ else _)=_;rw [if_neg h]
theorem ql {L:By}{x y:ES}(h:x.a<L.length)(hl:x.out.length<60)(e:FY L x=y)(hy:y.out.length=x.out.length+1):JL L (60-x.out.length) x=JL L (60-y.out.length) y:=by
 have h2:60-x.out.length=(60-y.out.length)+1:=by omega
 rw [h2]
 show (if _ then _ else _)=_
 rw [if_pos h,e]
theorem xC {L:By}(hL:L.length<=1000){p:Nat}(hp:p<=L.length)(n:Nat)(hn:0<n)(hn2:n<=256) : ∃v q,wI L p n=v∧uD L p=q∧NxC L p n v q:=⟨wI L p n,uD L p,rfl,rfl,sK L p n hn,qR hp,DN L p n hn hn2 (by omega) hp⟩
theorem oO {α:Type}(l:List α)(a:α):(l++ [a]).length=l.length+1:=by simp
attribute [local irreducible] evT JL FY wI uD
theorem aj8 (L:By)(hL:L.length<=1000):mQ Tryz.prog GS 60 [bs L] 0 [] (fun a m H=> ∃l,(aeF l∧l=evT L)∧sW 95 10 (l.map rO) a m H):=by
 refine lQ func60 rfl mixed (by kernel_rfl) ?_
 refine mO agu 3 [4,5,7] (fun x:ES=> [(4, .own 2),(5,iv x.tm),(7,iv x.last)]) (fun x=> [(0,TW L x.a),(1, .rows 3 1 (x.sq.map enN)),(2, .rows 95 10 (x.out.map rO))]) (fun x=>EI L x∧evT L=JL L (60-x.out.length) x) (fun x=>60-x.out.length) [(2, .nil)] [] ⟨[],0,0,[0,0,0], -1⟩ (by kernel_rfl) (fun _=>rfl) rfl ⟨⟨au _,⟨au _,(fun _ h=>by cases h),List.Pairwise.nil⟩,au _,(fun _ h=>by cases h),rfl,(by simp),by constructor<;>(dsimp only;omega)⟩,by unfold evT;rfl⟩ ⟨(by trivial),(by trivial),rfl,trivial⟩ ⟨trivial,rfl,rfl,trivial⟩ ?_
 rintro⟨out,p,tm,sq,last⟩ ⟨hJ,hE⟩
 obtain⟨hp,hP,htm,hle,hsl,hsb,hlast⟩:=id hJ
 dsimp only at hp hP htm hle hsl hsb hlast hE
 have hol:=hP.len
 refine pW [0] [] (by kernel_rfl) (aj7 L p) rfl (by trivial) (by trivial) rfl ?_
 apply lK<;>intro h
 rotate_left
 ·have hz:out=evT L:=by rw [hE,WY (x:=⟨out,p,tm,sq,last⟩) (by simpa using h)]
  exact lX (.own 0) 1 _ [(0, .lab 2)] [] ⟨out,⟨hP,hz⟩,rfl,rfl,rfl⟩ rfl (by trivial) (by trivial)
 have hmo:p<L.length:=by simpa using h
 apply lK<;>intro h
 rotate_left
 ·have hz:out=evT L:=by rw [hE,show 60-out.length=0 by simp at h;omega];unfold JL;rfl
  exact lX (.own 0) 1 _ [(0, .lab 2)] [] ⟨out,⟨hP,hz⟩,rfl,rfl,rfl⟩ rfl (by trivial) (by trivial)
 have hlt:out.length<60:=by simp at h;omega
 refine pW [0] [] (by kernel_rfl) (DN L p 4 (by decide) (by decide) (by omega) hp) rfl (by trivial) (by trivial) rfl ?_
 conv=>whnf
 have hv1:=sK L p 4 (by decide)
 have hp1:=qR (L:=L) hp
 generalize e1:wI L p 4=v1 at *
 generalize f1:uD L p=p1 at *
 refine pW [0] [] (by kernel_rfl) (DN L p1 3 (by decide) (by decide) (by omega) hp1) rfl (by trivial) (by trivial) rfl ?_
 conv=>whnf
 have hv2:=sK L p1 3 (by decide)
 have hp2:=qR (L:=L) hp1
 generalize e2:wI L p1 3=v2 at *
 generalize f2:uD L p1=p2 at *
 obtain⟨sv,hsv,zq⟩ : ∃sv,sq[v2]? = some sv∧sv<=out.length:=⟨_,aj (by omega),hsb _ (aT _)⟩
 obtain⟨cl,hcl,hcm⟩ : ∃cl,EZ[v2]? = some cl∧cl∈EZ:=⟨_,aj hv2,aT _⟩
 have ah4:sq.getD v2 0=sv:=by rw [ay,hsv,bH]
 have ah5:EZ.getD v2 []=cl:=by rw [ay,hcl,bH]
 have hv3:=sK L p2 6 (by decide)
 have hid:mQ Tryz.prog GS 94 [iv (wI L p2 6)] 0 [] (Is (tv (pX (wI L p2 6)))):=mQ.up (TU _ (by omega)) GS
 refine lK (fun hq=> ?_) (fun hq=> ?_)
 ·refine lK (fun hc=> ?_) (fun hc=> ?_)
  ·have hst:(if v1=0∧((v2:Nat):Int)<last then 1 else v1)=1:=if_pos ⟨by simpa using hq,by simpa using hc⟩
   refine lV.i64 (by dsimp only;omega) ?_
   refine mZ.mk' v2 rfl (by rw [ah,hsl];exact hv2) ?_
   refine mD.lT hsv ?_
   refine lV.i64 (by omega) ?_
   refine mZ.mk' v2 rfl (by rw [ah,hsl];exact hv2) ?_
   refine mD.lT hsv ?_
   refine xY uP [0] [(10,10),(44,56)] 4 [(10, .ptr 3 0)] [(0,TW L (uD L p2)),(1, .rows 3 1 (((sq.map enN).set v2 (enN (sv+1))))),(2, .rows 95 10 (out.map rO)),(3, .var 95 [tv cl,iv ((sv:Int)+1),iv 0,iv ((tm:Int)+1),tv (pX (wI L p2 6)),tv [],tv [],iv 0,iv 0,iv 0])] (by kernel_rfl) (by kernel_rfl) ?_ ?_
   ·conv=>whnf
    repeat' (first
     | (refine And.intro ?_ ?_<;>(conv=>whnf))
     | (refine mZ.mk' v2 rfl hv2 ?_;conv=>whnf)
     | (refine mD.lT (enc:=wC) (xs:=EZ) hcl ?_;conv=>whnf)
     | (refine mZ.mk' v2 rfl (by rw [bV,ah,hsl];exact hv2) ?_;conv=>whnf)
     | (refine mD.set (by rw [ah,hsl];exact hv2) ?_;conv=>whnf)
     | (refine nM [0] [] (by kernel_rfl) (DN L p2 6 (by decide) (by decide) (by omega) hp2) rfl (by trivial) (by trivial) ?_;rintro _ _ _ ⟨rfl,rfl,rfl⟩;refine⟨rfl, ?_⟩;conv=>whnf)
     | ((refine mF [] (by kernel_rfl) (hid) rfl ?_ ?_;(focus (trivial;done));(conv=>whnf))))
    all_goals first
     | (refine nH [(3, .lab 3)] [] ?_ ?_ ?_;(focus rfl);(focus trivial);(focus trivial);done)
     | (refine nH [(3, .lab 4)] [] ?_ ?_ ?_;(focus rfl);(focus trivial);(focus trivial);done)
     | (refine nH [(3, .lab 5)] [] ?_ ?_ ?_;(focus rfl);(focus trivial);(focus trivial);done)
   have hp3:=qR (L:=L) hp2
   generalize e3:wI L p2 6=v3 at *
   generalize f3:uD L p2=p3 at *
   refine pW [0] [] (by kernel_rfl) (DN L p3 8 (by decide) (by decide) (by omega) hp3) rfl (by trivial) (by trivial) rfl ?_
   conv=>whnf
   have hv4:=sK L p3 8 (by decide)
   have Jf:=qR (L:=L) hp3
   generalize e4:wI L p3 8=v4 at *
   generalize f4:uD L p3=p4 at *
   have hS:FY L ⟨out,p,tm,sq,last⟩=qV L out tm sq 1 v2 sv cl v3 v4 p4:=by
    unfold FY
    dsimp only
    rw [e1,f1,e2,f2,e3,f3,e4,f4,ah4,ah5,hst]
   rcases(by omega:v4=0∨v4=1∨v4=2∨v4=3∨4<=v4)with rfl|rfl|rfl|rfl|h4
   ·conv=>whnf
    obtain⟨v5,p5,e5,f5,hv5,yM,c5⟩:=xC hL Jf 8 (by decide) (by decide)
    obtain⟨v6,p6,e6,f6,hv6,E5,c6⟩:=xC hL yM 10 (by decide) (by decide)
    obtain⟨v7,p7,e7,f7,hv7,Ou,c7⟩:=xC hL E5 12 (by decide) (by decide)
    obtain⟨v8,p8,e8,f8,hv8,EN,c8⟩:=xC hL Ou 5 (by decide) (by decide)
    obtain⟨xn,hxn⟩ : ∃xn,qU[v5/7]? = some xn:=⟨_,aj (by have:qU.length=4:=rfl;omega)⟩
    have hxe:xn=qU.getD (v5/7) []:=by rw [ay,hxn,bH]
    (refine mP uP [0,3] (by kernel_rfl) ?_;conv=>whnf)
    refine mY [] (by kernel_rfl) (DR) (by trivial) ?_
    conv=>whnf
    repeat' (first
     | (refine And.intro ?_ ?_<;>(conv=>whnf))
     | (refine pW [0] [] (by kernel_rfl) c5 rfl ?_ ?_ rfl ?_;(focus (trivial;done));(focus (trivial;done));conv=>whnf)
     | (refine pW [0] [] (by kernel_rfl) c6 rfl ?_ ?_ rfl ?_;(focus (trivial;done));(focus (trivial;done));conv=>whnf)
     | (refine pW [0] [] (by kernel_rfl) c7 rfl ?_ ?_ rfl ?_;(focus (trivial;done));(focus (trivial;done));conv=>whnf)
     | (refine pW [0] [] (by kernel_rfl) c8 rfl ?_ ?_ rfl ?_;(focus (trivial;done));(focus (trivial;done));conv=>whnf)
     | (refine lN.mk (by decide) ?_;conv=>whnf)
     | (refine mZ.mk' (v5/7) rfl (by rw [ah];have:qU.length=4:=rfl;omega) ?_;conv=>whnf)
     | (refine mD.lT hxn ?_;conv=>whnf)
     | (refine lV.div v5 7 (by omega) ?_;conv=>whnf)
     | (refine lV.div v7 11 (by omega) ?_;conv=>whnf)
     | (refine lV.div v8 4 (by omega) ?_;conv=>whnf)
     | (refine lV.to (y:=((1+v6%9%2:Nat):Int)) ?_ ?_;(focus (rw [show (1:Int)+((v6:Int).tmod 9).tmod 2=((1+v6%9%2:Nat):Int)from rfl];exact IntWalk.i64_in _ (by omega)));conv=>whnf)
     | (refine lV.i64 ?_ ?_;(focus omega);conv=>whnf))
    have hZ : ∀k,k<3->qV L out tm sq 1 v2 sv cl v3 k p4=LQ L out tm sq 1 v2 sv cl v3 v5 v6 v7 v8 p8:=fun k hk=>by unfold qV;rw [if_pos hk,e5,f5,e6,f6,e7,f7,e8,f8]
    unfold LQ at hZ
    rw [<-hxe]at hZ
    refine lN.mk (lS (by simp only [ln];omega) (by kernel_rfl)) ?_
    exact lU ⟨out++ [⟨cl,(sv:Int)+1,1,(tm:Int)+1,pX v3,xn,[],1+((v8/4:Nat):Int),((1+v6%9%2:Nat):Int)+((v7/11:Nat):Int),0⟩],p8,tm+1,sq.set v2 (sv+1),v2⟩ [(2, .lab 6)] [] rfl (by show 60 -(out++ [_]).length<60-out.length;rw [ak];simp;omega) ⟨hJ.next hlt EN (by omega) hv2 zq rfl ⟨hcm,⟨v3,hv3,rfl⟩,(by dsimp only;omega),(by dsimp only;omega), .inl ⟨rfl,⟨v5/7,by omega,hxe⟩,rfl,(by dsimp only;omega),(by dsimp only;omega),rfl⟩⟩,hE.trans (ql (x:=⟨out,p,tm,sq,last⟩) hmo hlt (hS.trans (hZ _ (by decide))) (oO _ _))⟩ ⟨(by trivial),⟨rfl,rfl,bT.symm⟩,⟨rfl,rfl,qj out ⟨cl,(sv:Int)+1,1,(tm:Int)+1,pX v3,xn,[],1+((v8/4:Nat):Int),((1+v6%9%2:Nat):Int)+((v7/11:Nat):Int),0⟩⟩,trivial⟩ ⟨rfl,rfl,rfl,trivial⟩
   ·conv=>whnf
    obtain⟨v5,p5,e5,f5,hv5,yM,c5⟩:=xC hL Jf 8 (by decide) (by decide)
    obtain⟨v6,p6,e6,f6,hv6,E5,c6⟩:=xC hL yM 10 (by decide) (by decide)
    obtain⟨v7,p7,e7,f7,hv7,Ou,c7⟩:=xC hL E5 12 (by decide) (by decide)
    obtain⟨v8,p8,e8,f8,hv8,EN,c8⟩:=xC hL Ou 5 (by decide) (by decide)
    obtain⟨xn,hxn⟩ : ∃xn,qU[v5/7]? = some xn:=⟨_,aj (by have:qU.length=4:=rfl;omega)⟩
    have hxe:xn=qU.getD (v5/7) []:=by rw [ay,hxn,bH]
    (refine mP uP [0,3] (by kernel_rfl) ?_;conv=>whnf)
    refine mY [] (by kernel_rfl) (DR) (by trivial) ?_
    conv=>whnf
    repeat' (first
     | (refine And.intro ?_ ?_<;>(conv=>whnf))
     | (refine pW [0] [] (by kernel_rfl) c5 rfl ?_ ?_ rfl ?_;(focus (trivial;done));(focus (trivial;done));conv=>whnf)
     | (refine pW [0] [] (by kernel_rfl) c6 rfl ?_ ?_ rfl ?_;(focus (trivial;done));(focus (trivial;done));conv=>whnf)
     | (refine pW [0] [] (by kernel_rfl) c7 rfl ?_ ?_ rfl ?_;(focus (trivial;done));(focus (trivial;done));conv=>whnf)
     | (refine pW [0] [] (by kernel_rfl) c8 rfl ?_ ?_ rfl ?_;(focus (trivial;done));(focus (trivial;done));conv=>whnf)
     | (refine lN.mk (by decide) ?_;conv=>whnf)
     | (refine mZ.mk' (v5/7) rfl (by rw [ah];have:qU.length=4:=rfl;omega) ?_;conv=>whnf)
     | (refine mD.lT hxn ?_;conv=>whnf)
     | (refine lV.div v5 7 (by omega) ?_;conv=>whnf)
     | (refine lV.div v7 11 (by omega) ?_;conv=>whnf)
     | (refine lV.div v8 4 (by omega) ?_;conv=>whnf)
     | (refine lV.to (y:=((1+v6%9%2:Nat):Int)) ?_ ?_;(focus (rw [show (1:Int)+((v6:Int).tmod 9).tmod 2=((1+v6%9%2:Nat):Int)from rfl];exact IntWalk.i64_in _ (by omega)));conv=>whnf)
     | (refine lV.i64 ?_ ?_;(focus omega);conv=>whnf))
    have hZ : ∀k,k<3->qV L out tm sq 1 v2 sv cl v3 k p4=LQ L out tm sq 1 v2 sv cl v3 v5 v6 v7 v8 p8:=fun k hk=>by unfold qV;rw [if_pos hk,e5,f5,e6,f6,e7,f7,e8,f8]
    unfold LQ at hZ
    rw [<-hxe]at hZ
    refine lN.mk (lS (by simp only [ln];omega) (by kernel_rfl)) ?_
    exact lU ⟨out++ [⟨cl,(sv:Int)+1,1,(tm:Int)+1,pX v3,xn,[],1+((v8/4:Nat):Int),((1+v6%9%2:Nat):Int)+((v7/11:Nat):Int),0⟩],p8,tm+1,sq.set v2 (sv+1),v2⟩ [(2, .lab 6)] [] rfl (by show 60 -(out++ [_]).length<60-out.length;rw [ak];simp;omega) ⟨hJ.next hlt EN (by omega) hv2 zq rfl ⟨hcm,⟨v3,hv3,rfl⟩,(by dsimp only;omega),(by dsimp only;omega), .inl ⟨rfl,⟨v5/7,by omega,hxe⟩,rfl,(by dsimp only;omega),(by dsimp only;omega),rfl⟩⟩,hE.trans (ql (x:=⟨out,p,tm,sq,last⟩) hmo hlt (hS.trans (hZ _ (by decide))) (oO _ _))⟩ ⟨(by trivial),⟨rfl,rfl,bT.symm⟩,⟨rfl,rfl,qj out ⟨cl,(sv:Int)+1,1,(tm:Int)+1,pX v3,xn,[],1+((v8/4:Nat):Int),((1+v6%9%2:Nat):Int)+((v7/11:Nat):Int),0⟩⟩,trivial⟩ ⟨rfl,rfl,rfl,trivial⟩
   ·conv=>whnf
    obtain⟨v5,p5,e5,f5,hv5,yM,c5⟩:=xC hL Jf 8 (by decide) (by decide)
    obtain⟨v6,p6,e6,f6,hv6,E5,c6⟩:=xC hL yM 10 (by decide) (by decide)
    obtain⟨v7,p7,e7,f7,hv7,Ou,c7⟩:=xC hL E5 12 (by decide) (by decide)
    obtain⟨v8,p8,e8,f8,hv8,EN,c8⟩:=xC hL Ou 5 (by decide) (by decide)
    obtain⟨xn,hxn⟩ : ∃xn,qU[v5/7]? = some xn:=⟨_,aj (by have:qU.length=4:=rfl;omega)⟩
    have hxe:xn=qU.getD (v5/7) []:=by rw [ay,hxn,bH]
    (refine mP uP [0,3] (by kernel_rfl) ?_;conv=>whnf)
    refine mY [] (by kernel_rfl) (DR) (by trivial) ?_
    conv=>whnf
    repeat' (first
     | (refine And.intro ?_ ?_<;>(conv=>whnf))
     | (refine pW [0] [] (by kernel_rfl) c5 rfl ?_ ?_ rfl ?_;(focus (trivial;done));(focus (trivial;done));conv=>whnf)
     | (refine pW [0] [] (by kernel_rfl) c6 rfl ?_ ?_ rfl ?_;(focus (trivial;done));(focus (trivial;done));conv=>whnf)
     | (refine pW [0] [] (by kernel_rfl) c7 rfl ?_ ?_ rfl ?_;(focus (trivial;done));(focus (trivial;done));conv=>whnf)
     | (refine pW [0] [] (by kernel_rfl) c8 rfl ?_ ?_ rfl ?_;(focus (trivial;done));(focus (trivial;done));conv=>whnf)
     | (refine lN.mk (by decide) ?_;conv=>whnf)
     | (refine mZ.mk' (v5/7) rfl (by rw [ah];have:qU.length=4:=rfl;omega) ?_;conv=>whnf)
     | (refine mD.lT hxn ?_;conv=>whnf)
     | (refine lV.div v5 7 (by omega) ?_;conv=>whnf)
     | (refine lV.div v7 11 (by omega) ?_;conv=>whnf)
     | (refine lV.div v8 4 (by omega) ?_;conv=>whnf)
     | (refine lV.to (y:=((1+v6%9%2:Nat):Int)) ?_ ?_;(focus (rw [show (1:Int)+((v6:Int).tmod 9).tmod 2=((1+v6%9%2:Nat):Int)from rfl];exact IntWalk.i64_in _ (by omega)));conv=>whnf)
     | (refine lV.i64 ?_ ?_;(focus omega);conv=>whnf))
    have hZ : ∀k,k<3->qV L out tm sq 1 v2 sv cl v3 k p4=LQ L out tm sq 1 v2 sv cl v3 v5 v6 v7 v8 p8:=fun k hk=>by unfold qV;rw [if_pos hk,e5,f5,e6,f6,e7,f7,e8,f8]
    unfold LQ at hZ
    rw [<-hxe]at hZ
    refine lN.mk (lS (by simp only [ln];omega) (by kernel_rfl)) ?_
    exact lU ⟨out++ [⟨cl,(sv:Int)+1,1,(tm:Int)+1,pX v3,xn,[],1+((v8/4:Nat):Int),((1+v6%9%2:Nat):Int)+((v7/11:Nat):Int),0⟩],p8,tm+1,sq.set v2 (sv+1),v2⟩ [(2, .lab 6)] [] rfl (by show 60 -(out++ [_]).length<60-out.length;rw [ak];simp;omega) ⟨hJ.next hlt EN (by omega) hv2 zq rfl ⟨hcm,⟨v3,hv3,rfl⟩,(by dsimp only;omega),(by dsimp only;omega), .inl ⟨rfl,⟨v5/7,by omega,hxe⟩,rfl,(by dsimp only;omega),(by dsimp only;omega),rfl⟩⟩,hE.trans (ql (x:=⟨out,p,tm,sq,last⟩) hmo hlt (hS.trans (hZ _ (by decide))) (oO _ _))⟩ ⟨(by trivial),⟨rfl,rfl,bT.symm⟩,⟨rfl,rfl,qj out ⟨cl,(sv:Int)+1,1,(tm:Int)+1,pX v3,xn,[],1+((v8/4:Nat):Int),((1+v6%9%2:Nat):Int)+((v7/11:Nat):Int),0⟩⟩,trivial⟩ ⟨rfl,rfl,rfl,trivial⟩
   ·conv=>whnf
    obtain⟨v5,p5,e5,f5,hv5,yM,c5⟩:=xC hL Jf 6 (by decide) (by decide)
    refine pW [0] [] (by kernel_rfl) c5 rfl ?_ ?_ rfl ?_;(focus (trivial;done));(focus (trivial;done));conv=>whnf
    (refine mP uP [] (by kernel_rfl) ?_;conv=>whnf)
    have hi5:mQ Tryz.prog GS 94 [iv v5] 0 [] (Is (tv (pX v5))):=mQ.up (TU _ (by omega)) GS
    have hi6:mQ Tryz.prog GS 94 [iv ((v5:Int)+1)] 0 [] (Is (tv (pX (v5+1)))):=mQ.up (TU (v5+1) (by omega)) GS
    (refine mF [] (by kernel_rfl) (hi5) rfl ?_ ?_;(focus (trivial;done));(conv=>whnf))
    apply lK<;>intro h
    ·refine lV.i64 (by omega) ?_
     (refine mF [] (by kernel_rfl) (hi6) rfl ?_ ?_;(focus (trivial;done));(conv=>whnf))
     have hid:pX v5=pX v3:=by have h:=h;rw [qP,decide_eq_true_eq]at h;exact h
     have hZ:qV L out tm sq 1 v2 sv cl v3 3 p4=Vy L out tm sq 1 v2 sv cl v3 v5 p5:=by unfold qV;rw [if_neg (by decide),if_pos rfl,e5,f5]
     unfold Vy at hZ
     rw [if_pos hid]at hZ
     refine lN.mk (lS (by simp only [ln];omega) (by kernel_rfl)) ?_
     exact lU ⟨out++ [⟨cl,(sv:Int)+1,3,(tm:Int)+1,pX v3,[],pX (v5+1),0,0,0⟩],p5,tm+1,sq.set v2 (sv+1),v2⟩ [(2, .lab 5)] [] rfl (by show 60 -(out++ [_]).length<60-out.length;rw [ak];simp;omega) ⟨hJ.next hlt yM (by omega) hv2 zq rfl ⟨hcm,⟨v3,hv3,rfl⟩,(by dsimp only;omega),(by dsimp only;omega), .inr (.inr ⟨rfl,rfl,⟨v5+1,by omega,rfl⟩,Hg hv5 hv3 h,rfl,rfl,rfl⟩)⟩,hE.trans (ql (x:=⟨out,p,tm,sq,last⟩) hmo hlt (hS.trans hZ) (oO _ _))⟩ ⟨(by trivial),⟨rfl,rfl,bT.symm⟩,⟨rfl,rfl,qj out ⟨cl,(sv:Int)+1,3,(tm:Int)+1,pX v3,[],pX (v5+1),0,0,0⟩⟩,trivial⟩ ⟨rfl,rfl,rfl,trivial⟩
    ·(refine mF [] (by kernel_rfl) (hi5) rfl ?_ ?_;(focus (trivial;done));(conv=>whnf))
     have hZ:qV L out tm sq 1 v2 sv cl v3 3 p4=Vy L out tm sq 1 v2 sv cl v3 v5 p5:=by unfold qV;rw [if_neg (by decide),if_pos rfl,e5,f5]
     unfold Vy at hZ
     rw [if_neg (AL h)]at hZ
     refine lN.mk (lS (by simp only [ln];omega) (by kernel_rfl)) ?_
     exact lU ⟨out++ [⟨cl,(sv:Int)+1,3,(tm:Int)+1,pX v3,[],pX v5,0,0,0⟩],p5,tm+1,sq.set v2 (sv+1),v2⟩ [(2, .lab 5)] [] rfl (by show 60 -(out++ [_]).length<60-out.length;rw [ak];simp;omega) ⟨hJ.next hlt yM (by omega) hv2 zq rfl ⟨hcm,⟨v3,hv3,rfl⟩,(by dsimp only;omega),(by dsimp only;omega), .inr (.inr ⟨rfl,rfl,⟨v5,by omega,rfl⟩,AL h,rfl,rfl,rfl⟩)⟩,hE.trans (ql (x:=⟨out,p,tm,sq,last⟩) hmo hlt (hS.trans hZ) (oO _ _))⟩ ⟨(by trivial),⟨rfl,rfl,bT.symm⟩,⟨rfl,rfl,qj out ⟨cl,(sv:Int)+1,3,(tm:Int)+1,pX v3,[],pX v5,0,0,0⟩⟩,trivial⟩ ⟨rfl,rfl,rfl,trivial⟩
   ·repeat' (refine zZ (beq_eq_false_iff_ne.2 (by omega)) ?_;conv=>whnf)
    obtain⟨v5,p5,e5,f5,hv5,yM,c5⟩:=xC hL Jf 3 (by decide) (by decide)
    obtain⟨v6,p6,e6,f6,hv6,E5,c6⟩:=xC hL yM 40 (by decide) (by decide)
    obtain⟨xn,hxn⟩ : ∃xn,zY[v5/2]? = some xn:=⟨_,aj (by have:zY.length=2:=rfl;omega)⟩
    have hxe:xn=zY.getD (v5/2) []:=by rw [ay,hxn,bH]
    (refine mP uP [0,3] (by kernel_rfl) ?_;conv=>whnf)
    refine mY [] (by kernel_rfl) (aaB) (by trivial) ?_
    conv=>whnf
    repeat' (first
     | (refine And.intro ?_ ?_<;>(conv=>whnf))
     | (refine pW [0] [] (by kernel_rfl) c5 rfl ?_ ?_ rfl ?_;(focus (trivial;done));(focus (trivial;done));conv=>whnf)
     | (refine pW [0] [] (by kernel_rfl) c6 rfl ?_ ?_ rfl ?_;(focus (trivial;done));(focus (trivial;done));conv=>whnf)
     | (refine lN.mk (by decide) ?_;conv=>whnf)
     | (refine mZ.mk' (v5/2) rfl (by rw [ah];have:zY.length=2:=rfl;omega) ?_;conv=>whnf)
     | (refine mD.lT hxn ?_;conv=>whnf)
     | (refine lV.div v5 2 (by omega) ?_;conv=>whnf)
     | (refine lV.i64 ?_ ?_;(focus omega);conv=>whnf))
    have hZ:qV L out tm sq 1 v2 sv cl v3 v4 p4=evM L out tm sq 1 v2 sv cl v3 v5 v6 p6:=by unfold qV;rw [if_neg (by omega),if_neg (by omega),e5,f5,e6,f6]
    unfold evM at hZ
    rw [<-hxe]at hZ
    refine lN.mk (lS (by simp only [ln];omega) (by kernel_rfl)) ?_
    exact lU ⟨out++ [⟨cl,(sv:Int)+1,2,(tm:Int)+1,pX v3,xn,[],0,0,(v6:Int)-4⟩],p6,tm+1,sq.set v2 (sv+1),v2⟩ [(2, .lab 6)] [] rfl (by show 60 -(out++ [_]).length<60-out.length;rw [ak];simp;omega) ⟨hJ.next hlt E5 (by omega) hv2 zq rfl ⟨hcm,⟨v3,hv3,rfl⟩,(by dsimp only;omega),(by dsimp only;omega), .inr (.inl ⟨rfl,⟨v5/2,by omega,hxe⟩,rfl,rfl,rfl,(by dsimp only;omega)⟩)⟩,hE.trans (ql (x:=⟨out,p,tm,sq,last⟩) hmo hlt (hS.trans hZ) (oO _ _))⟩ ⟨(by trivial),⟨rfl,rfl,bT.symm⟩,⟨rfl,rfl,qj out ⟨cl,(sv:Int)+1,2,(tm:Int)+1,pX v3,xn,[],0,0,(v6:Int)-4⟩⟩,trivial⟩ ⟨rfl,rfl,rfl,trivial⟩
  ·have hst:(if v1=0∧((v2:Nat):Int)<last then 1 else v1)=v1:=if_neg (fun hx=>by have:=hx.2;simp at hc;omega)
   refine lV.i64 (by dsimp only;omega) ?_
   refine mZ.mk' v2 rfl (by rw [ah,hsl];exact hv2) ?_
   refine mD.lT hsv ?_
   refine lV.i64 (by omega) ?_
   refine mZ.mk' v2 rfl (by rw [ah,hsl];exact hv2) ?_
   refine mD.lT hsv ?_
   refine xY uP [0] [(10,10),(44,56)] 4 [(10, .ptr 3 0)] [(0,TW L (uD L p2)),(1, .rows 3 1 (((sq.map enN).set v2 (enN (sv+1))))),(2, .rows 95 10 (out.map rO)),(3, .var 95 [tv cl,iv ((sv:Int)+1),iv 0,iv ((tm:Int)+v1),tv (pX (wI L p2 6)),tv [],tv [],iv 0,iv 0,iv 0])] (by kernel_rfl) (by kernel_rfl) ?_ ?_
   ·conv=>whnf
    repeat' (first
     | (refine And.intro ?_ ?_<;>(conv=>whnf))
     | (refine mZ.mk' v2 rfl hv2 ?_;conv=>whnf)
     | (refine mD.lT (enc:=wC) (xs:=EZ) hcl ?_;conv=>whnf)
     | (refine mZ.mk' v2 rfl (by rw [bV,ah,hsl];exact hv2) ?_;conv=>whnf)
     | (refine mD.set (by rw [ah,hsl];exact hv2) ?_;conv=>whnf)
     | (refine nM [0] [] (by kernel_rfl) (DN L p2 6 (by decide) (by decide) (by omega) hp2) rfl (by trivial) (by trivial) ?_;rintro _ _ _ ⟨rfl,rfl,rfl⟩;refine⟨rfl, ?_⟩;conv=>whnf)
     | ((refine mF [] (by kernel_rfl) (hid) rfl ?_ ?_;(focus (trivial;done));(conv=>whnf))))
    all_goals first
     | (refine nH [(3, .lab 3)] [] ?_ ?_ ?_;(focus rfl);(focus trivial);(focus trivial);done)
     | (refine nH [(3, .lab 4)] [] ?_ ?_ ?_;(focus rfl);(focus trivial);(focus trivial);done)
     | (refine nH [(3, .lab 5)] [] ?_ ?_ ?_;(focus rfl);(focus trivial);(focus trivial);done)
   have hp3:=qR (L:=L) hp2
   generalize e3:wI L p2 6=v3 at *
   generalize f3:uD L p2=p3 at *
   refine pW [0] [] (by kernel_rfl) (DN L p3 8 (by decide) (by decide) (by omega) hp3) rfl (by trivial) (by trivial) rfl ?_
   conv=>whnf
   have hv4:=sK L p3 8 (by decide)
   have Jf:=qR (L:=L) hp3
   generalize e4:wI L p3 8=v4 at *
   generalize f4:uD L p3=p4 at *
   have hS:FY L ⟨out,p,tm,sq,last⟩=qV L out tm sq v1 v2 sv cl v3 v4 p4:=by
    unfold FY
    dsimp only
    rw [e1,f1,e2,f2,e3,f3,e4,f4,ah4,ah5,hst]
   rcases(by omega:v4=0∨v4=1∨v4=2∨v4=3∨4<=v4)with rfl|rfl|rfl|rfl|h4
   ·conv=>whnf
    obtain⟨v5,p5,e5,f5,hv5,yM,c5⟩:=xC hL Jf 8 (by decide) (by decide)
    obtain⟨v6,p6,e6,f6,hv6,E5,c6⟩:=xC hL yM 10 (by decide) (by decide)
    obtain⟨v7,p7,e7,f7,hv7,Ou,c7⟩:=xC hL E5 12 (by decide) (by decide)
    obtain⟨v8,p8,e8,f8,hv8,EN,c8⟩:=xC hL Ou 5 (by decide) (by decide)
    obtain⟨xn,hxn⟩ : ∃xn,qU[v5/7]? = some xn:=⟨_,aj (by have:qU.length=4:=rfl;omega)⟩
    have hxe:xn=qU.getD (v5/7) []:=by rw [ay,hxn,bH]
    (refine mP uP [0,3] (by kernel_rfl) ?_;conv=>whnf)
    refine mY [] (by kernel_rfl) (DR) (by trivial) ?_
    conv=>whnf
    repeat' (first
     | (refine And.intro ?_ ?_<;>(conv=>whnf))
     | (refine pW [0] [] (by kernel_rfl) c5 rfl ?_ ?_ rfl ?_;(focus (trivial;done));(focus (trivial;done));conv=>whnf)
     | (refine pW [0] [] (by kernel_rfl) c6 rfl ?_ ?_ rfl ?_;(focus (trivial;done));(focus (trivial;done));conv=>whnf)
     | (refine pW [0] [] (by kernel_rfl) c7 rfl ?_ ?_ rfl ?_;(focus (trivial;done));(focus (trivial;done));conv=>whnf)
     | (refine pW [0] [] (by kernel_rfl) c8 rfl ?_ ?_ rfl ?_;(focus (trivial;done));(focus (trivial;done));conv=>whnf)
     | (refine lN.mk (by decide) ?_;conv=>whnf)
     | (refine mZ.mk' (v5/7) rfl (by rw [ah];have:qU.length=4:=rfl;omega) ?_;conv=>whnf)
     | (refine mD.lT hxn ?_;conv=>whnf)
     | (refine lV.div v5 7 (by omega) ?_;conv=>whnf)
     | (refine lV.div v7 11 (by omega) ?_;conv=>whnf)
     | (refine lV.div v8 4 (by omega) ?_;conv=>whnf)
     | (refine lV.to (y:=((1+v6%9%2:Nat):Int)) ?_ ?_;(focus (rw [show (1:Int)+((v6:Int).tmod 9).tmod 2=((1+v6%9%2:Nat):Int)from rfl];exact IntWalk.i64_in _ (by omega)));conv=>whnf)
     | (refine lV.i64 ?_ ?_;(focus omega);conv=>whnf))
    have hZ : ∀k,k<3->qV L out tm sq v1 v2 sv cl v3 k p4=LQ L out tm sq v1 v2 sv cl v3 v5 v6 v7 v8 p8:=fun k hk=>by unfold qV;rw [if_pos hk,e5,f5,e6,f6,e7,f7,e8,f8]
    unfold LQ at hZ
    rw [<-hxe]at hZ
    refine lN.mk (lS (by simp only [ln];omega) (by kernel_rfl)) ?_
    exact lU ⟨out++ [⟨cl,(sv:Int)+1,1,(tm:Int)+v1,pX v3,xn,[],1+((v8/4:Nat):Int),((1+v6%9%2:Nat):Int)+((v7/11:Nat):Int),0⟩],p8,tm+v1,sq.set v2 (sv+1),v2⟩ [(2, .lab 6)] [] rfl (by show 60 -(out++ [_]).length<60-out.length;rw [ak];simp;omega) ⟨hJ.next hlt EN (by omega) hv2 zq rfl ⟨hcm,⟨v3,hv3,rfl⟩,(by dsimp only;omega),(by dsimp only;omega), .inl ⟨rfl,⟨v5/7,by omega,hxe⟩,rfl,(by dsimp only;omega),(by dsimp only;omega),rfl⟩⟩,hE.trans (ql (x:=⟨out,p,tm,sq,last⟩) hmo hlt (hS.trans (hZ _ (by decide))) (oO _ _))⟩ ⟨(by trivial),⟨rfl,rfl,bT.symm⟩,⟨rfl,rfl,qj out ⟨cl,(sv:Int)+1,1,(tm:Int)+v1,pX v3,xn,[],1+((v8/4:Nat):Int),((1+v6%9%2:Nat):Int)+((v7/11:Nat):Int),0⟩⟩,trivial⟩ ⟨rfl,rfl,rfl,trivial⟩
   ·conv=>whnf
    obtain⟨v5,p5,e5,f5,hv5,yM,c5⟩:=xC hL Jf 8 (by decide) (by decide)
    obtain⟨v6,p6,e6,f6,hv6,E5,c6⟩:=xC hL yM 10 (by decide) (by decide)
    obtain⟨v7,p7,e7,f7,hv7,Ou,c7⟩:=xC hL E5 12 (by decide) (by decide)
    obtain⟨v8,p8,e8,f8,hv8,EN,c8⟩:=xC hL Ou 5 (by decide) (by decide)
    obtain⟨xn,hxn⟩ : ∃xn,qU[v5/7]? = some xn:=⟨_,aj (by have:qU.length=4:=rfl;omega)⟩
    have hxe:xn=qU.getD (v5/7) []:=by rw [ay,hxn,bH]
    (refine mP uP [0,3] (by kernel_rfl) ?_;conv=>whnf)
    refine mY [] (by kernel_rfl) (DR) (by trivial) ?_
    conv=>whnf
    repeat' (first
     | (refine And.intro ?_ ?_<;>(conv=>whnf))
     | (refine pW [0] [] (by kernel_rfl) c5 rfl ?_ ?_ rfl ?_;(focus (trivial;done));(focus (trivial;done));conv=>whnf)
     | (refine pW [0] [] (by kernel_rfl) c6 rfl ?_ ?_ rfl ?_;(focus (trivial;done));(focus (trivial;done));conv=>whnf)
     | (refine pW [0] [] (by kernel_rfl) c7 rfl ?_ ?_ rfl ?_;(focus (trivial;done));(focus (trivial;done));conv=>whnf)
     | (refine pW [0] [] (by kernel_rfl) c8 rfl ?_ ?_ rfl ?_;(focus (trivial;done));(focus (trivial;done));conv=>whnf)
     | (refine lN.mk (by decide) ?_;conv=>whnf)
     | (refine mZ.mk' (v5/7) rfl (by rw [ah];have:qU.length=4:=rfl;omega) ?_;conv=>whnf)
     | (refine mD.lT hxn ?_;conv=>whnf)
     | (refine lV.div v5 7 (by omega) ?_;conv=>whnf)
     | (refine lV.div v7 11 (by omega) ?_;conv=>whnf)
     | (refine lV.div v8 4 (by omega) ?_;conv=>whnf)
     | (refine lV.to (y:=((1+v6%9%2:Nat):Int)) ?_ ?_;(focus (rw [show (1:Int)+((v6:Int).tmod 9).tmod 2=((1+v6%9%2:Nat):Int)from rfl];exact IntWalk.i64_in _ (by omega)));conv=>whnf)
     | (refine lV.i64 ?_ ?_;(focus omega);conv=>whnf))
    have hZ : ∀k,k<3->qV L out tm sq v1 v2 sv cl v3 k p4=LQ L out tm sq v1 v2 sv cl v3 v5 v6 v7 v8 p8:=fun k hk=>by unfold qV;rw [if_pos hk,e5,f5,e6,f6,e7,f7,e8,f8]
    unfold LQ at hZ
    rw [<-hxe]at hZ
    refine lN.mk (lS (by simp only [ln];omega) (by kernel_rfl)) ?_
    exact lU ⟨out++ [⟨cl,(sv:Int)+1,1,(tm:Int)+v1,pX v3,xn,[],1+((v8/4:Nat):Int),((1+v6%9%2:Nat):Int)+((v7/11:Nat):Int),0⟩],p8,tm+v1,sq.set v2 (sv+1),v2⟩ [(2, .lab 6)] [] rfl (by show 60 -(out++ [_]).length<60-out.length;rw [ak];simp;omega) ⟨hJ.next hlt EN (by omega) hv2 zq rfl ⟨hcm,⟨v3,hv3,rfl⟩,(by dsimp only;omega),(by dsimp only;omega), .inl ⟨rfl,⟨v5/7,by omega,hxe⟩,rfl,(by dsimp only;omega),(by dsimp only;omega),rfl⟩⟩,hE.trans (ql (x:=⟨out,p,tm,sq,last⟩) hmo hlt (hS.trans (hZ _ (by decide))) (oO _ _))⟩ ⟨(by trivial),⟨rfl,rfl,bT.symm⟩,⟨rfl,rfl,qj out ⟨cl,(sv:Int)+1,1,(tm:Int)+v1,pX v3,xn,[],1+((v8/4:Nat):Int),((1+v6%9%2:Nat):Int)+((v7/11:Nat):Int),0⟩⟩,trivial⟩ ⟨rfl,rfl,rfl,trivial⟩
   ·conv=>whnf
    obtain⟨v5,p5,e5,f5,hv5,yM,c5⟩:=xC hL Jf 8 (by decide) (by decide)
    obtain⟨v6,p6,e6,f6,hv6,E5,c6⟩:=xC hL yM 10 (by decide) (by decide)
    obtain⟨v7,p7,e7,f7,hv7,Ou,c7⟩:=xC hL E5 12 (by decide) (by decide)
    obtain⟨v8,p8,e8,f8,hv8,EN,c8⟩:=xC hL Ou 5 (by decide) (by decide)
    obtain⟨xn,hxn⟩ : ∃xn,qU[v5/7]? = some xn:=⟨_,aj (by have:qU.length=4:=rfl;omega)⟩
    have hxe:xn=qU.getD (v5/7) []:=by rw [ay,hxn,bH]
    (refine mP uP [0,3] (by kernel_rfl) ?_;conv=>whnf)
    refine mY [] (by kernel_rfl) (DR) (by trivial) ?_
    conv=>whnf
    repeat' (first
     | (refine And.intro ?_ ?_<;>(conv=>whnf))
     | (refine pW [0] [] (by kernel_rfl) c5 rfl ?_ ?_ rfl ?_;(focus (trivial;done));(focus (trivial;done));conv=>whnf)
     | (refine pW [0] [] (by kernel_rfl) c6 rfl ?_ ?_ rfl ?_;(focus (trivial;done));(focus (trivial;done));conv=>whnf)
     | (refine pW [0] [] (by kernel_rfl) c7 rfl ?_ ?_ rfl ?_;(focus (trivial;done));(focus (trivial;done));conv=>whnf)
     | (refine pW [0] [] (by kernel_rfl) c8 rfl ?_ ?_ rfl ?_;(focus (trivial;done));(focus (trivial;done));conv=>whnf)
     | (refine lN.mk (by decide) ?_;conv=>whnf)
     | (refine mZ.mk' (v5/7) rfl (by rw [ah];have:qU.length=4:=rfl;omega) ?_;conv=>whnf)
     | (refine mD.lT hxn ?_;conv=>whnf)
     | (refine lV.div v5 7 (by omega) ?_;conv=>whnf)
     | (refine lV.div v7 11 (by omega) ?_;conv=>whnf)
     | (refine lV.div v8 4 (by omega) ?_;conv=>whnf)
     | (refine lV.to (y:=((1+v6%9%2:Nat):Int)) ?_ ?_;(focus (rw [show (1:Int)+((v6:Int).tmod 9).tmod 2=((1+v6%9%2:Nat):Int)from rfl];exact IntWalk.i64_in _ (by omega)));conv=>whnf)
     | (refine lV.i64 ?_ ?_;(focus omega);conv=>whnf))
    have hZ : ∀k,k<3->qV L out tm sq v1 v2 sv cl v3 k p4=LQ L out tm sq v1 v2 sv cl v3 v5 v6 v7 v8 p8:=fun k hk=>by unfold qV;rw [if_pos hk,e5,f5,e6,f6,e7,f7,e8,f8]
    unfold LQ at hZ
    rw [<-hxe]at hZ
    refine lN.mk (lS (by simp only [ln];omega) (by kernel_rfl)) ?_
    exact lU ⟨out++ [⟨cl,(sv:Int)+1,1,(tm:Int)+v1,pX v3,xn,[],1+((v8/4:Nat):Int),((1+v6%9%2:Nat):Int)+((v7/11:Nat):Int),0⟩],p8,tm+v1,sq.set v2 (sv+1),v2⟩ [(2, .lab 6)] [] rfl (by show 60 -(out++ [_]).length<60-out.length;rw [ak];simp;omega) ⟨hJ.next hlt EN (by omega) hv2 zq rfl ⟨hcm,⟨v3,hv3,rfl⟩,(by dsimp only;omega),(by dsimp only;omega), .inl ⟨rfl,⟨v5/7,by omega,hxe⟩,rfl,(by dsimp only;omega),(by dsimp only;omega),rfl⟩⟩,hE.trans (ql (x:=⟨out,p,tm,sq,last⟩) hmo hlt (hS.trans (hZ _ (by decide))) (oO _ _))⟩ ⟨(by trivial),⟨rfl,rfl,bT.symm⟩,⟨rfl,rfl,qj out ⟨cl,(sv:Int)+1,1,(tm:Int)+v1,pX v3,xn,[],1+((v8/4:Nat):Int),((1+v6%9%2:Nat):Int)+((v7/11:Nat):Int),0⟩⟩,trivial⟩ ⟨rfl,rfl,rfl,trivial⟩
   ·conv=>whnf
    obtain⟨v5,p5,e5,f5,hv5,yM,c5⟩:=xC hL Jf 6 (by decide) (by decide)
    refine pW [0] [] (by kernel_rfl) c5 rfl ?_ ?_ rfl ?_;(focus (trivial;done));(focus (trivial;done));conv=>whnf
    (refine mP uP [] (by kernel_rfl) ?_;conv=>whnf)
    have hi5:mQ Tryz.prog GS 94 [iv v5] 0 [] (Is (tv (pX v5))):=mQ.up (TU _ (by omega)) GS
    have hi6:mQ Tryz.prog GS 94 [iv ((v5:Int)+1)] 0 [] (Is (tv (pX (v5+1)))):=mQ.up (TU (v5+1) (by omega)) GS
    (refine mF [] (by kernel_rfl) (hi5) rfl ?_ ?_;(focus (trivial;done));(conv=>whnf))
    apply lK<;>intro h
    ·refine lV.i64 (by omega) ?_
     (refine mF [] (by kernel_rfl) (hi6) rfl ?_ ?_;(focus (trivial;done));(conv=>whnf))
     have hid:pX v5=pX v3:=by have h:=h;rw [qP,decide_eq_true_eq]at h;exact h
     have hZ:qV L out tm sq v1 v2 sv cl v3 3 p4=Vy L out tm sq v1 v2 sv cl v3 v5 p5:=by unfold qV;rw [if_neg (by decide),if_pos rfl,e5,f5]
     unfold Vy at hZ
     rw [if_pos hid]at hZ
     refine lN.mk (lS (by simp only [ln];omega) (by kernel_rfl)) ?_
     exact lU ⟨out++ [⟨cl,(sv:Int)+1,3,(tm:Int)+v1,pX v3,[],pX (v5+1),0,0,0⟩],p5,tm+v1,sq.set v2 (sv+1),v2⟩ [(2, .lab 5)] [] rfl (by show 60 -(out++ [_]).length<60-out.length;rw [ak];simp;omega) ⟨hJ.next hlt yM (by omega) hv2 zq rfl ⟨hcm,⟨v3,hv3,rfl⟩,(by dsimp only;omega),(by dsimp only;omega), .inr (.inr ⟨rfl,rfl,⟨v5+1,by omega,rfl⟩,Hg hv5 hv3 h,rfl,rfl,rfl⟩)⟩,hE.trans (ql (x:=⟨out,p,tm,sq,last⟩) hmo hlt (hS.trans hZ) (oO _ _))⟩ ⟨(by trivial),⟨rfl,rfl,bT.symm⟩,⟨rfl,rfl,qj out ⟨cl,(sv:Int)+1,3,(tm:Int)+v1,pX v3,[],pX (v5+1),0,0,0⟩⟩,trivial⟩ ⟨rfl,rfl,rfl,trivial⟩
    ·(refine mF [] (by kernel_rfl) (hi5) rfl ?_ ?_;(focus (trivial;done));(conv=>whnf))
     have hZ:qV L out tm sq v1 v2 sv cl v3 3 p4=Vy L out tm sq v1 v2 sv cl v3 v5 p5:=by unfold qV;rw [if_neg (by decide),if_pos rfl,e5,f5]
     unfold Vy at hZ
     rw [if_neg (AL h)]at hZ
     refine lN.mk (lS (by simp only [ln];omega) (by kernel_rfl)) ?_
     exact lU ⟨out++ [⟨cl,(sv:Int)+1,3,(tm:Int)+v1,pX v3,[],pX v5,0,0,0⟩],p5,tm+v1,sq.set v2 (sv+1),v2⟩ [(2, .lab 5)] [] rfl (by show 60 -(out++ [_]).length<60-out.length;rw [ak];simp;omega) ⟨hJ.next hlt yM (by omega) hv2 zq rfl ⟨hcm,⟨v3,hv3,rfl⟩,(by dsimp only;omega),(by dsimp only;omega), .inr (.inr ⟨rfl,rfl,⟨v5,by omega,rfl⟩,AL h,rfl,rfl,rfl⟩)⟩,hE.trans (ql (x:=⟨out,p,tm,sq,last⟩) hmo hlt (hS.trans hZ) (oO _ _))⟩ ⟨(by trivial),⟨rfl,rfl,bT.symm⟩,⟨rfl,rfl,qj out ⟨cl,(sv:Int)+1,3,(tm:Int)+v1,pX v3,[],pX v5,0,0,0⟩⟩,trivial⟩ ⟨rfl,rfl,rfl,trivial⟩
   ·repeat' (refine zZ (beq_eq_false_iff_ne.2 (by omega)) ?_;conv=>whnf)
    obtain⟨v5,p5,e5,f5,hv5,yM,c5⟩:=xC hL Jf 3 (by decide) (by decide)
    obtain⟨v6,p6,e6,f6,hv6,E5,c6⟩:=xC hL yM 40 (by decide) (by decide)
    obtain⟨xn,hxn⟩ : ∃xn,zY[v5/2]? = some xn:=⟨_,aj (by have:zY.length=2:=rfl;omega)⟩
    have hxe:xn=zY.getD (v5/2) []:=by rw [ay,hxn,bH]
    (refine mP uP [0,3] (by kernel_rfl) ?_;conv=>whnf)
    refine mY [] (by kernel_rfl) (aaB) (by trivial) ?_
    conv=>whnf
    repeat' (first
     | (refine And.intro ?_ ?_<;>(conv=>whnf))
     | (refine pW [0] [] (by kernel_rfl) c5 rfl ?_ ?_ rfl ?_;(focus (trivial;done));(focus (trivial;done));conv=>whnf)
     | (refine pW [0] [] (by kernel_rfl) c6 rfl ?_ ?_ rfl ?_;(focus (trivial;done));(focus (trivial;done));conv=>whnf)
     | (refine lN.mk (by decide) ?_;conv=>whnf)
     | (refine mZ.mk' (v5/2) rfl (by rw [ah];have:zY.length=2:=rfl;omega) ?_;conv=>whnf)
     | (refine mD.lT hxn ?_;conv=>whnf)
     | (refine lV.div v5 2 (by omega) ?_;conv=>whnf)
     | (refine lV.i64 ?_ ?_;(focus omega);conv=>whnf))
    have hZ:qV L out tm sq v1 v2 sv cl v3 v4 p4=evM L out tm sq v1 v2 sv cl v3 v5 v6 p6:=by unfold qV;rw [if_neg (by omega),if_neg (by omega),e5,f5,e6,f6]
    unfold evM at hZ
    rw [<-hxe]at hZ
    refine lN.mk (lS (by simp only [ln];omega) (by kernel_rfl)) ?_
    exact lU ⟨out++ [⟨cl,(sv:Int)+1,2,(tm:Int)+v1,pX v3,xn,[],0,0,(v6:Int)-4⟩],p6,tm+v1,sq.set v2 (sv+1),v2⟩ [(2, .lab 6)] [] rfl (by show 60 -(out++ [_]).length<60-out.length;rw [ak];simp;omega) ⟨hJ.next hlt E5 (by omega) hv2 zq rfl ⟨hcm,⟨v3,hv3,rfl⟩,(by dsimp only;omega),(by dsimp only;omega), .inr (.inl ⟨rfl,⟨v5/2,by omega,hxe⟩,rfl,rfl,rfl,(by dsimp only;omega)⟩)⟩,hE.trans (ql (x:=⟨out,p,tm,sq,last⟩) hmo hlt (hS.trans hZ) (oO _ _))⟩ ⟨(by trivial),⟨rfl,rfl,bT.symm⟩,⟨rfl,rfl,qj out ⟨cl,(sv:Int)+1,2,(tm:Int)+v1,pX v3,xn,[],0,0,(v6:Int)-4⟩⟩,trivial⟩ ⟨rfl,rfl,rfl,trivial⟩
 ·have hst:(if v1=0∧((v2:Nat):Int)<last then 1 else v1)=v1:=if_neg (fun hx=>by have:=hx.1;simp at hq;omega)
  refine lV.i64 (by dsimp only;omega) ?_
  refine mZ.mk' v2 rfl (by rw [ah,hsl];exact hv2) ?_
  refine mD.lT hsv ?_
  refine lV.i64 (by omega) ?_
  refine mZ.mk' v2 rfl (by rw [ah,hsl];exact hv2) ?_
  refine mD.lT hsv ?_
  refine xY uP [0] [(10,10),(44,56)] 4 [(10, .ptr 3 0)] [(0,TW L (uD L p2)),(1, .rows 3 1 (((sq.map enN).set v2 (enN (sv+1))))),(2, .rows 95 10 (out.map rO)),(3, .var 95 [tv cl,iv ((sv:Int)+1),iv 0,iv ((tm:Int)+v1),tv (pX (wI L p2 6)),tv [],tv [],iv 0,iv 0,iv 0])] (by kernel_rfl) (by kernel_rfl) ?_ ?_
  ·conv=>whnf
   repeat' (first
    | (refine And.intro ?_ ?_<;>(conv=>whnf))
    | (refine mZ.mk' v2 rfl hv2 ?_;conv=>whnf)
    | (refine mD.lT (enc:=wC) (xs:=EZ) hcl ?_;conv=>whnf)
    | (refine mZ.mk' v2 rfl (by rw [bV,ah,hsl];exact hv2) ?_;conv=>whnf)
    | (refine mD.set (by rw [ah,hsl];exact hv2) ?_;conv=>whnf)
    | (refine nM [0] [] (by kernel_rfl) (DN L p2 6 (by decide) (by decide) (by omega) hp2) rfl (by trivial) (by trivial) ?_;rintro _ _ _ ⟨rfl,rfl,rfl⟩;refine⟨rfl, ?_⟩;conv=>whnf)
    | ((refine mF [] (by kernel_rfl) (hid) rfl ?_ ?_;(focus (trivial;done));(conv=>whnf))))
   all_goals first
    | (refine nH [(3, .lab 3)] [] ?_ ?_ ?_;(focus rfl);(focus trivial);(focus trivial);done)
    | (refine nH [(3, .lab 4)] [] ?_ ?_ ?_;(focus rfl);(focus trivial);(focus trivial);done)
    | (refine nH [(3, .lab 5)] [] ?_ ?_ ?_;(focus rfl);(focus trivial);(focus trivial);done)
  have hp3:=qR (L:=L) hp2
  generalize e3:wI L p2 6=v3 at *
  generalize f3:uD L p2=p3 at *
  refine pW [0] [] (by kernel_rfl) (DN L p3 8 (by decide) (by decide) (by omega) hp3) rfl (by trivial) (by trivial) rfl ?_
  conv=>whnf
  have hv4:=sK L p3 8 (by decide)
  have Jf:=qR (L:=L) hp3
  generalize e4:wI L p3 8=v4 at *
  generalize f4:uD L p3=p4 at *
  have hS:FY L ⟨out,p,tm,sq,last⟩=qV L out tm sq v1 v2 sv cl v3 v4 p4:=by
   unfold FY
   dsimp only
   rw [e1,f1,e2,f2,e3,f3,e4,f4,ah4,ah5,hst]
  rcases(by omega:v4=0∨v4=1∨v4=2∨v4=3∨4<=v4)with rfl|rfl|rfl|rfl|h4
  ·conv=>whnf
   obtain⟨v5,p5,e5,f5,hv5,yM,c5⟩:=xC hL Jf 8 (by decide) (by decide)
   obtain⟨v6,p6,e6,f6,hv6,E5,c6⟩:=xC hL yM 10 (by decide) (by decide)
   obtain⟨v7,p7,e7,f7,hv7,Ou,c7⟩:=xC hL E5 12 (by decide) (by decide)
   obtain⟨v8,p8,e8,f8,hv8,EN,c8⟩:=xC hL Ou 5 (by decide) (by decide)
   obtain⟨xn,hxn⟩ : ∃xn,qU[v5/7]? = some xn:=⟨_,aj (by have:qU.length=4:=rfl;omega)⟩
   have hxe:xn=qU.getD (v5/7) []:=by rw [ay,hxn,bH]
   (refine mP uP [0,3] (by kernel_rfl) ?_;conv=>whnf)
   refine mY [] (by kernel_rfl) (DR) (by trivial) ?_
   conv=>whnf
   repeat' (first
    | (refine And.intro ?_ ?_<;>(conv=>whnf))
    | (refine pW [0] [] (by kernel_rfl) c5 rfl ?_ ?_ rfl ?_;(focus (trivial;done));(focus (trivial;done));conv=>whnf)
    | (refine pW [0] [] (by kernel_rfl) c6 rfl ?_ ?_ rfl ?_;(focus (trivial;done));(focus (trivial;done));conv=>whnf)
    | (refine pW [0] [] (by kernel_rfl) c7 rfl ?_ ?_ rfl ?_;(focus (trivial;done));(focus (trivial;done));conv=>whnf)
    | (refine pW [0] [] (by kernel_rfl) c8 rfl ?_ ?_ rfl ?_;(focus (trivial;done));(focus (trivial;done));conv=>whnf)
    | (refine lN.mk (by decide) ?_;conv=>whnf)
    | (refine mZ.mk' (v5/7) rfl (by rw [ah];have:qU.length=4:=rfl;omega) ?_;conv=>whnf)
    | (refine mD.lT hxn ?_;conv=>whnf)
    | (refine lV.div v5 7 (by omega) ?_;conv=>whnf)
    | (refine lV.div v7 11 (by omega) ?_;conv=>whnf)
    | (refine lV.div v8 4 (by omega) ?_;conv=>whnf)
    | (refine lV.to (y:=((1+v6%9%2:Nat):Int)) ?_ ?_;(focus (rw [show (1:Int)+((v6:Int).tmod 9).tmod 2=((1+v6%9%2:Nat):Int)from rfl];exact IntWalk.i64_in _ (by omega)));conv=>whnf)
    | (refine lV.i64 ?_ ?_;(focus omega);conv=>whnf))
   have hZ : ∀k,k<3->qV L out tm sq v1 v2 sv cl v3 k p4=LQ L out tm sq v1 v2 sv cl v3 v5 v6 v7 v8 p8:=fun k hk=>by unfold qV;rw [if_pos hk,e5,f5,e6,f6,e7,f7,e8,f8]
   unfold LQ at hZ
   rw [<-hxe]at hZ
   refine lN.mk (lS (by simp only [ln];omega) (by kernel_rfl)) ?_
   exact lU ⟨out++ [⟨cl,(sv:Int)+1,1,(tm:Int)+v1,pX v3,xn,[],1+((v8/4:Nat):Int),((1+v6%9%2:Nat):Int)+((v7/11:Nat):Int),0⟩],p8,tm+v1,sq.set v2 (sv+1),v2⟩ [(2, .lab 6)] [] rfl (by show 60 -(out++ [_]).length<60-out.length;rw [ak];simp;omega) ⟨hJ.next hlt EN (by omega) hv2 zq rfl ⟨hcm,⟨v3,hv3,rfl⟩,(by dsimp only;omega),(by dsimp only;omega), .inl ⟨rfl,⟨v5/7,by omega,hxe⟩,rfl,(by dsimp only;omega),(by dsimp only;omega),rfl⟩⟩,hE.trans (ql (x:=⟨out,p,tm,sq,last⟩) hmo hlt (hS.trans (hZ _ (by decide))) (oO _ _))⟩ ⟨(by trivial),⟨rfl,rfl,bT.symm⟩,⟨rfl,rfl,qj out ⟨cl,(sv:Int)+1,1,(tm:Int)+v1,pX v3,xn,[],1+((v8/4:Nat):Int),((1+v6%9%2:Nat):Int)+((v7/11:Nat):Int),0⟩⟩,trivial⟩ ⟨rfl,rfl,rfl,trivial⟩
  ·conv=>whnf
   obtain⟨v5,p5,e5,f5,hv5,yM,c5⟩:=xC hL Jf 8 (by decide) (by decide)
   obtain⟨v6,p6,e6,f6,hv6,E5,c6⟩:=xC hL yM 10 (by decide) (by decide)
   obtain⟨v7,p7,e7,f7,hv7,Ou,c7⟩:=xC hL E5 12 (by decide) (by decide)
   obtain⟨v8,p8,e8,f8,hv8,EN,c8⟩:=xC hL Ou 5 (by decide) (by decide)
   obtain⟨xn,hxn⟩ : ∃xn,qU[v5/7]? = some xn:=⟨_,aj (by have:qU.length=4:=rfl;omega)⟩
   have hxe:xn=qU.getD (v5/7) []:=by rw [ay,hxn,bH]
   (refine mP uP [0,3] (by kernel_rfl) ?_;conv=>whnf)
   refine mY [] (by kernel_rfl) (DR) (by trivial) ?_
   conv=>whnf
   repeat' (first
    | (refine And.intro ?_ ?_<;>(conv=>whnf))
    | (refine pW [0] [] (by kernel_rfl) c5 rfl ?_ ?_ rfl ?_;(focus (trivial;done));(focus (trivial;done));conv=>whnf)
    | (refine pW [0] [] (by kernel_rfl) c6 rfl ?_ ?_ rfl ?_;(focus (trivial;done));(focus (trivial;done));conv=>whnf)
    | (refine pW [0] [] (by kernel_rfl) c7 rfl ?_ ?_ rfl ?_;(focus (trivial;done));(focus (trivial;done));conv=>whnf)
    | (refine pW [0] [] (by kernel_rfl) c8 rfl ?_ ?_ rfl ?_;(focus (trivial;done));(focus (trivial;done));conv=>whnf)
    | (refine lN.mk (by decide) ?_;conv=>whnf)
    | (refine mZ.mk' (v5/7) rfl (by rw [ah];have:qU.length=4:=rfl;omega) ?_;conv=>whnf)
    | (refine mD.lT hxn ?_;conv=>whnf)
    | (refine lV.div v5 7 (by omega) ?_;conv=>whnf)
    | (refine lV.div v7 11 (by omega) ?_;conv=>whnf)
    | (refine lV.div v8 4 (by omega) ?_;conv=>whnf)
    | (refine lV.to (y:=((1+v6%9%2:Nat):Int)) ?_ ?_;(focus (rw [show (1:Int)+((v6:Int).tmod 9).tmod 2=((1+v6%9%2:Nat):Int)from rfl];exact IntWalk.i64_in _ (by omega)));conv=>whnf)
    | (refine lV.i64 ?_ ?_;(focus omega);conv=>whnf))
   have hZ : ∀k,k<3->qV L out tm sq v1 v2 sv cl v3 k p4=LQ L out tm sq v1 v2 sv cl v3 v5 v6 v7 v8 p8:=fun k hk=>by unfold qV;rw [if_pos hk,e5,f5,e6,f6,e7,f7,e8,f8]
   unfold LQ at hZ
   rw [<-hxe]at hZ
   refine lN.mk (lS (by simp only [ln];omega) (by kernel_rfl)) ?_
   exact lU ⟨out++ [⟨cl,(sv:Int)+1,1,(tm:Int)+v1,pX v3,xn,[],1+((v8/4:Nat):Int),((1+v6%9%2:Nat):Int)+((v7/11:Nat):Int),0⟩],p8,tm+v1,sq.set v2 (sv+1),v2⟩ [(2, .lab 6)] [] rfl (by show 60 -(out++ [_]).length<60-out.length;rw [ak];simp;omega) ⟨hJ.next hlt EN (by omega) hv2 zq rfl ⟨hcm,⟨v3,hv3,rfl⟩,(by dsimp only;omega),(by dsimp only;omega), .inl ⟨rfl,⟨v5/7,by omega,hxe⟩,rfl,(by dsimp only;omega),(by dsimp only;omega),rfl⟩⟩,hE.trans (ql (x:=⟨out,p,tm,sq,last⟩) hmo hlt (hS.trans (hZ _ (by decide))) (oO _ _))⟩ ⟨(by trivial),⟨rfl,rfl,bT.symm⟩,⟨rfl,rfl,qj out ⟨cl,(sv:Int)+1,1,(tm:Int)+v1,pX v3,xn,[],1+((v8/4:Nat):Int),((1+v6%9%2:Nat):Int)+((v7/11:Nat):Int),0⟩⟩,trivial⟩ ⟨rfl,rfl,rfl,trivial⟩
  ·conv=>whnf
   obtain⟨v5,p5,e5,f5,hv5,yM,c5⟩:=xC hL Jf 8 (by decide) (by decide)
   obtain⟨v6,p6,e6,f6,hv6,E5,c6⟩:=xC hL yM 10 (by decide) (by decide)
   obtain⟨v7,p7,e7,f7,hv7,Ou,c7⟩:=xC hL E5 12 (by decide) (by decide)
   obtain⟨v8,p8,e8,f8,hv8,EN,c8⟩:=xC hL Ou 5 (by decide) (by decide)
   obtain⟨xn,hxn⟩ : ∃xn,qU[v5/7]? = some xn:=⟨_,aj (by have:qU.length=4:=rfl;omega)⟩
   have hxe:xn=qU.getD (v5/7) []:=by rw [ay,hxn,bH]
   (refine mP uP [0,3] (by kernel_rfl) ?_;conv=>whnf)
   refine mY [] (by kernel_rfl) (DR) (by trivial) ?_
   conv=>whnf
   repeat' (first
    | (refine And.intro ?_ ?_<;>(conv=>whnf))
    | (refine pW [0] [] (by kernel_rfl) c5 rfl ?_ ?_ rfl ?_;(focus (trivial;done));(focus (trivial;done));conv=>whnf)
    | (refine pW [0] [] (by kernel_rfl) c6 rfl ?_ ?_ rfl ?_;(focus (trivial;done));(focus (trivial;done));conv=>whnf)
    | (refine pW [0] [] (by kernel_rfl) c7 rfl ?_ ?_ rfl ?_;(focus (trivial;done));(focus (trivial;done));conv=>whnf)
    | (refine pW [0] [] (by kernel_rfl) c8 rfl ?_ ?_ rfl ?_;(focus (trivial;done));(focus (trivial;done));conv=>whnf)
    | (refine lN.mk (by decide) ?_;conv=>whnf)
    | (refine mZ.mk' (v5/7) rfl (by rw [ah];have:qU.length=4:=rfl;omega) ?_;conv=>whnf)
    | (refine mD.lT hxn ?_;conv=>whnf)
    | (refine lV.div v5 7 (by omega) ?_;conv=>whnf)
    | (refine lV.div v7 11 (by omega) ?_;conv=>whnf)
    | (refine lV.div v8 4 (by omega) ?_;conv=>whnf)
    | (refine lV.to (y:=((1+v6%9%2:Nat):Int)) ?_ ?_;(focus (rw [show (1:Int)+((v6:Int).tmod 9).tmod 2=((1+v6%9%2:Nat):Int)from rfl];exact IntWalk.i64_in _ (by omega)));conv=>whnf)
    | (refine lV.i64 ?_ ?_;(focus omega);conv=>whnf))
   have hZ : ∀k,k<3->qV L out tm sq v1 v2 sv cl v3 k p4=LQ L out tm sq v1 v2 sv cl v3 v5 v6 v7 v8 p8:=fun k hk=>by unfold qV;rw [if_pos hk,e5,f5,e6,f6,e7,f7,e8,f8]
   unfold LQ at hZ
   rw [<-hxe]at hZ
   refine lN.mk (lS (by simp only [ln];omega) (by kernel_rfl)) ?_
   exact lU ⟨out++ [⟨cl,(sv:Int)+1,1,(tm:Int)+v1,pX v3,xn,[],1+((v8/4:Nat):Int),((1+v6%9%2:Nat):Int)+((v7/11:Nat):Int),0⟩],p8,tm+v1,sq.set v2 (sv+1),v2⟩ [(2, .lab 6)] [] rfl (by show 60 -(out++ [_]).length<60-out.length;rw [ak];simp;omega) ⟨hJ.next hlt EN (by omega) hv2 zq rfl ⟨hcm,⟨v3,hv3,rfl⟩,(by dsimp only;omega),(by dsimp only;omega), .inl ⟨rfl,⟨v5/7,by omega,hxe⟩,rfl,(by dsimp only;omega),(by dsimp only;omega),rfl⟩⟩,hE.trans (ql (x:=⟨out,p,tm,sq,last⟩) hmo hlt (hS.trans (hZ _ (by decide))) (oO _ _))⟩ ⟨(by trivial),⟨rfl,rfl,bT.symm⟩,⟨rfl,rfl,qj out ⟨cl,(sv:Int)+1,1,(tm:Int)+v1,pX v3,xn,[],1+((v8/4:Nat):Int),((1+v6%9%2:Nat):Int)+((v7/11:Nat):Int),0⟩⟩,trivial⟩ ⟨rfl,rfl,rfl,trivial⟩
  ·conv=>whnf
   obtain⟨v5,p5,e5,f5,hv5,yM,c5⟩:=xC hL Jf 6 (by decide) (by decide)
   refine pW [0] [] (by kernel_rfl) c5 rfl ?_ ?_ rfl ?_;(focus (trivial;done));(focus (trivial;done));conv=>whnf
   (refine mP uP [] (by kernel_rfl) ?_;conv=>whnf)
   have hi5:mQ Tryz.prog GS 94 [iv v5] 0 [] (Is (tv (pX v5))):=mQ.up (TU _ (by omega)) GS
   have hi6:mQ Tryz.prog GS 94 [iv ((v5:Int)+1)] 0 [] (Is (tv (pX (v5+1)))):=mQ.up (TU (v5+1) (by omega)) GS
   (refine mF [] (by kernel_rfl) (hi5) rfl ?_ ?_;(focus (trivial;done));(conv=>whnf))
   apply lK<;>intro h
   ·refine lV.i64 (by omega) ?_
    (refine mF [] (by kernel_rfl) (hi6) rfl ?_ ?_;(focus (trivial;done));(conv=>whnf))
    have hid:pX v5=pX v3:=by have h:=h;rw [qP,decide_eq_true_eq]at h;exact h
    have hZ:qV L out tm sq v1 v2 sv cl v3 3 p4=Vy L out tm sq v1 v2 sv cl v3 v5 p5:=by unfold qV;rw [if_neg (by decide),if_pos rfl,e5,f5]
    unfold Vy at hZ
    rw [if_pos hid]at hZ
    refine lN.mk (lS (by simp only [ln];omega) (by kernel_rfl)) ?_
    exact lU ⟨out++ [⟨cl,(sv:Int)+1,3,(tm:Int)+v1,pX v3,[],pX (v5+1),0,0,0⟩],p5,tm+v1,sq.set v2 (sv+1),v2⟩ [(2, .lab 5)] [] rfl (by show 60 -(out++ [_]).length<60-out.length;rw [ak];simp;omega) ⟨hJ.next hlt yM (by omega) hv2 zq rfl ⟨hcm,⟨v3,hv3,rfl⟩,(by dsimp only;omega),(by dsimp only;omega), .inr (.inr ⟨rfl,rfl,⟨v5+1,by omega,rfl⟩,Hg hv5 hv3 h,rfl,rfl,rfl⟩)⟩,hE.trans (ql (x:=⟨out,p,tm,sq,last⟩) hmo hlt (hS.trans hZ) (oO _ _))⟩ ⟨(by trivial),⟨rfl,rfl,bT.symm⟩,⟨rfl,rfl,qj out ⟨cl,(sv:Int)+1,3,(tm:Int)+v1,pX v3,[],pX (v5+1),0,0,0⟩⟩,trivial⟩ ⟨rfl,rfl,rfl,trivial⟩
   ·(refine mF [] (by kernel_rfl) (hi5) rfl ?_ ?_;(focus (trivial;done));(conv=>whnf))
    have hZ:qV L out tm sq v1 v2 sv cl v3 3 p4=Vy L out tm sq v1 v2 sv cl v3 v5 p5:=by unfold qV;rw [if_neg (by decide),if_pos rfl,e5,f5]
    unfold Vy at hZ
    rw [if_neg (AL h)]at hZ
    refine lN.mk (lS (by simp only [ln];omega) (by kernel_rfl)) ?_
    exact lU ⟨out++ [⟨cl,(sv:Int)+1,3,(tm:Int)+v1,pX v3,[],pX v5,0,0,0⟩],p5,tm+v1,sq.set v2 (sv+1),v2⟩ [(2, .lab 5)] [] rfl (by show 60 -(out++ [_]).length<60-out.length;rw [ak];simp;omega) ⟨hJ.next hlt yM (by omega) hv2 zq rfl ⟨hcm,⟨v3,hv3,rfl⟩,(by dsimp only;omega),(by dsimp only;omega), .inr (.inr ⟨rfl,rfl,⟨v5,by omega,rfl⟩,AL h,rfl,rfl,rfl⟩)⟩,hE.trans (ql (x:=⟨out,p,tm,sq,last⟩) hmo hlt (hS.trans hZ) (oO _ _))⟩ ⟨(by trivial),⟨rfl,rfl,bT.symm⟩,⟨rfl,rfl,qj out ⟨cl,(sv:Int)+1,3,(tm:Int)+v1,pX v3,[],pX v5,0,0,0⟩⟩,trivial⟩ ⟨rfl,rfl,rfl,trivial⟩
  ·repeat' (refine zZ (beq_eq_false_iff_ne.2 (by omega)) ?_;conv=>whnf)
   obtain⟨v5,p5,e5,f5,hv5,yM,c5⟩:=xC hL Jf 3 (by decide) (by decide)
   obtain⟨v6,p6,e6,f6,hv6,E5,c6⟩:=xC hL yM 40 (by decide) (by decide)
   obtain⟨xn,hxn⟩ : ∃xn,zY[v5/2]? = some xn:=⟨_,aj (by have:zY.length=2:=rfl;omega)⟩
   have hxe:xn=zY.getD (v5/2) []:=by rw [ay,hxn,bH]
   (refine mP uP [0,3] (by kernel_rfl) ?_;conv=>whnf)
   refine mY [] (by kernel_rfl) (aaB) (by trivial) ?_
   conv=>whnf
   repeat' (first
    | (refine And.intro ?_ ?_<;>(conv=>whnf))
    | (refine pW [0] [] (by kernel_rfl) c5 rfl ?_ ?_ rfl ?_;(focus (trivial;done));(focus (trivial;done));conv=>whnf)
    | (refine pW [0] [] (by kernel_rfl) c6 rfl ?_ ?_ rfl ?_;(focus (trivial;done));(focus (trivial;done));conv=>whnf)
    | (refine lN.mk (by decide) ?_;conv=>whnf)
    | (refine mZ.mk' (v5/2) rfl (by rw [ah];have:zY.length=2:=rfl;omega) ?_;conv=>whnf)
    | (refine mD.lT hxn ?_;conv=>whnf)
    | (refine lV.div v5 2 (by omega) ?_;conv=>whnf)
    | (refine lV.i64 ?_ ?_;(focus omega);conv=>whnf))
   have hZ:qV L out tm sq v1 v2 sv cl v3 v4 p4=evM L out tm sq v1 v2 sv cl v3 v5 v6 p6:=by unfold qV;rw [if_neg (by omega),if_neg (by omega),e5,f5,e6,f6]
   unfold evM at hZ
   rw [<-hxe]at hZ
   refine lN.mk (lS (by simp only [ln];omega) (by kernel_rfl)) ?_
   exact lU ⟨out++ [⟨cl,(sv:Int)+1,2,(tm:Int)+v1,pX v3,xn,[],0,0,(v6:Int)-4⟩],p6,tm+v1,sq.set v2 (sv+1),v2⟩ [(2, .lab 6)] [] rfl (by show 60 -(out++ [_]).length<60-out.length;rw [ak];simp;omega) ⟨hJ.next hlt E5 (by omega) hv2 zq rfl ⟨hcm,⟨v3,hv3,rfl⟩,(by dsimp only;omega),(by dsimp only;omega), .inr (.inl ⟨rfl,⟨v5/2,by omega,hxe⟩,rfl,rfl,rfl,(by dsimp only;omega)⟩)⟩,hE.trans (ql (x:=⟨out,p,tm,sq,last⟩) hmo hlt (hS.trans hZ) (oO _ _))⟩ ⟨(by trivial),⟨rfl,rfl,bT.symm⟩,⟨rfl,rfl,qj out ⟨cl,(sv:Int)+1,2,(tm:Int)+v1,pX v3,xn,[],0,0,(v6:Int)-4⟩⟩,trivial⟩ ⟨rfl,rfl,rfl,trivial⟩
end
section
attribute [local irreducible] num hsh AU wo qp lg FU zo tab wF Bd sec hG hF hI hN evT
structure Ac where
 kind:Nat
 fuse:Nat
 ev:By
 pick:By
structure Ac.ok (a:Ac):Prop where
 kind:a.kind<256
 fuse:a.fuse<256
def aaD (a:Ac):List FV:= [.v (.int .u8 a.kind), .v (.int .u8 a.fuse), .lst 1 (a.ev.map oh), .lst 1 (a.pick.map oh)]
def upE (n:Nat)(e:Ev):Ev:= {e with seq:=e.seq+100*(n:Int),time:=e.time+10*(n:Int)}
def acE (a:Ac)(n:Nat):List Ev:=((evT a.ev).take 12).map (upE n)
def lng (l:List Ac):Bool:=l.any (fun a=>decide (100<a.ev.length)||decide (40<a.pick.length))||decide (16<l.length)
theorem aeH {α:Type}{u:α->α}{l:List α}{i:Nat}(h:i<l.length):((l.take i).map u++l.drop i)[i]? = some l[i]∧((l.take i).map u++l.drop i).set i (u l[i])=(l.take (i+1)).map u++l.drop (i+1):=by
 have hl:((l.take i).map u).length=i:=by rw [ah,aK];omega
 rw [dI h,aG h,aJ]
 constructor
 ·rw [dG (by omega),hl,gQ];rfl
 ·rw [iH _ _ (by omega),hl,gQ,aH];rfl
theorem akb (l:List Ac)(hl:l.length<=4611686018427387904):mQ Tryz.prog GS 15 [.lst 4 (l.map aaD)] 0 [] (Is (bv (lng l))):=by
 refine lQ func15 rfl mixed (by kernel_rfl) ?_
 refine uj af8 [3] (fun i:Nat=> [(3,iv i)]) (fun i=>i<=l.length∧(l.take i).any (fun a=>decide (100<a.ev.length)||decide (40<a.pick.length))=false) (fun i=>l.length-i) 0 (by kernel_rfl) (fun _=>rfl) (by kernel_rfl) ⟨au _,rfl⟩ (by trivial) (by trivial) ?_
 rintro i ⟨hi,hI⟩
 apply lK<;>intro h
 rotate_left
 ·have hie:i=l.length:=by simp only [ah]at h;simp at h;omega
  subst hie
  rw [aW]at hI
  refine lZ [] (congrArg Value.bool ?_)
  unfold lng
  rw [hI,ah,jE]
  exact decide_eq_decide.2 (by omega)
 have hlt:i<l.length:=by simp only [ah]at h;simp at h;omega
 have hbad:(decide (100<l[i].ev.length)||decide (40<l[i].pick.length))=true->lng l=true:=fun hx=>by
  unfold lng
  rw [ji]
  exact .inl (List.any_eq_true.2 ⟨l[i],aT hlt,hx⟩)
 have hgood:(decide (100<l[i].ev.length)||decide (40<l[i].pick.length))=false->(l.take (i+1)).any (fun a=>decide (100<a.ev.length)||decide (40<a.pick.length))=false:=fun hx=>by
  rw [aG hlt,List.any_append,hI,List.any_cons,hx];rfl
 refine mZ.mk' i rfl (pU hlt) ?_
 refine mD.lT (aj hlt) ?_
 apply lK<;>intro h
 ·have hx:100<l[i].ev.length:=by simp only [ah]at h;simp at h;omega
  rw [hbad (by simp [hx])]
  exact lZ [] rfl
 have hx1 : ¬100<l[i].ev.length:=by simp only [ah]at h;simp at h;omega
 refine mZ.mk' i rfl (pU hlt) ?_
 refine mD.lT (aj hlt) ?_
 apply lK<;>intro h
 ·have hx:40<l[i].pick.length:=by simp only [ah]at h;simp at h;omega
  rw [hbad (by simp [hx])]
  exact lZ [] rfl
 have hx2 : ¬40<l[i].pick.length:=by simp only [ah]at h;simp at h;omega
 refine lV.i64 (by omega) ?_
 exact lU (i+1) [] [] rfl (by show l.length -(i+1)<l.length-i;omega) ⟨hlt,hgood (by simp [hx1,hx2])⟩ (by trivial) ⟨rfl,trivial⟩
theorem ah6 (a:Ac)(ha:a.ev.length<=1000)(n:Nat)(hn:n<=1000):mQ Tryz.prog GS 24 [.agg ((aaD a).map FV.up),iv n] 0 [] (Is (el (acE a n))):=by
 refine lQ func24 rfl mixed (by kernel_rfl) ?_
 refine nO [] (by kernel_rfl) (aj8 a.ev ha) (by trivial) ?_
 rintro _ _ _ ⟨l,⟨hP,hE⟩,rfl,rfl,rfl⟩
 have hres:acE a n=(l.take 12).map (upE n):=by unfold acE;rw [hE]
 rw [hres]
 have hP1:=hP.all
 have hlen:=hP.len
 clear hE hres hP
 refine sN.mk' 0 (min l.length 12) rfl (by rw [ah];omega) (au _) (by rw [ah];omega) ?_
 conv=>whnf
 obtain⟨m,hm⟩ : ∃m,m=min l.length 12:=⟨_,rfl⟩
 rw [<-hm]
 have hml:m<=l.length:=by omega
 refine mO aga 2 [6] (fun i:Nat=> [(6,iv i)]) (fun i=> [(0, .var 49 ((aaD a).map FV.up)),(1, .rows 95 10 (((l.take i).map (upE n)++l.drop i).map rO))]) (fun i=>i<=m) (fun i=>m-i) [] [] 0 (by kernel_rfl) (fun _=>rfl) rfl (au _) (by trivial) (by trivial) ?_
 intro i hi
 apply lK<;>intro h
 rotate_left
 ·have hie:i=m:=by simp at h;omega
  subst hie
  refine lZ [1] ⟨rfl, ?_⟩
  have e:l.take 12=l.take i:=by
   rcases lJ l.length 12 with hc|hc
   ·rw [dD hc,dD (by omega)]
   ·rw [show i=12 by omega]
  rw [e,iU,dJ,aJ,dZ (by rw [ah,ah,aK];omega)]
  exact⟨rfl,rfl⟩
 have hlt:i<m:=by simp at h;omega
 have hx:=aeH (u:=upE n) (l:=l) (i:=i) (by omega)
 have hln:((l.take i).map (upE n)++l.drop i).length=l.length:=by rw [ak,ah,aK,aS];omega
 have hpe:=hP1 l[i] (aT _)
 have hs:=hpe.seq
 have ht:=hpe.time
 refine mZ.mk' i rfl hlt ?_
 refine mD.lT (by rw [aV];exact hx.1) ?_
 refine lV.i64 (by omega) ?_
 refine lV.i64 (by omega) ?_
 refine mZ.mk' i rfl hlt ?_
 refine mD.lT (by rw [aV];exact hx.1) ?_
 refine mZ.mk' i rfl hlt ?_
 refine mD.set (by rw [ah,hln];omega) ?_
 refine lV.i64 (by omega) ?_
 refine lV.i64 (by omega) ?_
 refine mZ.mk' i rfl hlt ?_
 refine mD.set (by rw [ah,hln];omega) ?_
 refine lV.i64 (by omega) ?_
 refine lU (i+1) [] [] rfl (by show m -(i+1)<m-i;omega) hlt ⟨(by trivial),⟨rfl,rfl, ?_⟩,trivial⟩ ⟨rfl,trivial⟩
 rw [aV,List.set_set, <-hx.2,bT]
 rfl
theorem aaF (n:Nat):pX n∈QS:=by
 have h:n%6<QS.length:=by have:=JK;omega
 unfold pX
 rw [ay,aj h]
 exact aT h
theorem akc : ∀s∈QS,OD s=true∧s.length=3:=by decide +kernel
theorem alH : ∀s∈EZ,OD s=true∧s.length=3:=by decide +kernel
theorem alI : ∀k,k<2->OD (qU.getD k [])=true∧(qU.getD k []).length<=5:=by decide +kernel
theorem alJ : ∀k,k<2->OD (zY.getD k [])=true∧(zY.getD k []).length<=5:=by decide +kernel
theorem aeI {e:Ev}(h:EvP e){n:Nat}(hn:n<=1000):(upE n e).ok∧Bc (upE n e)=0:=by
 obtain⟨hc,⟨k,hk,hi⟩,hs,ht,hkd⟩:=h
 obtain⟨c1,c2⟩:=alH _ hc
 obtain⟨i1,i2⟩:=akc _ (aaF k)
 rw [<-hi]at i1 i2
 have z : ∀k:Int, -1000<=k->k<=1000000->I64 k:=fun k a b=>by unfold I64;omega
 unfold upE
 rcases hkd with ⟨k1,⟨n1,hn1,hnm⟩,ho,ha,hv,hvl⟩|⟨k1,⟨n1,hn1,hnm⟩,ho,hv,ha,hvl⟩|⟨k1,hnm,⟨n1,hn1,ho⟩,hne,hv,ha,hvl⟩
 ·obtain⟨m1,m2⟩:=alI n1 hn1
  rw [<-hnm]at m1 m2
  refine⟨⟨z _ (by dsimp only;omega) (by dsimp only;omega),z _ (by dsimp only;omega) (by dsimp only;omega),z _ (by dsimp only;omega) (by dsimp only;omega),z _ (by dsimp only;omega) (by dsimp only;omega),z _ (by dsimp only;omega) (by dsimp only;omega),z _ (by dsimp only;omega) (by dsimp only;omega),by dsimp only;omega,by dsimp only;omega,by dsimp only;omega,by dsimp only;rw [ho];simp⟩, ?_⟩
  unfold Bc
  dsimp only
  rw [if_neg (by simp [k1]),if_neg (by simp [k1,c1,i1,m1]),if_neg (by omega),if_neg (by omega),if_neg (by omega),if_neg (by simp [k1,ho,hvl])]
 ·obtain⟨m1,m2⟩:=alJ n1 hn1
  rw [<-hnm]at m1 m2
  refine⟨⟨z _ (by dsimp only;omega) (by dsimp only;omega),z _ (by dsimp only;omega) (by dsimp only;omega),z _ (by dsimp only;omega) (by dsimp only;omega),z _ (by dsimp only;omega) (by dsimp only;omega),z _ (by dsimp only;omega) (by dsimp only;omega),z _ (by dsimp only;omega) (by dsimp only;omega),by dsimp only;omega,by dsimp only;omega,by dsimp only;omega,by dsimp only;rw [ho];simp⟩, ?_⟩
  unfold Bc
  dsimp only
  rw [if_neg (by simp [k1]),if_neg (by simp [k1,c1,i1,m1]),if_neg (by omega),if_neg (by omega),if_neg (by omega),if_neg (by simp [k1,ho,hv,ha])]
 ·obtain⟨m1,m2⟩:=akc _ (aaF n1)
  rw [<-ho]at m1 m2
  refine⟨⟨z _ (by dsimp only;omega) (by dsimp only;omega),z _ (by dsimp only;omega) (by dsimp only;omega),z _ (by dsimp only;omega) (by dsimp only;omega),z _ (by dsimp only;omega) (by dsimp only;omega),z _ (by dsimp only;omega) (by dsimp only;omega),z _ (by dsimp only;omega) (by dsimp only;omega),by dsimp only;omega,by dsimp only;omega,by dsimp only;rw [hnm];simp,by dsimp only;omega⟩, ?_⟩
  unfold Bc
  dsimp only
  rw [if_neg (by simp [k1]),if_neg (by simp [k1,c1,i1,m1]),if_neg (by omega),if_neg (by omega),if_neg (by omega),if_neg (by simp [k1,hnm,hv,ha,hvl,hne])]
def Out (r:So×Int):Prop:=(r.2=0∧r.1.ok)∨(r.2=40∧∃d,d.ok∧r.1=So.Jt d)∨(r.2≠0∧r.2≠40∧r.1=So.zero)
theorem JM {s:So}(hd:s.d.ok)(he:(∀e∈s.ev,e.ok)∧uN s.ev=0)(hg:0<=s.gen)(hh:s.half=0∨s.half=1):Out (uO s):=by
 by_cases hc:uz (wG s.gen s.d.now+1) 0 (tab s.ev)≠0∨s.d.now.length/2<nS (tab s.ev)
 ·rw [AB hc];exact .inr (.inr ⟨by decide,by decide,rfl⟩)
 have hc2:uz (wG s.gen s.d.now+1) 0 (tab s.ev)=0∧nS (tab s.ev)<=s.d.now.length/2:=by
  by_cases h0:uz (wG s.gen s.d.now+1) 0 (tab s.ev)=0
  ·exact⟨h0,by omega⟩
  ·exact absurd (.inl h0) hc
 obtain⟨hL1,hL2⟩:=xR hc2.1
 obtain⟨d,e,hw⟩ : ∃d e,yN s.d ((1-s.half).toNat*(s.d.now.length/2)) (zy (wG s.gen s.d.now+1) 0 (tab s.ev))=(d,e):=⟨_,_,rfl⟩
 rw [G5 hc hw]
 have hwo:=EP (at_:=(1-s.half).toNat*(s.d.now.length/2)) hd hL2
 rw [hw]at hwo
 obtain⟨w1,w2,w3⟩:=hwo
 have hsc:=zO hc2.1
 by_cases h0:e=0
 ·subst h0
  rw [if_neg (by simp)]
  refine .inl ⟨rfl,w1,hsc.1 |> fun h=>⟨h,hsc.2.1⟩, ?_, ?_,⟨by show (1:Int)<=1;decide,by show (1:Int)<=65536;decide⟩,he⟩
  ·show 1-s.half=0∨1-s.half=1
   omega
  ·show 1<=((nS (tab s.ev):Nat):Int)∧((nS (tab s.ev):Nat):Int)<=((d.now.length/2:Nat):Int)
   have:=NM (tab s.ev)
   have w2:d.now.length=s.d.now.length:=w2
   rw [w2]
   omega
 ·rw [if_pos h0]
  exact .inr (.inl ⟨rfl,d,w1,rfl⟩)
theorem QU {s:So}(h:s.ok){l:List Ev}(hl : ∀e∈l,e.ok)(hl0:uN l=0):Out (xw s l):=by
 have hev:s.ev.length<=512:=(xk h.ev.2).1
 by_cases c2:512<s.ev.length+l.length
 ·rw [EU hl0 c2];exact .inr (.inr ⟨by decide,by decide,rfl⟩)
 by_cases c3:l = []
 ·subst c3;rw [JC s hev];exact .inl ⟨rfl,h⟩
 by_cases c4:255<nS (tab (s.ev++l))∨s.d.now.length/2<nS (tab (s.ev++l))
 ·rw [EW hl0 c2 c3 c4];exact .inr (.inr ⟨by decide,by decide,rfl⟩)
 have he:(∀e∈s.ev++l,e.ok)∧uN (s.ev++l)=0:=⟨fun e hx=>(bK.1 hx).elim (h.ev.1 e) (hl e),G6 h.ev.2 hl0 (by rw [ak];omega)⟩
 by_cases c5:uz s.gen s.frame (tab l)≠0∨((s.d.now.length/2:Nat):Int)<s.next+(nS (tab l):Nat)
 ·rw [JD hl0 c2 c3 c4 c5]
  exact JM (s:= {s with ev:=s.ev++l}) h.d he (by have:=h.gen;show 0<=s.gen;omega) h.half
 have c5':uz s.gen s.frame (tab l)=0∧s.next+(nS (tab l):Nat)<=((s.d.now.length/2:Nat):Int):=by
  by_cases h0:uz s.gen s.frame (tab l)=0
  ·exact⟨h0,by omega⟩
  ·exact absurd (.inl h0) c5
 obtain⟨hL1,hL2⟩:=xR c5'.1
 obtain⟨d,e,hw⟩ : ∃d e,yN s.d (s.half.toNat*(s.d.now.length/2)+s.next.toNat) (zy s.gen s.frame (tab l))=(d,e):=⟨_,_,rfl⟩
 rw [Ol hl0 c2 c3 c4 c5 hw]
 have hwo:=EP (at_:=s.half.toNat*(s.d.now.length/2)+s.next.toNat) h.d hL2
 rw [hw]at hwo
 obtain⟨w1,w2,w3⟩:=hwo
 have w2:d.now.length=s.d.now.length:=w2
 have hsc:=zO c5'.1
 have hnx:=h.next
 by_cases h0:e=0
 ·subst h0
  rw [if_neg (by simp)]
  refine .inl ⟨rfl,w1,h.gen,h.half, ?_, ?_,he⟩
  ·show 1<=s.next+((nS (tab l):Nat):Int)∧s.next+((nS (tab l):Nat):Int)<=((d.now.length/2:Nat):Int)
   rw [w2]
   omega
  ·show 1<=s.frame+1∧s.frame+1<=65536
   omega
 ·rw [if_pos h0]
  exact .inr (.inl ⟨rfl,d,w1,rfl⟩)
theorem JO {d:Dk}(hd:d.ok):Out (wH d):=by
 rcases gq d.dead with hdd|hdd
 ·unfold wH;rw [if_pos hdd];exact .inr (.inl ⟨rfl,d,hd,rfl⟩)
 ·unfold wH
  rw [if_neg (by rw [hdd];decide)]
  exact JM (s:=⟨d,0,_,0,0,_⟩) hd (Oh _ _).1 (by show (0:Int)<=0;decide) (Oh _ _).2
theorem Dk.ok.arm {d:Dk}(h:d.ok){n:Int}(hn : -1<=n∧n<=9223372036854775807):(d.arm n).ok:=⟨h.ev,h.lo,h.hi,h.sf,hn,h.op,h.n64,h.f64⟩
theorem So.ok.arm {s:So}(h:s.ok){n:Int}(hn : -1<=n∧n<=9223372036854775807):({s with d:=s.d.arm n} : So).ok:=⟨h.d.arm hn,h.gen,h.half,h.next,h.frame,h.ev⟩
theorem Dk.ok.crash {d:Dk}(h:d.ok)(pick:By):(d.crash pick).ok:=by
 obtain⟨a1,a2,a3⟩:=aas d.now d.safe pick h.sf d.now.length (aA _)
 have hsf:=h.sf
 have h64:U7 (JE d.now d.safe pick d.now.length).1:=fun s hs=>by
  obtain⟨j,hj,rfl⟩:=jY.1 hs
  rcases a3 j (by omega)with hx|hx
  ·rw [aj hj,aj (by omega)]at hx
   injection hx with hx
   rw [hx];exact h.n64 _ (aT _)
  ·rw [aj hj,aj (by omega)]at hx
   injection hx with hx
   rw [hx];exact h.f64 _ (aT _)
 have hev:=h.ev
 have hlo:=h.lo
 have hhi:=h.hi
 refine⟨?_, ?_, ?_,rfl,⟨by show (-1:Int)<= -1;decide,by show (-1:Int)<=9223372036854775807;decide⟩,h.op,h64,h64⟩
 ·show (JE d.now d.safe pick d.now.length).1.length%2=0;omega
 ·show 8<=(JE d.now d.safe pick d.now.length).1.length;omega
 ·show (JE d.now d.safe pick d.now.length).1.length<=256;omega
theorem aeJ {L:By}{x:ES}(h:EI L x)(hl:x.out.length<60):EI L (FY L x)∧(FY L x).out.length=x.out.length+1:=by
 obtain⟨out,p,tm,sq,last⟩:=x
 obtain⟨hp,hP,htm,hle,hsl,hsb,hlast⟩:=id h
 dsimp only at hp hP htm hle hsl hsb hlast hl
 unfold FY
 dsimp only
 have hv1:=sK L p 4 (by decide)
 have hp1:=qR (L:=L) hp
 generalize wI L p 4=v1 at *
 generalize uD L p=p1 at *
 have hv2:=sK L p1 3 (by decide)
 have hp2:=qR (L:=L) hp1
 generalize wI L p1 3=v2 at *
 generalize uD L p1=p2 at *
 have hv3:=sK L p2 6 (by decide)
 have hp3:=qR (L:=L) hp2
 generalize wI L p2 6=v3 at *
 generalize uD L p2=p3 at *
 have Jf:=qR (L:=L) hp3
 generalize wI L p3 8=v4 at *
 generalize uD L p3=p4 at *
 have hst:(if v1=0∧((v2:Nat):Int)<last then 1 else v1)<4:=by split<;>omega
 generalize (if v1=0∧((v2:Nat):Int)<last then 1 else v1)=st at *
 have hsv:sq.getD v2 0<=out.length:=by
  rw [ay,aj (by omega),bH]
  exact hsb _ (aT _)
 generalize sq.getD v2 0=sv at *
 have hcm:EZ.getD v2 []∈EZ:=by
  have h3:v2<EZ.length:=hv2
  rw [ay,aj h3,bH]
  exact aT _
 generalize EZ.getD v2 []=cl at *
 unfold qV
 split
 ·have yM:=qR (L:=L) Jf
  have hv5:=sK L p4 8 (by decide)
  generalize wI L p4 8=v5 at *
  generalize uD L p4=p5 at *
  have E5:=qR (L:=L) yM
  have hv6:=sK L p5 10 (by decide)
  generalize wI L p5 10=v6 at *
  generalize uD L p5=p6 at *
  have Ou:=qR (L:=L) E5
  have hv7:=sK L p6 12 (by decide)
  generalize wI L p6 12=v7 at *
  generalize uD L p6=p7 at *
  have EN:=qR (L:=L) Ou
  have hv8:=sK L p7 5 (by decide)
  generalize wI L p7 5=v8 at *
  generalize uD L p7=p8 at *
  unfold LQ
  exact⟨h.next hl EN hst hv2 hsv rfl ⟨hcm,⟨v3,hv3,rfl⟩,(by dsimp only;omega),(by dsimp only;omega), .inl ⟨rfl,⟨v5/7,by omega,rfl⟩,rfl,(by dsimp only;omega),(by dsimp only;omega),rfl⟩⟩,oO _ _⟩
 ·split
  ·have yM:=qR (L:=L) Jf
   have hv5:=sK L p4 6 (by decide)
   generalize wI L p4 6=v5 at *
   generalize uD L p4=p5 at *
   unfold Vy
   have ho:(∃k:Nat,k<7∧(if pX v5=pX v3 then pX (v5+1)else pX v5)=pX k)∧(if pX v5=pX v3 then pX (v5+1)else pX v5)≠pX v3:=by
    split
    ·rename_i hq
     exact⟨⟨v5+1,by omega,rfl⟩,Hg hv5 hv3 (by rw [qP];exact decide_eq_true hq)⟩
    ·rename_i hq
     exact⟨⟨v5,by omega,rfl⟩,hq⟩
   exact⟨h.next hl yM hst hv2 hsv rfl ⟨hcm,⟨v3,hv3,rfl⟩,(by dsimp only;omega),(by dsimp only;omega), .inr (.inr ⟨rfl,rfl,ho.1,ho.2,rfl,rfl,rfl⟩)⟩,oO _ _⟩
  ·have yM:=qR (L:=L) Jf
   have hv5:=sK L p4 3 (by decide)
   generalize wI L p4 3=v5 at *
   generalize uD L p4=p5 at *
   have E5:=qR (L:=L) yM
   have hv6:=sK L p5 40 (by decide)
   generalize wI L p5 40=v6 at *
   generalize uD L p5=p6 at *
   unfold evM
   exact⟨h.next hl E5 hst hv2 hsv rfl ⟨hcm,⟨v3,hv3,rfl⟩,(by dsimp only;omega),(by dsimp only;omega), .inr (.inl ⟨rfl,⟨v5/2,by omega,rfl⟩,rfl,rfl,rfl,(by dsimp only;omega)⟩)⟩,oO _ _⟩
theorem ah7 {L:By} : ∀(m:Nat) (x:ES),EI L x->x.out.length+m<=60->aeF (JL L m x):=by
 intro m
 induction m with
 | zero=>intro x h _;unfold JL;exact h.P
 | succ m ih=>
  intro x h hm
  unfold JL
  split
  ·obtain⟨h1,h2⟩:=aeJ h (by omega)
   exact ih _ h1 (by omega)
  ·exact h.P
theorem akd (L:By):aeF (evT L):=by
 unfold evT
 exact ah7 60 _ ⟨au _,⟨au _,(fun _ h=>by cases h),List.Pairwise.nil⟩,au _,(fun _ h=>by cases h),rfl,(by simp),by constructor<;>(dsimp only;omega)⟩ (by decide)
theorem ah8 (a:Ac)(ha:a.ev.length<=1000){n:Nat}(hn:n<=1000):(∀e∈acE a n,e.ok)∧uN (acE a n)=0∧(acE a n).length<=12:=by
 have hall : ∀e∈acE a n,e.ok∧Bc e=0:=fun e he=>by
  unfold acE at he
  obtain⟨e0,h0,rfl⟩:=eP.1 he
  exact aeI ((akd a.ev).all _ (fD h0)) hn
 have hlen:(acE a n).length<=12:=by unfold acE;rw [ah,aK];omega
 exact⟨fun e he=>(hall e he).1,Og.2 ⟨by omega,fun e he=>(hall e he).2⟩,hlen⟩
end
section
attribute [local irreducible] num hsh AU wo
end
section
attribute [local irreducible] num hsh AU wo qp lg FU zo tab wF Bd sec hG hF hI hN evT wH uO xw
theorem WZ (n:Nat)(h1:n%2=0)(h2:8<=n)(h3:n<=256):(wH (dk0 n)).2=0:=by
 obtain⟨d,e,_⟩:=Vq h2
 rw [e]
theorem alK (k:Nat)(hk:k<256):(wH (dk0 (8+2*k%60))).2=0:=WZ _ (by omega) (by omega) (by omega)
theorem Out.facts {r:So×Int}(h:Out r):(r.2=0->r.1.ok)∧(r.2=0∨r.2=40->r.1.d.ok)∧mQ Tryz.prog GS 19 [stA r.1,stA r.1] 0 [] (Is (bv true)):=by
 have sam : ∀s:So,s.d.now.length<=1000∧s.d.safe.length<=1000->s.ev.length<=1000->mQ Tryz.prog GS 19 [stA s,stA s] 0 [] (Is (bv true)):=fun s h1 h2=>aaA s h1 (by omega)
 obtain⟨s,e⟩:=r
 rcases h with ⟨h1,h2⟩|⟨h1,d,h2,h3⟩|⟨h1,h2,h3⟩
 ·exact⟨fun _=>h2,fun _=>h2.d,sam s (by have:=h2.d.hi;have:=h2.d.sf;dsimp only at *;omega) (by have:=(xk h2.ev.2).1;dsimp only at *;omega)⟩
 ·have h3:s=So.Jt d:=h3
  have h1:e=40:=h1
  subst h3 h1
  exact⟨fun h=>(by cases h),fun _=>h2,sam _ (by have:=h2.hi;have:=h2.sf;show d.now.length<=1000∧d.safe.length<=1000;omega) (au _)⟩
 ·have h3:s=So.zero:=h3
  subst h3
  exact⟨fun h=>absurd h h1,fun h=>h.elim (fun h=>absurd h h1) (fun h=>absurd h h2),sam _ ⟨au _,au _⟩ (au _)⟩
structure Pl where
 s:So
 i:Nat
theorem W9 (k:Nat)(hk:k<256)(l:List Ac)(hok : ∀a∈l,a.ok)(hl:l.length<=4611686018427387904):mQ Tryz.prog GS 6 [u8v k, .lst 4 (l.map aaD)] 0 [] (Is (bv true)):=by
 refine lQ func6 rfl mixed (by kernel_rfl) ?_
 (refine mF [] (by kernel_rfl) (aey) rfl ?_ ?_;(focus trivial))
 (refine mF [] (by kernel_rfl) (akb l hl) rfl ?_ ?_;(focus trivial))
 apply lK<;>intro h
 ·exact lZ [] rfl
 have hd0:=aaq (n:=8+2*k%60) (by omega) (by omega) (by omega)
 have h00:=alK k hk
 have hO0:=JO hd0
 have hP:=Oi (dk0 (8+2*k%60)) hd0
 have hR:=TT (dk0 (8+2*k%60)) hd0
 have hlong:l.length<=16∧∀a∈l,a.ev.length<=100∧a.pick.length<=40:=by
  unfold lng at h
  rw [Bool.or_eq_false_iff]at h
  refine⟨by simpa using h.2,fun a ha=> ?_⟩
  have:=List.any_eq_false.1 h.1 a ha
  simp at this
  omega
 generalize hq:wH (dk0 (8+2*k%60))=q at *
 obtain⟨s0,e0⟩:=q
 have hs0:s0.ok:=by
  rcases hO0 with h|⟨h,_⟩|⟨h,_⟩
  ·exact h.2
  ·rw [h00]at h;cases h
  ·exact absurd h00 h
 have h00:e0=0:=h00
 subst h00
 refine mY [] (by kernel_rfl) (TP k hk) (by trivial) ?_
 refine mY [] (by kernel_rfl) hP (by trivial) ?_
 refine mY [] (by kernel_rfl) (TP k hk) (by trivial) ?_
 refine mY [] (by kernel_rfl) hR (by trivial) ?_
 conv=>whnf
 have sam : ∀s:So,s.ok->mQ Tryz.prog GS 19 [stA s,stA s] 0 [] (Is (bv true)):=fun s h=>aaA s (by have:=h.d.hi;have:=h.d.sf;omega) (by have:=(xk h.ev.2).1;omega)
 refine mY [] (by kernel_rfl) (sam s0 hs0) (by trivial) ?_
 refine mO aiH 2 [9] (fun x:Pl=> [(9,iv x.i)]) (fun x=> [(0, .var 43 (Jz x.s)),(1, .var 43 (Jz x.s))]) (fun x=>x.i<=l.length∧x.s.ok) (fun x=>l.length-x.i) [] [] ⟨s0,0⟩ (by kernel_rfl) (fun _=>rfl) rfl ⟨au _,hs0⟩ (by trivial) (by trivial) ?_
 rintro⟨s,i⟩ ⟨hi,hs⟩
 dsimp only at hi hs
 apply lK<;>intro h
 rotate_left
 ·exact lZ [] rfl
 have hlt:i<l.length:=by simp only [ah]at h;simp at h;omega
 have hao:=hok _ (aT hlt)
 have hal:=hlong.2 _ (aT hlt)
 refine xY V4 [] [(10,11),(43,44)] 4 [(10, .ptr 2 0),(11, .ptr 3 0)] [(0, .var 43 (Jz s)),(1, .var 43 (Jz s)),(2, .var 43 (Jz s)),(3, .var 43 (Jz s))] (by kernel_rfl) (by kernel_rfl) ?_ ?_
 ·conv=>whnf
  repeat' (refine And.intro ?_ ?_<;>(conv=>whnf))
  all_goals first
   | (refine nH [(2, .lab 2),(3, .lab 3)] [] ?_ ?_ ?_;(focus rfl);(focus trivial);(focus trivial);done)
   | (refine nH [(2, .lab 3),(3, .lab 2)] [] ?_ ?_ ?_;(focus rfl);(focus trivial);(focus trivial);done)
 refine mZ.mk' i rfl (pU hlt) ?_
 refine mD.lT (aj hlt) ?_
 conv=>whnf
 have hev:=ah8 l[i] (by omega) (n:=i) (by omega)
 obtain⟨hv1,hv2,hv3⟩:=hev
 have hE:=ah6 l[i] (by omega) i (by omega)
 generalize acE l[i] i=ev at *
 have hm4:((l[i].kind:Nat):Int).tmod 4=((l[i].kind%4:Nat):Int):=rfl
 have hm8:((l[i].kind:Nat):Int).tmod 8=((l[i].kind%8:Nat):Int):=rfl
 have alL:((l[i].fuse:Nat):Int).tmod 12=((l[i].fuse%12:Nat):Int):=rfl
 refine lN.mk (by decide) ?_
 refine lK (fun h4=> ?_) (fun h4=> ?_)
 ·have g4:l[i].kind%4=3:=by rw [hm4]at h4;simp at h4;omega
  conv=>whnf
  have hfu:((l[i].fuse%12:Nat):Int)<12:=by omega
  have hA:=ajL s.d hs.d (((l[i].fuse:Nat):Int).tmod 12)
  have hks:({s with d:=s.d.arm (max (((l[i].fuse:Nat):Int).tmod 12) (-1))} : So).ok:=hs.arm (by rw [alL];omega)
  generalize s.d.arm (max (((l[i].fuse:Nat):Int).tmod 12) (-1))=d2 at *
  (refine mP V4 [] (by kernel_rfl) ?_;conv=>whnf)
  repeat' (first
   | (refine mZ.mk' i rfl (pU hlt) ?_;conv=>whnf)
   | (refine mD.lT (aj hlt) ?_;conv=>whnf)
   | (refine lN.mk (by decide) ?_;conv=>whnf)
   | (refine lV.i64 (by have:=hao.fuse;omega) ?_;conv=>whnf)
   | (refine mY [] (by kernel_rfl) hA ?_ ?_;(focus (trivial;done));conv=>whnf))
  refine lK (fun h8=> ?_) (fun h8=> ?_)
  ·exfalso;rw [hm8]at h8;simp at h8;omega
  conv=>whnf
  have hOut:=QU (s:= {s with d:=d2}) hks hv1 hv2
  have hQ1:=QH ({s with d:=d2}) hks ev hv1 (by omega)
  have hQ2:=QO ({s with d:=d2}) hks ev hv1 (by omega)
  generalize xw ({s with d:=d2}) ev=q at *
  obtain⟨s',e⟩:=q
  obtain⟨F1,F2,F3⟩:=hOut.facts
  dsimp only at F1 F2 F3 hQ1 hQ2
  refine xY (fun _=> .take 1 (tk [2,3,4,5] (.two 0 (.one 6 (.post 7 (tk [8,9,10] (.one 11 (.take 12 .done))))) 6 (.one 0 (.post 7 (tk [8,9,10] (.one 11 (.take 12 .done)))))))) [2] [(6,6),(91,101)] 4 [(6,iv e)] [(0, .var 43 (Jz s)),(1, .var 43 (Jz s)),(2, .var 43 (Jz s')),(3, .var 43 (Jz ({s with d:=d2})))] (by kernel_rfl) (by kernel_rfl) ?_ ?_
  ·conv=>whnf
   repeat' (first
    | (refine And.intro ?_ ?_<;>(conv=>whnf))
    | (refine mZ.mk' i rfl (pU hlt) ?_;conv=>whnf)
    | (refine mD.lT (aj hlt) ?_;conv=>whnf)
    | (refine mY [] (by kernel_rfl) hE ?_ ?_;(focus (trivial;done));conv=>whnf)
    | (refine mY [] (by kernel_rfl) hQ1 ?_ ?_;(focus (trivial;done));conv=>whnf))
   all_goals (refine nH [] [] ?_ ?_ ?_;(focus rfl);(focus trivial);(focus trivial);done)
  refine xY (fun _=> .take 1 (tk [2,3,4,5] (.two 0 (.one 6 (.post 7 (tk [8,9,10] (.one 11 (.take 12 .done))))) 6 (.one 0 (.post 7 (tk [8,9,10] (.one 11 (.take 12 .done)))))))) [3] [(8,8),(102,112)] 4 [(8,iv e)] [(0, .var 43 (Jz s)),(1, .var 43 (Jz s)),(2, .var 43 (Jz s')),(3, .var 43 (Jz s'))] (by kernel_rfl) (by kernel_rfl) ?_ ?_
  ·conv=>whnf
   repeat' (first
    | (refine And.intro ?_ ?_<;>(conv=>whnf))
    | (refine mZ.mk' i rfl (pU hlt) ?_;conv=>whnf)
    | (refine mD.lT (aj hlt) ?_;conv=>whnf)
    | (refine mY [] (by kernel_rfl) hE ?_ ?_;(focus (trivial;done));conv=>whnf)
    | (refine mY [] (by kernel_rfl) hQ2 ?_ ?_;(focus (trivial;done));conv=>whnf))
   all_goals (refine nH [] [] ?_ ?_ ?_;(focus rfl);(focus trivial);(focus trivial);done)
  apply lK<;>intro h
  ·exfalso;simp at h
  refine mY [] (by kernel_rfl) F3 (by trivial) ?_
  refine mZ.mk' i rfl (pU hlt) ?_
  refine mD.lT (aj hlt) ?_
  refine lN.mk (by decide) ?_
  refine lK (fun _=> ?_) (fun h=> ?_)
  rotate_left
  ·exfalso;rw [h4]at h;cases h
  apply lK<;>intro h
  ·have hn0:e≠0:=by simpa using h
   apply lK<;>intro h
   ·refine lV.i64 (by(try dsimp only);omega) ?_
    exact lU ⟨s,i+1⟩ [] [] rfl (by show l.length -(i+1)<l.length-i;omega) ⟨hlt,hs⟩ (by trivial) ⟨rfl,trivial⟩
   have h40:e=40:=by simpa using h
   have hd':=F2 (.inr h40)
   have hK:=Vs s'.d hd' l[i].pick
   have hO2:=JO (hd'.crash l[i].pick)
   have hP2:=Oi (s'.d.crash l[i].pick) (hd'.crash l[i].pick)
   have hR2:=TT (s'.d.crash l[i].pick) (hd'.crash l[i].pick)
   generalize s'.d.crash l[i].pick=d3 at *
   generalize wH d3=q2 at *
   obtain⟨s2,e2⟩:=q2
   obtain⟨G1,G2,G3⟩:=hO2.facts
   dsimp only at G1 G2 G3 hP2 hR2
   refine mP (fun _=> .take 0 (tk [2,3,4,5,6] (.one 1 (.post 7 (.post 8 (tk [9,10,11] (.one 12 (.take 13 .done)))))))) [2] (by kernel_rfl) ?_
   conv=>whnf
   repeat' (first
    | (refine mZ.mk' i rfl (pU hlt) ?_;conv=>whnf)
    | (refine mD.lT (aj hlt) ?_;conv=>whnf)
    | (refine mY [] (by kernel_rfl) hK ?_ ?_;(focus (trivial;done));conv=>whnf)
    | (refine mY [] (by kernel_rfl) hP2 ?_ ?_;(focus (trivial;done));conv=>whnf))
   refine mP (fun _=> .take 0 (tk [2,3,4,5,6] (.one 1 (.post 7 (.post 8 (tk [9,10,11] (.one 12 (.take 13 .done)))))))) [3] (by kernel_rfl) ?_
   conv=>whnf
   repeat' (first
    | (refine mZ.mk' i rfl (pU hlt) ?_;conv=>whnf)
    | (refine mD.lT (aj hlt) ?_;conv=>whnf)
    | (refine mY [] (by kernel_rfl) hK ?_ ?_;(focus (trivial;done));conv=>whnf)
    | (refine mY [] (by kernel_rfl) hR2 ?_ ?_;(focus (trivial;done));conv=>whnf))
   apply lK<;>intro h
   ·exfalso;simp at h
   refine mY [] (by kernel_rfl) G3 (by trivial) ?_
   apply lK<;>intro h
   ·have h0:e2=0:=by simpa using h
    (refine mP V4 [0] (by kernel_rfl) ?_;conv=>whnf)
    refine lV.i64 (by(try dsimp only);omega) ?_
    exact lU ⟨s2,i+1⟩ [] [] rfl (by show l.length -(i+1)<l.length-i;omega) ⟨hlt,G1 h0⟩ (by trivial) ⟨rfl,trivial⟩
   ·refine lV.i64 (by(try dsimp only);omega) ?_
    exact lU ⟨s,i+1⟩ [] [] rfl (by show l.length -(i+1)<l.length-i;omega) ⟨hlt,hs⟩ (by trivial) ⟨rfl,trivial⟩
  ·have h0:e=0:=by simpa using h
   have hd':=F2 (.inl h0)
   have hK:=Vs s'.d hd' l[i].pick
   have hO2:=JO (hd'.crash l[i].pick)
   have hP2:=Oi (s'.d.crash l[i].pick) (hd'.crash l[i].pick)
   have hR2:=TT (s'.d.crash l[i].pick) (hd'.crash l[i].pick)
   generalize s'.d.crash l[i].pick=d3 at *
   generalize wH d3=q2 at *
   obtain⟨s2,e2⟩:=q2
   obtain⟨G1,G2,G3⟩:=hO2.facts
   dsimp only at G1 G2 G3 hP2 hR2
   refine mP (fun _=> .take 0 (tk [2,3,4,5,6] (.one 1 (.post 7 (.post 8 (tk [9,10,11] (.one 12 (.take 13 .done)))))))) [2] (by kernel_rfl) ?_
   conv=>whnf
   repeat' (first
    | (refine mZ.mk' i rfl (pU hlt) ?_;conv=>whnf)
    | (refine mD.lT (aj hlt) ?_;conv=>whnf)
    | (refine mY [] (by kernel_rfl) hK ?_ ?_;(focus (trivial;done));conv=>whnf)
    | (refine mY [] (by kernel_rfl) hP2 ?_ ?_;(focus (trivial;done));conv=>whnf))
   refine mP (fun _=> .take 0 (tk [2,3,4,5,6] (.one 1 (.post 7 (.post 8 (tk [9,10,11] (.one 12 (.take 13 .done)))))))) [3] (by kernel_rfl) ?_
   conv=>whnf
   repeat' (first
    | (refine mZ.mk' i rfl (pU hlt) ?_;conv=>whnf)
    | (refine mD.lT (aj hlt) ?_;conv=>whnf)
    | (refine mY [] (by kernel_rfl) hK ?_ ?_;(focus (trivial;done));conv=>whnf)
    | (refine mY [] (by kernel_rfl) hR2 ?_ ?_;(focus (trivial;done));conv=>whnf))
   apply lK<;>intro h
   ·exfalso;simp at h
   refine mY [] (by kernel_rfl) G3 (by trivial) ?_
   apply lK<;>intro h
   ·have h0:e2=0:=by simpa using h
    (refine mP V4 [0] (by kernel_rfl) ?_;conv=>whnf)
    refine lV.i64 (by(try dsimp only);omega) ?_
    exact lU ⟨s2,i+1⟩ [] [] rfl (by show l.length -(i+1)<l.length-i;omega) ⟨hlt,G1 h0⟩ (by trivial) ⟨rfl,trivial⟩
   ·refine lV.i64 (by(try dsimp only);omega) ?_
    exact lU ⟨s,i+1⟩ [] [] rfl (by show l.length -(i+1)<l.length-i;omega) ⟨hlt,hs⟩ (by trivial) ⟨rfl,trivial⟩
 have g4:l[i].kind%4≠3:=by rw [hm4]at h4;simp at h4;omega
 refine mZ.mk' i rfl (pU hlt) ?_
 refine mD.lT (aj hlt) ?_
 refine lN.mk (by decide) ?_
 refine lK (fun h8=> ?_) (fun h8=> ?_)
 ·have hOut:=JM (s:=s) hs.d hs.ev (by have:=hs.gen;omega) hs.half
  have hQ1:=WQ s hs
  have hQ2:=WX s hs
  generalize uO s=q at *
  obtain⟨s',e⟩:=q
  obtain⟨F1,F2,F3⟩:=hOut.facts
  dsimp only at F1 F2 F3 hQ1 hQ2
  refine mY [] (by kernel_rfl) hQ1 (by trivial) ?_
  refine mY [] (by kernel_rfl) hQ2 (by trivial) ?_
  apply lK<;>intro h
  ·exfalso;simp at h
  refine mY [] (by kernel_rfl) F3 (by trivial) ?_
  refine mZ.mk' i rfl (pU hlt) ?_
  refine mD.lT (aj hlt) ?_
  refine lN.mk (by decide) ?_
  refine lK (fun h=> ?_) (fun _=> ?_)
  ·exfalso;rw [h4]at h;cases h
  apply lK<;>intro h
  ·skip
   have h0:e=0:=by simpa using h
   (refine mP V4 [0] (by kernel_rfl) ?_;conv=>whnf)
   refine lV.i64 (by(try dsimp only);omega) ?_
   exact lU ⟨s',i+1⟩ [] [] rfl (by show l.length -(i+1)<l.length-i;omega) ⟨hlt,F1 h0⟩ (by trivial) ⟨rfl,trivial⟩
  ·skip
   have h0:e≠0:=by simpa using h
   refine lV.i64 (by(try dsimp only);omega) ?_
   exact lU ⟨s,i+1⟩ [] [] rfl (by show l.length -(i+1)<l.length-i;omega) ⟨hlt,hs⟩ (by trivial) ⟨rfl,trivial⟩
 ·conv=>whnf
  have hOut:=QU (s:=s) hs hv1 hv2
  have hQ1:=QH (s) hs ev hv1 (by omega)
  have hQ2:=QO (s) hs ev hv1 (by omega)
  generalize xw (s) ev=q at *
  obtain⟨s',e⟩:=q
  obtain⟨F1,F2,F3⟩:=hOut.facts
  dsimp only at F1 F2 F3 hQ1 hQ2
  refine xY (fun _=> .take 1 (tk [2,3,4,5] (.two 0 (.one 6 (.post 7 (tk [8,9,10] (.one 11 (.take 12 .done))))) 6 (.one 0 (.post 7 (tk [8,9,10] (.one 11 (.take 12 .done)))))))) [2] [(6,6),(91,101)] 4 [(6,iv e)] [(0, .var 43 (Jz s)),(1, .var 43 (Jz s)),(2, .var 43 (Jz s')),(3, .var 43 (Jz (s)))] (by kernel_rfl) (by kernel_rfl) ?_ ?_
  ·conv=>whnf
   repeat' (first
    | (refine And.intro ?_ ?_<;>(conv=>whnf))
    | (refine mZ.mk' i rfl (pU hlt) ?_;conv=>whnf)
    | (refine mD.lT (aj hlt) ?_;conv=>whnf)
    | (refine mY [] (by kernel_rfl) hE ?_ ?_;(focus (trivial;done));conv=>whnf)
    | (refine mY [] (by kernel_rfl) hQ1 ?_ ?_;(focus (trivial;done));conv=>whnf))
   all_goals (refine nH [] [] ?_ ?_ ?_;(focus rfl);(focus trivial);(focus trivial);done)
  refine xY (fun _=> .take 1 (tk [2,3,4,5] (.two 0 (.one 6 (.post 7 (tk [8,9,10] (.one 11 (.take 12 .done))))) 6 (.one 0 (.post 7 (tk [8,9,10] (.one 11 (.take 12 .done)))))))) [3] [(8,8),(102,112)] 4 [(8,iv e)] [(0, .var 43 (Jz s)),(1, .var 43 (Jz s)),(2, .var 43 (Jz s')),(3, .var 43 (Jz s'))] (by kernel_rfl) (by kernel_rfl) ?_ ?_
  ·conv=>whnf
   repeat' (first
    | (refine And.intro ?_ ?_<;>(conv=>whnf))
    | (refine mZ.mk' i rfl (pU hlt) ?_;conv=>whnf)
    | (refine mD.lT (aj hlt) ?_;conv=>whnf)
    | (refine mY [] (by kernel_rfl) hE ?_ ?_;(focus (trivial;done));conv=>whnf)
    | (refine mY [] (by kernel_rfl) hQ2 ?_ ?_;(focus (trivial;done));conv=>whnf))
   all_goals (refine nH [] [] ?_ ?_ ?_;(focus rfl);(focus trivial);(focus trivial);done)
  apply lK<;>intro h
  ·exfalso;simp at h
  refine mY [] (by kernel_rfl) F3 (by trivial) ?_
  refine mZ.mk' i rfl (pU hlt) ?_
  refine mD.lT (aj hlt) ?_
  refine lN.mk (by decide) ?_
  refine lK (fun h=> ?_) (fun _=> ?_)
  ·exfalso;rw [h4]at h;cases h
  apply lK<;>intro h
  ·skip
   have h0:e=0:=by simpa using h
   (refine mP V4 [0] (by kernel_rfl) ?_;conv=>whnf)
   refine lV.i64 (by(try dsimp only);omega) ?_
   exact lU ⟨s',i+1⟩ [] [] rfl (by show l.length -(i+1)<l.length-i;omega) ⟨hlt,F1 h0⟩ (by trivial) ⟨rfl,trivial⟩
  ·skip
   have h0:e≠0:=by simpa using h
   refine lV.i64 (by(try dsimp only);omega) ?_
   exact lU ⟨s,i+1⟩ [] [] rfl (by show l.length -(i+1)<l.length-i;omega) ⟨hlt,hs⟩ (by trivial) ⟨rfl,trivial⟩
end
end Go.Proofs.YtocckceefcmeaaaGreatDoor.Cl
namespace Go.Proofs.YtocckceefcmeaaaGreatDoor.Vc
open RowKit Ax Go.Proofs.Tryz
section
variable {H:Type}{enc:TypeId×Value->H}{w:World}
theorem Vz {P:Program} : ∀ {ts:List TypeId} {ds:List (DataW H)} {B:Nat},(∀x∈DataW.weightsEach P ts ds,x<=B)->∀(j:Nat) t d,ts[j]? = some t->ds[j]? = some d->∀x∈d.weights P t,x<=B:=by
 intro ts
 induction ts with
 | nil=>intro ds B _ j t d h;simp at h
 | cons t ts ih=>
  intro ds B h j u d h1 h2
  cases ds with
  | nil=>simp at h2
  | cons e ds=>
   simp only [DataW.weightsEach,bK]at h
   cases j with
   | zero=>
    simp only [bW,aN]at h1 h2
    subst h1;subst h2
    exact fun x hx=>h x (.inl hx)
   | succ j=>exact ih (fun x hx=>h x (.inr hx)) j u d (by simpa using h1) (by simpa using h2)
theorem aeK {P:Program}{t e:TypeId}{d:DataW H}{ds:List (DataW H)}{len:Nat}(hu:P.underlying t=some (.slice e))(hdl:ds.length=len)(hd:(d = .nil∧len=0)∨∃rest,d = .slice ds rest)(hB : ∀x∈d.weights P t,x<=reachBytes) :
  ∀x∈DataW.weightsAll P e ds,x<=reachBytes:=by
 rcases hd with ⟨_,h0⟩|⟨rest,rfl⟩
 ·have:ds = []:=aI (by omega)
  subst this
  intro x hx;simp [DataW.weightsAll]at hx
 ·intro x hx
  refine hB x ?_
  simp only [DataW.weights,hu,bD,bK]
  exact .inr (.inl hx)
end
inductive Sh where
 | n (k:IntKind)
 | b
 | s
 | l (qY:Nat) (es:List Sh)
inductive Xa:Sh->FV->Prop
 | n {k:IntKind} {x:Int} (h:(Lit.int k x).wf=true):Xa (.n k) (.v (.int k x))
 | b (x:Bool):Xa .b (.v (.bool x))
 | s (x:ByteArray) (h:x.size<=140737488351232):Xa .s (.v (.string x))
 | l {qY:Nat} {es:List Sh} {rows:List (List FV)} (hn:rows.length<=maxLen) (hb:rows.length*qY<=140737488351232) (h : ∀row∈rows,row.length=es.length) (hr : ∀row∈rows, ∀(j:Nat) e a,es[j]? = some e->row[j]? = some a->Xa e a):Xa (.l qY es) (.lst es.length rows)
def Ku (es:List Sh)(row:List FV):Prop:=row.length=es.length∧∀(j:Nat) e a,es[j]? = some e->row[j]? = some a->Xa e a
theorem Ku.nil:Ku [] []:=⟨rfl,fun j e a h=>by simp at h⟩
theorem Ku.app {e1 e2:List Sh}{r1 r2:List FV}(h1:Ku e1 r1)(h2:Ku e2 r2):Ku (e1++e2) (r1++r2):=by
 refine⟨by simp [h1.1,h2.1],fun j e a he ha=> ?_⟩
 rw [jw]at he ha
 rw [h1.1]at ha
 split at he
 ·rename_i h;rw [if_pos h]at ha;exact h1.2 j e a he ha
 ·rename_i h;rw [if_neg h]at ha;exact h2.2 _ e a he ha
theorem Ku.one {e:Sh}{a:FV}(h:Xa e a):Ku [e] [a]:=⟨rfl,fun j e' a' he ha=>by
 match j,he,ha with
 | 0,he,ha=>simp at he ha;subst he;subst ha;exact h⟩
theorem Ku.Ov {row:List FV}(h:Ku [] row):row = []:=aI h.1
theorem Ku.cons_inv {e:Sh}{es:List Sh}{row:List FV}(h:Ku (e::es) row) : ∃a r,row=a::r∧Xa e a∧Ku es r:=by
 cases row with
 | nil=>have:=h.1;simp at this
 | cons a r=>exact⟨a,r,rfl,h.2 0 e a rfl rfl,by have:=h.1;simpa using this,fun j e' a' he ha=>h.2 (j+1) e' a' (by simpa using he) (by simpa using ha)⟩
theorem Xa.afv {qY:Nat}{es:List Sh}{a:FV}(h:Xa (.l qY es) a) : ∃rows:List (List FV),a = .lst es.length rows∧(rows.length<=maxLen∧rows.length*qY<=140737488351232)∧∀row∈rows,Ku es row:=by
 cases h with
 | l hn hb h hr=>exact⟨_,rfl,⟨hn,hb⟩,fun row hrow=>⟨h row hrow,hr row hrow⟩⟩
def Xb (f:TypeId->Option (List Sh))(P:Program):List Field->Nat->Option (List Sh)
 | [],_=>some []
 | x::r,o=>bif Nat.beq x.offset o then
   match f x.type with
   | some es=>bif Nat.beq es.length (P.cellsOf x.type)then
     match Xb f P r (o+es.length)with
     | some rs=>some (es++rs)
     | none=>none
    else none
   | none=>none
  else none
def shT (P:Program):Nat->TypeId->Option (List Sh)
 | 0,_=>none
 | n+1,t=>match P.underlying t with
  | some (.int k)=>some [.n k]
  | some .bool=>some [.b]
  | some .string=>some [.s]
  | some (.slice e)=>match shT P n e with
   | some es=>bif Nat.beq es.length (P.cellsOf e)&&Nat.ble 1 es.length then some [.l (P.bytesOf e) es]else none
   | none=>none
  | some (.struct fs)=>match Xb (shT P n) P fs.toList 0 with
   | some es=>bif Nat.beq es.length (P.cellsOf t)then some es else none
   | none=>none
  | _=>none
section
variable {H:Type}{enc:TypeId×Value->H}{P:Program}{w:World}
def One (w:World)(es:List Sh)(cs:List Value):Prop:= ∃row,Ku es row∧zk (Here w) w row cs∧∀v∈cs,v.oneCell'=true
theorem One.nil:One w [] []:=⟨[],Ku.nil,⟨rfl,fun j a v h=>by simp at h⟩,fun v h=>by cases h⟩
theorem One.app {e1 e2:List Sh}{c1 c2:List Value}(h1:One w e1 c1)(h2:One w e2 c2):One w (e1++e2) (c1++c2):=by
 obtain⟨r1,k1,f1,o1⟩:=h1
 obtain⟨r2,k2,f2,o2⟩:=h2
 refine⟨r1++r2,k1.app k2,⟨by simp [f1.1,f2.1],fun j a v ha hv=> ?_⟩,fun v hv=>(bK.1 hv).elim (o1 v) (o2 v)⟩
 rw [jw]at ha hv
 rw [f1.1]at hv
 split at ha
 ·rename_i h;rw [if_pos h]at hv;exact f1.2 j a v ha hv
 ·rename_i h;rw [if_neg h]at hv;exact f2.2 _ a v ha hv
theorem One.one {e:Sh}{a:FV}{v:Value}(h:Xa e a)(hf:pJ (Here w) w a v)(ho:v.oneCell'=true):One w [e] [v]:=
 ⟨[a], .one h,⟨rfl,fun j a' v' ha hv=>by
  match j,ha,hv with
  | 0,ha,hv=>simp at ha hv;subst ha;subst hv;exact hf⟩,fun u hu=>by rw [bF.1 hu];exact ho⟩
theorem aeL {sz:Nat} : ∀(css:List (List Value)) (i j:Nat) (c:List Value) (v:Value),(∀c∈css,c.length=sz)->css[i]? = some c->c[j]? = some v->css.flatten[i*sz+j]? = some v:=by
 intro css
 induction css with
 | nil=>intro i j c v _ h;simp at h
 | cons a r ih=>
  intro i j c v hl hi hj
  have ha:a.length=sz:=hl a (by simp)
  rw [iK,jw]
  cases i with
  | zero=>
   simp only [bW,aN]at hi
   subst hi
   have:=(aO.1 hj).1
   rw [if_pos (by omega)]
   simpa using hj
  | succ i=>
   rw [if_neg (by rw [ha,bJ];omega),ha]
   have:=ih i j c v (fun c hc=>hl c (by simp [hc])) (by simpa using hi) hj
   rw [show (i+1)*sz+j-sz=i*sz+j by rw [bJ];omega]
   exact this
theorem Ua {f:TypeId->Option (List Sh)}{cs:List Value} : ∀(fs:List Field) (o:Nat) (es:List Sh),Xb f P fs o=some es->
  (∀x∈fs, ∀e',f x.type=some e'->e'.length=P.cellsOf x.type->One w e' ((cs.drop x.offset).take (P.cellsOf x.type)))->One w es ((cs.drop o).take es.length):=by
 intro fs
 induction fs with
 | nil=>intro o es h _;injection h with h;subst h;simpa using One.nil
 | cons x r ih=>
  intro o es h hx
  unfold Xb at h
  cases ho:Nat.beq x.offset o with
  | false=>rw [ho]at h;cases h
  | true=>
   rw [ho]at h
   simp only [cond_true]at h
   have ho:=aF ho
   cases hf:f x.type with
   | none=>rw [hf]at h;cases h
   | some e1=>
    rw [hf]at h
    simp only at h
    cases hl:Nat.beq e1.length (P.cellsOf x.type)with
    | false=>rw [hl]at h;cases h
    | true=>
     rw [hl]at h
     simp only [cond_true]at h
     have hl:=aF hl
     cases hr:Xb f P r (o+e1.length)with
     | none=>rw [hr]at h;cases h
     | some e2=>
      rw [hr]at h
      simp only [aN]at h
      subst h
      have h1:=hx x (by simp) e1 hf hl
      have h2:=ih (o+e1.length) e2 hr fun y hy=>hx y (by simp [hy])
      rw [ho, <-hl]at h1
      have:=h1.app h2
      rw [ak,lG,dB]
      exact this
theorem aaG {es:List Sh}{e:TypeId}(one : ∀cs (d:DataW H),RdD enc P w e cs d->(∀x∈d.weights P e,x<=reachBytes)->One w es cs) :
  ∀(css:List (List Value)) (ds:List (DataW H)),ds.length=css.length->(∀(i:Nat) c d',css[i]? = some c->ds[i]? = some d'->RdD enc P w e c d')->(∀x∈DataW.weightsAll P e ds,x<=reachBytes)->
   ∃rows:List (List FV),rows.length=css.length∧(∀row∈rows,Ku es row)∧∀(i:Nat) c row,css[i]? = some c->rows[i]? = some row->zk (Here w) w row c∧∀v∈c,v.oneCell'=true:=by
 intro css
 induction css with
 | nil=>intro ds _ _ _;exact⟨[],rfl,(fun k h=>by cases h),fun i c row h=>by simp at h⟩
 | cons a css ih=>
  intro ds hl h hB
  cases ds with
  | nil=>simp at hl
  | cons d ds=>
   simp only [DataW.weightsAll,bK]at hB
   obtain⟨row,k1,k2,k3⟩:=one a d (h 0 a d rfl rfl) fun x hx=>hB x (.inl hx)
   obtain⟨rows,h1,h2,h3⟩:=ih ds (by simpa using hl) (fun i c d' hc hd=>h (i+1) c d' (by simpa using hc) (by simpa using hd)) fun x hx=>hB x (.inr hx)
   refine⟨row::rows,by simp [h1],fun y hy=> ?_,fun i c r hc hr=> ?_⟩
   ·rcases bD.1 hy with rfl|hy
    ·exact k1
    ·exact h2 y hy
   ·cases i with
    | zero=>simp at hc hr;subst hc;subst hr;exact⟨k2,k3⟩
    | succ i=>exact h3 i c r (by simpa using hc) (by simpa using hr)
theorem rdg : ∀(n:Nat) (t:TypeId) (es:List Sh),shT P n t=some es->∀(cs:List Value) (d:DataW H),RdD enc P w t cs d->(∀x∈d.weights P t,x<=reachBytes)->One w es cs:=by
 intro n
 induction n with
 | zero=>intro t es h;cases h
 | succ n ih=>
  intro t es h cs d hd hB
  unfold shT at h
  cases hu:P.underlying t with
  | none=>rw [hu]at h;cases h
  | some u=>
   rw [hu]at h
   cases u with
   | int k=>
    simp only [aN]at h
    subst h
    obtain⟨x,e,_,hw⟩:=ac7 hu hd
    subst e
    exact .one (.n hw) (.v _) rfl
   | bool=>
    simp only [aN]at h
    subst h
    obtain⟨held,fuel,p,hx⟩:=hd
    obtain⟨b,e,_⟩:=DataW.trod_bool hu hx
    subst e
    exact .one (.b b) (.v _) rfl
   | string=>
    simp only [aN]at h
    subst h
    obtain⟨held,fuel,p,hx⟩:=hd
    obtain⟨s,e,hd,_⟩:=DataW.trod_string hu hx
    injection hd with hd
    subst hd
    subst e
    have h1:=hB s.data.toList.length (by simp [DataW.weights])
    have h2:s.data.toList.length=s.size:=by simp
    have h3:reachBytes=140737488351232:=rfl
    exact .one (.s s (by omega)) (.v _) rfl
   | slice e=>
    simp only at h
    cases hs:shT P n e with
    | none=>rw [hs]at h;cases h
    | some ee=>
     rw [hs]at h
     simp only at h
     cases hc:Nat.beq ee.length (P.cellsOf e)&&Nat.ble 1 ee.length with
     | false=>rw [hc]at h;cases h
     | true=>
      rw [hc]at h
      simp only [cond_true,aN]at h
      subst h
      simp only [aB]at hc
      have hsz:=aF hc.1
      have hpos:=aP hc.2
      obtain⟨oa,len,cap,css,ds,h1,hlc,hcm,hn,hcl,hr,hall,hdl,hdd,hel⟩:=Wh hu hd
      obtain⟨rows,k1,k2,k3⟩:=aaG (fun cs d=>ih e ee hs cs d) css ds (by omega) hel (aeK hu hdl hdd hB)
      subst h1
      have hsz' : ∀c∈css,c.length=ee.length:=fun c hc=>by rw [(hall c hc).1,hsz]
      have cell : ∀i j,i<len->j<ee.length->∃b o row a v,oa=some ⟨b,o,none⟩∧b<w.heap.size∧rows[i]? = some row∧row[j]? = some a∧w.cell? ⟨b,o+(i*ee.length+j),none⟩=some v∧pJ (Here w) w a v∧v.oneCell'=true:=by
       intro i j hi hj
       have hic:i<css.length:=by omega
       have hir:i<rows.length:=by omega
       have hci:=aj hic
       have hri:=aj hir
       have hjc:j<css[i].length:=by rw [hsz' _ (aT hic)];exact hj
       have hjr:j<rows[i].length:=by rw [(k2 _ (aT hir)).1];exact hj
       have hfl:=aeL css i j css[i] css[i][j] hsz' hci (aj hjc)
       rcases hr with h0|⟨b,o,rfl,hb,hcc⟩
       ·rw [h0]at hfl;simp at hfl
       ·obtain⟨f1,f2⟩:=k3 i css[i] rows[i] hci hri
        exact⟨b,o,rows[i],rows[i][j],css[i][j],rfl,hb,hri,aj hjr,hcc _ _ hfl,f1.2 j _ _ (aj hjr) (aj hjc),f2 _ (aT hjc)⟩
      have hb : ∃b o,(0<len->oa=some ⟨b,o,none⟩∧Here w b):=by
       rcases cO len with h0|h0
       ·exact⟨0,0,fun h=>by omega⟩
       ·obtain⟨b,o,_,_,_,e,hb,_⟩:=cell 0 0 h0 hpos
        exact⟨b,o,fun _=>⟨e,hb⟩⟩
      obtain⟨b,o,hbo⟩:=hb
      have hbb:rows.length*P.bytesOf e<=140737488351232:=by
       rcases hdd with ⟨_,h0⟩|⟨rest,hdd⟩
       ·rw [show rows.length=0 by omega,fJ];exact au _
       ·subst hdd
        have:=hB ((ds.length+rest.length)*P.bytesOf e) (by simp only [DataW.weights,hu,bD,true_or])
        rw [show rows.length=ds.length by omega]
        exact dM (aX _ (Nat.le_add_right _ _)) this
      refine .one (a:= .lst ee.length rows) (.l (by omega) hbb (fun row hrow=>(k2 row hrow).1) fun row hrow=>(k2 row hrow).2) ?_ rfl
      refine .lst ee.length rows oa len cap b o (by omega) hlc hn hbo (fun row hrow=>(k2 row hrow).1) (fun i j hi hj=> ?_) fun i j row a v hi hj hv=> ?_
      ·obtain⟨b',o',_,_,v,e,_,_,_,h4,_,h6⟩:=cell i j hi hj
       obtain⟨rfl,rfl⟩:b'=b∧o'=o:=by
        have:=(hbo (by omega)).1
        rw [e]at this;injection this with this;injection this with h1 h2;exact⟨h1,h2⟩
       exact⟨v,h4,h6⟩
      ·have hil:=(aO.1 hi).1
       have hjl:j<ee.length:=by rw [<-(k2 row (aZ hi)).1];exact(aO.1 hj).1
       obtain⟨b',o',row',a',v',e,_,h2,h3,h4,h5,_⟩:=cell i j (by omega) hjl
       obtain⟨rfl,rfl⟩:b'=b∧o'=o:=by
        have:=(hbo (by omega)).1
        rw [e]at this;injection this with this;injection this with h1 h2;exact⟨h1,h2⟩
       rw [hi]at h2;injection h2 with h2;subst h2
       rw [hj]at h3;injection h3 with h3;subst h3
       rw [hv]at h4;injection h4 with h4;subst h4
       exact h5
   | struct fs=>
    simp only at h
    cases hs:Xb (shT P n) P fs.toList 0 with
    | none=>rw [hs]at h;cases h
    | some ee=>
     rw [hs]at h
     simp only at h
     cases hc:Nat.beq ee.length (P.cellsOf t)with
     | false=>rw [hc]at h;cases h
     | true=>
      rw [hc]at h
      simp only [cond_true,aN]at h
      subst h
      have hsz:=aF hc
      obtain⟨held,fuel,p,hx⟩:=hd
      obtain⟨xs,m,rfl,hdd,hcl,hxl,hel⟩:=DataW.trod_struct hu hx
      injection hdd with hdd
      subst hdd
      have:=Ua (w:=w) (cs:=cs) fs.toList 0 ee hs fun x hx e' he' hle=>by
       obtain⟨i,hi⟩:=bZ.1 hx
       have hi':fs[i]? = some x:=by simpa using hi
       have hil:i<xs.length:=by rw [hxl];exact(dw.1 hi').1
       have h1:=hel i x hi'
       rw [aj hil]at h1
       refine ih x.type e' he' _ xs[i].1 ⟨held,m,xs[i].2,h1⟩ ?_
       have hE : ∀y∈DataW.weightsEach P (fs.toList.map (·.type)) (xs.map (·.1)),y<=reachBytes:=by
        intro y hy
        refine hB y ?_
        simp only [DataW.weights,hu]
        exact hy
       exact Vz hE i x.type xs[i].1 (by rw [aU,hi];rfl) (by rw [aU,aj hil];rfl)
      rw [dJ,dD (by omega)]at this
      exact this
   | _=>cases h
end
section
open Go.ChangeShapes Go.WideShapes Go.ChangeAt
section
variable {H:Type}{enc:TypeId×Value->H}{P:Program}{w:World}
theorem Xc {t e:TypeId}{es:List Sh}{qY:Nat}{v:Value}{r:Reach}{b0:Nat}{d:DataW H}{p:List MemPlace}(n:Nat)(ht:P.underlying t=some (.slice e))(hs:shT P n t=some [.l qY es])(hval:Value.okWide P w r b0 t v)
  (h:DataW.Trod enc P w 0 (fun _=>true) true t v d p) (hB : ∀x∈d.weights P t,x<=reachBytes) : ∃rows:List (List FV),(rows.length<=maxLen∧rows.length*qY<=140737488351232)∧(∀row∈rows,Ku es row)∧nI 0 YB (Here w) w (.lst es.length rows) v:=by
 obtain⟨row,h1,h2,h3⟩:=rdg n t _ hs v.cells.toList d ⟨_,_,_,h.choose_spec⟩ hB
 obtain⟨a,r,rfl,ha,hr⟩:=h1.cons_inv
 obtain rfl:=hr.Ov
 obtain⟨rows,rfl,hb,hrows⟩:=ha.afv
 obtain⟨oa,len,cap,rfl⟩:=okWide_slice ht hval
 refine⟨rows,hb,hrows, ?_⟩
 have:=h2.2 0 _ (.slice oa len cap) rfl (by simp [Value.cells])
 exact this.up
end
end
end Go.Proofs.YtocckceefcmeaaaGreatDoor.Vc
namespace Go.Proofs.YtocckceefcmeaaaGreatDoor.Cl
open RowKit Vc Ax Go.Proofs.Tryz
def akf:List Sh:= [.n .u8, .n .u8, .l 1 [.n .u8], .l 1 [.n .u8]]
theorem LU {α:Type}{es:List Sh}{enc:α->List FV}{ok:α->Prop}(one : ∀row,Ku es row->∃a,row=enc a∧ok a) : ∀rows:List (List FV),(∀row∈rows,Ku es row)->∃l:List α,rows=l.map enc∧∀a∈l,ok a:=by
 intro rows
 induction rows with
 | nil=>intro _;exact⟨[],rfl,fun a h=>by cases h⟩
 | cons r rs ih=>
  intro h
  obtain⟨a,e,ha⟩:=one r (h r (by simp))
  obtain⟨l,e2,hl⟩:=ih fun row hrow=>h row (by simp [hrow])
  refine⟨a::l,by rw [e,e2];rfl,fun b hb=> ?_⟩
  rcases bD.1 hb with rfl|hb
  ·exact ha
  ·exact hl b hb
theorem Ox {a:FV}(h:Xa (.n .u8) a) : ∃k:Nat,a = .v (.int .u8 k)∧k<256:=by
 cases h with
 | n hw=>obtain⟨k,rfl,hk⟩:=ae3 hw;exact⟨k,rfl,hk⟩
theorem VA {a:FV}{b:Nat}(h:Xa (.l b [.n .u8]) a) : ∃l:By,a = .lst 1 (l.map oh):=by
 obtain⟨rows,rfl,_,hr⟩:=h.afv
 obtain⟨l,rfl,_⟩:=LU (α:=UInt8) (enc:=oh) (ok:=fun _=>True) (fun row h=>by
  obtain⟨a,r,rfl,ha,h⟩:=h.cons_inv
  obtain rfl:=h.Ov
  obtain⟨k,rfl,hk⟩:=Ox ha
  exact⟨UInt8.ofNat k,by unfold oh;rw [toNat_ofNat hk],trivial⟩) rows hr
 exact⟨l,rfl⟩
theorem aia (row:List FV)(h:Ku akf row) : ∃a:Ac,row=aaD a∧a.ok:=by
 obtain⟨a0,r,rfl,h0,h⟩:=h.cons_inv
 obtain⟨a1,r,rfl,h1,h⟩:=h.cons_inv
 obtain⟨a2,r,rfl,h2,h⟩:=h.cons_inv
 obtain⟨a3,r,rfl,h3,h⟩:=h.cons_inv
 obtain rfl:=h.Ov
 obtain⟨k0,rfl,b0⟩:=Ox h0
 obtain⟨k1,rfl,b1⟩:=Ox h1
 obtain⟨l2,rfl⟩:=VA h2
 obtain⟨l3,rfl⟩:=VA h3
 exact⟨⟨k0,k1,l2,l3⟩,rfl,b0,b1⟩
end Go.Proofs.YtocckceefcmeaaaGreatDoor.Cl
