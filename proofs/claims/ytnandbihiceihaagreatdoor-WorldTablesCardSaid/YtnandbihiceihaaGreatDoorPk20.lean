/- Joined parts of the proof. The walk of the made events -/
import Derived.Test.YtnandbihiceihaaGreatDoorPk19
set_option linter.unusedVariables false
set_option linter.unusedSimpArgs false
set_option maxRecDepth 100000
set_option maxHeartbeats 16000000
namespace Go.Proofs.YtnandbihiceihaaGreatDoor.Cl
open RowKit Vc Ax Ky Go.Proofs.Tryz
attribute [local irreducible] loadVar storeVar Instr.indexAt Instr.index Instr.sliceAt Instr.makeSlice Instr.lookup Instr.mapUpdate Instr.range Instr.next Instr.entry Instr.makeMap Builtin.append_ Builtin.copy_ Builtin.len_ Builtin.min_ Builtin.max_ Builtin.cap_ Builtin.delete_ Builtin.clear_ convert binOp eqGuard Op.unary Calls
def Wp:Tx:= [[97,112,112],[116,97,98],[119,101,98]]
structure EvP (e:Ev):Prop where
 client:e.client∈Wp
 id : ∃k:Nat,k<6∧e.id=qZ k
 seq:1<=e.seq∧e.seq<=60
 time:0<=e.time∧e.time<=180
 kinds:(e.kind=1∧(∃k:Nat,k<2∧e.name=qN.getD k [])∧e.other = []∧(1<=e.arm∧e.arm<=3)∧(1<=e.ver∧e.ver<=2)∧e.val=0)∨
  (e.kind=2∧(∃k:Nat,k<2∧e.name=wu.getD k [])∧e.other = []∧e.ver=0∧e.arm=0∧(-4<=e.val∧e.val<=35))∨
  (e.kind=3∧e.name = []∧(∃k:Nat,k<7∧e.other=qZ k)∧e.other≠e.id∧e.ver=0∧e.arm=0∧e.val=0)
structure Z8 (l:List Ev):Prop where
 len:l.length<=60
 all : ∀e∈l,EvP e
 asc:l.Pairwise fun a b=>a.time<=b.time
structure ES where
 out:List Ev
 a:Nat
 tm:Nat
 sq:List Nat
 last:Int
structure EI (L:By)(x:ES):Prop where
 at_:x.a<=L.length
 P:Z8 x.out
 tm:x.tm<=3*x.out.length
 le : ∀e∈x.out,e.time<=(x.tm:Int)
 sl:x.sq.length=3
 sb : ∀k∈x.sq,k<=x.out.length
 last : -1<=x.last∧x.last<=2
def enN (n:Nat):List FV:= [iF n]
def alK (a:AV)(m:Nat)(H:lI):Prop:= ∃l,Z8 l∧vZ 63 10 (l.map wX) a m H
def EvO (a:AV)(m:Nat)(H:lI):Prop:= ∃l,Z8 l∧a=el l∧m=0∧H = []
theorem lN.div {K:Int->Prop}(v k:Nat)(hv:v<1000000)(c:K ((v/k:Nat):Int)):lN .i64 ((v:Int).tdiv (k:Int)) K:=by
 have h:=gQ v k
 refine lN.to (y:=((v/k:Nat):Int)) ?_ c
 rw [show (v:Int).tdiv (k:Int)=((v/k:Nat):Int)from rfl]
 generalize v/k=q at *
 exact IntWalk.i64_in _ aai
theorem MR {a b:Nat}(h:uN ⟨(qZ a).toArray⟩ ⟨(qZ b).toArray⟩=false):qZ a≠qZ b:=fun e=>by
 rw [mW,decide_eq_false_iff_not]at h;exact h e
theorem MS {a b:Nat}(ha:a<6)(hb:b<6)(h:uN ⟨(qZ a).toArray⟩ ⟨(qZ b).toArray⟩=true):qZ (a+1)≠qZ b:=by
 have h1:qZ a=qZ b:=by rw [mW,decide_eq_true_eq]at h;exact h
 have h2 : ∀a,a<6->∀b,b<6->qZ a=qZ b->qZ (a+1)≠qZ b:=aaw
 exact h2 a ha b hb h1
theorem ql (l:List Ev)(e:Ev):l.map wX++ [wX e]=(l++ [e]).map wX:=by rw [aS];rfl
theorem EI.next {L:By}{out:List Ev}{a tm:Nat}{sq:List Nat}{last:Int}(h:EI L ⟨out,a,tm,sq,last⟩)(hl:out.length<60){a' st i k:Nat}(ha:a'<=L.length)(hst:st<4)(hi:i<3)(hk:k<=out.length){e:Ev}(het:e.time=((tm+st:Nat):Int))(he:EvP e):EI L ⟨out++ [e],a',tm+st,sq.set i (k+1),i⟩:=by
 obtain⟨hp,hP,htm,hle,hsl,hsb,hlast⟩:=h
 dsimp only at *
 have hn:(out++ [e]).length=out.length+1:=aki
 refine⟨ha,⟨by dsimp only;omega,fun x hx=> ?_,List.pairwise_append.2 ⟨hP.asc,kR _ _,fun x hx y hy=> ?_⟩⟩,by dsimp only;omega,fun x hx=> ?_,by dsimp only;rw [bJ];exact hsl,fun x hx=> ?_,by dsimp only;omega⟩
 ·rcases bC.1 hx with h|h
  ·exact hP.all x h
  ·rw [aW]at h;rw [h];exact he
 ·rw [aW]at hy
  have:=hle x hx
  rw [hy];omega
 ·dsimp only at hx ⊢
  rcases bC.1 hx with h|h
  ·have:=hle x h;omega
  ·rw [aW]at h;rw [h];omega
 ·dsimp only at hx ⊢
  rcases fZ hx with h|h
  ·have:=hsb x h;omega
  ·omega
def NxC (L:By)(p n v q:Nat):Prop:=v<n∧q<=L.length∧mP Tryz.prog GS 33 [.ptr 0 0,iv n] 1 [(0,Nv L p)] (fun a m H=>a=iv v∧m=1∧H = [(0,Nv L q)])
theorem wG {L:By}(hL:L.length<=1000){p:Nat}(hp:p<=L.length)(n:Nat)(hn:0<n)(hn2:n<=256) : ∃v q,NxC L p n v q:=⟨I9 L p n,Ja L p,zG L p n hn,xk hp,Dl L p n hn hn2 aai hp⟩
theorem Z9 (L:By)(hL:L.length<=1000):mP Tryz.prog GS 9 [bs L] 0 [] alK:=by
 refine lJ func9 rfl mixed aag ?_
 refine mY ait 3 [4,5,7] (fun x:ES=> [(4, .own 2),(5,iv x.tm),(7,iv x.last)]) (fun x=> [(0,Nv L x.a),(1, .rows 3 1 (x.sq.map enN)),(2, .rows 63 10 (x.out.map wX))]) (EI L) (fun x=>60-x.out.length) [(2, .nil)] [] ⟨[],0,0,[0,0,0], -1⟩ aag (fun _=>rfl) rfl ⟨aH _,⟨aH _,(fun _ h=>by cases h),List.Pairwise.nil⟩,aH _,(fun _ h=>by cases h),rfl,abb,by constructor<;>(dsimp only;omega)⟩ ⟨aam,aam,rfl,trivial⟩ ⟨trivial,rfl,rfl,trivial⟩ ?_
 rintro⟨out,p,tm,sq,last⟩ hJ
 obtain⟨hp,hP,htm,hle,hsl,hsb,hlast⟩:=id hJ
 dsimp only at hp hP htm hle hsl hsb hlast
 have hol:=hP.len
 refine vw [0] [] aag (ajN L p) rfl aam aam rfl ?_
 apply lH<;>intro h
 rotate_left
 ·exact nI (.own 0) 1 _ [(0, .lab 2)] [] ⟨out,hP,rfl,rfl,rfl⟩ rfl aam aam
 apply lH<;>intro h
 rotate_left
 ·exact nI (.own 0) 1 _ [(0, .lab 2)] [] ⟨out,hP,rfl,rfl,rfl⟩ rfl aam aam
 have hlt:out.length<60:=aaG
 refine vw [0] [] aag (Dl L p 4 aaw aaw aai hp) rfl aam aam rfl ?_
 conv=>whnf
 have hv1:=zG L p 4 aaw
 have hp1:=xk (L:=L) hp
 generalize I9 L p 4=v1 at *
 generalize Ja L p=p1 at *
 refine vw [0] [] aag (Dl L p1 3 aaw aaw aai hp1) rfl aam aam rfl ?_
 conv=>whnf
 have hv2:=zG L p1 3 aaw
 have hp2:=xk (L:=L) hp1
 generalize I9 L p1 3=v2 at *
 generalize Ja L p1=p2 at *
 obtain⟨sv,hsv,yU⟩ : ∃sv,sq[v2]? = some sv∧sv<=out.length:=⟨_,ah aai,hsb _ (aV _)⟩
 obtain⟨cl,hcl,hcm⟩ : ∃cl,Wp[v2]? = some cl∧cl∈Wp:=⟨_,ah hv2,aV _⟩
 have hv3:=zG L p2 6 aaw
 have hid:mP Tryz.prog GS 34 [iv (I9 L p2 6)] 0 [] (Is (tv (qZ (I9 L p2 6)))):=mP.up (SV _ aai) GS
 refine lH (fun hq=> ?_) (fun hq=> ?_)
 ·refine lH (fun hc=> ?_) (fun hc=> ?_)
  ·refine lN.i64 aaI ?_
   refine mJ.mk' v2 rfl aeZ ?_
   refine mQ.lU hsv ?_
   refine lN.i64 aai ?_
   refine mJ.mk' v2 rfl aeZ ?_
   refine mQ.lU hsv ?_
   refine LM yS [0] [(10,10),(44,56)] 4 [(10, .ptr 3 0)] [(0,Nv L (Ja L p2)),(1, .rows 3 1 (((sq.map enN).set v2 (enN (sv+1))))),(2, .rows 63 10 (out.map wX)),(3, .var 63 [tv cl,iv ((sv:Int)+1),iv 0,iv ((tm:Int)+1),tv (qZ (I9 L p2 6)),tv [],tv [],iv 0,iv 0,iv 0])] aag aag ?_ ?_
   ·conv=>whnf
    repeat' (first
     | (refine And.intro ?_ ?_<;>(conv=>whnf))
     | (refine mJ.mk' v2 rfl hv2 ?_;conv=>whnf)
     | (refine mQ.lU (enc:=Ie) (xs:=Wp) hcl ?_;conv=>whnf)
     | (refine mJ.mk' v2 rfl ajU ?_;conv=>whnf)
     | (refine mQ.set aeZ ?_;conv=>whnf)
     | (refine mX [0] [] aag (Dl L p2 6 aaw aaw aai hp2) rfl aam aam ?_;rintro _ _ _ ⟨rfl,rfl,rfl⟩;refine⟨rfl, ?_⟩;conv=>whnf)
     | ((refine lM [] aag (hid) rfl ?_ ?_;(focus (trivial;done));(conv=>whnf))))
    all_goals first
     | (refine Hq [(3, .lab 3)] [] ?_ ?_ ?_;(focus rfl);(focus trivial);(focus trivial);done)
     | (refine Hq [(3, .lab 4)] [] ?_ ?_ ?_;(focus rfl);(focus trivial);(focus trivial);done)
     | (refine Hq [(3, .lab 5)] [] ?_ ?_ ?_;(focus rfl);(focus trivial);(focus trivial);done)
   have hp3:=xk (L:=L) hp2
   generalize I9 L p2 6=v3 at *
   generalize Ja L p2=p3 at *
   refine vw [0] [] aag (Dl L p3 8 aaw aaw aai hp3) rfl aam aam rfl ?_
   conv=>whnf
   have hv4:=zG L p3 8 aaw
   have Qc:=xk (L:=L) hp3
   generalize I9 L p3 8=v4 at *
   generalize Ja L p3=p4 at *
   rcases(by omega:v4=0∨v4=1∨v4=2∨v4=3∨4<=v4)with rfl|rfl|rfl|rfl|h4
   ·conv=>whnf
    obtain⟨v5,p5,hv5,Au,c5⟩:=wG hL Qc 8 aaw aaw
    obtain⟨v6,p6,hv6,IG,c6⟩:=wG hL Au 10 aaw aaw
    obtain⟨v7,p7,hv7,Qd,c7⟩:=wG hL IG 12 aaw aaw
    obtain⟨v8,p8,hv8,Qe,c8⟩:=wG hL Qd 5 aaw aaw
    obtain⟨xn,hxn⟩ : ∃xn,qN[v5/7]? = some xn:=⟨_,ah aeA⟩
    have hxe:xn=qN.getD (v5/7) []:=agf
    (refine lX yS [0,3] aag ?_;conv=>whnf)
    refine qc [] aag (zH) aam ?_
    conv=>whnf
    repeat' (first
     | (refine And.intro ?_ ?_<;>(conv=>whnf))
     | (refine mX [0] [] aag c5 rfl ?_ ?_ ?_;(focus (trivial;done));(focus (trivial;done));rintro _ _ _ ⟨rfl,rfl,rfl⟩;refine⟨rfl, ?_⟩;conv=>whnf)
     | (refine mX [0] [] aag c6 rfl ?_ ?_ ?_;(focus (trivial;done));(focus (trivial;done));rintro _ _ _ ⟨rfl,rfl,rfl⟩;refine⟨rfl, ?_⟩;conv=>whnf)
     | (refine mX [0] [] aag c7 rfl ?_ ?_ ?_;(focus (trivial;done));(focus (trivial;done));rintro _ _ _ ⟨rfl,rfl,rfl⟩;refine⟨rfl, ?_⟩;conv=>whnf)
     | (refine mX [0] [] aag c8 rfl ?_ ?_ ?_;(focus (trivial;done));(focus (trivial;done));rintro _ _ _ ⟨rfl,rfl,rfl⟩;refine⟨rfl, ?_⟩;conv=>whnf)
     | (refine lW.mk aaw ?_;conv=>whnf)
     | (refine mJ.mk' (v5/7) rfl ad9 ?_;conv=>whnf)
     | (refine mQ.lU hxn ?_;conv=>whnf)
     | (refine lN.div v5 7 aai ?_;conv=>whnf)
     | (refine lN.div v7 11 aai ?_;conv=>whnf)
     | (refine lN.div v8 4 aai ?_;conv=>whnf)
     | (refine lN.to (y:=((1+v6%9%2:Nat):Int)) ?_ ?_;(focus (rw [show (1:Int)+((v6:Int).tmod 9).tmod 2=((1+v6%9%2:Nat):Int)from rfl];exact IntWalk.i64_in _ aai));conv=>whnf)
     | (refine lN.i64 ?_ ?_;(focus omega);conv=>whnf))
    refine lW.mk (nG aaL aag) ?_
    exact lK ⟨out++ [⟨cl,(sv:Int)+1,1,(tm:Int)+1,qZ v3,xn,[],1+((v8/4:Nat):Int),((1+v6%9%2:Nat):Int)+((v7/11:Nat):Int),0⟩],p8,tm+1,sq.set v2 (sv+1),v2⟩ [(2, .lab 6)] [] rfl aaK (hJ.next hlt Qe aai hv2 yU rfl ⟨hcm,⟨v3,hv3,rfl⟩,aaI,aaI, .inl ⟨rfl,⟨v5/7,by omega,hxe⟩,rfl,aaI,aaI,rfl⟩⟩) ⟨aam,⟨rfl,rfl,dF.symm⟩,⟨rfl,rfl,ql out ⟨cl,(sv:Int)+1,1,(tm:Int)+1,qZ v3,xn,[],1+((v8/4:Nat):Int),((1+v6%9%2:Nat):Int)+((v7/11:Nat):Int),0⟩⟩,trivial⟩ ⟨rfl,rfl,rfl,trivial⟩
   ·conv=>whnf
    obtain⟨v5,p5,hv5,Au,c5⟩:=wG hL Qc 8 aaw aaw
    obtain⟨v6,p6,hv6,IG,c6⟩:=wG hL Au 10 aaw aaw
    obtain⟨v7,p7,hv7,Qd,c7⟩:=wG hL IG 12 aaw aaw
    obtain⟨v8,p8,hv8,Qe,c8⟩:=wG hL Qd 5 aaw aaw
    obtain⟨xn,hxn⟩ : ∃xn,qN[v5/7]? = some xn:=⟨_,ah aeA⟩
    have hxe:xn=qN.getD (v5/7) []:=agf
    (refine lX yS [0,3] aag ?_;conv=>whnf)
    refine qc [] aag (zH) aam ?_
    conv=>whnf
    repeat' (first
     | (refine And.intro ?_ ?_<;>(conv=>whnf))
     | (refine mX [0] [] aag c5 rfl ?_ ?_ ?_;(focus (trivial;done));(focus (trivial;done));rintro _ _ _ ⟨rfl,rfl,rfl⟩;refine⟨rfl, ?_⟩;conv=>whnf)
     | (refine mX [0] [] aag c6 rfl ?_ ?_ ?_;(focus (trivial;done));(focus (trivial;done));rintro _ _ _ ⟨rfl,rfl,rfl⟩;refine⟨rfl, ?_⟩;conv=>whnf)
     | (refine mX [0] [] aag c7 rfl ?_ ?_ ?_;(focus (trivial;done));(focus (trivial;done));rintro _ _ _ ⟨rfl,rfl,rfl⟩;refine⟨rfl, ?_⟩;conv=>whnf)
     | (refine mX [0] [] aag c8 rfl ?_ ?_ ?_;(focus (trivial;done));(focus (trivial;done));rintro _ _ _ ⟨rfl,rfl,rfl⟩;refine⟨rfl, ?_⟩;conv=>whnf)
     | (refine lW.mk aaw ?_;conv=>whnf)
     | (refine mJ.mk' (v5/7) rfl ad9 ?_;conv=>whnf)
     | (refine mQ.lU hxn ?_;conv=>whnf)
     | (refine lN.div v5 7 aai ?_;conv=>whnf)
     | (refine lN.div v7 11 aai ?_;conv=>whnf)
     | (refine lN.div v8 4 aai ?_;conv=>whnf)
     | (refine lN.to (y:=((1+v6%9%2:Nat):Int)) ?_ ?_;(focus (rw [show (1:Int)+((v6:Int).tmod 9).tmod 2=((1+v6%9%2:Nat):Int)from rfl];exact IntWalk.i64_in _ aai));conv=>whnf)
     | (refine lN.i64 ?_ ?_;(focus omega);conv=>whnf))
    refine lW.mk (nG aaL aag) ?_
    exact lK ⟨out++ [⟨cl,(sv:Int)+1,1,(tm:Int)+1,qZ v3,xn,[],1+((v8/4:Nat):Int),((1+v6%9%2:Nat):Int)+((v7/11:Nat):Int),0⟩],p8,tm+1,sq.set v2 (sv+1),v2⟩ [(2, .lab 6)] [] rfl aaK (hJ.next hlt Qe aai hv2 yU rfl ⟨hcm,⟨v3,hv3,rfl⟩,aaI,aaI, .inl ⟨rfl,⟨v5/7,by omega,hxe⟩,rfl,aaI,aaI,rfl⟩⟩) ⟨aam,⟨rfl,rfl,dF.symm⟩,⟨rfl,rfl,ql out ⟨cl,(sv:Int)+1,1,(tm:Int)+1,qZ v3,xn,[],1+((v8/4:Nat):Int),((1+v6%9%2:Nat):Int)+((v7/11:Nat):Int),0⟩⟩,trivial⟩ ⟨rfl,rfl,rfl,trivial⟩
   ·conv=>whnf
    obtain⟨v5,p5,hv5,Au,c5⟩:=wG hL Qc 8 aaw aaw
    obtain⟨v6,p6,hv6,IG,c6⟩:=wG hL Au 10 aaw aaw
    obtain⟨v7,p7,hv7,Qd,c7⟩:=wG hL IG 12 aaw aaw
    obtain⟨v8,p8,hv8,Qe,c8⟩:=wG hL Qd 5 aaw aaw
    obtain⟨xn,hxn⟩ : ∃xn,qN[v5/7]? = some xn:=⟨_,ah aeA⟩
    have hxe:xn=qN.getD (v5/7) []:=agf
    (refine lX yS [0,3] aag ?_;conv=>whnf)
    refine qc [] aag (zH) aam ?_
    conv=>whnf
    repeat' (first
     | (refine And.intro ?_ ?_<;>(conv=>whnf))
     | (refine mX [0] [] aag c5 rfl ?_ ?_ ?_;(focus (trivial;done));(focus (trivial;done));rintro _ _ _ ⟨rfl,rfl,rfl⟩;refine⟨rfl, ?_⟩;conv=>whnf)
     | (refine mX [0] [] aag c6 rfl ?_ ?_ ?_;(focus (trivial;done));(focus (trivial;done));rintro _ _ _ ⟨rfl,rfl,rfl⟩;refine⟨rfl, ?_⟩;conv=>whnf)
     | (refine mX [0] [] aag c7 rfl ?_ ?_ ?_;(focus (trivial;done));(focus (trivial;done));rintro _ _ _ ⟨rfl,rfl,rfl⟩;refine⟨rfl, ?_⟩;conv=>whnf)
     | (refine mX [0] [] aag c8 rfl ?_ ?_ ?_;(focus (trivial;done));(focus (trivial;done));rintro _ _ _ ⟨rfl,rfl,rfl⟩;refine⟨rfl, ?_⟩;conv=>whnf)
     | (refine lW.mk aaw ?_;conv=>whnf)
     | (refine mJ.mk' (v5/7) rfl ad9 ?_;conv=>whnf)
     | (refine mQ.lU hxn ?_;conv=>whnf)
     | (refine lN.div v5 7 aai ?_;conv=>whnf)
     | (refine lN.div v7 11 aai ?_;conv=>whnf)
     | (refine lN.div v8 4 aai ?_;conv=>whnf)
     | (refine lN.to (y:=((1+v6%9%2:Nat):Int)) ?_ ?_;(focus (rw [show (1:Int)+((v6:Int).tmod 9).tmod 2=((1+v6%9%2:Nat):Int)from rfl];exact IntWalk.i64_in _ aai));conv=>whnf)
     | (refine lN.i64 ?_ ?_;(focus omega);conv=>whnf))
    refine lW.mk (nG aaL aag) ?_
    exact lK ⟨out++ [⟨cl,(sv:Int)+1,1,(tm:Int)+1,qZ v3,xn,[],1+((v8/4:Nat):Int),((1+v6%9%2:Nat):Int)+((v7/11:Nat):Int),0⟩],p8,tm+1,sq.set v2 (sv+1),v2⟩ [(2, .lab 6)] [] rfl aaK (hJ.next hlt Qe aai hv2 yU rfl ⟨hcm,⟨v3,hv3,rfl⟩,aaI,aaI, .inl ⟨rfl,⟨v5/7,by omega,hxe⟩,rfl,aaI,aaI,rfl⟩⟩) ⟨aam,⟨rfl,rfl,dF.symm⟩,⟨rfl,rfl,ql out ⟨cl,(sv:Int)+1,1,(tm:Int)+1,qZ v3,xn,[],1+((v8/4:Nat):Int),((1+v6%9%2:Nat):Int)+((v7/11:Nat):Int),0⟩⟩,trivial⟩ ⟨rfl,rfl,rfl,trivial⟩
   ·conv=>whnf
    obtain⟨v5,p5,hv5,Au,c5⟩:=wG hL Qc 6 aaw aaw
    refine mX [0] [] aag c5 rfl ?_ ?_ ?_;(focus (trivial;done));(focus (trivial;done));rintro _ _ _ ⟨rfl,rfl,rfl⟩;refine⟨rfl, ?_⟩;conv=>whnf
    (refine lX yS [] aag ?_;conv=>whnf)
    have hi5:mP Tryz.prog GS 34 [iv v5] 0 [] (Is (tv (qZ v5))):=mP.up (SV _ aai) GS
    have hi6:mP Tryz.prog GS 34 [iv ((v5:Int)+1)] 0 [] (Is (tv (qZ (v5+1)))):=mP.up (SV (v5+1) aai) GS
    (refine lM [] aag (hi5) rfl ?_ ?_;(focus (trivial;done));(conv=>whnf))
    apply lH<;>intro h
    ·refine lN.i64 aai ?_
     (refine lM [] aag (hi6) rfl ?_ ?_;(focus (trivial;done));(conv=>whnf))
     refine lW.mk (nG aaL aag) ?_
     exact lK ⟨out++ [⟨cl,(sv:Int)+1,3,(tm:Int)+1,qZ v3,[],qZ (v5+1),0,0,0⟩],p5,tm+1,sq.set v2 (sv+1),v2⟩ [(2, .lab 5)] [] rfl aaK (hJ.next hlt Au aai hv2 yU rfl ⟨hcm,⟨v3,hv3,rfl⟩,aaI,aaI, .inr (.inr ⟨rfl,rfl,⟨v5+1,by omega,rfl⟩,MS hv5 hv3 h,rfl,rfl,rfl⟩)⟩) ⟨aam,⟨rfl,rfl,dF.symm⟩,⟨rfl,rfl,ql out ⟨cl,(sv:Int)+1,3,(tm:Int)+1,qZ v3,[],qZ (v5+1),0,0,0⟩⟩,trivial⟩ ⟨rfl,rfl,rfl,trivial⟩
    ·(refine lM [] aag (hi5) rfl ?_ ?_;(focus (trivial;done));(conv=>whnf))
     refine lW.mk (nG aaL aag) ?_
     exact lK ⟨out++ [⟨cl,(sv:Int)+1,3,(tm:Int)+1,qZ v3,[],qZ v5,0,0,0⟩],p5,tm+1,sq.set v2 (sv+1),v2⟩ [(2, .lab 5)] [] rfl aaK (hJ.next hlt Au aai hv2 yU rfl ⟨hcm,⟨v3,hv3,rfl⟩,aaI,aaI, .inr (.inr ⟨rfl,rfl,⟨v5,by omega,rfl⟩,MR h,rfl,rfl,rfl⟩)⟩) ⟨aam,⟨rfl,rfl,dF.symm⟩,⟨rfl,rfl,ql out ⟨cl,(sv:Int)+1,3,(tm:Int)+1,qZ v3,[],qZ v5,0,0,0⟩⟩,trivial⟩ ⟨rfl,rfl,rfl,trivial⟩
   ·repeat' (refine zL (beq_eq_false_iff_ne.2 aai) ?_;conv=>whnf)
    obtain⟨v5,p5,hv5,Au,c5⟩:=wG hL Qc 3 aaw aaw
    obtain⟨v6,p6,hv6,IG,c6⟩:=wG hL Au 40 aaw aaw
    obtain⟨xn,hxn⟩ : ∃xn,wu[v5/2]? = some xn:=⟨_,ah ajh⟩
    have hxe:xn=wu.getD (v5/2) []:=agf
    (refine lX yS [0,3] aag ?_;conv=>whnf)
    refine qc [] aag (Qb) aam ?_
    conv=>whnf
    repeat' (first
     | (refine And.intro ?_ ?_<;>(conv=>whnf))
     | (refine mX [0] [] aag c5 rfl ?_ ?_ ?_;(focus (trivial;done));(focus (trivial;done));rintro _ _ _ ⟨rfl,rfl,rfl⟩;refine⟨rfl, ?_⟩;conv=>whnf)
     | (refine mX [0] [] aag c6 rfl ?_ ?_ ?_;(focus (trivial;done));(focus (trivial;done));rintro _ _ _ ⟨rfl,rfl,rfl⟩;refine⟨rfl, ?_⟩;conv=>whnf)
     | (refine lW.mk aaw ?_;conv=>whnf)
     | (refine mJ.mk' (v5/2) rfl ah7 ?_;conv=>whnf)
     | (refine mQ.lU hxn ?_;conv=>whnf)
     | (refine lN.div v5 2 aai ?_;conv=>whnf)
     | (refine lN.i64 ?_ ?_;(focus omega);conv=>whnf))
    refine lW.mk (nG aaL aag) ?_
    exact lK ⟨out++ [⟨cl,(sv:Int)+1,2,(tm:Int)+1,qZ v3,xn,[],0,0,(v6:Int)-4⟩],p6,tm+1,sq.set v2 (sv+1),v2⟩ [(2, .lab 6)] [] rfl aaK (hJ.next hlt IG aai hv2 yU rfl ⟨hcm,⟨v3,hv3,rfl⟩,aaI,aaI, .inr (.inl ⟨rfl,⟨v5/2,by omega,hxe⟩,rfl,rfl,rfl,aaI⟩)⟩) ⟨aam,⟨rfl,rfl,dF.symm⟩,⟨rfl,rfl,ql out ⟨cl,(sv:Int)+1,2,(tm:Int)+1,qZ v3,xn,[],0,0,(v6:Int)-4⟩⟩,trivial⟩ ⟨rfl,rfl,rfl,trivial⟩
  ·refine lN.i64 aaI ?_
   refine mJ.mk' v2 rfl aeZ ?_
   refine mQ.lU hsv ?_
   refine lN.i64 aai ?_
   refine mJ.mk' v2 rfl aeZ ?_
   refine mQ.lU hsv ?_
   refine LM yS [0] [(10,10),(44,56)] 4 [(10, .ptr 3 0)] [(0,Nv L (Ja L p2)),(1, .rows 3 1 (((sq.map enN).set v2 (enN (sv+1))))),(2, .rows 63 10 (out.map wX)),(3, .var 63 [tv cl,iv ((sv:Int)+1),iv 0,iv ((tm:Int)+v1),tv (qZ (I9 L p2 6)),tv [],tv [],iv 0,iv 0,iv 0])] aag aag ?_ ?_
   ·conv=>whnf
    repeat' (first
     | (refine And.intro ?_ ?_<;>(conv=>whnf))
     | (refine mJ.mk' v2 rfl hv2 ?_;conv=>whnf)
     | (refine mQ.lU (enc:=Ie) (xs:=Wp) hcl ?_;conv=>whnf)
     | (refine mJ.mk' v2 rfl ajU ?_;conv=>whnf)
     | (refine mQ.set aeZ ?_;conv=>whnf)
     | (refine mX [0] [] aag (Dl L p2 6 aaw aaw aai hp2) rfl aam aam ?_;rintro _ _ _ ⟨rfl,rfl,rfl⟩;refine⟨rfl, ?_⟩;conv=>whnf)
     | ((refine lM [] aag (hid) rfl ?_ ?_;(focus (trivial;done));(conv=>whnf))))
    all_goals first
     | (refine Hq [(3, .lab 3)] [] ?_ ?_ ?_;(focus rfl);(focus trivial);(focus trivial);done)
     | (refine Hq [(3, .lab 4)] [] ?_ ?_ ?_;(focus rfl);(focus trivial);(focus trivial);done)
     | (refine Hq [(3, .lab 5)] [] ?_ ?_ ?_;(focus rfl);(focus trivial);(focus trivial);done)
   have hp3:=xk (L:=L) hp2
   generalize I9 L p2 6=v3 at *
   generalize Ja L p2=p3 at *
   refine vw [0] [] aag (Dl L p3 8 aaw aaw aai hp3) rfl aam aam rfl ?_
   conv=>whnf
   have hv4:=zG L p3 8 aaw
   have Qc:=xk (L:=L) hp3
   generalize I9 L p3 8=v4 at *
   generalize Ja L p3=p4 at *
   rcases(by omega:v4=0∨v4=1∨v4=2∨v4=3∨4<=v4)with rfl|rfl|rfl|rfl|h4
   ·conv=>whnf
    obtain⟨v5,p5,hv5,Au,c5⟩:=wG hL Qc 8 aaw aaw
    obtain⟨v6,p6,hv6,IG,c6⟩:=wG hL Au 10 aaw aaw
    obtain⟨v7,p7,hv7,Qd,c7⟩:=wG hL IG 12 aaw aaw
    obtain⟨v8,p8,hv8,Qe,c8⟩:=wG hL Qd 5 aaw aaw
    obtain⟨xn,hxn⟩ : ∃xn,qN[v5/7]? = some xn:=⟨_,ah aeA⟩
    have hxe:xn=qN.getD (v5/7) []:=agf
    (refine lX yS [0,3] aag ?_;conv=>whnf)
    refine qc [] aag (zH) aam ?_
    conv=>whnf
    repeat' (first
     | (refine And.intro ?_ ?_<;>(conv=>whnf))
     | (refine mX [0] [] aag c5 rfl ?_ ?_ ?_;(focus (trivial;done));(focus (trivial;done));rintro _ _ _ ⟨rfl,rfl,rfl⟩;refine⟨rfl, ?_⟩;conv=>whnf)
     | (refine mX [0] [] aag c6 rfl ?_ ?_ ?_;(focus (trivial;done));(focus (trivial;done));rintro _ _ _ ⟨rfl,rfl,rfl⟩;refine⟨rfl, ?_⟩;conv=>whnf)
     | (refine mX [0] [] aag c7 rfl ?_ ?_ ?_;(focus (trivial;done));(focus (trivial;done));rintro _ _ _ ⟨rfl,rfl,rfl⟩;refine⟨rfl, ?_⟩;conv=>whnf)
     | (refine mX [0] [] aag c8 rfl ?_ ?_ ?_;(focus (trivial;done));(focus (trivial;done));rintro _ _ _ ⟨rfl,rfl,rfl⟩;refine⟨rfl, ?_⟩;conv=>whnf)
     | (refine lW.mk aaw ?_;conv=>whnf)
     | (refine mJ.mk' (v5/7) rfl ad9 ?_;conv=>whnf)
     | (refine mQ.lU hxn ?_;conv=>whnf)
     | (refine lN.div v5 7 aai ?_;conv=>whnf)
     | (refine lN.div v7 11 aai ?_;conv=>whnf)
     | (refine lN.div v8 4 aai ?_;conv=>whnf)
     | (refine lN.to (y:=((1+v6%9%2:Nat):Int)) ?_ ?_;(focus (rw [show (1:Int)+((v6:Int).tmod 9).tmod 2=((1+v6%9%2:Nat):Int)from rfl];exact IntWalk.i64_in _ aai));conv=>whnf)
     | (refine lN.i64 ?_ ?_;(focus omega);conv=>whnf))
    refine lW.mk (nG aaL aag) ?_
    exact lK ⟨out++ [⟨cl,(sv:Int)+1,1,(tm:Int)+v1,qZ v3,xn,[],1+((v8/4:Nat):Int),((1+v6%9%2:Nat):Int)+((v7/11:Nat):Int),0⟩],p8,tm+v1,sq.set v2 (sv+1),v2⟩ [(2, .lab 6)] [] rfl aaK (hJ.next hlt Qe aai hv2 yU rfl ⟨hcm,⟨v3,hv3,rfl⟩,aaI,aaI, .inl ⟨rfl,⟨v5/7,by omega,hxe⟩,rfl,aaI,aaI,rfl⟩⟩) ⟨aam,⟨rfl,rfl,dF.symm⟩,⟨rfl,rfl,ql out ⟨cl,(sv:Int)+1,1,(tm:Int)+v1,qZ v3,xn,[],1+((v8/4:Nat):Int),((1+v6%9%2:Nat):Int)+((v7/11:Nat):Int),0⟩⟩,trivial⟩ ⟨rfl,rfl,rfl,trivial⟩
   ·conv=>whnf
    obtain⟨v5,p5,hv5,Au,c5⟩:=wG hL Qc 8 aaw aaw
    obtain⟨v6,p6,hv6,IG,c6⟩:=wG hL Au 10 aaw aaw
    obtain⟨v7,p7,hv7,Qd,c7⟩:=wG hL IG 12 aaw aaw
    obtain⟨v8,p8,hv8,Qe,c8⟩:=wG hL Qd 5 aaw aaw
    obtain⟨xn,hxn⟩ : ∃xn,qN[v5/7]? = some xn:=⟨_,ah aeA⟩
    have hxe:xn=qN.getD (v5/7) []:=agf
    (refine lX yS [0,3] aag ?_;conv=>whnf)
    refine qc [] aag (zH) aam ?_
    conv=>whnf
    repeat' (first
     | (refine And.intro ?_ ?_<;>(conv=>whnf))
     | (refine mX [0] [] aag c5 rfl ?_ ?_ ?_;(focus (trivial;done));(focus (trivial;done));rintro _ _ _ ⟨rfl,rfl,rfl⟩;refine⟨rfl, ?_⟩;conv=>whnf)
     | (refine mX [0] [] aag c6 rfl ?_ ?_ ?_;(focus (trivial;done));(focus (trivial;done));rintro _ _ _ ⟨rfl,rfl,rfl⟩;refine⟨rfl, ?_⟩;conv=>whnf)
     | (refine mX [0] [] aag c7 rfl ?_ ?_ ?_;(focus (trivial;done));(focus (trivial;done));rintro _ _ _ ⟨rfl,rfl,rfl⟩;refine⟨rfl, ?_⟩;conv=>whnf)
     | (refine mX [0] [] aag c8 rfl ?_ ?_ ?_;(focus (trivial;done));(focus (trivial;done));rintro _ _ _ ⟨rfl,rfl,rfl⟩;refine⟨rfl, ?_⟩;conv=>whnf)
     | (refine lW.mk aaw ?_;conv=>whnf)
     | (refine mJ.mk' (v5/7) rfl ad9 ?_;conv=>whnf)
     | (refine mQ.lU hxn ?_;conv=>whnf)
     | (refine lN.div v5 7 aai ?_;conv=>whnf)
     | (refine lN.div v7 11 aai ?_;conv=>whnf)
     | (refine lN.div v8 4 aai ?_;conv=>whnf)
     | (refine lN.to (y:=((1+v6%9%2:Nat):Int)) ?_ ?_;(focus (rw [show (1:Int)+((v6:Int).tmod 9).tmod 2=((1+v6%9%2:Nat):Int)from rfl];exact IntWalk.i64_in _ aai));conv=>whnf)
     | (refine lN.i64 ?_ ?_;(focus omega);conv=>whnf))
    refine lW.mk (nG aaL aag) ?_
    exact lK ⟨out++ [⟨cl,(sv:Int)+1,1,(tm:Int)+v1,qZ v3,xn,[],1+((v8/4:Nat):Int),((1+v6%9%2:Nat):Int)+((v7/11:Nat):Int),0⟩],p8,tm+v1,sq.set v2 (sv+1),v2⟩ [(2, .lab 6)] [] rfl aaK (hJ.next hlt Qe aai hv2 yU rfl ⟨hcm,⟨v3,hv3,rfl⟩,aaI,aaI, .inl ⟨rfl,⟨v5/7,by omega,hxe⟩,rfl,aaI,aaI,rfl⟩⟩) ⟨aam,⟨rfl,rfl,dF.symm⟩,⟨rfl,rfl,ql out ⟨cl,(sv:Int)+1,1,(tm:Int)+v1,qZ v3,xn,[],1+((v8/4:Nat):Int),((1+v6%9%2:Nat):Int)+((v7/11:Nat):Int),0⟩⟩,trivial⟩ ⟨rfl,rfl,rfl,trivial⟩
   ·conv=>whnf
    obtain⟨v5,p5,hv5,Au,c5⟩:=wG hL Qc 8 aaw aaw
    obtain⟨v6,p6,hv6,IG,c6⟩:=wG hL Au 10 aaw aaw
    obtain⟨v7,p7,hv7,Qd,c7⟩:=wG hL IG 12 aaw aaw
    obtain⟨v8,p8,hv8,Qe,c8⟩:=wG hL Qd 5 aaw aaw
    obtain⟨xn,hxn⟩ : ∃xn,qN[v5/7]? = some xn:=⟨_,ah aeA⟩
    have hxe:xn=qN.getD (v5/7) []:=agf
    (refine lX yS [0,3] aag ?_;conv=>whnf)
    refine qc [] aag (zH) aam ?_
    conv=>whnf
    repeat' (first
     | (refine And.intro ?_ ?_<;>(conv=>whnf))
     | (refine mX [0] [] aag c5 rfl ?_ ?_ ?_;(focus (trivial;done));(focus (trivial;done));rintro _ _ _ ⟨rfl,rfl,rfl⟩;refine⟨rfl, ?_⟩;conv=>whnf)
     | (refine mX [0] [] aag c6 rfl ?_ ?_ ?_;(focus (trivial;done));(focus (trivial;done));rintro _ _ _ ⟨rfl,rfl,rfl⟩;refine⟨rfl, ?_⟩;conv=>whnf)
     | (refine mX [0] [] aag c7 rfl ?_ ?_ ?_;(focus (trivial;done));(focus (trivial;done));rintro _ _ _ ⟨rfl,rfl,rfl⟩;refine⟨rfl, ?_⟩;conv=>whnf)
     | (refine mX [0] [] aag c8 rfl ?_ ?_ ?_;(focus (trivial;done));(focus (trivial;done));rintro _ _ _ ⟨rfl,rfl,rfl⟩;refine⟨rfl, ?_⟩;conv=>whnf)
     | (refine lW.mk aaw ?_;conv=>whnf)
     | (refine mJ.mk' (v5/7) rfl ad9 ?_;conv=>whnf)
     | (refine mQ.lU hxn ?_;conv=>whnf)
     | (refine lN.div v5 7 aai ?_;conv=>whnf)
     | (refine lN.div v7 11 aai ?_;conv=>whnf)
     | (refine lN.div v8 4 aai ?_;conv=>whnf)
     | (refine lN.to (y:=((1+v6%9%2:Nat):Int)) ?_ ?_;(focus (rw [show (1:Int)+((v6:Int).tmod 9).tmod 2=((1+v6%9%2:Nat):Int)from rfl];exact IntWalk.i64_in _ aai));conv=>whnf)
     | (refine lN.i64 ?_ ?_;(focus omega);conv=>whnf))
    refine lW.mk (nG aaL aag) ?_
    exact lK ⟨out++ [⟨cl,(sv:Int)+1,1,(tm:Int)+v1,qZ v3,xn,[],1+((v8/4:Nat):Int),((1+v6%9%2:Nat):Int)+((v7/11:Nat):Int),0⟩],p8,tm+v1,sq.set v2 (sv+1),v2⟩ [(2, .lab 6)] [] rfl aaK (hJ.next hlt Qe aai hv2 yU rfl ⟨hcm,⟨v3,hv3,rfl⟩,aaI,aaI, .inl ⟨rfl,⟨v5/7,by omega,hxe⟩,rfl,aaI,aaI,rfl⟩⟩) ⟨aam,⟨rfl,rfl,dF.symm⟩,⟨rfl,rfl,ql out ⟨cl,(sv:Int)+1,1,(tm:Int)+v1,qZ v3,xn,[],1+((v8/4:Nat):Int),((1+v6%9%2:Nat):Int)+((v7/11:Nat):Int),0⟩⟩,trivial⟩ ⟨rfl,rfl,rfl,trivial⟩
   ·conv=>whnf
    obtain⟨v5,p5,hv5,Au,c5⟩:=wG hL Qc 6 aaw aaw
    refine mX [0] [] aag c5 rfl ?_ ?_ ?_;(focus (trivial;done));(focus (trivial;done));rintro _ _ _ ⟨rfl,rfl,rfl⟩;refine⟨rfl, ?_⟩;conv=>whnf
    (refine lX yS [] aag ?_;conv=>whnf)
    have hi5:mP Tryz.prog GS 34 [iv v5] 0 [] (Is (tv (qZ v5))):=mP.up (SV _ aai) GS
    have hi6:mP Tryz.prog GS 34 [iv ((v5:Int)+1)] 0 [] (Is (tv (qZ (v5+1)))):=mP.up (SV (v5+1) aai) GS
    (refine lM [] aag (hi5) rfl ?_ ?_;(focus (trivial;done));(conv=>whnf))
    apply lH<;>intro h
    ·refine lN.i64 aai ?_
     (refine lM [] aag (hi6) rfl ?_ ?_;(focus (trivial;done));(conv=>whnf))
     refine lW.mk (nG aaL aag) ?_
     exact lK ⟨out++ [⟨cl,(sv:Int)+1,3,(tm:Int)+v1,qZ v3,[],qZ (v5+1),0,0,0⟩],p5,tm+v1,sq.set v2 (sv+1),v2⟩ [(2, .lab 5)] [] rfl aaK (hJ.next hlt Au aai hv2 yU rfl ⟨hcm,⟨v3,hv3,rfl⟩,aaI,aaI, .inr (.inr ⟨rfl,rfl,⟨v5+1,by omega,rfl⟩,MS hv5 hv3 h,rfl,rfl,rfl⟩)⟩) ⟨aam,⟨rfl,rfl,dF.symm⟩,⟨rfl,rfl,ql out ⟨cl,(sv:Int)+1,3,(tm:Int)+v1,qZ v3,[],qZ (v5+1),0,0,0⟩⟩,trivial⟩ ⟨rfl,rfl,rfl,trivial⟩
    ·(refine lM [] aag (hi5) rfl ?_ ?_;(focus (trivial;done));(conv=>whnf))
     refine lW.mk (nG aaL aag) ?_
     exact lK ⟨out++ [⟨cl,(sv:Int)+1,3,(tm:Int)+v1,qZ v3,[],qZ v5,0,0,0⟩],p5,tm+v1,sq.set v2 (sv+1),v2⟩ [(2, .lab 5)] [] rfl aaK (hJ.next hlt Au aai hv2 yU rfl ⟨hcm,⟨v3,hv3,rfl⟩,aaI,aaI, .inr (.inr ⟨rfl,rfl,⟨v5,by omega,rfl⟩,MR h,rfl,rfl,rfl⟩)⟩) ⟨aam,⟨rfl,rfl,dF.symm⟩,⟨rfl,rfl,ql out ⟨cl,(sv:Int)+1,3,(tm:Int)+v1,qZ v3,[],qZ v5,0,0,0⟩⟩,trivial⟩ ⟨rfl,rfl,rfl,trivial⟩
   ·repeat' (refine zL (beq_eq_false_iff_ne.2 aai) ?_;conv=>whnf)
    obtain⟨v5,p5,hv5,Au,c5⟩:=wG hL Qc 3 aaw aaw
    obtain⟨v6,p6,hv6,IG,c6⟩:=wG hL Au 40 aaw aaw
    obtain⟨xn,hxn⟩ : ∃xn,wu[v5/2]? = some xn:=⟨_,ah ajh⟩
    have hxe:xn=wu.getD (v5/2) []:=agf
    (refine lX yS [0,3] aag ?_;conv=>whnf)
    refine qc [] aag (Qb) aam ?_
    conv=>whnf
    repeat' (first
     | (refine And.intro ?_ ?_<;>(conv=>whnf))
     | (refine mX [0] [] aag c5 rfl ?_ ?_ ?_;(focus (trivial;done));(focus (trivial;done));rintro _ _ _ ⟨rfl,rfl,rfl⟩;refine⟨rfl, ?_⟩;conv=>whnf)
     | (refine mX [0] [] aag c6 rfl ?_ ?_ ?_;(focus (trivial;done));(focus (trivial;done));rintro _ _ _ ⟨rfl,rfl,rfl⟩;refine⟨rfl, ?_⟩;conv=>whnf)
     | (refine lW.mk aaw ?_;conv=>whnf)
     | (refine mJ.mk' (v5/2) rfl ah7 ?_;conv=>whnf)
     | (refine mQ.lU hxn ?_;conv=>whnf)
     | (refine lN.div v5 2 aai ?_;conv=>whnf)
     | (refine lN.i64 ?_ ?_;(focus omega);conv=>whnf))
    refine lW.mk (nG aaL aag) ?_
    exact lK ⟨out++ [⟨cl,(sv:Int)+1,2,(tm:Int)+v1,qZ v3,xn,[],0,0,(v6:Int)-4⟩],p6,tm+v1,sq.set v2 (sv+1),v2⟩ [(2, .lab 6)] [] rfl aaK (hJ.next hlt IG aai hv2 yU rfl ⟨hcm,⟨v3,hv3,rfl⟩,aaI,aaI, .inr (.inl ⟨rfl,⟨v5/2,by omega,hxe⟩,rfl,rfl,rfl,aaI⟩)⟩) ⟨aam,⟨rfl,rfl,dF.symm⟩,⟨rfl,rfl,ql out ⟨cl,(sv:Int)+1,2,(tm:Int)+v1,qZ v3,xn,[],0,0,(v6:Int)-4⟩⟩,trivial⟩ ⟨rfl,rfl,rfl,trivial⟩
 ·refine lN.i64 aaI ?_
  refine mJ.mk' v2 rfl aeZ ?_
  refine mQ.lU hsv ?_
  refine lN.i64 aai ?_
  refine mJ.mk' v2 rfl aeZ ?_
  refine mQ.lU hsv ?_
  refine LM yS [0] [(10,10),(44,56)] 4 [(10, .ptr 3 0)] [(0,Nv L (Ja L p2)),(1, .rows 3 1 (((sq.map enN).set v2 (enN (sv+1))))),(2, .rows 63 10 (out.map wX)),(3, .var 63 [tv cl,iv ((sv:Int)+1),iv 0,iv ((tm:Int)+v1),tv (qZ (I9 L p2 6)),tv [],tv [],iv 0,iv 0,iv 0])] aag aag ?_ ?_
  ·conv=>whnf
   repeat' (first
    | (refine And.intro ?_ ?_<;>(conv=>whnf))
    | (refine mJ.mk' v2 rfl hv2 ?_;conv=>whnf)
    | (refine mQ.lU (enc:=Ie) (xs:=Wp) hcl ?_;conv=>whnf)
    | (refine mJ.mk' v2 rfl ajU ?_;conv=>whnf)
    | (refine mQ.set aeZ ?_;conv=>whnf)
    | (refine mX [0] [] aag (Dl L p2 6 aaw aaw aai hp2) rfl aam aam ?_;rintro _ _ _ ⟨rfl,rfl,rfl⟩;refine⟨rfl, ?_⟩;conv=>whnf)
    | ((refine lM [] aag (hid) rfl ?_ ?_;(focus (trivial;done));(conv=>whnf))))
   all_goals first
    | (refine Hq [(3, .lab 3)] [] ?_ ?_ ?_;(focus rfl);(focus trivial);(focus trivial);done)
    | (refine Hq [(3, .lab 4)] [] ?_ ?_ ?_;(focus rfl);(focus trivial);(focus trivial);done)
    | (refine Hq [(3, .lab 5)] [] ?_ ?_ ?_;(focus rfl);(focus trivial);(focus trivial);done)
  have hp3:=xk (L:=L) hp2
  generalize I9 L p2 6=v3 at *
  generalize Ja L p2=p3 at *
  refine vw [0] [] aag (Dl L p3 8 aaw aaw aai hp3) rfl aam aam rfl ?_
  conv=>whnf
  have hv4:=zG L p3 8 aaw
  have Qc:=xk (L:=L) hp3
  generalize I9 L p3 8=v4 at *
  generalize Ja L p3=p4 at *
  rcases(by omega:v4=0∨v4=1∨v4=2∨v4=3∨4<=v4)with rfl|rfl|rfl|rfl|h4
  ·conv=>whnf
   obtain⟨v5,p5,hv5,Au,c5⟩:=wG hL Qc 8 aaw aaw
   obtain⟨v6,p6,hv6,IG,c6⟩:=wG hL Au 10 aaw aaw
   obtain⟨v7,p7,hv7,Qd,c7⟩:=wG hL IG 12 aaw aaw
   obtain⟨v8,p8,hv8,Qe,c8⟩:=wG hL Qd 5 aaw aaw
   obtain⟨xn,hxn⟩ : ∃xn,qN[v5/7]? = some xn:=⟨_,ah aeA⟩
   have hxe:xn=qN.getD (v5/7) []:=agf
   (refine lX yS [0,3] aag ?_;conv=>whnf)
   refine qc [] aag (zH) aam ?_
   conv=>whnf
   repeat' (first
    | (refine And.intro ?_ ?_<;>(conv=>whnf))
    | (refine mX [0] [] aag c5 rfl ?_ ?_ ?_;(focus (trivial;done));(focus (trivial;done));rintro _ _ _ ⟨rfl,rfl,rfl⟩;refine⟨rfl, ?_⟩;conv=>whnf)
    | (refine mX [0] [] aag c6 rfl ?_ ?_ ?_;(focus (trivial;done));(focus (trivial;done));rintro _ _ _ ⟨rfl,rfl,rfl⟩;refine⟨rfl, ?_⟩;conv=>whnf)
    | (refine mX [0] [] aag c7 rfl ?_ ?_ ?_;(focus (trivial;done));(focus (trivial;done));rintro _ _ _ ⟨rfl,rfl,rfl⟩;refine⟨rfl, ?_⟩;conv=>whnf)
    | (refine mX [0] [] aag c8 rfl ?_ ?_ ?_;(focus (trivial;done));(focus (trivial;done));rintro _ _ _ ⟨rfl,rfl,rfl⟩;refine⟨rfl, ?_⟩;conv=>whnf)
    | (refine lW.mk aaw ?_;conv=>whnf)
    | (refine mJ.mk' (v5/7) rfl ad9 ?_;conv=>whnf)
    | (refine mQ.lU hxn ?_;conv=>whnf)
    | (refine lN.div v5 7 aai ?_;conv=>whnf)
    | (refine lN.div v7 11 aai ?_;conv=>whnf)
    | (refine lN.div v8 4 aai ?_;conv=>whnf)
    | (refine lN.to (y:=((1+v6%9%2:Nat):Int)) ?_ ?_;(focus (rw [show (1:Int)+((v6:Int).tmod 9).tmod 2=((1+v6%9%2:Nat):Int)from rfl];exact IntWalk.i64_in _ aai));conv=>whnf)
    | (refine lN.i64 ?_ ?_;(focus omega);conv=>whnf))
   refine lW.mk (nG aaL aag) ?_
   exact lK ⟨out++ [⟨cl,(sv:Int)+1,1,(tm:Int)+v1,qZ v3,xn,[],1+((v8/4:Nat):Int),((1+v6%9%2:Nat):Int)+((v7/11:Nat):Int),0⟩],p8,tm+v1,sq.set v2 (sv+1),v2⟩ [(2, .lab 6)] [] rfl aaK (hJ.next hlt Qe aai hv2 yU rfl ⟨hcm,⟨v3,hv3,rfl⟩,aaI,aaI, .inl ⟨rfl,⟨v5/7,by omega,hxe⟩,rfl,aaI,aaI,rfl⟩⟩) ⟨aam,⟨rfl,rfl,dF.symm⟩,⟨rfl,rfl,ql out ⟨cl,(sv:Int)+1,1,(tm:Int)+v1,qZ v3,xn,[],1+((v8/4:Nat):Int),((1+v6%9%2:Nat):Int)+((v7/11:Nat):Int),0⟩⟩,trivial⟩ ⟨rfl,rfl,rfl,trivial⟩
  ·conv=>whnf
   obtain⟨v5,p5,hv5,Au,c5⟩:=wG hL Qc 8 aaw aaw
   obtain⟨v6,p6,hv6,IG,c6⟩:=wG hL Au 10 aaw aaw
   obtain⟨v7,p7,hv7,Qd,c7⟩:=wG hL IG 12 aaw aaw
   obtain⟨v8,p8,hv8,Qe,c8⟩:=wG hL Qd 5 aaw aaw
   obtain⟨xn,hxn⟩ : ∃xn,qN[v5/7]? = some xn:=⟨_,ah aeA⟩
   have hxe:xn=qN.getD (v5/7) []:=agf
   (refine lX yS [0,3] aag ?_;conv=>whnf)
   refine qc [] aag (zH) aam ?_
   conv=>whnf
   repeat' (first
    | (refine And.intro ?_ ?_<;>(conv=>whnf))
    | (refine mX [0] [] aag c5 rfl ?_ ?_ ?_;(focus (trivial;done));(focus (trivial;done));rintro _ _ _ ⟨rfl,rfl,rfl⟩;refine⟨rfl, ?_⟩;conv=>whnf)
    | (refine mX [0] [] aag c6 rfl ?_ ?_ ?_;(focus (trivial;done));(focus (trivial;done));rintro _ _ _ ⟨rfl,rfl,rfl⟩;refine⟨rfl, ?_⟩;conv=>whnf)
    | (refine mX [0] [] aag c7 rfl ?_ ?_ ?_;(focus (trivial;done));(focus (trivial;done));rintro _ _ _ ⟨rfl,rfl,rfl⟩;refine⟨rfl, ?_⟩;conv=>whnf)
    | (refine mX [0] [] aag c8 rfl ?_ ?_ ?_;(focus (trivial;done));(focus (trivial;done));rintro _ _ _ ⟨rfl,rfl,rfl⟩;refine⟨rfl, ?_⟩;conv=>whnf)
    | (refine lW.mk aaw ?_;conv=>whnf)
    | (refine mJ.mk' (v5/7) rfl ad9 ?_;conv=>whnf)
    | (refine mQ.lU hxn ?_;conv=>whnf)
    | (refine lN.div v5 7 aai ?_;conv=>whnf)
    | (refine lN.div v7 11 aai ?_;conv=>whnf)
    | (refine lN.div v8 4 aai ?_;conv=>whnf)
    | (refine lN.to (y:=((1+v6%9%2:Nat):Int)) ?_ ?_;(focus (rw [show (1:Int)+((v6:Int).tmod 9).tmod 2=((1+v6%9%2:Nat):Int)from rfl];exact IntWalk.i64_in _ aai));conv=>whnf)
    | (refine lN.i64 ?_ ?_;(focus omega);conv=>whnf))
   refine lW.mk (nG aaL aag) ?_
   exact lK ⟨out++ [⟨cl,(sv:Int)+1,1,(tm:Int)+v1,qZ v3,xn,[],1+((v8/4:Nat):Int),((1+v6%9%2:Nat):Int)+((v7/11:Nat):Int),0⟩],p8,tm+v1,sq.set v2 (sv+1),v2⟩ [(2, .lab 6)] [] rfl aaK (hJ.next hlt Qe aai hv2 yU rfl ⟨hcm,⟨v3,hv3,rfl⟩,aaI,aaI, .inl ⟨rfl,⟨v5/7,by omega,hxe⟩,rfl,aaI,aaI,rfl⟩⟩) ⟨aam,⟨rfl,rfl,dF.symm⟩,⟨rfl,rfl,ql out ⟨cl,(sv:Int)+1,1,(tm:Int)+v1,qZ v3,xn,[],1+((v8/4:Nat):Int),((1+v6%9%2:Nat):Int)+((v7/11:Nat):Int),0⟩⟩,trivial⟩ ⟨rfl,rfl,rfl,trivial⟩
  ·conv=>whnf
   obtain⟨v5,p5,hv5,Au,c5⟩:=wG hL Qc 8 aaw aaw
   obtain⟨v6,p6,hv6,IG,c6⟩:=wG hL Au 10 aaw aaw
   obtain⟨v7,p7,hv7,Qd,c7⟩:=wG hL IG 12 aaw aaw
   obtain⟨v8,p8,hv8,Qe,c8⟩:=wG hL Qd 5 aaw aaw
   obtain⟨xn,hxn⟩ : ∃xn,qN[v5/7]? = some xn:=⟨_,ah aeA⟩
   have hxe:xn=qN.getD (v5/7) []:=agf
   (refine lX yS [0,3] aag ?_;conv=>whnf)
   refine qc [] aag (zH) aam ?_
   conv=>whnf
   repeat' (first
    | (refine And.intro ?_ ?_<;>(conv=>whnf))
    | (refine mX [0] [] aag c5 rfl ?_ ?_ ?_;(focus (trivial;done));(focus (trivial;done));rintro _ _ _ ⟨rfl,rfl,rfl⟩;refine⟨rfl, ?_⟩;conv=>whnf)
    | (refine mX [0] [] aag c6 rfl ?_ ?_ ?_;(focus (trivial;done));(focus (trivial;done));rintro _ _ _ ⟨rfl,rfl,rfl⟩;refine⟨rfl, ?_⟩;conv=>whnf)
    | (refine mX [0] [] aag c7 rfl ?_ ?_ ?_;(focus (trivial;done));(focus (trivial;done));rintro _ _ _ ⟨rfl,rfl,rfl⟩;refine⟨rfl, ?_⟩;conv=>whnf)
    | (refine mX [0] [] aag c8 rfl ?_ ?_ ?_;(focus (trivial;done));(focus (trivial;done));rintro _ _ _ ⟨rfl,rfl,rfl⟩;refine⟨rfl, ?_⟩;conv=>whnf)
    | (refine lW.mk aaw ?_;conv=>whnf)
    | (refine mJ.mk' (v5/7) rfl ad9 ?_;conv=>whnf)
    | (refine mQ.lU hxn ?_;conv=>whnf)
    | (refine lN.div v5 7 aai ?_;conv=>whnf)
    | (refine lN.div v7 11 aai ?_;conv=>whnf)
    | (refine lN.div v8 4 aai ?_;conv=>whnf)
    | (refine lN.to (y:=((1+v6%9%2:Nat):Int)) ?_ ?_;(focus (rw [show (1:Int)+((v6:Int).tmod 9).tmod 2=((1+v6%9%2:Nat):Int)from rfl];exact IntWalk.i64_in _ aai));conv=>whnf)
    | (refine lN.i64 ?_ ?_;(focus omega);conv=>whnf))
   refine lW.mk (nG aaL aag) ?_
   exact lK ⟨out++ [⟨cl,(sv:Int)+1,1,(tm:Int)+v1,qZ v3,xn,[],1+((v8/4:Nat):Int),((1+v6%9%2:Nat):Int)+((v7/11:Nat):Int),0⟩],p8,tm+v1,sq.set v2 (sv+1),v2⟩ [(2, .lab 6)] [] rfl aaK (hJ.next hlt Qe aai hv2 yU rfl ⟨hcm,⟨v3,hv3,rfl⟩,aaI,aaI, .inl ⟨rfl,⟨v5/7,by omega,hxe⟩,rfl,aaI,aaI,rfl⟩⟩) ⟨aam,⟨rfl,rfl,dF.symm⟩,⟨rfl,rfl,ql out ⟨cl,(sv:Int)+1,1,(tm:Int)+v1,qZ v3,xn,[],1+((v8/4:Nat):Int),((1+v6%9%2:Nat):Int)+((v7/11:Nat):Int),0⟩⟩,trivial⟩ ⟨rfl,rfl,rfl,trivial⟩
  ·conv=>whnf
   obtain⟨v5,p5,hv5,Au,c5⟩:=wG hL Qc 6 aaw aaw
   refine mX [0] [] aag c5 rfl ?_ ?_ ?_;(focus (trivial;done));(focus (trivial;done));rintro _ _ _ ⟨rfl,rfl,rfl⟩;refine⟨rfl, ?_⟩;conv=>whnf
   (refine lX yS [] aag ?_;conv=>whnf)
   have hi5:mP Tryz.prog GS 34 [iv v5] 0 [] (Is (tv (qZ v5))):=mP.up (SV _ aai) GS
   have hi6:mP Tryz.prog GS 34 [iv ((v5:Int)+1)] 0 [] (Is (tv (qZ (v5+1)))):=mP.up (SV (v5+1) aai) GS
   (refine lM [] aag (hi5) rfl ?_ ?_;(focus (trivial;done));(conv=>whnf))
   apply lH<;>intro h
   ·refine lN.i64 aai ?_
    (refine lM [] aag (hi6) rfl ?_ ?_;(focus (trivial;done));(conv=>whnf))
    refine lW.mk (nG aaL aag) ?_
    exact lK ⟨out++ [⟨cl,(sv:Int)+1,3,(tm:Int)+v1,qZ v3,[],qZ (v5+1),0,0,0⟩],p5,tm+v1,sq.set v2 (sv+1),v2⟩ [(2, .lab 5)] [] rfl aaK (hJ.next hlt Au aai hv2 yU rfl ⟨hcm,⟨v3,hv3,rfl⟩,aaI,aaI, .inr (.inr ⟨rfl,rfl,⟨v5+1,by omega,rfl⟩,MS hv5 hv3 h,rfl,rfl,rfl⟩)⟩) ⟨aam,⟨rfl,rfl,dF.symm⟩,⟨rfl,rfl,ql out ⟨cl,(sv:Int)+1,3,(tm:Int)+v1,qZ v3,[],qZ (v5+1),0,0,0⟩⟩,trivial⟩ ⟨rfl,rfl,rfl,trivial⟩
   ·(refine lM [] aag (hi5) rfl ?_ ?_;(focus (trivial;done));(conv=>whnf))
    refine lW.mk (nG aaL aag) ?_
    exact lK ⟨out++ [⟨cl,(sv:Int)+1,3,(tm:Int)+v1,qZ v3,[],qZ v5,0,0,0⟩],p5,tm+v1,sq.set v2 (sv+1),v2⟩ [(2, .lab 5)] [] rfl aaK (hJ.next hlt Au aai hv2 yU rfl ⟨hcm,⟨v3,hv3,rfl⟩,aaI,aaI, .inr (.inr ⟨rfl,rfl,⟨v5,by omega,rfl⟩,MR h,rfl,rfl,rfl⟩)⟩) ⟨aam,⟨rfl,rfl,dF.symm⟩,⟨rfl,rfl,ql out ⟨cl,(sv:Int)+1,3,(tm:Int)+v1,qZ v3,[],qZ v5,0,0,0⟩⟩,trivial⟩ ⟨rfl,rfl,rfl,trivial⟩
  ·repeat' (refine zL (beq_eq_false_iff_ne.2 aai) ?_;conv=>whnf)
   obtain⟨v5,p5,hv5,Au,c5⟩:=wG hL Qc 3 aaw aaw
   obtain⟨v6,p6,hv6,IG,c6⟩:=wG hL Au 40 aaw aaw
   obtain⟨xn,hxn⟩ : ∃xn,wu[v5/2]? = some xn:=⟨_,ah ajh⟩
   have hxe:xn=wu.getD (v5/2) []:=agf
   (refine lX yS [0,3] aag ?_;conv=>whnf)
   refine qc [] aag (Qb) aam ?_
   conv=>whnf
   repeat' (first
    | (refine And.intro ?_ ?_<;>(conv=>whnf))
    | (refine mX [0] [] aag c5 rfl ?_ ?_ ?_;(focus (trivial;done));(focus (trivial;done));rintro _ _ _ ⟨rfl,rfl,rfl⟩;refine⟨rfl, ?_⟩;conv=>whnf)
    | (refine mX [0] [] aag c6 rfl ?_ ?_ ?_;(focus (trivial;done));(focus (trivial;done));rintro _ _ _ ⟨rfl,rfl,rfl⟩;refine⟨rfl, ?_⟩;conv=>whnf)
    | (refine lW.mk aaw ?_;conv=>whnf)
    | (refine mJ.mk' (v5/2) rfl ah7 ?_;conv=>whnf)
    | (refine mQ.lU hxn ?_;conv=>whnf)
    | (refine lN.div v5 2 aai ?_;conv=>whnf)
    | (refine lN.i64 ?_ ?_;(focus omega);conv=>whnf))
   refine lW.mk (nG aaL aag) ?_
   exact lK ⟨out++ [⟨cl,(sv:Int)+1,2,(tm:Int)+v1,qZ v3,xn,[],0,0,(v6:Int)-4⟩],p6,tm+v1,sq.set v2 (sv+1),v2⟩ [(2, .lab 6)] [] rfl aaK (hJ.next hlt IG aai hv2 yU rfl ⟨hcm,⟨v3,hv3,rfl⟩,aaI,aaI, .inr (.inl ⟨rfl,⟨v5/2,by omega,hxe⟩,rfl,rfl,rfl,aaI⟩)⟩) ⟨aam,⟨rfl,rfl,dF.symm⟩,⟨rfl,rfl,ql out ⟨cl,(sv:Int)+1,2,(tm:Int)+v1,qZ v3,xn,[],0,0,(v6:Int)-4⟩⟩,trivial⟩ ⟨rfl,rfl,rfl,trivial⟩
theorem mP.ZX {P:Program}{G:Glob}{f:FuncId}{args:List AV}{X:Type}{Q:X->Prop}{T sz:Nat}{enc:X->List (List FV)}(h:mP P G f args 0 [] (fun a n H=> ∃x,Q x∧vZ T sz (enc x) a n H)) :
  mP P G f args 0 [] (fun a n H=> ∃x,Q x∧a = .lst sz (enc x)∧n=0∧H = []):=by
 intro w σ F vs st r
 refine(h w σ F vs st r).mono fun v w' ⟨a,m,σ',F',H',⟨x,hQ,e1,e2,e3⟩,s,xx,ra⟩=> ?_
 subst e1;subst e2;subst e3
 obtain⟨a',n',rW,hR,_,hE⟩:=(nI (G:=G) (nb:=0) (n:=1) (a:= .own 0) (H:= [(0, .rows T sz (enc x))]) (R:=Is (.lst sz (enc x))) (.lst sz (enc x)) 0 [] [] [0] ⟨rfl,rfl,rfl⟩ rfl trivial ⟨rfl,rfl,rfl⟩).ex
 obtain⟨yR,Nl,s2,r2,_,h4⟩:=hE w (uJ w σ []) F σ' F' w' v s ra
 exact⟨a',n',yR,Nl,rW,⟨x,hQ,hR⟩,s2,⟨aH _,fun _ h=>absurd h (dQ _),fun b hb=>⟨h4 b (xx.f b hb).1,(xx.f b hb).2⟩,xx.sz⟩,r2⟩
theorem adP (L:By)(hL:L.length<=1000):mP Tryz.prog GS 9 [bs L] 0 [] EvO:=mP.ZX (Z9 L hL)
section
open Go.Proofs.YtnandbihiceihaaGreatDoor.Id
theorem Z8.bnd {l:List Ev}(h:Z8 l):EvB l:=
 ⟨by have:=h.len;omega,fun e he=>by have:=(h.all e he).time;omega,fun e he=>by
  rcases(h.all e he).kinds with ⟨_,_,_,_,_,hv⟩|⟨_,_,_,_,_,hv⟩|⟨_,_,_,_,_,_,hv⟩
  ·omega
  ·omega
  ·omega⟩
theorem aac (w:Nat) : ∃name,qN[w%2]? = some name:=⟨qN[w%2]'(by have:w%2<2:=fO _ aaw;show w%2<4;omega),ah _⟩
end
section
open Go.Proofs.YtnandbihiceihaaGreatDoor.Id
end
section
open Go.Proofs.YtnandbihiceihaaGreatDoor.Id
def Qg (n:Nat)(l:List Sm):List Nat:=(List.range n).map fun(k:Nat)=>l.countP fun s=>decide (s.x.arm=(k:Int)+1)
def Ef (l:List Sm):Nat:=l.countP fun s=>s.mixed
def adQ (n:Nat):List FV:= [iF (n:Int)]
def UZ (k:Int):Nat:=(max 0 (min k 8)).toNat
theorem MV (n:Nat)(l:List Sm):(Qg n l).length=n:=by unfold Qg;simp
theorem wP (n:Nat)(l:List Sm)(k:Nat):(Qg n l)[k]? = if k<n then some (l.countP fun s=>decide (s.x.arm=(k:Int)+1))else none:=by
 unfold Qg
 rw [aJ]
 by_cases h:k<n
 ·rw [if_pos h,ah aaE,jE];rfl
 ·rw [if_neg h,dN aaE];rfl
theorem U0 (n:Nat):Qg n []=List.replicate n 0:=by
 apply eu
 intro k
 rw [wP,gy]
 rfl
theorem aad {n:Nat}{l:List Sm}{s:Sm}{k c:Nat}(hk:s.x.arm=(k:Int)+1)(hn:k<n)(hc:(Qg n l)[k]? = some c):Qg n (l++ [s])=(Qg n l).set k (c+1):=by
 rw [wP,if_pos hn]at hc
 injection hc with hc
 apply eu
 intro j
 by_cases hj:k=j
 ·subst hj
  rw [wP,if_pos hn,dh (by rw [MV];exact hn),jG,je,hc]
  rw [if_pos (by simpa using hk)]
 ·rw [fP hj,wP,wP,jG,je]
  have h0 : ¬(decide (s.x.arm=(j:Int)+1))=true:=aev
  simp only [if_neg h0,dV]
theorem U1 {n:Nat}{l:List Sm}{s:Sm}(h : ∀k:Nat,k<n->¬s.x.arm=(k:Int)+1):Qg n (l++ [s])=Qg n l:=by
 apply eu
 intro j
 rw [wP,wP]
 by_cases hj:j<n
 ·rw [if_pos hj,if_pos hj,jG,je,if_neg (by simpa using h j hj)]
  rfl
 ·rw [if_neg hj,if_neg hj]
theorem aae (n:Nat)(l:List Sm)(k c:Nat)(h:(Qg n l)[k]? = some c):c<=l.length:=by
 rw [wP]at h
 split at h
 ·injection h with h;rw [<-h];exact kY
 ·cases h
theorem J3 (l:List Sm)(s:Sm):Ef (l++ [s])=Ef l+if s.mixed=true then 1 else 0:=by unfold Ef;rw [jG,je]
theorem U2 (l:List Sm):Ef l<=l.length:=kY
def Wq (s:List Sm)(k:Int)(a:AV)(n:Nat)(H:lI):Prop:=a = .og [.own 0,iv ((Ef s:Nat):Int)]∧n=1∧H = [(0, .rows 3 1 ((Qg (UZ k) s).map adQ))]
section
variable {G:Glob}
theorem ahp (s:List Sm)(k:Int)(hs:s.length<=1000000):mP Tryz.prog G 38 [smL s,iv k] 0 [] (Wq s k):=by
 have hn8:UZ k<=8:=akg
 have hnk:max (0:Int) (min k 8)=(UZ k:Int):=akg
 refine lJ func38 rfl mixed aag ?_
 unfold Wq
 refine uT.mk' (qp:=8) (UZ k) hnk hnk ⟨by omega,by unfold maxLen;omega⟩ ?_
 generalize UZ k=n at *
 refine mY afe 1 [7,17] (fun i:Nat=> [(7,iv ((Ef (s.take i):Nat):Int)),(17,iv i)]) (fun i=> [(0, .rows 3 1 ((Qg n (s.take i)).map adQ))]) (fun i=>i<=s.length) (fun i=>s.length-i) [] [] 0 aag (fun _=>rfl) rfl (aH _) ⟨⟨rfl,rfl, ?_⟩,trivial⟩ aam ?_
 ·rw [iM,U0,iD]
  rfl
 intro i hi
 apply lH<;>intro h
 rotate_left
 ·have hie:i=s.length:=aaG
  subst hie
  rw [aZ]
  exact nI _ 1 _ [(0, .lab 0)] [] ⟨rfl,rfl,rfl⟩ rfl aam aam
 have hlt:i<s.length:=aaG
 have hg:=ah hlt
 have hsn:=aG hlt
 have hml:=U2 (s.take i)
 have htl:=aae n (s.take i)
 have hlen:(s.take i).length<=1000000:=ahg
 generalize s[i]=x at *
 have hm1:=J3 (s.take i) x
 have ht1:=fun k c=>aad (n:=n) (l:=s.take i) (s:=x) (k:=k) (c:=c)
 have ht2:=U1 (n:=n) (l:=s.take i) (s:=x)
 rw [<-hsn]at hm1 ht2
 simp only [<-hsn]at ht1
 have htn:=MV n (s.take i)
 generalize Qg n (s.take i)=tl0 at *
 generalize Ef (s.take i)=mx0 at *
 refine mJ.mk' i rfl (pF hlt) ?_
 refine mQ.lU hg ?_
 refine lH (fun h1=> ?_) (fun h1=> ?_)
 rotate_left
 ·have hT:=ht2 fun k hk e=>ahZ
  conv=>whnf
  skip
  refine lH (fun hmx=> ?_) (fun hmx=> ?_)
  ·rw [if_pos hmx]at hm1
   refine lN.i64 aai ?_
   refine lN.i64 aai ?_
   refine lK (i+1) [] [] rfl abl hlt ⟨⟨rfl,rfl, ?_⟩,trivial⟩ ⟨congrArg (fun x:Nat=>Value.int .i64 (x:Int)) hm1.symm,rfl,trivial⟩
   (rw [hT])
  ·rw [if_neg aie]at hm1
   refine lN.i64 aai ?_
   refine lK (i+1) [] [] rfl abl hlt ⟨⟨rfl,rfl, ?_⟩,trivial⟩ ⟨congrArg (fun x:Nat=>Value.int .i64 (x:Int)) hm1.symm,rfl,trivial⟩
   (rw [hT])
 have h1:1<=x.x.arm:=aaJ
 refine lH (fun h2=> ?_) (fun h2=> ?_)
 rotate_left
 ·have hT:=ht2 fun k hk e=>by simp [htn]at h2;omega
  conv=>whnf
  skip
  refine lH (fun hmx=> ?_) (fun hmx=> ?_)
  ·rw [if_pos hmx]at hm1
   refine lN.i64 aai ?_
   refine lN.i64 aai ?_
   refine lK (i+1) [] [] rfl abl hlt ⟨⟨rfl,rfl, ?_⟩,trivial⟩ ⟨congrArg (fun x:Nat=>Value.int .i64 (x:Int)) hm1.symm,rfl,trivial⟩
   (rw [hT])
  ·rw [if_neg aie]at hm1
   refine lN.i64 aai ?_
   refine lK (i+1) [] [] rfl abl hlt ⟨⟨rfl,rfl, ?_⟩,trivial⟩ ⟨congrArg (fun x:Nat=>Value.int .i64 (x:Int)) hm1.symm,rfl,trivial⟩
   (rw [hT])
 have h2:x.x.arm<=(n:Int):=by simpa [htn]using h2
 obtain⟨a,ha⟩ : ∃a:Nat,x.x.arm=(a:Int)+1:=⟨(x.x.arm-1).toNat,by omega⟩
 have han:a<n:=aai
 have hga:=ah (show a<tl0.length by omega)
 have hca:=htl a _ hga
 have hT:=ht1 a _ ha han hga
 generalize tl0[a]'aai=c at *
 conv=>whnf
 repeat' (first
  | (refine mJ.mk' a aai aeE ?_;conv=>whnf)
  | (refine mQ.lU hga ?_;conv=>whnf)
  | (refine lN.i64 aai ?_;conv=>whnf))
 skip
 refine lH (fun hmx=> ?_) (fun hmx=> ?_)
 ·rw [if_pos hmx]at hm1
  refine lN.i64 aai ?_
  refine lN.i64 aai ?_
  refine lK (i+1) [] [] rfl abl hlt ⟨⟨rfl,rfl, ?_⟩,trivial⟩ ⟨congrArg (fun x:Nat=>Value.int .i64 (x:Int)) hm1.symm,rfl,trivial⟩
  (rw [hT,dF];rfl)
 ·rw [if_neg aie]at hm1
  refine lN.i64 aai ?_
  refine lK (i+1) [] [] rfl abl hlt ⟨⟨rfl,rfl, ?_⟩,trivial⟩ ⟨congrArg (fun x:Nat=>Value.int .i64 (x:Int)) hm1.symm,rfl,trivial⟩
  (rw [hT,dF];rfl)
theorem adR (s:List Sm)(k:Int)(hs:s.length<=1000000):mP Tryz.prog G 45 [smL s,iv k] 0 [] (Wq s k):=by
 have hn8:UZ k<=8:=akg
 have hnk:max (0:Int) (min k 8)=(UZ k:Int):=akg
 refine lJ func45 rfl mixed aag ?_
 unfold Wq
 refine uT.mk' (qp:=8) (UZ k) hnk hnk ⟨by omega,by unfold maxLen;omega⟩ ?_
 generalize UZ k=n at *
 refine mY afl 1 [7,8] (fun i:Nat=> [(7,iv ((Ef (s.take i):Nat):Int)),(8,iv i)]) (fun i=> [(0, .rows 3 1 ((Qg n (s.take i)).map adQ))]) (fun i=>i<=s.length) (fun i=>s.length-i) [] [] 0 aag (fun _=>rfl) rfl (aH _) ⟨⟨rfl,rfl, ?_⟩,trivial⟩ aam ?_
 ·rw [iM,U0,iD]
  rfl
 intro i hi
 apply lH<;>intro h
 rotate_left
 ·have hie:i=s.length:=aaG
  subst hie
  rw [aZ]
  exact nI _ 1 _ [(0, .lab 0)] [] ⟨rfl,rfl,rfl⟩ rfl aam aam
 have hlt:i<s.length:=aaG
 have hg:=ah hlt
 have hsn:=aG hlt
 have hml:=U2 (s.take i)
 have htl:=aae n (s.take i)
 have hlen:(s.take i).length<=1000000:=ahg
 generalize s[i]=x at *
 have hm1:=J3 (s.take i) x
 have ht1:=fun k c=>aad (n:=n) (l:=s.take i) (s:=x) (k:=k) (c:=c)
 have ht2:=U1 (n:=n) (l:=s.take i) (s:=x)
 rw [<-hsn]at hm1 ht2
 simp only [<-hsn]at ht1
 have htn:=MV n (s.take i)
 generalize Qg n (s.take i)=tl0 at *
 generalize Ef (s.take i)=mx0 at *
 refine mJ.mk' i rfl (pF hlt) ?_
 refine mQ.lU hg ?_
 refine lH (fun h1=> ?_) (fun h1=> ?_)
 rotate_left
 ·have hT:=ht2 fun k hk e=>ahZ
  (refine mJ.mk' i rfl (pF hlt) ?_);(conv=>whnf);(refine mQ.lU hg ?_);(conv=>whnf)
  refine lH (fun hmx=> ?_) (fun hmx=> ?_)
  ·rw [if_pos hmx]at hm1
   refine lN.i64 aai ?_
   refine lN.i64 aai ?_
   refine lK (i+1) [] [] rfl abl hlt ⟨⟨rfl,rfl, ?_⟩,trivial⟩ ⟨congrArg (fun x:Nat=>Value.int .i64 (x:Int)) hm1.symm,rfl,trivial⟩
   (rw [hT])
  ·rw [if_neg aie]at hm1
   refine lN.i64 aai ?_
   refine lK (i+1) [] [] rfl abl hlt ⟨⟨rfl,rfl, ?_⟩,trivial⟩ ⟨congrArg (fun x:Nat=>Value.int .i64 (x:Int)) hm1.symm,rfl,trivial⟩
   (rw [hT])
 have h1:1<=x.x.arm:=aaJ
 refine lH (fun h2=> ?_) (fun h2=> ?_)
 rotate_left
 ·have hT:=ht2 fun k hk e=>by simp [htn]at h2;omega
  (refine mJ.mk' i rfl (pF hlt) ?_);(conv=>whnf);(refine mQ.lU hg ?_);(conv=>whnf)
  refine lH (fun hmx=> ?_) (fun hmx=> ?_)
  ·rw [if_pos hmx]at hm1
   refine lN.i64 aai ?_
   refine lN.i64 aai ?_
   refine lK (i+1) [] [] rfl abl hlt ⟨⟨rfl,rfl, ?_⟩,trivial⟩ ⟨congrArg (fun x:Nat=>Value.int .i64 (x:Int)) hm1.symm,rfl,trivial⟩
   (rw [hT])
  ·rw [if_neg aie]at hm1
   refine lN.i64 aai ?_
   refine lK (i+1) [] [] rfl abl hlt ⟨⟨rfl,rfl, ?_⟩,trivial⟩ ⟨congrArg (fun x:Nat=>Value.int .i64 (x:Int)) hm1.symm,rfl,trivial⟩
   (rw [hT])
 have h2:x.x.arm<=(n:Int):=by simpa [htn]using h2
 obtain⟨a,ha⟩ : ∃a:Nat,x.x.arm=(a:Int)+1:=⟨(x.x.arm-1).toNat,by omega⟩
 have han:a<n:=aai
 have hga:=ah (show a<tl0.length by omega)
 have hca:=htl a _ hga
 have hT:=ht1 a _ ha han hga
 generalize tl0[a]'aai=c at *
 conv=>whnf
 repeat' (first
  | (refine mJ.mk' a aai aeE ?_;conv=>whnf)
  | (refine mQ.lU hga ?_;conv=>whnf)
  | (refine lN.i64 aai ?_;conv=>whnf))
 (refine mJ.mk' i rfl (pF hlt) ?_);(conv=>whnf);(refine mQ.lU hg ?_);(conv=>whnf)
 refine lH (fun hmx=> ?_) (fun hmx=> ?_)
 ·rw [if_pos hmx]at hm1
  refine lN.i64 aai ?_
  refine lN.i64 aai ?_
  refine lK (i+1) [] [] rfl abl hlt ⟨⟨rfl,rfl, ?_⟩,trivial⟩ ⟨congrArg (fun x:Nat=>Value.int .i64 (x:Int)) hm1.symm,rfl,trivial⟩
  (rw [hT,dF];rfl)
 ·rw [if_neg aie]at hm1
  refine lN.i64 aai ?_
  refine lK (i+1) [] [] rfl abl hlt ⟨⟨rfl,rfl, ?_⟩,trivial⟩ ⟨congrArg (fun x:Nat=>Value.int .i64 (x:Int)) hm1.symm,rfl,trivial⟩
  (rw [hT,dF];rfl)
end
end
section
open Go.Proofs.YtnandbihiceihaaGreatDoor.Id
def E5 (m:Mt)(l:List Ev):Int:=l.foldl (fun a e=>if e.name=m.name∧m.least<=e.val then a+e.val else a) 0
def E8 (m:Mt)(l:List Ev):Int:=l.foldl (fun a e=>if e.name=m.name∧m.least<=e.val then a+1 else a) 0
def II (m:Mt)(l:List Ev):Int:=l.foldl (fun a e=>if e.name=m.below then a+e.val else a) 0
theorem vF {f:Int->Ev->Int}{l:List Ev}{i:Nat}(h:i<l.length):(l.take (i+1)).foldl f 0=f ((l.take i).foldl f 0) l[i]:=by rw [aG h,fJ];rfl
theorem ajR {m:Mt}{l:List Ev}(h:Df l) : ∀i,i<=l.length->(-1000000*(i:Int)<=E5 m (l.take i)∧E5 m (l.take i)<=1000000*(i:Int))∧(0<=E8 m (l.take i)∧E8 m (l.take i)<=(i:Int))∧(-1000000*(i:Int)<=II m (l.take i)∧II m (l.take i)<=1000000*(i:Int)):=by
 intro i
 induction i with
 | zero=>intro _;simp [E5,E8,II]
 | succ i ih=>
  intro hi
  have h1:=ih aai
  have hv:=h.val _ (aV (show i<l.length by omega))
  unfold E5 E8 II at *
  rw [vF aai,vF aai,vF aai]
  refine⟨?_, ?_, ?_⟩<;>split<;>omega
theorem fold_eq {f g:Int->Ev->Int}(l:List Ev)(h : ∀a e,f a e=g a e):l.foldl f 0=l.foldl g 0:=by
 have:f=g:=by funext a e;exact h a e
 rw [this]
theorem U3 {m:Mt}(l:List Ev)(h:m.kind=1∨m.kind=4):MN m l=E5 m l:=fold_eq l fun a e=>by unfold mtW;rw [if_pos h]
theorem U4 {m:Mt}(l:List Ev)(h : ¬(m.kind=1∨m.kind=4)):MN m l=E8 m l:=fold_eq l fun a e=>by unfold mtW;rw [if_neg h]
theorem adS {m:Mt}(l:List Ev)(h:m.kind=4):PG m l=II m l:=fold_eq l fun a e=>by simp only [h,true_and]
theorem SY {m:Mt}(l:List Ev)(h : ¬m.kind=4):PG m l=0:=by
 unfold PG
 induction l with
 | nil=>rfl
 | cons e r ih=>rw [gJ,if_neg (fun h'=>h h'.1)];exact ih
theorem aaf {m:Mt}(h:Bh m=0):lim m 0=0:=by
 have:1<=m.cap:=by
  unfold Bh at h
  split at h
  ·cases h
  split at h
  ·cases h
  split at h
  ·cases h
  ·rename_i h3;omega
 unfold lim;omega
theorem ajS {m:Mt}(h:Bh m=0)(h3:m.kind=3):m.cap=1:=by
 unfold Bh at h
 split at h
 ·cases h
 split at h
 ·cases h
 split at h
 ·cases h
 split at h
 ·cases h
 ·rename_i h4
  by_cases hc:m.cap=1
  ·exact hc
  ·exact absurd (.inr ⟨h3,hc⟩) h4
theorem zI (n c:Int):mP Tryz.prog GS 179 [iv n,iv c] 0 [] (Is (iv (max 0 (min n c)))):=by
 refine lJ func179 rfl mixed aag ?_
 exact lQ [] aam
theorem U5 (m:Mt)(l:List Ev)(hm:Bh m=0)(hl:Df l)(z1:m.name.length<=140737488355328)(z2:m.below.length<=140737488355328):mP Tryz.prog GS 99 [Jl m,el l] 0 [] (Is (.og [iv (lim m (MN m l)),iv (lim m (PG m l))])):=by
 have hrg:=ajR (m:=m) hl
 have hlen:=hl.len
 refine lJ func99 rfl mixed aag ?_
 (refine lM [] aag (ZR m z1 z2) rfl ?_ ?_;(focus trivial))
 rw [hm]
 refine mY afJ 1 [6,7,8,9] (fun i:Nat=> [(6,iv (E5 m (l.take i))),(7,iv (E8 m (l.take i))),(8,iv (II m (l.take i))),(9,iv i)]) (fun i=> [(0,Qv m)]) (fun i=>i<=l.length) (fun i=>l.length-i) [] [] 0 aag (fun _=>rfl) rfl (aH _) aam aam ?_
 intro i hi
 apply lH<;>intro h
 ·have hlt:i<l.length:=aaG
  have hS:E5 m (l.take (i+1))=_:=vF hlt
  have hN:E8 m (l.take (i+1))=_:=vF hlt
  have hB:II m (l.take (i+1))=_:=vF hlt
  have hr:=hrg i hi
  have hv:=hl.val _ (aV hlt)
  have hk:=hl.kind _ (aV hlt)
  have hg:=ah hlt
  change _=(if l[i].name=m.name∧m.least<=l[i].val then E5 m (l.take i)+l[i].val else E5 m (l.take i))at hS
  change _=(if l[i].name=m.name∧m.least<=l[i].val then E8 m (l.take i)+1 else E8 m (l.take i))at hN
  change _=(if l[i].name=m.below then II m (l.take i)+l[i].val else II m (l.take i))at hB
  generalize l[i]=e at *
  generalize E5 m (l.take i)=a at *
  generalize E8 m (l.take i)=n at *
  generalize II m (l.take i)=b at *
  refine mJ.mk' i rfl (pF hlt) ?_
  refine mQ.lU hg ?_
  refine lH (fun h0=> ?_) (fun h0=> ?_)
  ·exfalso;simp [hk]at h0
  refine lH (fun h1=> ?_) (fun h1=> ?_)
  rotate_left
  ·have hno : ¬(e.name=m.name∧m.least<=e.val):=fun h'=>by simp [mW]at h1;exact h1 h'.1
   rw [if_neg hno]at hS hN
   refine lH (fun h5=> ?_) (fun h5=> ?_)
   ·rw [if_pos ahP]at hB
    refine lN.i64 aai ?_
    refine lN.i64 aai ?_
    exact lK (i+1) [] [] rfl aaF hlt aam ⟨nN hS.symm,nN hN.symm,nN hB.symm,rfl,trivial⟩
   ·rw [if_neg ahP]at hB
    refine lN.i64 aai ?_
    exact lK (i+1) [] [] rfl aaF hlt aam ⟨nN hS.symm,nN hN.symm,nN hB.symm,rfl,trivial⟩
  refine lH (fun h2=> ?_) (fun h2=> ?_)
  rotate_left
  ·have hno : ¬(e.name=m.name∧m.least<=e.val):=fun h'=>agU
   rw [if_neg hno]at hS hN
   refine lH (fun h5=> ?_) (fun h5=> ?_)
   ·rw [if_pos ahP]at hB
    refine lN.i64 aai ?_
    refine lN.i64 aai ?_
    exact lK (i+1) [] [] rfl aaF hlt aam ⟨nN hS.symm,nN hN.symm,nN hB.symm,rfl,trivial⟩
   ·rw [if_neg ahP]at hB
    refine lN.i64 aai ?_
    exact lK (i+1) [] [] rfl aaF hlt aam ⟨nN hS.symm,nN hN.symm,nN hB.symm,rfl,trivial⟩
  have hyes:e.name=m.name∧m.least<=e.val:=⟨by simpa [mW]using h1,by simpa using h2⟩
  rw [if_pos hyes]at hS hN
  refine lN.i64 aai ?_
  refine lN.i64 aai ?_
  ·skip
   refine lH (fun h5=> ?_) (fun h5=> ?_)
   ·rw [if_pos ahP]at hB
    refine lN.i64 aai ?_
    refine lN.i64 aai ?_
    exact lK (i+1) [] [] rfl aaF hlt aam ⟨nN hS.symm,nN hN.symm,nN hB.symm,rfl,trivial⟩
   ·rw [if_neg ahP]at hB
    refine lN.i64 aai ?_
    exact lK (i+1) [] [] rfl aaF hlt aam ⟨nN hS.symm,nN hN.symm,nN hB.symm,rfl,trivial⟩
 ·have hie:i=l.length:=aaG
  subst hie
  rw [aZ]
  rcases PV hm with hk|hk|hk|hk
  ·rw [U3 l (.inl hk),SY l aai,aaf hm]
   apply lH<;>intro h
   ·exfalso;simp [hk]at h
   apply lH<;>intro h
   ·exfalso;simp [hk]at h
   apply lH<;>intro h
   ·exfalso;simp [hk]at h
   (refine lM [] aag (zI (E5 m l) m.cap) rfl ?_ ?_;(focus trivial))
   exact lQ [] aam
  ·rw [U4 l aai,SY l aai,aaf hm]
   apply lH<;>intro h
   rotate_left
   ·exfalso;simp [hk]at h
   (refine lM [] aag (zI (E8 m l) m.cap) rfl ?_ ?_;(focus trivial))
   exact lQ [] aam
  ·rw [U4 l aai,SY l aai,aaf hm]
   apply lH<;>intro h
   ·exfalso;simp [hk]at h
   apply lH<;>intro h
   rotate_left
   ·exfalso;simp [hk]at h
   (refine lM [] aag (zI (E8 m l) 1) rfl ?_ ?_;(focus trivial))
   exact lQ [] (by unfold lim;rw [ajS hm hk];trivial)
  ·rw [U3 l (.inr hk),adS l hk]
   apply lH<;>intro h
   ·exfalso;simp [hk]at h
   apply lH<;>intro h
   ·exfalso;simp [hk]at h
   apply lH<;>intro h
   rotate_left
   ·exfalso;simp [hk]at h
   (refine lX aiL [] aag ?_;conv=>whnf)
   repeat' (first
    | (refine And.intro ?_ ?_<;>(conv=>whnf))
    | ((refine lM [] aag (zI (E5 m l) m.cap) rfl ?_ ?_;(focus (trivial;done));(conv=>whnf)))
    | ((refine lM [] aag (zI (II m l) m.cap) rfl ?_ ?_;(focus (trivial;done));(conv=>whnf))))
   all_goals exact lQ [] aam
end
end Go.Proofs.YtnandbihiceihaaGreatDoor.Cl
