/- Joined parts of the proof. The walk of the made events once more: which events they are -/
import Derived.Test.YtocckceefcmeaaaGreatDoorPk20
set_option linter.unusedVariables false
set_option linter.unusedSimpArgs false
set_option maxRecDepth 100000
set_option maxHeartbeats 16000000
namespace Go.Proofs.YtocckceefcmeaaaGreatDoor.Cl
open Go Go.RowKit Go.Proofs Go.Proofs.YtocckceefcmeaaaGreatDoor.Vc Go.Proofs.YtocckceefcmeaaaGreatDoor.Ax Go.Proofs.YtocckceefcmeaaaGreatDoor.Ky
attribute [local irreducible] loadVar storeVar Instr.indexAt Instr.index Instr.sliceAt Instr.makeSlice Instr.lookup Instr.mapUpdate Instr.range Instr.next Instr.entry Instr.makeMap Builtin.append_ Builtin.copy_ Builtin.len_ Builtin.min_ Builtin.max_ Builtin.cap_ Builtin.delete_ Builtin.clear_ convert binOp eqGuard Op.unary Calls
section
def Ce (L:By)(out:List Ev)(tm:Nat)(sq:List Nat)(st v2 sv:Nat)(cl:By)(v3 v5 v6 v7 v8 p8:Nat):ES:=
 ⟨out++ [⟨cl,(sv:Int)+1,1,(tm:Int)+st,dY v3,gy.getD (v5/7) [],[],1+((v8/4:Nat):Int),((1+v6%9%2:Nat):Int)+((v7/11:Nat):Int),0⟩],p8,tm+st,sq.set v2 (sv+1),v2⟩
def LM (L:By)(out:List Ev)(tm:Nat)(sq:List Nat)(st v2 sv:Nat)(cl:By)(v3 v5 p5:Nat):ES:=
 ⟨out++ [⟨cl,(sv:Int)+1,3,(tm:Int)+st,dY v3,[],if dY v5=dY v3 then dY (v5+1)else dY v5,0,0,0⟩],p5,tm+st,sq.set v2 (sv+1),v2⟩
def Yq (L:By)(out:List Ev)(tm:Nat)(sq:List Nat)(st v2 sv:Nat)(cl:By)(v3 v5 v6 p6:Nat):ES:=
 ⟨out++ [⟨cl,(sv:Int)+1,2,(tm:Int)+st,dY v3,oQ.getD (v5/2) [],[],0,0,(v6:Int)-4⟩],p6,tm+st,sq.set v2 (sv+1),v2⟩
def gB (L:By)(out:List Ev)(tm:Nat)(sq:List Nat)(st v2 sv:Nat)(cl:By)(v3 v4 p4:Nat):ES:=
 if v4<3 then Ce L out tm sq st v2 sv cl v3 (jZ L p4 8) (jZ L (jg L p4) 10) (jZ L (jg L (jg L p4)) 12) (jZ L (jg L (jg L (jg L p4))) 5) (jg L (jg L (jg L (jg L p4))))
 else if v4=3 then LM L out tm sq st v2 sv cl v3 (jZ L p4 6) (jg L p4)
 else Yq L out tm sq st v2 sv cl v3 (jZ L p4 3) (jZ L (jg L p4) 40) (jg L (jg L p4))
def wU (L:By)(x:ES):ES:=
 gB L x.out x.tm x.sq (if jZ L x.a 4=0∧((jZ L (jg L x.a) 3:Nat):Int)<x.last then 1 else jZ L x.a 4) (jZ L (jg L x.a) 3) (x.sq.getD (jZ L (jg L x.a) 3) 0) (vN.getD (jZ L (jg L x.a) 3) []) (jZ L (jg L (jg L x.a)) 6) (jZ L (jg L (jg L (jg L x.a))) 8) (jg L (jg L (jg L (jg L x.a))))
def Ai (L:By):Nat→ES→List Ev
 | 0,x=>x.out
 | m+1,x=>if x.a<L.length then Ai L m (wU L x)else x.out
def SV (L:By):List Ev:=Ai L 60 ⟨[],0,0,[0,0,0], -1⟩
theorem N8 {L:By}{m:Nat}{x:ES}(h : ¬x.a<L.length):Ai L m x=x.out:=by
 cases m with
 | zero=>rfl
 | succ m=>show (if _ then _ else _)=_;rw [if_neg h]
theorem eP {L:By}{x y:ES}(h:x.a<L.length)(hl:x.out.length<60)(e:wU L x=y)(hy:y.out.length=x.out.length+1):Ai L (60-x.out.length) x=Ai L (60-y.out.length) y:=by
 have h2:60-x.out.length=(60-y.out.length)+1:=by omega
 rw [h2]
 show (if _ then _ else _)=_
 rw [if_pos h,e]
theorem kY {L:By}(hL:L.length≤1000){p:Nat}(hp:p≤L.length)(n:Nat)(hn:0<n)(hn2:n≤256) : ∃v q,jZ L p n=v∧jg L p=q∧NxC L p n v q:=⟨jZ L p n,jg L p,rfl,rfl,iG L p n hn,gu hp,sW L p n hn hn2 (by omega) hp⟩
theorem dB {α:Type}(l:List α)(a:α):(l++ [a]).length=l.length+1:=by simp
attribute [local irreducible] SV Ai wU jZ jg
theorem acX (L:By)(hL:L.length≤1000):bC Tryz.prog GS 60 [bs L] 0 [] (fun a m H=> ∃l,(XI l∧l=SV L)∧kW 95 10 (l.map iE) a m H):=by
 refine au Tryz.func60 rfl mixed (by kernel_rfl) ?_
 conv=>whnf
 refine bf Ze 3 [4,5,7] (fun x:ES=> [(4, .own 2),(5,iv x.tm),(7,iv x.last)]) (fun x=> [(0,JF L x.a),(1, .rows 3 1 (x.sq.map enN)),(2, .rows 95 10 (x.out.map iE))]) (fun x=>EI L x∧SV L=Ai L (60-x.out.length) x) (fun x=>60-x.out.length) [(2, .nil)] [] ⟨[],0,0,[0,0,0], -1⟩ (by kernel_rfl) (fun _=>rfl) rfl ⟨⟨Nat.zero_le _,⟨Nat.zero_le _,(fun _ h=>by cases h),List.Pairwise.nil⟩,Nat.zero_le _,(fun _ h=>by cases h),rfl,(by simp),by constructor<;>(dsimp only;omega)⟩,by unfold SV;rfl⟩ ⟨(by trivial),(by trivial),rfl,trivial⟩ ⟨trivial,rfl,rfl,trivial⟩ ?_
 rintro⟨out,p,tm,sq,last⟩ ⟨hJ,hE⟩
 obtain⟨hp,hP,htm,hle,hsl,hsb,hlast⟩:=id hJ
 dsimp only at hp hP htm hle hsl hsb hlast hE
 have hol:=hP.len
 conv=>whnf
 refine aG [0] [] (by kernel_rfl) (acW L p) rfl (by trivial) (by trivial) ?_
 rintro _ _ _ ⟨rfl,rfl,rfl⟩
 refine⟨rfl, ?_⟩
 conv=>whnf
 apply ah<;>intro h
 rotate_left 1
 ·have hz:out=SV L:=by rw [hE,N8 (x:=⟨out,p,tm,sq,last⟩) (by simpa using h)]
  conv=>whnf
  exact aU (.own 0) 1 _ [(0, .lab 2)] [] ⟨out,⟨hP,hz⟩,rfl,rfl,rfl⟩ rfl (by trivial) (by trivial)
 have hmo:p<L.length:=by simpa using h
 conv=>whnf
 apply ah<;>intro h
 rotate_left 1
 ·have hz:out=SV L:=by rw [hE,show 60-out.length=0 by simp at h;omega];unfold Ai;rfl
  conv=>whnf
  exact aU (.own 0) 1 _ [(0, .lab 2)] [] ⟨out,⟨hP,hz⟩,rfl,rfl,rfl⟩ rfl (by trivial) (by trivial)
 have hlt:out.length<60:=by simp at h;omega
 conv=>whnf
 refine aG [0] [] (by kernel_rfl) (sW L p 4 (by decide) (by decide) (by omega) hp) rfl (by trivial) (by trivial) ?_
 rintro _ _ _ ⟨rfl,rfl,rfl⟩
 refine⟨rfl, ?_⟩
 conv=>whnf
 have hv1:=iG L p 4 (by decide)
 have hp1:=gu (L:=L) hp
 generalize e1:jZ L p 4=v1 at *
 generalize f1:jg L p=p1 at *
 refine aG [0] [] (by kernel_rfl) (sW L p1 3 (by decide) (by decide) (by omega) hp1) rfl (by trivial) (by trivial) ?_
 rintro _ _ _ ⟨rfl,rfl,rfl⟩
 refine⟨rfl, ?_⟩
 conv=>whnf
 have hv2:=iG L p1 3 (by decide)
 have hp2:=gu (L:=L) hp1
 generalize e2:jZ L p1 3=v2 at *
 generalize f2:jg L p1=p2 at *
 obtain⟨sv,hsv,og⟩ : ∃sv,sq[v2]? = some sv∧sv≤out.length:=⟨_,List.getElem?_eq_getElem (by omega),hsb _ (List.getElem_mem _)⟩
 obtain⟨cl,hcl,hcm⟩ : ∃cl,vN[v2]? = some cl∧cl∈vN:=⟨_,List.getElem?_eq_getElem hv2,List.getElem_mem _⟩
 have aaO:sq.getD v2 0=sv:=by rw [List.getD_eq_getElem?_getD,hsv,Option.getD_some]
 have aaP:vN.getD v2 []=cl:=by rw [List.getD_eq_getElem?_getD,hcl,Option.getD_some]
 have hv3:=iG L p2 6 (by decide)
 have hid:bC Tryz.prog GS 94 [iv (jZ L p2 6)] 0 [] (Is (tv (dY (jZ L p2 6)))):=bC.up (JE _ (by omega)) GS
 refine ah (fun hq=> ?_) (fun hq=> ?_)
 ·conv=>whnf
  refine ah (fun hc=> ?_) (fun hc=> ?_)
  ·have hst:(if v1=0∧((v2:Nat):Int)<last then 1 else v1)=1:=if_pos ⟨by simpa using hq,by simpa using hc⟩
   conv=>whnf
   refine aK.i64 (by dsimp only;omega) ?_
   conv=>whnf
   refine bD.mk' v2 rfl (by rw [List.length_map,hsl];exact hv2) ?_
   conv=>whnf
   refine aT.aB hsv ?_
   conv=>whnf
   refine aK.i64 (by omega) ?_
   conv=>whnf
   refine bD.mk' v2 rfl (by rw [List.length_map,hsl];exact hv2) ?_
   conv=>whnf
   refine aT.aB hsv ?_
   conv=>whnf
   refine zh jq [0] [(10,10),(44,56)] 4 [(10, .ptr 3 0)] [(0,JF L (jg L p2)),(1, .rows 3 1 (((sq.map enN).set v2 (enN (sv+1))))),(2, .rows 95 10 (out.map iE)),(3, .var 95 [tv cl,iv ((sv:Int)+1),iv 0,iv ((tm:Int)+1),tv (dY (jZ L p2 6)),tv [],tv [],iv 0,iv 0,iv 0])] (by kernel_rfl) (by kernel_rfl) ?_ ?_
   ·conv=>whnf
    repeat' (first
     | (refine And.intro ?_ ?_<;>(conv=>whnf))
     | (refine bD.mk' v2 rfl hv2 ?_;conv=>whnf)
     | (refine aT.aB (enc:=wQ) (xs:=vN) hcl ?_;conv=>whnf)
     | (refine bD.mk' v2 rfl (by rw [List.length_set,List.length_map,hsl];exact hv2) ?_;conv=>whnf)
     | (refine aT.set (by rw [List.length_map,hsl];exact hv2) ?_;conv=>whnf)
     | (refine aG [0] [] (by kernel_rfl) (sW L p2 6 (by decide) (by decide) (by omega) hp2) rfl (by trivial) (by trivial) ?_;rintro _ _ _ ⟨rfl,rfl,rfl⟩;refine⟨rfl, ?_⟩;conv=>whnf)
     | ((refine aW [] (by kernel_rfl) (hid) rfl ?_ ?_;(focus (trivial;done));(conv=>whnf))))
    all_goals first
     | (refine zi [(3, .lab 3)] [] ?_ ?_ ?_;(focus rfl);(focus trivial);(focus trivial);done)
     | (refine zi [(3, .lab 4)] [] ?_ ?_ ?_;(focus rfl);(focus trivial);(focus trivial);done)
     | (refine zi [(3, .lab 5)] [] ?_ ?_ ?_;(focus rfl);(focus trivial);(focus trivial);done)
   have hp3:=gu (L:=L) hp2
   generalize e3:jZ L p2 6=v3 at *
   generalize f3:jg L p2=p3 at *
   conv=>whnf
   refine aG [0] [] (by kernel_rfl) (sW L p3 8 (by decide) (by decide) (by omega) hp3) rfl (by trivial) (by trivial) ?_
   rintro _ _ _ ⟨rfl,rfl,rfl⟩
   refine⟨rfl, ?_⟩
   conv=>whnf
   have hv4:=iG L p3 8 (by decide)
   have zL:=gu (L:=L) hp3
   generalize e4:jZ L p3 8=v4 at *
   generalize f4:jg L p3=p4 at *
   have hS:wU L ⟨out,p,tm,sq,last⟩=gB L out tm sq 1 v2 sv cl v3 v4 p4:=by
    unfold wU
    dsimp only
    rw [e1,f1,e2,f2,e3,f3,e4,f4,aaO,aaP,hst]
   rcases(by omega:v4=0∨v4=1∨v4=2∨v4=3∨4≤v4)with rfl | rfl | rfl | rfl | h4
   ·conv=>whnf
    obtain⟨v5,p5,e5,f5,hv5,mQ,c5⟩:=kY hL zL 8 (by decide) (by decide)
    obtain⟨v6,p6,e6,f6,hv6,vO,c6⟩:=kY hL mQ 10 (by decide) (by decide)
    obtain⟨v7,p7,e7,f7,hv7,Es,c7⟩:=kY hL vO 12 (by decide) (by decide)
    obtain⟨v8,p8,e8,f8,XJ,zO,c8⟩:=kY hL Es 5 (by decide) (by decide)
    obtain⟨xn,hxn⟩ : ∃xn,gy[v5/7]? = some xn:=⟨_,List.getElem?_eq_getElem (by have:gy.length=4:=rfl;omega)⟩
    have hxe:xn=gy.getD (v5/7) []:=by rw [List.getD_eq_getElem?_getD,hxn,Option.getD_some]
    (refine bK jq [0,3] (by kernel_rfl) ?_;conv=>whnf)
    (refine ak [] (by kernel_rfl) (sZ) ?_ ?_;(focus trivial))
    rintro _ _ _ ⟨rfl,rfl,rfl⟩
    conv=>whnf
    repeat' (first
     | (refine And.intro ?_ ?_<;>(conv=>whnf))
     | (refine aG [0] [] (by kernel_rfl) c5 rfl ?_ ?_ ?_;(focus (trivial;done));(focus (trivial;done));rintro _ _ _ ⟨rfl,rfl,rfl⟩;refine⟨rfl, ?_⟩;conv=>whnf)
     | (refine aG [0] [] (by kernel_rfl) c6 rfl ?_ ?_ ?_;(focus (trivial;done));(focus (trivial;done));rintro _ _ _ ⟨rfl,rfl,rfl⟩;refine⟨rfl, ?_⟩;conv=>whnf)
     | (refine aG [0] [] (by kernel_rfl) c7 rfl ?_ ?_ ?_;(focus (trivial;done));(focus (trivial;done));rintro _ _ _ ⟨rfl,rfl,rfl⟩;refine⟨rfl, ?_⟩;conv=>whnf)
     | (refine aG [0] [] (by kernel_rfl) c8 rfl ?_ ?_ ?_;(focus (trivial;done));(focus (trivial;done));rintro _ _ _ ⟨rfl,rfl,rfl⟩;refine⟨rfl, ?_⟩;conv=>whnf)
     | (refine ay.mk (by decide) ?_;conv=>whnf)
     | (refine bD.mk' (v5/7) rfl (by rw [List.length_map];have:gy.length=4:=rfl;omega) ?_;conv=>whnf)
     | (refine aT.aB hxn ?_;conv=>whnf)
     | (refine aK.div v5 7 (by omega) ?_;conv=>whnf)
     | (refine aK.div v7 11 (by omega) ?_;conv=>whnf)
     | (refine aK.div v8 4 (by omega) ?_;conv=>whnf)
     | (refine aK.to (y:=((1+v6%9%2:Nat):Int)) ?_ ?_;(focus (rw [show (1:Int)+((v6:Int).tmod 9).tmod 2=((1+v6%9%2:Nat):Int)from rfl];exact IntWalk.i64_in _ (by omega)));conv=>whnf)
     | (refine aK.i64 ?_ ?_;(focus omega);conv=>whnf))
    have hZ : ∀k,k<3→gB L out tm sq 1 v2 sv cl v3 k p4=Ce L out tm sq 1 v2 sv cl v3 v5 v6 v7 v8 p8:=fun k hk=>by unfold gB;rw [if_pos hk,e5,f5,e6,f6,e7,f7,e8,f8]
    unfold Ce at hZ
    rw [←hxe]at hZ
    refine ay.mk (aF (by simp only [List.length_map,List.length_cons,List.length_nil];omega) (by kernel_rfl)) ?_
    conv=>whnf
    exact aI ⟨out++ [⟨cl,(sv:Int)+1,1,(tm:Int)+1,dY v3,xn,[],1+((v8/4:Nat):Int),((1+v6%9%2:Nat):Int)+((v7/11:Nat):Int),0⟩],p8,tm+1,sq.set v2 (sv+1),v2⟩ [(2, .lab 6)] [] rfl (by show 60 -(out++ [_]).length<60-out.length;rw [List.length_append];simp;omega) ⟨hJ.next hlt zO (by omega) hv2 og rfl ⟨hcm,⟨v3,hv3,rfl⟩,(by dsimp only;omega),(by dsimp only;omega), .inl ⟨rfl,⟨v5/7,by omega,hxe⟩,rfl,(by dsimp only;omega),(by dsimp only;omega),rfl⟩⟩,hE.trans (eP (x:=⟨out,p,tm,sq,last⟩) hmo hlt (hS.trans (hZ _ (by decide))) (dB _ _))⟩ ⟨(by trivial),⟨rfl,rfl,List.map_set.symm⟩,⟨rfl,rfl,eG out ⟨cl,(sv:Int)+1,1,(tm:Int)+1,dY v3,xn,[],1+((v8/4:Nat):Int),((1+v6%9%2:Nat):Int)+((v7/11:Nat):Int),0⟩⟩,trivial⟩ ⟨rfl,rfl,rfl,trivial⟩
   ·conv=>whnf
    obtain⟨v5,p5,e5,f5,hv5,mQ,c5⟩:=kY hL zL 8 (by decide) (by decide)
    obtain⟨v6,p6,e6,f6,hv6,vO,c6⟩:=kY hL mQ 10 (by decide) (by decide)
    obtain⟨v7,p7,e7,f7,hv7,Es,c7⟩:=kY hL vO 12 (by decide) (by decide)
    obtain⟨v8,p8,e8,f8,XJ,zO,c8⟩:=kY hL Es 5 (by decide) (by decide)
    obtain⟨xn,hxn⟩ : ∃xn,gy[v5/7]? = some xn:=⟨_,List.getElem?_eq_getElem (by have:gy.length=4:=rfl;omega)⟩
    have hxe:xn=gy.getD (v5/7) []:=by rw [List.getD_eq_getElem?_getD,hxn,Option.getD_some]
    (refine bK jq [0,3] (by kernel_rfl) ?_;conv=>whnf)
    (refine ak [] (by kernel_rfl) (sZ) ?_ ?_;(focus trivial))
    rintro _ _ _ ⟨rfl,rfl,rfl⟩
    conv=>whnf
    repeat' (first
     | (refine And.intro ?_ ?_<;>(conv=>whnf))
     | (refine aG [0] [] (by kernel_rfl) c5 rfl ?_ ?_ ?_;(focus (trivial;done));(focus (trivial;done));rintro _ _ _ ⟨rfl,rfl,rfl⟩;refine⟨rfl, ?_⟩;conv=>whnf)
     | (refine aG [0] [] (by kernel_rfl) c6 rfl ?_ ?_ ?_;(focus (trivial;done));(focus (trivial;done));rintro _ _ _ ⟨rfl,rfl,rfl⟩;refine⟨rfl, ?_⟩;conv=>whnf)
     | (refine aG [0] [] (by kernel_rfl) c7 rfl ?_ ?_ ?_;(focus (trivial;done));(focus (trivial;done));rintro _ _ _ ⟨rfl,rfl,rfl⟩;refine⟨rfl, ?_⟩;conv=>whnf)
     | (refine aG [0] [] (by kernel_rfl) c8 rfl ?_ ?_ ?_;(focus (trivial;done));(focus (trivial;done));rintro _ _ _ ⟨rfl,rfl,rfl⟩;refine⟨rfl, ?_⟩;conv=>whnf)
     | (refine ay.mk (by decide) ?_;conv=>whnf)
     | (refine bD.mk' (v5/7) rfl (by rw [List.length_map];have:gy.length=4:=rfl;omega) ?_;conv=>whnf)
     | (refine aT.aB hxn ?_;conv=>whnf)
     | (refine aK.div v5 7 (by omega) ?_;conv=>whnf)
     | (refine aK.div v7 11 (by omega) ?_;conv=>whnf)
     | (refine aK.div v8 4 (by omega) ?_;conv=>whnf)
     | (refine aK.to (y:=((1+v6%9%2:Nat):Int)) ?_ ?_;(focus (rw [show (1:Int)+((v6:Int).tmod 9).tmod 2=((1+v6%9%2:Nat):Int)from rfl];exact IntWalk.i64_in _ (by omega)));conv=>whnf)
     | (refine aK.i64 ?_ ?_;(focus omega);conv=>whnf))
    have hZ : ∀k,k<3→gB L out tm sq 1 v2 sv cl v3 k p4=Ce L out tm sq 1 v2 sv cl v3 v5 v6 v7 v8 p8:=fun k hk=>by unfold gB;rw [if_pos hk,e5,f5,e6,f6,e7,f7,e8,f8]
    unfold Ce at hZ
    rw [←hxe]at hZ
    refine ay.mk (aF (by simp only [List.length_map,List.length_cons,List.length_nil];omega) (by kernel_rfl)) ?_
    conv=>whnf
    exact aI ⟨out++ [⟨cl,(sv:Int)+1,1,(tm:Int)+1,dY v3,xn,[],1+((v8/4:Nat):Int),((1+v6%9%2:Nat):Int)+((v7/11:Nat):Int),0⟩],p8,tm+1,sq.set v2 (sv+1),v2⟩ [(2, .lab 6)] [] rfl (by show 60 -(out++ [_]).length<60-out.length;rw [List.length_append];simp;omega) ⟨hJ.next hlt zO (by omega) hv2 og rfl ⟨hcm,⟨v3,hv3,rfl⟩,(by dsimp only;omega),(by dsimp only;omega), .inl ⟨rfl,⟨v5/7,by omega,hxe⟩,rfl,(by dsimp only;omega),(by dsimp only;omega),rfl⟩⟩,hE.trans (eP (x:=⟨out,p,tm,sq,last⟩) hmo hlt (hS.trans (hZ _ (by decide))) (dB _ _))⟩ ⟨(by trivial),⟨rfl,rfl,List.map_set.symm⟩,⟨rfl,rfl,eG out ⟨cl,(sv:Int)+1,1,(tm:Int)+1,dY v3,xn,[],1+((v8/4:Nat):Int),((1+v6%9%2:Nat):Int)+((v7/11:Nat):Int),0⟩⟩,trivial⟩ ⟨rfl,rfl,rfl,trivial⟩
   ·conv=>whnf
    obtain⟨v5,p5,e5,f5,hv5,mQ,c5⟩:=kY hL zL 8 (by decide) (by decide)
    obtain⟨v6,p6,e6,f6,hv6,vO,c6⟩:=kY hL mQ 10 (by decide) (by decide)
    obtain⟨v7,p7,e7,f7,hv7,Es,c7⟩:=kY hL vO 12 (by decide) (by decide)
    obtain⟨v8,p8,e8,f8,XJ,zO,c8⟩:=kY hL Es 5 (by decide) (by decide)
    obtain⟨xn,hxn⟩ : ∃xn,gy[v5/7]? = some xn:=⟨_,List.getElem?_eq_getElem (by have:gy.length=4:=rfl;omega)⟩
    have hxe:xn=gy.getD (v5/7) []:=by rw [List.getD_eq_getElem?_getD,hxn,Option.getD_some]
    (refine bK jq [0,3] (by kernel_rfl) ?_;conv=>whnf)
    (refine ak [] (by kernel_rfl) (sZ) ?_ ?_;(focus trivial))
    rintro _ _ _ ⟨rfl,rfl,rfl⟩
    conv=>whnf
    repeat' (first
     | (refine And.intro ?_ ?_<;>(conv=>whnf))
     | (refine aG [0] [] (by kernel_rfl) c5 rfl ?_ ?_ ?_;(focus (trivial;done));(focus (trivial;done));rintro _ _ _ ⟨rfl,rfl,rfl⟩;refine⟨rfl, ?_⟩;conv=>whnf)
     | (refine aG [0] [] (by kernel_rfl) c6 rfl ?_ ?_ ?_;(focus (trivial;done));(focus (trivial;done));rintro _ _ _ ⟨rfl,rfl,rfl⟩;refine⟨rfl, ?_⟩;conv=>whnf)
     | (refine aG [0] [] (by kernel_rfl) c7 rfl ?_ ?_ ?_;(focus (trivial;done));(focus (trivial;done));rintro _ _ _ ⟨rfl,rfl,rfl⟩;refine⟨rfl, ?_⟩;conv=>whnf)
     | (refine aG [0] [] (by kernel_rfl) c8 rfl ?_ ?_ ?_;(focus (trivial;done));(focus (trivial;done));rintro _ _ _ ⟨rfl,rfl,rfl⟩;refine⟨rfl, ?_⟩;conv=>whnf)
     | (refine ay.mk (by decide) ?_;conv=>whnf)
     | (refine bD.mk' (v5/7) rfl (by rw [List.length_map];have:gy.length=4:=rfl;omega) ?_;conv=>whnf)
     | (refine aT.aB hxn ?_;conv=>whnf)
     | (refine aK.div v5 7 (by omega) ?_;conv=>whnf)
     | (refine aK.div v7 11 (by omega) ?_;conv=>whnf)
     | (refine aK.div v8 4 (by omega) ?_;conv=>whnf)
     | (refine aK.to (y:=((1+v6%9%2:Nat):Int)) ?_ ?_;(focus (rw [show (1:Int)+((v6:Int).tmod 9).tmod 2=((1+v6%9%2:Nat):Int)from rfl];exact IntWalk.i64_in _ (by omega)));conv=>whnf)
     | (refine aK.i64 ?_ ?_;(focus omega);conv=>whnf))
    have hZ : ∀k,k<3→gB L out tm sq 1 v2 sv cl v3 k p4=Ce L out tm sq 1 v2 sv cl v3 v5 v6 v7 v8 p8:=fun k hk=>by unfold gB;rw [if_pos hk,e5,f5,e6,f6,e7,f7,e8,f8]
    unfold Ce at hZ
    rw [←hxe]at hZ
    refine ay.mk (aF (by simp only [List.length_map,List.length_cons,List.length_nil];omega) (by kernel_rfl)) ?_
    conv=>whnf
    exact aI ⟨out++ [⟨cl,(sv:Int)+1,1,(tm:Int)+1,dY v3,xn,[],1+((v8/4:Nat):Int),((1+v6%9%2:Nat):Int)+((v7/11:Nat):Int),0⟩],p8,tm+1,sq.set v2 (sv+1),v2⟩ [(2, .lab 6)] [] rfl (by show 60 -(out++ [_]).length<60-out.length;rw [List.length_append];simp;omega) ⟨hJ.next hlt zO (by omega) hv2 og rfl ⟨hcm,⟨v3,hv3,rfl⟩,(by dsimp only;omega),(by dsimp only;omega), .inl ⟨rfl,⟨v5/7,by omega,hxe⟩,rfl,(by dsimp only;omega),(by dsimp only;omega),rfl⟩⟩,hE.trans (eP (x:=⟨out,p,tm,sq,last⟩) hmo hlt (hS.trans (hZ _ (by decide))) (dB _ _))⟩ ⟨(by trivial),⟨rfl,rfl,List.map_set.symm⟩,⟨rfl,rfl,eG out ⟨cl,(sv:Int)+1,1,(tm:Int)+1,dY v3,xn,[],1+((v8/4:Nat):Int),((1+v6%9%2:Nat):Int)+((v7/11:Nat):Int),0⟩⟩,trivial⟩ ⟨rfl,rfl,rfl,trivial⟩
   ·conv=>whnf
    obtain⟨v5,p5,e5,f5,hv5,mQ,c5⟩:=kY hL zL 6 (by decide) (by decide)
    refine aG [0] [] (by kernel_rfl) c5 rfl ?_ ?_ ?_;(focus (trivial;done));(focus (trivial;done));rintro _ _ _ ⟨rfl,rfl,rfl⟩;refine⟨rfl, ?_⟩;conv=>whnf
    (refine bK jq [] (by kernel_rfl) ?_;conv=>whnf)
    have hi5:bC Tryz.prog GS 94 [iv v5] 0 [] (Is (tv (dY v5))):=bC.up (JE _ (by omega)) GS
    have hi6:bC Tryz.prog GS 94 [iv ((v5:Int)+1)] 0 [] (Is (tv (dY (v5+1)))):=bC.up (JE (v5+1) (by omega)) GS
    (refine aW [] (by kernel_rfl) (hi5) rfl ?_ ?_;(focus (trivial;done));(conv=>whnf))
    apply ah<;>intro h
    ·conv=>whnf
     refine aK.i64 (by omega) ?_
     conv=>whnf
     (refine aW [] (by kernel_rfl) (hi6) rfl ?_ ?_;(focus (trivial;done));(conv=>whnf))
     have hid:dY v5=dY v3:=by have h:=h;rw [kQ,decide_eq_true_eq]at h;exact h
     have hZ:gB L out tm sq 1 v2 sv cl v3 3 p4=LM L out tm sq 1 v2 sv cl v3 v5 p5:=by unfold gB;rw [if_neg (by decide),if_pos rfl,e5,f5]
     unfold LM at hZ
     rw [if_pos hid]at hZ
     refine ay.mk (aF (by simp only [List.length_map,List.length_cons,List.length_nil];omega) (by kernel_rfl)) ?_
     conv=>whnf
     exact aI ⟨out++ [⟨cl,(sv:Int)+1,3,(tm:Int)+1,dY v3,[],dY (v5+1),0,0,0⟩],p5,tm+1,sq.set v2 (sv+1),v2⟩ [(2, .lab 5)] [] rfl (by show 60 -(out++ [_]).length<60-out.length;rw [List.length_append];simp;omega) ⟨hJ.next hlt mQ (by omega) hv2 og rfl ⟨hcm,⟨v3,hv3,rfl⟩,(by dsimp only;omega),(by dsimp only;omega), .inr (.inr ⟨rfl,rfl,⟨v5+1,by omega,rfl⟩,xY hv5 hv3 h,rfl,rfl,rfl⟩)⟩,hE.trans (eP (x:=⟨out,p,tm,sq,last⟩) hmo hlt (hS.trans hZ) (dB _ _))⟩ ⟨(by trivial),⟨rfl,rfl,List.map_set.symm⟩,⟨rfl,rfl,eG out ⟨cl,(sv:Int)+1,3,(tm:Int)+1,dY v3,[],dY (v5+1),0,0,0⟩⟩,trivial⟩ ⟨rfl,rfl,rfl,trivial⟩
    ·conv=>whnf
     (refine aW [] (by kernel_rfl) (hi5) rfl ?_ ?_;(focus (trivial;done));(conv=>whnf))
     have hZ:gB L out tm sq 1 v2 sv cl v3 3 p4=LM L out tm sq 1 v2 sv cl v3 v5 p5:=by unfold gB;rw [if_neg (by decide),if_pos rfl,e5,f5]
     unfold LM at hZ
     rw [if_neg (pR h)]at hZ
     refine ay.mk (aF (by simp only [List.length_map,List.length_cons,List.length_nil];omega) (by kernel_rfl)) ?_
     conv=>whnf
     exact aI ⟨out++ [⟨cl,(sv:Int)+1,3,(tm:Int)+1,dY v3,[],dY v5,0,0,0⟩],p5,tm+1,sq.set v2 (sv+1),v2⟩ [(2, .lab 5)] [] rfl (by show 60 -(out++ [_]).length<60-out.length;rw [List.length_append];simp;omega) ⟨hJ.next hlt mQ (by omega) hv2 og rfl ⟨hcm,⟨v3,hv3,rfl⟩,(by dsimp only;omega),(by dsimp only;omega), .inr (.inr ⟨rfl,rfl,⟨v5,by omega,rfl⟩,pR h,rfl,rfl,rfl⟩)⟩,hE.trans (eP (x:=⟨out,p,tm,sq,last⟩) hmo hlt (hS.trans hZ) (dB _ _))⟩ ⟨(by trivial),⟨rfl,rfl,List.map_set.symm⟩,⟨rfl,rfl,eG out ⟨cl,(sv:Int)+1,3,(tm:Int)+1,dY v3,[],dY v5,0,0,0⟩⟩,trivial⟩ ⟨rfl,rfl,rfl,trivial⟩
   ·repeat' (refine oU (beq_eq_false_iff_ne.2 (by omega)) ?_;conv=>whnf)
    obtain⟨v5,p5,e5,f5,hv5,mQ,c5⟩:=kY hL zL 3 (by decide) (by decide)
    obtain⟨v6,p6,e6,f6,hv6,vO,c6⟩:=kY hL mQ 40 (by decide) (by decide)
    obtain⟨xn,hxn⟩ : ∃xn,oQ[v5/2]? = some xn:=⟨_,List.getElem?_eq_getElem (by have:oQ.length=2:=rfl;omega)⟩
    have hxe:xn=oQ.getD (v5/2) []:=by rw [List.getD_eq_getElem?_getD,hxn,Option.getD_some]
    (refine bK jq [0,3] (by kernel_rfl) ?_;conv=>whnf)
    (refine ak [] (by kernel_rfl) (SQ) ?_ ?_;(focus trivial))
    rintro _ _ _ ⟨rfl,rfl,rfl⟩
    conv=>whnf
    repeat' (first
     | (refine And.intro ?_ ?_<;>(conv=>whnf))
     | (refine aG [0] [] (by kernel_rfl) c5 rfl ?_ ?_ ?_;(focus (trivial;done));(focus (trivial;done));rintro _ _ _ ⟨rfl,rfl,rfl⟩;refine⟨rfl, ?_⟩;conv=>whnf)
     | (refine aG [0] [] (by kernel_rfl) c6 rfl ?_ ?_ ?_;(focus (trivial;done));(focus (trivial;done));rintro _ _ _ ⟨rfl,rfl,rfl⟩;refine⟨rfl, ?_⟩;conv=>whnf)
     | (refine ay.mk (by decide) ?_;conv=>whnf)
     | (refine bD.mk' (v5/2) rfl (by rw [List.length_map];have:oQ.length=2:=rfl;omega) ?_;conv=>whnf)
     | (refine aT.aB hxn ?_;conv=>whnf)
     | (refine aK.div v5 2 (by omega) ?_;conv=>whnf)
     | (refine aK.i64 ?_ ?_;(focus omega);conv=>whnf))
    have hZ:gB L out tm sq 1 v2 sv cl v3 v4 p4=Yq L out tm sq 1 v2 sv cl v3 v5 v6 p6:=by unfold gB;rw [if_neg (by omega),if_neg (by omega),e5,f5,e6,f6]
    unfold Yq at hZ
    rw [←hxe]at hZ
    refine ay.mk (aF (by simp only [List.length_map,List.length_cons,List.length_nil];omega) (by kernel_rfl)) ?_
    conv=>whnf
    exact aI ⟨out++ [⟨cl,(sv:Int)+1,2,(tm:Int)+1,dY v3,xn,[],0,0,(v6:Int)-4⟩],p6,tm+1,sq.set v2 (sv+1),v2⟩ [(2, .lab 6)] [] rfl (by show 60 -(out++ [_]).length<60-out.length;rw [List.length_append];simp;omega) ⟨hJ.next hlt vO (by omega) hv2 og rfl ⟨hcm,⟨v3,hv3,rfl⟩,(by dsimp only;omega),(by dsimp only;omega), .inr (.inl ⟨rfl,⟨v5/2,by omega,hxe⟩,rfl,rfl,rfl,(by dsimp only;omega)⟩)⟩,hE.trans (eP (x:=⟨out,p,tm,sq,last⟩) hmo hlt (hS.trans hZ) (dB _ _))⟩ ⟨(by trivial),⟨rfl,rfl,List.map_set.symm⟩,⟨rfl,rfl,eG out ⟨cl,(sv:Int)+1,2,(tm:Int)+1,dY v3,xn,[],0,0,(v6:Int)-4⟩⟩,trivial⟩ ⟨rfl,rfl,rfl,trivial⟩
  ·have hst:(if v1=0∧((v2:Nat):Int)<last then 1 else v1)=v1:=if_neg (fun hx=>by have:=hx.2;simp at hc;omega)
   conv=>whnf
   refine aK.i64 (by dsimp only;omega) ?_
   conv=>whnf
   refine bD.mk' v2 rfl (by rw [List.length_map,hsl];exact hv2) ?_
   conv=>whnf
   refine aT.aB hsv ?_
   conv=>whnf
   refine aK.i64 (by omega) ?_
   conv=>whnf
   refine bD.mk' v2 rfl (by rw [List.length_map,hsl];exact hv2) ?_
   conv=>whnf
   refine aT.aB hsv ?_
   conv=>whnf
   refine zh jq [0] [(10,10),(44,56)] 4 [(10, .ptr 3 0)] [(0,JF L (jg L p2)),(1, .rows 3 1 (((sq.map enN).set v2 (enN (sv+1))))),(2, .rows 95 10 (out.map iE)),(3, .var 95 [tv cl,iv ((sv:Int)+1),iv 0,iv ((tm:Int)+v1),tv (dY (jZ L p2 6)),tv [],tv [],iv 0,iv 0,iv 0])] (by kernel_rfl) (by kernel_rfl) ?_ ?_
   ·conv=>whnf
    repeat' (first
     | (refine And.intro ?_ ?_<;>(conv=>whnf))
     | (refine bD.mk' v2 rfl hv2 ?_;conv=>whnf)
     | (refine aT.aB (enc:=wQ) (xs:=vN) hcl ?_;conv=>whnf)
     | (refine bD.mk' v2 rfl (by rw [List.length_set,List.length_map,hsl];exact hv2) ?_;conv=>whnf)
     | (refine aT.set (by rw [List.length_map,hsl];exact hv2) ?_;conv=>whnf)
     | (refine aG [0] [] (by kernel_rfl) (sW L p2 6 (by decide) (by decide) (by omega) hp2) rfl (by trivial) (by trivial) ?_;rintro _ _ _ ⟨rfl,rfl,rfl⟩;refine⟨rfl, ?_⟩;conv=>whnf)
     | ((refine aW [] (by kernel_rfl) (hid) rfl ?_ ?_;(focus (trivial;done));(conv=>whnf))))
    all_goals first
     | (refine zi [(3, .lab 3)] [] ?_ ?_ ?_;(focus rfl);(focus trivial);(focus trivial);done)
     | (refine zi [(3, .lab 4)] [] ?_ ?_ ?_;(focus rfl);(focus trivial);(focus trivial);done)
     | (refine zi [(3, .lab 5)] [] ?_ ?_ ?_;(focus rfl);(focus trivial);(focus trivial);done)
   have hp3:=gu (L:=L) hp2
   generalize e3:jZ L p2 6=v3 at *
   generalize f3:jg L p2=p3 at *
   conv=>whnf
   refine aG [0] [] (by kernel_rfl) (sW L p3 8 (by decide) (by decide) (by omega) hp3) rfl (by trivial) (by trivial) ?_
   rintro _ _ _ ⟨rfl,rfl,rfl⟩
   refine⟨rfl, ?_⟩
   conv=>whnf
   have hv4:=iG L p3 8 (by decide)
   have zL:=gu (L:=L) hp3
   generalize e4:jZ L p3 8=v4 at *
   generalize f4:jg L p3=p4 at *
   have hS:wU L ⟨out,p,tm,sq,last⟩=gB L out tm sq v1 v2 sv cl v3 v4 p4:=by
    unfold wU
    dsimp only
    rw [e1,f1,e2,f2,e3,f3,e4,f4,aaO,aaP,hst]
   rcases(by omega:v4=0∨v4=1∨v4=2∨v4=3∨4≤v4)with rfl | rfl | rfl | rfl | h4
   ·conv=>whnf
    obtain⟨v5,p5,e5,f5,hv5,mQ,c5⟩:=kY hL zL 8 (by decide) (by decide)
    obtain⟨v6,p6,e6,f6,hv6,vO,c6⟩:=kY hL mQ 10 (by decide) (by decide)
    obtain⟨v7,p7,e7,f7,hv7,Es,c7⟩:=kY hL vO 12 (by decide) (by decide)
    obtain⟨v8,p8,e8,f8,XJ,zO,c8⟩:=kY hL Es 5 (by decide) (by decide)
    obtain⟨xn,hxn⟩ : ∃xn,gy[v5/7]? = some xn:=⟨_,List.getElem?_eq_getElem (by have:gy.length=4:=rfl;omega)⟩
    have hxe:xn=gy.getD (v5/7) []:=by rw [List.getD_eq_getElem?_getD,hxn,Option.getD_some]
    (refine bK jq [0,3] (by kernel_rfl) ?_;conv=>whnf)
    (refine ak [] (by kernel_rfl) (sZ) ?_ ?_;(focus trivial))
    rintro _ _ _ ⟨rfl,rfl,rfl⟩
    conv=>whnf
    repeat' (first
     | (refine And.intro ?_ ?_<;>(conv=>whnf))
     | (refine aG [0] [] (by kernel_rfl) c5 rfl ?_ ?_ ?_;(focus (trivial;done));(focus (trivial;done));rintro _ _ _ ⟨rfl,rfl,rfl⟩;refine⟨rfl, ?_⟩;conv=>whnf)
     | (refine aG [0] [] (by kernel_rfl) c6 rfl ?_ ?_ ?_;(focus (trivial;done));(focus (trivial;done));rintro _ _ _ ⟨rfl,rfl,rfl⟩;refine⟨rfl, ?_⟩;conv=>whnf)
     | (refine aG [0] [] (by kernel_rfl) c7 rfl ?_ ?_ ?_;(focus (trivial;done));(focus (trivial;done));rintro _ _ _ ⟨rfl,rfl,rfl⟩;refine⟨rfl, ?_⟩;conv=>whnf)
     | (refine aG [0] [] (by kernel_rfl) c8 rfl ?_ ?_ ?_;(focus (trivial;done));(focus (trivial;done));rintro _ _ _ ⟨rfl,rfl,rfl⟩;refine⟨rfl, ?_⟩;conv=>whnf)
     | (refine ay.mk (by decide) ?_;conv=>whnf)
     | (refine bD.mk' (v5/7) rfl (by rw [List.length_map];have:gy.length=4:=rfl;omega) ?_;conv=>whnf)
     | (refine aT.aB hxn ?_;conv=>whnf)
     | (refine aK.div v5 7 (by omega) ?_;conv=>whnf)
     | (refine aK.div v7 11 (by omega) ?_;conv=>whnf)
     | (refine aK.div v8 4 (by omega) ?_;conv=>whnf)
     | (refine aK.to (y:=((1+v6%9%2:Nat):Int)) ?_ ?_;(focus (rw [show (1:Int)+((v6:Int).tmod 9).tmod 2=((1+v6%9%2:Nat):Int)from rfl];exact IntWalk.i64_in _ (by omega)));conv=>whnf)
     | (refine aK.i64 ?_ ?_;(focus omega);conv=>whnf))
    have hZ : ∀k,k<3→gB L out tm sq v1 v2 sv cl v3 k p4=Ce L out tm sq v1 v2 sv cl v3 v5 v6 v7 v8 p8:=fun k hk=>by unfold gB;rw [if_pos hk,e5,f5,e6,f6,e7,f7,e8,f8]
    unfold Ce at hZ
    rw [←hxe]at hZ
    refine ay.mk (aF (by simp only [List.length_map,List.length_cons,List.length_nil];omega) (by kernel_rfl)) ?_
    conv=>whnf
    exact aI ⟨out++ [⟨cl,(sv:Int)+1,1,(tm:Int)+v1,dY v3,xn,[],1+((v8/4:Nat):Int),((1+v6%9%2:Nat):Int)+((v7/11:Nat):Int),0⟩],p8,tm+v1,sq.set v2 (sv+1),v2⟩ [(2, .lab 6)] [] rfl (by show 60 -(out++ [_]).length<60-out.length;rw [List.length_append];simp;omega) ⟨hJ.next hlt zO (by omega) hv2 og rfl ⟨hcm,⟨v3,hv3,rfl⟩,(by dsimp only;omega),(by dsimp only;omega), .inl ⟨rfl,⟨v5/7,by omega,hxe⟩,rfl,(by dsimp only;omega),(by dsimp only;omega),rfl⟩⟩,hE.trans (eP (x:=⟨out,p,tm,sq,last⟩) hmo hlt (hS.trans (hZ _ (by decide))) (dB _ _))⟩ ⟨(by trivial),⟨rfl,rfl,List.map_set.symm⟩,⟨rfl,rfl,eG out ⟨cl,(sv:Int)+1,1,(tm:Int)+v1,dY v3,xn,[],1+((v8/4:Nat):Int),((1+v6%9%2:Nat):Int)+((v7/11:Nat):Int),0⟩⟩,trivial⟩ ⟨rfl,rfl,rfl,trivial⟩
   ·conv=>whnf
    obtain⟨v5,p5,e5,f5,hv5,mQ,c5⟩:=kY hL zL 8 (by decide) (by decide)
    obtain⟨v6,p6,e6,f6,hv6,vO,c6⟩:=kY hL mQ 10 (by decide) (by decide)
    obtain⟨v7,p7,e7,f7,hv7,Es,c7⟩:=kY hL vO 12 (by decide) (by decide)
    obtain⟨v8,p8,e8,f8,XJ,zO,c8⟩:=kY hL Es 5 (by decide) (by decide)
    obtain⟨xn,hxn⟩ : ∃xn,gy[v5/7]? = some xn:=⟨_,List.getElem?_eq_getElem (by have:gy.length=4:=rfl;omega)⟩
    have hxe:xn=gy.getD (v5/7) []:=by rw [List.getD_eq_getElem?_getD,hxn,Option.getD_some]
    (refine bK jq [0,3] (by kernel_rfl) ?_;conv=>whnf)
    (refine ak [] (by kernel_rfl) (sZ) ?_ ?_;(focus trivial))
    rintro _ _ _ ⟨rfl,rfl,rfl⟩
    conv=>whnf
    repeat' (first
     | (refine And.intro ?_ ?_<;>(conv=>whnf))
     | (refine aG [0] [] (by kernel_rfl) c5 rfl ?_ ?_ ?_;(focus (trivial;done));(focus (trivial;done));rintro _ _ _ ⟨rfl,rfl,rfl⟩;refine⟨rfl, ?_⟩;conv=>whnf)
     | (refine aG [0] [] (by kernel_rfl) c6 rfl ?_ ?_ ?_;(focus (trivial;done));(focus (trivial;done));rintro _ _ _ ⟨rfl,rfl,rfl⟩;refine⟨rfl, ?_⟩;conv=>whnf)
     | (refine aG [0] [] (by kernel_rfl) c7 rfl ?_ ?_ ?_;(focus (trivial;done));(focus (trivial;done));rintro _ _ _ ⟨rfl,rfl,rfl⟩;refine⟨rfl, ?_⟩;conv=>whnf)
     | (refine aG [0] [] (by kernel_rfl) c8 rfl ?_ ?_ ?_;(focus (trivial;done));(focus (trivial;done));rintro _ _ _ ⟨rfl,rfl,rfl⟩;refine⟨rfl, ?_⟩;conv=>whnf)
     | (refine ay.mk (by decide) ?_;conv=>whnf)
     | (refine bD.mk' (v5/7) rfl (by rw [List.length_map];have:gy.length=4:=rfl;omega) ?_;conv=>whnf)
     | (refine aT.aB hxn ?_;conv=>whnf)
     | (refine aK.div v5 7 (by omega) ?_;conv=>whnf)
     | (refine aK.div v7 11 (by omega) ?_;conv=>whnf)
     | (refine aK.div v8 4 (by omega) ?_;conv=>whnf)
     | (refine aK.to (y:=((1+v6%9%2:Nat):Int)) ?_ ?_;(focus (rw [show (1:Int)+((v6:Int).tmod 9).tmod 2=((1+v6%9%2:Nat):Int)from rfl];exact IntWalk.i64_in _ (by omega)));conv=>whnf)
     | (refine aK.i64 ?_ ?_;(focus omega);conv=>whnf))
    have hZ : ∀k,k<3→gB L out tm sq v1 v2 sv cl v3 k p4=Ce L out tm sq v1 v2 sv cl v3 v5 v6 v7 v8 p8:=fun k hk=>by unfold gB;rw [if_pos hk,e5,f5,e6,f6,e7,f7,e8,f8]
    unfold Ce at hZ
    rw [←hxe]at hZ
    refine ay.mk (aF (by simp only [List.length_map,List.length_cons,List.length_nil];omega) (by kernel_rfl)) ?_
    conv=>whnf
    exact aI ⟨out++ [⟨cl,(sv:Int)+1,1,(tm:Int)+v1,dY v3,xn,[],1+((v8/4:Nat):Int),((1+v6%9%2:Nat):Int)+((v7/11:Nat):Int),0⟩],p8,tm+v1,sq.set v2 (sv+1),v2⟩ [(2, .lab 6)] [] rfl (by show 60 -(out++ [_]).length<60-out.length;rw [List.length_append];simp;omega) ⟨hJ.next hlt zO (by omega) hv2 og rfl ⟨hcm,⟨v3,hv3,rfl⟩,(by dsimp only;omega),(by dsimp only;omega), .inl ⟨rfl,⟨v5/7,by omega,hxe⟩,rfl,(by dsimp only;omega),(by dsimp only;omega),rfl⟩⟩,hE.trans (eP (x:=⟨out,p,tm,sq,last⟩) hmo hlt (hS.trans (hZ _ (by decide))) (dB _ _))⟩ ⟨(by trivial),⟨rfl,rfl,List.map_set.symm⟩,⟨rfl,rfl,eG out ⟨cl,(sv:Int)+1,1,(tm:Int)+v1,dY v3,xn,[],1+((v8/4:Nat):Int),((1+v6%9%2:Nat):Int)+((v7/11:Nat):Int),0⟩⟩,trivial⟩ ⟨rfl,rfl,rfl,trivial⟩
   ·conv=>whnf
    obtain⟨v5,p5,e5,f5,hv5,mQ,c5⟩:=kY hL zL 8 (by decide) (by decide)
    obtain⟨v6,p6,e6,f6,hv6,vO,c6⟩:=kY hL mQ 10 (by decide) (by decide)
    obtain⟨v7,p7,e7,f7,hv7,Es,c7⟩:=kY hL vO 12 (by decide) (by decide)
    obtain⟨v8,p8,e8,f8,XJ,zO,c8⟩:=kY hL Es 5 (by decide) (by decide)
    obtain⟨xn,hxn⟩ : ∃xn,gy[v5/7]? = some xn:=⟨_,List.getElem?_eq_getElem (by have:gy.length=4:=rfl;omega)⟩
    have hxe:xn=gy.getD (v5/7) []:=by rw [List.getD_eq_getElem?_getD,hxn,Option.getD_some]
    (refine bK jq [0,3] (by kernel_rfl) ?_;conv=>whnf)
    (refine ak [] (by kernel_rfl) (sZ) ?_ ?_;(focus trivial))
    rintro _ _ _ ⟨rfl,rfl,rfl⟩
    conv=>whnf
    repeat' (first
     | (refine And.intro ?_ ?_<;>(conv=>whnf))
     | (refine aG [0] [] (by kernel_rfl) c5 rfl ?_ ?_ ?_;(focus (trivial;done));(focus (trivial;done));rintro _ _ _ ⟨rfl,rfl,rfl⟩;refine⟨rfl, ?_⟩;conv=>whnf)
     | (refine aG [0] [] (by kernel_rfl) c6 rfl ?_ ?_ ?_;(focus (trivial;done));(focus (trivial;done));rintro _ _ _ ⟨rfl,rfl,rfl⟩;refine⟨rfl, ?_⟩;conv=>whnf)
     | (refine aG [0] [] (by kernel_rfl) c7 rfl ?_ ?_ ?_;(focus (trivial;done));(focus (trivial;done));rintro _ _ _ ⟨rfl,rfl,rfl⟩;refine⟨rfl, ?_⟩;conv=>whnf)
     | (refine aG [0] [] (by kernel_rfl) c8 rfl ?_ ?_ ?_;(focus (trivial;done));(focus (trivial;done));rintro _ _ _ ⟨rfl,rfl,rfl⟩;refine⟨rfl, ?_⟩;conv=>whnf)
     | (refine ay.mk (by decide) ?_;conv=>whnf)
     | (refine bD.mk' (v5/7) rfl (by rw [List.length_map];have:gy.length=4:=rfl;omega) ?_;conv=>whnf)
     | (refine aT.aB hxn ?_;conv=>whnf)
     | (refine aK.div v5 7 (by omega) ?_;conv=>whnf)
     | (refine aK.div v7 11 (by omega) ?_;conv=>whnf)
     | (refine aK.div v8 4 (by omega) ?_;conv=>whnf)
     | (refine aK.to (y:=((1+v6%9%2:Nat):Int)) ?_ ?_;(focus (rw [show (1:Int)+((v6:Int).tmod 9).tmod 2=((1+v6%9%2:Nat):Int)from rfl];exact IntWalk.i64_in _ (by omega)));conv=>whnf)
     | (refine aK.i64 ?_ ?_;(focus omega);conv=>whnf))
    have hZ : ∀k,k<3→gB L out tm sq v1 v2 sv cl v3 k p4=Ce L out tm sq v1 v2 sv cl v3 v5 v6 v7 v8 p8:=fun k hk=>by unfold gB;rw [if_pos hk,e5,f5,e6,f6,e7,f7,e8,f8]
    unfold Ce at hZ
    rw [←hxe]at hZ
    refine ay.mk (aF (by simp only [List.length_map,List.length_cons,List.length_nil];omega) (by kernel_rfl)) ?_
    conv=>whnf
    exact aI ⟨out++ [⟨cl,(sv:Int)+1,1,(tm:Int)+v1,dY v3,xn,[],1+((v8/4:Nat):Int),((1+v6%9%2:Nat):Int)+((v7/11:Nat):Int),0⟩],p8,tm+v1,sq.set v2 (sv+1),v2⟩ [(2, .lab 6)] [] rfl (by show 60 -(out++ [_]).length<60-out.length;rw [List.length_append];simp;omega) ⟨hJ.next hlt zO (by omega) hv2 og rfl ⟨hcm,⟨v3,hv3,rfl⟩,(by dsimp only;omega),(by dsimp only;omega), .inl ⟨rfl,⟨v5/7,by omega,hxe⟩,rfl,(by dsimp only;omega),(by dsimp only;omega),rfl⟩⟩,hE.trans (eP (x:=⟨out,p,tm,sq,last⟩) hmo hlt (hS.trans (hZ _ (by decide))) (dB _ _))⟩ ⟨(by trivial),⟨rfl,rfl,List.map_set.symm⟩,⟨rfl,rfl,eG out ⟨cl,(sv:Int)+1,1,(tm:Int)+v1,dY v3,xn,[],1+((v8/4:Nat):Int),((1+v6%9%2:Nat):Int)+((v7/11:Nat):Int),0⟩⟩,trivial⟩ ⟨rfl,rfl,rfl,trivial⟩
   ·conv=>whnf
    obtain⟨v5,p5,e5,f5,hv5,mQ,c5⟩:=kY hL zL 6 (by decide) (by decide)
    refine aG [0] [] (by kernel_rfl) c5 rfl ?_ ?_ ?_;(focus (trivial;done));(focus (trivial;done));rintro _ _ _ ⟨rfl,rfl,rfl⟩;refine⟨rfl, ?_⟩;conv=>whnf
    (refine bK jq [] (by kernel_rfl) ?_;conv=>whnf)
    have hi5:bC Tryz.prog GS 94 [iv v5] 0 [] (Is (tv (dY v5))):=bC.up (JE _ (by omega)) GS
    have hi6:bC Tryz.prog GS 94 [iv ((v5:Int)+1)] 0 [] (Is (tv (dY (v5+1)))):=bC.up (JE (v5+1) (by omega)) GS
    (refine aW [] (by kernel_rfl) (hi5) rfl ?_ ?_;(focus (trivial;done));(conv=>whnf))
    apply ah<;>intro h
    ·conv=>whnf
     refine aK.i64 (by omega) ?_
     conv=>whnf
     (refine aW [] (by kernel_rfl) (hi6) rfl ?_ ?_;(focus (trivial;done));(conv=>whnf))
     have hid:dY v5=dY v3:=by have h:=h;rw [kQ,decide_eq_true_eq]at h;exact h
     have hZ:gB L out tm sq v1 v2 sv cl v3 3 p4=LM L out tm sq v1 v2 sv cl v3 v5 p5:=by unfold gB;rw [if_neg (by decide),if_pos rfl,e5,f5]
     unfold LM at hZ
     rw [if_pos hid]at hZ
     refine ay.mk (aF (by simp only [List.length_map,List.length_cons,List.length_nil];omega) (by kernel_rfl)) ?_
     conv=>whnf
     exact aI ⟨out++ [⟨cl,(sv:Int)+1,3,(tm:Int)+v1,dY v3,[],dY (v5+1),0,0,0⟩],p5,tm+v1,sq.set v2 (sv+1),v2⟩ [(2, .lab 5)] [] rfl (by show 60 -(out++ [_]).length<60-out.length;rw [List.length_append];simp;omega) ⟨hJ.next hlt mQ (by omega) hv2 og rfl ⟨hcm,⟨v3,hv3,rfl⟩,(by dsimp only;omega),(by dsimp only;omega), .inr (.inr ⟨rfl,rfl,⟨v5+1,by omega,rfl⟩,xY hv5 hv3 h,rfl,rfl,rfl⟩)⟩,hE.trans (eP (x:=⟨out,p,tm,sq,last⟩) hmo hlt (hS.trans hZ) (dB _ _))⟩ ⟨(by trivial),⟨rfl,rfl,List.map_set.symm⟩,⟨rfl,rfl,eG out ⟨cl,(sv:Int)+1,3,(tm:Int)+v1,dY v3,[],dY (v5+1),0,0,0⟩⟩,trivial⟩ ⟨rfl,rfl,rfl,trivial⟩
    ·conv=>whnf
     (refine aW [] (by kernel_rfl) (hi5) rfl ?_ ?_;(focus (trivial;done));(conv=>whnf))
     have hZ:gB L out tm sq v1 v2 sv cl v3 3 p4=LM L out tm sq v1 v2 sv cl v3 v5 p5:=by unfold gB;rw [if_neg (by decide),if_pos rfl,e5,f5]
     unfold LM at hZ
     rw [if_neg (pR h)]at hZ
     refine ay.mk (aF (by simp only [List.length_map,List.length_cons,List.length_nil];omega) (by kernel_rfl)) ?_
     conv=>whnf
     exact aI ⟨out++ [⟨cl,(sv:Int)+1,3,(tm:Int)+v1,dY v3,[],dY v5,0,0,0⟩],p5,tm+v1,sq.set v2 (sv+1),v2⟩ [(2, .lab 5)] [] rfl (by show 60 -(out++ [_]).length<60-out.length;rw [List.length_append];simp;omega) ⟨hJ.next hlt mQ (by omega) hv2 og rfl ⟨hcm,⟨v3,hv3,rfl⟩,(by dsimp only;omega),(by dsimp only;omega), .inr (.inr ⟨rfl,rfl,⟨v5,by omega,rfl⟩,pR h,rfl,rfl,rfl⟩)⟩,hE.trans (eP (x:=⟨out,p,tm,sq,last⟩) hmo hlt (hS.trans hZ) (dB _ _))⟩ ⟨(by trivial),⟨rfl,rfl,List.map_set.symm⟩,⟨rfl,rfl,eG out ⟨cl,(sv:Int)+1,3,(tm:Int)+v1,dY v3,[],dY v5,0,0,0⟩⟩,trivial⟩ ⟨rfl,rfl,rfl,trivial⟩
   ·repeat' (refine oU (beq_eq_false_iff_ne.2 (by omega)) ?_;conv=>whnf)
    obtain⟨v5,p5,e5,f5,hv5,mQ,c5⟩:=kY hL zL 3 (by decide) (by decide)
    obtain⟨v6,p6,e6,f6,hv6,vO,c6⟩:=kY hL mQ 40 (by decide) (by decide)
    obtain⟨xn,hxn⟩ : ∃xn,oQ[v5/2]? = some xn:=⟨_,List.getElem?_eq_getElem (by have:oQ.length=2:=rfl;omega)⟩
    have hxe:xn=oQ.getD (v5/2) []:=by rw [List.getD_eq_getElem?_getD,hxn,Option.getD_some]
    (refine bK jq [0,3] (by kernel_rfl) ?_;conv=>whnf)
    (refine ak [] (by kernel_rfl) (SQ) ?_ ?_;(focus trivial))
    rintro _ _ _ ⟨rfl,rfl,rfl⟩
    conv=>whnf
    repeat' (first
     | (refine And.intro ?_ ?_<;>(conv=>whnf))
     | (refine aG [0] [] (by kernel_rfl) c5 rfl ?_ ?_ ?_;(focus (trivial;done));(focus (trivial;done));rintro _ _ _ ⟨rfl,rfl,rfl⟩;refine⟨rfl, ?_⟩;conv=>whnf)
     | (refine aG [0] [] (by kernel_rfl) c6 rfl ?_ ?_ ?_;(focus (trivial;done));(focus (trivial;done));rintro _ _ _ ⟨rfl,rfl,rfl⟩;refine⟨rfl, ?_⟩;conv=>whnf)
     | (refine ay.mk (by decide) ?_;conv=>whnf)
     | (refine bD.mk' (v5/2) rfl (by rw [List.length_map];have:oQ.length=2:=rfl;omega) ?_;conv=>whnf)
     | (refine aT.aB hxn ?_;conv=>whnf)
     | (refine aK.div v5 2 (by omega) ?_;conv=>whnf)
     | (refine aK.i64 ?_ ?_;(focus omega);conv=>whnf))
    have hZ:gB L out tm sq v1 v2 sv cl v3 v4 p4=Yq L out tm sq v1 v2 sv cl v3 v5 v6 p6:=by unfold gB;rw [if_neg (by omega),if_neg (by omega),e5,f5,e6,f6]
    unfold Yq at hZ
    rw [←hxe]at hZ
    refine ay.mk (aF (by simp only [List.length_map,List.length_cons,List.length_nil];omega) (by kernel_rfl)) ?_
    conv=>whnf
    exact aI ⟨out++ [⟨cl,(sv:Int)+1,2,(tm:Int)+v1,dY v3,xn,[],0,0,(v6:Int)-4⟩],p6,tm+v1,sq.set v2 (sv+1),v2⟩ [(2, .lab 6)] [] rfl (by show 60 -(out++ [_]).length<60-out.length;rw [List.length_append];simp;omega) ⟨hJ.next hlt vO (by omega) hv2 og rfl ⟨hcm,⟨v3,hv3,rfl⟩,(by dsimp only;omega),(by dsimp only;omega), .inr (.inl ⟨rfl,⟨v5/2,by omega,hxe⟩,rfl,rfl,rfl,(by dsimp only;omega)⟩)⟩,hE.trans (eP (x:=⟨out,p,tm,sq,last⟩) hmo hlt (hS.trans hZ) (dB _ _))⟩ ⟨(by trivial),⟨rfl,rfl,List.map_set.symm⟩,⟨rfl,rfl,eG out ⟨cl,(sv:Int)+1,2,(tm:Int)+v1,dY v3,xn,[],0,0,(v6:Int)-4⟩⟩,trivial⟩ ⟨rfl,rfl,rfl,trivial⟩
 ·have hst:(if v1=0∧((v2:Nat):Int)<last then 1 else v1)=v1:=if_neg (fun hx=>by have:=hx.1;simp at hq;omega)
  conv=>whnf
  refine aK.i64 (by dsimp only;omega) ?_
  conv=>whnf
  refine bD.mk' v2 rfl (by rw [List.length_map,hsl];exact hv2) ?_
  conv=>whnf
  refine aT.aB hsv ?_
  conv=>whnf
  refine aK.i64 (by omega) ?_
  conv=>whnf
  refine bD.mk' v2 rfl (by rw [List.length_map,hsl];exact hv2) ?_
  conv=>whnf
  refine aT.aB hsv ?_
  conv=>whnf
  refine zh jq [0] [(10,10),(44,56)] 4 [(10, .ptr 3 0)] [(0,JF L (jg L p2)),(1, .rows 3 1 (((sq.map enN).set v2 (enN (sv+1))))),(2, .rows 95 10 (out.map iE)),(3, .var 95 [tv cl,iv ((sv:Int)+1),iv 0,iv ((tm:Int)+v1),tv (dY (jZ L p2 6)),tv [],tv [],iv 0,iv 0,iv 0])] (by kernel_rfl) (by kernel_rfl) ?_ ?_
  ·conv=>whnf
   repeat' (first
    | (refine And.intro ?_ ?_<;>(conv=>whnf))
    | (refine bD.mk' v2 rfl hv2 ?_;conv=>whnf)
    | (refine aT.aB (enc:=wQ) (xs:=vN) hcl ?_;conv=>whnf)
    | (refine bD.mk' v2 rfl (by rw [List.length_set,List.length_map,hsl];exact hv2) ?_;conv=>whnf)
    | (refine aT.set (by rw [List.length_map,hsl];exact hv2) ?_;conv=>whnf)
    | (refine aG [0] [] (by kernel_rfl) (sW L p2 6 (by decide) (by decide) (by omega) hp2) rfl (by trivial) (by trivial) ?_;rintro _ _ _ ⟨rfl,rfl,rfl⟩;refine⟨rfl, ?_⟩;conv=>whnf)
    | ((refine aW [] (by kernel_rfl) (hid) rfl ?_ ?_;(focus (trivial;done));(conv=>whnf))))
   all_goals first
    | (refine zi [(3, .lab 3)] [] ?_ ?_ ?_;(focus rfl);(focus trivial);(focus trivial);done)
    | (refine zi [(3, .lab 4)] [] ?_ ?_ ?_;(focus rfl);(focus trivial);(focus trivial);done)
    | (refine zi [(3, .lab 5)] [] ?_ ?_ ?_;(focus rfl);(focus trivial);(focus trivial);done)
  have hp3:=gu (L:=L) hp2
  generalize e3:jZ L p2 6=v3 at *
  generalize f3:jg L p2=p3 at *
  conv=>whnf
  refine aG [0] [] (by kernel_rfl) (sW L p3 8 (by decide) (by decide) (by omega) hp3) rfl (by trivial) (by trivial) ?_
  rintro _ _ _ ⟨rfl,rfl,rfl⟩
  refine⟨rfl, ?_⟩
  conv=>whnf
  have hv4:=iG L p3 8 (by decide)
  have zL:=gu (L:=L) hp3
  generalize e4:jZ L p3 8=v4 at *
  generalize f4:jg L p3=p4 at *
  have hS:wU L ⟨out,p,tm,sq,last⟩=gB L out tm sq v1 v2 sv cl v3 v4 p4:=by
   unfold wU
   dsimp only
   rw [e1,f1,e2,f2,e3,f3,e4,f4,aaO,aaP,hst]
  rcases(by omega:v4=0∨v4=1∨v4=2∨v4=3∨4≤v4)with rfl | rfl | rfl | rfl | h4
  ·conv=>whnf
   obtain⟨v5,p5,e5,f5,hv5,mQ,c5⟩:=kY hL zL 8 (by decide) (by decide)
   obtain⟨v6,p6,e6,f6,hv6,vO,c6⟩:=kY hL mQ 10 (by decide) (by decide)
   obtain⟨v7,p7,e7,f7,hv7,Es,c7⟩:=kY hL vO 12 (by decide) (by decide)
   obtain⟨v8,p8,e8,f8,XJ,zO,c8⟩:=kY hL Es 5 (by decide) (by decide)
   obtain⟨xn,hxn⟩ : ∃xn,gy[v5/7]? = some xn:=⟨_,List.getElem?_eq_getElem (by have:gy.length=4:=rfl;omega)⟩
   have hxe:xn=gy.getD (v5/7) []:=by rw [List.getD_eq_getElem?_getD,hxn,Option.getD_some]
   (refine bK jq [0,3] (by kernel_rfl) ?_;conv=>whnf)
   (refine ak [] (by kernel_rfl) (sZ) ?_ ?_;(focus trivial))
   rintro _ _ _ ⟨rfl,rfl,rfl⟩
   conv=>whnf
   repeat' (first
    | (refine And.intro ?_ ?_<;>(conv=>whnf))
    | (refine aG [0] [] (by kernel_rfl) c5 rfl ?_ ?_ ?_;(focus (trivial;done));(focus (trivial;done));rintro _ _ _ ⟨rfl,rfl,rfl⟩;refine⟨rfl, ?_⟩;conv=>whnf)
    | (refine aG [0] [] (by kernel_rfl) c6 rfl ?_ ?_ ?_;(focus (trivial;done));(focus (trivial;done));rintro _ _ _ ⟨rfl,rfl,rfl⟩;refine⟨rfl, ?_⟩;conv=>whnf)
    | (refine aG [0] [] (by kernel_rfl) c7 rfl ?_ ?_ ?_;(focus (trivial;done));(focus (trivial;done));rintro _ _ _ ⟨rfl,rfl,rfl⟩;refine⟨rfl, ?_⟩;conv=>whnf)
    | (refine aG [0] [] (by kernel_rfl) c8 rfl ?_ ?_ ?_;(focus (trivial;done));(focus (trivial;done));rintro _ _ _ ⟨rfl,rfl,rfl⟩;refine⟨rfl, ?_⟩;conv=>whnf)
    | (refine ay.mk (by decide) ?_;conv=>whnf)
    | (refine bD.mk' (v5/7) rfl (by rw [List.length_map];have:gy.length=4:=rfl;omega) ?_;conv=>whnf)
    | (refine aT.aB hxn ?_;conv=>whnf)
    | (refine aK.div v5 7 (by omega) ?_;conv=>whnf)
    | (refine aK.div v7 11 (by omega) ?_;conv=>whnf)
    | (refine aK.div v8 4 (by omega) ?_;conv=>whnf)
    | (refine aK.to (y:=((1+v6%9%2:Nat):Int)) ?_ ?_;(focus (rw [show (1:Int)+((v6:Int).tmod 9).tmod 2=((1+v6%9%2:Nat):Int)from rfl];exact IntWalk.i64_in _ (by omega)));conv=>whnf)
    | (refine aK.i64 ?_ ?_;(focus omega);conv=>whnf))
   have hZ : ∀k,k<3→gB L out tm sq v1 v2 sv cl v3 k p4=Ce L out tm sq v1 v2 sv cl v3 v5 v6 v7 v8 p8:=fun k hk=>by unfold gB;rw [if_pos hk,e5,f5,e6,f6,e7,f7,e8,f8]
   unfold Ce at hZ
   rw [←hxe]at hZ
   refine ay.mk (aF (by simp only [List.length_map,List.length_cons,List.length_nil];omega) (by kernel_rfl)) ?_
   conv=>whnf
   exact aI ⟨out++ [⟨cl,(sv:Int)+1,1,(tm:Int)+v1,dY v3,xn,[],1+((v8/4:Nat):Int),((1+v6%9%2:Nat):Int)+((v7/11:Nat):Int),0⟩],p8,tm+v1,sq.set v2 (sv+1),v2⟩ [(2, .lab 6)] [] rfl (by show 60 -(out++ [_]).length<60-out.length;rw [List.length_append];simp;omega) ⟨hJ.next hlt zO (by omega) hv2 og rfl ⟨hcm,⟨v3,hv3,rfl⟩,(by dsimp only;omega),(by dsimp only;omega), .inl ⟨rfl,⟨v5/7,by omega,hxe⟩,rfl,(by dsimp only;omega),(by dsimp only;omega),rfl⟩⟩,hE.trans (eP (x:=⟨out,p,tm,sq,last⟩) hmo hlt (hS.trans (hZ _ (by decide))) (dB _ _))⟩ ⟨(by trivial),⟨rfl,rfl,List.map_set.symm⟩,⟨rfl,rfl,eG out ⟨cl,(sv:Int)+1,1,(tm:Int)+v1,dY v3,xn,[],1+((v8/4:Nat):Int),((1+v6%9%2:Nat):Int)+((v7/11:Nat):Int),0⟩⟩,trivial⟩ ⟨rfl,rfl,rfl,trivial⟩
  ·conv=>whnf
   obtain⟨v5,p5,e5,f5,hv5,mQ,c5⟩:=kY hL zL 8 (by decide) (by decide)
   obtain⟨v6,p6,e6,f6,hv6,vO,c6⟩:=kY hL mQ 10 (by decide) (by decide)
   obtain⟨v7,p7,e7,f7,hv7,Es,c7⟩:=kY hL vO 12 (by decide) (by decide)
   obtain⟨v8,p8,e8,f8,XJ,zO,c8⟩:=kY hL Es 5 (by decide) (by decide)
   obtain⟨xn,hxn⟩ : ∃xn,gy[v5/7]? = some xn:=⟨_,List.getElem?_eq_getElem (by have:gy.length=4:=rfl;omega)⟩
   have hxe:xn=gy.getD (v5/7) []:=by rw [List.getD_eq_getElem?_getD,hxn,Option.getD_some]
   (refine bK jq [0,3] (by kernel_rfl) ?_;conv=>whnf)
   (refine ak [] (by kernel_rfl) (sZ) ?_ ?_;(focus trivial))
   rintro _ _ _ ⟨rfl,rfl,rfl⟩
   conv=>whnf
   repeat' (first
    | (refine And.intro ?_ ?_<;>(conv=>whnf))
    | (refine aG [0] [] (by kernel_rfl) c5 rfl ?_ ?_ ?_;(focus (trivial;done));(focus (trivial;done));rintro _ _ _ ⟨rfl,rfl,rfl⟩;refine⟨rfl, ?_⟩;conv=>whnf)
    | (refine aG [0] [] (by kernel_rfl) c6 rfl ?_ ?_ ?_;(focus (trivial;done));(focus (trivial;done));rintro _ _ _ ⟨rfl,rfl,rfl⟩;refine⟨rfl, ?_⟩;conv=>whnf)
    | (refine aG [0] [] (by kernel_rfl) c7 rfl ?_ ?_ ?_;(focus (trivial;done));(focus (trivial;done));rintro _ _ _ ⟨rfl,rfl,rfl⟩;refine⟨rfl, ?_⟩;conv=>whnf)
    | (refine aG [0] [] (by kernel_rfl) c8 rfl ?_ ?_ ?_;(focus (trivial;done));(focus (trivial;done));rintro _ _ _ ⟨rfl,rfl,rfl⟩;refine⟨rfl, ?_⟩;conv=>whnf)
    | (refine ay.mk (by decide) ?_;conv=>whnf)
    | (refine bD.mk' (v5/7) rfl (by rw [List.length_map];have:gy.length=4:=rfl;omega) ?_;conv=>whnf)
    | (refine aT.aB hxn ?_;conv=>whnf)
    | (refine aK.div v5 7 (by omega) ?_;conv=>whnf)
    | (refine aK.div v7 11 (by omega) ?_;conv=>whnf)
    | (refine aK.div v8 4 (by omega) ?_;conv=>whnf)
    | (refine aK.to (y:=((1+v6%9%2:Nat):Int)) ?_ ?_;(focus (rw [show (1:Int)+((v6:Int).tmod 9).tmod 2=((1+v6%9%2:Nat):Int)from rfl];exact IntWalk.i64_in _ (by omega)));conv=>whnf)
    | (refine aK.i64 ?_ ?_;(focus omega);conv=>whnf))
   have hZ : ∀k,k<3→gB L out tm sq v1 v2 sv cl v3 k p4=Ce L out tm sq v1 v2 sv cl v3 v5 v6 v7 v8 p8:=fun k hk=>by unfold gB;rw [if_pos hk,e5,f5,e6,f6,e7,f7,e8,f8]
   unfold Ce at hZ
   rw [←hxe]at hZ
   refine ay.mk (aF (by simp only [List.length_map,List.length_cons,List.length_nil];omega) (by kernel_rfl)) ?_
   conv=>whnf
   exact aI ⟨out++ [⟨cl,(sv:Int)+1,1,(tm:Int)+v1,dY v3,xn,[],1+((v8/4:Nat):Int),((1+v6%9%2:Nat):Int)+((v7/11:Nat):Int),0⟩],p8,tm+v1,sq.set v2 (sv+1),v2⟩ [(2, .lab 6)] [] rfl (by show 60 -(out++ [_]).length<60-out.length;rw [List.length_append];simp;omega) ⟨hJ.next hlt zO (by omega) hv2 og rfl ⟨hcm,⟨v3,hv3,rfl⟩,(by dsimp only;omega),(by dsimp only;omega), .inl ⟨rfl,⟨v5/7,by omega,hxe⟩,rfl,(by dsimp only;omega),(by dsimp only;omega),rfl⟩⟩,hE.trans (eP (x:=⟨out,p,tm,sq,last⟩) hmo hlt (hS.trans (hZ _ (by decide))) (dB _ _))⟩ ⟨(by trivial),⟨rfl,rfl,List.map_set.symm⟩,⟨rfl,rfl,eG out ⟨cl,(sv:Int)+1,1,(tm:Int)+v1,dY v3,xn,[],1+((v8/4:Nat):Int),((1+v6%9%2:Nat):Int)+((v7/11:Nat):Int),0⟩⟩,trivial⟩ ⟨rfl,rfl,rfl,trivial⟩
  ·conv=>whnf
   obtain⟨v5,p5,e5,f5,hv5,mQ,c5⟩:=kY hL zL 8 (by decide) (by decide)
   obtain⟨v6,p6,e6,f6,hv6,vO,c6⟩:=kY hL mQ 10 (by decide) (by decide)
   obtain⟨v7,p7,e7,f7,hv7,Es,c7⟩:=kY hL vO 12 (by decide) (by decide)
   obtain⟨v8,p8,e8,f8,XJ,zO,c8⟩:=kY hL Es 5 (by decide) (by decide)
   obtain⟨xn,hxn⟩ : ∃xn,gy[v5/7]? = some xn:=⟨_,List.getElem?_eq_getElem (by have:gy.length=4:=rfl;omega)⟩
   have hxe:xn=gy.getD (v5/7) []:=by rw [List.getD_eq_getElem?_getD,hxn,Option.getD_some]
   (refine bK jq [0,3] (by kernel_rfl) ?_;conv=>whnf)
   (refine ak [] (by kernel_rfl) (sZ) ?_ ?_;(focus trivial))
   rintro _ _ _ ⟨rfl,rfl,rfl⟩
   conv=>whnf
   repeat' (first
    | (refine And.intro ?_ ?_<;>(conv=>whnf))
    | (refine aG [0] [] (by kernel_rfl) c5 rfl ?_ ?_ ?_;(focus (trivial;done));(focus (trivial;done));rintro _ _ _ ⟨rfl,rfl,rfl⟩;refine⟨rfl, ?_⟩;conv=>whnf)
    | (refine aG [0] [] (by kernel_rfl) c6 rfl ?_ ?_ ?_;(focus (trivial;done));(focus (trivial;done));rintro _ _ _ ⟨rfl,rfl,rfl⟩;refine⟨rfl, ?_⟩;conv=>whnf)
    | (refine aG [0] [] (by kernel_rfl) c7 rfl ?_ ?_ ?_;(focus (trivial;done));(focus (trivial;done));rintro _ _ _ ⟨rfl,rfl,rfl⟩;refine⟨rfl, ?_⟩;conv=>whnf)
    | (refine aG [0] [] (by kernel_rfl) c8 rfl ?_ ?_ ?_;(focus (trivial;done));(focus (trivial;done));rintro _ _ _ ⟨rfl,rfl,rfl⟩;refine⟨rfl, ?_⟩;conv=>whnf)
    | (refine ay.mk (by decide) ?_;conv=>whnf)
    | (refine bD.mk' (v5/7) rfl (by rw [List.length_map];have:gy.length=4:=rfl;omega) ?_;conv=>whnf)
    | (refine aT.aB hxn ?_;conv=>whnf)
    | (refine aK.div v5 7 (by omega) ?_;conv=>whnf)
    | (refine aK.div v7 11 (by omega) ?_;conv=>whnf)
    | (refine aK.div v8 4 (by omega) ?_;conv=>whnf)
    | (refine aK.to (y:=((1+v6%9%2:Nat):Int)) ?_ ?_;(focus (rw [show (1:Int)+((v6:Int).tmod 9).tmod 2=((1+v6%9%2:Nat):Int)from rfl];exact IntWalk.i64_in _ (by omega)));conv=>whnf)
    | (refine aK.i64 ?_ ?_;(focus omega);conv=>whnf))
   have hZ : ∀k,k<3→gB L out tm sq v1 v2 sv cl v3 k p4=Ce L out tm sq v1 v2 sv cl v3 v5 v6 v7 v8 p8:=fun k hk=>by unfold gB;rw [if_pos hk,e5,f5,e6,f6,e7,f7,e8,f8]
   unfold Ce at hZ
   rw [←hxe]at hZ
   refine ay.mk (aF (by simp only [List.length_map,List.length_cons,List.length_nil];omega) (by kernel_rfl)) ?_
   conv=>whnf
   exact aI ⟨out++ [⟨cl,(sv:Int)+1,1,(tm:Int)+v1,dY v3,xn,[],1+((v8/4:Nat):Int),((1+v6%9%2:Nat):Int)+((v7/11:Nat):Int),0⟩],p8,tm+v1,sq.set v2 (sv+1),v2⟩ [(2, .lab 6)] [] rfl (by show 60 -(out++ [_]).length<60-out.length;rw [List.length_append];simp;omega) ⟨hJ.next hlt zO (by omega) hv2 og rfl ⟨hcm,⟨v3,hv3,rfl⟩,(by dsimp only;omega),(by dsimp only;omega), .inl ⟨rfl,⟨v5/7,by omega,hxe⟩,rfl,(by dsimp only;omega),(by dsimp only;omega),rfl⟩⟩,hE.trans (eP (x:=⟨out,p,tm,sq,last⟩) hmo hlt (hS.trans (hZ _ (by decide))) (dB _ _))⟩ ⟨(by trivial),⟨rfl,rfl,List.map_set.symm⟩,⟨rfl,rfl,eG out ⟨cl,(sv:Int)+1,1,(tm:Int)+v1,dY v3,xn,[],1+((v8/4:Nat):Int),((1+v6%9%2:Nat):Int)+((v7/11:Nat):Int),0⟩⟩,trivial⟩ ⟨rfl,rfl,rfl,trivial⟩
  ·conv=>whnf
   obtain⟨v5,p5,e5,f5,hv5,mQ,c5⟩:=kY hL zL 6 (by decide) (by decide)
   refine aG [0] [] (by kernel_rfl) c5 rfl ?_ ?_ ?_;(focus (trivial;done));(focus (trivial;done));rintro _ _ _ ⟨rfl,rfl,rfl⟩;refine⟨rfl, ?_⟩;conv=>whnf
   (refine bK jq [] (by kernel_rfl) ?_;conv=>whnf)
   have hi5:bC Tryz.prog GS 94 [iv v5] 0 [] (Is (tv (dY v5))):=bC.up (JE _ (by omega)) GS
   have hi6:bC Tryz.prog GS 94 [iv ((v5:Int)+1)] 0 [] (Is (tv (dY (v5+1)))):=bC.up (JE (v5+1) (by omega)) GS
   (refine aW [] (by kernel_rfl) (hi5) rfl ?_ ?_;(focus (trivial;done));(conv=>whnf))
   apply ah<;>intro h
   ·conv=>whnf
    refine aK.i64 (by omega) ?_
    conv=>whnf
    (refine aW [] (by kernel_rfl) (hi6) rfl ?_ ?_;(focus (trivial;done));(conv=>whnf))
    have hid:dY v5=dY v3:=by have h:=h;rw [kQ,decide_eq_true_eq]at h;exact h
    have hZ:gB L out tm sq v1 v2 sv cl v3 3 p4=LM L out tm sq v1 v2 sv cl v3 v5 p5:=by unfold gB;rw [if_neg (by decide),if_pos rfl,e5,f5]
    unfold LM at hZ
    rw [if_pos hid]at hZ
    refine ay.mk (aF (by simp only [List.length_map,List.length_cons,List.length_nil];omega) (by kernel_rfl)) ?_
    conv=>whnf
    exact aI ⟨out++ [⟨cl,(sv:Int)+1,3,(tm:Int)+v1,dY v3,[],dY (v5+1),0,0,0⟩],p5,tm+v1,sq.set v2 (sv+1),v2⟩ [(2, .lab 5)] [] rfl (by show 60 -(out++ [_]).length<60-out.length;rw [List.length_append];simp;omega) ⟨hJ.next hlt mQ (by omega) hv2 og rfl ⟨hcm,⟨v3,hv3,rfl⟩,(by dsimp only;omega),(by dsimp only;omega), .inr (.inr ⟨rfl,rfl,⟨v5+1,by omega,rfl⟩,xY hv5 hv3 h,rfl,rfl,rfl⟩)⟩,hE.trans (eP (x:=⟨out,p,tm,sq,last⟩) hmo hlt (hS.trans hZ) (dB _ _))⟩ ⟨(by trivial),⟨rfl,rfl,List.map_set.symm⟩,⟨rfl,rfl,eG out ⟨cl,(sv:Int)+1,3,(tm:Int)+v1,dY v3,[],dY (v5+1),0,0,0⟩⟩,trivial⟩ ⟨rfl,rfl,rfl,trivial⟩
   ·conv=>whnf
    (refine aW [] (by kernel_rfl) (hi5) rfl ?_ ?_;(focus (trivial;done));(conv=>whnf))
    have hZ:gB L out tm sq v1 v2 sv cl v3 3 p4=LM L out tm sq v1 v2 sv cl v3 v5 p5:=by unfold gB;rw [if_neg (by decide),if_pos rfl,e5,f5]
    unfold LM at hZ
    rw [if_neg (pR h)]at hZ
    refine ay.mk (aF (by simp only [List.length_map,List.length_cons,List.length_nil];omega) (by kernel_rfl)) ?_
    conv=>whnf
    exact aI ⟨out++ [⟨cl,(sv:Int)+1,3,(tm:Int)+v1,dY v3,[],dY v5,0,0,0⟩],p5,tm+v1,sq.set v2 (sv+1),v2⟩ [(2, .lab 5)] [] rfl (by show 60 -(out++ [_]).length<60-out.length;rw [List.length_append];simp;omega) ⟨hJ.next hlt mQ (by omega) hv2 og rfl ⟨hcm,⟨v3,hv3,rfl⟩,(by dsimp only;omega),(by dsimp only;omega), .inr (.inr ⟨rfl,rfl,⟨v5,by omega,rfl⟩,pR h,rfl,rfl,rfl⟩)⟩,hE.trans (eP (x:=⟨out,p,tm,sq,last⟩) hmo hlt (hS.trans hZ) (dB _ _))⟩ ⟨(by trivial),⟨rfl,rfl,List.map_set.symm⟩,⟨rfl,rfl,eG out ⟨cl,(sv:Int)+1,3,(tm:Int)+v1,dY v3,[],dY v5,0,0,0⟩⟩,trivial⟩ ⟨rfl,rfl,rfl,trivial⟩
  ·repeat' (refine oU (beq_eq_false_iff_ne.2 (by omega)) ?_;conv=>whnf)
   obtain⟨v5,p5,e5,f5,hv5,mQ,c5⟩:=kY hL zL 3 (by decide) (by decide)
   obtain⟨v6,p6,e6,f6,hv6,vO,c6⟩:=kY hL mQ 40 (by decide) (by decide)
   obtain⟨xn,hxn⟩ : ∃xn,oQ[v5/2]? = some xn:=⟨_,List.getElem?_eq_getElem (by have:oQ.length=2:=rfl;omega)⟩
   have hxe:xn=oQ.getD (v5/2) []:=by rw [List.getD_eq_getElem?_getD,hxn,Option.getD_some]
   (refine bK jq [0,3] (by kernel_rfl) ?_;conv=>whnf)
   (refine ak [] (by kernel_rfl) (SQ) ?_ ?_;(focus trivial))
   rintro _ _ _ ⟨rfl,rfl,rfl⟩
   conv=>whnf
   repeat' (first
    | (refine And.intro ?_ ?_<;>(conv=>whnf))
    | (refine aG [0] [] (by kernel_rfl) c5 rfl ?_ ?_ ?_;(focus (trivial;done));(focus (trivial;done));rintro _ _ _ ⟨rfl,rfl,rfl⟩;refine⟨rfl, ?_⟩;conv=>whnf)
    | (refine aG [0] [] (by kernel_rfl) c6 rfl ?_ ?_ ?_;(focus (trivial;done));(focus (trivial;done));rintro _ _ _ ⟨rfl,rfl,rfl⟩;refine⟨rfl, ?_⟩;conv=>whnf)
    | (refine ay.mk (by decide) ?_;conv=>whnf)
    | (refine bD.mk' (v5/2) rfl (by rw [List.length_map];have:oQ.length=2:=rfl;omega) ?_;conv=>whnf)
    | (refine aT.aB hxn ?_;conv=>whnf)
    | (refine aK.div v5 2 (by omega) ?_;conv=>whnf)
    | (refine aK.i64 ?_ ?_;(focus omega);conv=>whnf))
   have hZ:gB L out tm sq v1 v2 sv cl v3 v4 p4=Yq L out tm sq v1 v2 sv cl v3 v5 v6 p6:=by unfold gB;rw [if_neg (by omega),if_neg (by omega),e5,f5,e6,f6]
   unfold Yq at hZ
   rw [←hxe]at hZ
   refine ay.mk (aF (by simp only [List.length_map,List.length_cons,List.length_nil];omega) (by kernel_rfl)) ?_
   conv=>whnf
   exact aI ⟨out++ [⟨cl,(sv:Int)+1,2,(tm:Int)+v1,dY v3,xn,[],0,0,(v6:Int)-4⟩],p6,tm+v1,sq.set v2 (sv+1),v2⟩ [(2, .lab 6)] [] rfl (by show 60 -(out++ [_]).length<60-out.length;rw [List.length_append];simp;omega) ⟨hJ.next hlt vO (by omega) hv2 og rfl ⟨hcm,⟨v3,hv3,rfl⟩,(by dsimp only;omega),(by dsimp only;omega), .inr (.inl ⟨rfl,⟨v5/2,by omega,hxe⟩,rfl,rfl,rfl,(by dsimp only;omega)⟩)⟩,hE.trans (eP (x:=⟨out,p,tm,sq,last⟩) hmo hlt (hS.trans hZ) (dB _ _))⟩ ⟨(by trivial),⟨rfl,rfl,List.map_set.symm⟩,⟨rfl,rfl,eG out ⟨cl,(sv:Int)+1,2,(tm:Int)+v1,dY v3,xn,[],0,0,(v6:Int)-4⟩⟩,trivial⟩ ⟨rfl,rfl,rfl,trivial⟩
end
section
attribute [local irreducible] num hsh oM jM fM lg tV sH tab jY wG sec hG hF hI hN SV
structure Ac where
 kind:Nat
 fuse:Nat
 ev:By
 pick:By
structure Ac.ok (a:Ac):Prop where
 kind:a.kind<256
 fuse:a.fuse<256
def SY (a:Ac):List FV:= [.v (.int .u8 a.kind), .v (.int .u8 a.fuse), .lst 1 (a.ev.map dO), .lst 1 (a.pick.map dO)]
def Yr (n:Nat)(e:Ev):Ev:= {e with seq:=e.seq+100*(n:Int),time:=e.time+10*(n:Int)}
def S9 (a:Ac)(n:Nat):List Ev:=((SV a.ev).take 12).map (Yr n)
def lng (l:List Ac):Bool:=l.any (fun a=>decide (100<a.ev.length)||decide (40<a.pick.length))||decide (16<l.length)
theorem XK {α:Type}{u:α→α}{l:List α}{i:Nat}(h:i<l.length):((l.take i).map u++l.drop i)[i]? = some l[i]∧((l.take i).map u++l.drop i).set i (u l[i])=(l.take (i+1)).map u++l.drop (i+1):=by
 have hl:((l.take i).map u).length=i:=by rw [List.length_map,List.length_take];omega
 rw [List.drop_eq_getElem_cons h,List.take_succ_eq_append_getElem h,List.map_append]
 constructor
 ·rw [List.getElem?_append_right (by omega),hl,Nat.sub_self];rfl
 ·rw [List.set_append_right _ _ (by omega),hl,Nat.sub_self,List.append_assoc];rfl
theorem acZ (l:List Ac)(hl:l.length≤4611686018427387904):bC Tryz.prog GS 15 [.lst 4 (l.map SY)] 0 [] (Is (bv (lng l))):=by
 refine au Tryz.func15 rfl mixed (by kernel_rfl) ?_
 conv=>whnf
 refine uU Y2 [3] (fun i:Nat=> [(3,iv i)]) (fun i=>i≤l.length∧(l.take i).any (fun a=>decide (100<a.ev.length)||decide (40<a.pick.length))=false) (fun i=>l.length-i) 0 (by kernel_rfl) (fun _=>rfl) (by kernel_rfl) ⟨Nat.zero_le _,rfl⟩ (by trivial) (by trivial) ?_
 rintro i ⟨hi,hI⟩
 conv=>whnf
 apply ah<;>intro h
 rotate_left 1
 ·have hie:i=l.length:=by simp only [List.length_map]at h;simp at h;omega
  subst hie
  rw [List.take_length]at hI
  conv=>whnf
  refine aZ [] (congrArg Value.bool ?_)
  unfold lng
  rw [hI,List.length_map,Bool.false_or]
  exact decide_eq_decide.2 (by omega)
 have hlt:i<l.length:=by simp only [List.length_map]at h;simp at h;omega
 have hbad:(decide (100<l[i].ev.length)||decide (40<l[i].pick.length))=true→lng l=true:=fun hx=>by
  unfold lng
  rw [Bool.or_eq_true]
  exact .inl (List.any_eq_true.2 ⟨l[i],List.getElem_mem hlt,hx⟩)
 have hgood:(decide (100<l[i].ev.length)||decide (40<l[i].pick.length))=false→(l.take (i+1)).any (fun a=>decide (100<a.ev.length)||decide (40<a.pick.length))=false:=fun hx=>by
  rw [List.take_succ_eq_append_getElem hlt,List.any_append,hI,List.any_cons,hx];rfl
 conv=>whnf
 refine bD.mk' i rfl (iT hlt) ?_
 conv=>whnf
 refine aT.aB (List.getElem?_eq_getElem hlt) ?_
 conv=>whnf
 apply ah<;>intro h
 ·have hx:100<l[i].ev.length:=by simp only [List.length_map]at h;simp at h;omega
  rw [hbad (by simp [hx])]
  conv=>whnf
  exact aZ [] rfl
 have hx1 : ¬100<l[i].ev.length:=by simp only [List.length_map]at h;simp at h;omega
 conv=>whnf
 refine bD.mk' i rfl (iT hlt) ?_
 conv=>whnf
 refine aT.aB (List.getElem?_eq_getElem hlt) ?_
 conv=>whnf
 apply ah<;>intro h
 ·have hx:40<l[i].pick.length:=by simp only [List.length_map]at h;simp at h;omega
  rw [hbad (by simp [hx])]
  conv=>whnf
  exact aZ [] rfl
 have hx2 : ¬40<l[i].pick.length:=by simp only [List.length_map]at h;simp at h;omega
 conv=>whnf
 refine aK.i64 (by omega) ?_
 conv=>whnf
 exact aI (i+1) [] [] rfl (by show l.length -(i+1)<l.length-i;omega) ⟨hlt,hgood (by simp [hx1,hx2])⟩ (by trivial) ⟨rfl,trivial⟩
theorem aaQ (a:Ac)(ha:a.ev.length≤1000)(n:Nat)(hn:n≤1000):bC Tryz.prog GS 24 [.agg ((SY a).map FV.up),iv n] 0 [] (Is (el (S9 a n))):=by
 refine au Tryz.func24 rfl mixed (by kernel_rfl) ?_
 conv=>whnf
 refine ak [] (by kernel_rfl) (acX a.ev ha) (by trivial) ?_
 rintro _ _ _ ⟨l,⟨hP,hE⟩,rfl,rfl,rfl⟩
 have hres:S9 a n=(l.take 12).map (Yr n):=by unfold S9;rw [hE]
 rw [hres]
 have hP1:=hP.all
 have hlen:=hP.len
 clear hE hres hP
 conv=>whnf
 refine kU.mk' 0 (min l.length 12) rfl (by rw [List.length_map];omega) (Nat.zero_le _) (by rw [List.length_map];omega) ?_
 conv=>whnf
 obtain⟨m,hm⟩ : ∃m,m=min l.length 12:=⟨_,rfl⟩
 rw [←hm]
 have hml:m≤l.length:=by omega
 refine bf Y3 2 [6] (fun i:Nat=> [(6,iv i)]) (fun i=> [(0, .var 49 ((SY a).map FV.up)),(1, .rows 95 10 (((l.take i).map (Yr n)++l.drop i).map iE))]) (fun i=>i≤m) (fun i=>m-i) [] [] 0 (by kernel_rfl) (fun _=>rfl) rfl (Nat.zero_le _) (by trivial) (by trivial) ?_
 intro i hi
 conv=>whnf
 apply ah<;>intro h
 rotate_left 1
 ·have hie:i=m:=by simp at h;omega
  subst hie
  conv=>whnf
  refine aZ [1] ⟨rfl, ?_⟩
  have e:l.take 12=l.take i:=by
   rcases Nat.le_total l.length 12 with hc | hc
   ·rw [List.take_of_length_le hc,List.take_of_length_le (by omega)]
   ·rw [show i=12 by omega]
  rw [e,Nat.sub_zero,List.drop_zero,List.map_append,List.take_left' (by rw [List.length_map,List.length_map,List.length_take];omega)]
  exact⟨rfl,rfl⟩
 have hlt:i<m:=by simp at h;omega
 have hx:=XK (u:=Yr n) (l:=l) (i:=i) (by omega)
 have hln:((l.take i).map (Yr n)++l.drop i).length=l.length:=by rw [List.length_append,List.length_map,List.length_take,List.length_drop];omega
 have hpe:=hP1 l[i] (List.getElem_mem _)
 have hs:=hpe.seq
 have ht:=hpe.time
 conv=>whnf
 refine bD.mk' i rfl hlt ?_
 conv=>whnf
 refine aT.aB (by rw [Nat.zero_add];exact hx.1) ?_
 conv=>whnf
 refine aK.i64 (by omega) ?_
 conv=>whnf
 refine aK.i64 (by omega) ?_
 conv=>whnf
 refine bD.mk' i rfl hlt ?_
 conv=>whnf
 refine aT.aB (by rw [Nat.zero_add];exact hx.1) ?_
 conv=>whnf
 refine bD.mk' i rfl hlt ?_
 conv=>whnf
 refine aT.set (by rw [List.length_map,hln];omega) ?_
 conv=>whnf
 refine aK.i64 (by omega) ?_
 conv=>whnf
 refine aK.i64 (by omega) ?_
 conv=>whnf
 refine bD.mk' i rfl hlt ?_
 conv=>whnf
 refine aT.set (by rw [List.length_map,hln];omega) ?_
 conv=>whnf
 refine aK.i64 (by omega) ?_
 conv=>whnf
 refine aI (i+1) [] [] rfl (by show m -(i+1)<m-i;omega) hlt ⟨(by trivial),⟨rfl,rfl, ?_⟩,trivial⟩ ⟨rfl,trivial⟩
 rw [Nat.zero_add,List.set_set, ←hx.2,List.map_set]
 rfl
theorem Tc (n:Nat):dY n∈G7:=by
 have h:n%6<G7.length:=by have:=Ah;omega
 unfold dY
 rw [List.getD_eq_getElem?_getD,List.getElem?_eq_getElem h]
 exact List.getElem_mem h
theorem ac0 : ∀s∈G7,GL s=true∧s.length=3:=by decide +kernel
theorem aep : ∀s∈vN,GL s=true∧s.length=3:=by decide +kernel
theorem aer : ∀k,k<2→GL (gy.getD k [])=true∧(gy.getD k []).length≤5:=by decide +kernel
theorem aes : ∀k,k<2→GL (oQ.getD k [])=true∧(oQ.getD k []).length≤5:=by decide +kernel
theorem XL {e:Ev}(h:EvP e){n:Nat}(hn:n≤1000):(Yr n e).ok∧tK (Yr n e)=0:=by
 obtain⟨hc,⟨k,hk,hi⟩,hs,ht,hkd⟩:=h
 obtain⟨c1,c2⟩:=aep _ hc
 obtain⟨i1,i2⟩:=ac0 _ (Tc k)
 rw [←hi]at i1 i2
 have z : ∀k:Int, -1000≤k→k≤1000000→I64 k:=fun k a b=>by unfold I64;omega
 unfold Yr
 rcases hkd with ⟨k1,⟨n1,hn1,hnm⟩,ho,ha,hv,hvl⟩ | ⟨k1,⟨n1,hn1,hnm⟩,ho,hv,ha,hvl⟩ | ⟨k1,hnm,⟨n1,hn1,ho⟩,hne,hv,ha,hvl⟩
 ·obtain⟨m1,m2⟩:=aer n1 hn1
  rw [←hnm]at m1 m2
  refine⟨⟨z _ (by dsimp only;omega) (by dsimp only;omega),z _ (by dsimp only;omega) (by dsimp only;omega),z _ (by dsimp only;omega) (by dsimp only;omega),z _ (by dsimp only;omega) (by dsimp only;omega),z _ (by dsimp only;omega) (by dsimp only;omega),z _ (by dsimp only;omega) (by dsimp only;omega),by dsimp only;omega,by dsimp only;omega,by dsimp only;omega,by dsimp only;rw [ho];simp⟩, ?_⟩
  unfold tK
  dsimp only
  rw [if_neg (by simp [k1]),if_neg (by simp [k1,c1,i1,m1]),if_neg (by omega),if_neg (by omega),if_neg (by omega),if_neg (by simp [k1,ho,hvl])]
 ·obtain⟨m1,m2⟩:=aes n1 hn1
  rw [←hnm]at m1 m2
  refine⟨⟨z _ (by dsimp only;omega) (by dsimp only;omega),z _ (by dsimp only;omega) (by dsimp only;omega),z _ (by dsimp only;omega) (by dsimp only;omega),z _ (by dsimp only;omega) (by dsimp only;omega),z _ (by dsimp only;omega) (by dsimp only;omega),z _ (by dsimp only;omega) (by dsimp only;omega),by dsimp only;omega,by dsimp only;omega,by dsimp only;omega,by dsimp only;rw [ho];simp⟩, ?_⟩
  unfold tK
  dsimp only
  rw [if_neg (by simp [k1]),if_neg (by simp [k1,c1,i1,m1]),if_neg (by omega),if_neg (by omega),if_neg (by omega),if_neg (by simp [k1,ho,hv,ha])]
 ·obtain⟨m1,m2⟩:=ac0 _ (Tc n1)
  rw [←ho]at m1 m2
  refine⟨⟨z _ (by dsimp only;omega) (by dsimp only;omega),z _ (by dsimp only;omega) (by dsimp only;omega),z _ (by dsimp only;omega) (by dsimp only;omega),z _ (by dsimp only;omega) (by dsimp only;omega),z _ (by dsimp only;omega) (by dsimp only;omega),z _ (by dsimp only;omega) (by dsimp only;omega),by dsimp only;omega,by dsimp only;omega,by dsimp only;rw [hnm];simp,by dsimp only;omega⟩, ?_⟩
  unfold tK
  dsimp only
  rw [if_neg (by simp [k1]),if_neg (by simp [k1,c1,i1,m1]),if_neg (by omega),if_neg (by omega),if_neg (by omega),if_neg (by simp [k1,hnm,hv,ha,hvl,hne])]
def Out (r:So×Int):Prop:=(r.2=0∧r.1.ok)∨(r.2=40∧∃d,d.ok∧r.1=So.wR d)∨(r.2≠0∧r.2≠40∧r.1=So.zero)
theorem G8 {s:So}(hd:s.d.ok)(he:(∀e∈s.ev,e.ok)∧jJ s.ev=0)(hg:0≤s.gen)(hh:s.half=0∨s.half=1):Out (kX s):=by
 by_cases hc:jO (lW s.gen s.d.now+1) 0 (tab s.ev)≠0∨s.d.now.length/2<nS (tab s.ev)
 ·rw [vJ hc];exact .inr (.inr ⟨by decide,by decide,rfl⟩)
 have hc2:jO (lW s.gen s.d.now+1) 0 (tab s.ev)=0∧nS (tab s.ev)≤s.d.now.length/2:=by
  by_cases h0:jO (lW s.gen s.d.now+1) 0 (tab s.ev)=0
  ·exact⟨h0,by omega⟩
  ·exact absurd (.inl h0) hc
 obtain⟨hL1,hL2⟩:=sS hc2.1
 obtain⟨d,e,hw⟩ : ∃d e,qK s.d ((1-s.half).toNat*(s.d.now.length/2)) (qm (lW s.gen s.d.now+1) 0 (tab s.ev))=(d,e):=⟨_,_,rfl⟩
 rw [xU hc hw]
 have hwo:=Ee (at_:=(1-s.half).toNat*(s.d.now.length/2)) hd hL2
 rw [hw]at hwo
 obtain⟨w1,w2,w3⟩:=hwo
 have hsc:=wB hc2.1
 by_cases h0:e=0
 ·subst h0
  rw [if_neg (by simp)]
  refine .inl ⟨rfl,w1,hsc.1 |> fun h=>⟨h,hsc.2.1⟩, ?_, ?_,⟨by show (1:Int)≤1;decide,by show (1:Int)≤65536;decide⟩,he⟩
  ·show 1-s.half=0∨1-s.half=1
   omega
  ·show 1≤((nS (tab s.ev):Nat):Int)∧((nS (tab s.ev):Nat):Int)≤((d.now.length/2:Nat):Int)
   have:=Ji (tab s.ev)
   have w2:d.now.length=s.d.now.length:=w2
   rw [w2]
   omega
 ·rw [if_pos h0]
  exact .inr (.inl ⟨rfl,d,w1,rfl⟩)
theorem Td {s:So}(h:s.ok){l:List Ev}(hl : ∀e∈l,e.ok)(hl0:jJ l=0):Out (nO s l):=by
 have hev:s.ev.length≤512:=(oO h.ev.2).1
 by_cases c2:512<s.ev.length+l.length
 ·rw [Cb hl0 c2];exact .inr (.inr ⟨by decide,by decide,rfl⟩)
 by_cases c3:l = []
 ·subst c3;rw [Af s hev];exact .inl ⟨rfl,h⟩
 by_cases c4:255<nS (tab (s.ev++l))∨s.d.now.length/2<nS (tab (s.ev++l))
 ·rw [vM hl0 c2 c3 c4];exact .inr (.inr ⟨by decide,by decide,rfl⟩)
 have he:(∀e∈s.ev++l,e.ok)∧jJ (s.ev++l)=0:=⟨fun e hx=>(List.mem_append.1 hx).elim (h.ev.1 e) (hl e),xW h.ev.2 hl0 (by rw [List.length_append];omega)⟩
 by_cases c5:jO s.gen s.frame (tab l)≠0∨((s.d.now.length/2:Nat):Int)<s.next+(nS (tab l):Nat)
 ·rw [Ag hl0 c2 c3 c4 c5]
  exact G8 (s:= {s with ev:=s.ev++l}) h.d he (by have:=h.gen;show 0≤s.gen;omega) h.half
 have c5':jO s.gen s.frame (tab l)=0∧s.next+(nS (tab l):Nat)≤((s.d.now.length/2:Nat):Int):=by
  by_cases h0:jO s.gen s.frame (tab l)=0
  ·exact⟨h0,by omega⟩
  ·exact absurd (.inl h0) c5
 obtain⟨hL1,hL2⟩:=sS c5'.1
 obtain⟨d,e,hw⟩ : ∃d e,qK s.d (s.half.toNat*(s.d.now.length/2)+s.next.toNat) (qm s.gen s.frame (tab l))=(d,e):=⟨_,_,rfl⟩
 rw [Eo hl0 c2 c3 c4 c5 hw]
 have hwo:=Ee (at_:=s.half.toNat*(s.d.now.length/2)+s.next.toNat) h.d hL2
 rw [hw]at hwo
 obtain⟨w1,w2,w3⟩:=hwo
 have w2:d.now.length=s.d.now.length:=w2
 have hsc:=wB c5'.1
 have hnx:=h.next
 by_cases h0:e=0
 ·subst h0
  rw [if_neg (by simp)]
  refine .inl ⟨rfl,w1,h.gen,h.half, ?_, ?_,he⟩
  ·show 1≤s.next+((nS (tab l):Nat):Int)∧s.next+((nS (tab l):Nat):Int)≤((d.now.length/2:Nat):Int)
   rw [w2]
   omega
  ·show 1≤s.frame+1∧s.frame+1≤65536
   omega
 ·rw [if_pos h0]
  exact .inr (.inl ⟨rfl,d,w1,rfl⟩)
theorem Dk.ok.arm {d:Dk}(h:d.ok){n:Int}(hn : -1≤n∧n≤9223372036854775807):(d.arm n).ok:=⟨h.ev,h.lo,h.hi,h.sf,hn,h.op,h.n64,h.f64⟩
theorem So.ok.arm {s:So}(h:s.ok){n:Int}(hn : -1≤n∧n≤9223372036854775807):({s with d:=s.d.arm n} : So).ok:=⟨h.d.arm hn,h.gen,h.half,h.next,h.frame,h.ev⟩
theorem XM {L:By}{x:ES}(h:EI L x)(hl:x.out.length<60):EI L (wU L x)∧(wU L x).out.length=x.out.length+1:=by
 obtain⟨out,p,tm,sq,last⟩:=x
 obtain⟨hp,hP,htm,hle,hsl,hsb,hlast⟩:=id h
 dsimp only at hp hP htm hle hsl hsb hlast hl
 unfold wU
 dsimp only
 have hv1:=iG L p 4 (by decide)
 have hp1:=gu (L:=L) hp
 generalize jZ L p 4=v1 at *
 generalize jg L p=p1 at *
 have hv2:=iG L p1 3 (by decide)
 have hp2:=gu (L:=L) hp1
 generalize jZ L p1 3=v2 at *
 generalize jg L p1=p2 at *
 have hv3:=iG L p2 6 (by decide)
 have hp3:=gu (L:=L) hp2
 generalize jZ L p2 6=v3 at *
 generalize jg L p2=p3 at *
 have zL:=gu (L:=L) hp3
 generalize jZ L p3 8=v4 at *
 generalize jg L p3=p4 at *
 have hst:(if v1=0∧((v2:Nat):Int)<last then 1 else v1)<4:=by split<;>omega
 generalize (if v1=0∧((v2:Nat):Int)<last then 1 else v1)=st at *
 have hsv:sq.getD v2 0≤out.length:=by
  rw [List.getD_eq_getElem?_getD,List.getElem?_eq_getElem (by omega),Option.getD_some]
  exact hsb _ (List.getElem_mem _)
 generalize sq.getD v2 0=sv at *
 have hcm:vN.getD v2 []∈vN:=by
  have h3:v2<vN.length:=hv2
  rw [List.getD_eq_getElem?_getD,List.getElem?_eq_getElem h3,Option.getD_some]
  exact List.getElem_mem _
 generalize vN.getD v2 []=cl at *
 unfold gB
 split
 ·have mQ:=gu (L:=L) zL
  have hv5:=iG L p4 8 (by decide)
  generalize jZ L p4 8=v5 at *
  generalize jg L p4=p5 at *
  have vO:=gu (L:=L) mQ
  have hv6:=iG L p5 10 (by decide)
  generalize jZ L p5 10=v6 at *
  generalize jg L p5=p6 at *
  have Es:=gu (L:=L) vO
  have hv7:=iG L p6 12 (by decide)
  generalize jZ L p6 12=v7 at *
  generalize jg L p6=p7 at *
  have zO:=gu (L:=L) Es
  have XJ:=iG L p7 5 (by decide)
  generalize jZ L p7 5=v8 at *
  generalize jg L p7=p8 at *
  unfold Ce
  exact⟨h.next hl zO hst hv2 hsv rfl ⟨hcm,⟨v3,hv3,rfl⟩,(by dsimp only;omega),(by dsimp only;omega), .inl ⟨rfl,⟨v5/7,by omega,rfl⟩,rfl,(by dsimp only;omega),(by dsimp only;omega),rfl⟩⟩,dB _ _⟩
 ·split
  ·have mQ:=gu (L:=L) zL
   have hv5:=iG L p4 6 (by decide)
   generalize jZ L p4 6=v5 at *
   generalize jg L p4=p5 at *
   unfold LM
   have ho:(∃k:Nat,k<7∧(if dY v5=dY v3 then dY (v5+1)else dY v5)=dY k)∧(if dY v5=dY v3 then dY (v5+1)else dY v5)≠dY v3:=by
    split
    ·rename_i hq
     exact⟨⟨v5+1,by omega,rfl⟩,xY hv5 hv3 (by rw [kQ];exact decide_eq_true hq)⟩
    ·rename_i hq
     exact⟨⟨v5,by omega,rfl⟩,hq⟩
   exact⟨h.next hl mQ hst hv2 hsv rfl ⟨hcm,⟨v3,hv3,rfl⟩,(by dsimp only;omega),(by dsimp only;omega), .inr (.inr ⟨rfl,rfl,ho.1,ho.2,rfl,rfl,rfl⟩)⟩,dB _ _⟩
  ·have mQ:=gu (L:=L) zL
   have hv5:=iG L p4 3 (by decide)
   generalize jZ L p4 3=v5 at *
   generalize jg L p4=p5 at *
   have vO:=gu (L:=L) mQ
   have hv6:=iG L p5 40 (by decide)
   generalize jZ L p5 40=v6 at *
   generalize jg L p5=p6 at *
   unfold Yq
   exact⟨h.next hl vO hst hv2 hsv rfl ⟨hcm,⟨v3,hv3,rfl⟩,(by dsimp only;omega),(by dsimp only;omega), .inr (.inl ⟨rfl,⟨v5/2,by omega,rfl⟩,rfl,rfl,rfl,(by dsimp only;omega)⟩)⟩,dB _ _⟩
theorem aaR {L:By} : ∀(m:Nat) (x:ES),EI L x→x.out.length+m≤60→XI (Ai L m x):=by
 intro m
 induction m with
 | zero=>intro x h _;unfold Ai;exact h.P
 | succ m ih=>
  intro x h hm
  unfold Ai
  split
  ·obtain⟨h1,h2⟩:=XM h (by omega)
   exact ih _ h1 (by omega)
  ·exact h.P
theorem ac1 (L:By):XI (SV L):=by
 unfold SV
 exact aaR 60 _ ⟨Nat.zero_le _,⟨Nat.zero_le _,(fun _ h=>by cases h),List.Pairwise.nil⟩,Nat.zero_le _,(fun _ h=>by cases h),rfl,(by simp),by constructor<;>(dsimp only;omega)⟩ (by decide)
theorem aaS (a:Ac)(ha:a.ev.length≤1000){n:Nat}(hn:n≤1000):(∀e∈S9 a n,e.ok)∧jJ (S9 a n)=0∧(S9 a n).length≤12:=by
 have hall : ∀e∈S9 a n,e.ok∧tK e=0:=fun e he=>by
  unfold S9 at he
  obtain⟨e0,h0,rfl⟩:=List.mem_map.1 he
  exact XL ((ac1 a.ev).all _ (List.mem_of_mem_take h0)) hn
 have hlen:(S9 a n).length≤12:=by unfold S9;rw [List.length_map,List.length_take];omega
 exact⟨fun e he=>(hall e he).1,Ej.2 ⟨by omega,fun e he=>(hall e he).2⟩,hlen⟩
end
end Go.Proofs.YtocckceefcmeaaaGreatDoor.Cl
