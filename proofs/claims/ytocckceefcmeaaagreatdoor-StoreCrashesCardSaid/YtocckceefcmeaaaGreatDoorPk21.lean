/- Joined parts of the proof. The walk of the made events once more: which events they are -/
import Derived.Test.YtocckceefcmeaaaGreatDoorPk20
set_option linter.unusedVariables false
set_option linter.unusedSimpArgs false
set_option maxRecDepth 100000
set_option maxHeartbeats 16000000
namespace Go.Proofs.YtocckceefcmeaaaGreatDoor.Cl
open Go Go.RowKit Go.Proofs Go.Proofs.YtocckceefcmeaaaGreatDoor.Vc Go.Proofs.YtocckceefcmeaaaGreatDoor.Ax Go.Proofs.YtocckceefcmeaaaGreatDoor.Ky
attribute [local irreducible] loadVar storeVar Instr.indexAt Instr.index Instr.sliceAt Instr.makeSlice Instr.lookup Instr.mapUpdate Instr.range Instr.next Instr.entry Instr.makeMap Builtin.append_ Builtin.copy_ Builtin.len_ Builtin.min_ Builtin.max_ Builtin.cap_ Builtin.delete_ Builtin.clear_ convert binOp eqGuard Op.unary Calls
section
def Di (L:By)(out:List Ev)(tm:Nat)(sq:List Nat)(st v2 sv:Nat)(cl:By)(v3 v5 v6 v7 v8 p8:Nat):ES:=
 ⟨out++ [⟨cl,(sv:Int)+1,1,(tm:Int)+st,fC v3,gZ.getD (v5/7) [],[],1+((v8/4:Nat):Int),((1+v6%9%2:Nat):Int)+((v7/11:Nat):Int),0⟩],p8,tm+st,sq.set v2 (sv+1),v2⟩
def MS (L:By)(out:List Ev)(tm:Nat)(sq:List Nat)(st v2 sv:Nat)(cl:By)(v3 v5 p5:Nat):ES:=
 ⟨out++ [⟨cl,(sv:Int)+1,3,(tm:Int)+st,fC v3,[],if fC v5=fC v3 then fC (v5+1)else fC v5,0,0,0⟩],p5,tm+st,sq.set v2 (sv+1),v2⟩
def YW (L:By)(out:List Ev)(tm:Nat)(sq:List Nat)(st v2 sv:Nat)(cl:By)(v3 v5 v6 p6:Nat):ES:=
 ⟨out++ [⟨cl,(sv:Int)+1,2,(tm:Int)+st,fC v3,pR.getD (v5/2) [],[],0,0,(v6:Int)-4⟩],p6,tm+st,sq.set v2 (sv+1),v2⟩
def ig (L:By)(out:List Ev)(tm:Nat)(sq:List Nat)(st v2 sv:Nat)(cl:By)(v3 v4 p4:Nat):ES:=
 if v4<3 then Di L out tm sq st v2 sv cl v3 (kU L p4 8) (kU L (jD L p4) 10) (kU L (jD L (jD L p4)) 12) (kU L (jD L (jD L (jD L p4))) 5) (jD L (jD L (jD L (jD L p4))))
 else if v4=3 then MS L out tm sq st v2 sv cl v3 (kU L p4 6) (jD L p4)
 else YW L out tm sq st v2 sv cl v3 (kU L p4 3) (kU L (jD L p4) 40) (jD L (jD L p4))
def xO (L:By)(x:ES):ES:=
 ig L x.out x.tm x.sq (if kU L x.a 4=0∧((kU L (jD L x.a) 3:Nat):Int)<x.last then 1 else kU L x.a 4) (kU L (jD L x.a) 3) (x.sq.getD (kU L (jD L x.a) 3) 0) (wK.getD (kU L (jD L x.a) 3) []) (kU L (jD L (jD L x.a)) 6) (kU L (jD L (jD L (jD L x.a))) 8) (jD L (jD L (jD L (jD L x.a))))
def Bf (L:By):Nat→ES→List Ev
 | 0,x=>x.out
 | m+1,x=>if x.a<L.length then Bf L m (xO L x)else x.out
def OZ (L:By):List Ev:=Bf L 60 ⟨[],0,0,[0,0,0], -1⟩
theorem OL {L:By}{m:Nat}{x:ES}(h : ¬x.a<L.length):Bf L m x=x.out:=by
 cases m with
 | zero=>rfl
 | succ m=>show (if _ then _ else _)=_;rw [if_neg h]
theorem fG {L:By}{x y:ES}(h:x.a<L.length)(hl:x.out.length<60)(e:xO L x=y)(hy:y.out.length=x.out.length+1):Bf L (60-x.out.length) x=Bf L (60-y.out.length) y:=by
 have h2:60-x.out.length=(60-y.out.length)+1:=by omega
 rw [h2]
 show (if _ then _ else _)=_
 rw [if_pos h,e]
theorem lW {L:By}(hL:L.length≤1000){p:Nat}(hp:p≤L.length)(n:Nat)(hn:0<n)(hn2:n≤256) : ∃v q,kU L p n=v∧jD L p=q∧NxC L p n v q:=⟨kU L p n,jD L p,rfl,rfl,iU L p n hn,gY hp,uw L p n hn hn2 (by omega) hp⟩
theorem dI {α:Type}(l:List α)(a:α):(l++ [a]).length=l.length+1:=by simp
attribute [local irreducible] OZ Bf xO kU jD
theorem adu (L:By)(hL:L.length≤1000):bD Tryz.prog GS 60 [bs L] 0 [] (fun a m H=> ∃l,(Yg l∧l=OZ L)∧lM 95 10 (l.map jg) a m H):=by
 refine au Tryz.func60 rfl mixed (by kernel_rfl) ?_
 conv=>whnf
 refine bg ZM 3 [4,5,7] (fun x:ES=> [(4, .own 2),(5,iv x.tm),(7,iv x.last)]) (fun x=> [(0,Kr L x.a),(1, .rows 3 1 (x.sq.map enN)),(2, .rows 95 10 (x.out.map jg))]) (fun x=>EI L x∧OZ L=Bf L (60-x.out.length) x) (fun x=>60-x.out.length) [(2, .nil)] [] ⟨[],0,0,[0,0,0], -1⟩ (by kernel_rfl) (fun _=>rfl) rfl ⟨⟨Nat.zero_le _,⟨Nat.zero_le _,(fun _ h=>by cases h),List.Pairwise.nil⟩,Nat.zero_le _,(fun _ h=>by cases h),rfl,(by simp),by constructor<;>(dsimp only;omega)⟩,by unfold OZ;rfl⟩ ⟨(by trivial),(by trivial),rfl,trivial⟩ ⟨trivial,rfl,rfl,trivial⟩ ?_
 rintro⟨out,p,tm,sq,last⟩ ⟨hJ,hE⟩
 obtain⟨hp,hP,htm,hle,hsl,hsb,hlast⟩:=id hJ
 dsimp only at hp hP htm hle hsl hsb hlast hE
 have hol:=hP.len
 conv=>whnf
 refine aH [0] [] (by kernel_rfl) (adt L p) rfl (by trivial) (by trivial) ?_
 rintro _ _ _ ⟨rfl,rfl,rfl⟩
 refine⟨rfl, ?_⟩
 conv=>whnf
 apply ah<;>intro h
 rotate_left 1
 ·have hz:out=OZ L:=by rw [hE,OL (x:=⟨out,p,tm,sq,last⟩) (by simpa using h)]
  conv=>whnf
  exact aV (.own 0) 1 _ [(0, .lab 2)] [] ⟨out,⟨hP,hz⟩,rfl,rfl,rfl⟩ rfl (by trivial) (by trivial)
 have hmo:p<L.length:=by simpa using h
 conv=>whnf
 apply ah<;>intro h
 rotate_left 1
 ·have hz:out=OZ L:=by rw [hE,show 60-out.length=0 by simp at h;omega];unfold Bf;rfl
  conv=>whnf
  exact aV (.own 0) 1 _ [(0, .lab 2)] [] ⟨out,⟨hP,hz⟩,rfl,rfl,rfl⟩ rfl (by trivial) (by trivial)
 have hlt:out.length<60:=by simp at h;omega
 conv=>whnf
 refine aH [0] [] (by kernel_rfl) (uw L p 4 (by decide) (by decide) (by omega) hp) rfl (by trivial) (by trivial) ?_
 rintro _ _ _ ⟨rfl,rfl,rfl⟩
 refine⟨rfl, ?_⟩
 conv=>whnf
 have hv1:=iU L p 4 (by decide)
 have hp1:=gY (L:=L) hp
 generalize e1:kU L p 4=v1 at *
 generalize f1:jD L p=p1 at *
 refine aH [0] [] (by kernel_rfl) (uw L p1 3 (by decide) (by decide) (by omega) hp1) rfl (by trivial) (by trivial) ?_
 rintro _ _ _ ⟨rfl,rfl,rfl⟩
 refine⟨rfl, ?_⟩
 conv=>whnf
 have hv2:=iU L p1 3 (by decide)
 have hp2:=gY (L:=L) hp1
 generalize e2:kU L p1 3=v2 at *
 generalize f2:jD L p1=p2 at *
 obtain⟨sv,hsv,oQ⟩ : ∃sv,sq[v2]? = some sv∧sv≤out.length:=⟨_,List.getElem?_eq_getElem (by omega),hsb _ (List.getElem_mem _)⟩
 obtain⟨cl,hcl,hcm⟩ : ∃cl,wK[v2]? = some cl∧cl∈wK:=⟨_,List.getElem?_eq_getElem hv2,List.getElem_mem _⟩
 have abn:sq.getD v2 0=sv:=by rw [List.getD_eq_getElem?_getD,hsv,Option.getD_some]
 have abo:wK.getD v2 []=cl:=by rw [List.getD_eq_getElem?_getD,hcl,Option.getD_some]
 have hv3:=iU L p2 6 (by decide)
 have hid:bD Tryz.prog GS 94 [iv (kU L p2 6)] 0 [] (Is (tv (fC (kU L p2 6)))):=bD.up (Kq _ (by omega)) GS
 refine ah (fun hq=> ?_) (fun hq=> ?_)
 ·conv=>whnf
  refine ah (fun hc=> ?_) (fun hc=> ?_)
  ·have hst:(if v1=0∧((v2:Nat):Int)<last then 1 else v1)=1:=if_pos ⟨by simpa using hq,by simpa using hc⟩
   conv=>whnf
   refine aI.i64 (by dsimp only;omega) ?_
   conv=>whnf
   refine bC.mk' v2 rfl (by rw [List.length_map,hsl];exact hv2) ?_
   conv=>whnf
   refine aS.aA hsv ?_
   conv=>whnf
   refine aI.i64 (by omega) ?_
   conv=>whnf
   refine bC.mk' v2 rfl (by rw [List.length_map,hsl];exact hv2) ?_
   conv=>whnf
   refine aS.aA hsv ?_
   conv=>whnf
   refine eu jK [0] [(10,10),(44,56)] 4 [(10, .ptr 3 0)] [(0,Kr L (jD L p2)),(1, .rows 3 1 (((sq.map enN).set v2 (enN (sv+1))))),(2, .rows 95 10 (out.map jg)),(3, .var 95 [tv cl,iv ((sv:Int)+1),iv 0,iv ((tm:Int)+1),tv (fC (kU L p2 6)),tv [],tv [],iv 0,iv 0,iv 0])] (by kernel_rfl) (by kernel_rfl) ?_ ?_
   ·conv=>whnf
    repeat' (first
     | (refine And.intro ?_ ?_<;>(conv=>whnf))
     | (refine bC.mk' v2 rfl hv2 ?_;conv=>whnf)
     | (refine aS.aA (enc:=xK) (xs:=wK) hcl ?_;conv=>whnf)
     | (refine bC.mk' v2 rfl (by rw [List.length_set,List.length_map,hsl];exact hv2) ?_;conv=>whnf)
     | (refine aS.set (by rw [List.length_map,hsl];exact hv2) ?_;conv=>whnf)
     | (refine aH [0] [] (by kernel_rfl) (uw L p2 6 (by decide) (by decide) (by omega) hp2) rfl (by trivial) (by trivial) ?_;rintro _ _ _ ⟨rfl,rfl,rfl⟩;refine⟨rfl, ?_⟩;conv=>whnf)
     | ((refine bf [] (by kernel_rfl) (hid) rfl ?_ ?_;(focus (trivial;done));(conv=>whnf))))
    all_goals first
     | (refine jf [(3, .lab 3)] [] ?_ ?_ ?_;(focus rfl);(focus trivial);(focus trivial);done)
     | (refine jf [(3, .lab 4)] [] ?_ ?_ ?_;(focus rfl);(focus trivial);(focus trivial);done)
     | (refine jf [(3, .lab 5)] [] ?_ ?_ ?_;(focus rfl);(focus trivial);(focus trivial);done)
   have hp3:=gY (L:=L) hp2
   generalize e3:kU L p2 6=v3 at *
   generalize f3:jD L p2=p3 at *
   conv=>whnf
   refine aH [0] [] (by kernel_rfl) (uw L p3 8 (by decide) (by decide) (by omega) hp3) rfl (by trivial) (by trivial) ?_
   rintro _ _ _ ⟨rfl,rfl,rfl⟩
   refine⟨rfl, ?_⟩
   conv=>whnf
   have hv4:=iU L p3 8 (by decide)
   have Ak:=gY (L:=L) hp3
   generalize e4:kU L p3 8=v4 at *
   generalize f4:jD L p3=p4 at *
   have hS:xO L ⟨out,p,tm,sq,last⟩=ig L out tm sq 1 v2 sv cl v3 v4 p4:=by
    unfold xO
    dsimp only
    rw [e1,f1,e2,f2,e3,f3,e4,f4,abn,abo,hst]
   rcases(by omega:v4=0∨v4=1∨v4=2∨v4=3∨4≤v4)with rfl | rfl | rfl | rfl | h4
   ·conv=>whnf
    obtain⟨v5,p5,e5,f5,hv5,nT,c5⟩:=lW hL Ak 8 (by decide) (by decide)
    obtain⟨v6,p6,e6,f6,hv6,wL,c6⟩:=lW hL nT 10 (by decide) (by decide)
    obtain⟨v7,p7,e7,f7,hv7,ER,c7⟩:=lW hL wL 12 (by decide) (by decide)
    obtain⟨v8,p8,e8,f8,Yh,Aq,c8⟩:=lW hL ER 5 (by decide) (by decide)
    obtain⟨xn,hxn⟩ : ∃xn,gZ[v5/7]? = some xn:=⟨_,List.getElem?_eq_getElem (by have:gZ.length=4:=rfl;omega)⟩
    have hxe:xn=gZ.getD (v5/7) []:=by rw [List.getD_eq_getElem?_getD,hxn,Option.getD_some]
    (refine aP jK [0,3] (by kernel_rfl) ?_;conv=>whnf)
    (refine aj [] (by kernel_rfl) (uy) ?_ ?_;(focus trivial))
    rintro _ _ _ ⟨rfl,rfl,rfl⟩
    conv=>whnf
    repeat' (first
     | (refine And.intro ?_ ?_<;>(conv=>whnf))
     | (refine aH [0] [] (by kernel_rfl) c5 rfl ?_ ?_ ?_;(focus (trivial;done));(focus (trivial;done));rintro _ _ _ ⟨rfl,rfl,rfl⟩;refine⟨rfl, ?_⟩;conv=>whnf)
     | (refine aH [0] [] (by kernel_rfl) c6 rfl ?_ ?_ ?_;(focus (trivial;done));(focus (trivial;done));rintro _ _ _ ⟨rfl,rfl,rfl⟩;refine⟨rfl, ?_⟩;conv=>whnf)
     | (refine aH [0] [] (by kernel_rfl) c7 rfl ?_ ?_ ?_;(focus (trivial;done));(focus (trivial;done));rintro _ _ _ ⟨rfl,rfl,rfl⟩;refine⟨rfl, ?_⟩;conv=>whnf)
     | (refine aH [0] [] (by kernel_rfl) c8 rfl ?_ ?_ ?_;(focus (trivial;done));(focus (trivial;done));rintro _ _ _ ⟨rfl,rfl,rfl⟩;refine⟨rfl, ?_⟩;conv=>whnf)
     | (refine ay.mk (by decide) ?_;conv=>whnf)
     | (refine bC.mk' (v5/7) rfl (by rw [List.length_map];have:gZ.length=4:=rfl;omega) ?_;conv=>whnf)
     | (refine aS.aA hxn ?_;conv=>whnf)
     | (refine aI.div v5 7 (by omega) ?_;conv=>whnf)
     | (refine aI.div v7 11 (by omega) ?_;conv=>whnf)
     | (refine aI.div v8 4 (by omega) ?_;conv=>whnf)
     | (refine aI.to (y:=((1+v6%9%2:Nat):Int)) ?_ ?_;(focus (rw [show (1:Int)+((v6:Int).tmod 9).tmod 2=((1+v6%9%2:Nat):Int)from rfl];exact IntWalk.i64_in _ (by omega)));conv=>whnf)
     | (refine aI.i64 ?_ ?_;(focus omega);conv=>whnf))
    have hZ : ∀k,k<3→ig L out tm sq 1 v2 sv cl v3 k p4=Di L out tm sq 1 v2 sv cl v3 v5 v6 v7 v8 p8:=fun k hk=>by unfold ig;rw [if_pos hk,e5,f5,e6,f6,e7,f7,e8,f8]
    unfold Di at hZ
    rw [←hxe]at hZ
    refine ay.mk (aG (by simp only [List.length_map,List.length_cons,List.length_nil];omega) (by kernel_rfl)) ?_
    conv=>whnf
    exact aF ⟨out++ [⟨cl,(sv:Int)+1,1,(tm:Int)+1,fC v3,xn,[],1+((v8/4:Nat):Int),((1+v6%9%2:Nat):Int)+((v7/11:Nat):Int),0⟩],p8,tm+1,sq.set v2 (sv+1),v2⟩ [(2, .lab 6)] [] rfl (by show 60 -(out++ [_]).length<60-out.length;rw [List.length_append];simp;omega) ⟨hJ.next hlt Aq (by omega) hv2 oQ rfl ⟨hcm,⟨v3,hv3,rfl⟩,(by dsimp only;omega),(by dsimp only;omega), .inl ⟨rfl,⟨v5/7,by omega,hxe⟩,rfl,(by dsimp only;omega),(by dsimp only;omega),rfl⟩⟩,hE.trans (fG (x:=⟨out,p,tm,sq,last⟩) hmo hlt (hS.trans (hZ _ (by decide))) (dI _ _))⟩ ⟨(by trivial),⟨rfl,rfl,List.map_set.symm⟩,⟨rfl,rfl,fF out ⟨cl,(sv:Int)+1,1,(tm:Int)+1,fC v3,xn,[],1+((v8/4:Nat):Int),((1+v6%9%2:Nat):Int)+((v7/11:Nat):Int),0⟩⟩,trivial⟩ ⟨rfl,rfl,rfl,trivial⟩
   ·conv=>whnf
    obtain⟨v5,p5,e5,f5,hv5,nT,c5⟩:=lW hL Ak 8 (by decide) (by decide)
    obtain⟨v6,p6,e6,f6,hv6,wL,c6⟩:=lW hL nT 10 (by decide) (by decide)
    obtain⟨v7,p7,e7,f7,hv7,ER,c7⟩:=lW hL wL 12 (by decide) (by decide)
    obtain⟨v8,p8,e8,f8,Yh,Aq,c8⟩:=lW hL ER 5 (by decide) (by decide)
    obtain⟨xn,hxn⟩ : ∃xn,gZ[v5/7]? = some xn:=⟨_,List.getElem?_eq_getElem (by have:gZ.length=4:=rfl;omega)⟩
    have hxe:xn=gZ.getD (v5/7) []:=by rw [List.getD_eq_getElem?_getD,hxn,Option.getD_some]
    (refine aP jK [0,3] (by kernel_rfl) ?_;conv=>whnf)
    (refine aj [] (by kernel_rfl) (uy) ?_ ?_;(focus trivial))
    rintro _ _ _ ⟨rfl,rfl,rfl⟩
    conv=>whnf
    repeat' (first
     | (refine And.intro ?_ ?_<;>(conv=>whnf))
     | (refine aH [0] [] (by kernel_rfl) c5 rfl ?_ ?_ ?_;(focus (trivial;done));(focus (trivial;done));rintro _ _ _ ⟨rfl,rfl,rfl⟩;refine⟨rfl, ?_⟩;conv=>whnf)
     | (refine aH [0] [] (by kernel_rfl) c6 rfl ?_ ?_ ?_;(focus (trivial;done));(focus (trivial;done));rintro _ _ _ ⟨rfl,rfl,rfl⟩;refine⟨rfl, ?_⟩;conv=>whnf)
     | (refine aH [0] [] (by kernel_rfl) c7 rfl ?_ ?_ ?_;(focus (trivial;done));(focus (trivial;done));rintro _ _ _ ⟨rfl,rfl,rfl⟩;refine⟨rfl, ?_⟩;conv=>whnf)
     | (refine aH [0] [] (by kernel_rfl) c8 rfl ?_ ?_ ?_;(focus (trivial;done));(focus (trivial;done));rintro _ _ _ ⟨rfl,rfl,rfl⟩;refine⟨rfl, ?_⟩;conv=>whnf)
     | (refine ay.mk (by decide) ?_;conv=>whnf)
     | (refine bC.mk' (v5/7) rfl (by rw [List.length_map];have:gZ.length=4:=rfl;omega) ?_;conv=>whnf)
     | (refine aS.aA hxn ?_;conv=>whnf)
     | (refine aI.div v5 7 (by omega) ?_;conv=>whnf)
     | (refine aI.div v7 11 (by omega) ?_;conv=>whnf)
     | (refine aI.div v8 4 (by omega) ?_;conv=>whnf)
     | (refine aI.to (y:=((1+v6%9%2:Nat):Int)) ?_ ?_;(focus (rw [show (1:Int)+((v6:Int).tmod 9).tmod 2=((1+v6%9%2:Nat):Int)from rfl];exact IntWalk.i64_in _ (by omega)));conv=>whnf)
     | (refine aI.i64 ?_ ?_;(focus omega);conv=>whnf))
    have hZ : ∀k,k<3→ig L out tm sq 1 v2 sv cl v3 k p4=Di L out tm sq 1 v2 sv cl v3 v5 v6 v7 v8 p8:=fun k hk=>by unfold ig;rw [if_pos hk,e5,f5,e6,f6,e7,f7,e8,f8]
    unfold Di at hZ
    rw [←hxe]at hZ
    refine ay.mk (aG (by simp only [List.length_map,List.length_cons,List.length_nil];omega) (by kernel_rfl)) ?_
    conv=>whnf
    exact aF ⟨out++ [⟨cl,(sv:Int)+1,1,(tm:Int)+1,fC v3,xn,[],1+((v8/4:Nat):Int),((1+v6%9%2:Nat):Int)+((v7/11:Nat):Int),0⟩],p8,tm+1,sq.set v2 (sv+1),v2⟩ [(2, .lab 6)] [] rfl (by show 60 -(out++ [_]).length<60-out.length;rw [List.length_append];simp;omega) ⟨hJ.next hlt Aq (by omega) hv2 oQ rfl ⟨hcm,⟨v3,hv3,rfl⟩,(by dsimp only;omega),(by dsimp only;omega), .inl ⟨rfl,⟨v5/7,by omega,hxe⟩,rfl,(by dsimp only;omega),(by dsimp only;omega),rfl⟩⟩,hE.trans (fG (x:=⟨out,p,tm,sq,last⟩) hmo hlt (hS.trans (hZ _ (by decide))) (dI _ _))⟩ ⟨(by trivial),⟨rfl,rfl,List.map_set.symm⟩,⟨rfl,rfl,fF out ⟨cl,(sv:Int)+1,1,(tm:Int)+1,fC v3,xn,[],1+((v8/4:Nat):Int),((1+v6%9%2:Nat):Int)+((v7/11:Nat):Int),0⟩⟩,trivial⟩ ⟨rfl,rfl,rfl,trivial⟩
   ·conv=>whnf
    obtain⟨v5,p5,e5,f5,hv5,nT,c5⟩:=lW hL Ak 8 (by decide) (by decide)
    obtain⟨v6,p6,e6,f6,hv6,wL,c6⟩:=lW hL nT 10 (by decide) (by decide)
    obtain⟨v7,p7,e7,f7,hv7,ER,c7⟩:=lW hL wL 12 (by decide) (by decide)
    obtain⟨v8,p8,e8,f8,Yh,Aq,c8⟩:=lW hL ER 5 (by decide) (by decide)
    obtain⟨xn,hxn⟩ : ∃xn,gZ[v5/7]? = some xn:=⟨_,List.getElem?_eq_getElem (by have:gZ.length=4:=rfl;omega)⟩
    have hxe:xn=gZ.getD (v5/7) []:=by rw [List.getD_eq_getElem?_getD,hxn,Option.getD_some]
    (refine aP jK [0,3] (by kernel_rfl) ?_;conv=>whnf)
    (refine aj [] (by kernel_rfl) (uy) ?_ ?_;(focus trivial))
    rintro _ _ _ ⟨rfl,rfl,rfl⟩
    conv=>whnf
    repeat' (first
     | (refine And.intro ?_ ?_<;>(conv=>whnf))
     | (refine aH [0] [] (by kernel_rfl) c5 rfl ?_ ?_ ?_;(focus (trivial;done));(focus (trivial;done));rintro _ _ _ ⟨rfl,rfl,rfl⟩;refine⟨rfl, ?_⟩;conv=>whnf)
     | (refine aH [0] [] (by kernel_rfl) c6 rfl ?_ ?_ ?_;(focus (trivial;done));(focus (trivial;done));rintro _ _ _ ⟨rfl,rfl,rfl⟩;refine⟨rfl, ?_⟩;conv=>whnf)
     | (refine aH [0] [] (by kernel_rfl) c7 rfl ?_ ?_ ?_;(focus (trivial;done));(focus (trivial;done));rintro _ _ _ ⟨rfl,rfl,rfl⟩;refine⟨rfl, ?_⟩;conv=>whnf)
     | (refine aH [0] [] (by kernel_rfl) c8 rfl ?_ ?_ ?_;(focus (trivial;done));(focus (trivial;done));rintro _ _ _ ⟨rfl,rfl,rfl⟩;refine⟨rfl, ?_⟩;conv=>whnf)
     | (refine ay.mk (by decide) ?_;conv=>whnf)
     | (refine bC.mk' (v5/7) rfl (by rw [List.length_map];have:gZ.length=4:=rfl;omega) ?_;conv=>whnf)
     | (refine aS.aA hxn ?_;conv=>whnf)
     | (refine aI.div v5 7 (by omega) ?_;conv=>whnf)
     | (refine aI.div v7 11 (by omega) ?_;conv=>whnf)
     | (refine aI.div v8 4 (by omega) ?_;conv=>whnf)
     | (refine aI.to (y:=((1+v6%9%2:Nat):Int)) ?_ ?_;(focus (rw [show (1:Int)+((v6:Int).tmod 9).tmod 2=((1+v6%9%2:Nat):Int)from rfl];exact IntWalk.i64_in _ (by omega)));conv=>whnf)
     | (refine aI.i64 ?_ ?_;(focus omega);conv=>whnf))
    have hZ : ∀k,k<3→ig L out tm sq 1 v2 sv cl v3 k p4=Di L out tm sq 1 v2 sv cl v3 v5 v6 v7 v8 p8:=fun k hk=>by unfold ig;rw [if_pos hk,e5,f5,e6,f6,e7,f7,e8,f8]
    unfold Di at hZ
    rw [←hxe]at hZ
    refine ay.mk (aG (by simp only [List.length_map,List.length_cons,List.length_nil];omega) (by kernel_rfl)) ?_
    conv=>whnf
    exact aF ⟨out++ [⟨cl,(sv:Int)+1,1,(tm:Int)+1,fC v3,xn,[],1+((v8/4:Nat):Int),((1+v6%9%2:Nat):Int)+((v7/11:Nat):Int),0⟩],p8,tm+1,sq.set v2 (sv+1),v2⟩ [(2, .lab 6)] [] rfl (by show 60 -(out++ [_]).length<60-out.length;rw [List.length_append];simp;omega) ⟨hJ.next hlt Aq (by omega) hv2 oQ rfl ⟨hcm,⟨v3,hv3,rfl⟩,(by dsimp only;omega),(by dsimp only;omega), .inl ⟨rfl,⟨v5/7,by omega,hxe⟩,rfl,(by dsimp only;omega),(by dsimp only;omega),rfl⟩⟩,hE.trans (fG (x:=⟨out,p,tm,sq,last⟩) hmo hlt (hS.trans (hZ _ (by decide))) (dI _ _))⟩ ⟨(by trivial),⟨rfl,rfl,List.map_set.symm⟩,⟨rfl,rfl,fF out ⟨cl,(sv:Int)+1,1,(tm:Int)+1,fC v3,xn,[],1+((v8/4:Nat):Int),((1+v6%9%2:Nat):Int)+((v7/11:Nat):Int),0⟩⟩,trivial⟩ ⟨rfl,rfl,rfl,trivial⟩
   ·conv=>whnf
    obtain⟨v5,p5,e5,f5,hv5,nT,c5⟩:=lW hL Ak 6 (by decide) (by decide)
    refine aH [0] [] (by kernel_rfl) c5 rfl ?_ ?_ ?_;(focus (trivial;done));(focus (trivial;done));rintro _ _ _ ⟨rfl,rfl,rfl⟩;refine⟨rfl, ?_⟩;conv=>whnf
    (refine aP jK [] (by kernel_rfl) ?_;conv=>whnf)
    have hi5:bD Tryz.prog GS 94 [iv v5] 0 [] (Is (tv (fC v5))):=bD.up (Kq _ (by omega)) GS
    have hi6:bD Tryz.prog GS 94 [iv ((v5:Int)+1)] 0 [] (Is (tv (fC (v5+1)))):=bD.up (Kq (v5+1) (by omega)) GS
    (refine bf [] (by kernel_rfl) (hi5) rfl ?_ ?_;(focus (trivial;done));(conv=>whnf))
    apply ah<;>intro h
    ·conv=>whnf
     refine aI.i64 (by omega) ?_
     conv=>whnf
     (refine bf [] (by kernel_rfl) (hi6) rfl ?_ ?_;(focus (trivial;done));(conv=>whnf))
     have hid:fC v5=fC v3:=by have h:=h;rw [kH,decide_eq_true_eq]at h;exact h
     have hZ:ig L out tm sq 1 v2 sv cl v3 3 p4=MS L out tm sq 1 v2 sv cl v3 v5 p5:=by unfold ig;rw [if_neg (by decide),if_pos rfl,e5,f5]
     unfold MS at hZ
     rw [if_pos hid]at hZ
     refine ay.mk (aG (by simp only [List.length_map,List.length_cons,List.length_nil];omega) (by kernel_rfl)) ?_
     conv=>whnf
     exact aF ⟨out++ [⟨cl,(sv:Int)+1,3,(tm:Int)+1,fC v3,[],fC (v5+1),0,0,0⟩],p5,tm+1,sq.set v2 (sv+1),v2⟩ [(2, .lab 5)] [] rfl (by show 60 -(out++ [_]).length<60-out.length;rw [List.length_append];simp;omega) ⟨hJ.next hlt nT (by omega) hv2 oQ rfl ⟨hcm,⟨v3,hv3,rfl⟩,(by dsimp only;omega),(by dsimp only;omega), .inr (.inr ⟨rfl,rfl,⟨v5+1,by omega,rfl⟩,yL hv5 hv3 h,rfl,rfl,rfl⟩)⟩,hE.trans (fG (x:=⟨out,p,tm,sq,last⟩) hmo hlt (hS.trans hZ) (dI _ _))⟩ ⟨(by trivial),⟨rfl,rfl,List.map_set.symm⟩,⟨rfl,rfl,fF out ⟨cl,(sv:Int)+1,3,(tm:Int)+1,fC v3,[],fC (v5+1),0,0,0⟩⟩,trivial⟩ ⟨rfl,rfl,rfl,trivial⟩
    ·conv=>whnf
     (refine bf [] (by kernel_rfl) (hi5) rfl ?_ ?_;(focus (trivial;done));(conv=>whnf))
     have hZ:ig L out tm sq 1 v2 sv cl v3 3 p4=MS L out tm sq 1 v2 sv cl v3 v5 p5:=by unfold ig;rw [if_neg (by decide),if_pos rfl,e5,f5]
     unfold MS at hZ
     rw [if_neg (qA h)]at hZ
     refine ay.mk (aG (by simp only [List.length_map,List.length_cons,List.length_nil];omega) (by kernel_rfl)) ?_
     conv=>whnf
     exact aF ⟨out++ [⟨cl,(sv:Int)+1,3,(tm:Int)+1,fC v3,[],fC v5,0,0,0⟩],p5,tm+1,sq.set v2 (sv+1),v2⟩ [(2, .lab 5)] [] rfl (by show 60 -(out++ [_]).length<60-out.length;rw [List.length_append];simp;omega) ⟨hJ.next hlt nT (by omega) hv2 oQ rfl ⟨hcm,⟨v3,hv3,rfl⟩,(by dsimp only;omega),(by dsimp only;omega), .inr (.inr ⟨rfl,rfl,⟨v5,by omega,rfl⟩,qA h,rfl,rfl,rfl⟩)⟩,hE.trans (fG (x:=⟨out,p,tm,sq,last⟩) hmo hlt (hS.trans hZ) (dI _ _))⟩ ⟨(by trivial),⟨rfl,rfl,List.map_set.symm⟩,⟨rfl,rfl,fF out ⟨cl,(sv:Int)+1,3,(tm:Int)+1,fC v3,[],fC v5,0,0,0⟩⟩,trivial⟩ ⟨rfl,rfl,rfl,trivial⟩
   ·repeat' (refine pV (beq_eq_false_iff_ne.2 (by omega)) ?_;conv=>whnf)
    obtain⟨v5,p5,e5,f5,hv5,nT,c5⟩:=lW hL Ak 3 (by decide) (by decide)
    obtain⟨v6,p6,e6,f6,hv6,wL,c6⟩:=lW hL nT 40 (by decide) (by decide)
    obtain⟨xn,hxn⟩ : ∃xn,pR[v5/2]? = some xn:=⟨_,List.getElem?_eq_getElem (by have:pR.length=2:=rfl;omega)⟩
    have hxe:xn=pR.getD (v5/2) []:=by rw [List.getD_eq_getElem?_getD,hxn,Option.getD_some]
    (refine aP jK [0,3] (by kernel_rfl) ?_;conv=>whnf)
    (refine aj [] (by kernel_rfl) (Ua) ?_ ?_;(focus trivial))
    rintro _ _ _ ⟨rfl,rfl,rfl⟩
    conv=>whnf
    repeat' (first
     | (refine And.intro ?_ ?_<;>(conv=>whnf))
     | (refine aH [0] [] (by kernel_rfl) c5 rfl ?_ ?_ ?_;(focus (trivial;done));(focus (trivial;done));rintro _ _ _ ⟨rfl,rfl,rfl⟩;refine⟨rfl, ?_⟩;conv=>whnf)
     | (refine aH [0] [] (by kernel_rfl) c6 rfl ?_ ?_ ?_;(focus (trivial;done));(focus (trivial;done));rintro _ _ _ ⟨rfl,rfl,rfl⟩;refine⟨rfl, ?_⟩;conv=>whnf)
     | (refine ay.mk (by decide) ?_;conv=>whnf)
     | (refine bC.mk' (v5/2) rfl (by rw [List.length_map];have:pR.length=2:=rfl;omega) ?_;conv=>whnf)
     | (refine aS.aA hxn ?_;conv=>whnf)
     | (refine aI.div v5 2 (by omega) ?_;conv=>whnf)
     | (refine aI.i64 ?_ ?_;(focus omega);conv=>whnf))
    have hZ:ig L out tm sq 1 v2 sv cl v3 v4 p4=YW L out tm sq 1 v2 sv cl v3 v5 v6 p6:=by unfold ig;rw [if_neg (by omega),if_neg (by omega),e5,f5,e6,f6]
    unfold YW at hZ
    rw [←hxe]at hZ
    refine ay.mk (aG (by simp only [List.length_map,List.length_cons,List.length_nil];omega) (by kernel_rfl)) ?_
    conv=>whnf
    exact aF ⟨out++ [⟨cl,(sv:Int)+1,2,(tm:Int)+1,fC v3,xn,[],0,0,(v6:Int)-4⟩],p6,tm+1,sq.set v2 (sv+1),v2⟩ [(2, .lab 6)] [] rfl (by show 60 -(out++ [_]).length<60-out.length;rw [List.length_append];simp;omega) ⟨hJ.next hlt wL (by omega) hv2 oQ rfl ⟨hcm,⟨v3,hv3,rfl⟩,(by dsimp only;omega),(by dsimp only;omega), .inr (.inl ⟨rfl,⟨v5/2,by omega,hxe⟩,rfl,rfl,rfl,(by dsimp only;omega)⟩)⟩,hE.trans (fG (x:=⟨out,p,tm,sq,last⟩) hmo hlt (hS.trans hZ) (dI _ _))⟩ ⟨(by trivial),⟨rfl,rfl,List.map_set.symm⟩,⟨rfl,rfl,fF out ⟨cl,(sv:Int)+1,2,(tm:Int)+1,fC v3,xn,[],0,0,(v6:Int)-4⟩⟩,trivial⟩ ⟨rfl,rfl,rfl,trivial⟩
  ·have hst:(if v1=0∧((v2:Nat):Int)<last then 1 else v1)=v1:=if_neg (fun hx=>by have:=hx.2;simp at hc;omega)
   conv=>whnf
   refine aI.i64 (by dsimp only;omega) ?_
   conv=>whnf
   refine bC.mk' v2 rfl (by rw [List.length_map,hsl];exact hv2) ?_
   conv=>whnf
   refine aS.aA hsv ?_
   conv=>whnf
   refine aI.i64 (by omega) ?_
   conv=>whnf
   refine bC.mk' v2 rfl (by rw [List.length_map,hsl];exact hv2) ?_
   conv=>whnf
   refine aS.aA hsv ?_
   conv=>whnf
   refine eu jK [0] [(10,10),(44,56)] 4 [(10, .ptr 3 0)] [(0,Kr L (jD L p2)),(1, .rows 3 1 (((sq.map enN).set v2 (enN (sv+1))))),(2, .rows 95 10 (out.map jg)),(3, .var 95 [tv cl,iv ((sv:Int)+1),iv 0,iv ((tm:Int)+v1),tv (fC (kU L p2 6)),tv [],tv [],iv 0,iv 0,iv 0])] (by kernel_rfl) (by kernel_rfl) ?_ ?_
   ·conv=>whnf
    repeat' (first
     | (refine And.intro ?_ ?_<;>(conv=>whnf))
     | (refine bC.mk' v2 rfl hv2 ?_;conv=>whnf)
     | (refine aS.aA (enc:=xK) (xs:=wK) hcl ?_;conv=>whnf)
     | (refine bC.mk' v2 rfl (by rw [List.length_set,List.length_map,hsl];exact hv2) ?_;conv=>whnf)
     | (refine aS.set (by rw [List.length_map,hsl];exact hv2) ?_;conv=>whnf)
     | (refine aH [0] [] (by kernel_rfl) (uw L p2 6 (by decide) (by decide) (by omega) hp2) rfl (by trivial) (by trivial) ?_;rintro _ _ _ ⟨rfl,rfl,rfl⟩;refine⟨rfl, ?_⟩;conv=>whnf)
     | ((refine bf [] (by kernel_rfl) (hid) rfl ?_ ?_;(focus (trivial;done));(conv=>whnf))))
    all_goals first
     | (refine jf [(3, .lab 3)] [] ?_ ?_ ?_;(focus rfl);(focus trivial);(focus trivial);done)
     | (refine jf [(3, .lab 4)] [] ?_ ?_ ?_;(focus rfl);(focus trivial);(focus trivial);done)
     | (refine jf [(3, .lab 5)] [] ?_ ?_ ?_;(focus rfl);(focus trivial);(focus trivial);done)
   have hp3:=gY (L:=L) hp2
   generalize e3:kU L p2 6=v3 at *
   generalize f3:jD L p2=p3 at *
   conv=>whnf
   refine aH [0] [] (by kernel_rfl) (uw L p3 8 (by decide) (by decide) (by omega) hp3) rfl (by trivial) (by trivial) ?_
   rintro _ _ _ ⟨rfl,rfl,rfl⟩
   refine⟨rfl, ?_⟩
   conv=>whnf
   have hv4:=iU L p3 8 (by decide)
   have Ak:=gY (L:=L) hp3
   generalize e4:kU L p3 8=v4 at *
   generalize f4:jD L p3=p4 at *
   have hS:xO L ⟨out,p,tm,sq,last⟩=ig L out tm sq v1 v2 sv cl v3 v4 p4:=by
    unfold xO
    dsimp only
    rw [e1,f1,e2,f2,e3,f3,e4,f4,abn,abo,hst]
   rcases(by omega:v4=0∨v4=1∨v4=2∨v4=3∨4≤v4)with rfl | rfl | rfl | rfl | h4
   ·conv=>whnf
    obtain⟨v5,p5,e5,f5,hv5,nT,c5⟩:=lW hL Ak 8 (by decide) (by decide)
    obtain⟨v6,p6,e6,f6,hv6,wL,c6⟩:=lW hL nT 10 (by decide) (by decide)
    obtain⟨v7,p7,e7,f7,hv7,ER,c7⟩:=lW hL wL 12 (by decide) (by decide)
    obtain⟨v8,p8,e8,f8,Yh,Aq,c8⟩:=lW hL ER 5 (by decide) (by decide)
    obtain⟨xn,hxn⟩ : ∃xn,gZ[v5/7]? = some xn:=⟨_,List.getElem?_eq_getElem (by have:gZ.length=4:=rfl;omega)⟩
    have hxe:xn=gZ.getD (v5/7) []:=by rw [List.getD_eq_getElem?_getD,hxn,Option.getD_some]
    (refine aP jK [0,3] (by kernel_rfl) ?_;conv=>whnf)
    (refine aj [] (by kernel_rfl) (uy) ?_ ?_;(focus trivial))
    rintro _ _ _ ⟨rfl,rfl,rfl⟩
    conv=>whnf
    repeat' (first
     | (refine And.intro ?_ ?_<;>(conv=>whnf))
     | (refine aH [0] [] (by kernel_rfl) c5 rfl ?_ ?_ ?_;(focus (trivial;done));(focus (trivial;done));rintro _ _ _ ⟨rfl,rfl,rfl⟩;refine⟨rfl, ?_⟩;conv=>whnf)
     | (refine aH [0] [] (by kernel_rfl) c6 rfl ?_ ?_ ?_;(focus (trivial;done));(focus (trivial;done));rintro _ _ _ ⟨rfl,rfl,rfl⟩;refine⟨rfl, ?_⟩;conv=>whnf)
     | (refine aH [0] [] (by kernel_rfl) c7 rfl ?_ ?_ ?_;(focus (trivial;done));(focus (trivial;done));rintro _ _ _ ⟨rfl,rfl,rfl⟩;refine⟨rfl, ?_⟩;conv=>whnf)
     | (refine aH [0] [] (by kernel_rfl) c8 rfl ?_ ?_ ?_;(focus (trivial;done));(focus (trivial;done));rintro _ _ _ ⟨rfl,rfl,rfl⟩;refine⟨rfl, ?_⟩;conv=>whnf)
     | (refine ay.mk (by decide) ?_;conv=>whnf)
     | (refine bC.mk' (v5/7) rfl (by rw [List.length_map];have:gZ.length=4:=rfl;omega) ?_;conv=>whnf)
     | (refine aS.aA hxn ?_;conv=>whnf)
     | (refine aI.div v5 7 (by omega) ?_;conv=>whnf)
     | (refine aI.div v7 11 (by omega) ?_;conv=>whnf)
     | (refine aI.div v8 4 (by omega) ?_;conv=>whnf)
     | (refine aI.to (y:=((1+v6%9%2:Nat):Int)) ?_ ?_;(focus (rw [show (1:Int)+((v6:Int).tmod 9).tmod 2=((1+v6%9%2:Nat):Int)from rfl];exact IntWalk.i64_in _ (by omega)));conv=>whnf)
     | (refine aI.i64 ?_ ?_;(focus omega);conv=>whnf))
    have hZ : ∀k,k<3→ig L out tm sq v1 v2 sv cl v3 k p4=Di L out tm sq v1 v2 sv cl v3 v5 v6 v7 v8 p8:=fun k hk=>by unfold ig;rw [if_pos hk,e5,f5,e6,f6,e7,f7,e8,f8]
    unfold Di at hZ
    rw [←hxe]at hZ
    refine ay.mk (aG (by simp only [List.length_map,List.length_cons,List.length_nil];omega) (by kernel_rfl)) ?_
    conv=>whnf
    exact aF ⟨out++ [⟨cl,(sv:Int)+1,1,(tm:Int)+v1,fC v3,xn,[],1+((v8/4:Nat):Int),((1+v6%9%2:Nat):Int)+((v7/11:Nat):Int),0⟩],p8,tm+v1,sq.set v2 (sv+1),v2⟩ [(2, .lab 6)] [] rfl (by show 60 -(out++ [_]).length<60-out.length;rw [List.length_append];simp;omega) ⟨hJ.next hlt Aq (by omega) hv2 oQ rfl ⟨hcm,⟨v3,hv3,rfl⟩,(by dsimp only;omega),(by dsimp only;omega), .inl ⟨rfl,⟨v5/7,by omega,hxe⟩,rfl,(by dsimp only;omega),(by dsimp only;omega),rfl⟩⟩,hE.trans (fG (x:=⟨out,p,tm,sq,last⟩) hmo hlt (hS.trans (hZ _ (by decide))) (dI _ _))⟩ ⟨(by trivial),⟨rfl,rfl,List.map_set.symm⟩,⟨rfl,rfl,fF out ⟨cl,(sv:Int)+1,1,(tm:Int)+v1,fC v3,xn,[],1+((v8/4:Nat):Int),((1+v6%9%2:Nat):Int)+((v7/11:Nat):Int),0⟩⟩,trivial⟩ ⟨rfl,rfl,rfl,trivial⟩
   ·conv=>whnf
    obtain⟨v5,p5,e5,f5,hv5,nT,c5⟩:=lW hL Ak 8 (by decide) (by decide)
    obtain⟨v6,p6,e6,f6,hv6,wL,c6⟩:=lW hL nT 10 (by decide) (by decide)
    obtain⟨v7,p7,e7,f7,hv7,ER,c7⟩:=lW hL wL 12 (by decide) (by decide)
    obtain⟨v8,p8,e8,f8,Yh,Aq,c8⟩:=lW hL ER 5 (by decide) (by decide)
    obtain⟨xn,hxn⟩ : ∃xn,gZ[v5/7]? = some xn:=⟨_,List.getElem?_eq_getElem (by have:gZ.length=4:=rfl;omega)⟩
    have hxe:xn=gZ.getD (v5/7) []:=by rw [List.getD_eq_getElem?_getD,hxn,Option.getD_some]
    (refine aP jK [0,3] (by kernel_rfl) ?_;conv=>whnf)
    (refine aj [] (by kernel_rfl) (uy) ?_ ?_;(focus trivial))
    rintro _ _ _ ⟨rfl,rfl,rfl⟩
    conv=>whnf
    repeat' (first
     | (refine And.intro ?_ ?_<;>(conv=>whnf))
     | (refine aH [0] [] (by kernel_rfl) c5 rfl ?_ ?_ ?_;(focus (trivial;done));(focus (trivial;done));rintro _ _ _ ⟨rfl,rfl,rfl⟩;refine⟨rfl, ?_⟩;conv=>whnf)
     | (refine aH [0] [] (by kernel_rfl) c6 rfl ?_ ?_ ?_;(focus (trivial;done));(focus (trivial;done));rintro _ _ _ ⟨rfl,rfl,rfl⟩;refine⟨rfl, ?_⟩;conv=>whnf)
     | (refine aH [0] [] (by kernel_rfl) c7 rfl ?_ ?_ ?_;(focus (trivial;done));(focus (trivial;done));rintro _ _ _ ⟨rfl,rfl,rfl⟩;refine⟨rfl, ?_⟩;conv=>whnf)
     | (refine aH [0] [] (by kernel_rfl) c8 rfl ?_ ?_ ?_;(focus (trivial;done));(focus (trivial;done));rintro _ _ _ ⟨rfl,rfl,rfl⟩;refine⟨rfl, ?_⟩;conv=>whnf)
     | (refine ay.mk (by decide) ?_;conv=>whnf)
     | (refine bC.mk' (v5/7) rfl (by rw [List.length_map];have:gZ.length=4:=rfl;omega) ?_;conv=>whnf)
     | (refine aS.aA hxn ?_;conv=>whnf)
     | (refine aI.div v5 7 (by omega) ?_;conv=>whnf)
     | (refine aI.div v7 11 (by omega) ?_;conv=>whnf)
     | (refine aI.div v8 4 (by omega) ?_;conv=>whnf)
     | (refine aI.to (y:=((1+v6%9%2:Nat):Int)) ?_ ?_;(focus (rw [show (1:Int)+((v6:Int).tmod 9).tmod 2=((1+v6%9%2:Nat):Int)from rfl];exact IntWalk.i64_in _ (by omega)));conv=>whnf)
     | (refine aI.i64 ?_ ?_;(focus omega);conv=>whnf))
    have hZ : ∀k,k<3→ig L out tm sq v1 v2 sv cl v3 k p4=Di L out tm sq v1 v2 sv cl v3 v5 v6 v7 v8 p8:=fun k hk=>by unfold ig;rw [if_pos hk,e5,f5,e6,f6,e7,f7,e8,f8]
    unfold Di at hZ
    rw [←hxe]at hZ
    refine ay.mk (aG (by simp only [List.length_map,List.length_cons,List.length_nil];omega) (by kernel_rfl)) ?_
    conv=>whnf
    exact aF ⟨out++ [⟨cl,(sv:Int)+1,1,(tm:Int)+v1,fC v3,xn,[],1+((v8/4:Nat):Int),((1+v6%9%2:Nat):Int)+((v7/11:Nat):Int),0⟩],p8,tm+v1,sq.set v2 (sv+1),v2⟩ [(2, .lab 6)] [] rfl (by show 60 -(out++ [_]).length<60-out.length;rw [List.length_append];simp;omega) ⟨hJ.next hlt Aq (by omega) hv2 oQ rfl ⟨hcm,⟨v3,hv3,rfl⟩,(by dsimp only;omega),(by dsimp only;omega), .inl ⟨rfl,⟨v5/7,by omega,hxe⟩,rfl,(by dsimp only;omega),(by dsimp only;omega),rfl⟩⟩,hE.trans (fG (x:=⟨out,p,tm,sq,last⟩) hmo hlt (hS.trans (hZ _ (by decide))) (dI _ _))⟩ ⟨(by trivial),⟨rfl,rfl,List.map_set.symm⟩,⟨rfl,rfl,fF out ⟨cl,(sv:Int)+1,1,(tm:Int)+v1,fC v3,xn,[],1+((v8/4:Nat):Int),((1+v6%9%2:Nat):Int)+((v7/11:Nat):Int),0⟩⟩,trivial⟩ ⟨rfl,rfl,rfl,trivial⟩
   ·conv=>whnf
    obtain⟨v5,p5,e5,f5,hv5,nT,c5⟩:=lW hL Ak 8 (by decide) (by decide)
    obtain⟨v6,p6,e6,f6,hv6,wL,c6⟩:=lW hL nT 10 (by decide) (by decide)
    obtain⟨v7,p7,e7,f7,hv7,ER,c7⟩:=lW hL wL 12 (by decide) (by decide)
    obtain⟨v8,p8,e8,f8,Yh,Aq,c8⟩:=lW hL ER 5 (by decide) (by decide)
    obtain⟨xn,hxn⟩ : ∃xn,gZ[v5/7]? = some xn:=⟨_,List.getElem?_eq_getElem (by have:gZ.length=4:=rfl;omega)⟩
    have hxe:xn=gZ.getD (v5/7) []:=by rw [List.getD_eq_getElem?_getD,hxn,Option.getD_some]
    (refine aP jK [0,3] (by kernel_rfl) ?_;conv=>whnf)
    (refine aj [] (by kernel_rfl) (uy) ?_ ?_;(focus trivial))
    rintro _ _ _ ⟨rfl,rfl,rfl⟩
    conv=>whnf
    repeat' (first
     | (refine And.intro ?_ ?_<;>(conv=>whnf))
     | (refine aH [0] [] (by kernel_rfl) c5 rfl ?_ ?_ ?_;(focus (trivial;done));(focus (trivial;done));rintro _ _ _ ⟨rfl,rfl,rfl⟩;refine⟨rfl, ?_⟩;conv=>whnf)
     | (refine aH [0] [] (by kernel_rfl) c6 rfl ?_ ?_ ?_;(focus (trivial;done));(focus (trivial;done));rintro _ _ _ ⟨rfl,rfl,rfl⟩;refine⟨rfl, ?_⟩;conv=>whnf)
     | (refine aH [0] [] (by kernel_rfl) c7 rfl ?_ ?_ ?_;(focus (trivial;done));(focus (trivial;done));rintro _ _ _ ⟨rfl,rfl,rfl⟩;refine⟨rfl, ?_⟩;conv=>whnf)
     | (refine aH [0] [] (by kernel_rfl) c8 rfl ?_ ?_ ?_;(focus (trivial;done));(focus (trivial;done));rintro _ _ _ ⟨rfl,rfl,rfl⟩;refine⟨rfl, ?_⟩;conv=>whnf)
     | (refine ay.mk (by decide) ?_;conv=>whnf)
     | (refine bC.mk' (v5/7) rfl (by rw [List.length_map];have:gZ.length=4:=rfl;omega) ?_;conv=>whnf)
     | (refine aS.aA hxn ?_;conv=>whnf)
     | (refine aI.div v5 7 (by omega) ?_;conv=>whnf)
     | (refine aI.div v7 11 (by omega) ?_;conv=>whnf)
     | (refine aI.div v8 4 (by omega) ?_;conv=>whnf)
     | (refine aI.to (y:=((1+v6%9%2:Nat):Int)) ?_ ?_;(focus (rw [show (1:Int)+((v6:Int).tmod 9).tmod 2=((1+v6%9%2:Nat):Int)from rfl];exact IntWalk.i64_in _ (by omega)));conv=>whnf)
     | (refine aI.i64 ?_ ?_;(focus omega);conv=>whnf))
    have hZ : ∀k,k<3→ig L out tm sq v1 v2 sv cl v3 k p4=Di L out tm sq v1 v2 sv cl v3 v5 v6 v7 v8 p8:=fun k hk=>by unfold ig;rw [if_pos hk,e5,f5,e6,f6,e7,f7,e8,f8]
    unfold Di at hZ
    rw [←hxe]at hZ
    refine ay.mk (aG (by simp only [List.length_map,List.length_cons,List.length_nil];omega) (by kernel_rfl)) ?_
    conv=>whnf
    exact aF ⟨out++ [⟨cl,(sv:Int)+1,1,(tm:Int)+v1,fC v3,xn,[],1+((v8/4:Nat):Int),((1+v6%9%2:Nat):Int)+((v7/11:Nat):Int),0⟩],p8,tm+v1,sq.set v2 (sv+1),v2⟩ [(2, .lab 6)] [] rfl (by show 60 -(out++ [_]).length<60-out.length;rw [List.length_append];simp;omega) ⟨hJ.next hlt Aq (by omega) hv2 oQ rfl ⟨hcm,⟨v3,hv3,rfl⟩,(by dsimp only;omega),(by dsimp only;omega), .inl ⟨rfl,⟨v5/7,by omega,hxe⟩,rfl,(by dsimp only;omega),(by dsimp only;omega),rfl⟩⟩,hE.trans (fG (x:=⟨out,p,tm,sq,last⟩) hmo hlt (hS.trans (hZ _ (by decide))) (dI _ _))⟩ ⟨(by trivial),⟨rfl,rfl,List.map_set.symm⟩,⟨rfl,rfl,fF out ⟨cl,(sv:Int)+1,1,(tm:Int)+v1,fC v3,xn,[],1+((v8/4:Nat):Int),((1+v6%9%2:Nat):Int)+((v7/11:Nat):Int),0⟩⟩,trivial⟩ ⟨rfl,rfl,rfl,trivial⟩
   ·conv=>whnf
    obtain⟨v5,p5,e5,f5,hv5,nT,c5⟩:=lW hL Ak 6 (by decide) (by decide)
    refine aH [0] [] (by kernel_rfl) c5 rfl ?_ ?_ ?_;(focus (trivial;done));(focus (trivial;done));rintro _ _ _ ⟨rfl,rfl,rfl⟩;refine⟨rfl, ?_⟩;conv=>whnf
    (refine aP jK [] (by kernel_rfl) ?_;conv=>whnf)
    have hi5:bD Tryz.prog GS 94 [iv v5] 0 [] (Is (tv (fC v5))):=bD.up (Kq _ (by omega)) GS
    have hi6:bD Tryz.prog GS 94 [iv ((v5:Int)+1)] 0 [] (Is (tv (fC (v5+1)))):=bD.up (Kq (v5+1) (by omega)) GS
    (refine bf [] (by kernel_rfl) (hi5) rfl ?_ ?_;(focus (trivial;done));(conv=>whnf))
    apply ah<;>intro h
    ·conv=>whnf
     refine aI.i64 (by omega) ?_
     conv=>whnf
     (refine bf [] (by kernel_rfl) (hi6) rfl ?_ ?_;(focus (trivial;done));(conv=>whnf))
     have hid:fC v5=fC v3:=by have h:=h;rw [kH,decide_eq_true_eq]at h;exact h
     have hZ:ig L out tm sq v1 v2 sv cl v3 3 p4=MS L out tm sq v1 v2 sv cl v3 v5 p5:=by unfold ig;rw [if_neg (by decide),if_pos rfl,e5,f5]
     unfold MS at hZ
     rw [if_pos hid]at hZ
     refine ay.mk (aG (by simp only [List.length_map,List.length_cons,List.length_nil];omega) (by kernel_rfl)) ?_
     conv=>whnf
     exact aF ⟨out++ [⟨cl,(sv:Int)+1,3,(tm:Int)+v1,fC v3,[],fC (v5+1),0,0,0⟩],p5,tm+v1,sq.set v2 (sv+1),v2⟩ [(2, .lab 5)] [] rfl (by show 60 -(out++ [_]).length<60-out.length;rw [List.length_append];simp;omega) ⟨hJ.next hlt nT (by omega) hv2 oQ rfl ⟨hcm,⟨v3,hv3,rfl⟩,(by dsimp only;omega),(by dsimp only;omega), .inr (.inr ⟨rfl,rfl,⟨v5+1,by omega,rfl⟩,yL hv5 hv3 h,rfl,rfl,rfl⟩)⟩,hE.trans (fG (x:=⟨out,p,tm,sq,last⟩) hmo hlt (hS.trans hZ) (dI _ _))⟩ ⟨(by trivial),⟨rfl,rfl,List.map_set.symm⟩,⟨rfl,rfl,fF out ⟨cl,(sv:Int)+1,3,(tm:Int)+v1,fC v3,[],fC (v5+1),0,0,0⟩⟩,trivial⟩ ⟨rfl,rfl,rfl,trivial⟩
    ·conv=>whnf
     (refine bf [] (by kernel_rfl) (hi5) rfl ?_ ?_;(focus (trivial;done));(conv=>whnf))
     have hZ:ig L out tm sq v1 v2 sv cl v3 3 p4=MS L out tm sq v1 v2 sv cl v3 v5 p5:=by unfold ig;rw [if_neg (by decide),if_pos rfl,e5,f5]
     unfold MS at hZ
     rw [if_neg (qA h)]at hZ
     refine ay.mk (aG (by simp only [List.length_map,List.length_cons,List.length_nil];omega) (by kernel_rfl)) ?_
     conv=>whnf
     exact aF ⟨out++ [⟨cl,(sv:Int)+1,3,(tm:Int)+v1,fC v3,[],fC v5,0,0,0⟩],p5,tm+v1,sq.set v2 (sv+1),v2⟩ [(2, .lab 5)] [] rfl (by show 60 -(out++ [_]).length<60-out.length;rw [List.length_append];simp;omega) ⟨hJ.next hlt nT (by omega) hv2 oQ rfl ⟨hcm,⟨v3,hv3,rfl⟩,(by dsimp only;omega),(by dsimp only;omega), .inr (.inr ⟨rfl,rfl,⟨v5,by omega,rfl⟩,qA h,rfl,rfl,rfl⟩)⟩,hE.trans (fG (x:=⟨out,p,tm,sq,last⟩) hmo hlt (hS.trans hZ) (dI _ _))⟩ ⟨(by trivial),⟨rfl,rfl,List.map_set.symm⟩,⟨rfl,rfl,fF out ⟨cl,(sv:Int)+1,3,(tm:Int)+v1,fC v3,[],fC v5,0,0,0⟩⟩,trivial⟩ ⟨rfl,rfl,rfl,trivial⟩
   ·repeat' (refine pV (beq_eq_false_iff_ne.2 (by omega)) ?_;conv=>whnf)
    obtain⟨v5,p5,e5,f5,hv5,nT,c5⟩:=lW hL Ak 3 (by decide) (by decide)
    obtain⟨v6,p6,e6,f6,hv6,wL,c6⟩:=lW hL nT 40 (by decide) (by decide)
    obtain⟨xn,hxn⟩ : ∃xn,pR[v5/2]? = some xn:=⟨_,List.getElem?_eq_getElem (by have:pR.length=2:=rfl;omega)⟩
    have hxe:xn=pR.getD (v5/2) []:=by rw [List.getD_eq_getElem?_getD,hxn,Option.getD_some]
    (refine aP jK [0,3] (by kernel_rfl) ?_;conv=>whnf)
    (refine aj [] (by kernel_rfl) (Ua) ?_ ?_;(focus trivial))
    rintro _ _ _ ⟨rfl,rfl,rfl⟩
    conv=>whnf
    repeat' (first
     | (refine And.intro ?_ ?_<;>(conv=>whnf))
     | (refine aH [0] [] (by kernel_rfl) c5 rfl ?_ ?_ ?_;(focus (trivial;done));(focus (trivial;done));rintro _ _ _ ⟨rfl,rfl,rfl⟩;refine⟨rfl, ?_⟩;conv=>whnf)
     | (refine aH [0] [] (by kernel_rfl) c6 rfl ?_ ?_ ?_;(focus (trivial;done));(focus (trivial;done));rintro _ _ _ ⟨rfl,rfl,rfl⟩;refine⟨rfl, ?_⟩;conv=>whnf)
     | (refine ay.mk (by decide) ?_;conv=>whnf)
     | (refine bC.mk' (v5/2) rfl (by rw [List.length_map];have:pR.length=2:=rfl;omega) ?_;conv=>whnf)
     | (refine aS.aA hxn ?_;conv=>whnf)
     | (refine aI.div v5 2 (by omega) ?_;conv=>whnf)
     | (refine aI.i64 ?_ ?_;(focus omega);conv=>whnf))
    have hZ:ig L out tm sq v1 v2 sv cl v3 v4 p4=YW L out tm sq v1 v2 sv cl v3 v5 v6 p6:=by unfold ig;rw [if_neg (by omega),if_neg (by omega),e5,f5,e6,f6]
    unfold YW at hZ
    rw [←hxe]at hZ
    refine ay.mk (aG (by simp only [List.length_map,List.length_cons,List.length_nil];omega) (by kernel_rfl)) ?_
    conv=>whnf
    exact aF ⟨out++ [⟨cl,(sv:Int)+1,2,(tm:Int)+v1,fC v3,xn,[],0,0,(v6:Int)-4⟩],p6,tm+v1,sq.set v2 (sv+1),v2⟩ [(2, .lab 6)] [] rfl (by show 60 -(out++ [_]).length<60-out.length;rw [List.length_append];simp;omega) ⟨hJ.next hlt wL (by omega) hv2 oQ rfl ⟨hcm,⟨v3,hv3,rfl⟩,(by dsimp only;omega),(by dsimp only;omega), .inr (.inl ⟨rfl,⟨v5/2,by omega,hxe⟩,rfl,rfl,rfl,(by dsimp only;omega)⟩)⟩,hE.trans (fG (x:=⟨out,p,tm,sq,last⟩) hmo hlt (hS.trans hZ) (dI _ _))⟩ ⟨(by trivial),⟨rfl,rfl,List.map_set.symm⟩,⟨rfl,rfl,fF out ⟨cl,(sv:Int)+1,2,(tm:Int)+v1,fC v3,xn,[],0,0,(v6:Int)-4⟩⟩,trivial⟩ ⟨rfl,rfl,rfl,trivial⟩
 ·have hst:(if v1=0∧((v2:Nat):Int)<last then 1 else v1)=v1:=if_neg (fun hx=>by have:=hx.1;simp at hq;omega)
  conv=>whnf
  refine aI.i64 (by dsimp only;omega) ?_
  conv=>whnf
  refine bC.mk' v2 rfl (by rw [List.length_map,hsl];exact hv2) ?_
  conv=>whnf
  refine aS.aA hsv ?_
  conv=>whnf
  refine aI.i64 (by omega) ?_
  conv=>whnf
  refine bC.mk' v2 rfl (by rw [List.length_map,hsl];exact hv2) ?_
  conv=>whnf
  refine aS.aA hsv ?_
  conv=>whnf
  refine eu jK [0] [(10,10),(44,56)] 4 [(10, .ptr 3 0)] [(0,Kr L (jD L p2)),(1, .rows 3 1 (((sq.map enN).set v2 (enN (sv+1))))),(2, .rows 95 10 (out.map jg)),(3, .var 95 [tv cl,iv ((sv:Int)+1),iv 0,iv ((tm:Int)+v1),tv (fC (kU L p2 6)),tv [],tv [],iv 0,iv 0,iv 0])] (by kernel_rfl) (by kernel_rfl) ?_ ?_
  ·conv=>whnf
   repeat' (first
    | (refine And.intro ?_ ?_<;>(conv=>whnf))
    | (refine bC.mk' v2 rfl hv2 ?_;conv=>whnf)
    | (refine aS.aA (enc:=xK) (xs:=wK) hcl ?_;conv=>whnf)
    | (refine bC.mk' v2 rfl (by rw [List.length_set,List.length_map,hsl];exact hv2) ?_;conv=>whnf)
    | (refine aS.set (by rw [List.length_map,hsl];exact hv2) ?_;conv=>whnf)
    | (refine aH [0] [] (by kernel_rfl) (uw L p2 6 (by decide) (by decide) (by omega) hp2) rfl (by trivial) (by trivial) ?_;rintro _ _ _ ⟨rfl,rfl,rfl⟩;refine⟨rfl, ?_⟩;conv=>whnf)
    | ((refine bf [] (by kernel_rfl) (hid) rfl ?_ ?_;(focus (trivial;done));(conv=>whnf))))
   all_goals first
    | (refine jf [(3, .lab 3)] [] ?_ ?_ ?_;(focus rfl);(focus trivial);(focus trivial);done)
    | (refine jf [(3, .lab 4)] [] ?_ ?_ ?_;(focus rfl);(focus trivial);(focus trivial);done)
    | (refine jf [(3, .lab 5)] [] ?_ ?_ ?_;(focus rfl);(focus trivial);(focus trivial);done)
  have hp3:=gY (L:=L) hp2
  generalize e3:kU L p2 6=v3 at *
  generalize f3:jD L p2=p3 at *
  conv=>whnf
  refine aH [0] [] (by kernel_rfl) (uw L p3 8 (by decide) (by decide) (by omega) hp3) rfl (by trivial) (by trivial) ?_
  rintro _ _ _ ⟨rfl,rfl,rfl⟩
  refine⟨rfl, ?_⟩
  conv=>whnf
  have hv4:=iU L p3 8 (by decide)
  have Ak:=gY (L:=L) hp3
  generalize e4:kU L p3 8=v4 at *
  generalize f4:jD L p3=p4 at *
  have hS:xO L ⟨out,p,tm,sq,last⟩=ig L out tm sq v1 v2 sv cl v3 v4 p4:=by
   unfold xO
   dsimp only
   rw [e1,f1,e2,f2,e3,f3,e4,f4,abn,abo,hst]
  rcases(by omega:v4=0∨v4=1∨v4=2∨v4=3∨4≤v4)with rfl | rfl | rfl | rfl | h4
  ·conv=>whnf
   obtain⟨v5,p5,e5,f5,hv5,nT,c5⟩:=lW hL Ak 8 (by decide) (by decide)
   obtain⟨v6,p6,e6,f6,hv6,wL,c6⟩:=lW hL nT 10 (by decide) (by decide)
   obtain⟨v7,p7,e7,f7,hv7,ER,c7⟩:=lW hL wL 12 (by decide) (by decide)
   obtain⟨v8,p8,e8,f8,Yh,Aq,c8⟩:=lW hL ER 5 (by decide) (by decide)
   obtain⟨xn,hxn⟩ : ∃xn,gZ[v5/7]? = some xn:=⟨_,List.getElem?_eq_getElem (by have:gZ.length=4:=rfl;omega)⟩
   have hxe:xn=gZ.getD (v5/7) []:=by rw [List.getD_eq_getElem?_getD,hxn,Option.getD_some]
   (refine aP jK [0,3] (by kernel_rfl) ?_;conv=>whnf)
   (refine aj [] (by kernel_rfl) (uy) ?_ ?_;(focus trivial))
   rintro _ _ _ ⟨rfl,rfl,rfl⟩
   conv=>whnf
   repeat' (first
    | (refine And.intro ?_ ?_<;>(conv=>whnf))
    | (refine aH [0] [] (by kernel_rfl) c5 rfl ?_ ?_ ?_;(focus (trivial;done));(focus (trivial;done));rintro _ _ _ ⟨rfl,rfl,rfl⟩;refine⟨rfl, ?_⟩;conv=>whnf)
    | (refine aH [0] [] (by kernel_rfl) c6 rfl ?_ ?_ ?_;(focus (trivial;done));(focus (trivial;done));rintro _ _ _ ⟨rfl,rfl,rfl⟩;refine⟨rfl, ?_⟩;conv=>whnf)
    | (refine aH [0] [] (by kernel_rfl) c7 rfl ?_ ?_ ?_;(focus (trivial;done));(focus (trivial;done));rintro _ _ _ ⟨rfl,rfl,rfl⟩;refine⟨rfl, ?_⟩;conv=>whnf)
    | (refine aH [0] [] (by kernel_rfl) c8 rfl ?_ ?_ ?_;(focus (trivial;done));(focus (trivial;done));rintro _ _ _ ⟨rfl,rfl,rfl⟩;refine⟨rfl, ?_⟩;conv=>whnf)
    | (refine ay.mk (by decide) ?_;conv=>whnf)
    | (refine bC.mk' (v5/7) rfl (by rw [List.length_map];have:gZ.length=4:=rfl;omega) ?_;conv=>whnf)
    | (refine aS.aA hxn ?_;conv=>whnf)
    | (refine aI.div v5 7 (by omega) ?_;conv=>whnf)
    | (refine aI.div v7 11 (by omega) ?_;conv=>whnf)
    | (refine aI.div v8 4 (by omega) ?_;conv=>whnf)
    | (refine aI.to (y:=((1+v6%9%2:Nat):Int)) ?_ ?_;(focus (rw [show (1:Int)+((v6:Int).tmod 9).tmod 2=((1+v6%9%2:Nat):Int)from rfl];exact IntWalk.i64_in _ (by omega)));conv=>whnf)
    | (refine aI.i64 ?_ ?_;(focus omega);conv=>whnf))
   have hZ : ∀k,k<3→ig L out tm sq v1 v2 sv cl v3 k p4=Di L out tm sq v1 v2 sv cl v3 v5 v6 v7 v8 p8:=fun k hk=>by unfold ig;rw [if_pos hk,e5,f5,e6,f6,e7,f7,e8,f8]
   unfold Di at hZ
   rw [←hxe]at hZ
   refine ay.mk (aG (by simp only [List.length_map,List.length_cons,List.length_nil];omega) (by kernel_rfl)) ?_
   conv=>whnf
   exact aF ⟨out++ [⟨cl,(sv:Int)+1,1,(tm:Int)+v1,fC v3,xn,[],1+((v8/4:Nat):Int),((1+v6%9%2:Nat):Int)+((v7/11:Nat):Int),0⟩],p8,tm+v1,sq.set v2 (sv+1),v2⟩ [(2, .lab 6)] [] rfl (by show 60 -(out++ [_]).length<60-out.length;rw [List.length_append];simp;omega) ⟨hJ.next hlt Aq (by omega) hv2 oQ rfl ⟨hcm,⟨v3,hv3,rfl⟩,(by dsimp only;omega),(by dsimp only;omega), .inl ⟨rfl,⟨v5/7,by omega,hxe⟩,rfl,(by dsimp only;omega),(by dsimp only;omega),rfl⟩⟩,hE.trans (fG (x:=⟨out,p,tm,sq,last⟩) hmo hlt (hS.trans (hZ _ (by decide))) (dI _ _))⟩ ⟨(by trivial),⟨rfl,rfl,List.map_set.symm⟩,⟨rfl,rfl,fF out ⟨cl,(sv:Int)+1,1,(tm:Int)+v1,fC v3,xn,[],1+((v8/4:Nat):Int),((1+v6%9%2:Nat):Int)+((v7/11:Nat):Int),0⟩⟩,trivial⟩ ⟨rfl,rfl,rfl,trivial⟩
  ·conv=>whnf
   obtain⟨v5,p5,e5,f5,hv5,nT,c5⟩:=lW hL Ak 8 (by decide) (by decide)
   obtain⟨v6,p6,e6,f6,hv6,wL,c6⟩:=lW hL nT 10 (by decide) (by decide)
   obtain⟨v7,p7,e7,f7,hv7,ER,c7⟩:=lW hL wL 12 (by decide) (by decide)
   obtain⟨v8,p8,e8,f8,Yh,Aq,c8⟩:=lW hL ER 5 (by decide) (by decide)
   obtain⟨xn,hxn⟩ : ∃xn,gZ[v5/7]? = some xn:=⟨_,List.getElem?_eq_getElem (by have:gZ.length=4:=rfl;omega)⟩
   have hxe:xn=gZ.getD (v5/7) []:=by rw [List.getD_eq_getElem?_getD,hxn,Option.getD_some]
   (refine aP jK [0,3] (by kernel_rfl) ?_;conv=>whnf)
   (refine aj [] (by kernel_rfl) (uy) ?_ ?_;(focus trivial))
   rintro _ _ _ ⟨rfl,rfl,rfl⟩
   conv=>whnf
   repeat' (first
    | (refine And.intro ?_ ?_<;>(conv=>whnf))
    | (refine aH [0] [] (by kernel_rfl) c5 rfl ?_ ?_ ?_;(focus (trivial;done));(focus (trivial;done));rintro _ _ _ ⟨rfl,rfl,rfl⟩;refine⟨rfl, ?_⟩;conv=>whnf)
    | (refine aH [0] [] (by kernel_rfl) c6 rfl ?_ ?_ ?_;(focus (trivial;done));(focus (trivial;done));rintro _ _ _ ⟨rfl,rfl,rfl⟩;refine⟨rfl, ?_⟩;conv=>whnf)
    | (refine aH [0] [] (by kernel_rfl) c7 rfl ?_ ?_ ?_;(focus (trivial;done));(focus (trivial;done));rintro _ _ _ ⟨rfl,rfl,rfl⟩;refine⟨rfl, ?_⟩;conv=>whnf)
    | (refine aH [0] [] (by kernel_rfl) c8 rfl ?_ ?_ ?_;(focus (trivial;done));(focus (trivial;done));rintro _ _ _ ⟨rfl,rfl,rfl⟩;refine⟨rfl, ?_⟩;conv=>whnf)
    | (refine ay.mk (by decide) ?_;conv=>whnf)
    | (refine bC.mk' (v5/7) rfl (by rw [List.length_map];have:gZ.length=4:=rfl;omega) ?_;conv=>whnf)
    | (refine aS.aA hxn ?_;conv=>whnf)
    | (refine aI.div v5 7 (by omega) ?_;conv=>whnf)
    | (refine aI.div v7 11 (by omega) ?_;conv=>whnf)
    | (refine aI.div v8 4 (by omega) ?_;conv=>whnf)
    | (refine aI.to (y:=((1+v6%9%2:Nat):Int)) ?_ ?_;(focus (rw [show (1:Int)+((v6:Int).tmod 9).tmod 2=((1+v6%9%2:Nat):Int)from rfl];exact IntWalk.i64_in _ (by omega)));conv=>whnf)
    | (refine aI.i64 ?_ ?_;(focus omega);conv=>whnf))
   have hZ : ∀k,k<3→ig L out tm sq v1 v2 sv cl v3 k p4=Di L out tm sq v1 v2 sv cl v3 v5 v6 v7 v8 p8:=fun k hk=>by unfold ig;rw [if_pos hk,e5,f5,e6,f6,e7,f7,e8,f8]
   unfold Di at hZ
   rw [←hxe]at hZ
   refine ay.mk (aG (by simp only [List.length_map,List.length_cons,List.length_nil];omega) (by kernel_rfl)) ?_
   conv=>whnf
   exact aF ⟨out++ [⟨cl,(sv:Int)+1,1,(tm:Int)+v1,fC v3,xn,[],1+((v8/4:Nat):Int),((1+v6%9%2:Nat):Int)+((v7/11:Nat):Int),0⟩],p8,tm+v1,sq.set v2 (sv+1),v2⟩ [(2, .lab 6)] [] rfl (by show 60 -(out++ [_]).length<60-out.length;rw [List.length_append];simp;omega) ⟨hJ.next hlt Aq (by omega) hv2 oQ rfl ⟨hcm,⟨v3,hv3,rfl⟩,(by dsimp only;omega),(by dsimp only;omega), .inl ⟨rfl,⟨v5/7,by omega,hxe⟩,rfl,(by dsimp only;omega),(by dsimp only;omega),rfl⟩⟩,hE.trans (fG (x:=⟨out,p,tm,sq,last⟩) hmo hlt (hS.trans (hZ _ (by decide))) (dI _ _))⟩ ⟨(by trivial),⟨rfl,rfl,List.map_set.symm⟩,⟨rfl,rfl,fF out ⟨cl,(sv:Int)+1,1,(tm:Int)+v1,fC v3,xn,[],1+((v8/4:Nat):Int),((1+v6%9%2:Nat):Int)+((v7/11:Nat):Int),0⟩⟩,trivial⟩ ⟨rfl,rfl,rfl,trivial⟩
  ·conv=>whnf
   obtain⟨v5,p5,e5,f5,hv5,nT,c5⟩:=lW hL Ak 8 (by decide) (by decide)
   obtain⟨v6,p6,e6,f6,hv6,wL,c6⟩:=lW hL nT 10 (by decide) (by decide)
   obtain⟨v7,p7,e7,f7,hv7,ER,c7⟩:=lW hL wL 12 (by decide) (by decide)
   obtain⟨v8,p8,e8,f8,Yh,Aq,c8⟩:=lW hL ER 5 (by decide) (by decide)
   obtain⟨xn,hxn⟩ : ∃xn,gZ[v5/7]? = some xn:=⟨_,List.getElem?_eq_getElem (by have:gZ.length=4:=rfl;omega)⟩
   have hxe:xn=gZ.getD (v5/7) []:=by rw [List.getD_eq_getElem?_getD,hxn,Option.getD_some]
   (refine aP jK [0,3] (by kernel_rfl) ?_;conv=>whnf)
   (refine aj [] (by kernel_rfl) (uy) ?_ ?_;(focus trivial))
   rintro _ _ _ ⟨rfl,rfl,rfl⟩
   conv=>whnf
   repeat' (first
    | (refine And.intro ?_ ?_<;>(conv=>whnf))
    | (refine aH [0] [] (by kernel_rfl) c5 rfl ?_ ?_ ?_;(focus (trivial;done));(focus (trivial;done));rintro _ _ _ ⟨rfl,rfl,rfl⟩;refine⟨rfl, ?_⟩;conv=>whnf)
    | (refine aH [0] [] (by kernel_rfl) c6 rfl ?_ ?_ ?_;(focus (trivial;done));(focus (trivial;done));rintro _ _ _ ⟨rfl,rfl,rfl⟩;refine⟨rfl, ?_⟩;conv=>whnf)
    | (refine aH [0] [] (by kernel_rfl) c7 rfl ?_ ?_ ?_;(focus (trivial;done));(focus (trivial;done));rintro _ _ _ ⟨rfl,rfl,rfl⟩;refine⟨rfl, ?_⟩;conv=>whnf)
    | (refine aH [0] [] (by kernel_rfl) c8 rfl ?_ ?_ ?_;(focus (trivial;done));(focus (trivial;done));rintro _ _ _ ⟨rfl,rfl,rfl⟩;refine⟨rfl, ?_⟩;conv=>whnf)
    | (refine ay.mk (by decide) ?_;conv=>whnf)
    | (refine bC.mk' (v5/7) rfl (by rw [List.length_map];have:gZ.length=4:=rfl;omega) ?_;conv=>whnf)
    | (refine aS.aA hxn ?_;conv=>whnf)
    | (refine aI.div v5 7 (by omega) ?_;conv=>whnf)
    | (refine aI.div v7 11 (by omega) ?_;conv=>whnf)
    | (refine aI.div v8 4 (by omega) ?_;conv=>whnf)
    | (refine aI.to (y:=((1+v6%9%2:Nat):Int)) ?_ ?_;(focus (rw [show (1:Int)+((v6:Int).tmod 9).tmod 2=((1+v6%9%2:Nat):Int)from rfl];exact IntWalk.i64_in _ (by omega)));conv=>whnf)
    | (refine aI.i64 ?_ ?_;(focus omega);conv=>whnf))
   have hZ : ∀k,k<3→ig L out tm sq v1 v2 sv cl v3 k p4=Di L out tm sq v1 v2 sv cl v3 v5 v6 v7 v8 p8:=fun k hk=>by unfold ig;rw [if_pos hk,e5,f5,e6,f6,e7,f7,e8,f8]
   unfold Di at hZ
   rw [←hxe]at hZ
   refine ay.mk (aG (by simp only [List.length_map,List.length_cons,List.length_nil];omega) (by kernel_rfl)) ?_
   conv=>whnf
   exact aF ⟨out++ [⟨cl,(sv:Int)+1,1,(tm:Int)+v1,fC v3,xn,[],1+((v8/4:Nat):Int),((1+v6%9%2:Nat):Int)+((v7/11:Nat):Int),0⟩],p8,tm+v1,sq.set v2 (sv+1),v2⟩ [(2, .lab 6)] [] rfl (by show 60 -(out++ [_]).length<60-out.length;rw [List.length_append];simp;omega) ⟨hJ.next hlt Aq (by omega) hv2 oQ rfl ⟨hcm,⟨v3,hv3,rfl⟩,(by dsimp only;omega),(by dsimp only;omega), .inl ⟨rfl,⟨v5/7,by omega,hxe⟩,rfl,(by dsimp only;omega),(by dsimp only;omega),rfl⟩⟩,hE.trans (fG (x:=⟨out,p,tm,sq,last⟩) hmo hlt (hS.trans (hZ _ (by decide))) (dI _ _))⟩ ⟨(by trivial),⟨rfl,rfl,List.map_set.symm⟩,⟨rfl,rfl,fF out ⟨cl,(sv:Int)+1,1,(tm:Int)+v1,fC v3,xn,[],1+((v8/4:Nat):Int),((1+v6%9%2:Nat):Int)+((v7/11:Nat):Int),0⟩⟩,trivial⟩ ⟨rfl,rfl,rfl,trivial⟩
  ·conv=>whnf
   obtain⟨v5,p5,e5,f5,hv5,nT,c5⟩:=lW hL Ak 6 (by decide) (by decide)
   refine aH [0] [] (by kernel_rfl) c5 rfl ?_ ?_ ?_;(focus (trivial;done));(focus (trivial;done));rintro _ _ _ ⟨rfl,rfl,rfl⟩;refine⟨rfl, ?_⟩;conv=>whnf
   (refine aP jK [] (by kernel_rfl) ?_;conv=>whnf)
   have hi5:bD Tryz.prog GS 94 [iv v5] 0 [] (Is (tv (fC v5))):=bD.up (Kq _ (by omega)) GS
   have hi6:bD Tryz.prog GS 94 [iv ((v5:Int)+1)] 0 [] (Is (tv (fC (v5+1)))):=bD.up (Kq (v5+1) (by omega)) GS
   (refine bf [] (by kernel_rfl) (hi5) rfl ?_ ?_;(focus (trivial;done));(conv=>whnf))
   apply ah<;>intro h
   ·conv=>whnf
    refine aI.i64 (by omega) ?_
    conv=>whnf
    (refine bf [] (by kernel_rfl) (hi6) rfl ?_ ?_;(focus (trivial;done));(conv=>whnf))
    have hid:fC v5=fC v3:=by have h:=h;rw [kH,decide_eq_true_eq]at h;exact h
    have hZ:ig L out tm sq v1 v2 sv cl v3 3 p4=MS L out tm sq v1 v2 sv cl v3 v5 p5:=by unfold ig;rw [if_neg (by decide),if_pos rfl,e5,f5]
    unfold MS at hZ
    rw [if_pos hid]at hZ
    refine ay.mk (aG (by simp only [List.length_map,List.length_cons,List.length_nil];omega) (by kernel_rfl)) ?_
    conv=>whnf
    exact aF ⟨out++ [⟨cl,(sv:Int)+1,3,(tm:Int)+v1,fC v3,[],fC (v5+1),0,0,0⟩],p5,tm+v1,sq.set v2 (sv+1),v2⟩ [(2, .lab 5)] [] rfl (by show 60 -(out++ [_]).length<60-out.length;rw [List.length_append];simp;omega) ⟨hJ.next hlt nT (by omega) hv2 oQ rfl ⟨hcm,⟨v3,hv3,rfl⟩,(by dsimp only;omega),(by dsimp only;omega), .inr (.inr ⟨rfl,rfl,⟨v5+1,by omega,rfl⟩,yL hv5 hv3 h,rfl,rfl,rfl⟩)⟩,hE.trans (fG (x:=⟨out,p,tm,sq,last⟩) hmo hlt (hS.trans hZ) (dI _ _))⟩ ⟨(by trivial),⟨rfl,rfl,List.map_set.symm⟩,⟨rfl,rfl,fF out ⟨cl,(sv:Int)+1,3,(tm:Int)+v1,fC v3,[],fC (v5+1),0,0,0⟩⟩,trivial⟩ ⟨rfl,rfl,rfl,trivial⟩
   ·conv=>whnf
    (refine bf [] (by kernel_rfl) (hi5) rfl ?_ ?_;(focus (trivial;done));(conv=>whnf))
    have hZ:ig L out tm sq v1 v2 sv cl v3 3 p4=MS L out tm sq v1 v2 sv cl v3 v5 p5:=by unfold ig;rw [if_neg (by decide),if_pos rfl,e5,f5]
    unfold MS at hZ
    rw [if_neg (qA h)]at hZ
    refine ay.mk (aG (by simp only [List.length_map,List.length_cons,List.length_nil];omega) (by kernel_rfl)) ?_
    conv=>whnf
    exact aF ⟨out++ [⟨cl,(sv:Int)+1,3,(tm:Int)+v1,fC v3,[],fC v5,0,0,0⟩],p5,tm+v1,sq.set v2 (sv+1),v2⟩ [(2, .lab 5)] [] rfl (by show 60 -(out++ [_]).length<60-out.length;rw [List.length_append];simp;omega) ⟨hJ.next hlt nT (by omega) hv2 oQ rfl ⟨hcm,⟨v3,hv3,rfl⟩,(by dsimp only;omega),(by dsimp only;omega), .inr (.inr ⟨rfl,rfl,⟨v5,by omega,rfl⟩,qA h,rfl,rfl,rfl⟩)⟩,hE.trans (fG (x:=⟨out,p,tm,sq,last⟩) hmo hlt (hS.trans hZ) (dI _ _))⟩ ⟨(by trivial),⟨rfl,rfl,List.map_set.symm⟩,⟨rfl,rfl,fF out ⟨cl,(sv:Int)+1,3,(tm:Int)+v1,fC v3,[],fC v5,0,0,0⟩⟩,trivial⟩ ⟨rfl,rfl,rfl,trivial⟩
  ·repeat' (refine pV (beq_eq_false_iff_ne.2 (by omega)) ?_;conv=>whnf)
   obtain⟨v5,p5,e5,f5,hv5,nT,c5⟩:=lW hL Ak 3 (by decide) (by decide)
   obtain⟨v6,p6,e6,f6,hv6,wL,c6⟩:=lW hL nT 40 (by decide) (by decide)
   obtain⟨xn,hxn⟩ : ∃xn,pR[v5/2]? = some xn:=⟨_,List.getElem?_eq_getElem (by have:pR.length=2:=rfl;omega)⟩
   have hxe:xn=pR.getD (v5/2) []:=by rw [List.getD_eq_getElem?_getD,hxn,Option.getD_some]
   (refine aP jK [0,3] (by kernel_rfl) ?_;conv=>whnf)
   (refine aj [] (by kernel_rfl) (Ua) ?_ ?_;(focus trivial))
   rintro _ _ _ ⟨rfl,rfl,rfl⟩
   conv=>whnf
   repeat' (first
    | (refine And.intro ?_ ?_<;>(conv=>whnf))
    | (refine aH [0] [] (by kernel_rfl) c5 rfl ?_ ?_ ?_;(focus (trivial;done));(focus (trivial;done));rintro _ _ _ ⟨rfl,rfl,rfl⟩;refine⟨rfl, ?_⟩;conv=>whnf)
    | (refine aH [0] [] (by kernel_rfl) c6 rfl ?_ ?_ ?_;(focus (trivial;done));(focus (trivial;done));rintro _ _ _ ⟨rfl,rfl,rfl⟩;refine⟨rfl, ?_⟩;conv=>whnf)
    | (refine ay.mk (by decide) ?_;conv=>whnf)
    | (refine bC.mk' (v5/2) rfl (by rw [List.length_map];have:pR.length=2:=rfl;omega) ?_;conv=>whnf)
    | (refine aS.aA hxn ?_;conv=>whnf)
    | (refine aI.div v5 2 (by omega) ?_;conv=>whnf)
    | (refine aI.i64 ?_ ?_;(focus omega);conv=>whnf))
   have hZ:ig L out tm sq v1 v2 sv cl v3 v4 p4=YW L out tm sq v1 v2 sv cl v3 v5 v6 p6:=by unfold ig;rw [if_neg (by omega),if_neg (by omega),e5,f5,e6,f6]
   unfold YW at hZ
   rw [←hxe]at hZ
   refine ay.mk (aG (by simp only [List.length_map,List.length_cons,List.length_nil];omega) (by kernel_rfl)) ?_
   conv=>whnf
   exact aF ⟨out++ [⟨cl,(sv:Int)+1,2,(tm:Int)+v1,fC v3,xn,[],0,0,(v6:Int)-4⟩],p6,tm+v1,sq.set v2 (sv+1),v2⟩ [(2, .lab 6)] [] rfl (by show 60 -(out++ [_]).length<60-out.length;rw [List.length_append];simp;omega) ⟨hJ.next hlt wL (by omega) hv2 oQ rfl ⟨hcm,⟨v3,hv3,rfl⟩,(by dsimp only;omega),(by dsimp only;omega), .inr (.inl ⟨rfl,⟨v5/2,by omega,hxe⟩,rfl,rfl,rfl,(by dsimp only;omega)⟩)⟩,hE.trans (fG (x:=⟨out,p,tm,sq,last⟩) hmo hlt (hS.trans hZ) (dI _ _))⟩ ⟨(by trivial),⟨rfl,rfl,List.map_set.symm⟩,⟨rfl,rfl,fF out ⟨cl,(sv:Int)+1,2,(tm:Int)+v1,fC v3,xn,[],0,0,(v6:Int)-4⟩⟩,trivial⟩ ⟨rfl,rfl,rfl,trivial⟩
end
section
attribute [local irreducible] num hsh oV kC gG lg tY rO tab kL wG sec hG hF hI hN OZ
structure Ac where
 kind:Nat
 fuse:Nat
 ev:By
 pick:By
structure Ac.ok (a:Ac):Prop where
 kind:a.kind<256
 fuse:a.fuse<256
def Ub (a:Ac):List FV:= [.v (.int .u8 a.kind), .v (.int .u8 a.fuse), .lst 1 (a.ev.map dW), .lst 1 (a.pick.map dW)]
def YX (n:Nat)(e:Ev):Ev:= {e with seq:=e.seq+100*(n:Int),time:=e.time+10*(n:Int)}
def Uc (a:Ac)(n:Nat):List Ev:=((OZ a.ev).take 12).map (YX n)
def lng (l:List Ac):Bool:=l.any (fun a=>decide (100<a.ev.length)||decide (40<a.pick.length))||decide (16<l.length)
theorem Yi {α:Type}{u:α→α}{l:List α}{i:Nat}(h:i<l.length):((l.take i).map u++l.drop i)[i]? = some l[i]∧((l.take i).map u++l.drop i).set i (u l[i])=(l.take (i+1)).map u++l.drop (i+1):=by
 have hl:((l.take i).map u).length=i:=by rw [List.length_map,List.length_take];omega
 rw [List.drop_eq_getElem_cons h,List.take_succ_eq_append_getElem h,List.map_append]
 constructor
 ·rw [List.getElem?_append_right (by omega),hl,Nat.sub_self];rfl
 ·rw [List.set_append_right _ _ (by omega),hl,Nat.sub_self,List.append_assoc];rfl
theorem adw (l:List Ac)(hl:l.length≤4611686018427387904):bD Tryz.prog GS 15 [.lst 4 (l.map Ub)] 0 [] (Is (bv (lng l))):=by
 refine au Tryz.func15 rfl mixed (by kernel_rfl) ?_
 conv=>whnf
 refine rE Zy [3] (fun i:Nat=> [(3,iv i)]) (fun i=>i≤l.length∧(l.take i).any (fun a=>decide (100<a.ev.length)||decide (40<a.pick.length))=false) (fun i=>l.length-i) 0 (by kernel_rfl) (fun _=>rfl) (by kernel_rfl) ⟨Nat.zero_le _,rfl⟩ (by trivial) (by trivial) ?_
 rintro i ⟨hi,hI⟩
 conv=>whnf
 apply ah<;>intro h
 rotate_left 1
 ·have hie:i=l.length:=by simp only [List.length_map]at h;simp at h;omega
  subst hie
  rw [List.take_length]at hI
  conv=>whnf
  refine aX [] (congrArg Value.bool ?_)
  unfold lng
  rw [hI,List.length_map,Bool.false_or]
  exact decide_eq_decide.2 (by omega)
 have hlt:i<l.length:=by simp only [List.length_map]at h;simp at h;omega
 have hbad:(decide (100<l[i].ev.length)||decide (40<l[i].pick.length))=true→lng l=true:=fun hx=>by
  unfold lng
  rw [Bool.or_eq_true]
  exact .inl (List.any_eq_true.2 ⟨l[i],List.getElem_mem hlt,hx⟩)
 have hgood:(decide (100<l[i].ev.length)||decide (40<l[i].pick.length))=false→(l.take (i+1)).any (fun a=>decide (100<a.ev.length)||decide (40<a.pick.length))=false:=fun hx=>by
  rw [List.take_succ_eq_append_getElem hlt,List.any_append,hI,List.any_cons,hx];rfl
 conv=>whnf
 refine bC.mk' i rfl (fQ hlt) ?_
 conv=>whnf
 refine aS.aA (List.getElem?_eq_getElem hlt) ?_
 conv=>whnf
 apply ah<;>intro h
 ·have hx:100<l[i].ev.length:=by simp only [List.length_map]at h;simp at h;omega
  rw [hbad (by simp [hx])]
  conv=>whnf
  exact aX [] rfl
 have hx1 : ¬100<l[i].ev.length:=by simp only [List.length_map]at h;simp at h;omega
 conv=>whnf
 refine bC.mk' i rfl (fQ hlt) ?_
 conv=>whnf
 refine aS.aA (List.getElem?_eq_getElem hlt) ?_
 conv=>whnf
 apply ah<;>intro h
 ·have hx:40<l[i].pick.length:=by simp only [List.length_map]at h;simp at h;omega
  rw [hbad (by simp [hx])]
  conv=>whnf
  exact aX [] rfl
 have hx2 : ¬40<l[i].pick.length:=by simp only [List.length_map]at h;simp at h;omega
 conv=>whnf
 refine aI.i64 (by omega) ?_
 conv=>whnf
 exact aF (i+1) [] [] rfl (by show l.length -(i+1)<l.length-i;omega) ⟨hlt,hgood (by simp [hx1,hx2])⟩ (by trivial) ⟨rfl,trivial⟩
theorem abp (a:Ac)(ha:a.ev.length≤1000)(n:Nat)(hn:n≤1000):bD Tryz.prog GS 24 [.agg ((Ub a).map FV.up),iv n] 0 [] (Is (el (Uc a n))):=by
 refine au Tryz.func24 rfl mixed (by kernel_rfl) ?_
 conv=>whnf
 refine aj [] (by kernel_rfl) (adu a.ev ha) (by trivial) ?_
 rintro _ _ _ ⟨l,⟨hP,hE⟩,rfl,rfl,rfl⟩
 have hres:Uc a n=(l.take 12).map (YX n):=by unfold Uc;rw [hE]
 rw [hres]
 have hP1:=hP.all
 have hlen:=hP.len
 clear hE hres hP
 conv=>whnf
 refine lT.mk' 0 (min l.length 12) rfl (by rw [List.length_map];omega) (Nat.zero_le _) (by rw [List.length_map];omega) ?_
 conv=>whnf
 obtain⟨m,hm⟩ : ∃m,m=min l.length 12:=⟨_,rfl⟩
 rw [←hm]
 have hml:m≤l.length:=by omega
 refine bg Zz 2 [6] (fun i:Nat=> [(6,iv i)]) (fun i=> [(0, .var 49 ((Ub a).map FV.up)),(1, .rows 95 10 (((l.take i).map (YX n)++l.drop i).map jg))]) (fun i=>i≤m) (fun i=>m-i) [] [] 0 (by kernel_rfl) (fun _=>rfl) rfl (Nat.zero_le _) (by trivial) (by trivial) ?_
 intro i hi
 conv=>whnf
 apply ah<;>intro h
 rotate_left 1
 ·have hie:i=m:=by simp at h;omega
  subst hie
  conv=>whnf
  refine aX [1] ⟨rfl, ?_⟩
  have e:l.take 12=l.take i:=by
   rcases Nat.le_total l.length 12 with hc | hc
   ·rw [List.take_of_length_le hc,List.take_of_length_le (by omega)]
   ·rw [show i=12 by omega]
  rw [e,Nat.sub_zero,List.drop_zero,List.map_append,List.take_left' (by rw [List.length_map,List.length_map,List.length_take];omega)]
  exact⟨rfl,rfl⟩
 have hlt:i<m:=by simp at h;omega
 have hx:=Yi (u:=YX n) (l:=l) (i:=i) (by omega)
 have hln:((l.take i).map (YX n)++l.drop i).length=l.length:=by rw [List.length_append,List.length_map,List.length_take,List.length_drop];omega
 have hpe:=hP1 l[i] (List.getElem_mem _)
 have hs:=hpe.seq
 have ht:=hpe.time
 conv=>whnf
 refine bC.mk' i rfl hlt ?_
 conv=>whnf
 refine aS.aA (by rw [Nat.zero_add];exact hx.1) ?_
 conv=>whnf
 refine aI.i64 (by omega) ?_
 conv=>whnf
 refine aI.i64 (by omega) ?_
 conv=>whnf
 refine bC.mk' i rfl hlt ?_
 conv=>whnf
 refine aS.aA (by rw [Nat.zero_add];exact hx.1) ?_
 conv=>whnf
 refine bC.mk' i rfl hlt ?_
 conv=>whnf
 refine aS.set (by rw [List.length_map,hln];omega) ?_
 conv=>whnf
 refine aI.i64 (by omega) ?_
 conv=>whnf
 refine aI.i64 (by omega) ?_
 conv=>whnf
 refine bC.mk' i rfl hlt ?_
 conv=>whnf
 refine aS.set (by rw [List.length_map,hln];omega) ?_
 conv=>whnf
 refine aI.i64 (by omega) ?_
 conv=>whnf
 refine aF (i+1) [] [] rfl (by show m -(i+1)<m-i;omega) hlt ⟨(by trivial),⟨rfl,rfl, ?_⟩,trivial⟩ ⟨rfl,trivial⟩
 rw [Nat.zero_add,List.set_set, ←hx.2,List.map_set]
 rfl
theorem Ud (n:Nat):fC n∈Ig:=by
 have h:n%6<Ig.length:=by have:=Bc;omega
 unfold fC
 rw [List.getD_eq_getElem?_getD,List.getElem?_eq_getElem h]
 exact List.getElem_mem h
theorem adx : ∀s∈Ig,Hw s=true∧s.length=3:=by decide +kernel
theorem aeR : ∀s∈wK,Hw s=true∧s.length=3:=by decide +kernel
theorem aeS : ∀k,k<2→Hw (gZ.getD k [])=true∧(gZ.getD k []).length≤5:=by decide +kernel
theorem aeT : ∀k,k<2→Hw (pR.getD k [])=true∧(pR.getD k []).length≤5:=by decide +kernel
theorem Yj {e:Ev}(h:EvP e){n:Nat}(hn:n≤1000):(YX n e).ok∧uJ (YX n e)=0:=by
 obtain⟨hc,⟨k,hk,hi⟩,hs,ht,hkd⟩:=h
 obtain⟨c1,c2⟩:=aeR _ hc
 obtain⟨i1,i2⟩:=adx _ (Ud k)
 rw [←hi]at i1 i2
 have z : ∀k:Int, -1000≤k→k≤1000000→I64 k:=fun k a b=>by unfold I64;omega
 unfold YX
 rcases hkd with ⟨k1,⟨n1,hn1,hnm⟩,ho,ha,hv,hvl⟩ | ⟨k1,⟨n1,hn1,hnm⟩,ho,hv,ha,hvl⟩ | ⟨k1,hnm,⟨n1,hn1,ho⟩,hne,hv,ha,hvl⟩
 ·obtain⟨m1,m2⟩:=aeS n1 hn1
  rw [←hnm]at m1 m2
  refine⟨⟨z _ (by dsimp only;omega) (by dsimp only;omega),z _ (by dsimp only;omega) (by dsimp only;omega),z _ (by dsimp only;omega) (by dsimp only;omega),z _ (by dsimp only;omega) (by dsimp only;omega),z _ (by dsimp only;omega) (by dsimp only;omega),z _ (by dsimp only;omega) (by dsimp only;omega),by dsimp only;omega,by dsimp only;omega,by dsimp only;omega,by dsimp only;rw [ho];simp⟩, ?_⟩
  unfold uJ
  dsimp only
  rw [if_neg (by simp [k1]),if_neg (by simp [k1,c1,i1,m1]),if_neg (by omega),if_neg (by omega),if_neg (by omega),if_neg (by simp [k1,ho,hvl])]
 ·obtain⟨m1,m2⟩:=aeT n1 hn1
  rw [←hnm]at m1 m2
  refine⟨⟨z _ (by dsimp only;omega) (by dsimp only;omega),z _ (by dsimp only;omega) (by dsimp only;omega),z _ (by dsimp only;omega) (by dsimp only;omega),z _ (by dsimp only;omega) (by dsimp only;omega),z _ (by dsimp only;omega) (by dsimp only;omega),z _ (by dsimp only;omega) (by dsimp only;omega),by dsimp only;omega,by dsimp only;omega,by dsimp only;omega,by dsimp only;rw [ho];simp⟩, ?_⟩
  unfold uJ
  dsimp only
  rw [if_neg (by simp [k1]),if_neg (by simp [k1,c1,i1,m1]),if_neg (by omega),if_neg (by omega),if_neg (by omega),if_neg (by simp [k1,ho,hv,ha])]
 ·obtain⟨m1,m2⟩:=adx _ (Ud n1)
  rw [←ho]at m1 m2
  refine⟨⟨z _ (by dsimp only;omega) (by dsimp only;omega),z _ (by dsimp only;omega) (by dsimp only;omega),z _ (by dsimp only;omega) (by dsimp only;omega),z _ (by dsimp only;omega) (by dsimp only;omega),z _ (by dsimp only;omega) (by dsimp only;omega),z _ (by dsimp only;omega) (by dsimp only;omega),by dsimp only;omega,by dsimp only;omega,by dsimp only;rw [hnm];simp,by dsimp only;omega⟩, ?_⟩
  unfold uJ
  dsimp only
  rw [if_neg (by simp [k1]),if_neg (by simp [k1,c1,i1,m1]),if_neg (by omega),if_neg (by omega),if_neg (by omega),if_neg (by simp [k1,hnm,hv,ha,hvl,hne])]
def Out (r:So×Int):Prop:=(r.2=0∧r.1.ok)∨(r.2=40∧∃d,d.ok∧r.1=So.jA d)∨(r.2≠0∧r.2≠40∧r.1=So.zero)
theorem Ih {s:So}(hd:s.d.ok)(he:(∀e∈s.ev,e.ok)∧kD s.ev=0)(hg:0≤s.gen)(hh:s.half=0∨s.half=1):Out (lV s):=by
 by_cases hc:kJ (ni s.gen s.d.now+1) 0 (tab s.ev)≠0∨s.d.now.length/2<nS (tab s.ev)
 ·rw [wH hc];exact .inr (.inr ⟨by decide,by decide,rfl⟩)
 have hc2:kJ (ni s.gen s.d.now+1) 0 (tab s.ev)=0∧nS (tab s.ev)≤s.d.now.length/2:=by
  by_cases h0:kJ (ni s.gen s.d.now+1) 0 (tab s.ev)=0
  ·exact⟨h0,by omega⟩
  ·exact absurd (.inl h0) hc
 obtain⟨hL1,hL2⟩:=um hc2.1
 obtain⟨d,e,hw⟩ : ∃d e,rJ s.d ((1-s.half).toNat*(s.d.now.length/2)) (qO (ni s.gen s.d.now+1) 0 (tab s.ev))=(d,e):=⟨_,_,rfl⟩
 rw [yH hc hw]
 have hwo:=EH (at_:=(1-s.half).toNat*(s.d.now.length/2)) hd hL2
 rw [hw]at hwo
 obtain⟨w1,w2,w3⟩:=hwo
 have hsc:=xg hc2.1
 by_cases h0:e=0
 ·subst h0
  rw [if_neg (by simp)]
  refine .inl ⟨rfl,w1,hsc.1 |> fun h=>⟨h,hsc.2.1⟩, ?_, ?_,⟨by show (1:Int)≤1;decide,by show (1:Int)≤65536;decide⟩,he⟩
  ·show 1-s.half=0∨1-s.half=1
   omega
  ·show 1≤((nS (tab s.ev):Nat):Int)∧((nS (tab s.ev):Nat):Int)≤((d.now.length/2:Nat):Int)
   have:=JJ (tab s.ev)
   have w2:d.now.length=s.d.now.length:=w2
   rw [w2]
   omega
 ·rw [if_pos h0]
  exact .inr (.inl ⟨rfl,d,w1,rfl⟩)
theorem Ue {s:So}(h:s.ok){l:List Ev}(hl : ∀e∈l,e.ok)(hl0:kD l=0):Out (nR s l):=by
 have hev:s.ev.length≤512:=(pO h.ev.2).1
 by_cases c2:512<s.ev.length+l.length
 ·rw [Df hl0 c2];exact .inr (.inr ⟨by decide,by decide,rfl⟩)
 by_cases c3:l = []
 ·subst c3;rw [AZ s hev];exact .inl ⟨rfl,h⟩
 by_cases c4:255<nS (tab (s.ev++l))∨s.d.now.length/2<nS (tab (s.ev++l))
 ·rw [wJ hl0 c2 c3 c4];exact .inr (.inr ⟨by decide,by decide,rfl⟩)
 have he:(∀e∈s.ev++l,e.ok)∧kD (s.ev++l)=0:=⟨fun e hx=>(List.mem_append.1 hx).elim (h.ev.1 e) (hl e),yI h.ev.2 hl0 (by rw [List.length_append];omega)⟩
 by_cases c5:kJ s.gen s.frame (tab l)≠0∨((s.d.now.length/2:Nat):Int)<s.next+(nS (tab l):Nat)
 ·rw [A8 hl0 c2 c3 c4 c5]
  exact Ih (s:= {s with ev:=s.ev++l}) h.d he (by have:=h.gen;show 0≤s.gen;omega) h.half
 have c5':kJ s.gen s.frame (tab l)=0∧s.next+(nS (tab l):Nat)≤((s.d.now.length/2:Nat):Int):=by
  by_cases h0:kJ s.gen s.frame (tab l)=0
  ·exact⟨h0,by omega⟩
  ·exact absurd (.inl h0) c5
 obtain⟨hL1,hL2⟩:=um c5'.1
 obtain⟨d,e,hw⟩ : ∃d e,rJ s.d (s.half.toNat*(s.d.now.length/2)+s.next.toNat) (qO s.gen s.frame (tab l))=(d,e):=⟨_,_,rfl⟩
 rw [EO hl0 c2 c3 c4 c5 hw]
 have hwo:=EH (at_:=s.half.toNat*(s.d.now.length/2)+s.next.toNat) h.d hL2
 rw [hw]at hwo
 obtain⟨w1,w2,w3⟩:=hwo
 have w2:d.now.length=s.d.now.length:=w2
 have hsc:=xg c5'.1
 have hnx:=h.next
 by_cases h0:e=0
 ·subst h0
  rw [if_neg (by simp)]
  refine .inl ⟨rfl,w1,h.gen,h.half, ?_, ?_,he⟩
  ·show 1≤s.next+((nS (tab l):Nat):Int)∧s.next+((nS (tab l):Nat):Int)≤((d.now.length/2:Nat):Int)
   rw [w2]
   omega
  ·show 1≤s.frame+1∧s.frame+1≤65536
   omega
 ·rw [if_pos h0]
  exact .inr (.inl ⟨rfl,d,w1,rfl⟩)
theorem Dk.ok.arm {d:Dk}(h:d.ok){n:Int}(hn : -1≤n∧n≤9223372036854775807):(d.arm n).ok:=⟨h.ev,h.lo,h.hi,h.sf,hn,h.op,h.n64,h.f64⟩
theorem So.ok.arm {s:So}(h:s.ok){n:Int}(hn : -1≤n∧n≤9223372036854775807):({s with d:=s.d.arm n} : So).ok:=⟨h.d.arm hn,h.gen,h.half,h.next,h.frame,h.ev⟩
theorem Dk.ok.crash {d:Dk}(h:d.ok)(pick:By):(d.crash pick).ok:=by
 obtain⟨a1,a2,a3⟩:=Ko d.now d.safe pick h.sf d.now.length (Nat.le_refl _)
 have hsf:=h.sf
 have h64:OB (yK d.now d.safe pick d.now.length).1:=fun s hs=>by
  obtain⟨j,hj,rfl⟩:=List.mem_iff_getElem.1 hs
  rcases a3 j (by omega)with hx | hx
  ·rw [List.getElem?_eq_getElem hj,List.getElem?_eq_getElem (by omega)]at hx
   injection hx with hx
   rw [hx];exact h.n64 _ (List.getElem_mem _)
  ·rw [List.getElem?_eq_getElem hj,List.getElem?_eq_getElem (by omega)]at hx
   injection hx with hx
   rw [hx];exact h.f64 _ (List.getElem_mem _)
 have hev:=h.ev
 have hlo:=h.lo
 have hhi:=h.hi
 refine⟨?_, ?_, ?_,rfl,⟨by show (-1:Int)≤ -1;decide,by show (-1:Int)≤9223372036854775807;decide⟩,h.op,h64,h64⟩
 ·show (yK d.now d.safe pick d.now.length).1.length%2=0;omega
 ·show 8≤(yK d.now d.safe pick d.now.length).1.length;omega
 ·show (yK d.now d.safe pick d.now.length).1.length≤256;omega
theorem Yk {L:By}{x:ES}(h:EI L x)(hl:x.out.length<60):EI L (xO L x)∧(xO L x).out.length=x.out.length+1:=by
 obtain⟨out,p,tm,sq,last⟩:=x
 obtain⟨hp,hP,htm,hle,hsl,hsb,hlast⟩:=id h
 dsimp only at hp hP htm hle hsl hsb hlast hl
 unfold xO
 dsimp only
 have hv1:=iU L p 4 (by decide)
 have hp1:=gY (L:=L) hp
 generalize kU L p 4=v1 at *
 generalize jD L p=p1 at *
 have hv2:=iU L p1 3 (by decide)
 have hp2:=gY (L:=L) hp1
 generalize kU L p1 3=v2 at *
 generalize jD L p1=p2 at *
 have hv3:=iU L p2 6 (by decide)
 have hp3:=gY (L:=L) hp2
 generalize kU L p2 6=v3 at *
 generalize jD L p2=p3 at *
 have Ak:=gY (L:=L) hp3
 generalize kU L p3 8=v4 at *
 generalize jD L p3=p4 at *
 have hst:(if v1=0∧((v2:Nat):Int)<last then 1 else v1)<4:=by split<;>omega
 generalize (if v1=0∧((v2:Nat):Int)<last then 1 else v1)=st at *
 have hsv:sq.getD v2 0≤out.length:=by
  rw [List.getD_eq_getElem?_getD,List.getElem?_eq_getElem (by omega),Option.getD_some]
  exact hsb _ (List.getElem_mem _)
 generalize sq.getD v2 0=sv at *
 have hcm:wK.getD v2 []∈wK:=by
  have h3:v2<wK.length:=hv2
  rw [List.getD_eq_getElem?_getD,List.getElem?_eq_getElem h3,Option.getD_some]
  exact List.getElem_mem _
 generalize wK.getD v2 []=cl at *
 unfold ig
 split
 ·have nT:=gY (L:=L) Ak
  have hv5:=iU L p4 8 (by decide)
  generalize kU L p4 8=v5 at *
  generalize jD L p4=p5 at *
  have wL:=gY (L:=L) nT
  have hv6:=iU L p5 10 (by decide)
  generalize kU L p5 10=v6 at *
  generalize jD L p5=p6 at *
  have ER:=gY (L:=L) wL
  have hv7:=iU L p6 12 (by decide)
  generalize kU L p6 12=v7 at *
  generalize jD L p6=p7 at *
  have Aq:=gY (L:=L) ER
  have Yh:=iU L p7 5 (by decide)
  generalize kU L p7 5=v8 at *
  generalize jD L p7=p8 at *
  unfold Di
  exact⟨h.next hl Aq hst hv2 hsv rfl ⟨hcm,⟨v3,hv3,rfl⟩,(by dsimp only;omega),(by dsimp only;omega), .inl ⟨rfl,⟨v5/7,by omega,rfl⟩,rfl,(by dsimp only;omega),(by dsimp only;omega),rfl⟩⟩,dI _ _⟩
 ·split
  ·have nT:=gY (L:=L) Ak
   have hv5:=iU L p4 6 (by decide)
   generalize kU L p4 6=v5 at *
   generalize jD L p4=p5 at *
   unfold MS
   have ho:(∃k:Nat,k<7∧(if fC v5=fC v3 then fC (v5+1)else fC v5)=fC k)∧(if fC v5=fC v3 then fC (v5+1)else fC v5)≠fC v3:=by
    split
    ·rename_i hq
     exact⟨⟨v5+1,by omega,rfl⟩,yL hv5 hv3 (by rw [kH];exact decide_eq_true hq)⟩
    ·rename_i hq
     exact⟨⟨v5,by omega,rfl⟩,hq⟩
   exact⟨h.next hl nT hst hv2 hsv rfl ⟨hcm,⟨v3,hv3,rfl⟩,(by dsimp only;omega),(by dsimp only;omega), .inr (.inr ⟨rfl,rfl,ho.1,ho.2,rfl,rfl,rfl⟩)⟩,dI _ _⟩
  ·have nT:=gY (L:=L) Ak
   have hv5:=iU L p4 3 (by decide)
   generalize kU L p4 3=v5 at *
   generalize jD L p4=p5 at *
   have wL:=gY (L:=L) nT
   have hv6:=iU L p5 40 (by decide)
   generalize kU L p5 40=v6 at *
   generalize jD L p5=p6 at *
   unfold YW
   exact⟨h.next hl wL hst hv2 hsv rfl ⟨hcm,⟨v3,hv3,rfl⟩,(by dsimp only;omega),(by dsimp only;omega), .inr (.inl ⟨rfl,⟨v5/2,by omega,rfl⟩,rfl,rfl,rfl,(by dsimp only;omega)⟩)⟩,dI _ _⟩
theorem abq {L:By} : ∀(m:Nat) (x:ES),EI L x→x.out.length+m≤60→Yg (Bf L m x):=by
 intro m
 induction m with
 | zero=>intro x h _;unfold Bf;exact h.P
 | succ m ih=>
  intro x h hm
  unfold Bf
  split
  ·obtain⟨h1,h2⟩:=Yk h (by omega)
   exact ih _ h1 (by omega)
  ·exact h.P
theorem ady (L:By):Yg (OZ L):=by
 unfold OZ
 exact abq 60 _ ⟨Nat.zero_le _,⟨Nat.zero_le _,(fun _ h=>by cases h),List.Pairwise.nil⟩,Nat.zero_le _,(fun _ h=>by cases h),rfl,(by simp),by constructor<;>(dsimp only;omega)⟩ (by decide)
theorem abr (a:Ac)(ha:a.ev.length≤1000){n:Nat}(hn:n≤1000):(∀e∈Uc a n,e.ok)∧kD (Uc a n)=0∧(Uc a n).length≤12:=by
 have hall : ∀e∈Uc a n,e.ok∧uJ e=0:=fun e he=>by
  unfold Uc at he
  obtain⟨e0,h0,rfl⟩:=List.mem_map.1 he
  exact Yj ((ady a.ev).all _ (List.mem_of_mem_take h0)) hn
 have hlen:(Uc a n).length≤12:=by unfold Uc;rw [List.length_map,List.length_take];omega
 exact⟨fun e he=>(hall e he).1,EM.2 ⟨by omega,fun e he=>(hall e he).2⟩,hlen⟩
end
end Go.Proofs.YtocckceefcmeaaaGreatDoor.Cl
