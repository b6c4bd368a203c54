/- Joined parts of the proof. The walks of the store's next, log, events, of the program -/
import Derived.Test.YtocckceefcmeaaaGreatDoorPk9
import Derived.Test.YtocckceefcmeaaaGreatDoorPk7
set_option linter.unusedVariables false
set_option linter.unusedSimpArgs false
set_option maxRecDepth 100000
set_option maxHeartbeats 16000000
namespace Go.Proofs.YtocckceefcmeaaaGreatDoor.Cl
open RowKit Vc Ax Go.Proofs.Tryz
attribute [local irreducible] loadVar storeVar Instr.indexAt Instr.index Instr.sliceAt Instr.makeSlice Instr.lookup Instr.mapUpdate Instr.range Instr.next Instr.entry Instr.makeMap Builtin.append_ Builtin.copy_ Builtin.len_ Builtin.min_ Builtin.max_ Builtin.cap_ Builtin.delete_ Builtin.clear_ convert binOp eqGuard Op.unary Calls
section
attribute [local irreducible] num hsh Ap yD sJ lg GZ OX
def NxR (l:List By)(a:AV)(n:Nat)(H:lF):Prop:= ∃k:Nat,a = .mW [iv (sJ l).1,iv (sJ l).2.1,iv k,bs (sJ l).2.2.2.1,bv (sJ l).2.2.2.2]∧n=0∧H = []∧((sJ l).2.2.2.2=true->k=(sJ l).2.2.1)
theorem WO (G:Glob)(l:List By)(hl:l.length<=1000):mX Tryz.prog G 78 [ss l] 0 [] (NxR l):=by
 have zero:sJ l=nxZ->∀k:Nat,NxR l (.mW [iv 0,iv 0,iv k,bs [],bv false]) 0 []:=fun e k=>by
  unfold NxR;rw [e];exact⟨k,rfl,rfl,rfl,fun h=>by cases h⟩
 refine lH func78 rfl mixed (by kernel_rfl) ?_
 apply lD<;>intro h
 ·have h0:l = []:=by simpa using h
  exact lW (.mW [iv 0,iv 0,iv (0:Nat),bs [],bv false]) 0 [] [] [] (zero (by rw [h0,JQ]) 0) rfl trivial (by trivial)
 have h0:0<l.length:=dV.2 (by simpa using h)
 refine ni.mk' 0 rfl (sD h0) ?_
 refine mG.lS (aj h0) ?_
 refine oJ [] (by kernel_rfl) (OO G l[0]) (by trivial) ?_
 rintro _ _ _ ⟨rfl,rfl,g,f,ix,m,rfl,hrd⟩
 apply lD<;>intro h
 ·have hno:yD l[0]=false:=by simpa using h
  exact lW (.mW [iv 0,iv 0,iv (0:Nat),bs [],bv false]) 0 [] [] [] (zero (Qu h0 hno) 0) rfl trivial (by trivial)
 have hok:yD l[0]=true:=by simpa using h
 obtain⟨rfl,rfl,rfl,rfl⟩:=hrd hok
 apply lD<;>intro h
 ·have hlg:l.length<hN l[0]:=by rw [ah]at h;simp at h;omega
  exact lW (.mW [iv 0,iv 0,iv (0:Nat),bs [],bv false]) 0 [] [] [] (zero (WC h0 hlg) 0) rfl trivial (by trivial)
 have hle:hN l[0]<=l.length:=by rw [ah]at h;simp at h;omega
 have hg:=aam h0 hok hle
 have hB:=zF G (l.take (hN l[0])) (by rw [aK];omega)
 unfold MW at hB
 refine tJ.mk' 0 (hN l[0]) rfl rfl (aB _) (by rw [ah];exact hle) ?_
 refine nI [] (by kernel_rfl) hB ⟨⟨rfl,fK.symm⟩,trivial⟩ ?_
 (refine nZ aee [] (by kernel_rfl) ?_;conv=>whnf)
 rcases Cj (l.take (hN l[0]))with ⟨g',f',b',hx,e⟩|⟨_,e⟩
 ·rw [e]at hg
  have hg:sJ l=(((g':Nat):Int),((f':Nat):Int),hN l[0],b',true):=hg
  refine lW (.mW [iv g',iv f',iv (hN l[0]:Nat),bs b',bv true]) 0 [] [] [] ?_ rfl trivial ?_
  ·unfold NxR;rw [hg];exact⟨_,rfl,rfl,rfl,fun _=>rfl⟩
  ·rw [e];trivial
 ·rw [e]at hg
  have hg:sJ l=nxZ:=hg
  refine lW (.mW [iv 0,iv 0,iv (hN l[0]:Nat),bs [],bv false]) 0 [] [] [] (zero hg _) rfl trivial ?_
  rw [e];trivial
structure LS where
 fr:List By
 at_:Nat
 n:Nat
theorem aa2 (G:Glob)(l:List By)(hl:l.length<=1000):mX Tryz.prog G 43 [ss l] 0 [] (Is (.mW [iv (JR l),ss (Dx l),bv (MR l)])):=by
 refine lH func43 rfl mixed (by kernel_rfl) ?_
 refine oJ [] (by kernel_rfl) (WO G l hl) (by trivial) ?_
 rintro _ _ _ ⟨k,rfl,rfl,rfl,hk⟩
 obtain⟨g,f,n,b,ok,hq⟩ : ∃g f n b ok,sJ l=(g,f,n,b,ok):=⟨_,_,_,_,_,rfl⟩
 have ady:MR l=(ok&&decide (f=0)):=by rw [Qw,hq]
 have hgo:=WG (g:=g) (l:=l) (k:=0)
 have hnx:= @Gm l
 have ae9:(sJ l).1=g:=by rw [hq]
 rw [hq]at hk hgo hnx ⊢
 dsimp only at hk hgo hnx ⊢
 apply lD<;>intro h
 ·have hz:MR l=false:=by rw [ady];simp at h;rw [h];rfl
  unfold JR Dx
  rw [hz]
  exact mJ [] (by trivial)
 have hok:ok=true:=by simpa using h
 subst hok
 apply lD<;>intro h
 ·have hz:MR l=false:=by rw [ady];simp at h;simp [h]
  unfold JR Dx
  rw [hz]
  exact mJ [] (by trivial)
 have hf:f=0:=by simpa using h
 subst hf
 have hy:MR l=true:=by rw [ady];rfl
 have hG:JR l=g:=by unfold JR;rw [if_pos hy,ae9]
 have hF:Dx l=b::lg g (l.drop n) 1:=by unfold Dx;rw [if_pos hy,ae9];exact hgo ⟨rfl,rfl,rfl⟩
 obtain⟨g0,f0,b0,_,e0,e1,e2⟩:=hnx rfl
 injection e0 with _ e0
 injection e0 with _ e0
 injection e0 with e0 _
 obtain rfl:=hk rfl
 rw [hy,hG,hF]
 refine mO abM 2 [7,10,11] (fun x:LS=> [(7,iv x.n),(10, .own 1),(11,iv x.at_)]) (fun x=> [(1, .rows 22 1 (x.fr.map uD))]) (fun x=>x.at_<=l.length∧x.fr.length<=x.at_∧b::lg g (l.drop k) 1=x.fr++lg g (l.drop x.at_) x.fr.length) (fun x=>l.length-x.at_) [(1, .lab 0)] [] ⟨[b],k,k⟩ (by kernel_rfl) (fun _=>rfl) rfl ⟨by show k<=l.length;omega,by show 1<=k;omega,rfl⟩ (by trivial) (by trivial) ?_
 rintro⟨fr,at_,n'⟩ ⟨hat,hfl,hI⟩
 dsimp only at hat hfl hI
 refine tJ.mk' at_ l.length rfl (by rw [ah]) hat (by rw [ah];exact ay _) ?_
 refine oJ [] (by kernel_rfl) (WO G (l.drop at_) (by rw [aX];omega)) ⟨⟨rfl,bT.symm⟩,trivial⟩ ?_
 rintro _ _ _ ⟨k2,rfl,rfl,rfl,hk2⟩
 obtain⟨g2,f2,n2,b2,ok2,hq2⟩ : ∃g f n b ok,sJ (l.drop at_)=(g,f,n,b,ok):=⟨_,_,_,_,_,rfl⟩
 have adz:=WG (g:=g) (l:=l.drop at_) (k:=fr.length)
 have hst2:=Qv (g:=g) (l:=l.drop at_) (k:=fr.length)
 have hnx2:= @Gm (l.drop at_)
 rw [hq2]at hk2 adz hst2 hnx2 ⊢
 dsimp only at hk2 adz hst2 hnx2 ⊢
 rw [hI]
 apply lD<;>intro h
 ·have ho:ok2=false:=by simpa using h
  rw [hst2 (by rw [ho];simp),bZ]
  exact mJ [1] (by trivial)
 have hok2:ok2=true:=by simpa using h
 subst hok2
 apply lD<;>intro h
 ·have ho:g2≠g:=by simpa using h
  rw [hst2 (fun hx=>ho hx.2.1),bZ]
  exact mJ [1] (by trivial)
 have hg2:g2=g:=by simpa using h
 subst hg2
 apply lD<;>intro h
 ·have ho:f2≠(fr.length:Int):=by simpa using h
  rw [hst2 (fun hx=>ho hx.2.2),bZ]
  exact mJ [1] (by trivial)
 have hf2:f2=(fr.length:Int):=by simpa using h
 subst hf2
 obtain⟨g3,f3,b3,_,e3,e4,e5⟩:=hnx2 rfl
 injection e3 with _ e3
 injection e3 with _ e3
 injection e3 with e3 _
 obtain rfl:=hk2 rfl
 rw [aX]at e4
 refine lG.mk (lM (by simp only [ln];omega) (by kernel_rfl)) ?_
 refine lU.to (y:=((at_+k2:Nat):Int)) (by rw [IntWalk.i64_in _ (by omega)];omega) ?_
 refine lX ⟨fr++ [b2],at_+k2,k2⟩ [(1, .lab 3)] [] rfl (by show l.length -(at_+k2)<l.length-at_;omega) ⟨by show at_+k2<=l.length;omega,by show (fr++ [b2]).length<=at_+k2;rw [ak];simp only [ln];omega, ?_⟩ ⟨⟨rfl,rfl,(Wv fr b2).symm⟩,trivial⟩ ⟨rfl,rfl,rfl,trivial⟩
 show fr++lg g2 (l.drop at_) fr.length=(fr++ [b2])++lg g2 (l.drop (at_+k2)) (fr++ [b2]).length
 rw [adz ⟨rfl,rfl,rfl⟩,jT,ak,aO]
 rfl
end
section
open Ky
attribute [local irreducible] num hsh Ap yD sJ lg GZ tab xI JJ
theorem WQ (l:List Ev)(hs:l.length<=10000):mX Tryz.prog GS 80 [el l] 0 [] (Is (el l)):=by
 by_cases hl:l = []
 ·subst hl
  refine lH func80 rfl mixed (by kernel_rfl) ?_
  refine⟨fun b hb=> ?_⟩
  cases b with
  | true=>
   exact mJ [] (by trivial)
  | false=>
   refine lG.mk (Qj (by decide)) ?_
   exact mJ [1] (by trivial)
 ·exact mX.DT (Qk l hl hs)
structure ES2 where
 out:List Ev
 i:Nat
theorem WR (a b:List Ev):a.map uX++b.map uX=(a++b).map uX:=aJ.symm
theorem Nc (fr:List By)(hl:fr.length<=1000)(hb : ∀b∈fr,b.length<=12240):mX Tryz.prog GS 44 [ss fr] 0 [] (Is (el (OX [] fr))):=by
 refine lH func44 rfl mixed (by kernel_rfl) ?_
 refine mO abN 1 [3,10] (fun x:ES2=> [(3, .own 0),(10,iv x.i)]) (fun x=> [(0, .rows 95 10 (x.out.map uX))]) (fun x=>x.i<=fr.length∧x.out.length<=512∧OX [] fr=OX x.out (fr.drop x.i)) (fun x=>fr.length-x.i) [(0, .nil)] [] ⟨[],0⟩ (by kernel_rfl) (fun _=>rfl) rfl ⟨aB _,aB _,rfl⟩ (by trivial) (by trivial) ?_
 rintro⟨out,i⟩ ⟨hi,ho,hI⟩
 dsimp only at hi ho hI
 apply lD<;>intro h
 rotate_left
 ·have hie:i=fr.length:=by simp at h;omega
  subst hie
  have e:OX [] fr=out:=by rw [hI,jf];unfold OX;rfl
  rw [e]
  exact mJ [0] (by trivial)
 have hlt:i<fr.length:=by simp at h;omega
 have hbl:=hb fr[i] (bD hlt)
 have hstep:OX [] fr=if(GZ fr[i]).2≠0∨512<out.length+(GZ fr[i]).1.length then out else OX (out++(GZ fr[i]).1) (fr.drop (i+1)):=by
  rw [hI,dM hlt];rfl
 refine ni.mk' i rfl (sD hlt) ?_
 refine mG.lS (aj hlt) ?_
 refine oJ [] (by kernel_rfl) (OW fr[i] (by omega)) (by trivial) ?_
 rintro _ _ _ ⟨l,e,hR,rfl,rfl,rfl⟩
 have hrd:=adi hR
 have hll:=hR.2.1
 rw [hrd]at hstep
 apply lD<;>intro h
 ·have he:e≠0:=by simpa using h
  rw [if_pos (.inl he)]at hstep
  rw [hstep]
  exact mJ [0] (by trivial)
 have he:e=0:=by simpa using h
 subst he
 refine lU.i64 (by simp only [ah];omega) ?_
 apply lD<;>intro h
 ·have hg:512<out.length+l.length:=by simp only [ah]at h;simp at h;omega
  rw [if_pos (.inr hg)]at hstep
  rw [hstep]
  exact mJ [0] (by trivial)
 have hg : ¬512<out.length+l.length:=by simp only [ah]at h;simp at h;omega
 rw [if_neg (by simp only [not_or];exact⟨by simp,hg⟩)]at hstep
 refine lG.mk (Qj (by simp only [ah];omega)) ?_
 refine lU.i64 (by dsimp only;omega) ?_
 exact lX ⟨out++l,i+1⟩ [(0, .lab 1)] [] rfl (by show fr.length -(i+1)<fr.length-i;omega) ⟨hlt,by show (out++l).length<=512;rw [ak];omega,hstep⟩ ⟨⟨rfl,rfl,WR out l⟩,trivial⟩ ⟨rfl,rfl,trivial⟩
theorem WT {a:Int}{l:List By}{i:Nat}(h:i<l.length):Di a (l.take (i+1))=if yD l[i]then max (Di a (l.take i)) (hG l[i]:Int)else Di a (l.take i):=by
 unfold Di
 rw [aH h,jW];rfl
theorem WU {l:List Ev}(hok : ∀e∈l,e.ok)(h:zJ l=0):(tab l).length<=2300000:=by
 have h0:=Ii h
 have hn:nC l<=32:=by unfold nC;omega
 have:=MQ hok (Gg h0.2) (nC l) (ay _)
 have h2:tab l=Gf l (nC l):=by unfold tab;rfl
 rw [h2]
 omega
theorem Il {s:So}(h:zI (Di s.gen s.d.now+1) 0 (tab s.ev)≠0∨s.d.now.length/2<nS (tab s.ev)):JK s=(So.zero,19):=by
 unfold JK;rw [if_pos h]
theorem Qy {s:So}(h : ¬(zI (Di s.gen s.d.now+1) 0 (tab s.ev)≠0∨s.d.now.length/2<nS (tab s.ev))){d:Dk}{e:Int}(hw:GY s.d ((1-s.half).toNat*(s.d.now.length/2)) (Dv (Di s.gen s.d.now+1) 0 (tab s.ev))=(d,e)) :
  JK s=if e≠0 then(So.Ws d,40)else(⟨d,Di s.gen s.d.now+1,1-s.half,(nS (tab s.ev):Nat),1,s.ev⟩,0):=by
 unfold JK;rw [if_neg h,hw]
theorem JU {g f:Int}{b:By}(h:zI g f b=0):(Dv g f b).length=nS b∧Qo (Dv g f b):=by
 unfold Dv;rw [if_pos h];exact⟨wL _ _ _,fun s hs=>L8 hs⟩
theorem SG (s:So)(hd:s.d.ok)(he:(∀e∈s.ev,e.ok)∧zJ s.ev=0)(hg:0<=s.gen∧s.gen<=4294967295)(hh:s.half=0∨s.half=1):mX Tryz.prog GS 45 [stA s] 0 [] (Is (.mW [stA (JK s).1,iv (JK s).2])):=by
 have hhi:=hd.hi
 refine lH func45 rfl mixed (by kernel_rfl) ?_
 refine zx abO [4,21] (fun i:Nat=> [(4,iv (Di s.gen (s.d.now.take i))),(21,iv i)]) (fun i=>i<=s.d.now.length) (fun i=>s.d.now.length-i) 0 (by kernel_rfl) (fun _=>rfl) (by kernel_rfl) (aB _) (by trivial) (by trivial) ?_
 intro i hi
 apply lD<;>intro h
 ·have hlt:i<s.d.now.length:=by simp at h;omega
  refine ni.mk' i rfl (sD hlt) ?_
  refine mG.lS (aj hlt) ?_
  refine oJ [] (by kernel_rfl) (OO GS s.d.now[i]) (by trivial) ?_
  rintro _ _ _ ⟨rfl,rfl,g,f,ix,m,rfl,hrd⟩
  conv=>whnf
  have hs:=WT (a:=s.gen) hlt
  apply lD<;>intro h
  ·obtain⟨rfl,rfl,rfl,rfl⟩:=hrd h
   rw [if_pos h]at hs
   refine lU.i64 (by omega) ?_
   exact lX (i+1) [] [] rfl (by show s.d.now.length -(i+1)<s.d.now.length-i;omega) hlt (by trivial) ⟨Je hs.symm,rfl,trivial⟩
  ·rw [h,if_neg (by decide)]at hs
   refine lU.i64 (by omega) ?_
   exact lX (i+1) [] [] rfl (by show s.d.now.length -(i+1)<s.d.now.length-i;omega) hlt (by trivial) ⟨Je hs.symm,rfl,trivial⟩
 have hie:i=s.d.now.length:=by simp at h;omega
 subst hie
 rw [bn]
 have hT:=Qm s.ev he.1 (by have:=(Ii he.2).1;omega)
 have e1:SL s.ev=tab s.ev:=by unfold SL;rw [if_pos he.2]
 rw [e1,he.2]at hT
 refine nI [] (by kernel_rfl) hT (by trivial) ?_
 conv=>whnf
 have hgr:=adh (l:=s.d.now) hg.2
 have ahH:=adg (l:=s.d.now) (a:=s.gen)
 refine lG.mk (by decide) ?_
 rw [ah]
 refine lU.divN s.d.now.length 2 (by omega) ?_
 refine lU.i64 (by omega) ?_
 refine nI [] (by kernel_rfl) (MS GS (Di s.gen s.d.now+1) 0 (tab s.ev) (by have:=WU he.1 he.2;omega)) (by trivial) ?_
 apply lD<;>intro h
 ·have hne:zI (Di s.gen s.d.now+1) 0 (tab s.ev)≠0:=by simpa using h
  rw [Il (.inl hne)]
  exact mJ [] (by trivial)
 have he0:zI (Di s.gen s.d.now+1) 0 (tab s.ev)=0:=by simpa using h
 obtain⟨hL1,hL2⟩:=JU he0
 apply lD<;>intro h
 ·have hlt:s.d.now.length/2<nS (tab s.ev):=by rw [ah,hL1]at h;simp at h;omega
  rw [Il (.inr hlt)]
  exact mJ [] (by trivial)
 have hle:nS (tab s.ev)<=s.d.now.length/2:=by rw [ah,hL1]at h;simp at h;omega
 obtain⟨hv,hhv,hh2⟩ : ∃hv:Nat,1-s.half=(hv:Int)∧hv<=1:=⟨(1-s.half).toNat,by omega,by omega⟩
 obtain⟨d,e,hw⟩ : ∃d e,GY s.d ((1-s.half).toNat*(s.d.now.length/2)) (Dv (Di s.gen s.d.now+1) 0 (tab s.ev))=(d,e):=⟨_,_,rfl⟩
 rw [Qy (by omega) hw]
 have hm:hv*(s.d.now.length/2)<=s.d.now.length/2:=by
  have:=aU (s.d.now.length/2) hh2
  omega
 rw [hhv,dK]at hw
 have hwo:=adf (at_:=hv*(s.d.now.length/2)) hd hL2
 have hW:=aau GS s.d hd (hv*(s.d.now.length/2)) (Dv (Di s.gen s.d.now+1) 0 (tab s.ev)) hL2 (by rw [hL1];omega)
 rw [hw]at hwo hW
 refine lU.to (y:=(hv:Int)) (by rw [hhv];exact IntWalk.i64_in _ (by omega)) ?_
 refine lU.to (y:=((hv*(s.d.now.length/2):Nat):Int)) (by rw [IntWalk.i64_in _ (by rw [<-iw];omega)];omega) ?_
 refine nI [] (by kernel_rfl) hW (by trivial) ?_
 apply lD<;>intro h
 ·have hne:e≠0:=by simpa using h
  have h40:e=40:=by rcases hwo.2.2 with h|h;exact absurd h hne;exact h.1
  subst h40
  rw [if_pos hne]
  refine nI [] (by kernel_rfl) (WM GS d) (by trivial) ?_
  exact mJ [] (by trivial)
 have agH:e=0:=by simpa using h
 rw [if_neg (by rw [agH];simp)]
 conv=>whnf
 rw [hhv]
 (refine nZ aec [] (by kernel_rfl) ?_;conv=>whnf)
 refine lU.i64 (by omega) ?_
 refine nI [] (by kernel_rfl) (WQ s.ev (by have:=(Ii he.2).1;omega)) (by trivial) ?_
 refine mJ [] ⟨⟨⟨rfl,rfl⟩,⟨rfl,rfl⟩,rfl,rfl,rfl,rfl,rfl,congrArg (fun n:Nat=>Value.int .i64 (n:Int)) (by rw [ah,hL1]),rfl,⟨rfl,rfl⟩,trivial⟩,rfl,trivial⟩
theorem aav {l:List Ev} : xI l=0↔∀e∈l,Ig e=0:=by
 induction l with
 | nil=>simp [xI]
 | cons e r ih=>
  unfold xI
  by_cases h:Ig e=0
  ·rw [if_neg (by simpa using h),ih]
   simp [h]
  ·rw [if_pos h]
   simp [h]
theorem Qz {l:List Ev} : zJ l=0↔l.length<=512∧∀e∈l,Ig e=0:=by
 unfold zJ
 split
 ·constructor
  ·intro h;simp at h
  ·intro h;omega
 ·rw [aav]
  constructor
  ·intro h;exact⟨by omega,h⟩
  ·intro h;exact h.2
theorem aaw {a b:List Ev}(ha:zJ a=0)(hb:zJ b=0)(h:(a++b).length<=512):zJ (a++b)=0:=by
 rw [Qz]at *
 exact⟨h,fun e he=>(cu.1 he).elim (ha.2 e) (hb.2 e)⟩
theorem adA : ∀(fr:List By) (out:List Ev),(∀e∈out,e.ok)->zJ out=0->(∀e∈OX out fr,e.ok)∧zJ (OX out fr)=0:=by
 intro fr
 induction fr with
 | nil=>intro out h1 h2;unfold OX;exact⟨h1,h2⟩
 | cons b r ih=>
  intro out h1 h2
  unfold OX
  split
  ·exact⟨h1,h2⟩
  ·rename_i hc
   have hr:=adk b
   simp only [not_or]at hc
   have h0:(GZ b).2=0:=by simpa using hc.1
   refine ih _ (fun e he=>(cu.1 he).elim (h1 e) (hr.1 e)) (aaw h2 (hr.2.2.1 h0).1 (by rw [ak];omega))
theorem QA:zJ []=0:=Qz.2 ⟨aB _,fun e he=>by cases he⟩
theorem AL (l:List By):(Dx l).length<=l.length∧∀b∈Dx l,b.length<=12240:=by
 unfold Dx
 split
 ·exact adt (ay _)
 ·exact⟨aB _,fun b hb=>by cases hb⟩
theorem AO {l:List By}(h:MR l=true):Xf l=OX [] (Dx l):=by
 unfold Xf Dx;rw [if_pos h];unfold lg;rfl
theorem WV (l:List By):(∀e∈Xf l,e.ok)∧zJ (Xf l)=0:=adA _ [] (fun e he=>by cases he) QA
theorem WW (a b:List By):((∀e∈(hlf a b).2,e.ok)∧zJ (hlf a b).2=0)∧((hlf a b).1=0∨(hlf a b).1=1):=by
 unfold hlf
 split
 ·exact⟨WV a, .inl rfl⟩
 ·split
  ·exact⟨WV b, .inr rfl⟩
  ·exact⟨⟨(fun e he=>by cases he),QA⟩, .inr rfl⟩
theorem adB (d:Dk)(hd:d.ok):mX Tryz.prog GS 16 [yO d] 0 [] (Is (.mW [stA (JL d).1,iv (JL d).2])):=by
 have hhi:=hd.hi
 have hR:=adx GS d hd
 unfold Dj at hR
 refine lH func16 rfl mixed (by kernel_rfl) ?_
 refine oJ [] (by kernel_rfl) hR (by trivial) ?_
 rintro _ _ _ ⟨rfl,rfl,b0,rfl⟩
 conv=>whnf
 rcases ji d.dead with hdd|hdd
 ·have e:JL d=(So.Ws d,40):=by unfold JL;rw [if_pos hdd]
  rw [if_pos hdd,e]
  refine nI [] (by kernel_rfl) (Nb GS d hd) (by trivial) ?_
  refine nI [] (by kernel_rfl) (WM GS d) (by trivial) ?_
  exact mJ [] (by trivial)
 have hnd : ¬d.dead=true:=by rw [hdd];decide
 have e:JL d=JK ⟨d,0,(hlf (d.now.take (d.now.length/2)) (d.now.drop (d.now.length/2))).1,0,0,(hlf (d.now.take (d.now.length/2)) (d.now.drop (d.now.length/2))).2⟩:=by unfold JL;rw [if_neg hnd]
 rw [if_neg hnd,e]
 refine lG.mk (by decide) ?_
 rw [ah]
 refine lU.divN d.now.length 2 (by omega) ?_
 refine tJ.mk' 0 (d.now.length/2) rfl rfl (aB _) (by rw [ah];omega) ?_
 refine nI [] (by kernel_rfl) (aa2 GS (d.now.take (d.now.length/2)) (by rw [aK];omega)) ⟨⟨rfl,fK.symm⟩,trivial⟩ ?_
 refine tJ.mk' (d.now.length/2) d.now.length rfl (by rw [ah]) (by omega) (by rw [ah];exact ay _) ?_
 refine nI [] (by kernel_rfl) (aa2 GS (d.now.drop (d.now.length/2)) (by rw [aX];omega)) ⟨⟨rfl,bT.symm⟩,trivial⟩ ?_
 have hC:=fun h=>SG ⟨d,0,(hlf (d.now.take (d.now.length/2)) (d.now.drop (d.now.length/2))).1,0,0,(hlf (d.now.take (d.now.length/2)) (d.now.drop (d.now.length/2))).2⟩ hd (WW _ _).1 h (WW _ _).2
 have hC:=hC ⟨iQ _,by show (0:Int)<=4294967295;decide⟩
 have hA:=fun h=>Nc (Dx (d.now.take (d.now.length/2))) h (AL _).2
 have hA:=hA (by have:=(AL (d.now.take (d.now.length/2))).1;rw [aK]at this;omega)
 have hB:=fun h=>Nc (Dx (d.now.drop (d.now.length/2))) h (AL _).2
 have hB:=hB (by have:=(AL (d.now.drop (d.now.length/2))).1;rw [aX]at this;omega)
 generalize d.now.take (d.now.length/2)=A at *
 generalize d.now.drop (d.now.length/2)=B at *
 refine lD (fun ha=> ?_) (fun ha=> ?_)
 ·have hga:JR A=(sJ A).1:=by unfold JR;rw [if_pos ha]
  apply lD<;>intro h
  ·have hb:MR B=false:=by simpa using h
   have hx:hlf A B=(0,Xf A):=by unfold hlf;rw [if_pos ⟨ha, .inl hb⟩]
   rw [hx]at hC ⊢
   refine nI [] (by kernel_rfl) hA (by trivial) ?_
   conv=>whnf
   rw [<-AO ha]
   refine nI [] (by kernel_rfl) hC (by trivial) ?_
   exact mJ [] (by trivial)
  have hb:MR B=true:=by simpa using h
  have hgb:JR B=(sJ B).1:=by unfold JR;rw [if_pos hb]
  apply lD<;>intro h
  ·have hle:(sJ B).1<=(sJ A).1:=by rw [<-hga, <-hgb];simpa using h
   have hx:hlf A B=(0,Xf A):=by unfold hlf;rw [if_pos ⟨ha, .inr hle⟩]
   rw [hx]at hC ⊢
   refine nI [] (by kernel_rfl) hA (by trivial) ?_
   conv=>whnf
   rw [<-AO ha]
   refine nI [] (by kernel_rfl) hC (by trivial) ?_
   exact mJ [] (by trivial)
  ·have hx:hlf A B=(1,Xf B):=by
    unfold hlf
    rw [if_neg,if_pos hb]
    rintro⟨_,hy⟩
    rcases hy with hy|hy
    ·rw [hb]at hy;cases hy
    ·rw [<-hga, <-hgb]at hy;simp at h;omega
   conv=>whnf
   rw [hb]
   rw [hx]at hC ⊢
   refine nI [] (by kernel_rfl) hB (by trivial) ?_
   conv=>whnf
   rw [<-AO hb]
   refine nI [] (by kernel_rfl) hC (by trivial) ?_
   exact mJ [] (by trivial)
 ·apply lD<;>intro h
  ·have hb:MR B=true:=by simpa using h
   have hx:hlf A B=(1,Xf B):=by
    unfold hlf
    rw [if_neg (fun hy=>by rw [ha]at hy;cases hy.1),if_pos hb]
   rw [hx]at hC ⊢
   refine nI [] (by kernel_rfl) hB (by trivial) ?_
   conv=>whnf
   rw [<-AO hb]
   refine nI [] (by kernel_rfl) hC (by trivial) ?_
   exact mJ [] (by trivial)
  ·have hb:MR B=false:=by simpa using h
   have hx:hlf A B=(1,[]):=by
    unfold hlf
    rw [if_neg (fun hy=>by rw [ha]at hy;cases hy.1),if_neg (by rw [hb];decide)]
   rw [hx]at hC ⊢
   refine nI [] (by kernel_rfl) hC (by trivial) ?_
   exact mJ [] (by trivial)
end
section
open Ky
attribute [local irreducible] num hsh Ap yD sJ lg GZ tab xI JJ
end
section
attribute [local irreducible] num hsh Ap yD
theorem yJ (G:Glob)(l:List By)(hl:l.length<=1000):mX Tryz.prog G 14 [ss l] 0 [] (Is (MW l)):=by
 refine lH func14 rfl mixed (by kernel_rfl) ?_
 apply lD<;>intro h
 ·have h0:l.length=0:=by simp at h;exact congrArg List.length h
  rw [rD fun g f b hx=>by have:=hx.len;omega]
  exact mJ [] (by trivial)
 have h0:0<l.length:=by simp at h;exact dV.2 h
 refine mO abH 1 [6,7] (fun i:Nat=> [(6, .own 0),(7,iv i)]) (fun i=> [(0, .rows 5 1 ((dtA l i).map oh))]) (fun i=>i<=l.length∧∀s∈l.take i,s.length=64) (fun i=>l.length-i) [(0, .nil)] [] 0 (by kernel_rfl) (fun _=>rfl) rfl ⟨aB _,fun s hs=>by simp at hs⟩ (by trivial) (by trivial) ?_
 rintro i ⟨hi,h64⟩
 have hdl:=Qq hi h64
 apply lD<;>intro h
 ·have hlt:i<l.length:=by simp at h;omega
  refine ni.mk' i rfl (sD hlt) ?_
  refine mG.lS (aj hlt) ?_
  apply lD<;>intro h
  ·have hne:l[i].length≠64:=by simp at h;omega
   rw [rD fun g f b hx=>hne (hx.aa1 (bD hlt))]
   exact mJ [] (by trivial)
  have h6:l[i].length=64:=by simp at h;omega
  refine ni.mk' i rfl (sD hlt) ?_
  refine mG.lS (aj hlt) ?_
  refine tJ.mk' 16 l[i].length rfl (by rw [ah]) (by omega) (by rw [ah];exact ay _) ?_
  refine lG.mk (lM (by simp only [cut,ah,aX];omega) (by kernel_rfl)) ?_
  refine lU.i64 (by omega) ?_
  refine lX (i+1) [(0, .lab 1)] [] rfl (by show l.length -(i+1)<l.length-i;omega) ⟨hlt,fun s hs=> ?_⟩ ⟨⟨rfl,rfl, ?_⟩,trivial⟩ ⟨rfl,rfl,trivial⟩
  ·rw [aH hlt]at hs
   rcases cu.1 hs with h1|h1
   ·exact h64 s h1
   ·rw [bG]at h1;rw [h1];exact h6
  ·rw [Gl hlt,aJ,bT];rfl
 have hie:i=l.length:=by simp at h;omega
 subst hie
 rw [Qr]at hdl ⊢
 rw [bn]at h64
 have hgood : ∀g f c,Ci l g f c->nG (l.flatMap (·.drop 16)) 0=((c.length:Int),(num (c.length:Int)).length,0)∧∃z,l.flatMap (·.drop 16)=dat c++z:=fun g f c hx=>by
  have hcl:=hx.ads
  have e:l.flatMap (·.drop 16)=pad c:=by rw [hx.2,yE]
  have h1:=qH (nD (by omega:c.length<=9223372036854775807)) (c++List.replicate (nS c*48 -(dat c).length) 0)
  rw [<-aO]at h1
  have e2:pad c=num (c.length:Int)++c++List.replicate (nS c*48 -(dat c).length) 0:=rfl
  rw [<-e2, <-e]at h1
  exact⟨h1,_,e⟩
 have hN:=mX.up (WA (l.flatMap (·.drop 16)) 0 0 (by omega) (aB _)) G
 rw [gK]at hN
 have hro:=qW (l.flatMap (·.drop 16)) 0
 generalize hfd:l.flatMap (·.drop 16)=d at *
 generalize hrn:nG d 0=rn at *
 obtain⟨x,k,e⟩:=rn
 dsimp only at hN hro
 rw [aS]at hN
 refine nI [0] (by kernel_rfl) (mX.up (ae7 d) G) (by trivial) ?_
 refine sG [1] [] (by kernel_rfl) hN rfl (by trivial) (by trivial) rfl ?_
 apply lD<;>intro h
 ·have he:e≠0:=by simpa using h
  rw [rD fun g f c hx=>he (by have:=(hgood g f c hx).1;injection this with _ q;injection q)]
  exact mJ [] (by trivial)
 have he:e=0:=by simpa using h
 subst he
 apply lD<;>intro h
 ·have hx0:x<0:=by simpa using h
  rw [rD fun g f c hx=>by have:=(hgood g f c hx).1;injection this with q _;omega]
  exact mJ [] (by trivial)
 have hx0:0<=x:=by simp at h;omega
 obtain⟨n,rfl⟩ : ∃n:Nat,x=(n:Int):=⟨x.toNat,by omega⟩
 refine lU.i64 (by rw [ah];omega) ?_
 conv=>whnf
 rw [ah]
 apply lD<;>intro h
 ·have hnk:(d.length:Int)-k<n:=by simpa using h
  rw [rD fun g f c hx=>by
   obtain⟨q,z,ez⟩:=hgood g f c hx
   injection q with q1 q2
   injection q2 with q2 _
   have:d.length=(dat c).length+z.length:=by rw [ez,ak]
   unfold dat at this
   rw [ak]at this
   omega]
  exact mJ [] (by trivial)
 have hnk:n+k<=d.length:=by simp at h;omega
 have h6:l[0].length=64:=h64 l[0] (bD h0)
 conv=>whnf
 have m0:=aj h0
 have hc6:List.drop 4 (List.take 6 (l[0].map oh))=((l[0].drop 4).take 2).map oh:=by rw [jw,fK,bT]
 have n4:=MV G (l[0].take 4) (by rw [aK];omega)
 have n2:=MV G ((l[0].drop 4).take 2) (by rw [aK];omega)
 have b4:JZ (l[0].take 4)<4294967296:=Qi l[0]
 have b2:JZ ((l[0].drop 4).take 2)<65536:=by
  have h1:=OE ((l[0].drop 4).take 2)
  have h2:((l[0].drop 4).take 2).length<=2:=List.length_take_le ..
  have h3:256^((l[0].drop 4).take 2).length<=256^2:=dw (by decide) h2
  have h4:(256:Nat)^2=65536:=by decide
  omega
 have hcut : []++List.take (k+n-k) (List.drop k (d.map oh))=((d.drop k).take n).map oh:=by rw [bI,jo,fK,bT]
 refine Uu aea [0,2] [(2,4),(58,83)] 3 [(2,iv (hG l[0])),(3,iv (hF l[0])),(4, .own 2)] [(2, .rows 5 1 (((d.drop k).take n).map oh))] (by kernel_rfl) (by kernel_rfl) ?_ ?_
 ·conv=>whnf
  repeat' (first
   | (refine And.intro ?_ ?_<;>(conv=>whnf))
   | (refine ni.mk' 0 rfl (sD h0) ?_;conv=>whnf)
   | (refine mG.lS m0 ?_;conv=>whnf)
   | (refine tJ.mk' 0 4 rfl rfl (by decide) (by rw [ah];omega) ?_;conv=>whnf)
   | (refine tJ.mk' 4 6 rfl rfl (by decide) (by rw [ah];omega) ?_;conv=>whnf)
   | (refine tJ.mk' k (k+n) rfl (by omega) (by omega) (by rw [ah];omega) ?_;conv=>whnf)
   | (refine mQ [] (by kernel_rfl) n4 rfl ?_ ?_;(focus (exact⟨⟨rfl,fK.symm⟩,trivial⟩));conv=>whnf)
   | (refine mQ [] (by kernel_rfl) n2 rfl ?_ ?_;(focus (exact⟨⟨rfl,hc6⟩,trivial⟩));conv=>whnf)
   | (refine lU.i64 (by omega) ?_;conv=>whnf)
   | (refine lG.mk (lM (by simp only [cut,IC,ah,aX,aK,dQ];omega) (by kernel_rfl)) ?_;conv=>whnf)
   | (refine ad5 [(2, .lab 3)] [] ?_ ?_ ?_;(focus rfl);(focus (exact⟨⟨rfl,rfl,hcut⟩,trivial⟩));(focus trivial);done))
 conv=>whnf
 have hfr : ∀g' f' c,Ci l g' f' c->g'=hG l[0]∧f'=hF l[0]:=fun g' f' c hx=>by
  have:=hx.at h0
  exact⟨this.2.2.1.symm,this.2.2.2.1.symm⟩
 have hB:=MX (b:=(d.drop k).take n) hfr fun c r hc e=>by
  rw [hfd]at e
  have h1:=qH hc (c++r)
  rw [<-aO]at h1
  have e2:d=num (c.length:Int)++c++r:=e
  rw [<-e2,hrn]at h1
  injection h1 with q1 q2
  injection q2 with q2 _
  have q1:n=c.length:=by omega
  rw [e2,q2,q1,aO,eu rfl,eG rfl]
 have htl:((d.drop k).take n).length<=48000:=by rw [aK,aX];omega
 generalize (d.drop k).take n=t at *
 refine nI [2] (by kernel_rfl) (CB G (hG l[0]:Nat) (hF l[0]:Nat) t (by omega)) (by trivial) ?_
 apply lD<;>intro h
 ·have he:zI (hG l[0]:Nat) (hF l[0]:Nat) t≠0:=by simpa using h
  rw [rD (hB.2 fun hx=>he hx.1)]
  exact mJ [] (by trivial)
 have he:zI (hG l[0]:Nat) (hF l[0]:Nat) t=0:=by simpa using h
 have hLl:Dv (hG l[0]:Nat) (hF l[0]:Nat) t=secs (hG l[0]) (hF l[0]) t:=by unfold Dv;rw [if_pos he];rfl
 rw [hLl]
 (refine mQ [] (by kernel_rfl) (WB G (secs (hG l[0]) (hF l[0]) t) l (by rw [wL];have:=(PZ he).2.2.2.2;omega)) rfl ?_ ?_;(focus trivial))
 apply lD<;>intro h
 ·have hne : ¬secs (hG l[0]) (hF l[0]) t=l:=by simpa using h
  rw [rD (hB.2 fun hx=>hne hx.2)]
  exact mJ [] (by trivial)
 have heq:secs (hG l[0]) (hF l[0]) t=l:=by simpa using h
 rw [Qs (hB.1 ⟨he,heq⟩)]
 exact mJ [2] (by trivial)
end
section
open Ky
def z64:By:=List.replicate 64 0
def dk0 (n:Nat):Dk:=⟨List.replicate n z64,List.replicate n z64, -1,0,false⟩
theorem QB (n:Nat):Qo (List.replicate n z64):=fun s hs=>by rw [(List.mem_replicate.1 hs).2];rfl
theorem adC {n:Nat}(h1:n%2=0)(h2:8<=n)(h3:n<=256):(dk0 n).ok:=by
 refine⟨?_, ?_, ?_,rfl,⟨iQ (-1),by show (-1:Int)<=9223372036854775807;decide⟩,⟨iQ 0,by show (0:Int)<=4611686018427387904;decide⟩,QB n,QB n⟩<;>simp [dk0]<;>omega
theorem WX {α:Type}(n:Nat)(a:α):List.replicate (n+1) a=List.replicate n a++ [a]:=jL
theorem afa (n:Nat)(h1:n%2=0)(h2:8<=n)(h3:n<=256):mX Tryz.prog GS 46 [iv n] 0 [] (Is (.mW [yO (dk0 n),iv 0])):=by
 have hm:((n:Int)).tmod 2=((n%2:Nat):Int):=rfl
 refine lH func46 rfl mixed (by kernel_rfl) ?_
 apply lD<;>intro h
 ·exfalso;simp at h;omega
 apply lD<;>intro h
 ·exfalso;simp at h;omega
 refine lG.mk (by decide) ?_
 rw [hm,h1]
 refine mO abP 4 [5] (fun i:Nat=> [(5,iv i)]) (fun i=> [(0, .var 40 [.v (.slice none 0 0), .v (.slice none 0 0),iv 0,iv 0,bv false]),(1, .var 40 [.own 2, .own 3,iv (-1),iv 0,bv false]),(2, .rows 22 1 ((List.replicate i z64).map uD)),(3, .rows 22 1 ((List.replicate i z64).map uD))]) (fun i=>i<=n) (fun i=>n-i) [(2, .nil),(3, .nil)] [] 0 (by kernel_rfl) (fun _=>rfl) rfl (aB _) (by trivial) (by trivial) ?_
 intro i hi
 apply lD<;>intro h
 rotate_left
 ·have hie:i=n:=by simp at h;omega
  subst hie
  exact mJ [2,3] (by trivial)
 have hlt:i<n:=by simp at h;omega
 (refine nZ aaK [2,4,5] (by kernel_rfl) ?_;conv=>whnf)
 refine NR.mk' 64 rfl rfl ⟨by decide,by decide⟩ ?_
 refine lG.mk (lM (by simp only [ln];omega) (by kernel_rfl)) ?_
 (refine nZ aaK [3,7,8] (by kernel_rfl) ?_;conv=>whnf)
 refine NR.mk' 64 rfl rfl ⟨by decide,by decide⟩ ?_
 refine lG.mk (lM (by simp only [ln];omega) (by kernel_rfl)) ?_
 refine lU.i64 (by omega) ?_
 conv=>whnf
 have e : ∀i,List.map uD (List.replicate (i+1) z64)=List.map uD (List.replicate i z64)++ [[FV.lst 1 (List.replicate 64 [FV.v (Value.int .u8 0)])]]:=fun i=>by rw [WX,aJ];rfl
 refine lX (i+1) [(2, .lab 6),(3, .lab 9)] [] rfl (by show n -(i+1)<n-i;omega) hlt ?_ ⟨rfl,trivial⟩
 simp only [e]
 trivial
theorem adD (k:Nat)(hk:k<256):mX Tryz.prog GS 17 [u8v k] 0 [] (Is (yO (dk0 (8+2*k%60)))):=by
 have hm:((2*k:Nat):Int).tmod 60=((2*k%60:Nat):Int):=rfl
 refine lH func17 rfl mixed (by kernel_rfl) ?_
 refine lU.i64 (by omega) ?_
 refine lU.to (y:=((2*k:Nat):Int)) (by rw [IntWalk.i64_in _ (by omega)];omega) ?_
 refine lG.mk (by decide) ?_
 rw [hm]
 refine lU.to (y:=((8+2*k%60:Nat):Int)) (by rw [IntWalk.i64_in _ (by omega)];omega) ?_
 refine nI [] (by kernel_rfl) (afa (8+2*k%60) (by omega) (by omega) (by omega)) (by trivial) ?_
 exact mJ [] (by trivial)
theorem aa3:yD z64=false:=by
 have h:hG z64=0:=by decide
 unfold yD
 rw [h];simp
theorem afb (n:Nat):sJ (List.replicate n z64)=nxZ:=by
 cases n with
 | zero=>rfl
 | succ n=>exact Qu (by simp) (by simp [aa3])
theorem aa4 (n:Nat):MR (List.replicate n z64)=false:=by rw [Qw,afb];rfl
theorem afc (n:Nat):Di 0 (List.replicate n z64)=0:=by
 induction n with
 | zero=>rfl
 | succ n ih=>
  unfold Di at ih ⊢
  rw [eU,fF,aa3]
  exact ih
theorem QC:tab [] = [0]:=by decide
theorem aax {n:Nat}(h2:8<=n) : ∃d:Dk,JL (dk0 n)=(⟨d,1,0,1,1,[]⟩,0)∧d.ops=2:=by
 have hl:(dk0 n).now.length=n:=by simp [dk0]
 have e1:hlf ((dk0 n).now.take ((dk0 n).now.length/2)) ((dk0 n).now.drop ((dk0 n).now.length/2))=(1,[]):=by
  have ta:(dk0 n).now.take ((dk0 n).now.length/2)=List.replicate (n/2) z64:=by
   rw [hl];show (List.replicate n z64).take (n/2)=_
   rw [List.take_replicate,dG (by omega)]
  have tb:(dk0 n).now.drop ((dk0 n).now.length/2)=List.replicate (n-n/2) z64:=by
   rw [hl];show (List.replicate n z64).drop (n/2)=_
   rw [List.drop_replicate]
  rw [ta,tb]
  unfold hlf
  rw [aa4,aa4]
  rfl
 have e2:JL (dk0 n)=JK ⟨dk0 n,0,1,0,0,[]⟩:=by
  unfold JL
  rw [if_neg (show ¬((dk0 n).dead=true) by show ¬(false=true);decide),e1]
 have e3:Di 0 (dk0 n).now=0:=afc n
 have e4:nS (tab [])=1:=by rw [QC];decide
 have e5:zI 1 0 (tab [])=0:=by rw [QC];decide
 have e6:Dv 1 0 (tab []) = [sec 1 0 0 1 (prt (tab []) 0)]:=by
  unfold Dv;rw [if_pos e5];unfold secs Ak;rw [e4];rfl
 refine⟨((dk0 n).put 0 (sec 1 0 0 1 (prt (tab []) 0))).flush, ?_,rfl⟩
 rw [e2]
 have hc:=Qy (s:=⟨dk0 n,0,1,0,0,[]⟩) (d:=((dk0 n).put 0 (sec 1 0 0 1 (prt (tab []) 0))).flush) (e:=0) (by
  simp only [e3,hl,e4]
  rw [show (0:Int)+1=1 from rfl,e5]
  omega) (by
  simp only [e3]
  rw [show (0:Int)+1=1 from rfl,e6]
  show GY (dk0 n) (0*_) _=_
  rw [dY]
  rfl)
 rw [hc]
 simp only [e3,e4]
 rfl
theorem aay:mX Tryz.prog GS 9 [] 0 [] (Is (bv true)):=by
 have hO:=adB (dk0 8) (adC (by decide) (by decide) (by decide))
 obtain⟨d,e1,e2⟩:=aax (n:=8) (by decide)
 rw [e1]at hO
 obtain⟨now,safe,fuse,ops,dead⟩:=d
 simp only at e2
 subst e2
 refine lH func9 rfl mixed (by kernel_rfl) ?_
 refine nI [] (by kernel_rfl) (adD 0 (by decide)) (by trivial) ?_
 refine nI [] (by kernel_rfl) hO (by trivial) ?_
 exact mJ [] rfl
end
section
open Ky
attribute [local irreducible] num hsh Ap yD
end
section
open Ky
attribute [local irreducible] num hsh Ap yD sJ lg GZ tab xI JJ sec hG hF hI hN
abbrev adE (n:Nat):AV:= .v (.int .u16 (n:Int))
def QD (s:By):List TV:= [.f (.lst 1 (s.map oh))]
theorem adF (L:List By)(T:Nat):((L.map uD).map fun r=>r.map (L9 T 1))=L.map QD:=by rw [lq];rfl
theorem yK (l:List By) : ∃p q c t,MW l = .mW [iv p,iv q,bs c,bv t]:=⟨_,_,_,_,rfl⟩
theorem agI (a b:Nat)(ha:a<256)(hb:b<256) : ∃c:UInt8,mD .xor .u8 (a:Int) (b:Int)=(c.toNat:Int):=by
 have e:IntKind.u8.bits=8:=rfl
 have h:=Nat.xor_lt_two_pow (n:=8) ha hb
 refine⟨UInt8.ofNat (a ^^^ b), ?_⟩
 simp only [mD,e,sS,kG,dS]
 rw [bU ha,bU hb,vJ h,UInt8.toNat_ofNat_of_lt' h]
theorem um.gh {P:Program}{G:Glob}{f:FuncId}{args:List AV}{n n':Nat}{H H':lF}{K:AV->Nat->lF->Prop}(g:Gh n H n' H')(h:um P G f args n' H' K):um P G f args n H K:=
 ⟨h.ok,mX.gh g h.runs fun a n1 H1 hR=>⟨n1,H1, .refl _ _,hR⟩⟩
theorem Nh (b c:By)(how at_ bit:Nat)(h1:how<65536)(h2:at_<65536)(h3:bit<65536):mX Tryz.prog GS 5 [bs b,bs c,adE how,adE at_,adE bit] 0 [] (Is (bv true)):=by
 refine Zy [1,1,1,1,1,1,1] func5 rfl mixed (by kernel_rfl) ?_
 (refine mQ [] (by kernel_rfl) (aay) rfl ?_ ?_;(focus trivial))
 apply lD<;>intro h
 ·exact mJ [] rfl
 have hb:b.length<=400:=by rw [ah]at h;simp at h;omega
 apply lD<;>intro h
 ·exact mJ [] rfl
 have hc:c.length<=400:=by rw [ah]at h;simp at h;omega
 obtain⟨L,hL⟩ : ∃L,L=Dv 3 2 b:=⟨_,rfl⟩
 have nb : ∀x:By,x.length<=400->nS x<=255∧1<=nS x:=fun x hx=>by
  have h1:=acM x
  have h2:=Jz x
  unfold nS at *;omega
 have hL1:L.length<=255∧1<=L.length∧Qo L:=by
  obtain⟨q1,q2⟩:=JU (Vl (g:=3) (f:=2) (by omega) (by omega) (by omega) (by omega) (nb b hb).1)
  rw [hL,q1]
  exact⟨(nb b hb).1,(nb b hb).2,q2⟩
 have hS1:=CB GS 3 2 b (by omega)
 rw [<-hL]at hS1
 refine nI [] (by kernel_rfl) hS1 (by trivial) ?_
 refine lG.mk (by decide) ?_
 have hd8:((how:Nat):Int).tdiv 8=((how/8:Nat):Int):=rfl
 rw [hd8]
 refine lU.in (IntWalk.u16_in _ (by omega)) ?_
 refine lU.i64 (by omega) ?_
 refine lG.mk (by decide) ?_
 have hm2:((how/8:Nat):Int).tmod 2=((how/8%2:Nat):Int):=rfl
 rw [hm2]
 refine lU.i64 (by omega) ?_
 conv=>whnf
 obtain⟨M,hM⟩ : ∃M,M=Dv 3 (2+((how/8%2:Nat):Int)) c:=⟨_,rfl⟩
 have hM1:M.length<=255∧1<=M.length∧Qo M:=by
  obtain⟨q1,q2⟩:=JU (Vl (g:=3) (f:=2+((how/8%2:Nat):Int)) (by omega) (by omega) (by omega) (by omega) (nb c hc).1)
  rw [hM,q1]
  exact⟨(nb c hc).1,(nb c hc).2,q2⟩
 have hS2:=CB GS 3 (2+((how/8%2:Nat):Int)) c (by omega)
 rw [<-hM]at hS2
 clear hL hM hS1
 refine nI [] (by kernel_rfl) hS2 (by trivial) ?_
 refine lU.i64 (by omega) ?_
 refine lG.mk (by rw [ah];omega) ?_
 obtain⟨k,hk⟩ : ∃k:Nat,k=at_%L.length:=⟨_,rfl⟩
 have Dt:k<L.length:=by rw [hk];exact iJ _ (by omega)
 have hmk:((at_:Nat):Int).tmod (((L.map uD).length:Nat):Int)=((k:Nat):Int):=by rw [ah,hk];rfl
 rw [hmk]
 clear hmk hk
 refine lG.mk (lM (by simp only [ln];omega) (by kernel_rfl)) ?_
 conv=>whnf
 have hm8:((how:Nat):Int).tmod 8=((how%8:Nat):Int):=rfl
 have hr8:how%8<8:=by omega
 by_cases hr:how%8<=2
 ·refine FU.mk' (n':=2) (H':= [(1, .tree 22 1 (L.map QD) none)]) (by
   have:=Gh.tree (n:=2) (H:= [(1, .rows 22 1 ([]++L.map uD))]) (lV:=1) 5 1 rfl
   rw [bI,adF]at this
   exact this) ?_
  have hgt:(L.map QD)[k]? = some (QD L[k]):=by rw [aP,aj Dt];rfl
  have h64:L[k].length=64:=hL1.2.2 _ (bD Dt)
  have hj8:((bit:Nat):Int).tdiv 8=((bit/8:Nat):Int):=rfl
  have agJ:((bit/8:Nat):Int).tmod 64=((bit/8%64:Nat):Int):=rfl
  have hb8:((bit:Nat):Int).tmod 8=((bit%8:Nat):Int):=rfl
  have hjl:bit/8%64<L[k].length:=by omega
  obtain⟨c8,hc8⟩:=agI L[k][bit/8%64].toNat (2^(bit%8)) (by have:=L[k][bit/8%64].toNat_lt;omega) (by have:=Nat.pow_lt_pow_right (a:=2) (by decide) (show bit%8<8 by omega);omega)
  have hset:(([]:List (List FV))++L[k].map oh).set (bit/8%64) [FV.v (.int .u8 (mD .xor .u8 ((L[k][bit/8%64].toNat:Nat):Int) ((2^(bit%8):Nat):Int)))]=(L[k].set (bit/8%64) c8).map oh:=by rw [hc8,bI,dP];rfl
  rcases(by omega:how%8=0∨how%8=1∨how%8=2)with e|e|e
  all_goals
   refine lG.mk (by decide) ?_
   rw [hm8,e]
   refine ni.mk' k rfl (sD Dt) ?_
   refine⟨fun e' he=>(by cases he),fun _=>⟨QD L[k],hgt, ?_⟩⟩
   refine lG.mk (lM (by simp only [ln];omega) (by kernel_rfl)) ?_
   refine ni.mk' k rfl (sD Dt) ?_
   refine⟨QD L[k],_,hgt,rfl, ?_⟩
   refine ni.mk' k rfl (by rw [bC,ah];exact Dt) ?_
   refine ATr.here ?_
   refine lU.i64 (by omega) ?_
   refine lG.mk (by decide) ?_
   rw [hj8]
   refine lU.i64 (by omega) ?_
   refine lG.mk (by decide) ?_
   rw [agJ]
   refine ni.mk' (bit/8%64) rfl (by simp only [bI,ah];omega) ?_
   refine mG.lS (aj hjl) ?_
   refine lG.mk (by decide) ?_
   rw [hb8]
   refine lU.in (rY (by omega)) ?_
   refine lG.mk (by omega) ?_
   refine lU.to (y:=((2^(bit%8):Nat):Int)) (by have:=Rn (c:=1) (s:=bit%8) (by omega) (by omega);rw [dA]at this;exact this) ?_
   refine ni.mk' (bit/8%64) rfl (by simp only [bI,ah];omega) ?_
   refine mG.lS (aj hjl) ?_
   conv=>whnf
   rw [hset]
   refine um.gh (n':=4) (H':= [(1, .rows 22 1 ((L.set k (L[k].set (bit/8%64) c8)).map uD))]) ?_ ?_
   ·have g1:=Gh.fold (n:=4) (H:= [(3, .rows 5 1 ((L[k].set (bit/8%64) c8).map oh)),(1, .tree 22 1 ((L.map QD).set k ((QD L[k]).set 0 (.f .top))) (some (k,0,3)))]) (lV:=1) (e:=3) (i:=k) (j:=0) rfl rfl (by decide) (dD (sD Dt))
    have g2:=Gh.freeze (n:=4) (H:= [(1, .tree 22 1 (((L.map QD).set k ((QD L[k]).set 0 (.f .top))).set k (((QD L[k]).set 0 (.f .top)).set 0 (.n 5 1 ((L[k].set (bit/8%64) c8).map oh)))) none)]) (lV:=1) rfl
    have e2:(((L.map QD).set k ((QD L[k]).set 0 (.f .top))).set k (((QD L[k]).set 0 (.f .top)).set 0 (.n 5 1 ((L[k].set (bit/8%64) c8).map oh)))).map (fun r=>r.map TV.fz)=(L.set k (L[k].set (bit/8%64) c8)).map uD:=by
     rw [show (L.set k (L[k].set (bit/8%64) c8)).map uD=(L.map uD).set k (uD (L[k].set (bit/8%64) c8))from dP,List.set_set,dP,lq];rfl
    rw [e2]at g2
    exact Gh.trans g1 g2
   have Nj:(L.set k (L[k].set (bit/8%64) c8)).length<=1000:=by rw [bC];omega
   generalize L.set k (L[k].set (bit/8%64) c8)=X at *
   obtain⟨p,q,d,t,hV⟩:=yK X
   have hB1:=zF GS X Nj
   have hB2:=yJ GS X Nj
   rw [hV]at hB1 hB2
   refine nI [1] (by kernel_rfl) hB1 (by trivial) ?_
   refine nI [1] (by kernel_rfl) hB2 (by trivial) ?_
   apply lD<;>intro h
   rotate_left
   ·exfalso;simp at h
   apply lD<;>intro h
   rotate_left
   ·exfalso;simp at h
   apply lD<;>intro h
   rotate_left
   ·exfalso;simp at h
   refine BA.of ?_
   refine BA.of ?_
   exact mJ [] (congrArg Value.bool (by show wP _ _=true;rw [uh];simp))
 have QE : ∀(i:Nat) (x:By),(([]:List (List FV))++L.map uD).set i [.lst 1 (x.map oh)]=(L.set i x).map uD:=fun i x=>by rw [bI,dP];rfl
 have hml:((bit:Nat):Int).tmod (((M.map uD).length:Nat):Int)=((bit%M.length:Nat):Int):=by rw [ah];rfl
 have hmM:bit%M.length<M.length:=iJ _ (by omega)
 have hgk : ∀i (h:i<L.length),(([]:List (List FV))++L.map uD)[i]? = some (uD L[i]):=fun i h=>by rw [bI,aP,aj h];rfl
 rcases(by omega:how%8=3∨how%8=4∨how%8=5∨how%8=6∨how%8=7)with e|e|e|e|e
 ·refine FU.same ?_
  refine lG.mk (by decide) ?_
  rw [hm8,e]
  refine lU.i64 (by omega) ?_
  refine lG.mk (by rw [ah];omega) ?_
  rw [hml]
  refine ni.mk' (bit%M.length) rfl (sD hmM) ?_
  refine mG.lS (aj hmM) ?_
  refine ni.mk' k rfl (by rw [bI,ah];exact Dt) ?_
  refine mG.at (hgk k Dt) ?_
  conv=>whnf
  rw [QE k M[bit%M.length]]
  have Nj:(L.set k M[bit%M.length]).length<=1000:=by rw [bC];omega
  generalize L.set k M[bit%M.length]=X at *
  obtain⟨p,q,d,t,hV⟩:=yK X
  have hB1:=zF GS X Nj
  have hB2:=yJ GS X Nj
  rw [hV]at hB1 hB2
  refine nI [1] (by kernel_rfl) hB1 (by trivial) ?_
  refine nI [1] (by kernel_rfl) hB2 (by trivial) ?_
  apply lD<;>intro h
  rotate_left
  ·exfalso;simp at h
  apply lD<;>intro h
  rotate_left
  ·exfalso;simp at h
  apply lD<;>intro h
  rotate_left
  ·exfalso;simp at h
  refine BA.of ?_
  refine BA.of ?_
  exact mJ [] (congrArg Value.bool (by show wP _ _=true;rw [uh];simp))
 ·refine FU.mk' (n':=2) (H':= [(1, .fz 1 (L.map uD))]) (by
   have:=Gh.fz (n:=2) (H:= [(1, .rows 22 1 ([]++L.map uD))]) (lV:=1) rfl
   rw [bI]at this
   exact this) ?_
  refine lG.mk (by decide) ?_
  rw [hm8,e]
  (refine nZ afP [] (by kernel_rfl) ?_;conv=>whnf)
  refine lG.mk (by rw [ah];omega) ?_
  refine tJ.mk' 0 k rfl rfl (aB _) (by rw [ah];omega) ?_
  refine lG.mk rfl ?_
  refine lU.i64 (by omega) ?_
  refine tJ.mk' (k+1) L.length rfl (by rw [ah]) Dt (by rw [ah];exact ay _) ?_
  refine lG.mk (⟨lM (by simp only [ln];omega) (by kernel_rfl),by rw [ah];omega⟩) ?_
  conv=>whnf
  obtain⟨X,hX⟩ : ∃X,X=L.take k++L.drop (k+1):=⟨_,rfl⟩
  have Nj:X.length<=1000:=by rw [hX,ak,aK,aX];omega
  have hx4:(L.map uD).take k++((L.map uD).drop (k+1)).take (L.length -(k+1))=X.map uD:=by
   rw [hX,aJ,fK,bT]
   exact congrArg _ (dZ (by rw [aX,ah];omega))
  obtain⟨p,q,d,t,hV⟩:=yK X
  have hB1:=zF GS X Nj
  have hB2:=yJ GS X Nj
  rw [hV]at hB1 hB2
  refine nI [] (by kernel_rfl) hB1 ⟨⟨rfl,hx4⟩,trivial⟩ ?_
  refine nI [] (by kernel_rfl) hB2 ⟨⟨rfl,hx4⟩,trivial⟩ ?_
  apply lD<;>intro h
  rotate_left
  ·exfalso;simp at h
  apply lD<;>intro h
  rotate_left
  ·exfalso;simp at h
  apply lD<;>intro h
  rotate_left
  ·exfalso;simp at h
  refine BA.of ?_
  refine BA.of ?_
  exact mJ [] (congrArg Value.bool (by show wP _ _=true;rw [uh];simp))
 ·refine FU.same ?_
  refine lG.mk (by decide) ?_
  rw [hm8,e]
  conv=>whnf
  obtain⟨X,hX⟩ : ∃X,X=(L.set k L[0]).set 0 L[k]:=⟨_,rfl⟩
  have Nj:X.length<=1000:=by rw [hX,bC,bC];omega
  have hx5:((([]:List (List FV))++L.map uD).set k [.lst 1 (L[0].map oh)]).set 0 [.lst 1 (L[k].map oh)]=X.map uD:=by rw [hX,QE];exact dP.symm
  have hz0:((([]:List (List FV))++L.map uD).set k [.lst 1 (L[0].map oh)])[0]? = some (uD L[0]):=by
   rw [QE,aP]
   rcases bP k with h0|h0
   ·rw [h0,dD (by omega)];rfl
   ·rw [gZ (by omega),aj (by omega)];rfl
  refine nZ (fun _=> .take 0 (tk [1,2,3,4,6,7,8] (.two 5 (.one 9 (.take 10 (.one 11 (.take 12 (.post 13 .done))))) 9 (.one 5 (.take 10 (.one 11 (.take 12 (.post 13 .done)))))))) [1] (by kernel_rfl) ?_
  conv=>whnf
  repeat' (first
   | (refine And.intro ?_ ?_<;>(conv=>whnf))
   | (refine ni.mk' 0 rfl (by first|(rw [bI,ah];omega)|(rw [bC,bI,ah];omega)) ?_;conv=>whnf)
   | (refine ni.mk' k rfl (by rw [bI,ah];exact Dt) ?_;conv=>whnf)
   | (refine mG.at (hgk 0 (by omega)) ?_;conv=>whnf)
   | (refine mG.at (hgk k Dt) ?_;conv=>whnf))
  all_goals
   refine mG.at hz0 ?_
   conv=>whnf
   obtain⟨p,q,d,t,hV⟩:=yK X
   have hB1:=zF GS X Nj
   have hB2:=yJ GS X Nj
   rw [hV]at hB1 hB2
   refine nI [1] (by kernel_rfl) hB1 ⟨⟨rfl,rfl,hx5⟩,trivial⟩ ?_
   refine nI [1] (by kernel_rfl) hB2 ⟨⟨rfl,hx5⟩,trivial⟩ ?_
   apply lD<;>intro h
   rotate_left
   ·exfalso;simp at h
   apply lD<;>intro h
   rotate_left
   ·exfalso;simp at h
   apply lD<;>intro h
   rotate_left
   ·exfalso;simp at h
   refine BA.of ?_
   refine BA.of ?_
   exact mJ [] (congrArg Value.bool (by show wP _ _=true;rw [uh];simp))
 ·refine FU.same ?_
  refine lG.mk (by decide) ?_
  rw [hm8,e]
  refine lG.mk (lM (by simp only [ah,bI];omega) (by kernel_rfl)) ?_
  conv=>whnf
  have hX:(([]:List (List FV))++L.map uD)++M.map uD=(L++M).map uD:=by rw [bI,aJ]
  rw [hX]
  have Nj:(L++M).length<=1000:=by rw [ak];omega
  generalize L++M=X at *
  obtain⟨p,q,d,t,hV⟩:=yK X
  have hB1:=zF GS X Nj
  have hB2:=yJ GS X Nj
  rw [hV]at hB1 hB2
  refine nI [2] (by kernel_rfl) hB1 (by trivial) ?_
  refine nI [2] (by kernel_rfl) hB2 (by trivial) ?_
  apply lD<;>intro h
  rotate_left
  ·exfalso;simp at h
  apply lD<;>intro h
  rotate_left
  ·exfalso;simp at h
  apply lD<;>intro h
  rotate_left
  ·exfalso;simp at h
  refine BA.of ?_
  refine BA.of ?_
  exact mJ [] (congrArg Value.bool (by show wP _ _=true;rw [uh];simp))
 ·refine FU.same ?_
  refine lG.mk (by decide) ?_
  rw [hm8,e]
  refine ni.mk' k rfl (by rw [bI,ah];exact Dt) ?_
  refine mG.at (hgk k Dt) ?_
  conv=>whnf
  have agK:((bit:Nat):Int).tmod 65=((bit%65:Nat):Int):=rfl
  have h64:L[k].length=64:=hL1.2.2 _ (bD Dt)
  refine lU.i64 (by omega) ?_
  refine lG.mk (by decide) ?_
  rw [agK]
  refine tJ.mk' 0 (bit%65) rfl rfl (aB _) (by rw [ah];omega) ?_
  refine ni.mk' k rfl (by rw [bI,ah];exact Dt) ?_
  refine mG.at (hgk k Dt) ?_
  conv=>whnf
  obtain⟨X,hX⟩ : ∃X,X=L.set k (L[k].take (bit%65)):=⟨_,rfl⟩
  have Nj:X.length<=1000:=by rw [hX,bC];omega
  have hx7:(([]:List (List FV))++L.map uD).set k [.lst 1 ((L[k].map oh).take (bit%65))]=X.map uD:=by rw [hX, <-QE,fK]
  obtain⟨p,q,d,t,hV⟩:=yK X
  have hB1:=zF GS X Nj
  have hB2:=yJ GS X Nj
  rw [hV]at hB1 hB2
  refine nI [1] (by kernel_rfl) hB1 ⟨⟨rfl,rfl,hx7⟩,trivial⟩ ?_
  refine nI [1] (by kernel_rfl) hB2 ⟨⟨rfl,hx7⟩,trivial⟩ ?_
  apply lD<;>intro h
  rotate_left
  ·exfalso;simp at h
  apply lD<;>intro h
  rotate_left
  ·exfalso;simp at h
  apply lD<;>intro h
  rotate_left
  ·exfalso;simp at h
  refine BA.of ?_
  refine BA.of ?_
  exact mJ [] (congrArg Value.bool (by show wP _ _=true;rw [uh];simp))
end
end Go.Proofs.YtocckceefcmeaaaGreatDoor.Cl
