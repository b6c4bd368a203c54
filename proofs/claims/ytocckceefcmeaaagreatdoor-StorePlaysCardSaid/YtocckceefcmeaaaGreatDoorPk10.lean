/- Joined parts of the proof. The walks of the reference's Reader: New, Fail, Number, Count; and of begins -/
import Derived.Test.YtocckceefcmeaaaGreatDoorPk8
import Derived.Test.YtocckceefcmeaaaGreatDoorPk9
set_option linter.unusedVariables false
set_option linter.unusedSimpArgs false
set_option maxRecDepth 100000
set_option maxHeartbeats 16000000
namespace Go.Proofs.YtocckceefcmeaaaGreatDoor.Cl
open RowKit Vc Ax Go.Proofs.Tryz
attribute [local irreducible] loadVar storeVar Instr.indexAt Instr.index Instr.sliceAt Instr.makeSlice Instr.lookup Instr.mapUpdate Instr.range Instr.next Instr.entry Instr.makeMap Builtin.append_ Builtin.copy_ Builtin.len_ Builtin.min_ Builtin.max_ Builtin.cap_ Builtin.delete_ Builtin.clear_ convert binOp eqGuard Op.unary Calls
def tH (b:By)(j:Nat)(e:Int):oZ:= .var 73 [bs b,iv j,iv e]
def ajE (x:Int)(b:By)(j:Nat)(e:Int)(a:AV)(n:Nat)(H:lM):Prop:=a=iv x∧n=1∧H = [(0,tH b j e)]
theorem Va (b:By):mQ Tryz.prog GC 37 [bs b] 0 [] (fun a n H=>a = .ptr 0 0∧n=1∧H = [(0,tH b 0 0)]):=by
 refine lQ func37 rfl mixed (by kernel_rfl) ?_
 exact lX (.ptr 0 0) 1 _ [(0, .lab 0)] [] ⟨rfl,rfl,rfl⟩ rfl (by trivial) (by trivial)
theorem rQ (b:By)(j:Nat)(e f:Int):mQ Tryz.prog GC 74 [.ptr 0 0,iv f] 1 [(0,tH b j e)] (fun a n H=>a = .nN []∧n=1∧H = [(0,tH b j (if e=0 then f else e))]):=by
 refine lQ func74 rfl mixed (by kernel_rfl) ?_
 apply lK<;>intro h
 ·have h0:e=0:=by simpa using h
  exact lX (.nN []) 1 [(0,tH b j f)] [] [] ⟨rfl,rfl,by rw [if_pos h0]⟩ rfl (by trivial) (by trivial)
 ·have h0:e≠0:=by simpa using h
  exact lX (.nN []) 1 [(0,tH b j e)] [] [] ⟨rfl,rfl,by rw [if_neg h0]⟩ rfl (by trivial) (by trivial)
theorem N9 {u:Nat}(h:u<18446744073709551616)(h1:u%2=1):IntKind.i64.wrap (nD .xor .u64 (bif IntKind.u64.signed then -1 else IntKind.u64.max) ((u/2:Nat):Int))=zz u:=by
 have hm:IntKind.u64.max=((18446744073709551615:Nat):Int):=by decide
 have s:IntKind.u64.signed=false:=rfl
 rw [s,cond_false,hm,Dh _ _ (by decide) (by omega),Nat.xor_comm,I5 (by omega)]
 have:=yc ((18446744073709551615-u/2:Nat):Int)
 unfold wQ at this
 rw [this]
 unfold zz
 rw [if_pos h1]
 omega
theorem GU {u:Nat}(h1 : ¬u%2=1):((u/2:Nat):Int)=zz u:=by unfold zz;rw [if_neg h1]
theorem qC (b:By)(j:Nat)(e:Int)(hb:b.length<=3000000)(hj:j<=b.length):mQ Tryz.prog GC 38 [.ptr 0 0] 1 [(0,tH b j e)] (ajE (ny (b.drop j) e).1 b (j+(ny (b.drop j) e).2.1) (ny (b.drop j) e).2.2):=by
 have hdl:(b.drop j).length=b.length-j:=aS
 refine lQ func38 rfl mixed (by kernel_rfl) ?_
 refine uj agh [3,4] (fun x:NX=> [(3,uv x.u),(4,iv x.i)]) (fun x=>NI (b.drop j) x.i x.u) (fun x=>(b.drop j).length-x.i) ⟨0,0⟩ (by kernel_rfl) (fun _=>rfl) (by kernel_rfl) ⟨rfl,by decide,by decide,au _⟩ (by trivial) (by trivial) ?_
 rintro⟨i,u⟩ hN
 change NI (b.drop j) i u at hN
 have hi:=hN.2.2.1
 have hu:=hN.2.1
 apply lK<;>intro h
 rotate_left
 ·have h0:e≠0:=by simpa using h
  exact lX (iv 0) 1 [(0,tH b j e)] [] [] (by rw [UZ h0];exact⟨rfl,rfl,rfl⟩) rfl (by trivial) (by trivial)
 have h0:e=0:=by simpa using h
 subst h0
 (refine mP aeW [] (by kernel_rfl) ?_;conv=>whnf)
 refine lV.to (y:=((j+i:Nat):Int)) (by show IntKind.i64.wrap ((j:Int)+(i:Int))=_;rw [<-fM];exact IntWalk.i64_in _ (by omega)) ?_
 refine lK (fun h1=> ?_) (fun h1=> ?_)
 ·have hil:(b.drop j).length<=i:=by simp at h1;omega
  refine pW [0] [] (by kernel_rfl) (rQ b j 0 16) rfl (by trivial) (by trivial) rfl ?_
  exact lX (iv 0) 1 [(0,tH b j 16)] [] [] (by rw [xP (hN.last hil)];exact⟨rfl,rfl,rfl⟩) rfl (by trivial) (by trivial)
 have hil:i<(b.drop j).length:=by simp at h1;omega
 have hc:=hN.cons hil
 have hji:j+i<b.length:=by omega
 have hge:(b.drop j)[i]=b[j+i]:=List.getElem_drop
 rw [hge]at hc
 (refine mP aeW [] (by kernel_rfl) ?_;conv=>whnf)
 refine lV.to (y:=((j+i:Nat):Int)) (by show IntKind.i64.wrap ((j:Int)+(i:Int))=_;rw [<-fM];exact IntWalk.i64_in _ (by omega)) ?_
 refine mZ.mk' (j+i) rfl (pU hji) ?_
 refine mD.map hji ?_
 conv=>whnf
 clear hge
 generalize b[j+i]=c at *
 have hcl:=c.toNat_lt
 refine lK (fun h2=> ?_) (fun h2=> ?_)
 ·have h9:i=9:=by simp at h2;omega
  refine lK (fun h3=> ?_) (fun h3=> ?_)
  ·have hc1:1<c.toNat:=by simp at h3;omega
   refine pW [0] [] (by kernel_rfl) (rQ b j 0 3) rfl (by trivial) (by trivial) rfl ?_
   exact lX (iv 0) 1 [(0,tH b j 3)] [] [] (by rw [xP (by rw [hc,if_pos ⟨h9,hc1⟩])];exact⟨rfl,rfl,rfl⟩) rfl (by trivial) (by trivial)
  ·have hc1:c.toNat<=1:=by simp at h3;omega
   have NU : ¬(i=9∧1<c.toNat):=by omega
   have Zo:i=9->c.toNat%128<=1:=by omega
   have hx:=NH (x:=c.toNat%128) hi (iM _ (by decide)) Zo
   have hU:u+c.toNat%128*128^i<18446744073709551616:=by
    have h1:=NI.lt (c:=c.toNat) hu
    rcases dP i 9 with h2|h2
    ·have h3:128^(i+1)<=128^9:=dL (by decide) (by omega)
     have h4:(128:Nat)^9<18446744073709551616:=by decide
     omega
    ·have h3:i=9:=by omega
     have h4:=Zo h3
     subst h3
     have h5:(128:Nat)^9=9223372036854775808:=by decide
     have h6:=aX (128^9) h4
     rw [h5]at hu h6 ⊢
     omega
   refine lV.to (U0 c) ?_
   refine lV.i64 (x:=7*(i:Int)) (by omega) ?_
   refine lV.to (y:=7*(i:Int)) (by have:=sH (n:=7*i) (by omega);simpa using this) ?_
   refine lN.mk (by show (0:Int)<=7*(i:Int);omega) ?_
   refine lV.to hx.1 ?_
   conv=>whnf
   rw [UE hu hi hx.2]
   refine lK (fun h4=> ?_) (fun h4=> ?_)
   ·have h128:128<=c.toNat:=by simp at h4;omega
    refine lV.i64 (x:=(i:Int)+1) (by omega) ?_
    exact lU ⟨i+1,u+c.toNat%128*128^i⟩ [] [] rfl (by show (b.drop j).length -(i+1)<(b.drop j).length-i;omega) ⟨by rw [hc,if_neg NU,if_pos h128],NI.lt hu,(show i+1<=9 by omega),hil⟩ (by trivial) ⟨rfl,rfl,trivial⟩
   ·have h128:c.toNat<128:=by simp at h4;omega
    refine lK (fun h5=> ?_) (fun h5=> ?_)
    ·have hc0:c.toNat=0:=by simp at h5;omega
     refine lK (fun h6=> ?_) (fun h6=> ?_)
     ·have hi0:0<i:=by simp at h6;omega
      refine pW [0] [] (by kernel_rfl) (rQ b j 0 1) rfl (by trivial) (by trivial) rfl ?_
      exact lX (iv 0) 1 [(0,tH b j 1)] [] [] (by rw [xP (by rw [hc,if_neg NU,if_neg (by omega),if_pos ⟨hc0,hi0⟩])];exact⟨rfl,rfl,rfl⟩) rfl (by trivial) (by trivial)
     have hi0:i=0:=by simp at h6;omega
     conv=>whnf
     have hok:DW (b.drop j) 0 0 = .ok (zz (u+c.toNat%128*128^i)) (i+1):=by rw [hc,if_neg NU,if_neg (by omega),if_neg (by omega)]
     refine lV.i64 (x:=(i:Int)+1) (by omega) ?_
     refine lV.to (y:=((j+(i+1):Nat):Int)) (by show IntKind.i64.wrap ((j:Int)+((i:Int)+1))=_;rw [IntWalk.i64_in _ (by omega)];omega) ?_
     conv=>whnf
     generalize u+c.toNat%128*128^i=U at *
     rw [FD hU]
     refine lK (fun h7=> ?_) (fun h7=> ?_)
     ·have ho:U%2=1:=by simp at h7;omega
      refine lN.mk (by decide) ?_
      rw [wZ]
      refine lV.to (N9 hU ho) ?_
      exact lX (iv (zz U)) 1 [(0,tH b (j+(i+1)) 0)] [] [] (by rw [rM hok];exact⟨rfl,rfl,rfl⟩) rfl (by trivial) (by trivial)
     ·have ho : ¬U%2=1:=by simp at h7;omega
      refine lN.mk (by decide) ?_
      rw [wZ]
      refine lV.to (y:=zz U) (by rw [<-GU ho];exact IntWalk.i64_in _ (by omega)) ?_
      exact lX (iv (zz U)) 1 [(0,tH b (j+(i+1)) 0)] [] [] (by rw [rM hok];exact⟨rfl,rfl,rfl⟩) rfl (by trivial) (by trivial)
    ·have hc0:c.toNat≠0:=by simp at h5;omega
     conv=>whnf
     have hok:DW (b.drop j) 0 0 = .ok (zz (u+c.toNat%128*128^i)) (i+1):=by rw [hc,if_neg NU,if_neg (by omega),if_neg (by omega)]
     refine lV.i64 (x:=(i:Int)+1) (by omega) ?_
     refine lV.to (y:=((j+(i+1):Nat):Int)) (by show IntKind.i64.wrap ((j:Int)+((i:Int)+1))=_;rw [IntWalk.i64_in _ (by omega)];omega) ?_
     conv=>whnf
     generalize u+c.toNat%128*128^i=U at *
     rw [FD hU]
     refine lK (fun h7=> ?_) (fun h7=> ?_)
     ·have ho:U%2=1:=by simp at h7;omega
      refine lN.mk (by decide) ?_
      rw [wZ]
      refine lV.to (N9 hU ho) ?_
      exact lX (iv (zz U)) 1 [(0,tH b (j+(i+1)) 0)] [] [] (by rw [rM hok];exact⟨rfl,rfl,rfl⟩) rfl (by trivial) (by trivial)
     ·have ho : ¬U%2=1:=by simp at h7;omega
      refine lN.mk (by decide) ?_
      rw [wZ]
      refine lV.to (y:=zz U) (by rw [<-GU ho];exact IntWalk.i64_in _ (by omega)) ?_
      exact lX (iv (zz U)) 1 [(0,tH b (j+(i+1)) 0)] [] [] (by rw [rM hok];exact⟨rfl,rfl,rfl⟩) rfl (by trivial) (by trivial)
 ·have h9:i≠9:=by simp at h2;omega
  have NU : ¬(i=9∧1<c.toNat):=by omega
  have Zo:i=9->c.toNat%128<=1:=by omega
  ·skip
   have hx:=NH (x:=c.toNat%128) hi (iM _ (by decide)) Zo
   have hU:u+c.toNat%128*128^i<18446744073709551616:=by
    have h1:=NI.lt (c:=c.toNat) hu
    rcases dP i 9 with h2|h2
    ·have h3:128^(i+1)<=128^9:=dL (by decide) (by omega)
     have h4:(128:Nat)^9<18446744073709551616:=by decide
     omega
    ·have h3:i=9:=by omega
     have h4:=Zo h3
     subst h3
     have h5:(128:Nat)^9=9223372036854775808:=by decide
     have h6:=aX (128^9) h4
     rw [h5]at hu h6 ⊢
     omega
   refine lV.to (U0 c) ?_
   refine lV.i64 (x:=7*(i:Int)) (by omega) ?_
   refine lV.to (y:=7*(i:Int)) (by have:=sH (n:=7*i) (by omega);simpa using this) ?_
   refine lN.mk (by show (0:Int)<=7*(i:Int);omega) ?_
   refine lV.to hx.1 ?_
   conv=>whnf
   rw [UE hu hi hx.2]
   refine lK (fun h4=> ?_) (fun h4=> ?_)
   ·have h128:128<=c.toNat:=by simp at h4;omega
    refine lV.i64 (x:=(i:Int)+1) (by omega) ?_
    exact lU ⟨i+1,u+c.toNat%128*128^i⟩ [] [] rfl (by show (b.drop j).length -(i+1)<(b.drop j).length-i;omega) ⟨by rw [hc,if_neg NU,if_pos h128],NI.lt hu,(show i+1<=9 by omega),hil⟩ (by trivial) ⟨rfl,rfl,trivial⟩
   ·have h128:c.toNat<128:=by simp at h4;omega
    refine lK (fun h5=> ?_) (fun h5=> ?_)
    ·have hc0:c.toNat=0:=by simp at h5;omega
     refine lK (fun h6=> ?_) (fun h6=> ?_)
     ·have hi0:0<i:=by simp at h6;omega
      refine pW [0] [] (by kernel_rfl) (rQ b j 0 1) rfl (by trivial) (by trivial) rfl ?_
      exact lX (iv 0) 1 [(0,tH b j 1)] [] [] (by rw [xP (by rw [hc,if_neg NU,if_neg (by omega),if_pos ⟨hc0,hi0⟩])];exact⟨rfl,rfl,rfl⟩) rfl (by trivial) (by trivial)
     have hi0:i=0:=by simp at h6;omega
     conv=>whnf
     have hok:DW (b.drop j) 0 0 = .ok (zz (u+c.toNat%128*128^i)) (i+1):=by rw [hc,if_neg NU,if_neg (by omega),if_neg (by omega)]
     refine lV.i64 (x:=(i:Int)+1) (by omega) ?_
     refine lV.to (y:=((j+(i+1):Nat):Int)) (by show IntKind.i64.wrap ((j:Int)+((i:Int)+1))=_;rw [IntWalk.i64_in _ (by omega)];omega) ?_
     conv=>whnf
     generalize u+c.toNat%128*128^i=U at *
     rw [FD hU]
     refine lK (fun h7=> ?_) (fun h7=> ?_)
     ·have ho:U%2=1:=by simp at h7;omega
      refine lN.mk (by decide) ?_
      rw [wZ]
      refine lV.to (N9 hU ho) ?_
      exact lX (iv (zz U)) 1 [(0,tH b (j+(i+1)) 0)] [] [] (by rw [rM hok];exact⟨rfl,rfl,rfl⟩) rfl (by trivial) (by trivial)
     ·have ho : ¬U%2=1:=by simp at h7;omega
      refine lN.mk (by decide) ?_
      rw [wZ]
      refine lV.to (y:=zz U) (by rw [<-GU ho];exact IntWalk.i64_in _ (by omega)) ?_
      exact lX (iv (zz U)) 1 [(0,tH b (j+(i+1)) 0)] [] [] (by rw [rM hok];exact⟨rfl,rfl,rfl⟩) rfl (by trivial) (by trivial)
    ·have hc0:c.toNat≠0:=by simp at h5;omega
     conv=>whnf
     have hok:DW (b.drop j) 0 0 = .ok (zz (u+c.toNat%128*128^i)) (i+1):=by rw [hc,if_neg NU,if_neg (by omega),if_neg (by omega)]
     refine lV.i64 (x:=(i:Int)+1) (by omega) ?_
     refine lV.to (y:=((j+(i+1):Nat):Int)) (by show IntKind.i64.wrap ((j:Int)+((i:Int)+1))=_;rw [IntWalk.i64_in _ (by omega)];omega) ?_
     conv=>whnf
     generalize u+c.toNat%128*128^i=U at *
     rw [FD hU]
     refine lK (fun h7=> ?_) (fun h7=> ?_)
     ·have ho:U%2=1:=by simp at h7;omega
      refine lN.mk (by decide) ?_
      rw [wZ]
      refine lV.to (N9 hU ho) ?_
      exact lX (iv (zz U)) 1 [(0,tH b (j+(i+1)) 0)] [] [] (by rw [rM hok];exact⟨rfl,rfl,rfl⟩) rfl (by trivial) (by trivial)
     ·have ho : ¬U%2=1:=by simp at h7;omega
      refine lN.mk (by decide) ?_
      rw [wZ]
      refine lV.to (y:=zz U) (by rw [<-GU ho];exact IntWalk.i64_in _ (by omega)) ?_
      exact lX (iv (zz U)) 1 [(0,tH b (j+(i+1)) 0)] [] [] (by rw [rM hok];exact⟨rfl,rfl,rfl⟩) rfl (by trivial) (by trivial)
theorem Dy (b:By)(j:Nat)(e most:Int)(hb:b.length<=3000000)(hj:j<=b.length)(Zp:0<=most):mQ Tryz.prog GC 111 [.ptr 0 0,iv most] 1 [(0,tH b j e)] (ajE (qg (b.drop j) e most 5).1 b (j+(qg (b.drop j) e most 5).2.1) (qg (b.drop j) e most 5).2.2):=by
 have hN:=qC b j e hb hj
 have hz:=(oN (b.drop j) e).2.2.2
 rw [sZ]
 generalize ny (b.drop j) e=t at *
 obtain⟨x,k,e'⟩:=t
 simp only at hN hz ⊢
 generalize j+k=j' at *
 by_cases he:e'=0
 ·subst he
  clear hz
  simp only [if_true]
  refine lQ func111 rfl mixed (by kernel_rfl) ?_
  refine pW [0] [] (by kernel_rfl) hN rfl (by trivial) (by trivial) rfl ?_
  apply lK<;>intro h
  ·have hx:x<0:=by simpa using h
   refine pW [0] [] (by kernel_rfl) (rQ b j' 0 3) rfl (by trivial) (by trivial) rfl ?_
   exact lX (iv 0) 1 [(0,tH b j' 3)] [] [] (by rw [if_pos hx];exact⟨rfl,rfl,rfl⟩) rfl (by trivial) (by trivial)
  have hx : ¬x<0:=by simpa using h
  apply lK<;>intro h
  ·have hm:most<x:=by simpa using h
   refine pW [0] [] (by kernel_rfl) (rQ b j' 0 5) rfl (by trivial) (by trivial) rfl ?_
   exact lX (iv 0) 1 [(0,tH b j' 5)] [] [] (by rw [if_neg hx,if_pos hm,if_neg (by decide)];exact⟨rfl,rfl,rfl⟩) rfl (by trivial) (by trivial)
  have hm : ¬most<x:=by simpa using h
  exact lX (iv x) 1 [(0,tH b j' 0)] [] [] (by rw [if_neg hx,if_neg hm,if_pos rfl];exact⟨rfl,rfl,rfl⟩) rfl (by trivial) (by trivial)
 ·obtain⟨rfl,rfl⟩:=hz he
  simp only [he,if_false]
  refine lQ func111 rfl mixed (by kernel_rfl) ?_
  refine pW [0] [] (by kernel_rfl) hN rfl (by trivial) (by trivial) rfl ?_
  apply lK<;>intro h
  ·exfalso;simp at h;exact he h
  apply lK<;>intro h
  ·exfalso;simp at h;exact he h
  apply lK<;>intro h
  rotate_left
  ·exfalso;simp at h;exact he h
  exact lX (iv 0) 1 [(0,tH b j' e')] [] [] ⟨rfl,rfl,rfl⟩ rfl (by trivial) (by trivial)
theorem Vb (b x:By):mQ Tryz.prog GC 168 [bs b,bs x] 0 [] (Is (bv (decide (b.take x.length=x)))):=by
 refine lQ func168 rfl mixed (by kernel_rfl) ?_
 (refine mP agN [] (by kernel_rfl) ?_;conv=>whnf)
 apply lK<;>intro h
 ·have hl:x.length<=b.length:=by simp at h;omega
  conv=>whnf
  repeat' (first
   | (refine sN.mk' 0 x.length rfl (by rw [ah]) (au _) (by rw [ah];exact hl) ?_;rw [show cut none (some (AV.v (.int .i64 ((x.map oh).length:Nat)))) 0 x.length (b.map oh)=(b.take x.length).map oh from dU.symm];conv=>whnf)
   | (refine F7.of ?_;conv=>whnf))
  refine lZ [] (congrArg Value.bool ?_)
  exact Zw _ _
 ·have hl:b.length<x.length:=by simp at h;omega
  refine lZ [] (congrArg Value.bool ?_)
  refine(decide_eq_false fun e=> ?_).symm
  have:=congrArg List.length e
  rw [aK]at this
  omega
theorem aac (b:By):Gd b fun l0 r=>(qg (b.drop (ny b 0).2.1) (ny b 0).2.2 512 5).2.2=0∧∃k:Nat,1<=k∧k<=5∧(ny b 0).1=(k:Int)∧(qg (b.drop (ny b 0).2.1) (ny b 0).2.2 512 5).1=(l0.length:Int)∧b.drop ((ny b 0).2.1+(qg (b.drop (ny b 0).2.1) (ny b 0).2.2 512 5).2.1)=bd k l0++r:=fun l0 r ha hl h=>by
 have hform : ∃k:Nat,1<=k∧k<=5∧ints l0=num (k:Int)++(num (l0.length:Int)++bd k l0):=by
  by_cases h0:l0 = []
  ·subst h0;exact⟨1,by omega,by omega,by decide⟩
  ·obtain⟨k,h1,h2,h3⟩:=UM h0
   exact⟨k,h1,h2,by rw [h3];unfold en;rw [aH]⟩
 obtain⟨k,k1,k2,he⟩:=hform
 have hb:b=num (k:Int)++(num (l0.length:Int)++(bd k l0++r)):=by rw [h,he];simp only [aH]
 have r1:=Lm (b:=b) (e:=0) (z:=num (l0.length:Int)++(bd k l0++r)) (nJ (by omega:k<=9223372036854775807)) rfl hb
 have r2:=Lm (e:=0) (nJ (by omega:l0.length<=9223372036854775807)) rfl (rfl:num (l0.length:Int)++(bd k l0++r)=_)
 rw [<-dB,r1.1,r1.2.1,r1.2.2]
 rw [sZ]
 simp only
 rw [r2.1,r2.2.1,r2.2.2,if_pos rfl,if_neg (by omega),if_neg (by omega),if_pos rfl]
 exact⟨rfl,k,k1,k2,rfl,rfl,rfl⟩
def DcA (b:By)(a:AV)(m:Nat)(H:lM):Prop:= ∃(l:Li) (e:Int) (j:Nat),nP l∧l.length<=512∧Gd b (fun l0 _=>e=0∧l=l0)∧a=li l∧m=1∧H = [(0,tH b j e)]
theorem Oa (b:By)(e most em:Int):(qg b e most em).2.1<=b.length:=(oN b e).2.1
structure DX where
 j:Nat
 e:Int
 out:Li
theorem aeg : ∀(d:Li) (p x:Int),sm p (d++ [x])=sm p d++ [wQ ((sm p d).getD (d.length-1) p+x)]:=by
 intro d
 induction d with
 | nil=>intro p x;rfl
 | cons y r ih=>
  intro p x
  have:=ih (wQ (p+y)) x
  show wQ (p+y)::sm (wQ (p+y)) (r++ [x])=wQ (p+y)::sm (wQ (p+y)) r++ [_]
  rw [this,iq]
  congr 3
  cases r with
  | nil=>rfl
  | cons z t=>
   have hl:(sm (wQ (p+y)) (z::t)).length=t.length+1:=by rw [yg];rfl
   show wQ ((sm (wQ (p+y)) (z::t)).getD t.length (wQ (p+y))+x)=wQ ((wQ (p+y)::sm (wQ (p+y)) (z::t)).getD (t.length+1) p+x)
   rw [kD,ay,ay,aj (by omega)]
   rfl
theorem Gd.mono {b:By}{Q Q':Li->By->Prop}(h:Gd b Q)(k : ∀l0 r,nP l0->l0.length<=512->Q l0 r->Q' l0 r):Gd b Q':=fun l0 r h1 h2 h3=>k l0 r h1 h2 (h l0 r h1 h2 h3)
theorem FK {b:By}{j:Nat}(e:Int)(h:j<=b.length):j+(ny (b.drop j) e).2.1<=b.length:=by
 have:=(oN (b.drop j) e).2.1
 rw [aS]at this
 omega
theorem aeh (b:By)(hb:b.length<=100000):mQ Tryz.prog GC 169 [.ptr 0 0] 1 [(0,tH b 0 0)] (DcA b):=by
 have hhead:=aac b
 have hN:=qC b 0 0 (by omega) (au _)
 rw [dJ,aV]at hN
 have hj1:(ny b 0).2.1<=b.length:=(oN b 0).2.1
 have hC:=Dy b (ny b 0).2.1 (ny b 0).2.2 512 (by omega) hj1 (by decide)
 have hcr:=rW (b.drop (ny b 0).2.1) (ny b 0).2.2 512 5 (by decide) (by decide)
 have hj0:(ny b 0).2.1+(qg (b.drop (ny b 0).2.1) (ny b 0).2.2 512 5).2.1<=b.length:=by
  have:=Oa (b.drop (ny b 0).2.1) (ny b 0).2.2 512 5
  rw [aS]at this
  omega
 have hcr:=And.intro hcr.1 hcr.2.1
 generalize hc:qg (b.drop (ny b 0).2.1) (ny b 0).2.2 512 5=t at *
 obtain⟨nn,j2,e0⟩:=t
 simp only at hhead hC hcr hj0
 generalize (ny b 0).1=kind at *
 generalize (ny b 0).2.2=e1 at *
 generalize (ny b 0).2.1=j1 at *
 generalize hj:j1+j2=j0 at *
 clear hc
 obtain⟨n,rfl⟩ : ∃n:Nat,nn=(n:Int):=⟨nn.toNat,by omega⟩
 have hn:n<=512:=by omega
 have hlen:Gd b fun l0 _=>l0.length=n:=hhead.mono fun l0 r _ _ ⟨_,k,_,_,_,h,_⟩=>by omega
 have hst : ∀k:Nat,kind=(k:Int)->Gd b fun l0 r=>l0.length=n∧e0=0∧b.drop j0=bd k l0++r:=fun k hk=>hhead.mono fun l0 r _ _ ⟨h0,k',_,_,h3,h4,h5⟩=>by
  have:k'=k:=by omega
  subst this
  exact⟨by omega,h0,h5⟩
 refine lQ func169 rfl mixed (by kernel_rfl) ?_
 refine pW [0] [] (by kernel_rfl) hN rfl (by trivial) (by trivial) rfl ?_
 refine pW [0] [] (by kernel_rfl) hC rfl (by trivial) (by trivial) rfl ?_
 refine lK (fun hk1=> ?_) (fun hk1=> ?_)
 ·have hst:=hst 1 (by simpa using hk1)
  refine mO acd 2 [5,6] (fun x:DX=> [(5, .own 1),(6,iv x.out.length)]) (fun x=> [(1, .rows 3 1 (x.out.map qX)),(0,tH b x.j x.e)]) (fun x=>x.out.length<=n∧nP x.out∧x.j<=b.length∧Gd b fun l0 r=>l0.length=n∧Q1 (b.drop x.j) x.out x.e l0 r) (fun x=>n-x.out.length) [(1, .nil)] [] ⟨j0,e0,[]⟩ (by kernel_rfl) (fun _=>rfl) rfl ⟨au _,nP.nil,hj0,hst.mono fun l0 r _ _ ⟨h1,h2,h3⟩=>⟨h1,h2,l0,rfl,h3⟩⟩ ⟨rfl,(by trivial),trivial⟩ ⟨trivial,rfl,trivial⟩ ?_
  clear hst hhead hN hC hj0 hj
  rintro⟨j,e,out⟩ ⟨h1,h2,h3,h4⟩
  change out.length<=n at h1
  change nP out at h2
  change j<=b.length at h3
  change Gd b fun l0 r=>l0.length=n∧Q1 (b.drop j) out e l0 r at h4
  apply lK<;>intro h
  ·have hlt:out.length<n:=by simp at h;omega
   refine pW [0] [] (by kernel_rfl) (qC b j e (by omega) h3) rfl (by trivial) (by trivial) rfl ?_
   refine lN.mk (lS (by simp only [ln];omega) (by kernel_rfl)) ?_
   refine lV.i64 (x:=(out.length:Int)+1) (by omega) ?_
   conv=>whnf
   have hl2:(out++ [(ny (b.drop j) e).1]).length=out.length+1:=by simp
   refine lU ⟨j+(ny (b.drop j) e).2.1,(ny (b.drop j) e).2.2,out++ [(ny (b.drop j) e).1]⟩ [(1, .lab 3)] [] rfl (by show n -(out++ [(ny (b.drop j) e).1]).length<n-out.length;omega)
    ⟨by show (out++ [(ny (b.drop j) e).1]).length<=n;omega,h2.snoc (oN (b.drop j) e).1,FK e h3,h4.mono fun l0 r ha _ ⟨q1,q2⟩=>⟨q1,by
     have:=q2.step ha (by omega)
     rwa [dB]at this⟩⟩ ⟨⟨rfl,rfl,(zT out _).symm⟩,(by trivial),trivial⟩ ⟨rfl,Ak (by rw [hl2];rfl),trivial⟩
  ·have hlt:out.length=n:=by simp at h;omega
   exact lX (li out) 1 [(0,tH b j e)] [] [1] ⟨out,e,j,h2,by omega,h4.mono fun l0 r _ _ ⟨q1,q2⟩=>by
    have:=q2.fin fun _=>by omega
    exact⟨this.1,this.2.1⟩,rfl,rfl,rfl⟩ rfl (by trivial) (by trivial)
 refine lK (fun hk2=> ?_) (fun hk2=> ?_)
 ·have hst:=hst 2 (by simpa using hk2)
  clear hlen
  refine mO ace 2 [5] (fun _:DX=> [(5, .own 1)]) (fun x=> [(1, .rows 3 1 (x.out.map qX)),(0,tH b x.j x.e)]) (fun x=>x.out.length<=n∧nP x.out∧x.j<=b.length∧Gd b fun l0 r=>l0.length=n∧Q2 (b.drop x.j) x.out x.e l0 r) (fun x=>2*(n-x.out.length)+(if x.e=0 then 1 else 0)) [(1, .nil)] [] ⟨j0,e0,[]⟩ (by kernel_rfl) (fun _=>rfl) rfl ⟨au _,nP.nil,hj0,hst.mono fun l0 r _ _ ⟨h1,h2,h3⟩=>⟨h1,h2,l0,rfl,h3⟩⟩ ⟨rfl,(by trivial),trivial⟩ ⟨trivial,trivial⟩ ?_
  clear hst hhead hN hC hj0 hj
  rintro⟨j,e,out⟩ ⟨h1,h2,h3,h4⟩
  change out.length<=n at h1
  change nP out at h2
  change j<=b.length at h3
  change Gd b fun l0 r=>l0.length=n∧Q2 (b.drop j) out e l0 r at h4
  apply lK<;>intro h
  rotate_left
  ·have hlt:out.length=n:=by simp at h;omega
   exact lX (li out) 1 [(0,tH b j e)] [] [1] ⟨out,e,j,h2,by omega,h4.mono fun l0 r _ _ ⟨q1,q2⟩=>⟨q2.1,(q2.fin (by omega)).1⟩,rfl,rfl,rfl⟩ rfl (by trivial) (by trivial)
  have hlt:out.length<n:=by simp at h;omega
  apply lK<;>intro h
  rotate_left
  ·have he:e≠0:=by simpa using h
   exact lX (li out) 1 [(0,tH b j e)] [] [1] ⟨out,e,j,h2,by omega,h4.mono fun l0 r _ _ ⟨q1,q2⟩=>absurd q2.1 he,rfl,rfl,rfl⟩ rfl (by trivial) (by trivial)
  have he:e=0:=by simpa using h
  subst he
  have hA:=qC b j 0 (by omega) h3
  have hj1:=FK 0 h3
  have hB:=qC b (j+(ny (b.drop j) 0).2.1) (ny (b.drop j) 0).2.2 (by omega) hj1
  have hj2:=FK (ny (b.drop j) 0).2.2 hj1
  have hx:=(oN (b.drop j) 0).1
  have hz:=(oN (b.drop (j+(ny (b.drop j) 0).2.1)) (ny (b.drop j) 0).2.2).2.2.2
  have step:Gd b fun l0 r=> ∃m:Nat,(ny (b.drop (j+(ny (b.drop j) 0).2.1)) (ny (b.drop j) 0).2.2).2.2=0∧(ny (b.drop (j+(ny (b.drop j) 0).2.1)) (ny (b.drop j) 0).2.2).1=((m+1:Nat):Int)∧m+1+out.length<=n∧l0.length=n∧
    Q2 (b.drop (j+(ny (b.drop j) 0).2.1+(ny (b.drop (j+(ny (b.drop j) 0).2.1)) (ny (b.drop j) 0).2.2).2.1)) (out++List.replicate (m+1) (ny (b.drop j) 0).1) 0 l0 r:=h4.mono fun l0 r ha hl ⟨q1,q2⟩=>by
   obtain⟨m,m1,m2,m3,m4⟩:=q2.step ha (by omega) (by omega)
   simp only [dB]at m1 m2 m4
   exact⟨m,m1,m2,by omega,q1,m4⟩
  generalize hq:ny (b.drop (j+(ny (b.drop j) 0).2.1)) (ny (b.drop j) 0).2.2=t at *
  obtain⟨kk,jj,e2⟩:=t
  simp only at step hB hj2 hz
  clear hq
  generalize (ny (b.drop j) 0).1=x at *
  generalize (ny (b.drop j) 0).2.2=e1 at *
  generalize j+(ny (b.drop j) 0).2.1=j1 at *
  generalize j1+jj=j2 at *
  refine pW [0] [] (by kernel_rfl) hA rfl (by trivial) (by trivial) rfl ?_
  refine pW [0] [] (by kernel_rfl) hB rfl (by trivial) (by trivial) rfl ?_
  apply lK<;>intro h
  ·have hk:kk<1:=by simpa using h
   have hbad : ∀ {l0 r}, ¬∃m:Nat,e2=0∧kk=((m+1:Nat):Int)∧m+1+out.length<=n∧l0.length=n∧Q2 (b.drop j2) (out++List.replicate (m+1) x) 0 l0 r:=by
    rintro l0 r ⟨m,_,m2,_⟩;omega
   refine pW [0] [] (by kernel_rfl) (rQ b j2 e2 1) rfl (by trivial) (by trivial) rfl ?_
   ·skip
    have hx2:(if e2=0 then(1:Int)else e2)≠0:=by split<;>omega
    generalize (if e2=0 then(1:Int)else e2)=e3 at *
    refine mO Np 3 [5,9] (fun i:Nat=> [(5, .own 2),(9,iv i)]) (fun _=> [(2, .rows 3 1 (out.map qX)),(0,tH b j2 e3)]) (fun i=>i=0) (fun _=>0) [(2, .lab 1)] [] 0 (by kernel_rfl) (fun _=>rfl) rfl rfl ⟨⟨rfl,rfl,rfl⟩,(by trivial),trivial⟩ ⟨rfl,rfl,trivial⟩ ?_
    rintro _ rfl
    apply lK<;>intro h
    ·apply lK<;>intro h
     ·exfalso;simp at h;exact hx2 h
     exact lU ⟨j2,e3,out⟩ [(1, .lab 2)] [] rfl (by show 2*(n-out.length)+(if e3=0 then 1 else 0)<2*(n-out.length)+(if(0:Int)=0 then 1 else 0);rw [if_neg hx2,if_pos rfl];omega) ⟨h1,h2,hj2,fun l0 r ha hl h=>absurd (step l0 r ha hl h) hbad⟩ ⟨⟨rfl,rfl,rfl⟩,(by trivial),trivial⟩ ⟨rfl,trivial⟩
    ·exact lU ⟨j2,e3,out⟩ [(1, .lab 2)] [] rfl (by show 2*(n-out.length)+(if e3=0 then 1 else 0)<2*(n-out.length)+(if(0:Int)=0 then 1 else 0);rw [if_neg hx2,if_pos rfl];omega) ⟨h1,h2,hj2,fun l0 r ha hl h=>absurd (step l0 r ha hl h) hbad⟩ ⟨⟨rfl,rfl,rfl⟩,(by trivial),trivial⟩ ⟨rfl,trivial⟩
  have hk:1<=kk:=by simp at h;omega
  refine lV.to (y:=(n:Int) -(out.length:Int)) (by rw [ah];exact IntWalk.i64_in _ (by show _<=(n:Int) -(out.length:Int)∧(n:Int) -(out.length:Int)<=_;omega)) ?_
  apply lK<;>intro h
  ·have hk2:(n:Int) -(out.length:Int)<kk:=by simp at h;omega
   have hbad : ∀ {l0 r}, ¬∃m:Nat,e2=0∧kk=((m+1:Nat):Int)∧m+1+out.length<=n∧l0.length=n∧Q2 (b.drop j2) (out++List.replicate (m+1) x) 0 l0 r:=by
    rintro l0 r ⟨m,_,m2,m3,_⟩;omega
   refine pW [0] [] (by kernel_rfl) (rQ b j2 e2 1) rfl (by trivial) (by trivial) rfl ?_
   ·skip
    have hx2:(if e2=0 then(1:Int)else e2)≠0:=by split<;>omega
    generalize (if e2=0 then(1:Int)else e2)=e3 at *
    refine mO Np 3 [5,9] (fun i:Nat=> [(5, .own 2),(9,iv i)]) (fun _=> [(2, .rows 3 1 (out.map qX)),(0,tH b j2 e3)]) (fun i=>i=0) (fun _=>0) [(2, .lab 1)] [] 0 (by kernel_rfl) (fun _=>rfl) rfl rfl ⟨⟨rfl,rfl,rfl⟩,(by trivial),trivial⟩ ⟨rfl,rfl,trivial⟩ ?_
    rintro _ rfl
    apply lK<;>intro h
    ·apply lK<;>intro h
     ·exfalso;simp at h;exact hx2 h
     exact lU ⟨j2,e3,out⟩ [(1, .lab 2)] [] rfl (by show 2*(n-out.length)+(if e3=0 then 1 else 0)<2*(n-out.length)+(if(0:Int)=0 then 1 else 0);rw [if_neg hx2,if_pos rfl];omega) ⟨h1,h2,hj2,fun l0 r ha hl h=>absurd (step l0 r ha hl h) hbad⟩ ⟨⟨rfl,rfl,rfl⟩,(by trivial),trivial⟩ ⟨rfl,trivial⟩
    ·exact lU ⟨j2,e3,out⟩ [(1, .lab 2)] [] rfl (by show 2*(n-out.length)+(if e3=0 then 1 else 0)<2*(n-out.length)+(if(0:Int)=0 then 1 else 0);rw [if_neg hx2,if_pos rfl];omega) ⟨h1,h2,hj2,fun l0 r ha hl h=>absurd (step l0 r ha hl h) hbad⟩ ⟨⟨rfl,rfl,rfl⟩,(by trivial),trivial⟩ ⟨rfl,trivial⟩
  have hk2:kk<=(n:Int) -(out.length:Int):=by simp at h;omega
  have he2:e2=0:=by
   rcases Classical.em (e2=0)with h|h
   ·exact h
   ·have:=(hz h).1;omega
  subst he2
  obtain⟨k,rfl⟩ : ∃k:Nat,kk=(k:Int):=⟨kk.toNat,by omega⟩
  refine mO Np 3 [5,9] (fun i:Nat=> [(5, .own 2),(9,iv i)]) (fun i=> [(2, .rows 3 1 ((out++List.replicate i x).map qX)),(0,tH b j2 0)]) (fun i=>i<=k) (fun i=>k-i) [(2, .lab 1)] [] 0 (by kernel_rfl) (fun _=>rfl) rfl (au _) ⟨⟨rfl,rfl,by rw [kC,bY]⟩,(by trivial),trivial⟩ ⟨rfl,rfl,trivial⟩ ?_
  rintro i hi
  apply lK<;>intro h
  ·have hik:i<k:=by simp at h;omega
   refine lN.mk (lS (by simp only [ln];omega) (by kernel_rfl)) ?_
   refine lV.i64 (x:=(i:Int)+1) (by omega) ?_
   refine lU (i+1) [(2, .lab 4)] [] rfl (by show k -(i+1)<k-i;omega) hik ⟨⟨rfl,rfl, ?_⟩,(by trivial),trivial⟩ ⟨rfl,rfl,trivial⟩
   rw [jq, <-aH]
   exact(zT _ _).symm
  ·have hik:i=k:=by simp at h;omega
   subst hik
   refine lU ⟨j2,0,out++List.replicate i x⟩ [(1, .lab 2)] [] rfl (by show 2*(n -(out++List.replicate i x).length)+(if(0:Int)=0 then 1 else 0)<2*(n-out.length)+(if(0:Int)=0 then 1 else 0);rw [ak,cu];omega)
    ⟨by show (out++List.replicate i x).length<=n;rw [ak,cu];omega,h2.app (nP.rep hx i),hj2,step.mono fun l0 r _ _ ⟨m,m1,m2,m3,m4,m5⟩=>⟨m4,by
     have:m+1=i:=by omega
     rw [this]at m5
     exact m5⟩⟩ ⟨⟨rfl,rfl,rfl⟩,(by trivial),trivial⟩ ⟨rfl,trivial⟩
 refine lK (fun hk3=> ?_) (fun hk3=> ?_)
 ·have hst:=hst 3 (by simpa using hk3)
  refine mO acf 2 [5,10] (fun x:DX=> [(5, .own 1),(10,iv x.out.length)]) (fun x=> [(1, .rows 3 1 ((sm 0 x.out).map qX)),(0,tH b x.j x.e)]) (fun x=>x.out.length<=n∧nP x.out∧x.j<=b.length∧Gd b fun l0 r=>l0.length=n∧Q1 (b.drop x.j) x.out x.e (dl 0 l0) r) (fun x=>n-x.out.length) [(1, .nil)] [] ⟨j0,e0,[]⟩ (by kernel_rfl) (fun _=>rfl) rfl ⟨au _,nP.nil,hj0,hst.mono fun l0 r _ _ ⟨h1,h2,h3⟩=>⟨h1,h2,dl 0 l0,rfl,by rw [h3, <-ae6];rfl⟩⟩ ⟨rfl,(by trivial),trivial⟩ ⟨trivial,rfl,trivial⟩ ?_
  clear hst hhead hN hC hj0 hj
  rintro⟨j,e,d⟩ ⟨h1,h2,h3,h4⟩
  change d.length<=n at h1
  change nP d at h2
  change j<=b.length at h3
  change Gd b fun l0 r=>l0.length=n∧Q1 (b.drop j) d e (dl 0 l0) r at h4
  have hsl:=yg d 0
  apply lK<;>intro h
  rotate_left
  ·have hlt:d.length=n:=by simp at h;omega
   exact lX (li (sm 0 d)) 1 [(0,tH b j e)] [] [1] ⟨sm 0 d,e,j,YN d 0,by omega,h4.mono fun l0 r ha _ ⟨q1,q2⟩=>by
    have:=q2.fin fun _=>by rw [Td];omega
    exact⟨this.1,by rw [this.2.1,ae7 l0 0 ha]⟩,rfl,rfl,rfl⟩ rfl (by trivial) (by trivial)
  have hlt:d.length<n:=by simp at h;omega
  have hxi:=(oN (b.drop j) e).1
  have hnext:Gd b fun l0 r=>l0.length=n∧Q1 (b.drop (j+(ny (b.drop j) e).2.1)) (d++ [(ny (b.drop j) e).1]) (ny (b.drop j) e).2.2 (dl 0 l0) r:=h4.mono fun l0 r ha _ ⟨q1,q2⟩=>⟨q1,by
   have:=q2.step (YL l0 0) (by rw [Td];omega)
   rwa [dB]at this⟩
  have hnum:=qC b j e (by omega) h3
  have hjn:=FK e h3
  generalize (ny (b.drop j) e).1=x at *
  generalize (ny (b.drop j) e).2.2=e' at *
  generalize j+(ny (b.drop j) e).2.1=j' at *
  have hl2:(d++ [x]).length=d.length+1:=by simp
  have hsn:=aeg d 0 x
  refine pW [0] [] (by kernel_rfl) hnum rfl (by trivial) (by trivial) rfl ?_
  apply lK<;>intro h
  ·have hi0:0<d.length:=by simp at h;omega
   have hat:(sm 0 d)[d.length-1]? = some ((sm 0 d).getD (d.length-1) 0):=by
    rw [ay,aj (by omega)];rfl
   generalize (sm 0 d).getD (d.length-1) 0=y at *
   refine lV.to rfl ?_
   refine lV.i64 (x:=(d.length:Int)-1) (by omega) ?_
   refine mZ.mk' (d.length-1) (by show (d.length:Int)-1=_;omega) (by rw [ah];show _<(sm 0 d).length;omega) ?_
   refine mD.lT hat ?_
   refine lV.to rfl ?_
   refine lV.to rfl ?_
   refine lV.to (ajl _ _) ?_
   refine lN.mk (lS (by simp only [ln];omega) (by kernel_rfl)) ?_
   refine lV.i64 (x:=(d.length:Int)+1) (by omega) ?_
   refine lU ⟨j',e',d++ [x]⟩ [(1, .lab 3)] [] rfl (by show n -(d++ [x]).length<n-d.length;omega) ⟨by show (d++ [x]).length<=n;omega,h2.snoc hxi,hjn,hnext⟩ ⟨⟨rfl,rfl,by rw [hsn,Int.add_comm];exact(zT _ _).symm⟩,(by trivial),trivial⟩ ⟨rfl,Ak (by rw [hl2];rfl),trivial⟩
  ·have hi0:d = []:=aI (by simp at h;simp [h])
   subst hi0
   refine lN.mk (lS (by simp [sm]) (by kernel_rfl)) ?_
   refine lV.i64 (x:=(0:Int)+1) (by decide) ?_
   refine lU ⟨j',e',[]++ [x]⟩ [(1, .lab 3)] [] rfl (by show n-1<n-0;simp at hlt;omega) ⟨by show 1<=n;simp at hlt;omega,h2.snoc hxi,hjn,hnext⟩ ⟨⟨rfl,rfl,by
    have e:wQ (0+x)=x:=by rw [Int.zero_add];exact NJ hxi
    show _=(sm 0 [x]).map qX
    simp only [sm,e];rfl⟩,(by trivial),trivial⟩ ⟨rfl,rfl,trivial⟩
 refine lK (fun hk4=> ?_) (fun hk4=> ?_)
 ·have hst:=hst 4 (by simpa using hk4)
  have hC4:=Dy b j0 e0 512 (by omega) hj0 (by decide)
  have hm:=rW (b.drop j0) e0 512 5 (by decide) (by decide)
  have hm:=And.intro hm.1 hm.2.1
  have hj3:j0+(qg (b.drop j0) e0 512 5).2.1<=b.length:=by
   have:=Oa (b.drop j0) e0 512 5
   rw [aS]at this
   omega
  have hq:Gd b fun l0 r=>l0.length=n∧Q4k (qg (b.drop j0) e0 512 5).1 (b.drop (j0+(qg (b.drop j0) e0 512 5).2.1)) [] (qg (b.drop j0) e0 512 5).2.2 l0 r:=hst.mono fun l0 r ha _ ⟨h1,h2,h3⟩=>⟨h1,by
   have:=(Q4k.start (b:=b.drop j0) hn (most:=512) (em:=5) (by omega)) l0 r ha h1 h3
   rw [h2, <-dB]
   exact this.2⟩
  generalize hc4:qg (b.drop j0) e0 512 5=t at *
  obtain⟨mm,jj,e3⟩:=t
  simp only at hC4 hm hj3 hq
  generalize j0+jj=j3 at *
  clear hc4
  obtain⟨m,rfl⟩ : ∃m:Nat,mm=(m:Int):=⟨mm.toNat,by omega⟩
  have hm5:m<=512:=by omega
  clear hst hhead hN hC hj0 hj
  refine pW [0] [] (by kernel_rfl) hC4 rfl (by trivial) (by trivial) rfl ?_
  refine mO acg 2 [12,14] (fun x:DX=> [(12, .own 1),(14,iv x.out.length)]) (fun x=> [(1, .rows 3 1 (x.out.map qX)),(0,tH b x.j x.e)]) (fun x=>x.out.length<=m∧nP x.out∧x.j<=b.length∧Gd b fun l0 r=>l0.length=n∧Q4k m (b.drop x.j) x.out x.e l0 r) (fun x=>m-x.out.length) [(1, .nil)] [] ⟨j3,e3,[]⟩ (by kernel_rfl) (fun _=>rfl) rfl ⟨au _,nP.nil,hj3,hq⟩ ⟨rfl,(by trivial),trivial⟩ ⟨trivial,rfl,trivial⟩ ?_
  clear hq hC4 hj3
  rintro⟨j,e,keys⟩ ⟨h1,h2,h3,h4⟩
  change keys.length<=m at h1
  change nP keys at h2
  change j<=b.length at h3
  change Gd b fun l0 r=>l0.length=n∧Q4k m (b.drop j) keys e l0 r at h4
  apply lK<;>intro h
  ·have hlt:keys.length<m:=by simp at h;omega
   refine pW [0] [] (by kernel_rfl) (qC b j e (by omega) h3) rfl (by trivial) (by trivial) rfl ?_
   refine lN.mk (lS (by simp only [ln];omega) (by kernel_rfl)) ?_
   refine lV.i64 (x:=(keys.length:Int)+1) (by omega) ?_
   conv=>whnf
   have hl2:(keys++ [(ny (b.drop j) e).1]).length=keys.length+1:=by simp
   refine lU ⟨j+(ny (b.drop j) e).2.1,(ny (b.drop j) e).2.2,keys++ [(ny (b.drop j) e).1]⟩ [(1, .lab 3)] [] rfl (by show m -(keys++ [(ny (b.drop j) e).1]).length<m-keys.length;omega)
    ⟨by show (keys++ [(ny (b.drop j) e).1]).length<=m;omega,h2.snoc (oN (b.drop j) e).1,FK e h3,h4.mono fun l0 r ha _ ⟨q1,q2⟩=>⟨q1,q2.1,by
     have hd:=q2.1
     have:=q2.2.step (fun y hy=>ha y ((uU l0 y).1 hy)) (by omega)
     rwa [dB]at this⟩⟩ ⟨⟨rfl,rfl,(zT keys _).symm⟩,(by trivial),trivial⟩ ⟨rfl,Ak (by rw [hl2];rfl),trivial⟩
  have hkm:keys.length=m:=by simp at h;omega
  refine mO ach 3 [5,15] (fun x:DX=> [(5, .own 2),(15,iv x.out.length)]) (fun x=> [(2, .rows 3 1 (x.out.map qX)),(1, .rows 3 1 (keys.map qX)),(0,tH b x.j x.e)]) (fun x=>x.out.length<=n∧nP x.out∧x.j<=b.length∧Gd b fun l0 r=>l0.length=n∧Q4 keys (b.drop x.j) x.out x.e l0 r) (fun x=>n-x.out.length) [(2, .nil)] [] ⟨j,e,[]⟩ (by kernel_rfl) (fun _=>rfl) rfl ⟨au _,nP.nil,h3,h4.mono fun l0 r _ _ ⟨q1,q2⟩=>⟨q1,Q4.start (fun _=>by rw [hkm]) q2⟩⟩ ⟨rfl,⟨rfl,rfl,rfl⟩,(by trivial),trivial⟩ ⟨trivial,rfl,trivial⟩ ?_
  clear h1 h3 h4
  rintro⟨j,e,out⟩ ⟨h1,h5,h3,h4⟩
  change out.length<=n at h1
  change nP out at h5
  change j<=b.length at h3
  change Gd b fun l0 r=>l0.length=n∧Q4 keys (b.drop j) out e l0 r at h4
  apply lK<;>intro h
  rotate_left
  ·have hlt:out.length=n:=by simp at h;omega
   exact lX (li out) 1 [(0,tH b j e)] [] [2] ⟨out,e,j,h5,by omega,h4.mono fun l0 r _ _ ⟨q1,q2⟩=>⟨q2.2.1,(q2.fin (by omega)).1⟩,rfl,rfl,rfl⟩ rfl (by trivial) (by trivial)
  have hlt:out.length<n:=by simp at h;omega
  apply lK<;>intro h
  rotate_left
  ·have he:e≠0:=by simpa using h
   exact lX (li out) 1 [(0,tH b j e)] [] [2] ⟨out,e,j,h5,by omega,h4.mono fun l0 r _ _ ⟨q1,q2⟩=>absurd q2.2.1 he,rfl,rfl,rfl⟩ rfl (by trivial) (by trivial)
  have step:Gd b fun l0 r=> ∃(i:Nat) (x:Int),(ny (b.drop j) e).2.2=0∧(ny (b.drop j) e).1=(i:Int)∧keys[i]? = some x∧l0.length=n∧Q4 keys (b.drop (j+(ny (b.drop j) e).2.1)) (out++ [x]) 0 l0 r:=h4.mono fun l0 r ha hl ⟨q1,q2⟩=>by
   obtain⟨i,x,m1,m2,m3,m4⟩:=q2.step hl (by omega)
   rw [dB]at m4
   exact⟨i,x,m1,m2,m3,q1,m4⟩
  have hnum:=qC b j e (by omega) h3
  have hjn:=FK e h3
  generalize ny (b.drop j) e=t at *
  obtain⟨ii,jj,e2⟩:=t
  simp only at step hnum hjn
  generalize j+jj=j' at *
  refine pW [0] [] (by kernel_rfl) hnum rfl (by trivial) (by trivial) rfl ?_
  conv=>whnf
  have bad:(¬(0<=ii∧ii<(keys.length:Int)))->Gd b fun l0 _=>(if e2=0 then(1:Int)else e2)=0∧out=l0:=fun hbad=>step.mono fun l0 r _ _ ⟨i,x,m1,m2,m3,_⟩=>by
   have:=(aO.1 m3).1
   exact absurd ⟨by omega,by omega⟩ hbad
  apply lK<;>intro h
  ·have hk:ii<0:=by simpa using h
   refine pW [0] [] (by kernel_rfl) (rQ b j' e2 1) rfl (by trivial) (by trivial) rfl ?_
   exact lX (li out) 1 [(0,tH b j' (if e2=0 then 1 else e2))] [] [2] ⟨out,_,j',h5,by omega,bad fun h=>by omega,rfl,rfl,rfl⟩ rfl (by trivial) (by trivial)
  have hk:0<=ii:=by simp at h;omega
  apply lK<;>intro h
  ·have hk2:(keys.length:Int)<=ii:=by simp at h;omega
   refine pW [0] [] (by kernel_rfl) (rQ b j' e2 1) rfl (by trivial) (by trivial) rfl ?_
   exact lX (li out) 1 [(0,tH b j' (if e2=0 then 1 else e2))] [] [2] ⟨out,_,j',h5,by omega,bad fun h=>by omega,rfl,rfl,rfl⟩ rfl (by trivial) (by trivial)
  have hk2:ii<(keys.length:Int):=by simp at h;omega
  obtain⟨i,rfl⟩ : ∃i:Nat,ii=(i:Int):=⟨ii.toNat,by omega⟩
  have hil:i<keys.length:=by omega
  refine mZ.mk' i rfl (pU hil) ?_
  refine mD.map hil ?_
  refine lN.mk (lS (by simp only [ln];omega) (by kernel_rfl)) ?_
  refine lV.i64 (x:=(out.length:Int)+1) (by omega) ?_
  conv=>whnf
  have hl2:(out++ [keys[i]]).length=out.length+1:=by simp
  refine lU ⟨j',e2,out++ [keys[i]]⟩ [(2, .lab 4)] [] rfl (by show n -(out++ [keys[i]]).length<n-out.length;omega)
   ⟨by show (out++ [keys[i]]).length<=n;omega,h5.snoc (h2 _ (aT hil)),hjn,step.mono fun l0 r _ _ ⟨i',x,m1,m2,m3,m4,m5⟩=>⟨m4,by
    have:i'=i:=by omega
    subst this
    rw [aj hil]at m3
    injection m3 with m3
    rw [m3,m1]
    exact m5⟩⟩ ⟨⟨rfl,rfl,(zT out _).symm⟩,⟨rfl,rfl,rfl⟩,(by trivial),trivial⟩ ⟨rfl,Ak (by rw [hl2];rfl),trivial⟩
 refine lK (fun hk5=> ?_) (fun hk5=> ?_)
 ·have hst:=hst 5 (by simpa using hk5)
  have hA:=qC b j0 e0 (by omega) hj0
  have hj1:=FK e0 hj0
  have hB:=qC b (j0+(ny (b.drop j0) e0).2.1) (ny (b.drop j0) e0).2.2 (by omega) hj1
  have hj2:=FK (ny (b.drop j0) e0).2.2 hj1
  have hli:=(oN (b.drop j0) e0).1
  have key:Gd b fun l0 r=>l0.length=n∧(ny (b.drop (j0+(ny (b.drop j0) e0).2.1)) (ny (b.drop j0) e0).2.2).2.2=0∧∃wn:Nat,(ny (b.drop (j0+(ny (b.drop j0) e0).2.1)) (ny (b.drop j0) e0).2.2).1=(wn:Int)∧wn<=64∧
    Q5 (ny (b.drop j0) e0).1 wn (b.drop (j0+(ny (b.drop j0) e0).2.1+(ny (b.drop (j0+(ny (b.drop j0) e0).2.1)) (ny (b.drop j0) e0).2.2).2.1)) l0 r:=hst.mono fun l0 r ha _ ⟨q1,q2,q3⟩=>by
   have hlw:=Lj l0 ha
   have hlo:I64 (lo l0):=by
    cases l0 with
    | nil=>show I64 0;unfold I64;omega
    | cons x t=>exact ha _ (lo_le (l:=x::t) (x:=x) bG).2
   have r1:=Lm (b:=b.drop j0) (e:=e0) (z:=num (wd l0:Int)++(pk (x9 (lo l0) (wd l0) l0) (vZ l0.length (wd l0)) (l0.length*wd l0)++r)) hlo q2 (by rw [q3];show b5 l0++r=_;unfold b5;simp only [aH])
   have r2:=Lm (b:=b.drop (j0+(ny (b.drop j0) e0).2.1)) (e:=(ny (b.drop j0) e0).2.2) (nJ (by omega:wd l0<=9223372036854775807)) r1.2.1 (by rw [<-dB];exact r1.2.2)
   refine⟨q1,r2.2.1,wd l0,r2.1,hlw,r1.1,rfl, ?_⟩
   rw [<-dB]
   exact r2.2.2
  generalize hq:ny (b.drop (j0+(ny (b.drop j0) e0).2.1)) (ny (b.drop j0) e0).2.2=t at *
  obtain⟨w,jj,e2⟩:=t
  simp only at key hB hj2
  clear hq
  generalize (ny (b.drop j0) e0).1=least at *
  generalize (ny (b.drop j0) e0).2.2=e1 at *
  generalize j0+(ny (b.drop j0) e0).2.1=j1 at *
  generalize j1+jj=j2 at *
  clear hst hhead hN hC hj0 hj hlen
  have hx2:(if e2=0 then(1:Int)else e2)≠0:=by split<;>omega
  have BAD:(Gd b fun _ _=>False)->DcA b (li []) 1 [(0,tH b j2 (if e2=0 then 1 else e2))]:=fun h=>⟨[],_,j2,nP.nil,au _,h.mono fun _ _ _ _ h=>h.elim,rfl,rfl,rfl⟩
  refine pW [0] [] (by kernel_rfl) hA rfl (by trivial) (by trivial) rfl ?_
  refine pW [0] [] (by kernel_rfl) hB rfl (by trivial) (by trivial) rfl ?_
  conv=>whnf
  by_cases hw : ¬(0<=w∧w<=64)
  ·have hG:Gd b fun _ _=>False:=key.mono fun l0 r _ _ ⟨_,_,wn,h1,h2,_⟩=>hw (by omega)
   refine lV.to rfl ?_
   refine lV.to rfl ?_
   refine lN.mk (by decide) ?_
   refine lV.to rfl ?_
   (refine mP SH [] (by kernel_rfl) ?_;conv=>whnf)
   apply lK<;>intro h
   ·refine pW [0] [] (by kernel_rfl) (rQ b j2 e2 1) rfl (by trivial) (by trivial) rfl ?_
    exact lX (li []) 1 [(0,tH b j2 (if e2=0 then 1 else e2))] [] [] (BAD hG) rfl (by trivial) (by trivial)
   have h0 : ¬w<0:=by simpa using h
   apply lK<;>intro h
   ·refine pW [0] [] (by kernel_rfl) (rQ b j2 e2 1) rfl (by trivial) (by trivial) rfl ?_
    exact lX (li []) 1 [(0,tH b j2 (if e2=0 then 1 else e2))] [] [] (BAD hG) rfl (by trivial) (by trivial)
   ·exfalso;simp at h;exact hw (by omega)
  have hw:=Classical.not_not.1 hw
  obtain⟨wn,rfl⟩ : ∃wn:Nat,w=(wn:Int):=⟨w.toNat,by omega⟩
  have hw64:wn<=64:=by omega
  have hnw:n*wn<=40000:=by
   have:=jd hn hw64;omega
  have hs8:vZ n wn<=5001:=by unfold vZ;omega
  have hQ:Gd b fun l0 r=>l0.length=n∧e2=0∧Q5 least wn (b.drop j2) l0 r:=key.mono fun l0 r _ _ ⟨q1,q2,w',q3,q4,q5⟩=>⟨q1,q2,by
   have:w'=wn:=by omega
   subst this
   exact q5⟩
  clear key hA hB
  refine lV.to (y:=((n*wn:Nat):Int)) (by rw [<-dN];exact IntWalk.i64_in _ (by omega)) ?_
  refine lV.i64 (by omega) ?_
  refine lN.mk (by decide) ?_
  refine lV.to (y:=((vZ n wn:Nat):Int)) (by
   have e:Int.tdiv (((n*wn:Nat):Int)+7) 8=((vZ n wn:Nat):Int):=rfl
   rw [e];exact IntWalk.i64_in _ (by omega)) ?_
  (refine mP SH [] (by kernel_rfl) ?_;conv=>whnf)
  apply lK<;>intro h
  ·exfalso;simp at h;omega
  apply lK<;>intro h
  ·have he:e2≠0:=by simpa using h
   refine pW [0] [] (by kernel_rfl) (rQ b j2 e2 1) rfl (by trivial) (by trivial) rfl ?_
   exact lX (li []) 1 [(0,tH b j2 (if e2=0 then 1 else e2))] [] [] (BAD (hQ.mono fun l0 r _ _ h=>he h.2.1)) rfl (by trivial) (by trivial)
  have he:e2=0:=by simpa using h
  subst he
  refine lV.to (y:=((b.length-j2:Nat):Int)) (by rw [ah,IntWalk.i64_in _ (by omega)];omega) ?_
  apply lK<;>intro h
  ·have hsz:b.length-j2<vZ n wn:=by simp at h;omega
   refine pW [0] [] (by kernel_rfl) (rQ b j2 0 1) rfl (by trivial) (by trivial) rfl ?_
   exact lX (li []) 1 [(0,tH b j2 (if(0:Int)=0 then 1 else 0))] [] [] (BAD (hQ.mono fun l0 r _ _ h=>by have:=h.2.2.size;rw [aS,h.1]at this;omega)) rfl (by trivial) (by trivial)
  have hsz:vZ n wn<=b.length-j2:=by simp at h;omega
  conv=>whnf
  clear hw BAD hx2
  refine mO aci 2 [5,20] (fun x:BX=> [(5, .own 1),(20,iv x.i)]) (fun x=> [(1, .rows 3 1 (x.out.map qX)),(0,tH b j2 0)]) (fun x=>x.i<=n∧x.out.length=x.i∧nP x.out∧Gd b (fun l0 _=>x.out=l0.take x.i)) (fun x=>n-x.i) [(1, .nil)] [] ⟨0,[]⟩ (by kernel_rfl) (fun _=>rfl) rfl ⟨au _,rfl,nP.nil,fun l0 r _ _ _=>rfl⟩ ⟨rfl,(by trivial),trivial⟩ ⟨trivial,rfl,trivial⟩ ?_
  rintro⟨i,out⟩ ⟨hin,hol,hall,hP⟩
  change i<=n at hin
  change out.length=i at hol
  change nP out at hall
  change Gd b (fun l0 _=>out=l0.take i)at hP
  apply lK<;>intro h
  rotate_left
  ·have:i=n:=by simp at h;omega
   subst this
   refine lV.to (y:=((j2+vZ i wn:Nat):Int)) (by show IntKind.i64.wrap ((j2:Int)+((vZ i wn:Nat):Int))=_;rw [<-fM];exact IntWalk.i64_in _ (by omega)) ?_
   exact lX (li out) 1 [(0,tH b (j2+vZ i wn) 0)] [] [1] ⟨out,0,j2+vZ i wn,hall,by omega,fun l0 r ha hl h=>⟨rfl,by
    have h1:=hP l0 r ha hl h
    have h2:=(hQ l0 r ha hl h).1
    rw [h1, <-h2,aW]⟩,rfl,rfl,rfl⟩ rfl (by trivial) (by trivial)
  have hlt:i<n:=by simp at h;omega
  refine mO acj 2 [21,22] (fun x:NX=> [(21,uv x.u),(22,iv x.i)]) (fun _=> [(1, .rows 3 1 (out.map qX)),(0,tH b j2 0)]) (fun x=>x.i<=wn∧x.u<2^x.i∧Gd b (fun l0 _=>x.u=dif least (l0.getD i 0)%2^x.i)) (fun x=>wn-x.i) [] [] ⟨0,0⟩ (by kernel_rfl) (fun _=>rfl) rfl ⟨au _,Nat.one_pos,fun l0 r _ _ _=>by show 0=_%2^0;rw [Nat.pow_zero,Nat.mod_one]⟩ ⟨⟨rfl,rfl,rfl⟩,(by trivial),trivial⟩ ⟨rfl,rfl,trivial⟩ ?_
  rintro⟨k,d⟩ ⟨hk,hd,hD⟩
  change k<=wn at hk
  change d<2^k at hd
  change Gd b (fun l0 _=>d=dif least (l0.getD i 0)%2^k)at hD
  apply lK<;>intro h
  ·have hkw:k<wn:=by simp at h;omega
   have hat:=UU hlt hkw
   have hmul:i*wn+k<=640000:=by omega
   have hbit:Gd b fun l0 _=> ∃c,(b.drop j2)[(i*wn+k)/8]? = some c∧c.toNat.testBit ((i*wn+k)%8)=(dif least (l0.getD i 0)).testBit k:=hQ.mono fun l0 r _ _ ⟨q1,_,q2⟩=>q2.bit (by omega) hkw
   refine lV.to (y:=((i*wn:Nat):Int)) (by show IntKind.i64.wrap ((i:Int)*(wn:Int))=_;rw [<-dN];exact IntWalk.i64_in _ (by omega)) ?_
   refine lV.to (y:=((i*wn+k:Nat):Int)) (by show IntKind.i64.wrap (((i*wn:Nat):Int)+(k:Int))=_;rw [<-fM];exact IntWalk.i64_in _ (by omega)) ?_
   conv=>whnf
   generalize i*wn+k=p at *
   have EN:j2+p/8<b.length:=by omega
   have Zu:Gd b fun l0 _=>(b[j2+p/8]).toNat.testBit (p%8)=(dif least (l0.getD i 0)).testBit k:=hbit.mono fun l0 r _ _ ⟨c,c1,c2⟩=>by
    rw [dA,aj EN]at c1
    injection c1 with c1
    rw [c1];exact c2
   have Zv:k<64:=by omega
   (refine mP SH [] (by kernel_rfl) ?_;conv=>whnf)
   repeat' (first
    | (refine lV.to (y:=((p/8:Nat):Int)) (by
      have e:Int.tdiv (p:Int) 8=((p/8:Nat):Int):=rfl
      rw [e];exact IntWalk.i64_in _ (by omega)) ?_;conv=>whnf)
    | (refine lV.to (y:=((j2+p/8:Nat):Int)) (by show IntKind.i64.wrap ((j2:Int)+((p/8:Nat):Int))=_;rw [<-fM];exact IntWalk.i64_in _ (by omega)) ?_;conv=>whnf)
    | (refine mZ.mk' (j2+p/8) rfl (pU EN) ?_;conv=>whnf)
    | (refine mD.map EN ?_;conv=>whnf)
    | (refine lN.mk (by decide) ?_;conv=>whnf)
    | (refine lN.mk (by omega) ?_;conv=>whnf)
    | (refine lN.mk (by show (0:Int)<=(k:Int);omega) ?_;conv=>whnf)
    | (refine lV.to (y:=((p%8:Nat):Int)) (sH (n:=p%8) (by omega)) ?_;conv=>whnf)
    | (refine lV.to (y:=((k:Nat):Int)) (sH (n:=k) (by omega)) ?_;conv=>whnf)
    | (refine lV.to (afb b[j2+p/8] (s:=p%8) (iM _ (by decide))) ?_;conv=>whnf))
   generalize b[j2+p/8]=c at *
   have hsh:=afc (c:=if c.toNat.testBit (p%8)=true then 1 else 0) (k:=k) (by split<;>omega) Zv
   refine lV.to hsh.1 ?_
   conv=>whnf
   rw [or_bit hd Zv hsh.2]
   refine lV.i64 (x:=(k:Int)+1) (by omega) ?_
   refine lU ⟨k+1,d+(if c.toNat.testBit (p%8)=true then 1 else 0)*2^k⟩ [] [] rfl (by show wn -(k+1)<wn-k;omega) ⟨hkw, ?_,fun l0 r ha hl hb0=> ?_⟩ ⟨⟨rfl,rfl,rfl⟩,(by trivial),trivial⟩ ⟨rfl,rfl,trivial⟩
   ·show d+(if c.toNat.testBit (p%8)=true then 1 else 0)*2^k<2^(k+1)
    rw [gZ]
    split<;>omega
   ·show d+(if c.toNat.testBit (p%8)=true then 1 else 0)*2^k=dif least (l0.getD i 0)%2^(k+1)
    rw [UN, <-hD l0 r ha hl hb0,Zu l0 r ha hl hb0]
  ·have:k=wn:=by simp at h;omega
   subst this
   refine lV.to rfl ?_
   refine lV.to rfl ?_
   refine lV.to (Zr _ _) ?_
   refine lN.mk (lS (by simp only [ln];omega) (by kernel_rfl)) ?_
   refine lV.i64 (x:=(i:Int)+1) (by omega) ?_
   refine lU ⟨i+1,out++ [wQ (least+(d:Int))]⟩ [(1, .lab 3)] [] rfl (by show n -(i+1)<n-i;omega) ⟨hlt,by show (out++ [wQ (least+(d:Int))]).length=i+1;simp [hol],hall.snoc (Ll _),fun l0 r ha hl hb0=> ?_⟩ ⟨⟨rfl,rfl,(zT out _).symm⟩,(by trivial),trivial⟩ ⟨rfl,rfl,trivial⟩
   show out++ [wQ (least+(d:Int))]=l0.take (i+1)
   have hq:=hQ l0 r ha hl hb0
   have hil:i<l0.length:=by omega
   rw [aG hil, <-hP l0 r ha hl hb0]
   congr 2
   have:=hq.2.2.val ha (i:=i) (x:=l0[i]) (aj hil)
   rw [<-hD l0 r ha hl hb0]at this
   exact this
 refine pW [0] [] (by kernel_rfl) (rQ b j0 e0 1) rfl (by trivial) (by trivial) rfl ?_
 exact lX (li []) 1 [(0,tH b j0 (if e0=0 then 1 else e0))] [] [] ⟨[],_,j0,nP.nil,au _,hhead.mono fun l0 r _ _ ⟨_,k,k1,k2,k3,_⟩=>by
  exfalso
  simp at hk1 hk2 hk3 hk4 hk5
  omega,rfl,rfl,rfl⟩ rfl (by trivial) (by trivial)
section
attribute [local irreducible] num hsh
theorem LJ {α:Type}{a b:List α}{i:Nat}(ha:i<a.length)(hb:i<b.length)(h:a.take i=b.take i)(e:a[i]=b[i]):a.take (i+1)=b.take (i+1):=by
 rw [aG ha,aG hb,h,e]
abbrev fnV (f:Nat):AV:= .v (.func (.func f) #[] #[])
theorem als (G:Glob)(a b:List By)(hl:a.length<=1000000):mQ Tryz.prog G 35 [ss a,ss b,fnV 36] 0 [] (Is (bv (decide (a=b)))):=by
 refine lQ func35 rfl mixed (by kernel_rfl) ?_
 apply lK<;>intro h
 ·have hn:a≠b:=fun e=>by subst e;simp at h
  exact lZ [] (congrArg Value.bool (decide_eq_false hn).symm)
 have hlen:a.length=b.length:=by simp at h;omega
 refine uj agf [17] (fun i:Nat=> [(17,iv i)]) (fun i=>i<=a.length∧a.take i=b.take i) (fun i=>a.length-i) 0 (by kernel_rfl) (fun _=>rfl) (by kernel_rfl) ⟨au _,rfl⟩ (by trivial) (by trivial) ?_
 rintro i ⟨hi,ht⟩
 apply lK<;>intro h
 rotate_left
 ·have hie:i=a.length:=by simp at h;omega
  subst hie
  have hab:a=b:=by rw [aW,hlen,aW]at ht;exact ht
  exact lZ [] (congrArg Value.bool (decide_eq_true hab).symm)
 have hlt:i<a.length:=by simp at h;omega
 have hlt2:i<b.length:=by omega
 refine mZ.mk' i rfl (pU hlt) ?_
 refine mD.lT (aj hlt) ?_
 refine mZ.mk' i rfl (pU hlt2) ?_
 refine mD.lT (aj hlt2) ?_
 (refine mF [] (by kernel_rfl) (Qs G a[i] b[i]) rfl ?_ ?_;(focus trivial))
 apply lK<;>intro h
 ·have hne:a[i]≠b[i]:=by simpa using h
  have hn:a≠b:=fun e=>hne (by subst e;rfl)
  exact lZ [] (congrArg Value.bool (decide_eq_false hn).symm)
 have he:a[i]=b[i]:=by simpa using h
 refine lV.i64 (by omega) ?_
 exact lU (i+1) [] [] rfl (by show a.length -(i+1)<a.length-i;omega) ⟨hlt,LJ hlt hlt2 ht he⟩ (by trivial) ⟨rfl,trivial⟩
theorem Jv (G:Glob)(a b:List By)(hl:a.length<=1000000):mQ Tryz.prog G 12 [ss a,ss b] 0 [] (Is (bv (decide (a=b)))):=by
 refine lQ func12 rfl mixed (by kernel_rfl) ?_
 apply lK<;>intro h
 ·have hn:a≠b:=fun e=>by subst e;simp at h
  exact lZ [] (congrArg Value.bool (decide_eq_false hn).symm)
 have hlen:a.length=b.length:=by simp at h;omega
 refine uj af5 [5] (fun i:Nat=> [(5,iv i)]) (fun i=>i<=a.length∧a.take i=b.take i) (fun i=>a.length-i) 0 (by kernel_rfl) (fun _=>rfl) (by kernel_rfl) ⟨au _,rfl⟩ (by trivial) (by trivial) ?_
 rintro i ⟨hi,ht⟩
 apply lK<;>intro h
 rotate_left
 ·have hie:i=a.length:=by simp at h;omega
  subst hie
  have hab:a=b:=by rw [aW,hlen,aW]at ht;exact ht
  exact lZ [] (congrArg Value.bool (decide_eq_true hab).symm)
 have hlt:i<a.length:=by simp at h;omega
 have hlt2:i<b.length:=by omega
 (refine mP aiJ [] (by kernel_rfl) ?_;conv=>whnf)
 refine mZ.mk' i rfl (pU hlt) ?_
 refine mD.lT (aj hlt) ?_
 refine F7.of ?_
 refine mZ.mk' i rfl (pU hlt2) ?_
 refine mD.lT (aj hlt2) ?_
 refine F7.of ?_
 apply lK<;>intro h
 ·have hne:a[i]≠b[i]:=by rw [qP]at h;simpa using h
  have hn:a≠b:=fun e=>hne (by subst e;rfl)
  exact lZ [] (congrArg Value.bool (decide_eq_false hn).symm)
 have he:a[i]=b[i]:=by rw [qP]at h;simpa using h
 refine lV.i64 (by omega) ?_
 exact lU (i+1) [] [] rfl (by show a.length -(i+1)<a.length-i;omega) ⟨hlt,LJ hlt hlt2 ht he⟩ (by trivial) ⟨rfl,trivial⟩
theorem ajF {u c:Nat}(hu:u<72057594037927936)(hc:c<256):nD .or .u64 ((u*256:Nat):Int) (c:Int)=((u*256+c:Nat):Int):=by
 rw [ND _ _ (by omega) (by omega),show u*256 ||| c=u*256+c from or_hi u 8 c (by omega)]
theorem Dz (G:Glob)(b:By)(hb:b.length<=7):mQ Tryz.prog G 39 [bs b] 0 [] (Is (uv (Lr b))):=by
 refine lQ func39 rfl mixed (by kernel_rfl) ?_
 refine uj agi [3,4] (fun i:Nat=> [(3,uv (Lr (b.take i))),(4,iv i)]) (fun i=>i<=b.length) (fun i=>b.length-i) 0 (by kernel_rfl) (fun _=>rfl) (by kernel_rfl) (au _) (by trivial) (by trivial) ?_
 intro i hi
 apply lK<;>intro h
 rotate_left
 ·have hie:i=b.length:=by simp at h;omega
  subst hie
  rw [aW]
  exact lZ [] rfl
 have hlt:i<b.length:=by simp at h;omega
 have hu:Lr (b.take i)<72057594037927936:=by
  have h1:=NK (b.take i)
  rw [aK,dW hi]at h1
  have h2:256^i<=256^6:=dL (by decide) (by omega)
  have h3:(256:Nat)^6<72057594037927936:=by decide
  omega
 have hs:Lr (b.take (i+1))=Lr (b.take i)*256+b[i].toNat:=by rw [aG hlt,Ja]
 generalize Lr (b.take i)=u at *
 have hc:=b[i].toNat_lt
 refine lN.mk (by decide) ?_
 refine lV.to (y:=((u*256:Nat):Int)) ?_ ?_
 ·have:(2:Int)^min (Int.toNat 8) IntKind.u64.bits=256:=rfl
  rw [this,IntWalk.u64_in _ (by omega)];omega
 refine mZ.mk' i rfl (pU hlt) ?_
 refine mD.map hlt ?_
 refine lV.to (y:=((b[i].toNat:Nat):Int)) (IntWalk.u64_in _ (by omega)) ?_
 refine lV.i64 (by omega) ?_
 exact lU (i+1) [] [] rfl (by show b.length -(i+1)<b.length-i;omega) hlt (by trivial) ⟨congrArg (Value.int .u64) (by rw [ajF hu (by omega),hs]),rfl,trivial⟩
theorem ahK (b:By)(n:Nat)(hn:n<=3000000):mQ Tryz.prog GC 72 [.ptr 0 0,iv n] 1 [(0,vw b 0)] (fun a m H=>a=bs (if n<=b.length then b.take n else [])∧m=1∧H = [(0,vw (if n<=b.length then b.drop n else b) (if n<=b.length then 0 else 16))]):=by
 refine lQ func72 rfl mixed (by kernel_rfl) ?_
 apply lK<;>intro h
 ·have hl : ¬n<=b.length:=by simp at h;omega
  simp only [hl,if_false]
  exact lX (bs []) 1 [(0,vw b 16)] [] [] ⟨rfl,rfl,rfl⟩ rfl (by trivial) (by trivial)
 have hl:n<=b.length:=by simp at h;omega
 simp only [hl,if_true]
 refine lN.mk ⟨je _,by rw [ah];omega⟩ ?_
 refine sN.mk' 0 n rfl rfl (au _) (by rw [ah];exact hl) ?_
 refine sN.mk' n b.length rfl (by rw [ah]) hl (by rw [ah];exact aA _) ?_
 exact lX (bs (b.take n)) 1 [(0,vw (b.drop n) 0)] [] [] ⟨rfl,rfl,rfl⟩ rfl ⟨⟨rfl,⟨rfl,bI.symm⟩,rfl,trivial⟩,trivial⟩ ⟨rfl,dU.symm⟩
def TxL (b:By)(a:AV)(n:Nat)(H:lM):Prop:= ∃t b' e',a=tv t∧t.length<=b.length∧(∀l r,I64 (l.length:Int)->b=dat l++r->t=l)∧n=1∧H = [(0,vw b' e')]
theorem ahL (b:By)(hb:b.length<=3000000):mQ Tryz.prog GC 34 [.ptr 0 0,iv (b.length:Nat)] 1 [(0,vw b 0)] (TxL b):=by
 have hL:=NV b 0 (b.length:Nat) 4 hb (by decide) (by omega)
 have hr:=rW b 0 (b.length:Nat) 4 (by omega) (by decide)
 have hg : ∀l r,I64 (l.length:Int)->b=dat l++r->qg b 0 (b.length:Nat) 4=((l.length:Int),(num (l.length:Int)).length,0):=fun l r hl e=>by
  have h1:=rV hl (l++r)
  rw [<-aH]at h1
  have e2:b=num (l.length:Int)++l++r:=e
  rw [<-e2]at h1
  have hle:l.length<=b.length:=by rw [e2];simp;omega
  have q1 : ¬((l.length:Int)<0):=by omega
  have q2 : ¬(((b.length:Nat):Int)<(l.length:Int)):=by omega
  rw [sZ,h1]
  simp only [if_true,q1,q2,if_false]
 have hz:(qg b 0 (b.length:Nat) 4).2.2≠0->(qg b 0 (b.length:Nat) 4).1=0:=fun h=>by rw [sZ]at h ⊢;simp only at h ⊢;rw [if_neg h]
 generalize qg b 0 (b.length:Nat) 4=c at *
 obtain⟨x,k,e'⟩:=c
 simp only at hL hr hz
 obtain⟨n,rfl⟩ : ∃n:Nat,x=(n:Int):=⟨x.toNat,by omega⟩
 have hn:n<=b.length:=by omega
 by_cases he:e'=0
 ·subst he
  have hT:=ahK (b.drop k) n (by omega)
  by_cases h:n<=(b.drop k).length
  ·simp only [h,if_true]at hT
   refine lQ func34 rfl mixed (by kernel_rfl) ?_
   refine pW [0] [] (by kernel_rfl) hL rfl (by trivial) (by trivial) rfl ?_
   refine pW [0] [] (by kernel_rfl) hT rfl (by trivial) (by trivial) rfl ?_
   refine F7.of ?_
   refine lX (tv ((b.drop k).take n)) 1 [(0,vw ((b.drop k).drop n) 0)] [] [] ⟨_,_,_,rfl, ?_, ?_,rfl,rfl⟩ rfl (by trivial) (by trivial)
   ·rw [aK];omega
   ·intro l r hl e
    have:=hg l r hl e
    injection this with q1 q2
    injection q2 with q2 q3
    have q1:n=l.length:=by omega
    have e2:b=num (l.length:Int)++(l++r):=by rw [<-aH];exact e
    rw [e2,q2,eY rfl,q1,dZ rfl]
  ·simp only [h,if_false]at hT
   refine lQ func34 rfl mixed (by kernel_rfl) ?_
   refine pW [0] [] (by kernel_rfl) hL rfl (by trivial) (by trivial) rfl ?_
   refine pW [0] [] (by kernel_rfl) hT rfl (by trivial) (by trivial) rfl ?_
   refine F7.of (s:= []) ?_
   refine lX (tv []) 1 [(0,vw (b.drop k) 16)] [] [] ⟨_,_,_,rfl,au _, ?_,rfl,rfl⟩ rfl (by trivial) (by trivial)
   intro l r hl e
   exfalso
   have:=hg l r hl e
   injection this with q1 q2
   injection q2 with q2 q3
   have q1:n=l.length:=by omega
   have e2:b=num (l.length:Int)++(l++r):=by rw [<-aH];exact e
   rw [e2,q2,eY rfl,q1]at h
   simp at h
 ·have h0:=hz he
  have hn0:n=0:=by omega
  subst hn0
  refine lQ func34 rfl mixed (by kernel_rfl) ?_
  refine pW [0] [] (by kernel_rfl) hL rfl (by trivial) (by trivial) rfl ?_
  refine pW [0] [] (by kernel_rfl) (ZO (b.drop k) e' he) rfl (by trivial) (by trivial) rfl ?_
  refine F7.of (s:= []) ?_
  refine lX (tv []) 1 [(0,vw (b.drop k) e')] [] [] ⟨_,_,_,rfl,au _, ?_,rfl,rfl⟩ rfl (by trivial) (by trivial)
  intro l r hl e
  exfalso
  have:=hg l r hl e
  injection this with q1 q2
  injection q2 with q2 q3
  exact he q3
end
section
attribute [local irreducible] num hsh AU wo
def dtA (l:List By)(i:Nat):By:=(l.take i).flatMap (·.drop 16)
theorem Jw {l:List By}{i:Nat}(h:i<l.length):dtA l (i+1)=dtA l i++l[i].drop 16:=by
 unfold dtA;rw [aG h,iZ,kT]
theorem Vd {l:List By} : ∀ {i:Nat},i<=l.length->(∀s∈l.take i,s.length=64)->(dtA l i).length=48*i:=by
 intro i
 induction i with
 | zero=>intro _ _;rfl
 | succ i ih=>
  intro h hs
  have hi:i<l.length:=by omega
  rw [aG hi]at hs
  rw [Jw hi,ak,ih (by omega) fun s h=>hs s (List.mem_append_left _ h),aS,hs l[i] (List.mem_append_right _ (bF.2 rfl))]
  omega
theorem Ve (l:List By):dtA l l.length=l.flatMap (·.drop 16):=by unfold dtA;rw [aW]
noncomputable def Qz (l:List By):AV:= .nN [iv (AU l).1,iv (AU l).2.1,bs (AU l).2.2.1,bv (AU l).2.2.2]
theorem tX {l:List By}(h : ∀g f b, ¬EL l g f b):Qz l = .nN [iv 0,iv 0,bs [],bv false]:=by unfold Qz;rw [Y2 h]
theorem Vf {l:List By}{g f:Nat}{b:By}(h:EL l g f b):Qz l = .nN [iv g,iv f,bs b,bv true]:=by unfold Qz;rw [Y1 h]
theorem EL.afl {l:List By}{g f:Nat}{b:By}(h:EL l g f b){s:By}(hs:s∈l):s.length=64:=by
 rw [h.2]at hs;exact Qg hs
theorem EL.ahM {l:List By}{g f:Nat}{b:By}(h:EL l g f b):b.length<=12240:=by
 have h3:=h.len.2.2
 unfold nS dat at h3
 rw [ak]at h3
 omega
theorem QA {l:List By}{g f:Nat}{b:By}(hr : ∀g' f' b',EL l g' f' b'->g'=g∧f'=f)(ht : ∀c r,I64 (c.length:Int)->l.flatMap (·.drop 16)=dat c++r->b=c) :
  (uz g f b=0∧secs g f b=l->EL l g f b)∧(¬(uz g f b=0∧secs g f b=l)->∀g' f' b', ¬EL l g' f' b'):=by
 refine⟨fun⟨h1,h2⟩=>⟨h1,h2.symm⟩,fun hn g' f' b' h=>hn ?_⟩
 obtain⟨rfl,rfl⟩:=hr _ _ _ h
 have hl:=h.ahM
 have e:b=b':=ht b' (List.replicate (nS b'*48 -(dat b').length) 0) (nJ (by omega)) (by rw [h.2,Ar];rfl)
 subst e
 exact⟨h.1,h.2.symm⟩
theorem ahN (G:Glob)(l:List By)(hl:l.length<=1000):mQ Tryz.prog G 13 [ss l] 0 [] (Is (Qz l)):=by
 refine lQ func13 rfl mixed (by kernel_rfl) ?_
 apply lK<;>intro h
 ·have h0:l.length=0:=by simp at h;exact congrArg List.length h
  rw [tX fun g f b hx=>by have:=hx.len;omega]
  exact lZ [] (by trivial)
 have h0:0<l.length:=by simp at h;exact dX.2 h
 refine mZ.mk' 0 rfl (pU h0) ?_
 refine mD.lT (aj h0) ?_
 refine nO [] (by kernel_rfl) (TA G l[0]) (by trivial) ?_
 rintro _ _ _ ⟨rfl,rfl,g,f,ix,m,rfl,hrd⟩
 apply lK<;>intro h
 ·have hno:wo l[0]=false:=by simpa using h
  rw [tX fun g f b hx=>by have:=(hx.at h0).2.1;rw [hno]at this;cases this]
  exact lZ [] (by trivial)
 have hok:wo l[0]=true:=by simpa using h
 obtain⟨rfl,rfl,rfl,rfl⟩:=hrd hok
 refine mO af6 2 [7,26] (fun i:Nat=> [(7, .own 1),(26,iv i)]) (fun i=> [(1, .rows 5 1 ((dtA l i).map oh)),(0, .var 59 [iv (hG l[0]),iv (hF l[0]),iv (hI l[0]),iv (hN l[0])])]) (fun i=>i<=l.length∧∀s∈l.take i,s.length=64) (fun i=>l.length-i) [(1, .nil)] [] 0 (by kernel_rfl) (fun _=>rfl) rfl ⟨au _,fun s hs=>by simp at hs⟩ (by trivial) (by trivial) ?_
 rintro i ⟨hi,h64⟩
 have hdl:=Vd hi h64
 apply lK<;>intro h
 ·have hlt:i<l.length:=by simp at h;omega
  refine mZ.mk' i rfl (pU hlt) ?_
  refine mD.lT (aj hlt) ?_
  apply lK<;>intro h
  ·have hne:l[i].length≠64:=by simp at h;omega
   rw [tX fun g f b hx=>hne (hx.afl (aT hlt))]
   exact lZ [] (by trivial)
  have h6:l[i].length=64:=by simp at h;omega
  refine sN.mk' 16 l[i].length rfl (by rw [ah]) (by omega) (by rw [ah];exact aA _) ?_
  refine lN.mk (lS (by simp only [cut,ah,aS];omega) (by kernel_rfl)) ?_
  refine lV.i64 (by omega) ?_
  refine lU (i+1) [(1, .lab 2)] [] rfl (by show l.length -(i+1)<l.length-i;omega) ⟨hlt,fun s hs=> ?_⟩ ⟨⟨rfl,rfl, ?_⟩,(by trivial),trivial⟩ ⟨rfl,rfl,trivial⟩
  ·rw [aG hlt]at hs
   rcases bK.1 hs with h1|h1
   ·exact h64 s h1
   ·rw [bF]at h1;rw [h1];exact h6
  ·rw [Jw hlt,aJ,bI];rfl
 have hie:i=l.length:=by simp at h;omega
 subst hie
 rw [Ve]at hdl ⊢
 refine mY [1] (by kernel_rfl) (mQ.up (NT (l.flatMap (·.drop 16)) (by omega)) G) (by trivial) ?_
 conv=>whnf
 have hT:mQ Tryz.prog G 34 [.ptr 0 0,iv (((l.flatMap (·.drop 16)).map oh).length:Nat)] 1 [(0,vw (l.flatMap (·.drop 16)) 0)] (TxL (l.flatMap (·.drop 16))):=by
  rw [ah];exact mQ.up (ahL (l.flatMap (·.drop 16)) (by omega)) G
 refine nM [2] [] (by kernel_rfl) hT rfl (by trivial) (by trivial) ?_
 rintro _ _ _ ⟨t,b',e',rfl,htl,htd,rfl,rfl⟩
 refine⟨rfl, ?_⟩
 conv=>whnf
 have hgl:=Qu l[0]
 have hfr : ∀g' f' c,EL l g' f' c->g'=hG l[0]∧f'=hF l[0]:=fun g' f' c hx=>by
  have:=hx.at h0
  exact⟨this.2.2.1.symm,this.2.2.2.1.symm⟩
 have hB:=QA (b:=t) hfr htd
 have hS:=Dx G (hG l[0]:Nat) (hF l[0]:Nat) t (by omega)
 refine mY [] (by kernel_rfl) hS (by trivial) ?_
 apply lK<;>intro h
 ·have he:uz (hG l[0]:Nat) (hF l[0]:Nat) t≠0:=by simpa using h
  rw [tX (hB.2 fun hx=>he hx.1)]
  exact lZ [] (by trivial)
 have he:uz (hG l[0]:Nat) (hF l[0]:Nat) t=0:=by simpa using h
 have hLl:zy (hG l[0]:Nat) (hF l[0]:Nat) t=secs (hG l[0]) (hF l[0]) t:=by unfold zy;rw [if_pos he];rfl
 rw [hLl]
 (refine mF [] (by kernel_rfl) (als G (secs (hG l[0]) (hF l[0]) t) l (by rw [yI];have:=(zO he).2.2.2.2;omega)) rfl ?_ ?_;(focus trivial))
 apply lK<;>intro h
 ·have hne : ¬secs (hG l[0]) (hF l[0]) t=l:=by simpa using h
  rw [tX (hB.2 fun hx=>hne hx.2)]
  exact lZ [] (by trivial)
 have heq:secs (hG l[0]) (hF l[0]) t=l:=by simpa using h
 rw [Vf (hB.1 ⟨he,heq⟩)]
 (refine mP aiK [] (by kernel_rfl) ?_;conv=>whnf)
 exact lZ [] (by trivial)
end
abbrev nxZ:Int×Int×Nat×By×Bool:=(0,0,0,[],false)
theorem DC {l:List By}(h0:0<l.length):qp l=if hN l[0]<1∨l.length<hN l[0]then nxZ else if(AU (l.take (hN l[0]))).2.2.2 then((AU (l.take (hN l[0]))).1,(AU (l.take (hN l[0]))).2.1,hN l[0],(AU (l.take (hN l[0]))).2.2.1,true)else nxZ:=by
 cases l with
 | nil=>cases h0
 | cons s r=>rfl
theorem GV:qp []=nxZ:=rfl
theorem Vg {l:List By}(h0:0<l.length)(h:wo l[0]=false):qp l=nxZ:=by
 rw [DC h0]
 split
 ·rfl
 ·rename_i hn
  rcases Au (l.take (hN l[0]))with ⟨g,f,b,hx,e⟩|⟨_,e⟩
  ·have hp:0<(l.take (hN l[0])).length:=by rw [aK];omega
   have h1:=(hx.at hp).2.1
   rw [jm]at h1
   rw [h]at h1;cases h1
  ·rw [e];rfl
theorem aae {l:List By}(h0:0<l.length)(h:l.length<hN l[0]):qp l=nxZ:=by
 rw [DC h0,if_pos (.inr h)]
theorem aei {s:By}(h:wo s=true):0<hN s∧s.length=64:=by
 unfold wo at h
 simp only [aB,decide_eq_true_eq]at h
 omega
theorem aej {l:List By}(h0:0<l.length)(h:wo l[0]=true)(hl:hN l[0]<=l.length):qp l=if(AU (l.take (hN l[0]))).2.2.2 then((AU (l.take (hN l[0]))).1,(AU (l.take (hN l[0]))).2.1,hN l[0],(AU (l.take (hN l[0]))).2.2.1,true)else nxZ:=by
 have:=(aei h).1
 rw [DC h0,if_neg (by omega)]
theorem BN {l:List By}(h:(qp l).2.2.2.2=true) : ∃g f b,EL (l.take (qp l).2.2.1) g f b∧qp l=(((g:Nat):Int),((f:Nat):Int),nS b,b,true)∧nS b<=l.length∧0<nS b:=by
 have h0:0<l.length:=by
  cases l with
  | nil=>cases h
  | cons s r=>simp
 rw [DC h0]at h ⊢
 split at h
 ·cases h
 ·rename_i hn
  rw [if_neg hn]
  rcases Au (l.take (hN l[0]))with ⟨g,f,b,hx,e⟩|⟨_,e⟩
  ·rw [e]at h ⊢
   have hl:=hx.len
   rw [aK]at hl
   have e2:hN l[0]=nS b:=by omega
   simp only [if_true]
   exact⟨g,f,b,hx,by rw [e2],by omega,hl.2.1⟩
  ·rw [e]at h;cases h
theorem aaf (g:Int) : ∀(m m':Nat) (l:List By) (k:Nat),l.length<=m->l.length<=m'->lgF g m l k=lgF g m' l k:=by
 intro m
 induction m with
 | zero=>
  intro m' l k h1 h2
  have:l = []:=aI (by omega)
  subst this
  cases m' with
  | zero=>rfl
  | succ m'=>simp [lgF,GV]
 | succ m ih=>
  intro m' l k h1 h2
  cases m' with
  | zero=>
   have:l = []:=aI (by omega)
   subst this
   simp [lgF,GV]
  | succ m'=>
   unfold lgF
   split
   ·rename_i hc
    obtain⟨g',f,b,_,e,h3,h4⟩:=BN hc.1
    rw [e]
    simp only
    rw [ih m' _ _ (by rw [aS];omega) (by rw [aS];omega)]
   ·rfl
noncomputable def lg (g:Int)(l:List By)(k:Nat):List By:=lgF g l.length l k
theorem Ob {g:Int}{l:List By}{k:Nat}(h : ¬((qp l).2.2.2.2=true∧(qp l).1=g∧(qp l).2.1=(k:Int))):lg g l k = []:=by
 unfold lg
 cases hl:l.length with
 | zero=>rfl
 | succ m=>unfold lgF;rw [if_neg h]
theorem Vh {g:Int}{l:List By}{k:Nat}(h:(qp l).2.2.2.2=true∧(qp l).1=g∧(qp l).2.1=(k:Int)):lg g l k=(qp l).2.2.2.1::lg g (l.drop (qp l).2.2.1) (k+1):=by
 obtain⟨g',f,b,_,e,h3,h4⟩:=BN h.1
 unfold lg
 cases hl:l.length with
 | zero=>omega
 | succ m=>
  conv=>lhs;unfold lgF
  rw [if_pos h]
  congr 1
  exact aaf g _ _ _ _ (by rw [aS,e];simp only;omega) (aA _)
theorem aag {g:Int} : ∀ {m:Nat} {l:List By} {k:Nat},l.length<=m->(lg g l k).length<=l.length∧∀b∈lg g l k,b.length<=12240:=by
 intro m
 induction m with
 | zero=>
  intro l k h
  have:l = []:=aI (by omega)
  subst this
  exact⟨aA _,fun b hb=>by cases hb⟩
 | succ m ih=>
  intro l k h
  by_cases hc:(qp l).2.2.2.2=true∧(qp l).1=g∧(qp l).2.1=(k:Int)
  ·rw [Vh hc]
   obtain⟨g',f,b,hx,e,h3,h4⟩:=BN hc.1
   have hi:=ih (l:=l.drop (qp l).2.2.1) (k:=k+1) (by rw [aS,e];simp only;omega)
   have hdl:(l.drop (qp l).2.2.1).length+1<=l.length:=by rw [aS,e];simp only;omega
   refine⟨by rw [bC];omega,fun c hcm=> ?_⟩
   rcases bD.1 hcm with rfl|hcm
   ·rw [e];exact hx.ahM
   ·exact hi.2 c hcm
  ·rw [Ob hc]
   exact⟨au _,fun b hb=>by cases hb⟩
theorem GY (l:List By):FW l=((qp l).2.2.2.2&&decide ((qp l).2.1=0)):=rfl
noncomputable def Oc (l:List By):Int:=if FW l then(qp l).1 else 0
noncomputable def FX (l:List By):List By:=if FW l then lg (qp l).1 l 0 else []
abbrev dkC (d:Dk):List AV:= [ss d.now,ss d.safe,iv d.fuse,iv d.ops,bv d.dead]
abbrev uY (d:Dk):AV:= .agg (dkC d)
def ahO:List FV:= [.v (.slice none 0 0)]
theorem DF (G:Glob)(b:By)(h0:b≠ [])(hl:b.length<=1000000):mQ Tryz.prog G 76 [bs b] 0 [] (sW 5 1 (b.map oh)):=by
 have h0:0<b.length:=dX.2 h0
 refine lQ func76 rfl mixed (by kernel_rfl) ?_
 refine⟨fun b hb=> ?_⟩
 rw [hb (pU h0)]
 refine lN.mk (lS (by simp only [ln];omega) (by kernel_rfl)) ?_
 exact lX (.own 0) 1 _ [(0, .lab 1)] [] ⟨rfl,rfl,rfl⟩ rfl (by trivial) (by trivial)
def Xj (l:List By)(i:Nat):List (List FV):=(l.take i).map FB++List.replicate (l.length-i) ahO
theorem aah (l:List By):Xj l 0=List.replicate l.length ahO:=by simp [Xj]
theorem aek (l:List By):Xj l l.length=l.map FB:=by simp [Xj]
theorem ael {l:List By}{i:Nat}(h:i<=l.length):(Xj l i).length=l.length:=by simp [Xj];omega
theorem ahP {l:List By}{i:Nat}(h:i<l.length):(Xj l i)[i]? = some ahO:=by
 unfold Xj
 rw [dG (by simp;omega)]
 simp only [ln]
 rw [dW (by omega),gQ,kP,if_pos (by omega)]
theorem aem {l:List By}{i:Nat}(h:i<l.length):(Xj l i).set i (FB l[i])=Xj l (i+1):=by
 unfold Xj
 rw [iH _ _ (by simp;omega)]
 simp only [ln]
 rw [dW (by omega),gQ,show l.length-i=(l.length -(i+1))+1 by omega,gu,List.set_cons_zero,aG h,aJ,aH]
 rfl
theorem GZ (G:Glob)(l:List By)(h64:U7 l)(hl:l.length<=1000):mQ Tryz.prog G 127 [ss l] 0 [] (sW 22 1 (l.map FB)):=by
 refine lQ func127 rfl mixed (by kernel_rfl) ?_
 refine KG.mk' l.length (by rw [ah]) (by rw [ah]) ⟨by show 24*l.length<=_;omega,by unfold maxLen;omega⟩ ?_
 refine mO abG 1 [11] (fun i:Nat=> [(11,iv i)]) (fun i=> [(0, .rows 22 1 (Xj l i))]) (fun i=>i<=l.length) (fun i=>l.length-i) [] [] 0 (by kernel_rfl) (fun _=>rfl) rfl (au _) ⟨⟨rfl,rfl,(aah l).symm⟩,trivial⟩ ⟨rfl,trivial⟩ ?_
 intro i hi
 apply lK<;>intro h
 rotate_left
 ·have hie:i=l.length:=by simp at h;omega
  subst hie
  rw [aek]
  exact lX (.own 0) 1 _ [(0, .lab 0)] [] ⟨rfl,rfl,rfl⟩ rfl (by trivial) (by trivial)
 have hlt:i<l.length:=by simp at h;omega
 have h6:=h64 l[i] (aT hlt)
 refine mZ.mk' i rfl (pU hlt) ?_
 refine mD.lT (aj hlt) ?_
 refine mY [] (by kernel_rfl) (DF G l[i] (fun e=>by rw [e]at h6;cases h6) (by omega)) (by trivial) ?_
 refine mZ.mk' i rfl (by rw [ael hi];exact hlt) ?_
 refine mD.at (ahP hlt) ?_
 refine lV.i64 (by omega) ?_
 exact lU (i+1) [] [] rfl (by show l.length -(i+1)<l.length-i;omega) hlt ⟨⟨rfl,rfl,aem hlt⟩,trivial⟩ ⟨rfl,trivial⟩
theorem ahQ (G:Glob)(b:By):mQ Tryz.prog G 116 [bs b] 0 [] (Is (bv (decide (b.length≠64)))):=by
 refine lQ func116 rfl mixed (by kernel_rfl) ?_
 refine lZ [] (congrArg Value.bool ?_)
 rw [ah]
 by_cases h:b.length=64
 ·simp [h]
 ·simp [h];omega
theorem aen (G:Glob)(l:List By)(h64:U7 l)(hl:l.length<=1000):mQ Tryz.prog G 141 [ss l,fnV 116] 0 [] (Is (iv (-1))):=by
 refine lQ func141 rfl mixed (by kernel_rfl) ?_
 refine uj abU [8] (fun i:Nat=> [(8,iv i)]) (fun i=>i<=l.length) (fun i=>l.length-i) 0 (by kernel_rfl) (fun _=>rfl) (by kernel_rfl) (au _) (by trivial) (by trivial) ?_
 intro i hi
 apply lK<;>intro h
 rotate_left
 ·exact lZ [] rfl
 have hlt:i<l.length:=by simp at h;omega
 have h6:=h64 l[i] (aT hlt)
 have hw:=ahQ G l[i]
 rw [h6]at hw
 refine mZ.mk' i rfl (pU hlt) ?_
 refine mD.lT (aj hlt) ?_
 refine mF [] (by kernel_rfl) hw rfl (by trivial) ?_
 refine lV.i64 (by omega) ?_
 exact lU (i+1) [] [] rfl (by show l.length -(i+1)<l.length-i;omega) hlt (by trivial) ⟨rfl,trivial⟩
theorem Jy (G:Glob)(l:List By)(h64:U7 l)(hl:l.length<=1000):mQ Tryz.prog G 117 [ss l,fnV 116] 0 [] (Is (bv false)):=by
 refine lQ func117 rfl mixed (by kernel_rfl) ?_
 (refine mF [] (by kernel_rfl) (aen G l h64 hl) rfl ?_ ?_;(focus trivial))
 exact lZ [] rfl
theorem WJ (G:Glob)(n:Nat)(h1:n%2=0)(h2:8<=n)(h3:n<=256):mQ Tryz.prog G 115 [iv n] 0 [] (Is (bv true)):=by
 refine lQ func115 rfl mixed (by kernel_rfl) ?_
 conv=>whnf
 have hm:((n:Int)).tmod 2=((n%2:Nat):Int):=rfl
 refine lN.mk (by decide) ?_
 rw [hm,h1]
 apply lK<;>intro h
 rotate_left
 ·exfalso;simp at h;omega
 exact lZ [] (congrArg Value.bool (by simp;omega))
theorem TK (G:Glob)(d:Dk)(h:d.ok):mQ Tryz.prog G 84 [uY d] 0 [] (Is (bv true)):=by
 obtain⟨h1,h2,h3,h4,h5,h6,h7,h8⟩:=h
 have hs:=WJ G d.now.length h1 h2 h3
 have hs:mQ Tryz.prog G 115 [iv ((d.now.map FB).length:Nat)] 0 [] (Is (bv true)):=by rw [ah];exact hs
 refine lQ func84 rfl mixed (by kernel_rfl) ?_
 (refine mF [] (by kernel_rfl) (hs) rfl ?_ ?_;(focus trivial))
 apply lK<;>intro h
 ·exfalso;rw [ah,ah]at h;simp at h;omega
 apply lK<;>intro h
 ·exfalso;simp at h;omega
 apply lK<;>intro h
 ·exfalso;simp at h;omega
 apply lK<;>intro h
 ·exfalso;simp at h;omega
 (refine mF [] (by kernel_rfl) (Jy G d.now h7 (by omega)) rfl ?_ ?_;(focus trivial))
 (refine mF [] (by kernel_rfl) (Jy G d.safe h8 (by omega)) rfl ?_ ?_;(focus trivial))
 exact lZ [] rfl
theorem WL (G:Glob):mQ Tryz.prog G 115 [iv 0] 0 [] (Is (bv false)):=by
 refine lQ func115 rfl mixed (by kernel_rfl) ?_
 refine lN.mk (by decide) ?_
 exact lZ [] rfl
theorem aeo (G:Glob):mQ Tryz.prog G 84 [uY Dk.zero] 0 [] (Is (bv false)):=by
 refine lQ func84 rfl mixed (by kernel_rfl) ?_
 (refine mF [] (by kernel_rfl) (WL G) rfl ?_ ?_;(focus trivial))
 exact lZ [] rfl
def vT (d:Dk):Int:=if d.dead then 40 else 0
theorem TL (G:Glob)(d:Dk)(h:d.ok):mQ Tryz.prog G 75 [uY d] 0 [] (Is (iv (vT d))):=by
 refine lQ func75 rfl mixed (by kernel_rfl) ?_
 (refine mF [] (by kernel_rfl) (TK G d h) rfl ?_ ?_;(focus trivial))
 apply lK<;>intro h
 ·exact lZ [] (Ak (by unfold vT;rw [if_pos h]))
 ·exact lZ [] (Ak (by unfold vT;rw [h];rfl))
theorem ahR (G:Glob)(d:Dk)(h:d.ok):mQ Tryz.prog G 40 [uY d,iv 0] 0 [] (fun a n H=>n=0∧H = []∧∃b,a = .nN [bs b,iv (vT d)]):=by
 have hr:=TL G d h
 have hlo:=h.lo
 have h0:0<d.now.length:=by omega
 have h6:=h.n64 d.now[0] (aT h0)
 unfold vT at hr ⊢
 refine lQ func40 rfl mixed (by kernel_rfl) ?_
 (refine mF [] (by kernel_rfl) (hr) rfl ?_ ?_;(focus trivial))
 conv=>whnf
 cases hd:d.dead with
 | true=>
  simp only [hd,if_true]
  exact lX (.nN [bs [],iv 40]) 0 [] [] [] ⟨rfl,rfl,[],rfl⟩ rfl trivial (by trivial)
 | false=>
  simp only [hd,bf,if_false]
  apply lK<;>intro h
  ·exfalso;simp at h;rw [h]at h0;exact absurd h0 (by decide)
  refine mZ.mk' 0 rfl (pU h0) ?_
  refine mD.lT (aj h0) ?_
  refine mY [] (by kernel_rfl) (DF G d.now[0] (fun e=>by rw [e]at h6;cases h6) (by omega)) (by trivial) ?_
  refine lX (.nN [bs d.now[0],iv 0]) 0 [] [] [1] ⟨rfl,rfl,_,rfl⟩ rfl trivial (by trivial)
def CpD (T:Nat)(d:Dk)(a:AV)(n:Nat)(H:lM):Prop:=a = .agg [.own 0, .own 1,iv d.fuse,iv d.ops,bv d.dead]∧n=2∧H = [(0, .rows T 1 (d.now.map FB)),(1, .rows T 1 (d.safe.map FB))]
theorem QB (G:Glob)(d:Dk)(h:d.ok):mQ Tryz.prog G 159 [uY d] 0 [] (CpD 22 d):=by
 have hhi:=h.hi
 have hsf:=h.sf
 refine lQ func159 rfl mixed (by kernel_rfl) ?_
 (refine mP agM [] (by kernel_rfl) ?_;conv=>whnf)
 refine mY [] (by kernel_rfl) (GZ G d.now h.n64 (by omega)) (by trivial) ?_
 refine mY [] (by kernel_rfl) (GZ G d.safe h.f64 (by omega)) (by trivial) ?_
 exact lX (.agg [.own 0, .own 1,iv d.fuse,iv d.ops,bv d.dead]) 2 _ [(0, .lab 2),(1, .lab 3)] [] ⟨rfl,rfl,rfl⟩ rfl (by trivial) (by trivial)
def dWt (d:Dk)(n:Nat)(b:By):AV:=if d.dead then .nN [uY Dk.zero,iv 40]else if d.fuse=0 then .nN [uY d.dying,iv 40]else .nN [uY (d.put n b),iv 0]
theorem FM {G:Glob}{n n1:Nat}{H1:lM}{a:AV}{K:AV->Nat->lM->Prop}(a':AV)(Z:List Nat)(k:Ax.spine (PN n H1) fun H0=>K a' n H0)(hwf:OA n n [] Z (PN n H1)=true)(hH:QY H1 [] Z n (PN n H1))(hc:co H1 [] Z n a' a):J6 G n K a n1 H1:=
 lX a' n _ [] Z (by rw [Ax.pO]at k;exact k) hwf hH hc
theorem Vj {G:Glob}{n n1:Nat}{H1:lM}{a:AV}{K:AV->Nat->lM->Prop}(hn:n<=n1)(k:K a n1 H1):J6 G n K a n1 H1:=
 ⟨⟨a,n1,H1,k,hn,fun _ _ _ σ' F' _ _ s r=>⟨σ',F',s,r,fun _ _=>rfl,fun _ h=>h⟩⟩⟩
theorem aep (G:Glob)(d:Dk)(h:d.ok)(n:Nat)(hn:n<d.now.length)(b:By)(hb:b.length=64):mQ Tryz.prog G 89 [uY d,iv n,bs b] 0 [] (Is (dWt d n b)):=by
 have hr:=TL G d h
 have hC:=QB G d h
 obtain⟨h1,h2,h3,h4,h5,h6,h7,h8⟩:=h
 obtain⟨now,safe,fuse,ops,dead⟩:=d
 unfold vT at hr
 unfold dWt
 unfold CpD at hC
 simp only at *
 refine lQ func89 rfl mixed (by kernel_rfl) ?_
 (refine mF [] (by kernel_rfl) (hr) rfl ?_ ?_;(focus trivial))
 cases dead with
 | true=>
  simp only [if_true]
  exact lZ [] (by trivial)
 | false=>
  simp only [bf,if_false]at *
  apply lK<;>intro h
  ·exfalso;rw [ah]at h;simp at h;omega
  apply lK<;>intro h
  ·exfalso;rw [ah,hb]at h;simp at h
  (refine pR (by kernel_rfl) (lQ func124 rfl mixed (by kernel_rfl) ?_);(conv=>whnf))
  refine mY [] (by kernel_rfl) hC (by trivial) ?_
  apply lK<;>intro h
  ·have hf:fuse=0:=by simpa using h
   rw [if_pos hf]
   refine FM (.nN [uY (Dk.dying ⟨now,safe,fuse,ops,false⟩),iv 40]) [6,7] ?_ rfl ?_ ?_
   rotate_left
   ·trivial
   ·trivial
   exact lZ [] (by trivial)
  have hf:fuse≠0:=by simpa using h
  rw [if_neg hf]
  apply lK<;>intro h
  ·refine lV.i64 (by omega) ?_
   (refine pR (by kernel_rfl) (lQ func125 rfl mixed (by kernel_rfl) ?_);(conv=>whnf))
   (refine mP Yn [] (by kernel_rfl) ?_;conv=>whnf)
   refine mY [] (by kernel_rfl) (DF G b (fun e=>by rw [e]at hb;cases hb) (by omega)) (by trivial) ?_
   refine mZ.mk' n rfl (pU hn) ?_
   refine mD.lT (aj hn) ?_
   refine FM (.nN []) [] ?_ rfl ?_ ?_
   rotate_left
   ·trivial
   ·trivial
   refine lV.i64 (by omega) ?_
   refine FM (.nN [uY (Dk.put ⟨now,safe,fuse,ops,false⟩ n b),iv 0]) [6,7] ?_ rfl ?_ ?_
   rotate_left
   ·trivial
   ·exact⟨⟨⟨rfl,rfl,bT.symm⟩,⟨rfl,rfl,rfl⟩,Ak (by simp at h;show (fuse-1)=if 0<fuse then fuse-1 else fuse;split<;>omega),rfl,rfl,trivial⟩,rfl,trivial⟩
   exact lZ [] (by trivial)
  ·(refine pR (by kernel_rfl) (lQ func125 rfl mixed (by kernel_rfl) ?_);(conv=>whnf))
   (refine mP Yn [] (by kernel_rfl) ?_;conv=>whnf)
   refine mY [] (by kernel_rfl) (DF G b (fun e=>by rw [e]at hb;cases hb) (by omega)) (by trivial) ?_
   refine mZ.mk' n rfl (pU hn) ?_
   refine mD.lT (aj hn) ?_
   refine FM (.nN []) [] ?_ rfl ?_ ?_
   rotate_left
   ·trivial
   ·trivial
   refine lV.i64 (by omega) ?_
   refine FM (.nN [uY (Dk.put ⟨now,safe,fuse,ops,false⟩ n b),iv 0]) [6,7] ?_ rfl ?_ ?_
   rotate_left
   ·trivial
   ·exact⟨⟨⟨rfl,rfl,bT.symm⟩,⟨rfl,rfl,rfl⟩,Ak (by simp at h;show fuse=if 0<fuse then fuse-1 else fuse;split<;>omega),rfl,rfl,trivial⟩,rfl,trivial⟩
   exact lZ [] (by trivial)
def dFl (d:Dk):AV:=if d.dead then .nN [uY Dk.zero,iv 40]else if d.fuse=0 then .nN [uY d.dying,iv 40]else .nN [uY d.flush,iv 0]
theorem aer (G:Glob)(d:Dk)(h:d.ok):mQ Tryz.prog G 91 [uY d] 0 [] (Is (dFl d)):=by
 have hr:=TL G d h
 have hC:=QB G d h
 obtain⟨h1,h2,h3,h4,h5,h6,h7,h8⟩:=h
 obtain⟨now,safe,fuse,ops,dead⟩:=d
 unfold vT at hr
 unfold dFl
 unfold CpD at hC
 simp only at *
 refine lQ func91 rfl mixed (by kernel_rfl) ?_
 (refine mF [] (by kernel_rfl) (hr) rfl ?_ ?_;(focus trivial))
 cases dead with
 | true=>
  simp only [if_true]
  exact lZ [] (by trivial)
 | false=>
  simp only [bf,if_false]at *
  (refine pR (by kernel_rfl) (lQ func124 rfl mixed (by kernel_rfl) ?_);(conv=>whnf))
  refine mY [] (by kernel_rfl) hC (by trivial) ?_
  apply lK<;>intro h
  ·have hf:fuse=0:=by simpa using h
   rw [if_pos hf]
   refine FM (.nN [uY (Dk.dying ⟨now,safe,fuse,ops,false⟩),iv 40]) [4,5] ?_ rfl ?_ ?_
   rotate_left
   ·trivial
   ·trivial
   exact lZ [] (by trivial)
  have hf:fuse≠0:=by simpa using h
  rw [if_neg hf]
  apply lK<;>intro h
  ·refine lV.i64 (by omega) ?_
   (refine pR (by kernel_rfl) (lQ func126 rfl mixed (by kernel_rfl) ?_);(conv=>whnf))
   refine mY [4] (by kernel_rfl) (GZ G now h7 (by omega)) (by trivial) ?_
   refine Vj (by decide) ?_
   refine lV.i64 (by omega) ?_
   refine FM (.nN [uY (Dk.flush ⟨now,safe,fuse,ops,false⟩),iv 0]) [7] ?_ rfl ?_ ?_
   rotate_left
   ·trivial
   ·exact⟨⟨⟨rfl,rfl⟩,⟨rfl,rfl,rfl⟩,Ak (by simp at h;show (fuse-1)=if 0<fuse then fuse-1 else fuse;split<;>omega),rfl,rfl,trivial⟩,rfl,trivial⟩
   exact lZ [] (by trivial)
  ·(refine pR (by kernel_rfl) (lQ func126 rfl mixed (by kernel_rfl) ?_);(conv=>whnf))
   refine mY [4] (by kernel_rfl) (GZ G now h7 (by omega)) (by trivial) ?_
   refine Vj (by decide) ?_
   refine lV.i64 (by omega) ?_
   refine FM (.nN [uY (Dk.flush ⟨now,safe,fuse,ops,false⟩),iv 0]) [7] ?_ rfl ?_ ?_
   rotate_left
   ·trivial
   ·exact⟨⟨⟨rfl,rfl⟩,⟨rfl,rfl,rfl⟩,Ak (by simp at h;show fuse=if 0<fuse then fuse-1 else fuse;split<;>omega),rfl,rfl,trivial⟩,rfl,trivial⟩
   exact lZ [] (by trivial)
abbrev Jz (s:So):List AV:=dkC s.d++ [iv s.gen,iv s.half,iv s.next,iv s.frame,el s.ev]
abbrev stA (s:So):AV:= .agg (Jz s)
theorem aai {l:List By}{i:Nat}(h:i<l.length):(l.take (i+1)).map FB=(l.take i).map FB++ [[.lst 1 (l[i].map oh)]]:=by
 rw [aG h,aJ];rfl
theorem QC (G:Glob)(l:List By)(h64:U7 l)(hl:l.length<=1000):mQ Tryz.prog G 77 [ss l] 0 [] (Is (ss l)):=by
 refine lQ func77 rfl mixed (by kernel_rfl) ?_
 refine mO agB 1 [3,8] (fun i:Nat=> [(3, .own 0),(8,iv i)]) (fun i=> [(0, .rows 22 1 ((l.take i).map FB))]) (fun i=>i<=l.length) (fun i=>l.length-i) [(0, .nil)] [] 0 (by kernel_rfl) (fun _=>rfl) rfl (au _) (by trivial) (by trivial) ?_
 intro i hi
 apply lK<;>intro h
 rotate_left
 ·have hie:i=l.length:=by simp at h;omega
  subst hie
  rw [aW]
  exact lZ [0] (by trivial)
 have hlt:i<l.length:=by simp at h;omega
 have h6:=h64 l[i] (aT hlt)
 refine mZ.mk' i rfl (pU hlt) ?_
 refine mD.lT (aj hlt) ?_
 refine mY [] (by kernel_rfl) (DF G l[i] (fun e=>by rw [e]at h6;cases h6) (by omega)) (by trivial) ?_
 refine lN.mk (lS (by simp only [ln];omega) (by kernel_rfl)) ?_
 refine lV.i64 (by omega) ?_
 exact lU (i+1) [(0, .lab 3)] [] rfl (by show l.length -(i+1)<l.length-i;omega) hlt ⟨⟨rfl,rfl,(aai hlt).symm⟩,trivial⟩ ⟨rfl,rfl,trivial⟩
theorem JA (G:Glob)(d:Dk)(h:d.ok):mQ Tryz.prog G 42 [uY d] 0 [] (Is (uY d)):=by
 have hhi:=h.hi
 have hsf:=h.sf
 refine lQ func42 rfl mixed (by kernel_rfl) ?_
 (refine mP aiN [] (by kernel_rfl) ?_;conv=>whnf)
 repeat' (first
  | (refine nO [] (by kernel_rfl) (QC G d.now h.n64 (by omega)) ?_ ?_;(focus (trivial;done));rintro _ _ _ ⟨rfl,rfl,rfl⟩;conv=>whnf)
  | (refine nO [] (by kernel_rfl) (QC G d.safe h.f64 (by omega)) ?_ ?_;(focus (trivial;done));rintro _ _ _ ⟨rfl,rfl,rfl⟩;conv=>whnf))
 exact lZ [] (by trivial)
theorem leftA (G:Glob)(d d':Dk)(h:d'.ok):mQ Tryz.prog G 90 [uY d,uY d'] 0 [] (Is (uY d')):=by
 refine lQ func90 rfl mixed (by kernel_rfl) ?_
 (refine mF [] (by kernel_rfl) (TK G d' h) rfl ?_ ?_;(focus trivial))
 exact lZ [] (by trivial)
theorem aaj (G:Glob)(d:Dk)(h:d.ok):mQ Tryz.prog G 90 [uY d,uY Dk.zero] 0 [] (Is (uY d)):=by
 refine lQ func90 rfl mixed (by kernel_rfl) ?_
 (refine mF [] (by kernel_rfl) (aeo G) rfl ?_ ?_;(focus trivial))
 refine mY [] (by kernel_rfl) (JA G d h) (by trivial) ?_
 exact lZ [] (by trivial)
theorem TM (G:Glob)(d:Dk):mQ Tryz.prog G 41 [uY d,iv 40] 0 [] (Is (.nN [stA (So.Jt d),iv 40])):=by
 refine lQ func41 rfl mixed (by kernel_rfl) ?_
 exact lZ [] (by trivial)
structure WS where
 d:Dk
 i:Nat
theorem Vk (G:Glob)(d:Dk)(h:d.ok)(at_:Nat)(l:List By)(h64:U7 l)(hat:at_+l.length<=d.now.length):mQ Tryz.prog G 59 [uY d,iv at_,ss l] 0 [] (Is (.nN [uY (yN d at_ l).1,iv (yN d at_ l).2])):=by
 have hhi:=h.hi
 refine lQ func59 rfl mixed (by kernel_rfl) ?_
 refine mO agt 2 [16] (fun x:WS=> [(16,iv x.i)]) (fun x=> [(0, .var 40 (dkC x.d)),(1, .var 40 [.v (.slice none 0 0), .v (.slice none 0 0),iv 0,iv 0,bv false])]) (fun x=>x.i<=l.length∧x.d.ok∧x.d.now.length=d.now.length∧yN d at_ l=yN x.d (at_+x.i) (l.drop x.i)) (fun x=>l.length-x.i) [] [] ⟨d,0⟩ (by kernel_rfl) (fun _=>rfl) rfl ⟨au _,h,rfl,rfl⟩ (by trivial) (by trivial) ?_
 rintro⟨d1,i⟩ ⟨hi,hok,hlen,hw⟩
 dsimp only at hi hok hlen hw
 rw [hw]
 apply lK<;>intro h
 ·have hlt:i<l.length:=by simp at h;omega
  have h6:=h64 l[i] (aT hlt)
  have hstep:yN d1 (at_+i) (l.drop i)=if d1.dead then(d1,40)else if d1.fuse=0 then(d1.dying,40)else yN (d1.put (at_+i) l[i]) (at_+i+1) (l.drop (i+1)):=by
   rw [dI hlt];rfl
  have hW:=aep G d1 hok (at_+i) (by omega) l[i] h6
  unfold dWt at hW
  refine mZ.mk' i rfl (pU hlt) ?_
  refine mD.lT (aj hlt) ?_
  refine lV.to (y:=((at_+i:Nat):Int)) (by dsimp only;rw [IntWalk.i64_in _ (by omega)];omega) ?_
  conv=>whnf
  rcases gq d1.dead with hd|hd
  ·skip
   rw [hd,if_pos rfl]at hW hstep
   rw [hstep]
   refine mY [] (by kernel_rfl) hW (by trivial) ?_
   refine mY [] (by kernel_rfl) (aaj G d1 hok) (by trivial) ?_
   exact lZ [] (by trivial)
  ·rw [hd,if_neg (by decide)]at hW hstep
   by_cases hf:d1.fuse=0
   ·rw [if_pos hf]at hW hstep
    rw [hstep]
    refine mY [] (by kernel_rfl) hW (by trivial) ?_
    refine mY [] (by kernel_rfl) (leftA G d1 d1.dying hok.dying) (by trivial) ?_
    exact lZ [] (by trivial)
   ·rw [if_neg hf]at hW hstep
    refine mY [] (by kernel_rfl) hW (by trivial) ?_
    refine lV.i64 (by dsimp only;omega) ?_
    refine lU ⟨d1.put (at_+i) l[i],i+1⟩ [] [] rfl (by show l.length -(i+1)<l.length-i;omega) ⟨hlt,hok.put h6, ?_,hstep⟩ (by trivial) ⟨rfl,trivial⟩
    show (d1.now.set (at_+i) l[i]).length=d.now.length
    rw [bV];exact hlen
 have hie:i=l.length:=by simp at h;omega
 subst hie
 have hstep:yN d1 (at_+l.length) (l.drop l.length)=if d1.dead then(d1,40)else if d1.fuse=0 then(d1.dying,40)else(d1.flush,0):=by
  rw [iI];rfl
 have hW:=aer G d1 hok
 unfold dFl at hW
 rw [hstep]
 conv=>whnf
 rcases gq d1.dead with hd|hd
 ·skip
  rw [hd,if_pos rfl]at hW
  simp only [if_pos hd]
  refine mY [] (by kernel_rfl) hW (by trivial) ?_
  refine mY [] (by kernel_rfl) (aaj G d1 hok) (by trivial) ?_
  exact lZ [] (by trivial)
 ·rw [hd,if_neg (by decide)]at hW
  simp only [if_neg (show ¬(d1.dead=true) by rw [hd];decide)]
  by_cases hf:d1.fuse=0
  ·rw [if_pos hf]at hW ⊢
   refine mY [] (by kernel_rfl) hW (by trivial) ?_
   refine mY [] (by kernel_rfl) (leftA G d1 d1.dying hok.dying) (by trivial) ?_
   exact lZ [] (by trivial)
  ·rw [if_neg hf]at hW ⊢
   refine mY [] (by kernel_rfl) hW (by trivial) ?_
   refine mY [] (by kernel_rfl) (leftA G d1 d1.flush hok.flush) (by trivial) ?_
   exact lZ [] (by trivial)
section
attribute [local irreducible] num hsh AU wo qp lg FU zo
def NxR (l:List By)(a:AV)(n:Nat)(H:lM):Prop:= ∃k:Nat,a = .nN [iv (qp l).1,iv (qp l).2.1,iv k,bs (qp l).2.2.2.1,bv (qp l).2.2.2.2]∧n=0∧H = []∧((qp l).2.2.2.2=true->k=(qp l).2.2.1)
theorem aak (G:Glob)(l:List By)(hl:l.length<=1000):mQ Tryz.prog G 78 [ss l] 0 [] (NxR l):=by
 have zero:qp l=nxZ->∀k:Nat,NxR l (.nN [iv 0,iv 0,iv k,bs [],bv false]) 0 []:=fun e k=>by
  unfold NxR;rw [e];exact⟨k,rfl,rfl,rfl,fun h=>by cases h⟩
 refine lQ func78 rfl mixed (by kernel_rfl) ?_
 apply lK<;>intro h
 ·have h0:l = []:=by simpa using h
  exact lX (.nN [iv 0,iv 0,iv (0:Nat),bs [],bv false]) 0 [] [] [] (zero (by rw [h0,GV]) 0) rfl trivial (by trivial)
 have h0:0<l.length:=dX.2 (by simpa using h)
 refine mZ.mk' 0 rfl (pU h0) ?_
 refine mD.lT (aj h0) ?_
 refine nO [] (by kernel_rfl) (TA G l[0]) (by trivial) ?_
 rintro _ _ _ ⟨rfl,rfl,g,f,ix,m,rfl,hrd⟩
 apply lK<;>intro h
 ·have hno:wo l[0]=false:=by simpa using h
  exact lX (.nN [iv 0,iv 0,iv (0:Nat),bs [],bv false]) 0 [] [] [] (zero (Vg h0 hno) 0) rfl trivial (by trivial)
 have hok:wo l[0]=true:=by simpa using h
 obtain⟨rfl,rfl,rfl,rfl⟩:=hrd hok
 apply lK<;>intro h
 ·have hlg:l.length<hN l[0]:=by rw [ah]at h;simp at h;omega
  exact lX (.nN [iv 0,iv 0,iv (0:Nat),bs [],bv false]) 0 [] [] [] (zero (aae h0 hlg) 0) rfl trivial (by trivial)
 have hle:hN l[0]<=l.length:=by rw [ah]at h;simp at h;omega
 have hg:=aej h0 hok hle
 have hB:=ahN G (l.take (hN l[0])) (by rw [aK];omega)
 unfold Qz at hB
 refine sN.mk' 0 (hN l[0]) rfl rfl (au _) (by rw [ah];exact hle) ?_
 refine mY [] (by kernel_rfl) hB ⟨⟨rfl,dU.symm⟩,trivial⟩ ?_
 (refine mP aiS [] (by kernel_rfl) ?_;conv=>whnf)
 rcases Au (l.take (hN l[0]))with ⟨g',f',b',hx,e⟩|⟨_,e⟩
 ·rw [e]at hg
  have hg:qp l=(((g':Nat):Int),((f':Nat):Int),hN l[0],b',true):=hg
  refine lX (.nN [iv g',iv f',iv (hN l[0]:Nat),bs b',bv true]) 0 [] [] [] ?_ rfl trivial ?_
  ·unfold NxR;rw [hg];exact⟨_,rfl,rfl,rfl,fun _=>rfl⟩
  ·rw [e];trivial
 ·rw [e]at hg
  have hg:qp l=nxZ:=hg
  refine lX (.nN [iv 0,iv 0,iv (hN l[0]:Nat),bs [],bv false]) 0 [] [] [] (zero hg _) rfl trivial ?_
  rw [e];trivial
structure LS where
 fr:List By
 at_:Nat
 n:Nat
theorem afn (G:Glob)(l:List By)(hl:l.length<=1000):mQ Tryz.prog G 43 [ss l] 0 [] (Is (.nN [iv (Oc l),ss (FX l),bv (FW l)])):=by
 refine lQ func43 rfl mixed (by kernel_rfl) ?_
 refine nO [] (by kernel_rfl) (aak G l hl) (by trivial) ?_
 rintro _ _ _ ⟨k,rfl,rfl,rfl,hk⟩
 obtain⟨g,f,n,b,ok,hq⟩ : ∃g f n b ok,qp l=(g,f,n,b,ok):=⟨_,_,_,_,_,rfl⟩
 have Oe:FW l=(ok&&decide (f=0)):=by rw [GY,hq]
 have hgo:=Vh (g:=g) (l:=l) (k:=0)
 have hnx:= @BN l
 have ajG:(qp l).1=g:=by rw [hq]
 rw [hq]at hk hgo hnx ⊢
 dsimp only at hk hgo hnx ⊢
 apply lK<;>intro h
 ·have hz:FW l=false:=by rw [Oe];simp at h;rw [h];rfl
  unfold Oc FX
  rw [hz]
  exact lZ [] (by trivial)
 have hok:ok=true:=by simpa using h
 subst hok
 apply lK<;>intro h
 ·have hz:FW l=false:=by rw [Oe];simp at h;simp [h]
  unfold Oc FX
  rw [hz]
  exact lZ [] (by trivial)
 have hf:f=0:=by simpa using h
 subst hf
 have hy:FW l=true:=by rw [Oe];rfl
 have hG:Oc l=g:=by unfold Oc;rw [if_pos hy,ajG]
 have hF:FX l=b::lg g (l.drop n) 1:=by unfold FX;rw [if_pos hy,ajG];exact hgo ⟨rfl,rfl,rfl⟩
 obtain⟨g0,f0,b0,_,e0,e1,e2⟩:=hnx rfl
 injection e0 with _ e0
 injection e0 with _ e0
 injection e0 with e0 _
 obtain rfl:=hk rfl
 rw [hy,hG,hF]
 refine mO agj 2 [7,10,11] (fun x:LS=> [(7,iv x.n),(10, .own 1),(11,iv x.at_)]) (fun x=> [(1, .rows 22 1 (x.fr.map FB))]) (fun x=>x.at_<=l.length∧x.fr.length<=x.at_∧b::lg g (l.drop k) 1=x.fr++lg g (l.drop x.at_) x.fr.length) (fun x=>l.length-x.at_) [(1, .lab 0)] [] ⟨[b],k,k⟩ (by kernel_rfl) (fun _=>rfl) rfl ⟨by show k<=l.length;omega,by show 1<=k;omega,rfl⟩ (by trivial) (by trivial) ?_
 rintro⟨fr,at_,n'⟩ ⟨hat,hfl,hI⟩
 dsimp only at hat hfl hI
 refine sN.mk' at_ l.length rfl (by rw [ah]) hat (by rw [ah];exact aA _) ?_
 refine nO [] (by kernel_rfl) (aak G (l.drop at_) (by rw [aS];omega)) ⟨⟨rfl,bI.symm⟩,trivial⟩ ?_
 rintro _ _ _ ⟨k2,rfl,rfl,rfl,hk2⟩
 obtain⟨g2,f2,n2,b2,ok2,hq2⟩ : ∃g f n b ok,qp (l.drop at_)=(g,f,n,b,ok):=⟨_,_,_,_,_,rfl⟩
 have ahS:=Vh (g:=g) (l:=l.drop at_) (k:=fr.length)
 have hst2:=Ob (g:=g) (l:=l.drop at_) (k:=fr.length)
 have hnx2:= @BN (l.drop at_)
 rw [hq2]at hk2 ahS hst2 hnx2 ⊢
 dsimp only at hk2 ahS hst2 hnx2 ⊢
 rw [hI]
 apply lK<;>intro h
 ·have ho:ok2=false:=by simpa using h
  rw [hst2 (by rw [ho];simp),bY]
  exact lZ [1] (by trivial)
 have hok2:ok2=true:=by simpa using h
 subst hok2
 apply lK<;>intro h
 ·have ho:g2≠g:=by simpa using h
  rw [hst2 (fun hx=>ho hx.2.1),bY]
  exact lZ [1] (by trivial)
 have hg2:g2=g:=by simpa using h
 subst hg2
 apply lK<;>intro h
 ·have ho:f2≠(fr.length:Int):=by simpa using h
  rw [hst2 (fun hx=>ho hx.2.2),bY]
  exact lZ [1] (by trivial)
 have hf2:f2=(fr.length:Int):=by simpa using h
 subst hf2
 obtain⟨g3,f3,b3,_,e3,e4,e5⟩:=hnx2 rfl
 injection e3 with _ e3
 injection e3 with _ e3
 injection e3 with e3 _
 obtain rfl:=hk2 rfl
 rw [aS]at e4
 refine lN.mk (lS (by simp only [ln];omega) (by kernel_rfl)) ?_
 refine lV.to (y:=((at_+k2:Nat):Int)) (by rw [IntWalk.i64_in _ (by omega)];omega) ?_
 refine lU ⟨fr++ [b2],at_+k2,k2⟩ [(1, .lab 3)] [] rfl (by show l.length -(at_+k2)<l.length-at_;omega) ⟨by show at_+k2<=l.length;omega,by show (fr++ [b2]).length<=at_+k2;rw [ak];simp only [ln];omega, ?_⟩ ⟨⟨rfl,rfl,(Z8 fr b2).symm⟩,trivial⟩ ⟨rfl,rfl,rfl,trivial⟩
 show fr++lg g2 (l.drop at_) fr.length=(fr++ [b2])++lg g2 (l.drop (at_+k2)) (fr++ [b2]).length
 rw [ahS ⟨rfl,rfl,rfl⟩,dB,ak,aH]
 rfl
end
section
open Ky
attribute [local irreducible] num hsh AU wo qp lg FU tab wF Bd
theorem aal (l:List Ev)(hs:l.length<=10000):mQ Tryz.prog GS 80 [el l] 0 [] (Is (el l)):=by
 by_cases hl:l = []
 ·subst hl
  refine lQ func80 rfl mixed (by kernel_rfl) ?_
  refine⟨fun b hb=> ?_⟩
  cases b with
  | true=>
   exact lZ [] (by trivial)
  | false=>
   refine lN.mk (Dq (by decide)) ?_
   exact lZ [1] (by trivial)
 ·exact mQ.Fv (U5 l hl hs)
structure ES2 where
 out:List Ev
 i:Nat
theorem JB (a b:List Ev):a.map rO++b.map rO=(a++b).map rO:=aJ.symm
theorem QD (fr:List By)(hl:fr.length<=1000)(hb : ∀b∈fr,b.length<=12240):mQ Tryz.prog GS 44 [ss fr] 0 [] (Is (el (zo [] fr))):=by
 refine lQ func44 rfl mixed (by kernel_rfl) ?_
 refine mO agk 1 [3,10] (fun x:ES2=> [(3, .own 0),(10,iv x.i)]) (fun x=> [(0, .rows 95 10 (x.out.map rO))]) (fun x=>x.i<=fr.length∧x.out.length<=512∧zo [] fr=zo x.out (fr.drop x.i)) (fun x=>fr.length-x.i) [(0, .nil)] [] ⟨[],0⟩ (by kernel_rfl) (fun _=>rfl) rfl ⟨au _,au _,rfl⟩ (by trivial) (by trivial) ?_
 rintro⟨out,i⟩ ⟨hi,ho,hI⟩
 dsimp only at hi ho hI
 apply lK<;>intro h
 rotate_left
 ·have hie:i=fr.length:=by simp at h;omega
  subst hie
  have e:zo [] fr=out:=by rw [hI,iI];unfold zo;rfl
  rw [e]
  exact lZ [0] (by trivial)
 have hlt:i<fr.length:=by simp at h;omega
 have hbl:=hb fr[i] (aT hlt)
 have hstep:zo [] fr=if(FU fr[i]).2≠0∨512<out.length+(FU fr[i]).1.length then out else zo (out++(FU fr[i]).1) (fr.drop (i+1)):=by
  rw [hI,dI hlt];rfl
 refine mZ.mk' i rfl (pU hlt) ?_
 refine mD.lT (aj hlt) ?_
 refine nO [] (by kernel_rfl) (TG fr[i] (by omega)) (by trivial) ?_
 rintro _ _ _ ⟨l,e,hR,rfl,rfl,rfl⟩
 have hrd:=Z5 hR
 have hll:=hR.2.1
 rw [hrd]at hstep
 apply lK<;>intro h
 ·have he:e≠0:=by simpa using h
  rw [if_pos (.inl he)]at hstep
  rw [hstep]
  exact lZ [0] (by trivial)
 have he:e=0:=by simpa using h
 subst he
 refine lV.i64 (by simp only [ah];omega) ?_
 apply lK<;>intro h
 ·have hg:512<out.length+l.length:=by simp only [ah]at h;simp at h;omega
  rw [if_pos (.inr hg)]at hstep
  rw [hstep]
  exact lZ [0] (by trivial)
 have hg : ¬512<out.length+l.length:=by simp only [ah]at h;simp at h;omega
 rw [if_neg (by simp only [not_or];exact⟨by simp,hg⟩)]at hstep
 refine lN.mk (Dq (by simp only [ah];omega)) ?_
 refine lV.i64 (by dsimp only;omega) ?_
 exact lU ⟨out++l,i+1⟩ [(0, .lab 1)] [] rfl (by show fr.length -(i+1)<fr.length-i;omega) ⟨hlt,by show (out++l).length<=512;rw [ak];omega,hstep⟩ ⟨⟨rfl,rfl,JB out l⟩,trivial⟩ ⟨rfl,rfl,trivial⟩
theorem QE {a:Int}{l:List By}{i:Nat}(h:i<l.length):wG a (l.take (i+1))=if wo l[i]then max (wG a (l.take i)) (hG l[i]:Int)else wG a (l.take i):=by
 unfold wG
 rw [aG h,kJ];rfl
theorem zW {l:List Ev}(hok : ∀e∈l,e.ok)(h:uN l=0):(tab l).length<=2300000:=by
 have h0:=xk h
 have hn:nC l<=32:=by unfold nC;omega
 have:=Js hok (Du h0.2) (nC l) (aA _)
 have h2:tab l=zU l (nC l):=by unfold tab;rfl
 rw [h2]
 omega
theorem AB {s:So}(h:uz (wG s.gen s.d.now+1) 0 (tab s.ev)≠0∨s.d.now.length/2<nS (tab s.ev)):uO s=(So.zero,19):=by
 unfold uO;rw [if_pos h]
theorem G5 {s:So}(h : ¬(uz (wG s.gen s.d.now+1) 0 (tab s.ev)≠0∨s.d.now.length/2<nS (tab s.ev))){d:Dk}{e:Int}(hw:yN s.d ((1-s.half).toNat*(s.d.now.length/2)) (zy (wG s.gen s.d.now+1) 0 (tab s.ev))=(d,e)) :
  uO s=if e≠0 then(So.Jt d,40)else(⟨d,wG s.gen s.d.now+1,1-s.half,(nS (tab s.ev):Nat),1,s.ev⟩,0):=by
 unfold uO;rw [if_neg h,hw]
theorem xR {g f:Int}{b:By}(h:uz g f b=0):(zy g f b).length=nS b∧U7 (zy g f b):=by
 unfold zy;rw [if_pos h];exact⟨yI _ _ _,fun s hs=>Qg hs⟩
theorem ET (s:So)(hd:s.d.ok)(he:(∀e∈s.ev,e.ok)∧uN s.ev=0)(hg:0<=s.gen∧s.gen<=4294967295)(hh:s.half=0∨s.half=1):mQ Tryz.prog GS 45 [stA s] 0 [] (Is (.nN [stA (uO s).1,iv (uO s).2])):=by
 have hhi:=hd.hi
 refine lQ func45 rfl mixed (by kernel_rfl) ?_
 refine uj agl [4,21] (fun i:Nat=> [(4,iv (wG s.gen (s.d.now.take i))),(21,iv i)]) (fun i=>i<=s.d.now.length) (fun i=>s.d.now.length-i) 0 (by kernel_rfl) (fun _=>rfl) (by kernel_rfl) (au _) (by trivial) (by trivial) ?_
 intro i hi
 apply lK<;>intro h
 ·have hlt:i<s.d.now.length:=by simp at h;omega
  refine mZ.mk' i rfl (pU hlt) ?_
  refine mD.lT (aj hlt) ?_
  refine nO [] (by kernel_rfl) (TA GS s.d.now[i]) (by trivial) ?_
  rintro _ _ _ ⟨rfl,rfl,g,f,ix,m,rfl,hrd⟩
  conv=>whnf
  have hs:=QE (a:=s.gen) hlt
  apply lK<;>intro h
  ·obtain⟨rfl,rfl,rfl,rfl⟩:=hrd h
   rw [if_pos h]at hs
   refine lV.i64 (by omega) ?_
   exact lU (i+1) [] [] rfl (by show s.d.now.length -(i+1)<s.d.now.length-i;omega) hlt (by trivial) ⟨Ak hs.symm,rfl,trivial⟩
  ·rw [h,if_neg (by decide)]at hs
   refine lV.i64 (by omega) ?_
   exact lU (i+1) [] [] rfl (by show s.d.now.length -(i+1)<s.d.now.length-i;omega) hlt (by trivial) ⟨Ak hs.symm,rfl,trivial⟩
 have hie:i=s.d.now.length:=by simp at h;omega
 subst hie
 rw [aW]
 have hT:=Dv s.ev he.1 (by have:=(xk he.2).1;omega)
 have e1:Dt s.ev=tab s.ev:=by unfold Dt;rw [if_pos he.2]
 rw [e1,he.2]at hT
 refine mY [] (by kernel_rfl) hT (by trivial) ?_
 conv=>whnf
 have hgr:=Z4 (l:=s.d.now) hg.2
 have alv:=N8 (l:=s.d.now) (a:=s.gen)
 refine lN.mk (by decide) ?_
 rw [ah]
 refine lV.divN s.d.now.length 2 (by omega) ?_
 refine lV.i64 (by omega) ?_
 refine mY [] (by kernel_rfl) (Dx GS (wG s.gen s.d.now+1) 0 (tab s.ev) (by have:=zW he.1 he.2;omega)) (by trivial) ?_
 apply lK<;>intro h
 ·have hne:uz (wG s.gen s.d.now+1) 0 (tab s.ev)≠0:=by simpa using h
  rw [AB (.inl hne)]
  exact lZ [] (by trivial)
 have he0:uz (wG s.gen s.d.now+1) 0 (tab s.ev)=0:=by simpa using h
 obtain⟨hL1,hL2⟩:=xR he0
 apply lK<;>intro h
 ·have hlt:s.d.now.length/2<nS (tab s.ev):=by rw [ah,hL1]at h;simp at h;omega
  rw [AB (.inr hlt)]
  exact lZ [] (by trivial)
 have hle:nS (tab s.ev)<=s.d.now.length/2:=by rw [ah,hL1]at h;simp at h;omega
 obtain⟨hv,WM,hh2⟩ : ∃hv:Nat,1-s.half=(hv:Int)∧hv<=1:=⟨(1-s.half).toNat,by omega,by omega⟩
 obtain⟨d,e,hw⟩ : ∃d e,yN s.d ((1-s.half).toNat*(s.d.now.length/2)) (zy (wG s.gen s.d.now+1) 0 (tab s.ev))=(d,e):=⟨_,_,rfl⟩
 rw [G5 (by omega) hw]
 have hm:hv*(s.d.now.length/2)<=s.d.now.length/2:=by
  have:=aX (s.d.now.length/2) hh2
  omega
 rw [WM,dh]at hw
 have hwo:=EP (at_:=hv*(s.d.now.length/2)) hd hL2
 have hW:=Vk GS s.d hd (hv*(s.d.now.length/2)) (zy (wG s.gen s.d.now+1) 0 (tab s.ev)) hL2 (by rw [hL1];omega)
 rw [hw]at hwo hW
 refine lV.to (y:=(hv:Int)) (by rw [WM];exact IntWalk.i64_in _ (by omega)) ?_
 refine lV.to (y:=((hv*(s.d.now.length/2):Nat):Int)) (by rw [IntWalk.i64_in _ (by rw [<-dN];omega)];omega) ?_
 refine mY [] (by kernel_rfl) hW (by trivial) ?_
 apply lK<;>intro h
 ·have hne:e≠0:=by simpa using h
  have h40:e=40:=by rcases hwo.2.2 with h|h;exact absurd h hne;exact h.1
  subst h40
  rw [if_pos hne]
  refine mY [] (by kernel_rfl) (TM GS d) (by trivial) ?_
  exact lZ [] (by trivial)
 have TN:e=0:=by simpa using h
 rw [if_neg (by rw [TN];simp)]
 conv=>whnf
 rw [WM]
 (refine mP aiO [] (by kernel_rfl) ?_;conv=>whnf)
 refine lV.i64 (by omega) ?_
 refine mY [] (by kernel_rfl) (aal s.ev (by have:=(xk he.2).1;omega)) (by trivial) ?_
 refine lZ [] ⟨⟨⟨rfl,rfl⟩,⟨rfl,rfl⟩,rfl,rfl,rfl,rfl,rfl,congrArg (fun n:Nat=>Value.int .i64 (n:Int)) (by rw [ah,hL1]),rfl,⟨rfl,rfl⟩,trivial⟩,rfl,trivial⟩
theorem aeu {l:List Ev} : wF l=0↔∀e∈l,Bc e=0:=by
 induction l with
 | nil=>simp [wF]
 | cons e r ih=>
  unfold wF
  by_cases h:Bc e=0
  ·rw [if_neg (by simpa using h),ih]
   simp [h]
  ·rw [if_pos h]
   simp [h]
theorem Og {l:List Ev} : uN l=0↔l.length<=512∧∀e∈l,Bc e=0:=by
 unfold uN
 split
 ·constructor
  ·intro h;simp at h
  ·intro h;omega
 ·rw [aeu]
  constructor
  ·intro h;exact⟨by omega,h⟩
  ·intro h;exact h.2
theorem G6 {a b:List Ev}(ha:uN a=0)(hb:uN b=0)(h:(a++b).length<=512):uN (a++b)=0:=by
 rw [Og]at *
 exact⟨h,fun e he=>(bK.1 he).elim (ha.2 e) (hb.2 e)⟩
theorem aam : ∀(fr:List By) (out:List Ev),(∀e∈out,e.ok)->uN out=0->(∀e∈zo out fr,e.ok)∧uN (zo out fr)=0:=by
 intro fr
 induction fr with
 | nil=>intro out h1 h2;unfold zo;exact⟨h1,h2⟩
 | cons b r ih=>
  intro out h1 h2
  unfold zo
  split
  ·exact⟨h1,h2⟩
  ·rename_i hc
   have hr:=ahF b
   simp only [not_or]at hc
   have h0:(FU b).2=0:=by simpa using hc.1
   refine ih _ (fun e he=>(bK.1 he).elim (h1 e) (hr.1 e)) (G6 h2 (hr.2.2.1 h0).1 (by rw [ak];omega))
theorem DI:uN []=0:=Og.2 ⟨au _,fun e he=>by cases he⟩
theorem DJ (l:List By):(FX l).length<=l.length∧∀b∈FX l,b.length<=12240:=by
 unfold FX
 split
 ·exact aag (aA _)
 ·exact⟨au _,fun b hb=>by cases hb⟩
theorem DK {l:List By}(h:FW l=true):Xi l=zo [] (FX l):=by
 unfold Xi FX;rw [if_pos h];unfold lg;rfl
theorem aan (l:List By):(∀e∈Xi l,e.ok)∧uN (Xi l)=0:=aam _ [] (fun e he=>by cases he) DI
theorem Oh (a b:List By):((∀e∈(hlf a b).2,e.ok)∧uN (hlf a b).2=0)∧((hlf a b).1=0∨(hlf a b).1=1):=by
 unfold hlf
 split
 ·exact⟨aan a, .inl rfl⟩
 ·split
  ·exact⟨aan b, .inr rfl⟩
  ·exact⟨⟨(fun e he=>by cases he),DI⟩, .inr rfl⟩
theorem Oi (d:Dk)(hd:d.ok):mQ Tryz.prog GS 16 [uY d] 0 [] (Is (.nN [stA (wH d).1,iv (wH d).2])):=by
 have hhi:=hd.hi
 have hR:=ahR GS d hd
 unfold vT at hR
 refine lQ func16 rfl mixed (by kernel_rfl) ?_
 refine nO [] (by kernel_rfl) hR (by trivial) ?_
 rintro _ _ _ ⟨rfl,rfl,b0,rfl⟩
 conv=>whnf
 rcases gq d.dead with hdd|hdd
 ·have e:wH d=(So.Jt d,40):=by unfold wH;rw [if_pos hdd]
  rw [if_pos hdd,e]
  refine mY [] (by kernel_rfl) (JA GS d hd) (by trivial) ?_
  refine mY [] (by kernel_rfl) (TM GS d) (by trivial) ?_
  exact lZ [] (by trivial)
 have hnd : ¬d.dead=true:=by rw [hdd];decide
 have e:wH d=uO ⟨d,0,(hlf (d.now.take (d.now.length/2)) (d.now.drop (d.now.length/2))).1,0,0,(hlf (d.now.take (d.now.length/2)) (d.now.drop (d.now.length/2))).2⟩:=by unfold wH;rw [if_neg hnd]
 rw [if_neg hnd,e]
 refine lN.mk (by decide) ?_
 rw [ah]
 refine lV.divN d.now.length 2 (by omega) ?_
 refine sN.mk' 0 (d.now.length/2) rfl rfl (au _) (by rw [ah];omega) ?_
 refine mY [] (by kernel_rfl) (afn GS (d.now.take (d.now.length/2)) (by rw [aK];omega)) ⟨⟨rfl,dU.symm⟩,trivial⟩ ?_
 refine sN.mk' (d.now.length/2) d.now.length rfl (by rw [ah]) (by omega) (by rw [ah];exact aA _) ?_
 refine mY [] (by kernel_rfl) (afn GS (d.now.drop (d.now.length/2)) (by rw [aS];omega)) ⟨⟨rfl,bI.symm⟩,trivial⟩ ?_
 have hC:=fun h=>ET ⟨d,0,(hlf (d.now.take (d.now.length/2)) (d.now.drop (d.now.length/2))).1,0,0,(hlf (d.now.take (d.now.length/2)) (d.now.drop (d.now.length/2))).2⟩ hd (Oh _ _).1 h (Oh _ _).2
 have hC:=hC ⟨je _,by show (0:Int)<=4294967295;decide⟩
 have hA:=fun h=>QD (FX (d.now.take (d.now.length/2))) h (DJ _).2
 have hA:=hA (by have:=(DJ (d.now.take (d.now.length/2))).1;rw [aK]at this;omega)
 have hB:=fun h=>QD (FX (d.now.drop (d.now.length/2))) h (DJ _).2
 have hB:=hB (by have:=(DJ (d.now.drop (d.now.length/2))).1;rw [aS]at this;omega)
 generalize d.now.take (d.now.length/2)=A at *
 generalize d.now.drop (d.now.length/2)=B at *
 refine lK (fun ha=> ?_) (fun ha=> ?_)
 ·have hga:Oc A=(qp A).1:=by unfold Oc;rw [if_pos ha]
  apply lK<;>intro h
  ·have hb:FW B=false:=by simpa using h
   have hx:hlf A B=(0,Xi A):=by unfold hlf;rw [if_pos ⟨ha, .inl hb⟩]
   rw [hx]at hC ⊢
   refine mY [] (by kernel_rfl) hA (by trivial) ?_
   conv=>whnf
   rw [<-DK ha]
   refine mY [] (by kernel_rfl) hC (by trivial) ?_
   exact lZ [] (by trivial)
  have hb:FW B=true:=by simpa using h
  have hgb:Oc B=(qp B).1:=by unfold Oc;rw [if_pos hb]
  apply lK<;>intro h
  ·have hle:(qp B).1<=(qp A).1:=by rw [<-hga, <-hgb];simpa using h
   have hx:hlf A B=(0,Xi A):=by unfold hlf;rw [if_pos ⟨ha, .inr hle⟩]
   rw [hx]at hC ⊢
   refine mY [] (by kernel_rfl) hA (by trivial) ?_
   conv=>whnf
   rw [<-DK ha]
   refine mY [] (by kernel_rfl) hC (by trivial) ?_
   exact lZ [] (by trivial)
  ·have hx:hlf A B=(1,Xi B):=by
    unfold hlf
    rw [if_neg,if_pos hb]
    rintro⟨_,hy⟩
    rcases hy with hy|hy
    ·rw [hb]at hy;cases hy
    ·rw [<-hga, <-hgb]at hy;simp at h;omega
   conv=>whnf
   rw [hb]
   rw [hx]at hC ⊢
   refine mY [] (by kernel_rfl) hB (by trivial) ?_
   conv=>whnf
   rw [<-DK hb]
   refine mY [] (by kernel_rfl) hC (by trivial) ?_
   exact lZ [] (by trivial)
 ·apply lK<;>intro h
  ·have hb:FW B=true:=by simpa using h
   have hx:hlf A B=(1,Xi B):=by
    unfold hlf
    rw [if_neg (fun hy=>by rw [ha]at hy;cases hy.1),if_pos hb]
   rw [hx]at hC ⊢
   refine mY [] (by kernel_rfl) hB (by trivial) ?_
   conv=>whnf
   rw [<-DK hb]
   refine mY [] (by kernel_rfl) hC (by trivial) ?_
   exact lZ [] (by trivial)
  ·have hb:FW B=false:=by simpa using h
   have hx:hlf A B=(1,[]):=by
    unfold hlf
    rw [if_neg (fun hy=>by rw [ha]at hy;cases hy.1),if_neg (by rw [hb];decide)]
   rw [hx]at hC ⊢
   refine mY [] (by kernel_rfl) hC (by trivial) ?_
   exact lZ [] (by trivial)
end
section
open Ky
attribute [local irreducible] num hsh AU wo qp lg FU tab wF Bd
def Oj (e:Ev):List Value:=(rO e).map fun x=>match x with | .v w=>w|_=> .bool false
theorem WO (e:Ev):rO e=(Oj e).map .v:=rfl
theorem aao (w:World):zC Tryz.prog 88 #[.slice none 0 0, .int .i64 (0:Nat)] w fun v w'=>v = .slice none 0 0∧Below w.heap.size w w':=by
 refine oz func88 rfl mixed (by kernel_rfl) ?_
 refine SK rfl ?_
 exact rX.mk ⟨rfl,Below.refl _ _⟩
theorem aev (n:Nat)(hl:n<=1000000):mQ Tryz.prog GS 88 [.v (.slice none 0 0),iv n] 0 [] (sW 95 10 []):=by
 have key:=zQ (P:=Tryz.prog) (G:=GS) (f:=88) (args:= [.v (.slice none 0 0),iv n]) (E:=95) (sz:=10) (enc:=rO) (c:=Oj) WO (fun _=>rfl) (fun e v hv=>by
  simp only [Oj,rO,gG,jB,bD,jA,or_false]at hv
  rcases hv with rfl|rfl|rfl|rfl|rfl|rfl|rfl|rfl|rfl|rfl<;>rfl) (l:= []) (fun w F σ vs hF r=>by
  match vs,r with
  | [u,y],⟨ru,ry,_⟩=>
   rw [ru.oJ,ry.oJ]
   rcases cO n with rfl|hn
   ·exact(aao w).mono fun v w' ⟨e,hB⟩=>⟨none,0,e,Own.nil _ _ _ _,hB⟩
   ·exact(Yu n w hn hl).mono fun v w' ⟨oa,c,e,hO,hB⟩=>⟨oa,c,e,hO,hB⟩)
 exact key
def JY (a b:List Ev):List (List Ev):= [a,b]
theorem Vl (a b:List Ev){i:Nat}(h:i<2):([[FV.lst 10 (a.map rO)],[FV.lst 10 (b.map rO)]]:List (List FV))[i]? = some [.lst 10 (((JY a b).getD i []).map rO)]:=by
 match i,h with
 | 0,_=>rfl
 | 1,_=>rfl
theorem aap (a b:List Ev){i:Nat}(h:i<2):((JY a b).take i).flatten.length+((JY a b).getD i []).length<=a.length+b.length:=by
 match i,h with
 | 0,_=>simp [JY]
 | 1,_=>simp [JY]
theorem QF (a b:List Ev){i:Nat}(h:i<2):((JY a b).take (i+1)).flatten=((JY a b).take i).flatten++(JY a b).getD i []:=by
 match i,h with
 | 0,_=>simp [JY]
 | 1,_=>simp [JY]
attribute [local irreducible] JY
theorem aew (a b:List Ev)(hl:a.length+b.length<=100000):mQ Tryz.prog GS 57 [.lst 1 [[.lst 10 (a.map rO)],[.lst 10 (b.map rO)]]] 0 [] (Is (el (a++b))):=by
 have e2:((JY a b).take 2).flatten=a++b:=by unfold JY;simp
 have e0:((JY a b).take 0).flatten = []:=rfl
 refine lQ func57 rfl mixed (by kernel_rfl) ?_
 refine uj agr [3,11] (fun i:Nat=> [(3,iv (((JY a b).take i).flatten.length:Nat)),(11,iv i)]) (fun i=>i<=2) (fun i=>2-i) 0 (by kernel_rfl) (fun _=>rfl) (by kernel_rfl) (au _) (by trivial) ⟨by rw [e0];rfl,rfl,trivial⟩ ?_
 intro i hi
 apply lK<;>intro h
 ·have hlt:i<2:=by simp at h;omega
  have hle:=aap a b hlt
  have hsu:=QF a b hlt
  have hx:(((JY a b).take (i+1)).flatten.length:Int)=(((JY a b).take i).flatten.length:Int)+(((JY a b).getD i []).length:Int):=by rw [hsu,ak,fM]
  have hrow:=Vl a b hlt
  generalize (JY a b).getD i []=x at *
  refine mZ.mk' i rfl hlt ?_
  refine mD.at hrow ?_
  refine lV.to (y:=(((JY a b).take (i+1)).flatten.length:Int)) (by rw [ah,hx];exact IntWalk.i64_in _ (by omega)) ?_
  refine lV.i64 (by omega) ?_
  exact lU (i+1) [] [] rfl (by show 2 -(i+1)<2-i;omega) hlt (by trivial) ⟨rfl,rfl,trivial⟩
 have hie:i=2:=by simp at h;omega
 subst hie
 rw [e2]
 have hG:=aev (a++b).length (by rw [ak];omega)
 refine mY [] (by kernel_rfl) hG (by trivial) ?_
 refine mO ags 2 [6,27] (fun i:Nat=> [(6, .own 1),(27,iv i)]) (fun i=> [(1, .rows 95 10 (((JY a b).take i).flatten.map rO))]) (fun i=>i<=2) (fun i=>2-i) [(1, .lab 0)] [] 0 (by kernel_rfl) (fun _=>rfl) rfl (au _) (by trivial) (by trivial) ?_
 intro i hi
 apply lK<;>intro h
 rotate_left
 ·have hie:i=2:=by simp at h;omega
  subst hie
  rw [e2]
  exact lZ [1] (by trivial)
 have hlt:i<2:=by simp at h;omega
 have hle:=aap a b hlt
 have hsu:=QF a b hlt
 have hrow:=Vl a b hlt
 generalize (JY a b).getD i []=x at *
 refine mZ.mk' i rfl hlt ?_
 refine mD.at hrow ?_
 refine lN.mk (Dq (by simp only [ah];omega)) ?_
 refine lV.i64 (by omega) ?_
 exact lU (i+1) [(1, .lab 2)] [] rfl (by show 2 -(i+1)<2-i;omega) hlt ⟨⟨rfl,rfl,by rw [hsu];exact JB _ _⟩,trivial⟩ ⟨rfl,rfl,trivial⟩
theorem ajH (g:Int)(b:By)(half:Nat)(hb:b.length<=3000000)(hh:half<=1000):mQ Tryz.prog GS 58 [iv g,bs b,iv half] 0 [] (Is (bv (decide (uz g 0 b=0∧nS b<=half)))):=by
 refine lQ func58 rfl mixed (by kernel_rfl) ?_
 refine mY [] (by kernel_rfl) (Dx GS g 0 b hb) (by trivial) ?_
 apply lK<;>intro h
 ·have he:uz g 0 b=0:=by simpa using h
  refine lZ [] (congrArg Value.bool ?_)
  rw [ah,(xR he).1]
  simp [he]
 ·have he:uz g 0 b≠0:=by simpa using h
  refine lZ [] (congrArg Value.bool ?_)
  simp [he]
theorem Vm (s:So)(h:s.ok):mQ Tryz.prog GS 54 [stA s] 0 [] (Is (bv true)):=by
 obtain⟨hd,hg,hh,hn,hf,he⟩:=h
 have hhi:=hd.hi
 have hT:=Dv s.ev he.1 (by have:=(xk he.2).1;omega)
 rw [he.2]at hT
 refine lQ func54 rfl mixed (by kernel_rfl) ?_
 (refine mF [] (by kernel_rfl) (TK GS s.d hd) rfl ?_ ?_;(focus trivial))
 conv=>whnf
 repeat' (first
  | (apply lK<;>intro h<;>(first|(exfalso;(try rw [ah]at h);simp at h;omega)|((try simp at h);conv=>whnf)))
  | (refine lN.mk (by decide) ?_;rw [ah];refine lV.divN s.d.now.length 2 (by omega) ?_;conv=>whnf)
  | (refine nO [] (by kernel_rfl) hT ?_ ?_;(focus (trivial;done));rintro _ _ _ ⟨rfl,rfl,rfl⟩;conv=>whnf))
 all_goals exact lZ [] rfl
theorem QG {s:So}{l:List Ev}(h:uN l≠0):xw s l=(So.zero,uN l):=by unfold xw;rw [if_pos h]
theorem EU {s:So}{l:List Ev}(h:uN l=0)(h2:512<s.ev.length+l.length):xw s l=(So.zero,5):=by unfold xw;rw [if_neg (by simp [h]),if_pos h2]
theorem JC (s:So)(h:s.ev.length<=512):xw s []=(s,0):=by
 unfold xw;rw [if_neg (by rw [DI];simp),if_neg (by simp;omega),if_pos rfl]
theorem EW {s:So}{l:List Ev}(h:uN l=0)(h2 : ¬512<s.ev.length+l.length)(h3:l≠ [])(h4:255<nS (tab (s.ev++l))∨s.d.now.length/2<nS (tab (s.ev++l))):xw s l=(So.zero,19):=by
 unfold xw;rw [if_neg (by simp [h]),if_neg h2,if_neg h3,if_pos h4]
theorem JD {s:So}{l:List Ev}(h:uN l=0)(h2 : ¬512<s.ev.length+l.length)(h3:l≠ [])(h4 : ¬(255<nS (tab (s.ev++l))∨s.d.now.length/2<nS (tab (s.ev++l))))(h5:uz s.gen s.frame (tab l)≠0∨((s.d.now.length/2:Nat):Int)<s.next+(nS (tab l):Nat)):xw s l=uO {s with ev:=s.ev++l}:=by
 unfold xw;rw [if_neg (by simp [h]),if_neg h2,if_neg h3,if_neg h4,if_pos h5]
theorem Ol {s:So}{l:List Ev}(h:uN l=0)(h2 : ¬512<s.ev.length+l.length)(h3:l≠ [])(h4 : ¬(255<nS (tab (s.ev++l))∨s.d.now.length/2<nS (tab (s.ev++l))))(h5 : ¬(uz s.gen s.frame (tab l)≠0∨((s.d.now.length/2:Nat):Int)<s.next+(nS (tab l):Nat)))
  {d:Dk} {e:Int} (hw:yN s.d (s.half.toNat*(s.d.now.length/2)+s.next.toNat) (zy s.gen s.frame (tab l))=(d,e)) :
  xw s l=if e≠0 then(So.Jt d,40)else(⟨d,s.gen,s.half,s.next+(nS (tab l):Nat),s.frame+1,s.ev++l⟩,0):=by
 unfold xw;rw [if_neg (by simp [h]),if_neg h2,if_neg h3,if_neg h4,if_neg h5,hw]
theorem WQ (s:So)(h:s.ok):mQ Tryz.prog GS 21 [stA s] 0 [] (Is (.nN [stA (uO s).1,iv (uO s).2])):=by
 have hg:=h.gen
 refine lQ func21 rfl mixed (by kernel_rfl) ?_
 (refine mF [] (by kernel_rfl) (Vm s h) rfl ?_ ?_;(focus trivial))
 refine mY [] (by kernel_rfl) (ET s h.d h.ev (by omega) h.half) (by trivial) ?_
 exact lZ [] (by trivial)
theorem QH (s:So)(h:s.ok)(l:List Ev)(hl : ∀e∈l,e.ok)(hll:l.length<=1000):mQ Tryz.prog GS 23 [stA s,el l] 0 [] (Is (.nN [stA (xw s l).1,iv (xw s l).2])):=by
 have hV:=Vm s h
 obtain⟨hd,hg,hh,hn,hf,he⟩:=h
 have hhi:=hd.hi
 have hel:=(xk he.2).1
 have hT:=Dv l hl (by omega)
 refine lQ func23 rfl mixed (by kernel_rfl) ?_
 (refine mF [] (by kernel_rfl) (hV) rfl ?_ ?_;(focus trivial))
 refine mY [] (by kernel_rfl) hT (by trivial) ?_
 apply lK<;>intro h
 ·have hne:uN l≠0:=by simpa using h
  rw [QG hne]
  exact lZ [] (by trivial)
 have h0:uN l=0:=by simpa using h
 have eB:Dt l=tab l:=by unfold Dt;rw [if_pos h0]
 rw [eB]
 refine lV.i64 (by simp only [ah];omega) ?_
 apply lK<;>intro h
 ·have hgt:512<s.ev.length+l.length:=by simp only [ah]at h;simp at h;omega
  rw [EU h0 hgt]
  exact lZ [] (by trivial)
 have hgt : ¬512<s.ev.length+l.length:=by simp only [ah]at h;simp at h;omega
 refine mY [2] (by kernel_rfl) (aew s.ev l (by omega)) (by trivial) ?_
 apply lK<;>intro h
 ·have hnil:l = []:=by simpa using h
  subst hnil
  rw [JC s hel]
  refine mY [] (by kernel_rfl) (JA GS s.d hd) (by trivial) ?_
  conv=>whnf
  rw [bY]
  exact lZ [] (by trivial)
 have hnil:l≠ []:=by simpa using h
 have hev:(∀e∈s.ev++l,e.ok)∧uN (s.ev++l)=0:=⟨fun e h=>(bK.1 h).elim (he.1 e) (hl e),G6 he.2 h0 (by rw [ak];omega)⟩
 have hT2:=Dv (s.ev++l) hev.1 (by rw [ak];omega)
 have e2:Dt (s.ev++l)=tab (s.ev++l):=by unfold Dt;rw [if_pos hev.2]
 rw [e2,hev.2]at hT2
 have hFi:=ajH s.gen (tab (s.ev++l)) (s.d.now.length/2) (by have:=zW hev.1 hev.2;omega) (by omega)
 have hC:=ET {s with ev:=s.ev++l} hd hev (by show 0<=s.gen∧s.gen<=4294967295;omega) hh
 have hS:=Dx GS s.gen s.frame (tab l) (by have:=zW hl h0;omega)
 refine lN.mk (by decide) ?_
 rw [ah]
 refine lV.divN s.d.now.length 2 (by omega) ?_
 refine mY [] (by kernel_rfl) hT2 (by trivial) ?_
 refine mY [] (by kernel_rfl) hFi (by trivial) ?_
 apply lK<;>intro h
 ·have hfu:255<nS (tab (s.ev++l))∨s.d.now.length/2<nS (tab (s.ev++l)):=by
   by_cases h1:nS (tab (s.ev++l))<=255
   ·have:=Y0 (b:=tab (s.ev++l)) (f:=0) hg.1 hg.2 (by omega) (by omega) h1
    simp [this]at h;omega
   ·omega
  rw [EW h0 hgt hnil hfu]
  exact lZ [] (by trivial)
 have hfu : ¬(255<nS (tab (s.ev++l))∨s.d.now.length/2<nS (tab (s.ev++l))):=by
  simp at h
  have:=(zO h.1).2.2.2.2
  omega
 refine mY [] (by kernel_rfl) hS (by trivial) ?_
 conv=>whnf
 have toC:uz s.gen s.frame (tab l)≠0∨((s.d.now.length/2:Nat):Int)<s.next+(nS (tab l):Nat)->xw s l=uO {s with ev:=s.ev++l}:=JD h0 hgt hnil hfu
 apply lK<;>intro h
 ·have hx:uz s.gen s.frame (tab l)≠0∨((s.d.now.length/2:Nat):Int)<s.next+(nS (tab l):Nat):= .inl (by simpa using h)
  rw [toC hx]
  refine mY [] (by kernel_rfl) hC (by trivial) ?_
  exact lZ [] (by trivial)
 have hs0:uz s.gen s.frame (tab l)=0:=by simpa using h
 obtain⟨hL1,hL2⟩:=xR hs0
 have hq:=(zO hs0).2.2.2.2
 refine lV.to (y:=s.next+(nS (tab l):Nat)) (by rw [ah,hL1];exact IntWalk.i64_in _ (by omega)) ?_
 apply lK<;>intro h
 ·have hx:uz s.gen s.frame (tab l)≠0∨((s.d.now.length/2:Nat):Int)<s.next+(nS (tab l):Nat):= .inr (by simpa using h)
  rw [toC hx]
  refine mY [] (by kernel_rfl) hC (by trivial) ?_
  exact lZ [] (by trivial)
 have hfit:s.next+(nS (tab l):Nat)<=((s.d.now.length/2:Nat):Int):=by simp at h;omega
 obtain⟨hv,WM,hh2⟩ : ∃hv:Nat,s.half=(hv:Int)∧hv<=1:=⟨s.half.toNat,by omega,by omega⟩
 obtain⟨nv,hnv⟩ : ∃nv:Nat,s.next=(nv:Int):=⟨s.next.toNat,by omega⟩
 obtain⟨d,e,hw⟩ : ∃d e,yN s.d (s.half.toNat*(s.d.now.length/2)+s.next.toNat) (zy s.gen s.frame (tab l))=(d,e):=⟨_,_,rfl⟩
 rw [Ol h0 hgt hnil hfu (by omega) hw]
 have hm:hv*(s.d.now.length/2)<=s.d.now.length/2:=by
  have:=aX (s.d.now.length/2) hh2
  omega
 rw [WM,hnv,dh,dh]at hw
 have hwo:=EP (at_:=hv*(s.d.now.length/2)+nv) hd hL2
 have hW:=Vk GS s.d hd (hv*(s.d.now.length/2)+nv) (zy s.gen s.frame (tab l)) hL2 (by rw [hL1];omega)
 rw [hw]at hwo hW
 refine lV.to (y:=((hv*(s.d.now.length/2):Nat):Int)) (by rw [WM,IntWalk.i64_in _ (by rw [<-dN];omega)];omega) ?_
 refine lV.to (y:=((hv*(s.d.now.length/2)+nv:Nat):Int)) (by rw [hnv,IntWalk.i64_in _ (by omega)];omega) ?_
 refine mY [] (by kernel_rfl) hW (by trivial) ?_
 apply lK<;>intro h
 ·have hne:e≠0:=by simpa using h
  have h40:e=40:=by rcases hwo.2.2 with h|h;exact absurd h hne;exact h.1
  subst h40
  rw [if_pos hne]
  refine mY [] (by kernel_rfl) (TM GS d) (by trivial) ?_
  exact lZ [] (by trivial)
 have TN:e=0:=by simpa using h
 rw [if_neg (by rw [TN];simp)]
 refine lV.to (y:=s.next+(nS (tab l):Nat)) (by rw [ah,hL1];exact IntWalk.i64_in _ (by omega)) ?_
 refine lV.i64 (by omega) ?_
 exact lZ [] (by trivial)
end
section
attribute [local irreducible] num hsh AU wo
theorem aex (G:Glob)(l:List By)(hl:l.length<=1000):mQ Tryz.prog G 14 [ss l] 0 [] (Is (Qz l)):=by
 refine lQ func14 rfl mixed (by kernel_rfl) ?_
 apply lK<;>intro h
 ·have h0:l.length=0:=by simp at h;exact congrArg List.length h
  rw [tX fun g f b hx=>by have:=hx.len;omega]
  exact lZ [] (by trivial)
 have h0:0<l.length:=by simp at h;exact dX.2 h
 refine mO af7 1 [6,7] (fun i:Nat=> [(6, .own 0),(7,iv i)]) (fun i=> [(0, .rows 5 1 ((dtA l i).map oh))]) (fun i=>i<=l.length∧∀s∈l.take i,s.length=64) (fun i=>l.length-i) [(0, .nil)] [] 0 (by kernel_rfl) (fun _=>rfl) rfl ⟨au _,fun s hs=>by simp at hs⟩ (by trivial) (by trivial) ?_
 rintro i ⟨hi,h64⟩
 have hdl:=Vd hi h64
 apply lK<;>intro h
 ·have hlt:i<l.length:=by simp at h;omega
  refine mZ.mk' i rfl (pU hlt) ?_
  refine mD.lT (aj hlt) ?_
  apply lK<;>intro h
  ·have hne:l[i].length≠64:=by simp at h;omega
   rw [tX fun g f b hx=>hne (hx.afl (aT hlt))]
   exact lZ [] (by trivial)
  have h6:l[i].length=64:=by simp at h;omega
  refine mZ.mk' i rfl (pU hlt) ?_
  refine mD.lT (aj hlt) ?_
  refine sN.mk' 16 l[i].length rfl (by rw [ah]) (by omega) (by rw [ah];exact aA _) ?_
  refine lN.mk (lS (by simp only [cut,ah,aS];omega) (by kernel_rfl)) ?_
  refine lV.i64 (by omega) ?_
  refine lU (i+1) [(0, .lab 1)] [] rfl (by show l.length -(i+1)<l.length-i;omega) ⟨hlt,fun s hs=> ?_⟩ ⟨⟨rfl,rfl, ?_⟩,trivial⟩ ⟨rfl,rfl,trivial⟩
  ·rw [aG hlt]at hs
   rcases bK.1 hs with h1|h1
   ·exact h64 s h1
   ·rw [bF]at h1;rw [h1];exact h6
  ·rw [Jw hlt,aJ,bI];rfl
 have hie:i=l.length:=by simp at h;omega
 subst hie
 rw [Ve]at hdl ⊢
 rw [aW]at h64
 have hgood : ∀g f c,EL l g f c->ny (l.flatMap (·.drop 16)) 0=((c.length:Int),(num (c.length:Int)).length,0)∧∃z,l.flatMap (·.drop 16)=dat c++z:=fun g f c hx=>by
  have hcl:=hx.ahM
  have e:l.flatMap (·.drop 16)=pad c:=by rw [hx.2,Ar]
  have h1:=rV (nJ (by omega:c.length<=9223372036854775807)) (c++List.replicate (nS c*48 -(dat c).length) 0)
  rw [<-aH]at h1
  have e2:pad c=num (c.length:Int)++c++List.replicate (nS c*48 -(dat c).length) 0:=rfl
  rw [<-e2, <-e]at h1
  exact⟨h1,_,e⟩
 have hN:=mQ.up (qC (l.flatMap (·.drop 16)) 0 0 (by omega) (au _)) G
 rw [dJ]at hN
 have hro:=oN (l.flatMap (·.drop 16)) 0
 generalize hfd:l.flatMap (·.drop 16)=d at *
 generalize hrn:ny d 0=rn at *
 obtain⟨x,k,e⟩:=rn
 dsimp only at hN hro
 rw [aV]at hN
 refine mY [0] (by kernel_rfl) (mQ.up (Va d) G) (by trivial) ?_
 refine pW [1] [] (by kernel_rfl) hN rfl (by trivial) (by trivial) rfl ?_
 apply lK<;>intro h
 ·have he:e≠0:=by simpa using h
  rw [tX fun g f c hx=>he (by have:=(hgood g f c hx).1;injection this with _ q;injection q)]
  exact lZ [] (by trivial)
 have he:e=0:=by simpa using h
 subst he
 apply lK<;>intro h
 ·have hx0:x<0:=by simpa using h
  rw [tX fun g f c hx=>by have:=(hgood g f c hx).1;injection this with q _;omega]
  exact lZ [] (by trivial)
 have hx0:0<=x:=by simp at h;omega
 obtain⟨n,rfl⟩ : ∃n:Nat,x=(n:Int):=⟨x.toNat,by omega⟩
 refine lV.i64 (by rw [ah];omega) ?_
 conv=>whnf
 rw [ah]
 apply lK<;>intro h
 ·have hnk:(d.length:Int)-k<n:=by simpa using h
  rw [tX fun g f c hx=>by
   obtain⟨q,z,ez⟩:=hgood g f c hx
   injection q with q1 q2
   injection q2 with q2 _
   have:d.length=(dat c).length+z.length:=by rw [ez,ak]
   unfold dat at this
   rw [ak]at this
   omega]
  exact lZ [] (by trivial)
 have hnk:n+k<=d.length:=by simp at h;omega
 have h6:l[0].length=64:=h64 l[0] (aT h0)
 conv=>whnf
 have m0:=aj h0
 have hc6:List.drop 4 (List.take 6 (l[0].map oh))=((l[0].drop 4).take 2).map oh:=by rw [gX,dU,bI]
 have n4:=Dz G (l[0].take 4) (by rw [aK];omega)
 have n2:=Dz G ((l[0].drop 4).take 2) (by rw [aK];omega)
 have b4:Lr (l[0].take 4)<4294967296:=Qu l[0]
 have b2:Lr ((l[0].drop 4).take 2)<65536:=by
  have h1:=NK ((l[0].drop 4).take 2)
  have h2:((l[0].drop 4).take 2).length<=2:=List.length_take_le ..
  have h3:256^((l[0].drop 4).take 2).length<=256^2:=dL (by decide) h2
  have h4:(256:Nat)^2=65536:=by decide
  omega
 have hcut : []++List.take (k+n-k) (List.drop k (d.map oh))=((d.drop k).take n).map oh:=by rw [dO,jJ,dU,bI]
 refine xY aiL [0,2] [(2,4),(58,83)] 3 [(2,iv (hG l[0])),(3,iv (hF l[0])),(4, .own 2)] [(2, .rows 5 1 (((d.drop k).take n).map oh))] (by kernel_rfl) (by kernel_rfl) ?_ ?_
 ·conv=>whnf
  repeat' (first
   | (refine And.intro ?_ ?_<;>(conv=>whnf))
   | (refine mZ.mk' 0 rfl (pU h0) ?_;conv=>whnf)
   | (refine mD.lT m0 ?_;conv=>whnf)
   | (refine sN.mk' 0 4 rfl rfl (by decide) (by rw [ah];omega) ?_;conv=>whnf)
   | (refine sN.mk' 4 6 rfl rfl (by decide) (by rw [ah];omega) ?_;conv=>whnf)
   | (refine sN.mk' k (k+n) rfl (by omega) (by omega) (by rw [ah];omega) ?_;conv=>whnf)
   | (refine mF [] (by kernel_rfl) n4 rfl ?_ ?_;(focus (exact⟨⟨rfl,dU.symm⟩,trivial⟩));conv=>whnf)
   | (refine mF [] (by kernel_rfl) n2 rfl ?_ ?_;(focus (exact⟨⟨rfl,hc6⟩,trivial⟩));conv=>whnf)
   | (refine lV.i64 (by omega) ?_;conv=>whnf)
   | (refine lN.mk (lS (by simp only [cut,L9,ah,aS,aK,fK];omega) (by kernel_rfl)) ?_;conv=>whnf)
   | (refine nH [(2, .lab 3)] [] ?_ ?_ ?_;(focus rfl);(focus (exact⟨⟨rfl,rfl,hcut⟩,trivial⟩));(focus trivial);done))
 conv=>whnf
 have hfr : ∀g' f' c,EL l g' f' c->g'=hG l[0]∧f'=hF l[0]:=fun g' f' c hx=>by
  have:=hx.at h0
  exact⟨this.2.2.1.symm,this.2.2.2.1.symm⟩
 have hB:=QA (b:=(d.drop k).take n) hfr fun c r hc e=>by
  rw [hfd]at e
  have h1:=rV hc (c++r)
  rw [<-aH]at h1
  have e2:d=num (c.length:Int)++c++r:=e
  rw [<-e2,hrn]at h1
  injection h1 with q1 q2
  injection q2 with q2 _
  have q1:n=c.length:=by omega
  rw [e2,q2,q1,aH,eY rfl,dZ rfl]
 have htl:((d.drop k).take n).length<=48000:=by rw [aK,aS];omega
 generalize (d.drop k).take n=t at *
 refine mY [2] (by kernel_rfl) (ER G (hG l[0]:Nat) (hF l[0]:Nat) t (by omega)) (by trivial) ?_
 apply lK<;>intro h
 ·have he:uz (hG l[0]:Nat) (hF l[0]:Nat) t≠0:=by simpa using h
  rw [tX (hB.2 fun hx=>he hx.1)]
  exact lZ [] (by trivial)
 have he:uz (hG l[0]:Nat) (hF l[0]:Nat) t=0:=by simpa using h
 have hLl:zy (hG l[0]:Nat) (hF l[0]:Nat) t=secs (hG l[0]) (hF l[0]) t:=by unfold zy;rw [if_pos he];rfl
 rw [hLl]
 (refine mF [] (by kernel_rfl) (Jv G (secs (hG l[0]) (hF l[0]) t) l (by rw [yI];have:=(zO he).2.2.2.2;omega)) rfl ?_ ?_;(focus trivial))
 apply lK<;>intro h
 ·have hne : ¬secs (hG l[0]) (hF l[0]) t=l:=by simpa using h
  rw [tX (hB.2 fun hx=>hne hx.2)]
  exact lZ [] (by trivial)
 have heq:secs (hG l[0]) (hF l[0]) t=l:=by simpa using h
 rw [Vf (hB.1 ⟨he,heq⟩)]
 exact lZ [2] (by trivial)
end
section
open Ky
def z64:By:=List.replicate 64 0
def dk0 (n:Nat):Dk:=⟨List.replicate n z64,List.replicate n z64, -1,0,false⟩
theorem Vo (n:Nat):U7 (List.replicate n z64):=fun s hs=>by rw [(List.mem_replicate.1 hs).2];rfl
theorem aaq {n:Nat}(h1:n%2=0)(h2:8<=n)(h3:n<=256):(dk0 n).ok:=by
 refine⟨?_, ?_, ?_,rfl,⟨je (-1),by show (-1:Int)<=9223372036854775807;decide⟩,⟨je 0,by show (0:Int)<=4611686018427387904;decide⟩,Vo n,Vo n⟩<;>simp [dk0]<;>omega
theorem aar {α:Type}(n:Nat)(a:α):List.replicate (n+1) a=List.replicate n a++ [a]:=jq
theorem afo (n:Nat)(h1:n%2=0)(h2:8<=n)(h3:n<=256):mQ Tryz.prog GS 46 [iv n] 0 [] (Is (.nN [uY (dk0 n),iv 0])):=by
 have hm:((n:Int)).tmod 2=((n%2:Nat):Int):=rfl
 refine lQ func46 rfl mixed (by kernel_rfl) ?_
 apply lK<;>intro h
 ·exfalso;simp at h;omega
 apply lK<;>intro h
 ·exfalso;simp at h;omega
 refine lN.mk (by decide) ?_
 rw [hm,h1]
 refine mO agm 4 [5] (fun i:Nat=> [(5,iv i)]) (fun i=> [(0, .var 40 [.v (.slice none 0 0), .v (.slice none 0 0),iv 0,iv 0,bv false]),(1, .var 40 [.own 2, .own 3,iv (-1),iv 0,bv false]),(2, .rows 22 1 ((List.replicate i z64).map FB)),(3, .rows 22 1 ((List.replicate i z64).map FB))]) (fun i=>i<=n) (fun i=>n-i) [(2, .nil),(3, .nil)] [] 0 (by kernel_rfl) (fun _=>rfl) rfl (au _) (by trivial) (by trivial) ?_
 intro i hi
 apply lK<;>intro h
 rotate_left
 ·have hie:i=n:=by simp at h;omega
  subst hie
  exact lZ [2,3] (by trivial)
 have hlt:i<n:=by simp at h;omega
 (refine mP aeX [2,4,5] (by kernel_rfl) ?_;conv=>whnf)
 refine KG.mk' 64 rfl rfl ⟨by decide,by decide⟩ ?_
 refine lN.mk (lS (by simp only [ln];omega) (by kernel_rfl)) ?_
 (refine mP aeX [3,7,8] (by kernel_rfl) ?_;conv=>whnf)
 refine KG.mk' 64 rfl rfl ⟨by decide,by decide⟩ ?_
 refine lN.mk (lS (by simp only [ln];omega) (by kernel_rfl)) ?_
 refine lV.i64 (by omega) ?_
 conv=>whnf
 have e : ∀i,List.map FB (List.replicate (i+1) z64)=List.map FB (List.replicate i z64)++ [[FV.lst 1 (List.replicate 64 [FV.v (Value.int .u8 0)])]]:=fun i=>by rw [aar,aJ];rfl
 refine lU (i+1) [(2, .lab 6),(3, .lab 9)] [] rfl (by show n -(i+1)<n-i;omega) hlt ?_ ⟨rfl,trivial⟩
 simp only [e]
 trivial
theorem TP (k:Nat)(hk:k<256):mQ Tryz.prog GS 17 [u8v k] 0 [] (Is (uY (dk0 (8+2*k%60)))):=by
 have hm:((2*k:Nat):Int).tmod 60=((2*k%60:Nat):Int):=rfl
 refine lQ func17 rfl mixed (by kernel_rfl) ?_
 refine lV.i64 (by omega) ?_
 refine lV.to (y:=((2*k:Nat):Int)) (by rw [IntWalk.i64_in _ (by omega)];omega) ?_
 refine lN.mk (by decide) ?_
 rw [hm]
 refine lV.to (y:=((8+2*k%60:Nat):Int)) (by rw [IntWalk.i64_in _ (by omega)];omega) ?_
 refine mY [] (by kernel_rfl) (afo (8+2*k%60) (by omega) (by omega) (by omega)) (by trivial) ?_
 exact lZ [] (by trivial)
theorem afp:wo z64=false:=by
 have h:hG z64=0:=by decide
 unfold wo
 rw [h];simp
theorem ajJ (n:Nat):qp (List.replicate n z64)=nxZ:=by
 cases n with
 | zero=>rfl
 | succ n=>exact Vg (by simp) (by simp [afp])
theorem afq (n:Nat):FW (List.replicate n z64)=false:=by rw [GY,ajJ];rfl
theorem ajK (n:Nat):wG 0 (List.replicate n z64)=0:=by
 induction n with
 | zero=>rfl
 | succ n ih=>
  unfold wG at ih ⊢
  rw [gu,eX,afp]
  exact ih
theorem Vp:tab [] = [0]:=by decide
theorem Vq {n:Nat}(h2:8<=n) : ∃d:Dk,wH (dk0 n)=(⟨d,1,0,1,1,[]⟩,0)∧d.ops=2:=by
 have hl:(dk0 n).now.length=n:=by simp [dk0]
 have e1:hlf ((dk0 n).now.take ((dk0 n).now.length/2)) ((dk0 n).now.drop ((dk0 n).now.length/2))=(1,[]):=by
  have ta:(dk0 n).now.take ((dk0 n).now.length/2)=List.replicate (n/2) z64:=by
   rw [hl];show (List.replicate n z64).take (n/2)=_
   rw [List.take_replicate,dW (by omega)]
  have tb:(dk0 n).now.drop ((dk0 n).now.length/2)=List.replicate (n-n/2) z64:=by
   rw [hl];show (List.replicate n z64).drop (n/2)=_
   rw [List.drop_replicate]
  rw [ta,tb]
  unfold hlf
  rw [afq,afq]
  rfl
 have e2:wH (dk0 n)=uO ⟨dk0 n,0,1,0,0,[]⟩:=by
  unfold wH
  rw [if_neg (show ¬((dk0 n).dead=true) by show ¬(false=true);decide),e1]
 have e3:wG 0 (dk0 n).now=0:=ajK n
 have e4:nS (tab [])=1:=by rw [Vp];decide
 have e5:uz 1 0 (tab [])=0:=by rw [Vp];decide
 have e6:zy 1 0 (tab []) = [sec 1 0 0 1 (prt (tab []) 0)]:=by
  unfold zy;rw [if_pos e5];unfold secs Di;rw [e4];rfl
 refine⟨((dk0 n).put 0 (sec 1 0 0 1 (prt (tab []) 0))).flush, ?_,rfl⟩
 rw [e2]
 have hc:=G5 (s:=⟨dk0 n,0,1,0,0,[]⟩) (d:=((dk0 n).put 0 (sec 1 0 0 1 (prt (tab []) 0))).flush) (e:=0) (by
  simp only [e3,hl,e4]
  rw [show (0:Int)+1=1 from rfl,e5]
  omega) (by
  simp only [e3]
  rw [show (0:Int)+1=1 from rfl,e6]
  show yN (dk0 n) (0*_) _=_
  rw [fJ]
  rfl)
 rw [hc]
 simp only [e3,e4]
 rfl
theorem aey:mQ Tryz.prog GS 9 [] 0 [] (Is (bv true)):=by
 have hO:=Oi (dk0 8) (aaq (by decide) (by decide) (by decide))
 obtain⟨d,e1,e2⟩:=Vq (n:=8) (by decide)
 rw [e1]at hO
 obtain⟨now,safe,fuse,ops,dead⟩:=d
 simp only at e2
 subst e2
 refine lQ func9 rfl mixed (by kernel_rfl) ?_
 refine mY [] (by kernel_rfl) (TP 0 (by decide)) (by trivial) ?_
 refine mY [] (by kernel_rfl) hO (by trivial) ?_
 exact lZ [] rfl
end
section
open Ky
theorem G7 (d:Dk)(h:d.ok):mQ Tryz.prog GS 53 [uY d] 0 [] (Is (bv true)):=by
 obtain⟨h1,h2,h3,h4,h5,h6,h7,h8⟩:=h
 have hN:=afo d.now.length h1 h2 h3
 refine lQ func53 rfl mixed (by kernel_rfl) ?_
 refine mY [] (by kernel_rfl) hN ⟨congrArg (fun n:Nat=>Value.int .i64 (n:Int)) (ah _),trivial⟩ ?_
 apply lK<;>intro h
 ·exfalso;simp only [ah]at h;simp at h;omega
 apply lK<;>intro h
 ·exfalso;simp at h;omega
 apply lK<;>intro h
 ·exfalso;simp at h;omega
 apply lK<;>intro h
 ·exfalso;simp at h;omega
 refine uj agp [5] (fun i:Nat=> [(5,iv i)]) (fun i=>i<=d.now.length) (fun i=>d.now.length-i) 0 (by kernel_rfl) (fun _=>rfl) (by kernel_rfl) (au _) (by trivial) (by trivial) ?_
 intro i hi
 apply lK<;>intro h
 rotate_left
 ·exact lZ [] rfl
 have hlt:i<d.now.length:=by simp at h;omega
 have hlt2:i<d.safe.length:=by omega
 have a1:=h7 d.now[i] (aT hlt)
 have a2:=h8 d.safe[i] (aT hlt2)
 refine mZ.mk' i rfl (pU hlt) ?_
 refine mD.lT (aj hlt) ?_
 apply lK<;>intro h
 ·exfalso;rw [ah,a1]at h;simp at h
 refine mZ.mk' i rfl (pU hlt2) ?_
 refine mD.lT (aj hlt2) ?_
 apply lK<;>intro h
 ·exfalso;rw [ah,a2]at h;simp at h
 refine lV.i64 (by omega) ?_
 exact lU (i+1) [] [] rfl (by show d.now.length -(i+1)<d.now.length-i;omega) hlt (by trivial) ⟨rfl,trivial⟩
theorem Om (d:Dk)(h:d.ok):mQ Tryz.prog GS 81 [uY d] 0 [] (Is (iv (vT d))):=by
 refine lQ func81 rfl mixed (by kernel_rfl) ?_
 (refine mF [] (by kernel_rfl) (G7 d h) rfl ?_ ?_;(focus trivial))
 apply lK<;>intro h
 ·exact lZ [] (Ak (by unfold vT;rw [if_pos h]))
 ·exact lZ [] (Ak (by unfold vT;rw [h];rfl))
theorem DL (l:List By)(hl:l.length<=100000):mQ Tryz.prog GS 64 [ss l] 0 [] (sW 22 1 (l.map FB)):=by
 refine lQ func64 rfl mixed (by kernel_rfl) ?_
 refine lN.mk (lS (by simp only [ln];omega) (by kernel_rfl)) ?_
 exact lX (.own 0) 1 _ [(0, .lab 1)] [] ⟨rfl,rfl,rfl⟩ rfl (by trivial) (by trivial)
theorem ahT (d:Dk)(h:d.ok):mQ Tryz.prog GS 47 [uY d,iv 0] 0 [] (fun a n H=>n=0∧H = []∧∃b,a = .nN [bs b,iv (vT d)]):=by
 have hr:=Om d h
 have hlo:=h.lo
 have h0:0<d.now.length:=by omega
 have h6:=h.n64 d.now[0] (aT h0)
 unfold vT at hr ⊢
 refine lQ func47 rfl mixed (by kernel_rfl) ?_
 (refine mF [] (by kernel_rfl) (hr) rfl ?_ ?_;(focus trivial))
 conv=>whnf
 rcases gq d.dead with hd|hd
 ·rw [if_pos hd]
  exact lX (.nN [bs [],iv 40]) 0 [] [] [] ⟨rfl,rfl,[],rfl⟩ rfl trivial (by trivial)
 ·rw [if_neg (by rw [hd];decide)]
  apply lK<;>intro h
  ·exfalso;simp at h;rw [h]at h0;exact absurd h0 (by decide)
  refine mZ.mk' 0 rfl (pU h0) ?_
  refine mD.lT (aj h0) ?_
  refine lN.mk (lS (by simp only [ln];omega) (by kernel_rfl)) ?_
  refine lX (.nN [bs d.now[0],iv 0]) 0 [] [] [2] ⟨rfl,rfl,_,rfl⟩ rfl trivial (by trivial)
theorem Vr (d:Dk)(h:d.ok):mQ Tryz.prog GS 133 [uY d] 0 [] (Is (.nN [uY (if d.fuse=0 then d.dying else d.tick),bv (decide (d.fuse≠0))])):=by
 have ho:=h.op
 have hf:=h.fs
 have tk1:d.fuse>0->d.tick = {d with fuse:=d.fuse-1,ops:=min (d.ops+1) 4611686018427387904}:=fun h=>by unfold Dk.tick;rw [if_pos h]
 have tk2 : ¬d.fuse>0->d.tick = {d with ops:=min (d.ops+1) 4611686018427387904}:=fun h=>by unfold Dk.tick;rw [if_neg h]
 refine lQ func133 rfl mixed (by kernel_rfl) ?_
 apply lK<;>intro h
 ·have h0:d.fuse=0:=by simpa using h
  rw [if_pos h0,show decide (d.fuse≠0)=false by rw [h0];rfl]
  exact lZ [] (by trivial)
 have h0:d.fuse≠0:=by simpa using h
 rw [if_neg h0,show decide (d.fuse≠0)=true from decide_eq_true h0]
 apply lK<;>intro h
 ·rw [tk1 (by simpa using h)]
  refine lV.i64 (by omega) ?_
  refine lV.i64 (by omega) ?_
  exact lZ [] (by trivial)
 ·rw [tk2 (by simpa using h)]
  refine lV.i64 (by omega) ?_
  exact lZ [] (by trivial)
theorem aez (d:Dk)(h:d.ok)(n:Nat)(hn:n<d.now.length)(b:By)(hb:b.length=64):mQ Tryz.prog GS 100 [uY d,iv n,bs b] 0 [] (Is (dWt d n b)):=by
 have hr:=Om d h
 have hS:=Vr d h
 have hhi:=h.hi
 have hC:=DL d.now (by omega)
 obtain⟨now,safe,fuse,ops,dead⟩:=d
 unfold vT at hr
 unfold dWt
 simp only at *
 refine lQ func100 rfl mixed (by kernel_rfl) ?_
 (refine mF [] (by kernel_rfl) (hr) rfl ?_ ?_;(focus trivial))
 cases dead with
 | true=>
  simp only [if_true]
  exact lZ [] (by trivial)
 | false=>
  simp only [bf,if_false]at *
  apply lK<;>intro h
  ·exfalso;rw [ah]at h;simp at h;omega
  apply lK<;>intro h
  ·exfalso;rw [ah,hb]at h;simp at h
  conv=>whnf
  by_cases hf:fuse=0
  ·subst hf
   simp only [if_pos rfl]at *
   refine mY [] (by kernel_rfl) hS (by trivial) ?_
   exact lZ [] (by trivial)
  simp only [if_neg hf,show decide (fuse≠0)=true from decide_eq_true hf]at *
  refine mY [] (by kernel_rfl) hS (by trivial) ?_
  refine mY [] (by kernel_rfl) hC (by trivial) ?_
  (refine mP agJ [3,4,5] (by kernel_rfl) ?_;conv=>whnf)
  refine lN.mk (lS (by simp only [ln];omega) (by kernel_rfl)) ?_
  refine mZ.mk' n rfl (pU hn) ?_
  refine mD.lT (aj hn) ?_
  exact lZ [3] ⟨⟨⟨rfl,rfl,bT.symm⟩,⟨rfl,rfl⟩,rfl,rfl,rfl,trivial⟩,rfl,trivial⟩
theorem aeA (d:Dk)(h:d.ok):mQ Tryz.prog GS 101 [uY d] 0 [] (Is (dFl d)):=by
 have hr:=Om d h
 have hS:=Vr d h
 have hhi:=h.hi
 have hC:=DL d.now (by omega)
 obtain⟨now,safe,fuse,ops,dead⟩:=d
 unfold vT at hr
 unfold dFl
 simp only at *
 refine lQ func101 rfl mixed (by kernel_rfl) ?_
 (refine mF [] (by kernel_rfl) (hr) rfl ?_ ?_;(focus trivial))
 cases dead with
 | true=>
  simp only [if_true]
  exact lZ [] (by trivial)
 | false=>
  simp only [bf,if_false]at *
  conv=>whnf
  by_cases hf:fuse=0
  ·subst hf
   simp only [if_pos rfl]at *
   refine mY [] (by kernel_rfl) hS (by trivial) ?_
   exact lZ [] (by trivial)
  simp only [if_neg hf,show decide (fuse≠0)=true from decide_eq_true hf]at *
  refine mY [] (by kernel_rfl) hS (by trivial) ?_
  refine mY [] (by kernel_rfl) hC (by trivial) ?_
  exact lZ [3] (by trivial)
def Dk.arm (d:Dk)(n:Int):Dk:= {d with fuse:=n}
theorem ajL (d:Dk)(h:d.ok)(n:Int):mQ Tryz.prog GS 20 [uY d,iv n] 0 [] (Is (uY (d.arm (max n (-1))))):=by
 refine lQ func20 rfl mixed (by kernel_rfl) ?_
 (refine mF [] (by kernel_rfl) (G7 d h) rfl ?_ ?_;(focus trivial))
 exact lZ [] (by trivial)
theorem ahU (a:Dk)(ha:a.now.length<=1000∧a.safe.length<=1000):mQ Tryz.prog GS 52 [uY a,uY a] 0 [] (Is (bv true)):=by
 have h1:=Jv GS a.now a.now (by omega)
 have h2:=Jv GS a.safe a.safe (by omega)
 rw [show decide (a.now=a.now)=true from decide_eq_true rfl]at h1
 rw [show decide (a.safe=a.safe)=true from decide_eq_true rfl]at h2
 refine lQ func52 rfl mixed (by kernel_rfl) ?_
 apply lK<;>intro h
 rotate_left
 ·exfalso;simp at h
 apply lK<;>intro h
 rotate_left
 ·exfalso;simp at h
 apply lK<;>intro h
 rotate_left
 ·exfalso;simp at h
 refine mY [] (by kernel_rfl) h1 (by trivial) ?_
 refine mY [] (by kernel_rfl) h2 (by trivial) ?_
 exact lZ [] rfl
def kp (pick:By)(k:Nat):Bool:=decide (k/8<pick.length)&& !(nD .and .u8 (((pick.getD (k/8) 0).toNat:Int).fdiv (2^min (((k%8:Nat):Int).toNat) IntKind.u8.bits)) 1==0)
theorem ajM {pick:By}{k:Nat}(h:k/8<pick.length):(nD .and .u8 ((pick[k/8].toNat:Int).fdiv (2^min (((k%8:Nat):Int).toNat) IntKind.u8.bits)) 1==0) = !kp pick k:=by
 unfold kp
 rw [decide_eq_true h,ay,aj h,bH,gW,Bool.not_not]
def JE (now safe:List By)(pick:By):Nat->List By×Nat
 | 0=>(now,0)
 | i+1=>if now.getD i []=safe.getD i []then JE now safe pick i else(if kp pick (JE now safe pick i).2 then(JE now safe pick i).1 else(JE now safe pick i).1.set i (safe.getD i []),(JE now safe pick i).2+1)
theorem QI {now safe:List By}{pick:By}{i:Nat}(h1:i<now.length)(h2:i<safe.length)(h:now[i]=safe[i]):JE now safe pick (i+1)=JE now safe pick i:=by
 show (if _ then _ else _)=_
 rw [if_pos]
 rw [ay,ay,aj h1,aj h2,bH,bH,h]
theorem QJ {now safe:List By}{pick:By}{i:Nat}(h1:i<now.length)(h2:i<safe.length)(h:now[i]≠safe[i]){l:List By}{k:Nat}(e:JE now safe pick i=(l,k))(hk:kp pick k=true):JE now safe pick (i+1)=(l,k+1):=by
 show (if _ then _ else _)=_
 rw [if_neg,e,if_pos hk]
 rw [ay,ay,aj h1,aj h2,bH,bH]
 exact h
theorem JF {now safe:List By}{pick:By}{i:Nat}(h1:i<now.length)(h2:i<safe.length)(h:now[i]≠safe[i]){l:List By}{k:Nat}(e:JE now safe pick i=(l,k))(hk:kp pick k=false):JE now safe pick (i+1)=(l.set i safe[i],k+1):=by
 show (if _ then _ else _)=_
 rw [if_neg,e,if_neg (by simp [hk]),ay,aj h2,bH]
 rw [ay,ay,aj h1,aj h2,bH,bH]
 exact h
theorem aas (now safe:List By)(pick:By)(h:safe.length=now.length) : ∀i,i<=now.length->(JE now safe pick i).1.length=now.length∧(JE now safe pick i).2<=i∧∀j,j<now.length->(JE now safe pick i).1[j]? = now[j]? ∨(JE now safe pick i).1[j]? = safe[j]? :=by
 intro i
 induction i with
 | zero=>intro _;exact⟨rfl,aA _,fun j _=> .inl rfl⟩
 | succ i ih=>
  intro hi
  obtain⟨a1,a2,a3⟩:=ih (by omega)
  obtain⟨l,k,e⟩ : ∃l k,JE now safe pick i=(l,k):=⟨_,_,rfl⟩
  rw [e]at a1 a2 a3
  have a1:l.length=now.length:=a1
  have a2:k<=i:=a2
  by_cases hs:now[i]=safe[i]
  ·rw [QI (by omega) (by omega) hs,e];exact⟨a1,by show _<=_;omega,a3⟩
  cases hk:kp pick k with
  | true=>rw [QJ (by omega) (by omega) hs e hk];exact⟨a1,by show _<=_;omega,a3⟩
  | false=>
   rw [JF (by omega) (by omega) hs e hk]
   refine⟨by rw [bV];exact a1,by show _<=_;omega,fun j hj=> ?_⟩
   by_cases hij:i=j
   ·subst hij
    right
    rw [fC (by omega),aj (by omega)]
   ·rw [iJ hij];exact a3 j hj
def Dk.crash (d:Dk)(pick:By):Dk:=⟨(JE d.now d.safe pick d.now.length).1,(JE d.now d.safe pick d.now.length).1, -1,d.ops,false⟩
structure CS where
 l:List By
 k:Nat
 i:Nat
theorem Vs (d:Dk)(h:d.ok)(pick:By):mQ Tryz.prog GS 26 [uY d,bs pick] 0 [] (Is (uY (d.crash pick))):=by
 have hhi:=h.hi
 have hsf:=h.sf
 have hC:=DL d.now (by omega)
 have hat:=aas d.now d.safe pick hsf
 refine lQ func26 rfl mixed (by kernel_rfl) ?_
 (refine mF [] (by kernel_rfl) (G7 d h) rfl ?_ ?_;(focus trivial))
 refine mY [] (by kernel_rfl) hC (by trivial) ?_
 refine mO agb 4 [6,7] (fun x:CS=> [(6,iv x.k),(7,iv x.i)]) (fun x=> [(0, .var 40 (dkC d)),(1, .var 40 [.v (.slice none 0 0), .v (.slice none 0 0),iv 0,iv 0,bv false]),(2, .var 40 [.own 3,ss d.safe,iv d.fuse,iv d.ops,bv d.dead]),(3, .rows 22 1 (x.l.map FB))]) (fun x=>x.i<=d.now.length∧JE d.now d.safe pick x.i=(x.l,x.k)) (fun x=>d.now.length-x.i) [] [] ⟨d.now,0,0⟩ (by kernel_rfl) (fun _=>rfl) rfl ⟨au _,rfl⟩ (by trivial) (by trivial) ?_
 rintro⟨l,k,i⟩ ⟨hi,hI⟩
 dsimp only at hi hI
 have ha:=hat i hi
 rw [hI]at ha
 obtain⟨hll,hk, -⟩:=ha
 dsimp only at hll hk
 apply lK<;>intro h
 rotate_left
 ·have hie:i=d.now.length:=by simp only [ah]at h;simp at h;omega
  subst hie
  have hC2:=DL l (by omega)
  have e:d.crash pick=⟨l,l, -1,d.ops,false⟩:=by unfold Dk.crash;rw [hI]
  rw [e]
  refine mY [3] (by kernel_rfl) hC2 (by trivial) ?_
  exact lZ [3,4] (by trivial)
 have hlt:i<d.now.length:=by simp only [ah]at h;simp at h;omega
 have hlt2:i<d.safe.length:=by omega
 (refine mP Yk [] (by kernel_rfl) ?_;conv=>whnf)
 have hln:i<l.length:=by omega
 refine mZ.mk' i rfl (pU hlt) ?_
 refine mD.lT (aj hlt) ?_
 refine F7.of ?_
 refine mZ.mk' i rfl (pU hlt2) ?_
 refine mD.lT (aj hlt2) ?_
 refine F7.of ?_
 conv=>whnf
 rw [qP]
 by_cases hs:d.now[i]=d.safe[i]
 ·rw [decide_eq_true hs]
  refine lV.i64 (by(try dsimp only);omega) ?_
  exact lU ⟨l,k,i+1⟩ [] [] rfl (by show d.now.length -(i+1)<d.now.length-i;omega) ⟨hlt,(QI hlt hlt2 hs).trans hI⟩ (by trivial) ⟨rfl,rfl,trivial⟩
 rw [decide_eq_false hs]
 have hm:((k:Nat):Int).tmod 8=((k%8:Nat):Int):=rfl
 refine lN.mk (by decide) ?_
 refine lV.divN k 8 (by(try dsimp only);omega) ?_
 apply lK<;>intro h
 ·have hkp:kp pick k=false:=by
   unfold kp
   rw [decide_eq_false (by simp only [ah]at h;simp at h;omega),dY]
  (refine mP Yk [3] (by kernel_rfl) ?_;conv=>whnf)
  refine mZ.mk' i rfl (pU hlt2) ?_
  refine mD.lT (aj hlt2) ?_
  refine mZ.mk' i rfl (pU hln) ?_
  refine mD.lT (aj hln) ?_
  refine lV.i64 (by(try dsimp only);omega) ?_
  refine lV.i64 (by(try dsimp only);omega) ?_
  exact lU ⟨l.set i d.safe[i],k+1,i+1⟩ [] [] rfl (by show d.now.length -(i+1)<d.now.length-i;omega) ⟨hlt,JF hlt hlt2 hs hI hkp⟩ (by simp only [bT];trivial) ⟨rfl,rfl,trivial⟩
 have hlk:k/8<pick.length:=by simp only [ah]at h;simp at h;omega
 refine lN.mk (by decide) ?_
 refine lV.divN k 8 (by(try dsimp only);omega) ?_
 refine mZ.mk' (k/8) rfl (pU hlk) ?_
 refine mD.lT (aj hlk) ?_
 refine lN.mk (by decide) ?_
 rw [hm]
 refine lV.to (y:=((k%8:Nat):Int)) (IntWalk.u64_in _ (by omega)) ?_
 refine lN.mk (Int.natCast_nonneg _) ?_
 conv=>whnf
 rw [ajM hlk]
 rcases gq (kp pick k)with hkp|hkp
 ·rw [hkp]
  refine lV.i64 (by(try dsimp only);omega) ?_
  refine lV.i64 (by(try dsimp only);omega) ?_
  exact lU ⟨l,k+1,i+1⟩ [] [] rfl (by show d.now.length -(i+1)<d.now.length-i;omega) ⟨hlt,QJ hlt hlt2 hs hI hkp⟩ (by trivial) ⟨rfl,rfl,trivial⟩
 ·rw [hkp]
  (refine mP Yk [3] (by kernel_rfl) ?_;conv=>whnf)
  refine mZ.mk' i rfl (pU hlt2) ?_
  refine mD.lT (aj hlt2) ?_
  refine mZ.mk' i rfl (pU hln) ?_
  refine mD.lT (aj hln) ?_
  refine lV.i64 (by(try dsimp only);omega) ?_
  refine lV.i64 (by(try dsimp only);omega) ?_
  exact lU ⟨l.set i d.safe[i],k+1,i+1⟩ [] [] rfl (by show d.now.length -(i+1)<d.now.length-i;omega) ⟨hlt,JF hlt hlt2 hs hI hkp⟩ (by simp only [bT];trivial) ⟨rfl,rfl,trivial⟩
end
end Go.Proofs.YtocckceefcmeaaaGreatDoor.Cl
