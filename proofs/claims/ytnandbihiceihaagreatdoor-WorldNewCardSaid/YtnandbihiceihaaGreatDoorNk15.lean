/- Joined parts of the proof. The walks of the reference's Reader: New, Fail, Number, Count; and of begins -/
import Derived.Test.YtnandbihiceihaaGreatDoorNk14
import Derived.Test.YtnandbihiceihaaGreatDoorNk12
import Derived.Test.YtnandbihiceihaaGreatDoorNk13
import Derived.Test.YtnandbihiceihaaGreatDoorNk10
set_option linter.unusedVariables false
set_option linter.unusedSimpArgs false
set_option maxRecDepth 100000
set_option maxHeartbeats 16000000
namespace Go.Proofs.YtnandbihiceihaaGreatDoor.Cl
open RowKit Vc Ax Go.Proofs.Tryz
attribute [local irreducible] loadVar storeVar Instr.indexAt Instr.index Instr.sliceAt Instr.makeSlice Instr.lookup Instr.mapUpdate Instr.range Instr.next Instr.entry Instr.makeMap Builtin.append_ Builtin.copy_ Builtin.len_ Builtin.min_ Builtin.max_ Builtin.cap_ Builtin.delete_ Builtin.clear_ convert binOp eqGuard Op.unary Calls
structure DX where
 j:Nat
 e:Int
 out:Li
theorem Gd.mono {b:By}{Q Q':Li->By->Prop}(h:Gd b Q)(k : ∀l0 r,wC l0->l0.length<=512->Q l0 r->Q' l0 r):Gd b Q':=fun l0 r h1 h2 h3=>k l0 r h1 h2 (h l0 r h1 h2 h3)
section
attribute [local irreducible] num hsh
theorem LY {α:Type}{a b:List α}{i:Nat}(ha:i<a.length)(hb:i<b.length)(h:a.take i=b.take i)(e:a[i]=b[i]):a.take (i+1)=b.take (i+1):=by
 rw [dK ha,dK hb,h,e]
abbrev fnV (f:Nat):AV:= .v (.func (.func f) #[] #[])
theorem He (G:Glob)(a b:List By)(hl:a.length<=1000000):kQ Tryz.prog G 156 [ss a,ss b] 0 [] (Is (bv (decide (a=b)))):=by
 refine jJ func156 rfl mixed aac ?_
 apply jH<;>intro h
 ·have hn:a≠b:=fun e=>by subst e;simp at h
  exact jW [] (congrArg Value.bool (decide_eq_false hn).symm)
 have hlen:a.length=b.length:=aap
 refine yF Rz [5] (fun i:Nat=> [(5,iv i)]) (fun i=>i<=a.length∧a.take i=b.take i) (fun i=>a.length-i) 0 aac (fun _=>rfl) aac ⟨aK _,rfl⟩ aae aae ?_
 rintro i ⟨hi,ht⟩
 apply jH<;>intro h
 rotate_left
 ·have hie:i=a.length:=aap
  subst hie
  have hab:a=b:=by rw [fD,hlen,fD]at ht;exact ht
  exact jW [] (congrArg Value.bool (decide_eq_true hab).symm)
 have hlt:i<a.length:=aap
 have hlt2:i<b.length:=aad
 (refine kN Wj [] aac ?_;conv=>whnf)
 refine nG.mk' i rfl (EX hlt) ?_
 refine nH.pJ (aB hlt) ?_
 refine Nl.of ?_
 refine nG.mk' i rfl (EX hlt2) ?_
 refine nH.pJ (aB hlt2) ?_
 refine Nl.of ?_
 apply jH<;>intro h
 ·have hne:a[i]≠b[i]:=by rw [lU]at h;simpa using h
  have hn:a≠b:=fun e=>hne (by subst e;rfl)
  exact jW [] (congrArg Value.bool (decide_eq_false hn).symm)
 have he:a[i]=b[i]:=by rw [lU]at h;simpa using h
 refine kP.i64 aad ?_
 exact oI (i+1) [] [] rfl (by show a.length -(i+1)<a.length-i;omega) ⟨hlt,LY hlt hlt2 ht he⟩ aae ⟨rfl,trivial⟩
end
abbrev Zk (d:Dk):List AV:= [ss d.now,ss d.safe,iv d.fuse,iv d.ops,bv d.dead]
abbrev qp (d:Dk):AV:= .agg (Zk d)
def Xo:List FV:= [.v (.slice none 0 0)]
theorem uT (G:Glob)(b:By)(h0:b≠ [])(hl:b.length<=1000000):kQ Tryz.prog G 110 [bs b] 0 [] (wo 5 1 (b.map pR)):=by
 have h0:0<b.length:=List.length_pos_iff.2 h0
 refine jJ func110 rfl mixed aac ?_
 refine⟨fun b hb=> ?_⟩
 rw [hb (EX h0)]
 refine jS.mk (og aa0 aac) ?_
 exact sD (.own 0) 1 _ [(0, .lab 1)] [] ⟨rfl,rfl,rfl⟩ rfl aae aae
def J4 (l:List By)(i:Nat):List (List FV):=(l.take i).map oV++List.replicate (l.length-i) Xo
theorem Hf (l:List By):J4 l 0=List.replicate l.length Xo:=by simp [J4]
theorem J5 (l:List By):J4 l l.length=l.map oV:=by simp [J4]
theorem J6 {l:List By}{i:Nat}(h:i<=l.length):(J4 l i).length=l.length:=by simp [J4];omega
theorem PZ {l:List By}{i:Nat}(h:i<l.length):(J4 l i)[i]? = some Xo:=by
 unfold J4
 rw [bY aaT]
 simp only [ln]
 rw [eU aad,gY,fG,if_pos aad]
theorem J7 {l:List By}{i:Nat}(h:i<l.length):(J4 l i).set i (oV l[i])=J4 l (i+1):=by
 unfold J4
 rw [iK _ _ aaT]
 simp only [ln]
 rw [eU aad,gY,show l.length-i=(l.length -(i+1))+1 by omega,dQ,List.set_cons_zero,dK h,bK,bg]
 rfl
theorem zL (G:Glob)(l:List By)(h64:Ji l)(hl:l.length<=1000):kQ Tryz.prog G 213 [ss l] 0 [] (wo 38 1 (l.map oV)):=by
 refine jJ func213 rfl mixed aac ?_
 refine pW.mk' l.length (by rw [au]) (by rw [au]) ⟨by show 24*l.length<=_;omega,by unfold maxLen;omega⟩ ?_
 refine qm RU 1 [11] (fun i:Nat=> [(11,iv i)]) (fun i=> [(0, .rows 38 1 (J4 l i))]) (fun i=>i<=l.length) (fun i=>l.length-i) [] [] 0 aac (fun _=>rfl) rfl (aK _) ⟨⟨rfl,rfl,(Hf l).symm⟩,trivial⟩ ⟨rfl,trivial⟩ ?_
 intro i hi
 apply jH<;>intro h
 rotate_left
 ·have hie:i=l.length:=aap
  subst hie
  rw [J5]
  exact sD (.own 0) 1 _ [(0, .lab 0)] [] ⟨rfl,rfl,rfl⟩ rfl aae aae
 have hlt:i<l.length:=aap
 have h6:=h64 l[i] (bQ hlt)
 refine nG.mk' i rfl (EX hlt) ?_
 refine nH.pJ (aB hlt) ?_
 refine nI [] aac (uT G l[i] (fun e=>by rw [e]at h6;cases h6) aad) aae ?_
 refine nG.mk' i rfl (by rw [J6 hi];exact hlt) ?_
 refine nH.at (PZ hlt) ?_
 refine kP.i64 aad ?_
 exact oI (i+1) [] [] rfl aaC hlt ⟨⟨rfl,rfl,J7 hlt⟩,trivial⟩ ⟨rfl,trivial⟩
theorem Xp (G:Glob)(b:By):kQ Tryz.prog G 275 [bs b] 0 [] (Is (bv (decide (b.length≠64)))):=by
 refine jJ func275 rfl mixed aac ?_
 refine jW [] (congrArg Value.bool ?_)
 rw [au]
 by_cases h:b.length=64
 ·simp [h]
 ·simp [h];omega
theorem Ur (G:Glob)(l:List By)(h64:Ji l)(hl:l.length<=1000):kQ Tryz.prog G 322 [ss l,fnV 275] 0 [] (Is (iv (-1))):=by
 refine jJ func322 rfl mixed aac ?_
 refine yF Sm [8] (fun i:Nat=> [(8,iv i)]) (fun i=>i<=l.length) (fun i=>l.length-i) 0 aac (fun _=>rfl) aac (aK _) aae aae ?_
 intro i hi
 apply jH<;>intro h
 rotate_left
 ·exact jW [] rfl
 have hlt:i<l.length:=aap
 have h6:=h64 l[i] (bQ hlt)
 have hw:=Xp G l[i]
 rw [h6]at hw
 refine nG.mk' i rfl (EX hlt) ?_
 refine nH.pJ (aB hlt) ?_
 refine kU [] aac hw rfl aae ?_
 refine kP.i64 aad ?_
 exact oI (i+1) [] [] rfl aaC hlt aae ⟨rfl,trivial⟩
theorem BG (G:Glob)(l:List By)(h64:Ji l)(hl:l.length<=1000):kQ Tryz.prog G 276 [ss l,fnV 275] 0 [] (Is (bv false)):=by
 refine jJ func276 rfl mixed aac ?_
 (refine kU [] aac (Ur G l h64 hl) rfl ?_ ?_;(focus trivial))
 exact jW [] rfl
theorem Dw (G:Glob)(n:Nat)(h1:n%2=0)(h2:8<=n)(h3:n<=256):kQ Tryz.prog G 60 [iv n] 0 [] (Is (bv true)):=by
 refine jJ func60 rfl mixed aac ?_
 conv=>whnf
 have hm:((n:Int)).tmod 2=((n%2:Nat):Int):=rfl
 refine jS.mk aah ?_
 rw [hm,h1]
 apply jH<;>intro h
 rotate_left
 ·exfalso;simp at h;omega
 exact jW [] (congrArg Value.bool aaT)
theorem Jl (G:Glob)(d:Dk)(h:d.ok):kQ Tryz.prog G 208 [qp d] 0 [] (Is (bv true)):=by
 obtain⟨h1,h2,h3,h4,h5,h6,h7,h8⟩:=h
 have hs:=Dw G d.now.length h1 h2 h3
 have hs:kQ Tryz.prog G 60 [iv ((d.now.map oV).length:Nat)] 0 [] (Is (bv true)):=by rw [au];exact hs
 refine jJ func208 rfl mixed aac ?_
 (refine kU [] aac (hs) rfl ?_ ?_;(focus trivial))
 apply jH<;>intro h
 ·exfalso;rw [au,au]at h;simp at h;omega
 apply jH<;>intro h
 ·exfalso;simp at h;omega
 apply jH<;>intro h
 ·exfalso;simp at h;omega
 apply jH<;>intro h
 ·exfalso;simp at h;omega
 (refine kU [] aac (BG G d.now h7 aad) rfl ?_ ?_;(focus trivial))
 (refine kU [] aac (BG G d.safe h8 aad) rfl ?_ ?_;(focus trivial))
 exact jW [] rfl
theorem LZ (G:Glob):kQ Tryz.prog G 60 [iv 0] 0 [] (Is (bv false)):=by
 refine jJ func60 rfl mixed aac ?_
 refine jS.mk aah ?_
 exact jW [] rfl
theorem Us (G:Glob):kQ Tryz.prog G 208 [qp Dk.zero] 0 [] (Is (bv false)):=by
 refine jJ func208 rfl mixed aac ?_
 (refine kU [] aac (LZ G) rfl ?_ ?_;(focus trivial))
 exact jW [] rfl
def qB (d:Dk):Int:=if d.dead then 40 else 0
theorem Jm (G:Glob)(d:Dk)(h:d.ok):kQ Tryz.prog G 140 [qp d] 0 [] (Is (iv (qB d))):=by
 refine jJ func140 rfl mixed aac ?_
 (refine kU [] aac (Jl G d h) rfl ?_ ?_;(focus trivial))
 apply jH<;>intro h
 ·exact jW [] (MF (by unfold qB;rw [if_pos h]))
 ·exact jW [] (MF (by unfold qB;rw [h];rfl))
theorem Xq (G:Glob)(d:Dk)(h:d.ok):kQ Tryz.prog G 62 [qp d,iv 0] 0 [] (fun a n H=>n=0∧H = []∧∃b,a = .kZ [bs b,iv (qB d)]):=by
 have hr:=Jm G d h
 have hlo:=h.lo
 have h0:0<d.now.length:=aad
 have h6:=h.n64 d.now[0] (bQ h0)
 unfold qB at hr ⊢
 refine jJ func62 rfl mixed aac ?_
 (refine kU [] aac (hr) rfl ?_ ?_;(focus trivial))
 conv=>whnf
 cases hd:d.dead with
 | true=>
  simp only [hd,if_true]
  exact sD (.kZ [bs [],iv 40]) 0 [] [] [] ⟨rfl,rfl,[],rfl⟩ rfl trivial aae
 | false=>
  simp only [hd,aS,if_false]
  apply jH<;>intro h
  ·exfalso;simp at h;rw [h]at h0;exact absurd h0 aah
  refine nG.mk' 0 rfl (EX h0) ?_
  refine nH.pJ (aB h0) ?_
  refine nI [] aac (uT G d.now[0] (fun e=>by rw [e]at h6;cases h6) aad) aae ?_
  refine sD (.kZ [bs d.now[0],iv 0]) 0 [] [] [1] ⟨rfl,rfl,_,rfl⟩ rfl trivial aae
def CpD (T:Nat)(d:Dk)(a:AV)(n:Nat)(H:jI):Prop:=a = .agg [.own 0, .own 1,iv d.fuse,iv d.ops,bv d.dead]∧n=2∧H = [(0, .rows T 1 (d.now.map oV)),(1, .rows T 1 (d.safe.map oV))]
theorem Hg (G:Glob)(d:Dk)(h:d.ok):kQ Tryz.prog G 207 [qp d] 0 [] (CpD 38 d):=by
 have hhi:=h.hi
 have hsf:=h.sf
 refine jJ func207 rfl mixed aac ?_
 (refine kN Wq [] aac ?_;conv=>whnf)
 refine nI [] aac (zL G d.now h.n64 aad) aae ?_
 refine nI [] aac (zL G d.safe h.f64 aad) aae ?_
 exact sD (.agg [.own 0, .own 1,iv d.fuse,iv d.ops,bv d.dead]) 2 _ [(0, .lab 2),(1, .lab 3)] [] ⟨rfl,rfl,rfl⟩ rfl aae aae
def XV (d:Dk)(n:Nat)(b:By):AV:=if d.dead then .kZ [qp Dk.zero,iv 40]else if d.fuse=0 then .kZ [qp d.dying,iv 40]else .kZ [qp (d.put n b),iv 0]
theorem y5 {G:Glob}{n n1:Nat}{H1:jI}{a:AV}{K:AV->Nat->jI->Prop}(a':AV)(Z:List Nat)(k:Ax.spine (Oh n H1) fun H0=>K a' n H0)(hwf:Ls n n [] Z (Oh n H1)=true)(hH:MC H1 [] Z n (Oh n H1))(hc:co H1 [] Z n a' a):BU G n K a n1 H1:=
 sD a' n _ [] Z (by rw [Ax.lQ]at k;exact k) hwf hH hc
theorem J8 {G:Glob}{n n1:Nat}{H1:jI}{a:AV}{K:AV->Nat->jI->Prop}(hn:n<=n1)(k:K a n1 H1):BU G n K a n1 H1:=
 ⟨⟨a,n1,H1,k,hn,fun _ _ _ σ' F' _ _ s r=>⟨σ',F',s,r,fun _ _=>rfl,fun _ h=>h⟩⟩⟩
theorem Ut (G:Glob)(d:Dk)(h:d.ok)(n:Nat)(hn:n<d.now.length)(b:By)(hb:b.length=64):kQ Tryz.prog G 227 [qp d,iv n,bs b] 0 [] (Is (XV d n b)):=by
 have hr:=Jm G d h
 have hC:=Hg G d h
 obtain⟨h1,h2,h3,h4,h5,h6,h7,h8⟩:=h
 obtain⟨now,safe,fuse,ops,dead⟩:=d
 unfold qB at hr
 unfold XV
 unfold CpD at hC
 simp only at *
 refine jJ func227 rfl mixed aac ?_
 (refine kU [] aac (hr) rfl ?_ ?_;(focus trivial))
 cases dead with
 | true=>
  simp only [if_true]
  exact jW [] aae
 | false=>
  simp only [aS,if_false]at *
  apply jH<;>intro h
  ·exfalso;rw [au]at h;simp at h;omega
  apply jH<;>intro h
  ·exfalso;rw [au,hb]at h;simp at h
  (refine kF aac (jJ func294 rfl mixed aac ?_);(conv=>whnf))
  refine nI [] aac hC aae ?_
  apply jH<;>intro h
  ·have hf:fuse=0:=aaU
   rw [if_pos hf]
   refine y5 (.kZ [qp (Dk.dying ⟨now,safe,fuse,ops,false⟩),iv 40]) [6,7] ?_ rfl ?_ ?_
   rotate_left
   ·trivial
   ·trivial
   exact jW [] aae
  have hf:fuse≠0:=aaU
  rw [if_neg hf]
  apply jH<;>intro h
  ·refine kP.i64 aad ?_
   (refine kF aac (jJ func295 rfl mixed aac ?_);(conv=>whnf))
   (refine kN Oq [] aac ?_;conv=>whnf)
   refine nI [] aac (uT G b (fun e=>by rw [e]at hb;cases hb) aad) aae ?_
   refine nG.mk' n rfl (EX hn) ?_
   refine nH.pJ (aB hn) ?_
   refine y5 (.kZ []) [] ?_ rfl ?_ ?_
   rotate_left
   ·trivial
   ·trivial
   refine kP.i64 aad ?_
   refine y5 (.kZ [qp (Dk.put ⟨now,safe,fuse,ops,false⟩ n b),iv 0]) [6,7] ?_ rfl ?_ ?_
   rotate_left
   ·trivial
   ·exact⟨⟨⟨rfl,rfl,jG.symm⟩,⟨rfl,rfl,rfl⟩,MF (by simp at h;show (fuse-1)=if 0<fuse then fuse-1 else fuse;split<;>omega),rfl,rfl,trivial⟩,rfl,trivial⟩
   exact jW [] aae
  ·(refine kF aac (jJ func295 rfl mixed aac ?_);(conv=>whnf))
   (refine kN Oq [] aac ?_;conv=>whnf)
   refine nI [] aac (uT G b (fun e=>by rw [e]at hb;cases hb) aad) aae ?_
   refine nG.mk' n rfl (EX hn) ?_
   refine nH.pJ (aB hn) ?_
   refine y5 (.kZ []) [] ?_ rfl ?_ ?_
   rotate_left
   ·trivial
   ·trivial
   refine kP.i64 aad ?_
   refine y5 (.kZ [qp (Dk.put ⟨now,safe,fuse,ops,false⟩ n b),iv 0]) [6,7] ?_ rfl ?_ ?_
   rotate_left
   ·trivial
   ·exact⟨⟨⟨rfl,rfl,jG.symm⟩,⟨rfl,rfl,rfl⟩,MF (by simp at h;show fuse=if 0<fuse then fuse-1 else fuse;split<;>omega),rfl,rfl,trivial⟩,rfl,trivial⟩
   exact jW [] aae
def XW (d:Dk):AV:=if d.dead then .kZ [qp Dk.zero,iv 40]else if d.fuse=0 then .kZ [qp d.dying,iv 40]else .kZ [qp d.flush,iv 0]
theorem Uu (G:Glob)(d:Dk)(h:d.ok):kQ Tryz.prog G 229 [qp d] 0 [] (Is (XW d)):=by
 have hr:=Jm G d h
 have hC:=Hg G d h
 obtain⟨h1,h2,h3,h4,h5,h6,h7,h8⟩:=h
 obtain⟨now,safe,fuse,ops,dead⟩:=d
 unfold qB at hr
 unfold XW
 unfold CpD at hC
 simp only at *
 refine jJ func229 rfl mixed aac ?_
 (refine kU [] aac (hr) rfl ?_ ?_;(focus trivial))
 cases dead with
 | true=>
  simp only [if_true]
  exact jW [] aae
 | false=>
  simp only [aS,if_false]at *
  (refine kF aac (jJ func294 rfl mixed aac ?_);(conv=>whnf))
  refine nI [] aac hC aae ?_
  apply jH<;>intro h
  ·have hf:fuse=0:=aaU
   rw [if_pos hf]
   refine y5 (.kZ [qp (Dk.dying ⟨now,safe,fuse,ops,false⟩),iv 40]) [4,5] ?_ rfl ?_ ?_
   rotate_left
   ·trivial
   ·trivial
   exact jW [] aae
  have hf:fuse≠0:=aaU
  rw [if_neg hf]
  apply jH<;>intro h
  ·refine kP.i64 aad ?_
   (refine kF aac (jJ func296 rfl mixed aac ?_);(conv=>whnf))
   refine nI [4] aac (zL G now h7 aad) aae ?_
   refine J8 aah ?_
   refine kP.i64 aad ?_
   refine y5 (.kZ [qp (Dk.flush ⟨now,safe,fuse,ops,false⟩),iv 0]) [7] ?_ rfl ?_ ?_
   rotate_left
   ·trivial
   ·exact⟨⟨⟨rfl,rfl⟩,⟨rfl,rfl,rfl⟩,MF (by simp at h;show (fuse-1)=if 0<fuse then fuse-1 else fuse;split<;>omega),rfl,rfl,trivial⟩,rfl,trivial⟩
   exact jW [] aae
  ·(refine kF aac (jJ func296 rfl mixed aac ?_);(conv=>whnf))
   refine nI [4] aac (zL G now h7 aad) aae ?_
   refine J8 aah ?_
   refine kP.i64 aad ?_
   refine y5 (.kZ [qp (Dk.flush ⟨now,safe,fuse,ops,false⟩),iv 0]) [7] ?_ rfl ?_ ?_
   rotate_left
   ·trivial
   ·exact⟨⟨⟨rfl,rfl⟩,⟨rfl,rfl,rfl⟩,MF (by simp at h;show fuse=if 0<fuse then fuse-1 else fuse;split<;>omega),rfl,rfl,trivial⟩,rfl,trivial⟩
   exact jW [] aae
abbrev Vf (s:So):List AV:=Zk s.d++ [iv s.gen,iv s.half,iv s.next,iv s.frame,el s.ev]
abbrev stA (s:So):AV:= .agg (Vf s)
theorem Hl {l:List By}{i:Nat}(h:i<l.length):(l.take (i+1)).map oV=(l.take i).map oV++ [[.lst 1 (l[i].map pR)]]:=by
 rw [dK h,bK];rfl
theorem Ho (G:Glob)(l:List By)(h64:Ji l)(hl:l.length<=1000):kQ Tryz.prog G 141 [ss l] 0 [] (Is (ss l)):=by
 refine jJ func141 rfl mixed aac ?_
 refine qm Rq 1 [3,8] (fun i:Nat=> [(3, .own 0),(8,iv i)]) (fun i=> [(0, .rows 38 1 ((l.take i).map oV))]) (fun i=>i<=l.length) (fun i=>l.length-i) [(0, .nil)] [] 0 aac (fun _=>rfl) rfl (aK _) aae aae ?_
 intro i hi
 apply jH<;>intro h
 rotate_left
 ·have hie:i=l.length:=aap
  subst hie
  rw [fD]
  exact jW [0] aae
 have hlt:i<l.length:=aap
 have h6:=h64 l[i] (bQ hlt)
 refine nG.mk' i rfl (EX hlt) ?_
 refine nH.pJ (aB hlt) ?_
 refine nI [] aac (uT G l[i] (fun e=>by rw [e]at h6;cases h6) aad) aae ?_
 refine jS.mk (og aa0 aac) ?_
 refine kP.i64 aad ?_
 exact oI (i+1) [(0, .lab 3)] [] rfl aaC hlt ⟨⟨rfl,rfl,(Hl hlt).symm⟩,trivial⟩ ⟨rfl,rfl,trivial⟩
theorem uU (G:Glob)(l:List By)(h64:Ji l)(hl:l.length<=1000):kQ Tryz.prog G 111 [ss l] 0 [] (Is (ss l)):=by
 refine jJ func111 rfl mixed aac ?_
 refine qm Ri 1 [3,8] (fun i:Nat=> [(3, .own 0),(8,iv i)]) (fun i=> [(0, .rows 38 1 ((l.take i).map oV))]) (fun i=>i<=l.length) (fun i=>l.length-i) [(0, .nil)] [] 0 aac (fun _=>rfl) rfl (aK _) aae aae ?_
 intro i hi
 apply jH<;>intro h
 rotate_left
 ·have hie:i=l.length:=aap
  subst hie
  rw [fD]
  exact jW [0] aae
 have hlt:i<l.length:=aap
 have h6:=h64 l[i] (bQ hlt)
 refine nG.mk' i rfl (EX hlt) ?_
 refine nH.pJ (aB hlt) ?_
 refine nI [] aac (uT G l[i] (fun e=>by rw [e]at h6;cases h6) aad) aae ?_
 refine jS.mk (og aa0 aac) ?_
 refine kP.i64 aad ?_
 exact oI (i+1) [(0, .lab 3)] [] rfl aaC hlt ⟨⟨rfl,rfl,(Hl hlt).symm⟩,trivial⟩ ⟨rfl,rfl,trivial⟩
theorem P5 (G:Glob)(d:Dk)(h:d.ok):kQ Tryz.prog G 64 [qp d] 0 [] (Is (qp d)):=by
 have hhi:=h.hi
 have hsf:=h.sf
 refine jJ func64 rfl mixed aac ?_
 (refine kN YB [] aac ?_;conv=>whnf)
 repeat' (first
  | (refine rQ [] aac (Ho G d.now h.n64 aad) ?_ ?_;(focus (trivial;done));rintro _ _ _ ⟨rfl,rfl,rfl⟩;conv=>whnf)
  | (refine rQ [] aac (Ho G d.safe h.f64 aad) ?_ ?_;(focus (trivial;done));rintro _ _ _ ⟨rfl,rfl,rfl⟩;conv=>whnf))
 exact jW [] aae
theorem leftA (G:Glob)(d d':Dk)(h:d'.ok):kQ Tryz.prog G 228 [qp d,qp d'] 0 [] (Is (qp d')):=by
 refine jJ func228 rfl mixed aac ?_
 (refine kU [] aac (Jl G d' h) rfl ?_ ?_;(focus trivial))
 exact jW [] aae
theorem P6 (G:Glob)(d:Dk)(h:d.ok):kQ Tryz.prog G 228 [qp d,qp Dk.zero] 0 [] (Is (qp d)):=by
 refine jJ func228 rfl mixed aac ?_
 (refine kU [] aac (Us G) rfl ?_ ?_;(focus trivial))
 refine nI [] aac (P5 G d h) aae ?_
 exact jW [] aae
structure WS where
 d:Dk
 i:Nat
theorem J9 (G:Glob)(d:Dk)(h:d.ok)(at_:Nat)(l:List By)(h64:Ji l)(hat:at_+l.length<=d.now.length):kQ Tryz.prog G 147 [qp d,iv at_,ss l] 0 [] (Is (.kZ [qp (sG d at_ l).1,iv (sG d at_ l).2])):=by
 have hhi:=h.hi
 refine jJ func147 rfl mixed aac ?_
 refine qm Ru 2 [16] (fun x:WS=> [(16,iv x.i)]) (fun x=> [(0, .var 35 (Zk x.d)),(1, .var 35 [.v (.slice none 0 0), .v (.slice none 0 0),iv 0,iv 0,bv false])]) (fun x=>x.i<=l.length∧x.d.ok∧x.d.now.length=d.now.length∧sG d at_ l=sG x.d (at_+x.i) (l.drop x.i)) (fun x=>l.length-x.i) [] [] ⟨d,0⟩ aac (fun _=>rfl) rfl ⟨aK _,h,rfl,rfl⟩ aae aae ?_
 rintro⟨d1,i⟩ ⟨hi,hok,hlen,hw⟩
 dsimp only at hi hok hlen hw
 rw [hw]
 apply jH<;>intro h
 ·have hlt:i<l.length:=aap
  have h6:=h64 l[i] (bQ hlt)
  have hstep:sG d1 (at_+i) (l.drop i)=if d1.dead then(d1,40)else if d1.fuse=0 then(d1.dying,40)else sG (d1.put (at_+i) l[i]) (at_+i+1) (l.drop (i+1)):=by
   rw [cZ hlt];rfl
  have hW:=Ut G d1 hok (at_+i) aad l[i] h6
  unfold XV at hW
  refine nG.mk' i rfl (EX hlt) ?_
  refine nH.pJ (aB hlt) ?_
  refine kP.to (y:=((at_+i:Nat):Int)) (by dsimp only;rw [IntWalk.i64_in _ aad];omega) ?_
  conv=>whnf
  rcases iq d1.dead with hd|hd
  ·skip
   rw [hd,if_pos rfl]at hW hstep
   rw [hstep]
   refine nI [] aac hW aae ?_
   refine nI [] aac (P6 G d1 hok) aae ?_
   exact jW [] aae
  ·rw [hd,if_neg aah]at hW hstep
   by_cases hf:d1.fuse=0
   ·rw [if_pos hf]at hW hstep
    rw [hstep]
    refine nI [] aac hW aae ?_
    refine nI [] aac (leftA G d1 d1.dying hok.dying) aae ?_
    exact jW [] aae
   ·rw [if_neg hf]at hW hstep
    refine nI [] aac hW aae ?_
    refine kP.i64 (by dsimp only;omega) ?_
    refine oI ⟨d1.put (at_+i) l[i],i+1⟩ [] [] rfl aaC ⟨hlt,hok.put h6, ?_,hstep⟩ aae ⟨rfl,trivial⟩
    show (d1.now.set (at_+i) l[i]).length=d.now.length
    rw [bC];exact hlen
 have hie:i=l.length:=aap
 subst hie
 have hstep:sG d1 (at_+l.length) (l.drop l.length)=if d1.dead then(d1,40)else if d1.fuse=0 then(d1.dying,40)else(d1.flush,0):=by
  rw [List.drop_length];rfl
 have hW:=Uu G d1 hok
 unfold XW at hW
 rw [hstep]
 conv=>whnf
 rcases iq d1.dead with hd|hd
 ·skip
  rw [hd,if_pos rfl]at hW
  simp only [if_pos hd]
  refine nI [] aac hW aae ?_
  refine nI [] aac (P6 G d1 hok) aae ?_
  exact jW [] aae
 ·rw [hd,if_neg aah]at hW
  simp only [if_neg (show ¬(d1.dead=true) by rw [hd];decide)]
  by_cases hf:d1.fuse=0
  ·rw [if_pos hf]at hW ⊢
   refine nI [] aac hW aae ?_
   refine nI [] aac (leftA G d1 d1.dying hok.dying) aae ?_
   exact jW [] aae
  ·rw [if_neg hf]at hW ⊢
   refine nI [] aac hW aae ?_
   refine nI [] aac (leftA G d1 d1.flush hok.flush) aae ?_
   exact jW [] aae
def z64:By:=List.replicate 64 0
def dk0 (n:Nat):Dk:=⟨List.replicate n z64,List.replicate n z64, -1,0,false⟩
theorem Ko (n:Nat):Ji (List.replicate n z64):=fun s hs=>by rw [(List.mem_replicate.1 hs).2];rfl
theorem yK {n:Nat}(h1:n%2=0)(h2:8<=n)(h3:n<=256):(dk0 n).ok:=by
 refine⟨?_, ?_, ?_,rfl,⟨Int.le_refl (-1),by show (-1:Int)<=9223372036854775807;decide⟩,⟨Int.le_refl 0,by show (0:Int)<=4611686018427387904;decide⟩,Ko n,Ko n⟩<;>simp [dk0]<;>omega
theorem Xr:List.replicate 64 [FV.v (Value.int .u8 0)]=z64.map pR:=rfl
theorem P7 {α:Type}(n:Nat)(a:α):List.replicate (n+1) a=List.replicate n a++ [a]:=iO
theorem P8 (G:Glob)(n:Nat)(hn:n<=256):kQ Tryz.prog G 61 [iv n] 0 [] (wo 38 1 ((List.replicate n z64).map oV)):=by
 obtain⟨l,hl⟩ : ∃l,l=List.replicate n z64:=⟨_,rfl⟩
 have hln:l.length=n:=by rw [hl,bF]
 rw [<-hl]
 have hz : ∀i (h:i<l.length),oV l[i] = [FV.lst 1 (List.replicate 64 [FV.v (Value.int .u8 0)])]:=fun i h=>by
  subst hl
  rw [List.getElem_replicate,Xr];rfl
 refine jJ func61 rfl mixed aac ?_
 refine pW.mk' n rfl rfl ⟨by show 24*n<=_;omega,by unfold maxLen;omega⟩ ?_
 refine qm V3 1 [10] (fun i:Nat=> [(10,iv i)]) (fun i=> [(0, .rows 38 1 (J4 l i))]) (fun i=>i<=l.length) (fun i=>l.length-i) [] [] 0 aac (fun _=>rfl) rfl (aK _) ⟨⟨rfl,rfl,by rw [Hf,hln];rfl⟩,trivial⟩ ⟨rfl,trivial⟩ ?_
 intro i hi
 apply jH<;>intro h
 rotate_left
 ·have hie:i=l.length:=aap
  subst hie
  rw [J5]
  exact sD (.own 0) 1 _ [(0, .lab 0)] [] ⟨rfl,rfl,rfl⟩ rfl aae aae
 have hlt:i<l.length:=aap
 refine nG.mk' i rfl (by rw [J6 hi];exact hlt) ?_
 refine nH.at (PZ hlt) ?_
 refine kP.i64 aad ?_
 exact oI (i+1) [] [] rfl aaC hlt ⟨⟨rfl,rfl,(congrArg ((J4 l i).set i) (hz i hlt).symm).trans (J7 hlt)⟩,trivial⟩ ⟨rfl,trivial⟩
theorem Xt (G:Glob)(n:Nat)(h1:n%2=0)(h2:8<=n)(h3:n<=256):kQ Tryz.prog G 20 [iv n] 0 [] (Is (.kZ [qp (dk0 n),iv 0])):=by
 refine jJ func20 rfl mixed aac ?_
 (refine kU [] aac (Dw G n h1 h2 h3) rfl ?_ ?_;(focus trivial))
 refine nI [] aac (P8 G n h3) aae ?_
 refine nI [0] aac (P8 G n h3) aae ?_
 exact jW [1,2] aae
section
open Ky
theorem Vg (n:Nat)(h1:n%2=0)(h2:8<=n)(h3:n<=256):kQ Tryz.prog GS 25 [iv n] 0 [] (Is (.kZ [qp (dk0 n),iv 0])):=by
 have hm:((n:Int)).tmod 2=((n%2:Nat):Int):=rfl
 refine jJ func25 rfl mixed aac ?_
 apply jH<;>intro h
 ·exfalso;simp at h;omega
 apply jH<;>intro h
 ·exfalso;simp at h;omega
 refine jS.mk aah ?_
 rw [hm,h1]
 refine qm VW 4 [5] (fun i:Nat=> [(5,iv i)]) (fun i=> [(0, .var 35 [.v (.slice none 0 0), .v (.slice none 0 0),iv 0,iv 0,bv false]),(1, .var 35 [.own 2, .own 3,iv (-1),iv 0,bv false]),(2, .rows 38 1 ((List.replicate i z64).map oV)),(3, .rows 38 1 ((List.replicate i z64).map oV))]) (fun i=>i<=n) (fun i=>n-i) [(2, .nil),(3, .nil)] [] 0 aac (fun _=>rfl) rfl (aK _) aae aae ?_
 intro i hi
 apply jH<;>intro h
 rotate_left
 ·have hie:i=n:=aap
  subst hie
  exact jW [2,3] aae
 have hlt:i<n:=aap
 (refine kN U1 [2,4,5] aac ?_;conv=>whnf)
 refine pW.mk' 64 rfl rfl ⟨by decide,by decide⟩ ?_
 refine jS.mk (og aa0 aac) ?_
 (refine kN U1 [3,7,8] aac ?_;conv=>whnf)
 refine pW.mk' 64 rfl rfl ⟨by decide,by decide⟩ ?_
 refine jS.mk (og aa0 aac) ?_
 refine kP.i64 aad ?_
 conv=>whnf
 have e : ∀i,List.map oV (List.replicate (i+1) z64)=List.map oV (List.replicate i z64)++ [[FV.lst 1 (List.replicate 64 [FV.v (Value.int .u8 0)])]]:=fun i=>by rw [P7,bK];rfl
 refine oI (i+1) [(2, .lab 6),(3, .lab 9)] [] rfl aa7 hlt ?_ ⟨rfl,trivial⟩
 simp only [e]
 trivial
end
section
open Ky
theorem Uw (d:Dk)(h:d.ok):kQ Tryz.prog GS 230 [qp d] 0 [] (Is (bv true)):=by
 obtain⟨h1,h2,h3,h4,h5,h6,h7,h8⟩:=h
 have hN:=Vg d.now.length h1 h2 h3
 refine jJ func230 rfl mixed aac ?_
 refine nI [] aac hN ⟨congrArg (fun n:Nat=>Value.int .i64 (n:Int)) (au _),trivial⟩ ?_
 apply jH<;>intro h
 ·exfalso;simp only [au]at h;simp at h;omega
 apply jH<;>intro h
 ·exfalso;simp at h;omega
 apply jH<;>intro h
 ·exfalso;simp at h;omega
 apply jH<;>intro h
 ·exfalso;simp at h;omega
 refine yF RV [5] (fun i:Nat=> [(5,iv i)]) (fun i=>i<=d.now.length) (fun i=>d.now.length-i) 0 aac (fun _=>rfl) aac (aK _) aae aae ?_
 intro i hi
 apply jH<;>intro h
 rotate_left
 ·exact jW [] rfl
 have hlt:i<d.now.length:=aap
 have hlt2:i<d.safe.length:=aad
 have a1:=h7 d.now[i] (bQ hlt)
 have a2:=h8 d.safe[i] (bQ hlt2)
 refine nG.mk' i rfl (EX hlt) ?_
 refine nH.pJ (aB hlt) ?_
 apply jH<;>intro h
 ·exfalso;rw [au,a1]at h;simp at h
 refine nG.mk' i rfl (EX hlt2) ?_
 refine nH.pJ (aB hlt2) ?_
 apply jH<;>intro h
 ·exfalso;rw [au,a2]at h;simp at h
 refine kP.i64 aad ?_
 exact oI (i+1) [] [] rfl (by show d.now.length -(i+1)<d.now.length-i;omega) hlt aae ⟨rfl,trivial⟩
theorem EK (d:Dk)(h:d.ok):kQ Tryz.prog GS 150 [qp d] 0 [] (Is (iv (qB d))):=by
 refine jJ func150 rfl mixed aac ?_
 (refine kU [] aac (Uw d h) rfl ?_ ?_;(focus trivial))
 apply jH<;>intro h
 ·exact jW [] (MF (by unfold qB;rw [if_pos h]))
 ·exact jW [] (MF (by unfold qB;rw [h];rfl))
theorem Hq (l:List By)(hl:l.length<=100000):kQ Tryz.prog GS 306 [ss l] 0 [] (wo 38 1 (l.map oV)):=by
 refine jJ func306 rfl mixed aac ?_
 refine jS.mk (og aa0 aac) ?_
 exact sD (.own 0) 1 _ [(0, .lab 1)] [] ⟨rfl,rfl,rfl⟩ rfl aae aae
theorem Xu (d:Dk)(h:d.ok):kQ Tryz.prog GS 69 [qp d,iv 0] 0 [] (fun a n H=>n=0∧H = []∧∃b,a = .kZ [bs b,iv (qB d)]):=by
 have hr:=EK d h
 have hlo:=h.lo
 have h0:0<d.now.length:=aad
 have h6:=h.n64 d.now[0] (bQ h0)
 unfold qB at hr ⊢
 refine jJ func69 rfl mixed aac ?_
 (refine kU [] aac (hr) rfl ?_ ?_;(focus trivial))
 conv=>whnf
 rcases iq d.dead with hd|hd
 ·rw [if_pos hd]
  exact sD (.kZ [bs [],iv 40]) 0 [] [] [] ⟨rfl,rfl,[],rfl⟩ rfl trivial aae
 ·rw [if_neg (by rw [hd];decide)]
  apply jH<;>intro h
  ·exfalso;simp at h;rw [h]at h0;exact absurd h0 aah
  refine nG.mk' 0 rfl (EX h0) ?_
  refine nH.pJ (aB h0) ?_
  refine jS.mk (og aa0 aac) ?_
  refine sD (.kZ [bs d.now[0],iv 0]) 0 [] [] [2] ⟨rfl,rfl,_,rfl⟩ rfl trivial aae
theorem Kq (d:Dk)(h:d.ok):kQ Tryz.prog GS 305 [qp d] 0 [] (Is (.kZ [qp (if d.fuse=0 then d.dying else d.tick),bv (decide (d.fuse≠0))])):=by
 have ho:=h.op
 have hf:=h.fs
 have tk1:d.fuse>0->d.tick = {d with fuse:=d.fuse-1,ops:=min (d.ops+1) 4611686018427387904}:=fun h=>by unfold Dk.tick;rw [if_pos h]
 have tk2 : ¬d.fuse>0->d.tick = {d with ops:=min (d.ops+1) 4611686018427387904}:=fun h=>by unfold Dk.tick;rw [if_neg h]
 refine jJ func305 rfl mixed aac ?_
 apply jH<;>intro h
 ·have h0:d.fuse=0:=aaU
  rw [if_pos h0,show decide (d.fuse≠0)=false by rw [h0];rfl]
  exact jW [] aae
 have h0:d.fuse≠0:=aaU
 rw [if_neg h0,show decide (d.fuse≠0)=true from decide_eq_true h0]
 apply jH<;>intro h
 ·rw [tk1 aaU]
  refine kP.i64 aad ?_
  refine kP.i64 aad ?_
  exact jW [] aae
 ·rw [tk2 aaU]
  refine kP.i64 aad ?_
  exact jW [] aae
theorem Ux (d:Dk)(h:d.ok)(n:Nat)(hn:n<d.now.length)(b:By)(hb:b.length=64):kQ Tryz.prog GS 240 [qp d,iv n,bs b] 0 [] (Is (XV d n b)):=by
 have hr:=EK d h
 have hS:=Kq d h
 have hhi:=h.hi
 have hC:=Hq d.now aad
 obtain⟨now,safe,fuse,ops,dead⟩:=d
 unfold qB at hr
 unfold XV
 simp only at *
 refine jJ func240 rfl mixed aac ?_
 (refine kU [] aac (hr) rfl ?_ ?_;(focus trivial))
 cases dead with
 | true=>
  simp only [if_true]
  exact jW [] aae
 | false=>
  simp only [aS,if_false]at *
  apply jH<;>intro h
  ·exfalso;rw [au]at h;simp at h;omega
  apply jH<;>intro h
  ·exfalso;rw [au,hb]at h;simp at h
  conv=>whnf
  by_cases hf:fuse=0
  ·subst hf
   simp only [if_pos rfl]at *
   refine nI [] aac hS aae ?_
   exact jW [] aae
  simp only [if_neg hf,show decide (fuse≠0)=true from decide_eq_true hf]at *
  refine nI [] aac hS aae ?_
  refine nI [] aac hC aae ?_
  (refine kN Wv [3,4,5] aac ?_;conv=>whnf)
  refine jS.mk (og aa0 aac) ?_
  refine nG.mk' n rfl (EX hn) ?_
  refine nH.pJ (aB hn) ?_
  exact jW [3] ⟨⟨⟨rfl,rfl,jG.symm⟩,⟨rfl,rfl⟩,rfl,rfl,rfl,trivial⟩,rfl,trivial⟩
theorem Uy (d:Dk)(h:d.ok):kQ Tryz.prog GS 241 [qp d] 0 [] (Is (XW d)):=by
 have hr:=EK d h
 have hS:=Kq d h
 have hhi:=h.hi
 have hC:=Hq d.now aad
 obtain⟨now,safe,fuse,ops,dead⟩:=d
 unfold qB at hr
 unfold XW
 simp only at *
 refine jJ func241 rfl mixed aac ?_
 (refine kU [] aac (hr) rfl ?_ ?_;(focus trivial))
 cases dead with
 | true=>
  simp only [if_true]
  exact jW [] aae
 | false=>
  simp only [aS,if_false]at *
  conv=>whnf
  by_cases hf:fuse=0
  ·subst hf
   simp only [if_pos rfl]at *
   refine nI [] aac hS aae ?_
   exact jW [] aae
  simp only [if_neg hf,show decide (fuse≠0)=true from decide_eq_true hf]at *
  refine nI [] aac hS aae ?_
  refine nI [] aac hC aae ?_
  exact jW [3] aae
def Dk.arm (d:Dk)(n:Int):Dk:= {d with fuse:=n}
theorem Xv (a:Dk)(ha:a.now.length<=1000∧a.safe.length<=1000):kQ Tryz.prog GS 75 [qp a,qp a] 0 [] (Is (bv true)):=by
 have h1:=He GS a.now a.now aad
 have h2:=He GS a.safe a.safe aad
 rw [show decide (a.now=a.now)=true from decide_eq_true rfl]at h1
 rw [show decide (a.safe=a.safe)=true from decide_eq_true rfl]at h2
 refine jJ func75 rfl mixed aac ?_
 apply jH<;>intro h
 rotate_left
 ·exfalso;simp at h
 apply jH<;>intro h
 rotate_left
 ·exfalso;simp at h
 apply jH<;>intro h
 rotate_left
 ·exfalso;simp at h
 refine nI [] aac h1 aae ?_
 refine nI [] aac h2 aae ?_
 exact jW [] rfl
structure CS where
 l:List By
 k:Nat
 i:Nat
end
section
open Ky
attribute [local irreducible] num hsh
theorem Uz (d:Dk)(h:d.ok)(at_:Nat)(l:List By)(h64:Ji l)(hat:at_+l.length<=d.now.length):kQ Tryz.prog GS 155 [qp d,iv at_,ss l] 0 [] (Is (.kZ [qp (sG d at_ l).1,iv (sG d at_ l).2])):=by
 have hhi:=h.hi
 have hdd:d.dead=true->sG d at_ l=(d,40):=fun hx=>by
  cases l with
  | nil=>unfold sG;rw [if_pos hx]
  | cons s r=>unfold sG;rw [if_pos hx]
 refine jJ func155 rfl mixed aac ?_
 apply jH<;>intro h
 ·rw [hdd h]
  exact jW [] aae
 refine qm Ry 2 [9] (fun x:WS=> [(9,iv x.i)]) (fun x=> [(0, .var 35 (Zk x.d)),(1, .var 35 [.v (.slice none 0 0), .v (.slice none 0 0),iv 0,iv 0,bv false])]) (fun x=>x.i<=l.length∧x.d.ok∧x.d.dead=false∧x.d.now.length=d.now.length∧sG d at_ l=sG x.d (at_+x.i) (l.drop x.i)) (fun x=>l.length-x.i) [] [] ⟨d,0⟩ aac (fun _=>rfl) rfl ⟨aK _,by assumption,h,rfl,rfl⟩ aae aae ?_
 rintro⟨d1,i⟩ ⟨hi,hok,hd,hlen,hw⟩
 dsimp only at hi hok hd hlen hw
 rw [hw]
 have hd' : ¬d1.dead=true:=by rw [hd];decide
 apply jH<;>intro h
 ·have hlt:i<l.length:=aap
  have h6:=h64 l[i] (bQ hlt)
  have hstep:sG d1 (at_+i) (l.drop i)=if d1.dead then(d1,40)else if d1.fuse=0 then(d1.dying,40)else sG (d1.put (at_+i) l[i]) (at_+i+1) (l.drop (i+1)):=by
   rw [cZ hlt];rfl
  have hW:=Ux d1 hok (at_+i) aad l[i] h6
  unfold XV at hW
  rw [if_neg hd']at hW hstep
  refine kN (fun _=> .take 1 (tk [2,3,4,5,6,7] (.one 0 (.post 8 (tk [9,10,11] (.one 12 (.take 13 .done))))))) [0] aac ?_
  refine kP.to (y:=((at_+i:Nat):Int)) (by(try dsimp only);rw [IntWalk.i64_in _ aad];omega) ?_
  refine nG.mk' i rfl (EX hlt) ?_
  refine nH.pJ (aB hlt) ?_
  conv=>whnf
  by_cases hf:d1.fuse=0
  ·rw [if_pos hf]at hW hstep
   rw [hstep]
   refine nI [] aac hW aae ?_
   exact jW [] aae
  ·rw [if_neg hf]at hW hstep
   refine nI [] aac hW aae ?_
   refine kP.i64 (by(try dsimp only);omega) ?_
   refine oI ⟨d1.put (at_+i) l[i],i+1⟩ [] [] rfl aaC ⟨hlt,hok.put h6,hd, ?_,hstep⟩ aae ⟨rfl,trivial⟩
   show (d1.now.set (at_+i) l[i]).length=d.now.length
   rw [bC];exact hlen
 have hie:i=l.length:=aap
 subst hie
 have hstep:sG d1 (at_+l.length) (l.drop l.length)=if d1.dead then(d1,40)else if d1.fuse=0 then(d1.dying,40)else(d1.flush,0):=by
  rw [List.drop_length];rfl
 have hW:=Uy d1 hok
 unfold XW at hW
 rw [if_neg hd']at hW hstep
 rw [hstep]
 conv=>whnf
 by_cases hf:d1.fuse=0
 ·rw [if_pos hf]at hW ⊢
  refine nI [] aac hW aae ?_
  exact jW [] aae
 ·rw [if_neg hf]at hW ⊢
  refine nI [] aac hW aae ?_
  exact jW [] aae
end
section
open Ky
theorem uw (l:List Ev)(hl:l.length<=1000000):kQ Tryz.prog GS 29 [el l,el l] 0 [] (Is (bv true)):=by
 refine jJ func29 rfl mixed aac ?_
 apply jH<;>intro h
 ·exfalso;simp at h
 refine qm VX 0 [5] (fun i:Nat=> [(5,iv i)]) (fun _=> []) (fun i=>i<=l.length) (fun i=>l.length-i) [] [] 0 aac (fun _=>rfl) rfl (aK _) trivial ⟨rfl,trivial⟩ ?_
 intro i hi
 apply jH<;>intro h
 ·have hlt:i<l.length:=aap
  (refine kN Yw [] aac ?_;conv=>whnf)
  repeat' (first
   | (refine And.intro ?_ ?_<;>(conv=>whnf))
   | (refine nG.mk' i rfl (EX hlt) ?_;conv=>whnf)
   | (refine nH.pJ (aB hlt) ?_;conv=>whnf))
  refine qY.mk aac rfl rfl ?_
  apply jH<;>intro h
  ·exfalso
   simp [lU]at h
  refine kP.i64 aad ?_
  exact oI (i+1) [] [] rfl aaC hlt trivial ⟨rfl,trivial⟩
 ·exact jW [] aae
theorem P9 (a:So)(ha:a.d.now.length<=1000∧a.d.safe.length<=1000)(hl:a.ev.length<=1000000):kQ Tryz.prog GS 30 [stA a,stA a] 0 [] (Is (bv true)):=by
 refine jJ func30 rfl mixed aac ?_
 conv=>whnf
 repeat' (first
  | (apply jH<;>intro h<;>(first|(exfalso;simp at h;done)|(conv=>whnf)))
  | (refine rQ [] aac (Xv a.d ha) ?_ ?_;(focus (trivial;done));rintro _ _ _ ⟨rfl,rfl,rfl⟩;conv=>whnf)
  | (refine rQ [] aac (uw a.ev hl) ?_ ?_;(focus (trivial;done));rintro _ _ _ ⟨rfl,rfl,rfl⟩;conv=>whnf))
 exact jW [] rfl
end
section
attribute [local irreducible] xP qU PK
theorem Zl:e0.ok:=by constructor<;>(first|exact⟨by decide,by decide⟩|decide)
theorem Zm:PI e0=0:=aac
theorem Qa:(PK [e0]).length<=1000:=ak aac
theorem rV:kQ Tryz.prog GS 191 [evA e0] 0 [] (Is (.v (.int .i64 0))):=by
 have h:=Uf e0 Zl
 rwa [Zm]at h
def Xw (l:List Ev)(i:Nat):By:=(if l = []then [0]else [2])++if i=0 then []else PK l
theorem Kr:kQ Tryz.prog GS 145 [el []] 0 [] (Is (.kZ [bs (Xw [] 0),iv 0])):=by
 have hcl:=Qa
 refine JR func145 rfl mixed aac ?_
 conv=>whnf
 repeat' (first|(refine jP aac (rV) ?_ ?_;(focus (trivial;done));rintro _ _ _ ⟨rfl,rfl,rfl⟩;(conv=>whnf))|(refine jP aac (PN GS (List.map EY [])) ?_ ?_;(focus (trivial;done));rintro _ _ _ ⟨rfl,rfl,rfl⟩;(conv=>whnf))|(refine kP.fr ?_;conv=>whnf)|(refine jS.mk aah ?_;conv=>whnf)|(refine mW 9 ?_;conv=>whnf)|(refine kF aac (jJ aaz rfl mixed aac ?_);conv=>whnf)|(refine lD aaz ?_;conv=>whnf)|(refine nG.mk ⟨_,rfl,by decide, ?_⟩;conv=>whnf)|(refine pO.mk ⟨_,_,rfl,rfl,by decide,by decide, ?_⟩;conv=>whnf)|(refine nH.mk ⟨_,rfl, ?_⟩;conv=>whnf)|(refine pW.mk ⟨_,_,rfl,rfl,by decide,by decide,by decide, ?_⟩;conv=>whnf)|(refine kM.mk fun b hb=> ?_;obtain rfl:=hb aah;conv=>whnf)|(refine kM.mk fun b hb=> ?_;cases b<;>(conv=>whnf))|(refine qY.mk aac rfl rfl ?_;conv=>whnf))
 refine OH (PL GS (List.map EY []) aah) 7 (fun i=> [(5, .var 38 [.own 6]),(6, .rows 5 1 ((Xw [] i).map pR))]) [(6, .lab 4)] [] rfl aac rfl (fun x hx=> ?_) rfl aae (fun i x hx=> ?_) ?_
 ·obtain⟨j,_,rfl⟩:=dH.1 hx
  rfl
 ·cases hx
 ·exact sD (.kZ [bs (Xw [] 0),iv 0]) 0 [] [] [6] ⟨rfl,rfl,rfl⟩ rfl trivial aae
theorem UA:kQ Tryz.prog GS 145 [el [e0]] 0 [] (Is (.kZ [bs (Xw [e0] 1),iv 0])):=by
 have hcl:=Qa
 refine JR func145 rfl mixed aac ?_
 conv=>whnf
 repeat' (first|(refine jP aac (rV) ?_ ?_;(focus (trivial;done));rintro _ _ _ ⟨rfl,rfl,rfl⟩;(conv=>whnf))|(refine jP aac (PN GS (List.map EY [e0])) ?_ ?_;(focus (trivial;done));rintro _ _ _ ⟨rfl,rfl,rfl⟩;(conv=>whnf))|(refine kP.fr ?_;conv=>whnf)|(refine jS.mk aah ?_;conv=>whnf)|(refine mW 9 ?_;conv=>whnf)|(refine kF aac (jJ aaz rfl mixed aac ?_);conv=>whnf)|(refine lD aaz ?_;conv=>whnf)|(refine nG.mk ⟨_,rfl,by decide, ?_⟩;conv=>whnf)|(refine pO.mk ⟨_,_,rfl,rfl,by decide,by decide, ?_⟩;conv=>whnf)|(refine nH.mk ⟨_,rfl, ?_⟩;conv=>whnf)|(refine pW.mk ⟨_,_,rfl,rfl,by decide,by decide,by decide, ?_⟩;conv=>whnf)|(refine kM.mk fun b hb=> ?_;obtain rfl:=hb aah;conv=>whnf)|(refine kM.mk fun b hb=> ?_;cases b<;>(conv=>whnf))|(refine qY.mk aac rfl rfl ?_;conv=>whnf))
 refine OH (PL GS (List.map EY [e0]) aah) 8 (fun i=> [(6, .var 38 [.own 7]),(7, .rows 5 1 ((Xw [e0] i).map pR))]) [(7, .lab 5)] [] rfl aac rfl (fun x hx=> ?_) rfl aae (fun i x hx=> ?_) ?_
 ·obtain⟨j,_,rfl⟩:=dH.1 hx
  rfl
 ·match i,hx with
  | 0,hx=>
   injection hx with hx
   subst hx
   (refine kN V9 [] aac ?_;conv=>whnf)
   repeat' (first
    | (refine And.intro ?_ ?_<;>(conv=>whnf))
    | ((refine rQ [] aac (Xi GS) ?_ ?_;(focus trivial));rintro _ _ _ ⟨rfl,rfl,rfl⟩;conv=>whnf)
    | (refine jS.mk (og (by simp only [au];show 1+_<=_;omega) aac) ?_;conv=>whnf))
   exact WI [(7, .lab 8)] [] rfl ⟨⟨rfl,rfl,trivial⟩,⟨rfl,rfl,rfl⟩,trivial⟩
  | k+1,hx=>cases hx
 ·exact sD (.kZ [bs (Xw [e0] 1),iv 0]) 0 [] [] [7] ⟨rfl,rfl,rfl⟩ rfl trivial aae
end
section
attribute [local irreducible] hsh
theorem Qb (G:Glob):kQ Tryz.prog G 144 [bs z64] 0 [] (Is (.kZ [.agg [iv 0,iv 0,iv 0,iv 0],bv false])):=by
 refine jJ func144 rfl mixed aac ?_
 conv=>whnf
 repeat' (first|exact jW [] aae|(refine kP.fr ?_;conv=>whnf)|(refine jS.mk aah ?_;conv=>whnf)|(refine mW 9 ?_;conv=>whnf)|(refine kF aac (jJ aaz rfl mixed aac ?_);conv=>whnf)|(refine lD aaz ?_;conv=>whnf)|(refine nG.mk ⟨_,rfl,by decide, ?_⟩;conv=>whnf)|(refine pO.mk ⟨_,_,rfl,rfl,by decide,by decide, ?_⟩;conv=>whnf)|(refine nH.mk ⟨_,rfl, ?_⟩;conv=>whnf)|(refine pW.mk ⟨_,_,rfl,rfl,by decide,by decide,by decide, ?_⟩;conv=>whnf)|(refine kM.mk fun b hb=> ?_;obtain rfl:=hb aah;conv=>whnf)|(refine kM.mk fun b hb=> ?_;cases b<;>(conv=>whnf))|(refine qY.mk aac rfl rfl ?_;conv=>whnf)|(refine kN V8 [0] aaq ?_;conv=>whnf))
theorem Zn (G:Glob)(m:Nat)(h0:0<m):kQ Tryz.prog G 65 [ss (List.replicate m z64)] 0 [] (Is (.kZ [iv 0,ss [],bv false])):=by
 have hg:((List.replicate m z64).map oV)[0]? = some (oV z64):=by rw [aI,fG,if_pos h0];rfl
 have hl:((List.replicate m z64).map oV).length=m:=by rw [au,bF]
 show kQ Tryz.prog G 65 [.lst 1 ((List.replicate m z64).map oV)] 0 [] _
 generalize (List.replicate m z64).map oV=L at *
 refine jJ func65 rfl mixed aac ?_
 conv=>whnf
 repeat' (first|exact jW [] aae|(refine jP aac (Qb G) ?_ ?_;(focus (trivial;done));rintro _ _ _ ⟨rfl,rfl,rfl⟩;(conv=>whnf))|(refine kF aac (jJ func142 rfl mixed aac ?_);(conv=>whnf))|(apply jH<;>intro h<;>(first|(exfalso;simp [hl]at h;omega)|(conv=>whnf)))|(refine nG.mk' 0 rfl (by rw [hl];exact h0) ?_;conv=>whnf)|(refine nH.at hg ?_;conv=>whnf)|(refine lD aaz ?_;conv=>whnf)|(refine jS.mk aah ?_;conv=>whnf))
def sc0:List By:=zh 1 0 [0]
def Dx (n:Nat):So:=⟨(sG (dk0 n) 0 sc0).1,1,0,1,1,[]⟩
theorem BH:Bj 1 0 [0]=0∧sc0.length=1∧Ji sc0:=by
 have h:Bj 1 0 [0]=0:=aac
 have hL:sc0=secs 1 0 [0]:=by unfold sc0 zh;rw [if_pos h];rfl
 refine⟨h, ?_,fun s hs=> ?_⟩
 ·rw [hL,uo];kernel_rfl
 ·rw [hL]at hs;exact GY hs
theorem Kt (n:Nat){l:List By}(h:l.length=1):(sG (dk0 n) 0 l).2=0:=by
 match l,h with
 | [s],_=>rfl
attribute [local irreducible] zh Bj sc0 sG
def sZ (n:Nat):So:=⟨dk0 n,0,1,0,0,[]⟩
theorem Qc:kQ Tryz.prog GS 106 [el []] 0 [] (Is (el [])):=by
 refine jJ func106 rfl mixed aac ?_
 refine⟨fun b hb=> ?_⟩
 cases b with
 | true=>
  exact jW [] aae
 | false=>
  refine jS.mk (Va aah) ?_
  exact jW [1] aae
theorem L6 (m:Nat)(h2:4<=m)(h3:m<=128):kQ Tryz.prog GS 67 [stA (sZ (2*m))] 0 [] (Is (.kZ [stA (Dx (2*m)),iv 0])):=by
 obtain⟨n,hn⟩ : ∃n,n=2*m:=⟨_,rfl⟩
 rw [<-hn]
 have hok:(dk0 n).ok:=yK aad aad aad
 obtain⟨s0,s1,s2⟩:=BH
 have hS:=BD GS 1 0 [0] aah
 rw [s0,show zh 1 0 [0]=sc0 by unfold sc0;rfl]at hS
 have hL:(dk0 n).now.length=n:=bF ..
 have hW:=J9 GS (dk0 n) hok 0 sc0 s2 (by rw [s1,hL];omega)
 rw [Kt n s1]at hW
 have hg : ∀i,i<n->((dk0 n).now.map oV)[i]? = some (oV z64):=fun i h=>by
  show ((List.replicate n z64).map oV)[i]? = _
  rw [aI,fG,if_pos h];rfl
 have hml:((dk0 n).now.map oV).length=n:=by rw [au,hL]
 have hsl:(sc0.map oV).length=1:=by rw [au,s1]
 obtain⟨x,hx⟩ : ∃x,sc0.map oV = [x]:=iI.1 hsl
 have hS:kQ Tryz.prog GS 146 [iv 1,iv 0,bs [0]] 0 [] (Is (.kZ [.lst 1 [x],iv 0])):=by rw [<-hx];exact hS
 have hW:kQ Tryz.prog GS 147 [qp (dk0 n),iv ((0:Nat):Int), .lst 1 [x]] 0 [] (Is (.kZ [qp (sG (dk0 n) 0 sc0).1,iv 0])):=by rw [<-hx];exact hW
 unfold Dx sZ
 generalize sG (dk0 n) 0 sc0=D at *
 generalize dk0 n=d at *
 refine jJ func67 rfl mixed aac ?_
 refine yF V4 [4,21] (fun i:Nat=> [(4,iv 0),(21,iv i)]) (fun i=>i<=n) (fun i=>n-i) 0 aac (fun _=>rfl) aac (aK _) aae aae ?_
 intro i hi
 apply jH<;>intro h
 ·have hlt:i<n:=by simp [hL]at h;omega
  refine nG.mk' i rfl (by rw [hml];exact hlt) ?_
  refine nH.at (hg i hlt) ?_
  refine nI [] aac (Qb GS) aae ?_
  refine kP.i64 aad ?_
  exact oI (i+1) [] [] rfl aa7 hlt aae aae
 have hie:i=n:=by simp [hL]at h;omega
 subst hie
 refine nI [] aac (Kr) aae ?_
 refine jS.mk aah ?_
 rw [hml]
 refine kP.divN i 2 aad ?_
 refine kP.fr ?_
 refine nI [] aac (hS) aae ?_
 apply jH<;>intro h
 ·exfalso;simp at h;omega
 refine kP.fr ?_
 refine kP.to (y:=((0:Nat):Int)) (by rw [show Int.ofNat 0*_=0 from jq _];rfl) ?_
 refine nI [] aac (hW) aae ?_
 (refine kN YC [] aac ?_;conv=>whnf)
 repeat' (first|exact jW [0,1,2,3,4,5,6] aae|(refine jP aac (Qc) ?_ ?_;(focus (trivial;done));rintro _ _ _ ⟨rfl,rfl,rfl⟩;(conv=>whnf))|(refine kP.fr ?_;conv=>whnf)|(refine jS.mk aah ?_;conv=>whnf)|(refine mW 9 ?_;conv=>whnf)|(refine kF aac (jJ aaz rfl mixed aac ?_);conv=>whnf)|(refine lD aaz ?_;conv=>whnf)|(refine nG.mk ⟨_,rfl,by decide, ?_⟩;conv=>whnf)|(refine pO.mk ⟨_,_,rfl,rfl,by decide,by decide, ?_⟩;conv=>whnf)|(refine nH.mk ⟨_,rfl, ?_⟩;conv=>whnf)|(refine pW.mk ⟨_,_,rfl,rfl,by decide,by decide,by decide, ?_⟩;conv=>whnf)|(refine kM.mk fun b hb=> ?_;obtain rfl:=hb aah;conv=>whnf)|(refine kM.mk fun b hb=> ?_;cases b<;>(conv=>whnf))|(refine qY.mk aac rfl rfl ?_;conv=>whnf))
theorem Xx (m:Nat)(h2:4<=m)(h3:m<=128):kQ Tryz.prog GS 21 [qp (dk0 (2*m))] 0 [] (Is (.kZ [stA (Dx (2*m)),iv 0])):=by
 have hok:(dk0 (2*m)).ok:=yK aad aad aad
 have hR:=Xq GS (dk0 (2*m)) hok
 rw [show qB (dk0 (2*m))=0 from rfl]at hR
 have hC:=L6 m h2 h3
 have hG:=Zn GS m aad
 have hl:((dk0 (2*m)).now.map oV).length=2*m:=abe
 have ht:((dk0 (2*m)).now.map oV).take m=(List.replicate m z64).map oV:=by
  show ((List.replicate (2*m) z64).map oV).take m=_
  rw [<-List.map_take,List.take_replicate,eU aad]
 have hd:((dk0 (2*m)).now.map oV).drop m=(List.replicate m z64).map oV:=by
  show ((List.replicate (2*m) z64).map oV).drop m=_
  rw [<-List.map_drop,List.drop_replicate,show 2*m-m=m by omega]
 unfold sZ at hC
 generalize Dx (2*m)=s0 at *
 generalize dk0 (2*m)=d at *
 refine jJ func21 rfl mixed aac ?_
 refine rQ [] aac hR aae ?_
 rintro _ _ _ ⟨rfl,rfl,b,rfl⟩
 refine jS.mk aah ?_
 rw [hl]
 refine kP.divN (2*m) 2 aad ?_
 rw [show 2*m/2=m by omega]
 refine pO.mk' 0 m rfl rfl (aK _) (by rw [hl];omega) ?_
 refine nI [] aac hG ⟨⟨rfl,ht⟩,trivial⟩ ?_
 refine pO.mk' m (2*m) rfl (by rw [hl]) aad (by rw [hl];exact ay _) ?_
 refine nI [] aac hG ⟨⟨rfl,hd⟩,trivial⟩ ?_
 refine nI [] aac hC aae ?_
 exact jW [] aae
end
section
open Ky
def EL (e:Ev):List Value:=(EY e).map fun x=>match x with | .v w=>w|_=> .bool false
theorem L8 (e:Ev):EY e=(EL e).map .v:=rfl
theorem Qd (w:World):uD Tryz.prog 277 #[.slice none 0 0, .int .i64 (0:Nat)] w fun v w'=>v = .slice none 0 0∧Below w.heap.size w w':=by
 refine kL func277 rfl mixed aac ?_
 refine Ja rfl ?_
 exact nP.mk ⟨rfl,Below.refl _ _⟩
theorem UC (n:Nat)(hl:n<=1000000):kQ Tryz.prog GS 277 [.v (.slice none 0 0),iv n] 0 [] (wo 63 10 []):=by
 have key:=uq (P:=Tryz.prog) (G:=GS) (f:=277) (args:= [.v (.slice none 0 0),iv n]) (E:=63) (sz:=10) (enc:=EY) (c:=EL) L8 (fun _=>rfl) (fun e v hv=>by
  simp only [EL,EY,fJ,iV,bG,gX,or_false]at hv
  rcases hv with rfl|rfl|rfl|rfl|rfl|rfl|rfl|rfl|rfl|rfl<;>rfl) (l:= []) (fun w F σ vs hF r=>by
  match vs,r with
  | [u,y],⟨ru,ry,_⟩=>
   rw [ru.kR,ry.kR]
   rcases bH n with rfl|hn
   ·exact(Qd w).mono fun v w' ⟨e,hB⟩=>⟨none,0,e,Own.nil _ _ _ _,hB⟩
   ·exact(OB n w hn hl).mono fun v w' ⟨oa,c,e,hO,hB⟩=>⟨oa,c,e,hO,hB⟩)
 exact key
def BN (a b:List Ev):List (List Ev):= [a,b]
theorem Ku (a b:List Ev){i:Nat}(h:i<2):([[FV.lst 10 (a.map EY)],[FV.lst 10 (b.map EY)]]:List (List FV))[i]? = some [.lst 10 (((BN a b).getD i []).map EY)]:=by
 match i,h with
 | 0,_=>rfl
 | 1,_=>rfl
theorem Qe (a b:List Ev){i:Nat}(h:i<2):((BN a b).take i).flatten.length+((BN a b).getD i []).length<=a.length+b.length:=by
 match i,h with
 | 0,_=>simp [BN]
 | 1,_=>simp [BN]
theorem Ht (a b:List Ev){i:Nat}(h:i<2):((BN a b).take (i+1)).flatten=((BN a b).take i).flatten++(BN a b).getD i []:=by
 match i,h with
 | 0,_=>simp [BN]
 | 1,_=>simp [BN]
attribute [local irreducible] BN
theorem UD (a b:List Ev)(hl:a.length+b.length<=100000):kQ Tryz.prog GS 210 [.lst 1 [[.lst 10 (a.map EY)],[.lst 10 (b.map EY)]]] 0 [] (Is (el (a++b))):=by
 have e2:((BN a b).take 2).flatten=a++b:=by unfold BN;simp
 have e0:((BN a b).take 0).flatten = []:=rfl
 refine jJ func210 rfl mixed aac ?_
 refine yF RP [3,11] (fun i:Nat=> [(3,iv (((BN a b).take i).flatten.length:Nat)),(11,iv i)]) (fun i=>i<=2) (fun i=>2-i) 0 aac (fun _=>rfl) aac (aK _) aae ⟨by rw [e0];rfl,rfl,trivial⟩ ?_
 intro i hi
 apply jH<;>intro h
 ·have hlt:i<2:=aap
  have hle:=Qe a b hlt
  have hsu:=Ht a b hlt
  have hx:(((BN a b).take (i+1)).flatten.length:Int)=(((BN a b).take i).flatten.length:Int)+(((BN a b).getD i []).length:Int):=by rw [hsu,aG,Int.natCast_add]
  have hrow:=Ku a b hlt
  generalize (BN a b).getD i []=x at *
  refine nG.mk' i rfl hlt ?_
  refine nH.at hrow ?_
  refine kP.to (y:=(((BN a b).take (i+1)).flatten.length:Int)) (by rw [au,hx];exact IntWalk.i64_in _ aad) ?_
  refine kP.i64 aad ?_
  exact oI (i+1) [] [] rfl (by show 2 -(i+1)<2-i;omega) hlt aae ⟨rfl,rfl,trivial⟩
 have hie:i=2:=aap
 subst hie
 rw [e2]
 have hG:=UC (a++b).length (by rw [aG];omega)
 refine nI [] aac hG aae ?_
 refine qm RS 2 [6,27] (fun i:Nat=> [(6, .own 1),(27,iv i)]) (fun i=> [(1, .rows 63 10 (((BN a b).take i).flatten.map EY))]) (fun i=>i<=2) (fun i=>2-i) [(1, .lab 0)] [] 0 aac (fun _=>rfl) rfl (aK _) aae aae ?_
 intro i hi
 apply jH<;>intro h
 rotate_left
 ·have hie:i=2:=aap
  subst hie
  rw [e2]
  exact jW [1] aae
 have hlt:i<2:=aap
 have hle:=Qe a b hlt
 have hsu:=Ht a b hlt
 have hrow:=Ku a b hlt
 generalize (BN a b).getD i []=x at *
 refine nG.mk' i rfl hlt ?_
 refine nH.at hrow ?_
 refine jS.mk (Va (by simp only [au];omega)) ?_
 refine kP.i64 aad ?_
 exact oI (i+1) [(1, .lab 2)] [] rfl (by show 2 -(i+1)<2-i;omega) hlt ⟨⟨rfl,rfl,by rw [hsu];exact bK.symm⟩,trivial⟩ ⟨rfl,rfl,trivial⟩
end
section
open Ky
theorem Hu : ∀ {l:List By} {d:Dk} {at_:Nat},d.dead=false->d.fuse<0->(sG d at_ l).2=0∧(sG d at_ l).1.dead=false∧(sG d at_ l).1.fuse<0:=by
 intro l
 induction l with
 | nil=>
  intro d at_ h h2
  unfold sG
  rw [h,if_neg aah,if_neg aad]
  exact⟨rfl,h,by show (if 0<d.fuse then d.fuse-1 else d.fuse)<0;rw [if_neg aad];exact h2⟩
 | cons s r ih=>
  intro d at_ h h2
  unfold sG
  rw [h,if_neg aah,if_neg aad]
  exact ih h (by show (if 0<d.fuse then d.fuse-1 else d.fuse)<0;rw [if_neg aad];exact h2)
def Cm:By:=Xw [e0] 1
theorem Xy:Bj 1 1 Cm=0∧Bj 1 0 Cm=0∧nS Cm<=15∧Cm.length<=2000:=⟨by kernel_rfl,by kernel_rfl,ak aac,ak aac⟩
def ZR (d:Dk):So:=⟨(sG d 1 (zh 1 1 Cm)).1,1,0,1+(nS Cm:Nat),2,[e0]⟩
attribute [local irreducible] hsh num PK zh Bj nS Cm
theorem UE (d:Dk)(hd:d.ok)(hl:d.now.length=32):kQ Tryz.prog GS 209 [stA ⟨d,1,0,1,1,[]⟩] 0 [] (Is (bv true)):=by
 refine jJ func209 rfl mixed aac ?_
 (refine kU [] aac (Jl GS d hd) rfl ?_ ?_;(focus trivial))
 conv=>whnf
 repeat' (first
  | (refine jP aac (Kr) ?_ ?_;(focus (trivial;done));rintro _ _ _ ⟨rfl,rfl,rfl⟩;(conv=>whnf))
  | (refine jS.mk aah ?_;rw [au,hl];refine kP.divN 32 2 aad ?_;conv=>whnf)
  | exact jW [] rfl)
theorem Kz {g f:Int}{b:By}(h:Bj g f b=0):(zh g f b).length=nS b∧Ji (zh g f b):=by
 unfold zh;rw [if_pos h]
 exact⟨uo _ _ _,fun s hs=>GY hs⟩
theorem Qg (d:Dk)(hd:d.ok)(hl:d.now.length=32)(hdd:d.dead=false)(hf:d.fuse<0):kQ Tryz.prog GS 135 [stA ⟨d,1,0,1,1,[]⟩,el [e0]] 0 [] (Is (.kZ [stA (ZR d),iv 0])):=by
 obtain⟨t1,t2,t3,t4⟩:=Xy
 have hV:=UE d hd hl
 have hT:kQ Tryz.prog GS 145 [el [e0]] 0 [] (Is (.kZ [bs Cm,iv 0])):=by unfold Cm;exact UA
 have hC:=UD [] [e0] aah
 have hS1:=BD GS 1 1 Cm aad
 have hS0:=BD GS 1 0 Cm aad
 rw [t1]at hS1
 rw [t2]at hS0
 have hW:=J9 GS d hd 1 (zh 1 1 Cm) (Kz t1).2 (by rw [(Kz t1).1,hl];omega)
 rw [(Hu hdd hf).1]at hW
 have hn1:((zh 1 1 Cm).map oV).length=nS Cm:=by rw [au,(Kz t1).1]
 have hn0:((zh 1 0 Cm).map oV).length=nS Cm:=by rw [au,(Kz t2).1]
 unfold ZR
 clear t1 t2 t4
 generalize sG d 1 (zh 1 1 Cm)=W at *
 generalize zh 1 1 Cm=L1 at *
 generalize zh 1 0 Cm=L0 at *
 generalize nS Cm=k at *
 generalize Cm=B at *
 obtain⟨hv,Zo⟩ : ∃hv:Nat,hv=16:=⟨_,rfl⟩
 have hF:kQ Tryz.prog GS 211 [iv 1,bs B,iv (hv:Int)] 0 [] (Is (bv true)):=by
  refine jJ func211 rfl mixed aac ?_
  refine nI [] aac (hS0) aae ?_
  refine jW [] (congrArg Value.bool ?_)
  rw [hn0]
  simp
  omega
 clear hS0 hn0
 refine jJ func135 rfl mixed aac ?_
 (refine kU [] aac (hV) rfl ?_ ?_;(focus trivial))
 conv=>whnf
 repeat' (first|(refine jP aac (hT) ?_ ?_;(focus (trivial;done));rintro _ _ _ ⟨rfl,rfl,rfl⟩;(conv=>whnf))|(refine jP aac (hC) ?_ ?_;(focus (trivial;done));rintro _ _ _ ⟨rfl,rfl,rfl⟩;(conv=>whnf))|(refine jS.mk aah ?_;rw [au,hl];refine kP.divN 32 2 aad ?_;rw [show (32/2:Nat)=hv from Zo.symm];conv=>whnf)|(refine jP aac (hF) ?_ ?_;(focus (trivial;done));rintro _ _ _ ⟨rfl,rfl,rfl⟩;(conv=>whnf))|(refine jP aac (hS1) ?_ ?_;(focus (trivial;done));rintro _ _ _ ⟨rfl,rfl,rfl⟩;(conv=>whnf))|(refine kP.to (y:=1+(k:Int)) ?_ ?_;(focus (show IntKind.i64.wrap (1+((List.map oV L1).length:Int))=1+(k:Int);rw [hn1];exact IntWalk.i64_in _ aad));conv=>whnf)|(refine kP.fr ?_;conv=>whnf))
 apply jH<;>intro h
 ·exfalso;simp at h;omega
 refine kP.to (y:=0) (by show IntKind.i64.wrap (0*(hv:Int))=0;rw [jq];rfl) ?_
 clear Zo
 conv=>whnf
 repeat' (first|(refine jP aac (hW) ?_ ?_;(focus (trivial;done));rintro _ _ _ ⟨rfl,rfl,rfl⟩;(conv=>whnf))|(refine kP.to (y:=1+(k:Int)) ?_ ?_;(focus (show IntKind.i64.wrap (1+((List.map oV L1).length:Int))=1+(k:Int);rw [hn1];exact IntWalk.i64_in _ aad));conv=>whnf)|(refine kP.fr ?_;conv=>whnf))
 exact jW (List.range 40) aae
end
section
open Ky
attribute [local irreducible] xP qU
def cN (i:Nat):By:=if i<10 then [99,UInt8.ofNat (48+i)]else [99,49,UInt8.ofNat (38+i)]
theorem Zp (G:Glob)(i:Nat)(h:i<16):kQ Tryz.prog G 18 [iv i] 0 [] (Is (.v (.string ⟨(cN i).tail.toArray⟩))):=by
 have h:i=0∨i=1∨i=2∨i=3∨i=4∨i=5∨i=6∨i=7∨i=8∨i=9∨i=10∨i=11∨i=12∨i=13∨i=14∨i=15:=aad
 refine jJ func18 rfl mixed aac ?_
 conv=>whnf
 rcases h with rfl|rfl|rfl|rfl|rfl|rfl|rfl|rfl|rfl|rfl|rfl|rfl|rfl|rfl|rfl|rfl<;>
 repeat' (first|(refine jW [] ?_;focus (first|rfl|decide +kernel))|(refine kP.fr ?_;conv=>whnf)|(refine jS.mk aah ?_;conv=>whnf)|(refine mW 9 ?_;conv=>whnf)|(refine kF aac (jJ aaz rfl mixed aac ?_);conv=>whnf)|(refine lD aaz ?_;conv=>whnf)|(refine nG.mk ⟨_,rfl,by decide, ?_⟩;conv=>whnf)|(refine pO.mk ⟨_,_,rfl,rfl,by decide,by decide, ?_⟩;conv=>whnf)|(refine nH.mk ⟨_,rfl, ?_⟩;conv=>whnf)|(refine pW.mk ⟨_,_,rfl,rfl,by decide,by decide,by decide, ?_⟩;conv=>whnf)|(refine kM.mk fun b hb=> ?_;obtain rfl:=hb aah;conv=>whnf)|(refine kM.mk fun b hb=> ?_;cases b<;>(conv=>whnf))|(refine qY.mk aac rfl rfl ?_;conv=>whnf))
theorem Zq (G:Glob)(i:Nat)(h:i<16):kQ Tryz.prog G 23 [iv i] 0 [] (Is (.v (.string ⟨(cN i).tail.toArray⟩))):=by
 have h:i=0∨i=1∨i=2∨i=3∨i=4∨i=5∨i=6∨i=7∨i=8∨i=9∨i=10∨i=11∨i=12∨i=13∨i=14∨i=15:=aad
 refine jJ func23 rfl mixed aac ?_
 conv=>whnf
 rcases h with rfl|rfl|rfl|rfl|rfl|rfl|rfl|rfl|rfl|rfl|rfl|rfl|rfl|rfl|rfl|rfl<;>
 repeat' (first|(refine jW [] ?_;focus (first|rfl|decide +kernel))|(refine kP.fr ?_;conv=>whnf)|(refine jS.mk aah ?_;conv=>whnf)|(refine mW 9 ?_;conv=>whnf)|(refine kF aac (jJ aaz rfl mixed aac ?_);conv=>whnf)|(refine lD aaz ?_;conv=>whnf)|(refine nG.mk ⟨_,rfl,by decide, ?_⟩;conv=>whnf)|(refine pO.mk ⟨_,_,rfl,rfl,by decide,by decide, ?_⟩;conv=>whnf)|(refine nH.mk ⟨_,rfl, ?_⟩;conv=>whnf)|(refine pW.mk ⟨_,_,rfl,rfl,by decide,by decide,by decide, ?_⟩;conv=>whnf)|(refine kM.mk fun b hb=> ?_;obtain rfl:=hb aah;conv=>whnf)|(refine kM.mk fun b hb=> ?_;cases b<;>(conv=>whnf))|(refine qY.mk aac rfl rfl ?_;conv=>whnf))
theorem Jo {i:Nat}(h:i<16):(⟨#[99]⟩:ByteArray)++⟨(cN i).tail.toArray⟩=⟨(cN i).toArray⟩∧(⟨(cN i).tail.toArray⟩:ByteArray).size<=9∧JZ (cN i)=true:=by
 have h:i=0∨i=1∨i=2∨i=3∨i=4∨i=5∨i=6∨i=7∨i=8∨i=9∨i=10∨i=11∨i=12∨i=13∨i=14∨i=15:=aad
 rcases h with rfl|rfl|rfl|rfl|rfl|rfl|rfl|rfl|rfl|rfl|rfl|rfl|rfl|rfl|rfl|rfl<;>exact⟨rfl,by decide,by decide +kernel⟩
theorem Qh {i:Nat}(h:i<16):kQ Tryz.prog GS 58 [tv (cN i)] 0 [] (Is (bv true))∧kQ Tryz.prog GS 68 [tv (cN i)] 0 [] (Is (bv true)):=by
 have h1:=(Jo h).2.2
 have hs:(⟨(cN i).toArray⟩:ByteArray).size<=140737488355328:=bZ (Dp h1) aah
 exact⟨by rw [<-h1];exact GL _ hs,by rw [<-h1];exact YM _ hs⟩
abbrev nl:AV:= .v (.slice none 0 0)
abbrev MG:FV:= .v (.slice none 0 0)
def Jp (s:By)(cap next drop:Int)(held:FV):List FV:= [sF s,iF cap,iF next,iF drop,held]
abbrev L9 (r:List FV):AV:= .agg (r.map FV.up)
def obZ:AV:= .agg [tv [],iv 0,iv 0,iv 0,nl]
def yL (cap:Int):Bool:=decide (1<=cap∧cap<=64)
def BI (b:Int):Bool:=decide (0<=b∧b<=68719476736)
def CB (n:Int):Bool:=decide (n%2=0∧8<=n∧n<=256)
theorem Xz {i:Nat}(h:i<16)(cap:Int):kQ Tryz.prog GS 17 [tv (cN i),iv cap] 0 [] (Is (if yL cap then .kZ [L9 (Jp (cN i) cap 1 0 MG),iv 0]else .kZ [obZ,iv 3])):=by
 have hK:=(Qh h).1
 generalize cN i=s at *
 refine jJ func17 rfl mixed aac ?_
 (refine kU [] aac (hK) rfl ?_ ?_;(focus trivial))
 conv=>whnf
 repeat' (first|(apply jH<;>intro h<;>(try simp only [bl]at h)<;>(conv=>whnf)))
 all_goals first
  | (rw [if_neg abt];exact jW [] aae)
  | (rw [if_pos abt];exact jW [] aae)
theorem UF {i:Nat}(h:i<16)(cap:Int):kQ Tryz.prog GS 22 [tv (cN i),iv cap] 0 [] (Is (if yL cap then .kZ [L9 (Jp (cN i) cap 1 0 MG),iv 0]else .kZ [obZ,iv 3])):=by
 have hK:=(Qh h).2
 generalize cN i=s at *
 refine jJ func22 rfl mixed aac ?_
 (refine kU [] aac (hK) rfl ?_ ?_;(focus trivial))
 conv=>whnf
 repeat' (first|(apply jH<;>intro h<;>(try simp only [bl]at h)<;>(conv=>whnf)))
 all_goals first
  | (rw [if_neg abt];exact jW [] aae)
  | (rw [if_pos abt];exact jW [] aae)
theorem XA (G:Glob)(b:Int):kQ Tryz.prog G 19 [iv b] 0 [] (Is (if BI b then .kZ [.agg [iv b,iv 0,iv (-1),nl,nl,iv 0,iv 0,iv 0,iv 0,iv 0,iv 0,iv 0],iv 0]else .kZ [.agg [iv 0,iv 0,iv 0,nl,nl,iv 0,iv 0,iv 0,iv 0,iv 0,iv 0,iv 0],iv 3])):=by
 refine jJ func19 rfl mixed aac ?_
 conv=>whnf
 repeat' (first|(apply jH<;>intro h<;>(try simp only [bl]at h)<;>(conv=>whnf)))
 all_goals first
  | (rw [if_neg abu];exact jW [] aae)
  | (rw [if_pos abu];exact jW [] aae)
theorem UG (G:Glob)(b:Int):kQ Tryz.prog G 24 [iv b] 0 [] (Is (if BI b then .kZ [.agg [iv b,iv 0,iv (-1),nl,nl,iv 0,iv 0,iv 0,iv 0,iv 0,iv 0,iv 0],iv 0]else .kZ [.agg [iv 0,iv 0,iv 0,nl,nl,iv 0,iv 0,iv 0,iv 0,iv 0,iv 0,iv 0],iv 3])):=by
 refine jJ func24 rfl mixed aac ?_
 conv=>whnf
 repeat' (first|(apply jH<;>intro h<;>(try simp only [bl]at h)<;>(conv=>whnf)))
 all_goals first
  | (rw [if_neg abu];exact jW [] aae)
  | (rw [if_pos abu];exact jW [] aae)
end
section
open Ky
attribute [local irreducible] cN Dx
abbrev Vh:List AV:= [nl,nl,iv 0,iv 0,bv false,iv 0,iv 0,iv 0,iv 0,nl]
def wB (key:Int)(obs:AV)(b h:Int)(st:List AV):List AV:=
 [.v (.int .u64 key),iv 0,obs,nl,iv b,iv 0,iv h,nl,nl,iv 0,iv 0,iv 0,iv 0,iv 0,iv 0,iv 0,nl]++(st++ [bv false,iv 0,nl])
def Qr (cap:Int)(i:Nat):List (List FV):=(List.range i).map fun k=>Jp (cN k) cap 1 0 MG
theorem Hw (cap:Int)(i:Nat):Qr cap i++ [Jp (cN i) cap 1 0 MG]=Qr cap (i+1):=by unfold Qr;rw [gI,bK];rfl
def ZT (clients cap bound lX:Int):Bool:=decide (1<=clients∧clients<=16)&&(yL cap&&(BI bound&&CB lX))
def BJ (key:Int)(clients cap bound lX:Int):AV:=
 if ZT clients cap bound lX then .kZ [.agg (wB key (.lst 5 (Qr cap clients.toNat)) bound (-1) (Vf (Dx lX.toNat))),iv 0]else .kZ [.agg (wB 0 nl 0 0 Vh),iv 3]
theorem BK {n:Int}(h:CB n=true) : ∃m:Nat,n=((2*m:Nat):Int)∧4<=m∧m<=128:=by
 have h:=of_decide_eq_true h
 exact⟨(n/2).toNat,by omega,by omega,by omega⟩
theorem XB (G:Glob)(n:Int):kQ Tryz.prog G 60 [iv n] 0 [] (Is (bv (CB n))):=by
 have ht:0<=n->n.tmod 2=n%2:=jc
 refine jJ func60 rfl mixed aac ?_
 refine jS.mk aah ?_
 conv=>whnf
 repeat' (first|(apply jH<;>intro h<;>(try simp only [bl]at h)<;>(conv=>whnf)))
 all_goals
  generalize n.tmod 2=t at *
  refine jW [] (congrArg Value.bool ?_)
  unfold CB
  rw [jr]
  simp at *
  omega
theorem UH (G:Glob)(n:Int)(hn:CB n=false):kQ Tryz.prog G 20 [iv n] 0 [] (Is (.kZ [.agg [nl,nl,iv 0,iv 0,bv false],iv 3])):=by
 have hS:=XB G n
 rw [hn]at hS
 refine jJ func20 rfl mixed aac ?_
 (refine kU [] aac (hS) rfl ?_ ?_;(focus trivial))
 exact jW [] aae
theorem KA (key:Int)(clients cap bound lX:Int):kQ Tryz.prog GS 6 [.v (.int .u64 key),iv clients,iv cap,iv bound,iv lX] 0 [] (Is (BJ key clients cap bound lX)):=by
 obtain⟨R,hR⟩ : ∃R,R=BJ key clients cap bound lX:=⟨_,rfl⟩
 rw [<-hR]
 unfold BJ at hR
 have hw:ZT clients cap bound lX=(decide (1<=clients∧clients<=16)&&(yL cap&&(BI bound&&CB lX))):=rfl
 refine jJ func6 rfl mixed aac ?_
 conv=>whnf
 by_cases hc:1<=clients∧clients<=16
 rotate_left
 ·rw [hw,decide_eq_false hc,dJ,if_neg aah]at hR
  subst hR
  apply jH<;>intro h
  ·exact jW [] aae
  conv=>whnf
  show BO (decide (clients>16)) _ _
  apply jH<;>intro h2
  ·exact jW [] aae
  ·exfalso;simp at h h2;omega
 rw [hw,decide_eq_true hc,fF]at hR
 obtain⟨n,rfl⟩ : ∃n:Nat,clients=(n:Int):=⟨clients.toNat,by omega⟩
 rw [dA]at hR
 apply jH<;>intro h
 ·exfalso;simp at h;omega
 conv=>whnf
 show BO (decide ((n:Int)>16)) _ _
 apply jH<;>intro h2
 ·exfalso;simp at h2;omega
 refine qm Yq 3 [28] (fun i:Nat=> [(28,iv i)]) (fun i=> [(0, .var 40 (wB 0 nl 0 0 Vh)),(1, .var 40 (wB key (.own 2) 0 0 Vh)),(2, .rows 68 5 (Qr cap i))]) (fun i=>i<=n∧(0<i->yL cap=true)) (fun i=>n-i) [(2, .nil)] [] 0 aac (fun _=>rfl) rfl ⟨aK _,fun h=>absurd h (ig 0)⟩ aae aae ?_
 intro i ⟨hi,hcap⟩
 apply jH<;>intro h
 ·have hlt:i<n:=aap
  have Jq:i<16:=aad
  have hN:=Zp GS i Jq
  have hO:=Xz Jq cap
  obtain⟨e1,e2,_⟩:=Jo Jq
  (refine kU [] aac (hN) rfl ?_ ?_;(focus trivial))
  refine jS.mk (by show (((1+(⟨(cN i).tail.toArray⟩:ByteArray).size:Nat):Int))<=9223372036854775807;omega) ?_
  rw [e1]
  conv=>whnf
  cases hb:yL cap with
  | false=>
   rw [hb]at hO hR
   refine nI [] aac (hO) aae ?_
   conv=>whnf
   rw [dJ,if_neg aah]at hR
   subst hR
   exact jW [] aae
  | true=>
   rw [hb]at hO
   refine nI [] aac (hO) aae ?_
   refine jS.mk (og (by unfold Qr;simp only [au,gQ,aZ,dw];omega) aac) ?_
   refine kP.i64 aad ?_
   exact oI (i+1) [(2, .lab 5)] [] rfl aa7 ⟨hlt,fun _=>rfl⟩ ⟨aae,aae,⟨rfl,rfl,Hw cap i⟩,trivial⟩ ⟨rfl,trivial⟩
 have hie:i=n:=aap
 subst hie
 have hb:=hcap aad
 rw [hb,fF]at hR
 have hK:=XA GS bound
 conv=>whnf
 cases hbd:BI bound with
 | false=>
  rw [hbd]at hK hR
  rw [dJ,if_neg aah]at hR
  subst hR
  refine nI [] aac (hK) aae ?_
  exact jW [2] aae
 | true=>
  rw [hbd]at hK hR
  rw [fF]at hR
  refine nI [] aac (hK) aae ?_
  conv=>whnf
  cases hs:CB lX with
  | false=>
   rw [hs,if_neg aah]at hR
   subst hR
   refine nI [] aac (UH GS lX hs) aae ?_
   exact jW [2] aae
  | true=>
   rw [hs,if_pos rfl]at hR
   obtain⟨m,rfl,hm1,hm2⟩:=BK hs
   rw [dA]at hR
   subst hR
   have hD:=Xt GS (2*m) aad aad aad
   have hO:=Xx m hm1 hm2
   generalize dk0 (2*m)=d at *
   generalize Dx (2*m)=s0 at *
   refine nI [] aac (hD) aae ?_
   refine nI [] aac (hO) aae ?_
   exact jW [2] aae
end
end Go.Proofs.YtnandbihiceihaaGreatDoor.Cl
