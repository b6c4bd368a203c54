/- Joined parts of the proof. The walks of package balance -/
import Derived.Test.YtnandbihiceihaaGreatDoorPk22
set_option linter.unusedVariables false
set_option linter.unusedSimpArgs false
set_option maxRecDepth 100000
set_option maxHeartbeats 16000000
namespace Go.Proofs.YtnandbihiceihaaGreatDoor.Cl
open RowKit Vc Ax Go.Proofs.YtnandbihiceihaaGreatDoor.Id Go.Proofs.Tryz
attribute [local irreducible] loadVar storeVar Instr.indexAt Instr.index Instr.sliceAt Instr.makeSlice Instr.lookup Instr.mapUpdate Instr.range Instr.next Instr.entry Instr.makeMap Builtin.append_ Builtin.copy_ Builtin.len_ Builtin.min_ Builtin.max_ Builtin.cap_ Builtin.delete_ Builtin.clear_ convert binOp eqGuard Op.unary Calls
section
attribute [local irreducible] IK aak
def Jp:List Wg->Int->Nat->Int
 | [],_,_=> -1
 | g::r,v,i=>if g.ver=v then(i:Int)else Jp r v (i+1)
theorem Wy {w:List Wg}{v:Int}{i:Nat}(h:i<w.length):Jp (w.drop i) v i=if w[i].ver=v then(i:Int)else Jp (w.drop (i+1)) v (i+1):=by
 rw [dH h];rfl
theorem aav (w:List Wg)(v:Int) : ∀i,(Jp w v i = -1∧wH w v=none)∨∃(j:Nat) (g:Wg),Jp w v i=((i+j:Nat):Int)∧w[j]? = some g∧wH w v=some g:=by
 induction w with
 | nil=>intro i;exact .inl ⟨rfl,rfl⟩
 | cons a r ih=>
  intro i
  unfold Jp wH
  rw [iG]
  by_cases h:a.ver=v
  ·right
   exact⟨0,a,by rw [if_pos h];rfl,rfl,by simp [h]⟩
  ·rw [if_neg h]
   simp only [h,decide_false]
   rcases ih (i+1)with ⟨h1,h2⟩|⟨j,g,h1,h2,h3⟩
   ·exact .inl ⟨h1,h2⟩
   ·exact .inr ⟨j+1,g,by rw [h1];congr 1;omega,by simpa using h2,h3⟩
structure K2 where
 j:Nat
 a:Int
 b:Int
def K2I (a b c t:Int)(x:K2):Prop:=x=⟨0,0,0⟩∨x=⟨1,a,c⟩∨x=⟨2,a+b,c+t⟩
abbrev li2 (a b:Int):AV:= .lst 1 [[.v (.int .i64 a)],[.v (.int .i64 b)]]
section
variable {G:Glob}
def exB (x:Ex):oI:= .var 99 ((SG x).map FV.up)
theorem aj6 (w:List Wg)(x:Ex)(hw:w.length<=100000):mP Tryz.prog G 90 [wgL w, .fn (.func 91) [] [.ptr 0 0]] 1 [(0,exB x)] (fun a n H=>a=iv (Jp w x.ver 0)∧n=1∧H = [(0,exB x)]):=by
 obtain⟨A,hA⟩ : ∃A,A=Jp w x.ver 0:=⟨_,rfl⟩
 rw [<-hA]
 refine lJ func90 rfl mixed aag ?_
 conv=>(whnf)
 refine mY afB 1 [8] (fun i:Nat=> [(8,iv i)]) (fun _=> [(0,exB x)]) (fun i=>i<=w.length∧Jp (w.drop i) x.ver i=A) (fun i=>w.length-i) [] [] 0 aag (fun _=>rfl) rfl ⟨aH _,by rw [hA];rfl⟩ aam aam ?_
 rintro i ⟨hi,hR⟩
 conv=>(whnf)
 apply lH<;>intro h
 rotate_left
 ·have hie:i=w.length:=aaG
  subst hie
  rw [iO]at hR
  simp only [Jp]at hR
  conv=>(whnf)
  exact nI (iv A) 1 _ [] [] ⟨rfl,rfl,rfl⟩ rfl aam (nN hR)
 have hlt:i<w.length:=aaG
 have hg:=ah hlt
 rw [Wy hlt]at hR
 generalize w[i]=v at *
 conv=>(whnf)
 refine mJ.mk' i rfl (pF hlt) ?_
 conv=>(whnf)
 refine mQ.lU hg ?_
 conv=>(whnf)
 (refine nJ aag (lJ func91 rfl mixed aag ?_);(conv=>(whnf)))
 (refine Hu ?_ rfl ?_;rotate_left 1;(focus trivial);(conv=>(whnf)))
 conv=>(whnf)
 refine lH (fun h1=> ?_) (fun h1=> ?_)
 ·rw [if_pos aaJ]at hR
  conv=>(whnf)
  exact nI (iv A) 1 _ [] [] ⟨rfl,rfl,rfl⟩ rfl aam (nN hR)
 ·rw [if_neg aaJ]at hR
  conv=>(whnf)
  refine lN.i64 aai ?_
  conv=>(whnf)
  exact lK (i+1) [] [] rfl (by show w.length -(i+1)<w.length-i;omega) ⟨hlt,hR⟩ aam aam
theorem ad3 (a b:Int):mP Tryz.prog G 109 [li2 a b] 0 [] (vZ 3 1 [[.v (.int .i64 a)],[.v (.int .i64 b)]]):=by
 refine lJ func109 rfl mixed aag ?_
 conv=>(whnf)
 refine⟨fun b' hb=> ?_⟩
 cases b' with
 | true=>exact absurd (hb abb) aaw
 | false=>
  conv=>(whnf)
  refine lW.mk (wQ (n:=2) aaw) ?_
  conv=>(whnf)
  exact nI (.own 0) 1 _ [(0, .lab 1)] [] ⟨rfl,rfl,rfl⟩ rfl aam aam
theorem ad4 (w a b c t arm:Int):mP Tryz.prog G 174 [iv w,li2 a b,li2 c t,iv arm] 0 [] (Is (bv (decide (okB w a b c t arm)))):=by
 obtain⟨B,hB⟩ : ∃B,B=decide (okB w a b c t arm):=⟨_,rfl⟩
 have hno : ¬okB w a b c t arm->B=false:=fun h=>by rw [hB];exact decide_eq_false h
 have hyes:okB w a b c t arm->B=true:=fun h=>by rw [hB];exact decide_eq_true h
 rw [<-hB]
 clear hB
 unfold okB okW at hno hyes
 refine lJ func174 rfl mixed aag ?_
 conv=>(whnf)
 apply lH<;>intro h
 ·rw [hno ahR]
  conv=>(whnf)
  exact lQ [] aam
 have c1 : ¬w<0:=aaE
 conv=>(whnf)
 apply lH<;>intro h
 ·have c2:2305843009213693952<w:=aaE
  rw [hno aai]
  conv=>(whnf)
  exact lQ [] aam
 have c2 : ¬2305843009213693952<w:=aaE
 conv=>(whnf)
 apply lH<;>intro h
 ·have c3:arm<1:=aaE
  rw [hno aai]
  conv=>(whnf)
  exact lQ [] aam
 have c3 : ¬arm<1:=aaE
 conv=>(whnf)
 apply lH<;>intro h
 ·have c4:2<arm:=aaE
  rw [hno aai]
  conv=>(whnf)
  exact lQ [] aam
 have c4 : ¬2<arm:=aaE
 conv=>(whnf)
 refine mY abL 0 [46] (fun i:Nat=> [(46,iv i)]) (fun _=> []) (fun i=>i<=2∧(1<=i->(0<=a∧a<=512)∧1<=c∧c<=10000)∧(2<=i->(0<=b∧b<=512)∧1<=t∧t<=10000)) (fun i=>2-i) [] [] 0 aag (fun _=>rfl) rfl ⟨by decide,fun h=>by omega,fun h=>by omega⟩ aam aam ?_
 rintro i ⟨hi,hi1,hi2⟩
 have h3:i=0∨i=1∨i=2:=aai
 rcases h3 with rfl|rfl|rfl
 ·skip
  conv=>(whnf)
  repeat' (first
   | (refine mJ.mk' 0 rfl (show 0<2 by decide) ?_;conv=>(whnf))
   | (refine mQ.at rfl ?_;conv=>(whnf)))
  apply lH<;>intro h
  ·have d:a<0:=aaE
   rw [hno aai]
   conv=>(whnf)
   exact lQ [] aam
  have d1 : ¬a<0:=aaE
  conv=>(whnf)
  repeat' (first
   | (refine mJ.mk' 0 rfl (show 0<2 by decide) ?_;conv=>(whnf))
   | (refine mQ.at rfl ?_;conv=>(whnf)))
  apply lH<;>intro h
  ·have d:512<a:=aaE
   rw [hno aai]
   conv=>(whnf)
   exact lQ [] aam
  have d2 : ¬512<a:=aaE
  conv=>(whnf)
  repeat' (first
   | (refine mJ.mk' 0 rfl (show 0<2 by decide) ?_;conv=>(whnf))
   | (refine mQ.at rfl ?_;conv=>(whnf)))
  apply lH<;>intro h
  ·have d:c<1:=aaE
   rw [hno aai]
   conv=>(whnf)
   exact lQ [] aam
  have d3 : ¬c<1:=aaE
  conv=>(whnf)
  repeat' (first
   | (refine mJ.mk' 0 rfl (show 0<2 by decide) ?_;conv=>(whnf))
   | (refine mQ.at rfl ?_;conv=>(whnf)))
  apply lH<;>intro h
  ·have d:10000<c:=aaE
   rw [hno aai]
   conv=>(whnf)
   exact lQ [] aam
  have d4 : ¬10000<c:=aaE
  conv=>(whnf)
  refine lN.i64 aaw ?_
  conv=>(whnf)
  exact lK 1 [] [] rfl aaw ⟨by decide,fun _=>by omega,fun h=>by omega⟩ aam aam
 ·have hi1:=hi1 (au _)
  conv=>(whnf)
  repeat' (first
   | (refine mJ.mk' 1 rfl (show 1<2 by decide) ?_;conv=>(whnf))
   | (refine mQ.at rfl ?_;conv=>(whnf)))
  apply lH<;>intro h
  ·have d:b<0:=aaE
   rw [hno aai]
   conv=>(whnf)
   exact lQ [] aam
  have d1 : ¬b<0:=aaE
  conv=>(whnf)
  repeat' (first
   | (refine mJ.mk' 1 rfl (show 1<2 by decide) ?_;conv=>(whnf))
   | (refine mQ.at rfl ?_;conv=>(whnf)))
  apply lH<;>intro h
  ·have d:512<b:=aaE
   rw [hno aai]
   conv=>(whnf)
   exact lQ [] aam
  have d2 : ¬512<b:=aaE
  conv=>(whnf)
  repeat' (first
   | (refine mJ.mk' 1 rfl (show 1<2 by decide) ?_;conv=>(whnf))
   | (refine mQ.at rfl ?_;conv=>(whnf)))
  apply lH<;>intro h
  ·have d:t<1:=aaE
   rw [hno aai]
   conv=>(whnf)
   exact lQ [] aam
  have d3 : ¬t<1:=aaE
  conv=>(whnf)
  repeat' (first
   | (refine mJ.mk' 1 rfl (show 1<2 by decide) ?_;conv=>(whnf))
   | (refine mQ.at rfl ?_;conv=>(whnf)))
  apply lH<;>intro h
  ·have d:10000<t:=aaE
   rw [hno aai]
   conv=>(whnf)
   exact lQ [] aam
  have d4 : ¬10000<t:=aaE
  conv=>(whnf)
  refine lN.i64 aaw ?_
  conv=>(whnf)
  exact lK 2 [] [] rfl aaw ⟨by decide,fun _=>hi1,fun h=>by omega⟩ aam aam
 ·have hi1:=hi1 aaw
  have hi2:=hi2 aaw
  rw [hyes aai]
  conv=>(whnf)
  exact lQ [] aam
theorem aax (w a b c t arm:Int):mP Tryz.prog G 184 [iv w,li2 a b,li2 c t,iv arm] 0 [] (Is (bv (decide (okB w a b c t arm)))):=by
 obtain⟨B,hB⟩ : ∃B,B=decide (okB w a b c t arm):=⟨_,rfl⟩
 have hno : ¬okB w a b c t arm->B=false:=fun h=>by rw [hB];exact decide_eq_false h
 have hyes:okB w a b c t arm->B=true:=fun h=>by rw [hB];exact decide_eq_true h
 rw [<-hB]
 clear hB
 unfold okB okW at hno hyes
 refine lJ func184 rfl mixed aag ?_
 conv=>(whnf)
 apply lH<;>intro h
 ·rw [hno ahR]
  conv=>(whnf)
  exact lQ [] aam
 have c1 : ¬w<0:=aaE
 conv=>(whnf)
 apply lH<;>intro h
 ·have c2:2305843009213693952<w:=aaE
  rw [hno aai]
  conv=>(whnf)
  exact lQ [] aam
 have c2 : ¬2305843009213693952<w:=aaE
 conv=>(whnf)
 apply lH<;>intro h
 ·have c3:arm<1:=aaE
  rw [hno aai]
  conv=>(whnf)
  exact lQ [] aam
 have c3 : ¬arm<1:=aaE
 conv=>(whnf)
 apply lH<;>intro h
 ·have c4:2<arm:=aaE
  rw [hno aai]
  conv=>(whnf)
  exact lQ [] aam
 have c4 : ¬2<arm:=aaE
 conv=>(whnf)
 refine mY abU 0 [9] (fun i:Nat=> [(9,iv i)]) (fun _=> []) (fun i=>i<=2∧(1<=i->(0<=a∧a<=512)∧1<=c∧c<=10000)∧(2<=i->(0<=b∧b<=512)∧1<=t∧t<=10000)) (fun i=>2-i) [] [] 0 aag (fun _=>rfl) rfl ⟨by decide,fun h=>by omega,fun h=>by omega⟩ aam aam ?_
 rintro i ⟨hi,hi1,hi2⟩
 have h3:i=0∨i=1∨i=2:=aai
 rcases h3 with rfl|rfl|rfl
 ·skip
  conv=>(whnf)
  repeat' (first
   | (refine mJ.mk' 0 rfl (show 0<2 by decide) ?_;conv=>(whnf))
   | (refine mQ.at rfl ?_;conv=>(whnf)))
  apply lH<;>intro h
  ·have d:a<0:=aaE
   rw [hno aai]
   conv=>(whnf)
   exact lQ [] aam
  have d1 : ¬a<0:=aaE
  conv=>(whnf)
  repeat' (first
   | (refine mJ.mk' 0 rfl (show 0<2 by decide) ?_;conv=>(whnf))
   | (refine mQ.at rfl ?_;conv=>(whnf)))
  apply lH<;>intro h
  ·have d:512<a:=aaE
   rw [hno aai]
   conv=>(whnf)
   exact lQ [] aam
  have d2 : ¬512<a:=aaE
  conv=>(whnf)
  repeat' (first
   | (refine mJ.mk' 0 rfl (show 0<2 by decide) ?_;conv=>(whnf))
   | (refine mQ.at rfl ?_;conv=>(whnf)))
  apply lH<;>intro h
  ·have d:c<1:=aaE
   rw [hno aai]
   conv=>(whnf)
   exact lQ [] aam
  have d3 : ¬c<1:=aaE
  conv=>(whnf)
  repeat' (first
   | (refine mJ.mk' 0 rfl (show 0<2 by decide) ?_;conv=>(whnf))
   | (refine mQ.at rfl ?_;conv=>(whnf)))
  apply lH<;>intro h
  ·have d:10000<c:=aaE
   rw [hno aai]
   conv=>(whnf)
   exact lQ [] aam
  have d4 : ¬10000<c:=aaE
  conv=>(whnf)
  refine lN.i64 aaw ?_
  conv=>(whnf)
  exact lK 1 [] [] rfl aaw ⟨by decide,fun _=>by omega,fun h=>by omega⟩ aam aam
 ·have hi1:=hi1 (au _)
  conv=>(whnf)
  repeat' (first
   | (refine mJ.mk' 1 rfl (show 1<2 by decide) ?_;conv=>(whnf))
   | (refine mQ.at rfl ?_;conv=>(whnf)))
  apply lH<;>intro h
  ·have d:b<0:=aaE
   rw [hno aai]
   conv=>(whnf)
   exact lQ [] aam
  have d1 : ¬b<0:=aaE
  conv=>(whnf)
  repeat' (first
   | (refine mJ.mk' 1 rfl (show 1<2 by decide) ?_;conv=>(whnf))
   | (refine mQ.at rfl ?_;conv=>(whnf)))
  apply lH<;>intro h
  ·have d:512<b:=aaE
   rw [hno aai]
   conv=>(whnf)
   exact lQ [] aam
  have d2 : ¬512<b:=aaE
  conv=>(whnf)
  repeat' (first
   | (refine mJ.mk' 1 rfl (show 1<2 by decide) ?_;conv=>(whnf))
   | (refine mQ.at rfl ?_;conv=>(whnf)))
  apply lH<;>intro h
  ·have d:t<1:=aaE
   rw [hno aai]
   conv=>(whnf)
   exact lQ [] aam
  have d3 : ¬t<1:=aaE
  conv=>(whnf)
  repeat' (first
   | (refine mJ.mk' 1 rfl (show 1<2 by decide) ?_;conv=>(whnf))
   | (refine mQ.at rfl ?_;conv=>(whnf)))
  apply lH<;>intro h
  ·have d:10000<t:=aaE
   rw [hno aai]
   conv=>(whnf)
   exact lQ [] aam
  have d4 : ¬10000<t:=aaE
  conv=>(whnf)
  refine lN.i64 aaw ?_
  conv=>(whnf)
  exact lK 2 [] [] rfl aaw ⟨by decide,fun _=>hi1,fun h=>by omega⟩ aam aam
 ·have hi1:=hi1 aaw
  have hi2:=hi2 aaw
  rw [hyes aai]
  conv=>(whnf)
  exact lQ [] aam
theorem aeB (w a b c t arm:Int):mP Tryz.prog G 92 [iv w,li2 a b,li2 c t,iv arm] 0 [] (Is (.og [iv (yM w a b c t arm),li2 (yN w a b c t arm).1 (yN w a b c t arm).2])):=by
 obtain⟨W,hW⟩ : ∃W,W=yM w a b c t arm:=⟨_,rfl⟩
 obtain⟨C,hC⟩ : ∃C,C=yN w a b c t arm:=⟨_,rfl⟩
 rw [<-hW, <-hC]
 refine lJ func92 rfl mixed aag ?_
 conv=>(whnf)
 refine qc [] aag (ad3 a b) aam ?_
 conv=>(whnf)
 (refine lM [] aag (ad4 w a b c t arm) rfl ?_ ?_;(focus trivial))
 conv=>(whnf)
 apply lH<;>intro h
 ·have hn : ¬okB w a b c t arm:=aaE
  unfold yM at hW
  unfold yN at hC
  rw [if_neg hn]at hW hC
  subst hW;subst hC
  conv=>(whnf)
  exact nI _ 0 [] [] [0] ⟨rfl,rfl,rfl⟩ rfl trivial aam
 have hok:okB w a b c t arm:=aaE
 have hok2:=hok
 obtain⟨h1,h2,h3,h4,h5,h6⟩:=hok2
 unfold okW at h4 h5
 conv=>(whnf)
 refine mY afC 1 [11,12,32] (fun x:K2=> [(11,iv x.a),(12,iv x.b),(32,iv x.j)]) (fun _=> [(0, .rows 3 1 [[.v (.int .i64 a)],[.v (.int .i64 b)]])]) (K2I a b c t) (fun x=>2-x.j) [] [] ⟨0,0,0⟩ aag (fun _=>rfl) rfl (.inl rfl) aam aam ?_
 rintro x (rfl|rfl|rfl)
 ·conv=>(whnf)
  refine mJ.mk' 0 rfl (show 0<2 by decide) ?_
  conv=>(whnf)
  refine mQ.at rfl ?_
  conv=>(whnf)
  (refine lX aei [] aag ?_;conv=>(whnf))
  repeat' (first
   | (refine And.intro ?_ ?_<;>(conv=>(whnf)))
   | (refine mJ.mk' 0 rfl (show 0<2 by decide) ?_;conv=>(whnf))
   | (refine mQ.at rfl ?_;conv=>(whnf))
   | (refine lN.i64 (by(try dsimp only);omega) ?_;conv=>(whnf)))
  exact lK ⟨1,a,c⟩ [] [] rfl ag9 akh aam ⟨nN (jW a),nN (jW c),rfl,trivial⟩
 ·conv=>(whnf)
  refine mJ.mk' 1 rfl (show 1<2 by decide) ?_
  conv=>(whnf)
  refine mQ.at rfl ?_
  conv=>(whnf)
  (refine lX aei [] aag ?_;conv=>(whnf))
  repeat' (first
   | (refine And.intro ?_ ?_<;>(conv=>(whnf)))
   | (refine mJ.mk' 1 rfl (show 1<2 by decide) ?_;conv=>(whnf))
   | (refine mQ.at rfl ?_;conv=>(whnf))
   | (refine lN.i64 (by(try dsimp only);omega) ?_;conv=>(whnf)))
  exact lK ⟨2,a+b,c+t⟩ [] [] rfl aha akh aam ⟨rfl,rfl,rfl,trivial⟩
 rcases h6 with rfl|rfl
 ·have hnum:=mulR (a:=a+1) (b:=c+t) (A:=513) (B:=20000) aai aai aai aai
  have hden:=mulR (a:=a+b+2) (b:=c) (A:=1026) (B:=10000) aai aai aai aai
  have aay:1<=(a+b+2)*c:=by
   have:=gY (show (1:Int)<=c by omega) (show (0:Int)<=a+b+2 by omega)
   omega
  have hW2:yM w a b c t 1=Ei w ((a+1)*(c+t)) ((a+b+2)*c):=ahN
  have hC2:C=(a+1,b):=ahl
  subst hC2
  rw [hW2]at hW
  unfold Ei at hW
  rw [if_neg aai]at hW
  obtain⟨M,hM⟩ : ∃M:Nat,(a+1)*(c+t)=M:=⟨((a+1)*(c+t)).toNat,by omega⟩
  obtain⟨D,hD⟩ : ∃D:Nat,(a+b+2)*c=D:=⟨((a+b+2)*c).toNat,by omega⟩
  rw [hM,hD]at hW
  rw [hM]at hnum
  rw [hD]at hden aay
  clear hok hC h hW2
  obtain⟨U,rfl⟩ : ∃U:Nat,w=U:=⟨w.toNat,by omega⟩
  simp only [dK]at hW
  conv=>(whnf)
  refine lN.to (y:=a+b+2) (show IntKind.i64.wrap (a+b+2)=a+b+2 from IntWalk.i64_in _ aai) ?_
  conv=>(whnf)
  refine lN.i64 aaw ?_
  conv=>(whnf)
  repeat' (first
   | (refine mJ.mk' 0 rfl (show 0<2 by decide) ?_;conv=>(whnf))
   | (refine mQ.at rfl ?_;conv=>(whnf)))
  refine lN.to (y:=(D:Int)) (by rw [hD];exact IntWalk.i64_in _ aai) ?_
  conv=>(whnf)
  refine lN.to (y:=(D:Int)) (oh (n:=D) aai) ?_
  conv=>(whnf)
  refine lN.to (y:=(U:Int)) (oh (n:=U) aai) ?_
  conv=>(whnf)
  refine lN.i64 aaw ?_
  conv=>(whnf)
  repeat' (first
   | (refine mJ.mk' 0 rfl (show 0<2 by decide) ?_;conv=>(whnf))
   | (refine mQ.at rfl ?_;conv=>(whnf)))
  refine lN.i64 aai ?_
  conv=>(whnf)
  refine lN.to (y:=(M:Int)) (show IntKind.i64.wrap ((a+1)*(c+t))=M by rw [hM];exact IntWalk.i64_in _ aai) ?_
  conv=>(whnf)
  refine lN.to (y:=(M:Int)) (oh (n:=M) aai) ?_
  conv=>(whnf)
  (refine lM [] aag (Na U M aai aai) rfl ?_ ?_;(focus trivial))
  have hlo:U*M%18446744073709551616<18446744073709551616:=fO _ aaw
  generalize U*M/18446744073709551616=hi at *
  generalize U*M%18446744073709551616=lo at *
  conv=>(whnf)
  refine lN.i64 aaw ?_
  conv=>(whnf)
  repeat' (first
   | (refine mJ.mk' 0 rfl (show 0<2 by decide) ?_;conv=>(whnf))
   | (refine mQ.at rfl ?_;conv=>(whnf)))
  refine lN.i64 aai ?_
  conv=>(whnf)
  repeat' (first
   | (refine mJ.mk' 0 rfl (show 0<2 by decide) ?_;conv=>(whnf))
   | (refine mQ.at rfl ?_;conv=>(whnf)))
  apply lH<;>intro h
  ·have hc:D<=hi:=aaE
   rw [if_pos hc]at hW
   conv=>(whnf)
   exact nI _ 0 [] [] [0] ⟨rfl,rfl,rfl⟩ rfl trivial ⟨nN hW.symm,⟨rfl,rfl,rfl⟩,trivial⟩
  have hc : ¬D<=hi:=aaE
  rw [if_neg hc]at hW
  conv=>(whnf)
  (refine lM [] aag (Nb hi lo D aai hlo aai) rfl ?_ ?_;(focus trivial))
  generalize IK hi lo D=q at *
  conv=>(whnf)
  refine lN.i64 aai ?_
  conv=>(whnf)
  exact nI _ 0 [] [] [0] ⟨rfl,rfl,rfl⟩ rfl trivial ⟨nN (by rw [hW];omega),⟨rfl,rfl,rfl⟩,trivial⟩
 ·have hnum:=mulR (a:=b+1) (b:=c+t) (A:=513) (B:=20000) aai aai aai aai
  have hden:=mulR (a:=a+b+2) (b:=t) (A:=1026) (B:=10000) aai aai aai aai
  have aay:1<=(a+b+2)*t:=by
   have:=gY (show (1:Int)<=t by omega) (show (0:Int)<=a+b+2 by omega)
   omega
  have hW2:yM w a b c t 2=Ei w ((b+1)*(c+t)) ((a+b+2)*t):=ahN
  have hC2:C=(a,b+1):=ahl
  subst hC2
  rw [hW2]at hW
  unfold Ei at hW
  rw [if_neg aai]at hW
  obtain⟨M,hM⟩ : ∃M:Nat,(b+1)*(c+t)=M:=⟨((b+1)*(c+t)).toNat,by omega⟩
  obtain⟨D,hD⟩ : ∃D:Nat,(a+b+2)*t=D:=⟨((a+b+2)*t).toNat,by omega⟩
  rw [hM,hD]at hW
  rw [hM]at hnum
  rw [hD]at hden aay
  clear hok hC h hW2
  obtain⟨U,rfl⟩ : ∃U:Nat,w=U:=⟨w.toNat,by omega⟩
  simp only [dK]at hW
  conv=>(whnf)
  refine lN.to (y:=a+b+2) (show IntKind.i64.wrap (a+b+2)=a+b+2 from IntWalk.i64_in _ aai) ?_
  conv=>(whnf)
  refine lN.i64 aaw ?_
  conv=>(whnf)
  repeat' (first
   | (refine mJ.mk' 1 rfl (show 1<2 by decide) ?_;conv=>(whnf))
   | (refine mQ.at rfl ?_;conv=>(whnf)))
  refine lN.to (y:=(D:Int)) (by rw [hD];exact IntWalk.i64_in _ aai) ?_
  conv=>(whnf)
  refine lN.to (y:=(D:Int)) (oh (n:=D) aai) ?_
  conv=>(whnf)
  refine lN.to (y:=(U:Int)) (oh (n:=U) aai) ?_
  conv=>(whnf)
  refine lN.i64 aaw ?_
  conv=>(whnf)
  repeat' (first
   | (refine mJ.mk' 1 rfl (show 1<2 by decide) ?_;conv=>(whnf))
   | (refine mQ.at rfl ?_;conv=>(whnf)))
  refine lN.i64 aai ?_
  conv=>(whnf)
  refine lN.to (y:=(M:Int)) (show IntKind.i64.wrap ((b+1)*(c+t))=M by rw [hM];exact IntWalk.i64_in _ aai) ?_
  conv=>(whnf)
  refine lN.to (y:=(M:Int)) (oh (n:=M) aai) ?_
  conv=>(whnf)
  (refine lM [] aag (Na U M aai aai) rfl ?_ ?_;(focus trivial))
  have hlo:U*M%18446744073709551616<18446744073709551616:=fO _ aaw
  generalize U*M/18446744073709551616=hi at *
  generalize U*M%18446744073709551616=lo at *
  conv=>(whnf)
  refine lN.i64 aaw ?_
  conv=>(whnf)
  repeat' (first
   | (refine mJ.mk' 1 rfl (show 1<2 by decide) ?_;conv=>(whnf))
   | (refine mQ.at rfl ?_;conv=>(whnf)))
  refine lN.i64 aai ?_
  conv=>(whnf)
  repeat' (first
   | (refine mJ.mk' 1 rfl (show 1<2 by decide) ?_;conv=>(whnf))
   | (refine mQ.at rfl ?_;conv=>(whnf)))
  apply lH<;>intro h
  ·have hc:D<=hi:=aaE
   rw [if_pos hc]at hW
   conv=>(whnf)
   exact nI _ 0 [] [] [0] ⟨rfl,rfl,rfl⟩ rfl trivial ⟨nN hW.symm,⟨rfl,rfl,rfl⟩,trivial⟩
  have hc : ¬D<=hi:=aaE
  rw [if_neg hc]at hW
  conv=>(whnf)
  (refine lM [] aag (Nb hi lo D aai hlo aai) rfl ?_ ?_;(focus trivial))
  generalize IK hi lo D=q at *
  conv=>(whnf)
  refine lN.i64 aai ?_
  conv=>(whnf)
  exact nI _ 0 [] [] [0] ⟨rfl,rfl,rfl⟩ rfl trivial ⟨nN (by rw [hW];omega),⟨rfl,rfl,rfl⟩,trivial⟩
theorem aaz (w a b c t arm:Int):mP Tryz.prog G 103 [iv w,li2 a b,li2 c t,iv arm] 0 [] (Is (.og [iv (yM w a b c t arm),li2 (yN w a b c t arm).1 (yN w a b c t arm).2])):=by
 obtain⟨W,hW⟩ : ∃W,W=yM w a b c t arm:=⟨_,rfl⟩
 obtain⟨C,hC⟩ : ∃C,C=yN w a b c t arm:=⟨_,rfl⟩
 rw [<-hW, <-hC]
 refine lJ func103 rfl mixed aag ?_
 conv=>(whnf)
 refine lW.mk (wQ (n:=2) aaw) ?_
 conv=>(whnf)
 (refine lM [] aag (aax w a b c t arm) rfl ?_ ?_;(focus trivial))
 conv=>(whnf)
 apply lH<;>intro h
 ·have hn : ¬okB w a b c t arm:=aaE
  unfold yM at hW
  unfold yN at hC
  rw [if_neg hn]at hW hC
  subst hW;subst hC
  conv=>(whnf)
  exact nI _ 0 [] [] [1] ⟨rfl,rfl,rfl⟩ rfl trivial aam
 have hok:okB w a b c t arm:=aaE
 have hok2:=hok
 obtain⟨h1,h2,h3,h4,h5,h6⟩:=hok2
 unfold okW at h4 h5
 conv=>(whnf)
 refine mY abt 2 [11,12,13] (fun x:K2=> [(11,iv x.a),(12,iv x.b),(13,iv x.j)]) (fun _=> [(1, .rows 3 1 [[.v (.int .i64 a)],[.v (.int .i64 b)]])]) (K2I a b c t) (fun x=>2-x.j) [] [] ⟨0,0,0⟩ aag (fun _=>rfl) rfl (.inl rfl) aam aam ?_
 rintro x (rfl|rfl|rfl)
 ·conv=>(whnf)
  (refine lX LQ [] aag ?_;conv=>(whnf))
  repeat' (first
   | (refine And.intro ?_ ?_<;>(conv=>(whnf)))
   | (refine mJ.mk' 0 rfl (show 0<2 by decide) ?_;conv=>(whnf))
   | (refine mQ.at rfl ?_;conv=>(whnf))
   | (refine lN.i64 (by(try dsimp only);omega) ?_;conv=>(whnf)))
  exact lK ⟨1,a,c⟩ [] [] rfl ag9 akh aam ⟨nN (jW a),nN (jW c),rfl,trivial⟩
 ·conv=>(whnf)
  (refine lX LQ [] aag ?_;conv=>(whnf))
  repeat' (first
   | (refine And.intro ?_ ?_<;>(conv=>(whnf)))
   | (refine mJ.mk' 1 rfl (show 1<2 by decide) ?_;conv=>(whnf))
   | (refine mQ.at rfl ?_;conv=>(whnf))
   | (refine lN.i64 (by(try dsimp only);omega) ?_;conv=>(whnf)))
  exact lK ⟨2,a+b,c+t⟩ [] [] rfl aha akh aam ⟨rfl,rfl,rfl,trivial⟩
 rcases h6 with rfl|rfl
 ·have hnum:=mulR (a:=a+1) (b:=c+t) (A:=513) (B:=20000) aai aai aai aai
  have hden:=mulR (a:=a+b+2) (b:=c) (A:=1026) (B:=10000) aai aai aai aai
  have hW2:yM w a b c t 1=Ei w ((a+1)*(c+t)) ((a+b+2)*c):=ahN
  have hC2:C=(a+1,b):=ahl
  subst hC2
  rw [hW2]at hW
  obtain⟨M,hM⟩ : ∃M:Int,M=(a+1)*(c+t):=⟨_,rfl⟩
  obtain⟨D,hD⟩ : ∃D:Int,D=(a+b+2)*c:=⟨_,rfl⟩
  rw [<-hM, <-hD]at hW
  rw [<-hM]at hnum
  rw [<-hD]at hden
  clear hok hC h hW2
  conv=>(whnf)
  refine lN.i64 aaw ?_
  conv=>(whnf)
  repeat' (first
   | (refine mJ.mk' 0 rfl (show 0<2 by decide) ?_;conv=>(whnf))
   | (refine mQ.at rfl ?_;conv=>(whnf)))
  refine lN.i64 aai ?_
  conv=>(whnf)
  repeat' (first
   | (refine mJ.mk' 0 rfl (show 0<2 by decide) ?_;conv=>(whnf))
   | (refine mQ.at rfl ?_;conv=>(whnf)))
  (refine lX LQ [] aag ?_;conv=>(whnf))
  repeat' (first
   | (refine And.intro ?_ ?_<;>(conv=>(whnf)))
   | (refine mJ.mk' 0 rfl (show 0<2 by decide) ?_;conv=>(whnf))
   | (refine mQ.at rfl ?_;conv=>(whnf))
   | (refine lN.to (y:=a+b+2) (show IntKind.i64.wrap (a+b+2)=a+b+2 from IntWalk.i64_in _ aai) ?_;conv=>(whnf))
   | (refine lN.to (y:=M) (show IntKind.i64.wrap ((a+1)*(c+t))=M by rw [<-hM];exact IntWalk.i64_in _ aai) ?_;conv=>(whnf))
   | (refine lN.to (y:=D) (show IntKind.i64.wrap ((a+b+2)*c)=D by rw [<-hD];exact IntWalk.i64_in _ aai) ?_;conv=>(whnf))
   | (refine lN.to (y:=a+1) (show IntKind.i64.wrap (a+1)=a+1 from IntWalk.i64_in _ aai) ?_;conv=>(whnf))
   | (refine lN.i64 aaw ?_;conv=>(whnf)))
  (refine lM [] aag (IV w M D ⟨by omega,by omega⟩) rfl ?_ ?_;(focus trivial))
  rw [<-hW]
  conv=>(whnf)
  exact nI _ 0 [] [] [1] ⟨rfl,rfl,rfl⟩ rfl trivial aam
 ·have hnum:=mulR (a:=b+1) (b:=c+t) (A:=513) (B:=20000) aai aai aai aai
  have hden:=mulR (a:=a+b+2) (b:=t) (A:=1026) (B:=10000) aai aai aai aai
  have hW2:yM w a b c t 2=Ei w ((b+1)*(c+t)) ((a+b+2)*t):=ahN
  have hC2:C=(a,b+1):=ahl
  subst hC2
  rw [hW2]at hW
  obtain⟨M,hM⟩ : ∃M:Int,M=(b+1)*(c+t):=⟨_,rfl⟩
  obtain⟨D,hD⟩ : ∃D:Int,D=(a+b+2)*t:=⟨_,rfl⟩
  rw [<-hM, <-hD]at hW
  rw [<-hM]at hnum
  rw [<-hD]at hden
  clear hok hC h hW2
  conv=>(whnf)
  refine lN.i64 aaw ?_
  conv=>(whnf)
  repeat' (first
   | (refine mJ.mk' 1 rfl (show 1<2 by decide) ?_;conv=>(whnf))
   | (refine mQ.at rfl ?_;conv=>(whnf)))
  refine lN.i64 aai ?_
  conv=>(whnf)
  repeat' (first
   | (refine mJ.mk' 1 rfl (show 1<2 by decide) ?_;conv=>(whnf))
   | (refine mQ.at rfl ?_;conv=>(whnf)))
  (refine lX LQ [] aag ?_;conv=>(whnf))
  repeat' (first
   | (refine And.intro ?_ ?_<;>(conv=>(whnf)))
   | (refine mJ.mk' 1 rfl (show 1<2 by decide) ?_;conv=>(whnf))
   | (refine mQ.at rfl ?_;conv=>(whnf))
   | (refine lN.to (y:=a+b+2) (show IntKind.i64.wrap (a+b+2)=a+b+2 from IntWalk.i64_in _ aai) ?_;conv=>(whnf))
   | (refine lN.to (y:=M) (show IntKind.i64.wrap ((b+1)*(c+t))=M by rw [<-hM];exact IntWalk.i64_in _ aai) ?_;conv=>(whnf))
   | (refine lN.to (y:=D) (show IntKind.i64.wrap ((a+b+2)*t)=D by rw [<-hD];exact IntWalk.i64_in _ aai) ?_;conv=>(whnf))
   | (refine lN.to (y:=b+1) (show IntKind.i64.wrap (b+1)=b+1 from IntWalk.i64_in _ aai) ?_;conv=>(whnf))
   | (refine lN.i64 aaw ?_;conv=>(whnf)))
  (refine lM [] aag (IV w M D ⟨by omega,by omega⟩) rfl ?_ ?_;(focus trivial))
  rw [<-hW]
  conv=>(whnf)
  exact nI _ 0 [] [] [1] ⟨rfl,rfl,rfl⟩ rfl trivial aam
end
end
def Qy (M:Int->Option FV)(C:Int->Int×Int):Prop:= ∀k,match M k with|some f=>f = .lst 1 [[.v (.int .i64 (C k).1)],[.v (.int .i64 (C k).2)]]|none=>C k=(0,0)
theorem Qy.no {M:Int->Option FV}{C:Int->Int×Int}(h:Qy M C){k:Int}(hk:M k=none):C k=(0,0):=by have:=h k;rw [hk]at this;exact this
theorem Qy.yes {M:Int->Option FV}{C:Int->Int×Int}(h:Qy M C){k:Int}{f:FV}(hk:M k=some f):f = .lst 1 [[.v (.int .i64 (C k).1)],[.v (.int .i64 (C k).2)]]:=by have:=h k;rw [hk]at this;exact this
theorem Qy.put {M:Int->Option FV}{C:Int->Int×Int}(h:Qy M C)(v:Int)(d:Int×Int):Qy (fun k=>if k=v then some (.lst 1 [[.v (.int .i64 d.1)],[.v (.int .i64 d.2)]])else M k) fun k=>if k=v then d else C k:=fun k=>by
 by_cases e:k=v
 ·simp only [if_pos e]
 ·simp only [if_neg e];exact h k
structure KB where
 i:Nat
 M:Int->Option FV
theorem F7 (w:List Wg)(x:List Ex):(pR w x).out.length<=x.length:=by
 have h : ∀i,i<=x.length->(pR w (x.take i)).out.length<=i:=by
  intro i
  induction i with
  | zero=>intro _;exact au 0
  | succ i ih=>
   intro hi
   rw [IU aai]
   have:=ih aai
   generalize pR w (x.take i)=s at *
   unfold bsN
   split
   ·omega
   ·simp only [ln];omega
 have:=h x.length (au _)
 rwa [aZ]at this
section
variable {G:Glob}
theorem ahC (x:List Ex)(w:List Wg)(hx:x.length<=100000)(hw:w.length<=100000):mP Tryz.prog G 42 [JV x,wgL w] 0 [] (Is (li (uG x w))):=by
 obtain⟨A,hA⟩ : ∃A,A=uG x w:=⟨_,rfl⟩
 rw [<-hA]
 refine lJ func42 rfl mixed aag ?_
 conv=>(whnf)
 refine mY afh 2 [6,7,18] (fun k:KB=> [(6,iv (pR w (x.take k.i)).w),(7, .own 1),(18,iv k.i)]) (fun k=> [(1, .rows 3 1 ((pR w (x.take k.i)).out.map zx)),(0, .oU k.M)]) (fun k=>k.i<=x.length∧Qy k.M (pR w (x.take k.i)).C) (fun k=>x.length-k.i) [(1, .nil)] [] ⟨0,fun _=>none⟩ aag (fun _=>rfl) rfl ⟨aH _,fun k=>rfl⟩ aam aam ?_
 rintro⟨i,M⟩ ⟨hi,hM⟩
 dsimp only at hi hM
 have hol:(pR w (x.take i)).out.length<=i:=bG (F7 _ _) (iq _ _)
 conv=>(whnf)
 apply lH<;>intro h
 rotate_left
 ·have hie:i=x.length:=aaG
  subst hie
  dsimp only
  rw [aZ]
  conv=>(whnf)
  exact nI (li A) 0 [] [] [1] ⟨rfl,rfl,rfl⟩ rfl trivial ⟨rfl,rfl,by rw [hA];rfl⟩
 have hlt:i<x.length:=aaG
 have hg:=ah hlt
 have hn:=IU (w:=w) hlt
 dsimp only
 generalize x[i]=e at *
 generalize pR w (x.take i)=s at *
 unfold bsN at hn
 conv=>(whnf)
 refine mJ.mk' i rfl (pF hlt) ?_
 conv=>(whnf)
 refine mQ.lU hg ?_
 conv=>(whnf)
 refine vw [2] [] aag (aj6 w e hw) rfl aam aam rfl ?_
 by_cases harm:e.arm=1∨e.arm=2
 rotate_left
 ·have hcn:qK w e=none:=if_neg harm
  conv=>(whnf)
  repeat' (apply lH<;>intro h<;>(first|(exfalso;simp at h;omega)|(exfalso;simp_all;done)|(exfalso;simp_all;omega)|(conv=>(whnf))))
  all_goals
   conv=>(whnf)
   refine lN.i64 aaO ?_
   conv=>(whnf)
   rw [show qK w e=none from hcn]at hn
   exact lK ⟨i+1,M⟩ [(1, .lab 1)] [] rfl aaN ⟨hlt,by show Qy M (pR w (x.take (i+1))).C;rw [hn];exact hM⟩ ⟨⟨rfl,rfl,by show _=(pR w (x.take (i+1))).out.map zx;rw [hn]⟩,rfl,trivial⟩ ⟨by show _=Value.int .i64 (pR w (x.take (i+1))).w;rw [hn],rfl,rfl,trivial⟩
 rcases aav w e.ver 0 with ⟨hI,hf⟩|⟨j,g,hI,hgw,hf⟩
 ·have hcn:qK w e=none:=by unfold qK;rw [if_pos harm,hf]
  rw [hI]
  conv=>(whnf)
  repeat' (apply lH<;>intro h<;>(first|(exfalso;simp at h;omega)|(exfalso;simp_all;done)|(exfalso;simp_all;omega)|(conv=>(whnf))))
  all_goals
   conv=>(whnf)
   refine lN.i64 aaO ?_
   conv=>(whnf)
   rw [show qK w e=none from hcn]at hn
   exact lK ⟨i+1,M⟩ [(1, .lab 1)] [] rfl aaN ⟨hlt,by show Qy M (pR w (x.take (i+1))).C;rw [hn];exact hM⟩ ⟨⟨rfl,rfl,by show _=(pR w (x.take (i+1))).out.map zx;rw [hn]⟩,rfl,trivial⟩ ⟨by show _=Value.int .i64 (pR w (x.take (i+1))).w;rw [hn],rfl,rfl,trivial⟩
 have hjt:=(aB.1 hgw).1
 rw [aO]at hI
 rw [hI]
 have zK : ¬(okW g.c∧okW g.t)->qK w e=none:=fun h=>aht
 have Qr:okW g.c∧okW g.t->qK w e=some g:=fun h=>ahD
 unfold okW at zK Qr
 conv=>(whnf)
 repeat' (apply lH<;>intro h<;>(first|(exfalso;simp at h;omega)|(exfalso;simp_all;done)|(exfalso;simp_all;omega)|(conv=>(whnf))))
 all_goals
  (refine lX XT [] aag ?_;conv=>(whnf))
  repeat' (first
   | (refine And.intro ?_ ?_<;>(conv=>(whnf)))
   | (refine mJ.mk' j rfl (pF hjt) ?_;conv=>(whnf))
   | (refine mQ.lU hgw ?_;conv=>(whnf)))
  refine lH (fun h1=> ?_) (fun h1=> ?_)
  ·have c1:g.c<1:=aaJ
   all_goals
    conv=>(whnf)
    refine lN.i64 aaO ?_
    conv=>(whnf)
    rw [show qK w e=none from zK aai]at hn
    exact lK ⟨i+1,M⟩ [(1, .lab 1)] [] rfl aaN ⟨hlt,by show Qy M (pR w (x.take (i+1))).C;rw [hn];exact hM⟩ ⟨⟨rfl,rfl,by show _=(pR w (x.take (i+1))).out.map zx;rw [hn]⟩,rfl,trivial⟩ ⟨by show _=Value.int .i64 (pR w (x.take (i+1))).w;rw [hn],rfl,rfl,trivial⟩
  have c1 : ¬g.c<1:=aaJ
  conv=>(whnf)
  refine lH (fun h1=> ?_) (fun h1=> ?_)
  ·have c2:10000<g.c:=aaJ
   all_goals
    conv=>(whnf)
    refine lN.i64 aaO ?_
    conv=>(whnf)
    rw [show qK w e=none from zK aai]at hn
    exact lK ⟨i+1,M⟩ [(1, .lab 1)] [] rfl aaN ⟨hlt,by show Qy M (pR w (x.take (i+1))).C;rw [hn];exact hM⟩ ⟨⟨rfl,rfl,by show _=(pR w (x.take (i+1))).out.map zx;rw [hn]⟩,rfl,trivial⟩ ⟨by show _=Value.int .i64 (pR w (x.take (i+1))).w;rw [hn],rfl,rfl,trivial⟩
  have c2 : ¬10000<g.c:=aaJ
  conv=>(whnf)
  refine lH (fun h1=> ?_) (fun h1=> ?_)
  ·have c3:g.t<1:=aaJ
   all_goals
    conv=>(whnf)
    refine lN.i64 aaO ?_
    conv=>(whnf)
    rw [show qK w e=none from zK aai]at hn
    exact lK ⟨i+1,M⟩ [(1, .lab 1)] [] rfl aaN ⟨hlt,by show Qy M (pR w (x.take (i+1))).C;rw [hn];exact hM⟩ ⟨⟨rfl,rfl,by show _=(pR w (x.take (i+1))).out.map zx;rw [hn]⟩,rfl,trivial⟩ ⟨by show _=Value.int .i64 (pR w (x.take (i+1))).w;rw [hn],rfl,rfl,trivial⟩
  have c3 : ¬g.t<1:=aaJ
  conv=>(whnf)
  refine lH (fun h1=> ?_) (fun h1=> ?_)
  ·have c4:10000<g.t:=aaJ
   all_goals
    conv=>(whnf)
    refine lN.i64 aaO ?_
    conv=>(whnf)
    rw [show qK w e=none from zK aai]at hn
    exact lK ⟨i+1,M⟩ [(1, .lab 1)] [] rfl aaN ⟨hlt,by show Qy M (pR w (x.take (i+1))).C;rw [hn];exact hM⟩ ⟨⟨rfl,rfl,by show _=(pR w (x.take (i+1))).out.map zx;rw [hn]⟩,rfl,trivial⟩ ⟨by show _=Value.int .i64 (pR w (x.take (i+1))).w;rw [hn],rfl,rfl,trivial⟩
  have c4 : ¬10000<g.t:=aaJ
  have hcn:=Qr aai
  rw [hcn]at hn
  dsimp only at hn
  conv=>(whnf)
  refine⟨fun hno=> ?_,fun y hy=> ?_⟩
  ·have hz:=hM.no hno
   rw [hz]at hn
   dsimp only at hn
   have hst:=aeB (G:=G) s.w 0 0 g.c g.t e.arm
   have hput:=hM.put e.ver (yN s.w 0 0 g.c g.t e.arm)
   generalize yN s.w 0 0 g.c g.t e.arm=d at *
   generalize yM s.w 0 0 g.c g.t e.arm=N at *
   conv=>(whnf)
   (refine lX XT [0,3,4] aag ?_;conv=>(whnf))
   refine oD [3,4] aag hst ?_ ?_
   ·trivial
   rintro _ _ _ ⟨rfl,rfl,rfl⟩
   conv=>(whnf)
   refine lW.mk (wQ aaL) ?_
   conv=>(whnf)
   refine lN.i64 aaO ?_
   conv=>(whnf)
   refine lK ⟨i+1,_⟩ [(1, .lab 6)] [] rfl aaN ⟨hlt,by show Qy _ (pR w (x.take (i+1))).C;rw [hn];exact hput⟩ ⟨⟨rfl,rfl,by show _=(pR w (x.take (i+1))).out.map zx;rw [hn,aS];rfl⟩,rfl,trivial⟩ ⟨by show _=Value.int .i64 (pR w (x.take (i+1))).w;rw [hn],rfl,rfl,trivial⟩
  ·have hz:=hM.yes hy
   subst hz
   have hst:=aeB (G:=G) s.w (s.C e.ver).1 (s.C e.ver).2 g.c g.t e.arm
   have hput:=hM.put e.ver (yN s.w (s.C e.ver).1 (s.C e.ver).2 g.c g.t e.arm)
   generalize yN s.w (s.C e.ver).1 (s.C e.ver).2 g.c g.t e.arm=d at *
   generalize yM s.w (s.C e.ver).1 (s.C e.ver).2 g.c g.t e.arm=N at *
   conv=>(whnf)
   (refine lX XT [0,3] aag ?_;conv=>(whnf))
   refine oD [3] aag hst ?_ ?_
   ·trivial
   rintro _ _ _ ⟨rfl,rfl,rfl⟩
   conv=>(whnf)
   refine lW.mk (wQ aaL) ?_
   conv=>(whnf)
   refine lN.i64 aaO ?_
   conv=>(whnf)
   refine lK ⟨i+1,_⟩ [(1, .lab 5)] [] rfl aaN ⟨hlt,by show Qy _ (pR w (x.take (i+1))).C;rw [hn];exact hput⟩ ⟨⟨rfl,rfl,by show _=(pR w (x.take (i+1))).out.map zx;rw [hn,aS];rfl⟩,rfl,trivial⟩ ⟨by show _=Value.int .i64 (pR w (x.take (i+1))).w;rw [hn],rfl,rfl,trivial⟩
def cF (d:Int×Int):FV:= .lst 1 [[.v (.int .i64 d.1)],[.v (.int .i64 d.2)]]
def nF:FV:= .v (.slice none 0 0)
structure KRg where
 i:Nat
 a:FV
 b:FV
theorem ad5 (x:List Ex)(g1 g2:Wg)(alX:g1.ver≠g2.ver)(hx:x.length<=100000):mP Tryz.prog G 49 [JV x,wgL [g1,g2]] 0 [] (Is (li (uG x [g1,g2]))):=by
 obtain⟨A,hA⟩ : ∃A,A=uG x [g1,g2]:=⟨_,rfl⟩
 rw [<-hA]
 refine lJ func49 rfl mixed aag ?_
 conv=>(whnf)
 refine uT.mk' (qp:=24) 2 rfl rfl aaw ?_
 conv=>(whnf)
 refine mY afp 1 [7] (fun r:KRg=> [(7,iv r.i)]) (fun r=> [(0, .rows 54 1 [[r.a],[r.b]])]) (fun r=>r=⟨0,nF,nF⟩∨r=⟨1,cF (0,0),nF⟩∨r=⟨2,cF (0,0),cF (0,0)⟩) (fun r=>2-r.i) [] [] ⟨0,nF,nF⟩ aag (fun _=>rfl) rfl (.inl rfl) aam aam ?_
 rintro r (rfl|rfl|rfl)
 ·conv=>(whnf)
  refine mJ.mk' 0 rfl (show 0<2 by decide) ?_
  conv=>(whnf)
  refine mQ.at rfl ?_
  conv=>(whnf)
  refine lN.i64 ahk ?_
  conv=>(whnf)
  exact lK ⟨1,cF (0,0),nF⟩ [] [] rfl aaw (.inr (.inl rfl)) aam aam
 ·conv=>(whnf)
  refine mJ.mk' 1 rfl (show 1<2 by decide) ?_
  conv=>(whnf)
  refine mQ.at rfl ?_
  conv=>(whnf)
  refine lN.i64 ahk ?_
  conv=>(whnf)
  exact lK ⟨2,cF (0,0),cF (0,0)⟩ [] [] rfl aaw (.inr (.inr rfl)) aam aam
 conv=>(whnf)
 refine mY afq 2 [5,8,9] (fun i:Nat=> [(5,iv (pR [g1,g2] (x.take i)).w),(8, .own 1),(9,iv i)]) (fun i=> [(1, .rows 3 1 ((pR [g1,g2] (x.take i)).out.map zx)),(0, .rows 54 1 [[cF ((pR [g1,g2] (x.take i)).C g1.ver)],[cF ((pR [g1,g2] (x.take i)).C g2.ver)]])]) (fun i=>i<=x.length) (fun i=>x.length-i) [(1, .nil)] [] 0 aag (fun _=>rfl) rfl (aH _) aam aam ?_
 intro i hi
 have hol:(pR [g1,g2] (x.take i)).out.length<=i:=bG (F7 _ _) (iq _ _)
 conv=>(whnf)
 apply lH<;>intro h
 rotate_left
 ·have hie:i=x.length:=aaG
  subst hie
  rw [aZ]
  conv=>(whnf)
  exact nI (li A) 0 [] [] [1] ⟨rfl,rfl,rfl⟩ rfl trivial ⟨rfl,rfl,by rw [hA];rfl⟩
 have hlt:i<x.length:=aaG
 have hg:=ah hlt
 have hn:=IU (w:= [g1,g2]) hlt
 generalize x[i]=e at *
 generalize pR [g1,g2] (x.take i)=s at *
 unfold bsN at hn
 conv=>(whnf)
 refine mY afr 2 [10] (fun k:Nat=> [(10,iv k)]) (fun _=> [(1, .rows 3 1 (s.out.map zx)),(0, .rows 54 1 [[cF (s.C g1.ver)],[cF (s.C g2.ver)]])]) (fun k=>k<=2∧(1<=k->g1.ver≠e.ver)∧(2<=k->g2.ver≠e.ver)) (fun k=>2-k) [] [] 0 aag (fun _=>rfl) rfl ⟨by decide,fun h=>by omega,fun h=>by omega⟩ aam aam ?_
 rintro k ⟨hk,hk1,hk2⟩
 have hk3:k=0∨k=1∨k=2:=aai
 rcases hk3 with rfl|rfl|rfl
 ·conv=>(whnf)
  (refine lX Oy [] aag ?_;conv=>(whnf))
  repeat' (first
   | (refine mJ.mk' 0 rfl (show 0<2 by decide) ?_;conv=>(whnf))
   | (refine mQ.at rfl ?_;conv=>(whnf))
   | (refine mJ.mk' i rfl (pF hlt) ?_;conv=>(whnf))
   | (refine mQ.lU hg ?_;conv=>(whnf)))
  refine lH (fun h1=> ?_) (fun h1=> ?_)
  ·have hne:g1.ver≠e.ver:=aaJ
   conv=>(whnf)
   refine lN.i64 aaw ?_
   conv=>(whnf)
   exact lK 1 [] [] rfl aaw ⟨by decide,fun _=>hne,fun h=>by omega⟩ aam aam
  have he:g1.ver=e.ver:=aaJ
  have hf:wH [g1,g2] e.ver=some g1:=by unfold wH;rw [iG];simp [he]
  conv=>(whnf)
  repeat' (first
   | (refine mJ.mk' i rfl (pF hlt) ?_;conv=>(whnf))
   | (refine mQ.lU hg ?_;conv=>(whnf)))
  refine lH (fun h1=> ?_) (fun h1=> ?_)
  ·have c1:e.arm<1:=aaJ
   have hcn:qK [g1,g2] e=none:=if_neg aai
   all_goals
    conv=>(whnf)
    refine lN.i64 aaO ?_
    conv=>(whnf)
    rw [show qK [g1,g2] e=none from hcn]at hn
    exact lK (i+1) [(1, .lab 1)] [] rfl aaN hlt ⟨⟨rfl,rfl,by show _=(pR _ (x.take (i+1))).out.map zx;rw [hn]⟩,⟨rfl,rfl,by show _ = [[cF ((pR _ (x.take (i+1))).C g1.ver)],[cF ((pR _ (x.take (i+1))).C g2.ver)]];rw [hn]⟩,trivial⟩ ⟨by show _=Value.int .i64 (pR _ (x.take (i+1))).w;rw [hn],rfl,rfl,trivial⟩
  have c1 : ¬e.arm<1:=aaJ
  conv=>(whnf)
  repeat' (first
   | (refine mJ.mk' i rfl (pF hlt) ?_;conv=>(whnf))
   | (refine mQ.lU hg ?_;conv=>(whnf)))
  refine lH (fun h1=> ?_) (fun h1=> ?_)
  ·have c2:2<e.arm:=aaJ
   have hcn:qK [g1,g2] e=none:=if_neg aai
   all_goals
    conv=>(whnf)
    refine lN.i64 aaO ?_
    conv=>(whnf)
    rw [show qK [g1,g2] e=none from hcn]at hn
    exact lK (i+1) [(1, .lab 1)] [] rfl aaN hlt ⟨⟨rfl,rfl,by show _=(pR _ (x.take (i+1))).out.map zx;rw [hn]⟩,⟨rfl,rfl,by show _ = [[cF ((pR _ (x.take (i+1))).C g1.ver)],[cF ((pR _ (x.take (i+1))).C g2.ver)]];rw [hn]⟩,trivial⟩ ⟨by show _=Value.int .i64 (pR _ (x.take (i+1))).w;rw [hn],rfl,rfl,trivial⟩
  have c2 : ¬2<e.arm:=aaJ
  have harm:e.arm=1∨e.arm=2:=aai
  have zK : ¬(okW g1.c∧okW g1.t)->qK [g1,g2] e=none:=fun h=>aht
  have Qr:okW g1.c∧okW g1.t->qK [g1,g2] e=some g1:=fun h=>ahD
  unfold okW at zK Qr
  have hwc:=Em (G:=G) [g1,g2] e.ver (by show 2<=100000;decide)
  rw [hf]at hwc
  conv=>(whnf)
  repeat' (first
   | (refine mJ.mk' i rfl (pF hlt) ?_;conv=>(whnf))
   | (refine mQ.lU hg ?_;conv=>(whnf)))
  (refine lM [] aag (hwc) rfl ?_ ?_;(focus trivial))
  conv=>(whnf)
  refine lH (fun h1=> ?_) (fun h1=> ?_)
  ·have d1:g1.c<1:=aaJ
   all_goals
    conv=>(whnf)
    refine lN.i64 aaO ?_
    conv=>(whnf)
    rw [show qK [g1,g2] e=none from zK aai]at hn
    exact lK (i+1) [(1, .lab 1)] [] rfl aaN hlt ⟨⟨rfl,rfl,by show _=(pR _ (x.take (i+1))).out.map zx;rw [hn]⟩,⟨rfl,rfl,by show _ = [[cF ((pR _ (x.take (i+1))).C g1.ver)],[cF ((pR _ (x.take (i+1))).C g2.ver)]];rw [hn]⟩,trivial⟩ ⟨by show _=Value.int .i64 (pR _ (x.take (i+1))).w;rw [hn],rfl,rfl,trivial⟩
  have d1 : ¬g1.c<1:=aaJ
  conv=>(whnf)
  refine lH (fun h1=> ?_) (fun h1=> ?_)
  ·have d2:10000<g1.c:=aaJ
   all_goals
    conv=>(whnf)
    refine lN.i64 aaO ?_
    conv=>(whnf)
    rw [show qK [g1,g2] e=none from zK aai]at hn
    exact lK (i+1) [(1, .lab 1)] [] rfl aaN hlt ⟨⟨rfl,rfl,by show _=(pR _ (x.take (i+1))).out.map zx;rw [hn]⟩,⟨rfl,rfl,by show _ = [[cF ((pR _ (x.take (i+1))).C g1.ver)],[cF ((pR _ (x.take (i+1))).C g2.ver)]];rw [hn]⟩,trivial⟩ ⟨by show _=Value.int .i64 (pR _ (x.take (i+1))).w;rw [hn],rfl,rfl,trivial⟩
  have d2 : ¬10000<g1.c:=aaJ
  conv=>(whnf)
  refine lH (fun h1=> ?_) (fun h1=> ?_)
  ·have d3:g1.t<1:=aaJ
   all_goals
    conv=>(whnf)
    refine lN.i64 aaO ?_
    conv=>(whnf)
    rw [show qK [g1,g2] e=none from zK aai]at hn
    exact lK (i+1) [(1, .lab 1)] [] rfl aaN hlt ⟨⟨rfl,rfl,by show _=(pR _ (x.take (i+1))).out.map zx;rw [hn]⟩,⟨rfl,rfl,by show _ = [[cF ((pR _ (x.take (i+1))).C g1.ver)],[cF ((pR _ (x.take (i+1))).C g2.ver)]];rw [hn]⟩,trivial⟩ ⟨by show _=Value.int .i64 (pR _ (x.take (i+1))).w;rw [hn],rfl,rfl,trivial⟩
  have d3 : ¬g1.t<1:=aaJ
  conv=>(whnf)
  refine lH (fun h1=> ?_) (fun h1=> ?_)
  ·have d4:10000<g1.t:=aaJ
   all_goals
    conv=>(whnf)
    refine lN.i64 aaO ?_
    conv=>(whnf)
    rw [show qK [g1,g2] e=none from zK aai]at hn
    exact lK (i+1) [(1, .lab 1)] [] rfl aaN hlt ⟨⟨rfl,rfl,by show _=(pR _ (x.take (i+1))).out.map zx;rw [hn]⟩,⟨rfl,rfl,by show _ = [[cF ((pR _ (x.take (i+1))).C g1.ver)],[cF ((pR _ (x.take (i+1))).C g2.ver)]];rw [hn]⟩,trivial⟩ ⟨by show _=Value.int .i64 (pR _ (x.take (i+1))).w;rw [hn],rfl,rfl,trivial⟩
  have d4 : ¬10000<g1.t:=aaJ
  have hcn:=Qr aai
  rw [hcn]at hn
  dsimp only at hn
  have hst:=aaz (G:=G) s.w (s.C e.ver).1 (s.C e.ver).2 g1.c g1.t e.arm
  generalize yN s.w (s.C e.ver).1 (s.C e.ver).2 g1.c g1.t e.arm=d at *
  generalize yM s.w (s.C e.ver).1 (s.C e.ver).2 g1.c g1.t e.arm=N at *
  conv=>(whnf)
  (refine lX Oy [3] aag ?_;conv=>(whnf))
  repeat' (first
   | (refine And.intro ?_ ?_<;>(conv=>(whnf)))
   | (refine mJ.mk' 0 rfl (show 0<2 by decide) ?_;conv=>(whnf))
   | (refine mQ.at rfl ?_;conv=>(whnf))
   | (refine mJ.mk' i rfl (pF hlt) ?_;conv=>(whnf))
   | (refine mQ.lU hg ?_;conv=>(whnf)))
  refine oD [3] aag hst ?_ ?_
  ·repeat' (first|rfl|trivial|(rw [he];done)|apply And.intro)
  rintro _ _ _ ⟨rfl,rfl,rfl⟩
  conv=>(whnf)
  repeat' (first
   | (refine mJ.mk' 0 rfl (show 0<2 by decide) ?_;conv=>(whnf))
   | (refine mQ.at rfl ?_;conv=>(whnf)))
  refine lW.mk (wQ aaL) ?_
  conv=>(whnf)
  refine lN.i64 aaO ?_
  conv=>(whnf)
  exact lK (i+1) [(1, .lab 5)] [] rfl aaN hlt ⟨⟨rfl,rfl,by show _=(pR _ (x.take (i+1))).out.map zx;rw [hn,aS];rfl⟩,⟨rfl,rfl,by show _ = [[cF ((pR _ (x.take (i+1))).C g1.ver)],[cF ((pR _ (x.take (i+1))).C g2.ver)]];rw [hn];dsimp only;rw [if_pos he,if_neg (fun h=>alX (he.trans h.symm))];rfl⟩,trivial⟩ ⟨by show _=Value.int .i64 (pR _ (x.take (i+1))).w;rw [hn],rfl,rfl,trivial⟩
 ·have hne1:=hk1 (au _)
  conv=>(whnf)
  (refine lX Oy [] aag ?_;conv=>(whnf))
  repeat' (first
   | (refine mJ.mk' 1 rfl (show 1<2 by decide) ?_;conv=>(whnf))
   | (refine mQ.at rfl ?_;conv=>(whnf))
   | (refine mJ.mk' i rfl (pF hlt) ?_;conv=>(whnf))
   | (refine mQ.lU hg ?_;conv=>(whnf)))
  refine lH (fun h1=> ?_) (fun h1=> ?_)
  ·have hne:g2.ver≠e.ver:=aaJ
   conv=>(whnf)
   refine lN.i64 aaw ?_
   conv=>(whnf)
   exact lK 2 [] [] rfl aaw ⟨by decide,fun _=>hne1,fun _=>hne⟩ aam aam
  have he:g2.ver=e.ver:=aaJ
  have hf:wH [g1,g2] e.ver=some g2:=by unfold wH;rw [iG,iG];simp [he,hne1]
  conv=>(whnf)
  repeat' (first
   | (refine mJ.mk' i rfl (pF hlt) ?_;conv=>(whnf))
   | (refine mQ.lU hg ?_;conv=>(whnf)))
  refine lH (fun h1=> ?_) (fun h1=> ?_)
  ·have c1:e.arm<1:=aaJ
   have hcn:qK [g1,g2] e=none:=if_neg aai
   all_goals
    conv=>(whnf)
    refine lN.i64 aaO ?_
    conv=>(whnf)
    rw [show qK [g1,g2] e=none from hcn]at hn
    exact lK (i+1) [(1, .lab 1)] [] rfl aaN hlt ⟨⟨rfl,rfl,by show _=(pR _ (x.take (i+1))).out.map zx;rw [hn]⟩,⟨rfl,rfl,by show _ = [[cF ((pR _ (x.take (i+1))).C g1.ver)],[cF ((pR _ (x.take (i+1))).C g2.ver)]];rw [hn]⟩,trivial⟩ ⟨by show _=Value.int .i64 (pR _ (x.take (i+1))).w;rw [hn],rfl,rfl,trivial⟩
  have c1 : ¬e.arm<1:=aaJ
  conv=>(whnf)
  repeat' (first
   | (refine mJ.mk' i rfl (pF hlt) ?_;conv=>(whnf))
   | (refine mQ.lU hg ?_;conv=>(whnf)))
  refine lH (fun h1=> ?_) (fun h1=> ?_)
  ·have c2:2<e.arm:=aaJ
   have hcn:qK [g1,g2] e=none:=if_neg aai
   all_goals
    conv=>(whnf)
    refine lN.i64 aaO ?_
    conv=>(whnf)
    rw [show qK [g1,g2] e=none from hcn]at hn
    exact lK (i+1) [(1, .lab 1)] [] rfl aaN hlt ⟨⟨rfl,rfl,by show _=(pR _ (x.take (i+1))).out.map zx;rw [hn]⟩,⟨rfl,rfl,by show _ = [[cF ((pR _ (x.take (i+1))).C g1.ver)],[cF ((pR _ (x.take (i+1))).C g2.ver)]];rw [hn]⟩,trivial⟩ ⟨by show _=Value.int .i64 (pR _ (x.take (i+1))).w;rw [hn],rfl,rfl,trivial⟩
  have c2 : ¬2<e.arm:=aaJ
  have harm:e.arm=1∨e.arm=2:=aai
  have zK : ¬(okW g2.c∧okW g2.t)->qK [g1,g2] e=none:=fun h=>aht
  have Qr:okW g2.c∧okW g2.t->qK [g1,g2] e=some g2:=fun h=>ahD
  unfold okW at zK Qr
  have hwc:=Em (G:=G) [g1,g2] e.ver (by show 2<=100000;decide)
  rw [hf]at hwc
  conv=>(whnf)
  repeat' (first
   | (refine mJ.mk' i rfl (pF hlt) ?_;conv=>(whnf))
   | (refine mQ.lU hg ?_;conv=>(whnf)))
  (refine lM [] aag (hwc) rfl ?_ ?_;(focus trivial))
  conv=>(whnf)
  refine lH (fun h1=> ?_) (fun h1=> ?_)
  ·have d1:g2.c<1:=aaJ
   all_goals
    conv=>(whnf)
    refine lN.i64 aaO ?_
    conv=>(whnf)
    rw [show qK [g1,g2] e=none from zK aai]at hn
    exact lK (i+1) [(1, .lab 1)] [] rfl aaN hlt ⟨⟨rfl,rfl,by show _=(pR _ (x.take (i+1))).out.map zx;rw [hn]⟩,⟨rfl,rfl,by show _ = [[cF ((pR _ (x.take (i+1))).C g1.ver)],[cF ((pR _ (x.take (i+1))).C g2.ver)]];rw [hn]⟩,trivial⟩ ⟨by show _=Value.int .i64 (pR _ (x.take (i+1))).w;rw [hn],rfl,rfl,trivial⟩
  have d1 : ¬g2.c<1:=aaJ
  conv=>(whnf)
  refine lH (fun h1=> ?_) (fun h1=> ?_)
  ·have d2:10000<g2.c:=aaJ
   all_goals
    conv=>(whnf)
    refine lN.i64 aaO ?_
    conv=>(whnf)
    rw [show qK [g1,g2] e=none from zK aai]at hn
    exact lK (i+1) [(1, .lab 1)] [] rfl aaN hlt ⟨⟨rfl,rfl,by show _=(pR _ (x.take (i+1))).out.map zx;rw [hn]⟩,⟨rfl,rfl,by show _ = [[cF ((pR _ (x.take (i+1))).C g1.ver)],[cF ((pR _ (x.take (i+1))).C g2.ver)]];rw [hn]⟩,trivial⟩ ⟨by show _=Value.int .i64 (pR _ (x.take (i+1))).w;rw [hn],rfl,rfl,trivial⟩
  have d2 : ¬10000<g2.c:=aaJ
  conv=>(whnf)
  refine lH (fun h1=> ?_) (fun h1=> ?_)
  ·have d3:g2.t<1:=aaJ
   all_goals
    conv=>(whnf)
    refine lN.i64 aaO ?_
    conv=>(whnf)
    rw [show qK [g1,g2] e=none from zK aai]at hn
    exact lK (i+1) [(1, .lab 1)] [] rfl aaN hlt ⟨⟨rfl,rfl,by show _=(pR _ (x.take (i+1))).out.map zx;rw [hn]⟩,⟨rfl,rfl,by show _ = [[cF ((pR _ (x.take (i+1))).C g1.ver)],[cF ((pR _ (x.take (i+1))).C g2.ver)]];rw [hn]⟩,trivial⟩ ⟨by show _=Value.int .i64 (pR _ (x.take (i+1))).w;rw [hn],rfl,rfl,trivial⟩
  have d3 : ¬g2.t<1:=aaJ
  conv=>(whnf)
  refine lH (fun h1=> ?_) (fun h1=> ?_)
  ·have d4:10000<g2.t:=aaJ
   all_goals
    conv=>(whnf)
    refine lN.i64 aaO ?_
    conv=>(whnf)
    rw [show qK [g1,g2] e=none from zK aai]at hn
    exact lK (i+1) [(1, .lab 1)] [] rfl aaN hlt ⟨⟨rfl,rfl,by show _=(pR _ (x.take (i+1))).out.map zx;rw [hn]⟩,⟨rfl,rfl,by show _ = [[cF ((pR _ (x.take (i+1))).C g1.ver)],[cF ((pR _ (x.take (i+1))).C g2.ver)]];rw [hn]⟩,trivial⟩ ⟨by show _=Value.int .i64 (pR _ (x.take (i+1))).w;rw [hn],rfl,rfl,trivial⟩
  have d4 : ¬10000<g2.t:=aaJ
  have hcn:=Qr aai
  rw [hcn]at hn
  dsimp only at hn
  have hst:=aaz (G:=G) s.w (s.C e.ver).1 (s.C e.ver).2 g2.c g2.t e.arm
  generalize yN s.w (s.C e.ver).1 (s.C e.ver).2 g2.c g2.t e.arm=d at *
  generalize yM s.w (s.C e.ver).1 (s.C e.ver).2 g2.c g2.t e.arm=N at *
  conv=>(whnf)
  (refine lX Oy [3] aag ?_;conv=>(whnf))
  repeat' (first
   | (refine And.intro ?_ ?_<;>(conv=>(whnf)))
   | (refine mJ.mk' 1 rfl (show 1<2 by decide) ?_;conv=>(whnf))
   | (refine mQ.at rfl ?_;conv=>(whnf))
   | (refine mJ.mk' i rfl (pF hlt) ?_;conv=>(whnf))
   | (refine mQ.lU hg ?_;conv=>(whnf)))
  refine oD [3] aag hst ?_ ?_
  ·repeat' (first|rfl|trivial|(rw [he];done)|apply And.intro)
  rintro _ _ _ ⟨rfl,rfl,rfl⟩
  conv=>(whnf)
  repeat' (first
   | (refine mJ.mk' 1 rfl (show 1<2 by decide) ?_;conv=>(whnf))
   | (refine mQ.at rfl ?_;conv=>(whnf)))
  refine lW.mk (wQ aaL) ?_
  conv=>(whnf)
  refine lN.i64 aaO ?_
  conv=>(whnf)
  exact lK (i+1) [(1, .lab 5)] [] rfl aaN hlt ⟨⟨rfl,rfl,by show _=(pR _ (x.take (i+1))).out.map zx;rw [hn,aS];rfl⟩,⟨rfl,rfl,by show _ = [[cF ((pR _ (x.take (i+1))).C g1.ver)],[cF ((pR _ (x.take (i+1))).C g2.ver)]];rw [hn];dsimp only;rw [if_pos he,if_neg hne1];rfl⟩,trivial⟩ ⟨by show _=Value.int .i64 (pR _ (x.take (i+1))).w;rw [hn],rfl,rfl,trivial⟩
 ·have hne1:=hk1 aaw
  have hne2:=hk2 aaw
  have hf:wH [g1,g2] e.ver=none:=by unfold wH;rw [iG,iG];simp [hne2,hne1]
  have hcn:qK [g1,g2] e=none:=by unfold qK;rw [hf];simp
  conv=>(whnf)
  (refine lX Oy [] aag ?_;conv=>(whnf))
  all_goals
   conv=>(whnf)
   refine lN.i64 aaO ?_
   conv=>(whnf)
   rw [show qK [g1,g2] e=none from hcn]at hn
   exact lK (i+1) [(1, .lab 1)] [] rfl aaN hlt ⟨⟨rfl,rfl,by show _=(pR _ (x.take (i+1))).out.map zx;rw [hn]⟩,⟨rfl,rfl,by show _ = [[cF ((pR _ (x.take (i+1))).C g1.ver)],[cF ((pR _ (x.take (i+1))).C g2.ver)]];rw [hn]⟩,trivial⟩ ⟨by show _=Value.int .i64 (pR _ (x.take (i+1))).w;rw [hn],rfl,rfl,trivial⟩
end
section
def WL (l:List Sc)(t:Int)(up:Bool)(e:Int):Int:=if Dq (Am l e up) t=0 then 9223372036854775807 else(Dq (Am l e up) t:Nat)
def MKn (l:List Sc)(t:Int)(up:Bool)(M:Int->Option FV):Prop:= ∀e f,M e=some f->f = .v (.int .i64 (WL l t up e))
theorem MKn.put {l:List Sc}{t:Int}{up:Bool}{M:Int->Option FV}(h:MKn l t up M)(e:Int):MKn l t up fun k=>if k=e then some (.v (.int .i64 (WL l t up e)))else M k:=fun k f hk=>by
 by_cases he:k=e
 ·simp only [if_pos he,aI]at hk
  rw [<-hk,he]
 ·simp only [if_neg he]at hk
  exact h k f hk
theorem aaA (l:List Sc)(level:Int)(up:Bool)(e:Int)(hl:l.length<=100000):decide (WL l (J6 level 2) up e<=(l.length:Int))=zJ l e level up:=by
 have h1:=adW (Am l e up) (J6 level 2)
 rw [IQ]at h1
 unfold WL zJ
 split
 ·rw [decide_eq_false aai,decide_eq_false aai]
 ·rw [decide_eq_true aai,decide_eq_true aai]
structure KS where
 f:Nat
 i:Nat
 j:Nat
 M:Int->Option FV
theorem x9 {p:Nat->Bool}{f i j A:Nat}(h:xX p (f+1) i j=A):(if i<j then(if p ((i+j)/2)=true then xX p f ((i+j)/2+1) j else xX p f i ((i+j)/2))else i)=A:=h
theorem Du {p:Nat->Bool}{f i j A:Nat}(h:xX p f i j=A)(hn : ¬i<j):i=A:=by
 cases f with
 | zero=>exact h
 | succ f=>have:=x9 h;rwa [if_neg hn]at this
attribute [local irreducible] xX WL zJ
theorem aeC (u:Nat):Int.fdiv (u:Int) (2^min (Int.toNat 1) IntKind.u64.bits)=((u/2:Nat):Int):=VX u 1 aaw
section
variable {G:Glob}
abbrev sdA (l:List Sc)(t:Int)(up:Bool)(mD:Nat):AV:= .agg [Bj l,iv t,bv up, .mp mD]
theorem Vd (l:List Sc)(level:Int)(up:Bool):mP Tryz.prog G 88 [Bj l,iv level,bv up] 0 [] (fun a n H=>a=sdA l (J6 level 2) up 0∧n=1∧H = [(0, .oU fun _=>none)]):=by
 refine lJ func88 rfl mixed aag ?_
 conv=>(whnf)
 (refine lM [] aag (ad1 level 2) rfl ?_ ?_;(focus trivial))
 conv=>(whnf)
 exact nI _ 1 _ [(0, .lab 1)] [] ⟨rfl,rfl,rfl⟩ rfl aam aam
theorem aeD (l:List Sc)(t:Int)(up:Bool)(e k:Int)(M:Int->Option FV)(hM:MKn l t up M)(hl:l.length<=100000):mP Tryz.prog G 173 [sdA l t up 0,iv e,iv k] 1 [(0, .oU M)] (fun a n H=> ∃M',MKn l t up M'∧a=bv (decide (WL l t up e<=k))∧n=1∧H = [(0, .oU M')]):=by
 have hfr:=ad2 (G:=G) (Am l e up) t (by rw [IQ];omega)
 have hput:=hM.put e
 have hk0:Dq (Am l e up) t=0->WL l t up e=9223372036854775807:=fun h=>by unfold WL;rw [if_pos h]
 have hk1 : ¬Dq (Am l e up) t=0->WL l t up e=(Dq (Am l e up) t:Nat):=fun h=>by unfold WL;rw [if_neg h]
 refine lJ func173 rfl mixed aag ?_
 conv=>(whnf)
 refine⟨fun hno=> ?_,fun y hy=> ?_⟩
 ·conv=>(whnf)
  (refine lX afS [] aag ?_;conv=>(whnf))
  refine oD [] aag (aj3 l e up hl) ?_ ?_
  ·trivial
  rintro _ _ _ ⟨rfl,rfl,rfl⟩
  conv=>(whnf)
  (refine lM [] aag (hfr) rfl ?_ ?_;(focus trivial))
  generalize Dq (Am l e up) t=n at *
  generalize WL l t up e=v at *
  conv=>(whnf)
  apply lH<;>intro h
  ·have h0:n=0:=aaE
   have hv:=hk0 h0
   subst hv
   conv=>(whnf)
   exact nI (bv (decide (9223372036854775807<=k))) 1 [(0, .oU fun k'=>if k'=e then some (.v (.int .i64 9223372036854775807))else M k')] [] [] ⟨_,hput,rfl,rfl,rfl⟩ rfl aam aam
  ·have h0 : ¬n=0:=aaE
   have hv:=hk1 h0
   subst hv
   conv=>(whnf)
   exact nI (bv (decide ((n:Int)<=k))) 1 [(0, .oU fun k'=>if k'=e then some (.v (.int .i64 n))else M k')] [] [] ⟨_,hput,rfl,rfl,rfl⟩ rfl aam aam
 ·have hv:=hM _ _ hy
  subst hv
  generalize WL l t up e=v at *
  conv=>(whnf)
  exact nI (bv (decide (v<=k))) 1 [(0, .oU M)] [] [] ⟨M,hM,rfl,rfl,rfl⟩ rfl aam aam
theorem aj7 (l:List Sc)(level:Int)(hl:l.length<=100000):mP Tryz.prog G 89 [sdA l (J6 level 2) true 0,iv l.length] 1 [(0, .oU fun _=>none)] (fun a n H=>a=iv (Fe l level)∧n=1∧∃M,H = [(0, .oU M)]):=by
 obtain⟨A,hA⟩ : ∃A,A=xX (fun h=>zJ l ((h:Int)-1000) level true) 2001 0 2001:=⟨_,rfl⟩
 have hR:Fe l level=(A:Int)-1000:=by unfold Fe;rw [<-hA]
 have hrg:=Qi (p:=fun h=>zJ l ((h:Int)-1000) level true) 2001 0 2001 aaw
 rw [<-hA]at hrg
 refine lJ func89 rfl mixed aag ?_
 conv=>(whnf)
 (refine nJ aag (lJ func171 rfl mixed aag ?_);(conv=>(whnf)))
 refine mY TQ 4 [5,6] (fun x:KS=> [(5,iv x.i),(6,iv x.j)]) (fun x=> [(3, .var 3 [iv 1]),(2, .var 3 [iv l.length]),(1, .var 166 [Bj l,iv (J6 level 2),bv true, .mp 0]),(0, .oU x.M)]) (fun x=>xX (fun h=>zJ l ((h:Int)-1000) level true) x.f x.i x.j=A∧x.i<=x.j∧x.j<=2001∧x.j-x.i<=x.f∧MKn l (J6 level 2) true x.M) (fun x=>x.j-x.i) [] [] ⟨2001,0,2001,fun _=>none⟩ aag (fun _=>rfl) rfl ⟨hA.symm,by show 0<=2001;decide,by show 2001<=2001;decide,by show 2001-0<=2001;decide,fun e f h=>by cases h⟩ aam aam ?_
 rintro⟨f,i,j,M⟩ ⟨hS,hij,hj,hf,hM⟩
 dsimp only at hS hij hj hf hM
 conv=>(whnf)
 apply lH<;>intro h
 rotate_left
 ·have hn : ¬i<j:=aaE
  have hi:=Du hS hn
  clear hS hM
  conv=>(whnf)
  (refine Hu ?_ rfl ?_;rotate_left 1;(focus trivial);(conv=>(whnf)))
  conv=>(whnf)
  repeat' (first
   | (refine lN.i64 aaI ?_;conv=>(whnf)))
  rw [hR]
  exact nI (iv ((A:Int)-1000)) 1 _ [] [] ⟨rfl,rfl,M,rfl⟩ rfl aam (nN aaI)
 have hlt:i<j:=aaE
 obtain⟨f,rfl⟩ : ∃g,f=g+1:=⟨f-1,by omega⟩
 have hS:=x9 hS
 rw [if_pos hlt]at hS
 conv=>(whnf)
 refine lN.to (y:=((i+j:Nat):Int)) (show IntKind.i64.wrap ((i:Int)+(j:Int))=_ by rw [IntWalk.i64_in _ aai];omega) ?_
 conv=>(whnf)
 refine lN.to (y:=((i+j:Nat):Int)) (oh (n:=i+j) aai) ?_
 conv=>(whnf)
 refine lW.mk aaw ?_
 rw [aeC]
 have hb:i<=(i+j)/2∧(i+j)/2<j:=aai
 generalize (i+j)/2=m at *
 conv=>(whnf)
 refine lN.i64 aai ?_
 conv=>(whnf)
 (refine nJ aag (lJ func172 rfl mixed aag ?_);(conv=>(whnf)))
 conv=>(whnf)
 refine lN.i64 aai ?_
 conv=>(whnf)
 refine lN.to (y:=(m:Int)-1000) (show IntKind.i64.wrap (1*((m:Int)-1000))=_ by rw [IntWalk.i64_in _ aai];omega) ?_
 conv=>(whnf)
 refine mX [0] [] aag (aeD l (J6 level 2) true ((m:Int)-1000) l.length M hM hl) rfl aam aam ?_
 rintro _ _ _ ⟨M',hM',rfl,rfl,rfl⟩
 refine⟨rfl, ?_⟩
 rw [aaA l level true ((m:Int)-1000) hl]
 conv=>(whnf)
 (refine Hu ?_ rfl ?_;rotate_left 1;(focus trivial);(conv=>(whnf)))
 conv=>(whnf)
 refine lH (fun h1=> ?_) (fun h1=> ?_)
 ·rw [if_pos aaJ]at hS
  conv=>(whnf)
  refine lN.i64 aai ?_
  conv=>(whnf)
  exact lK ⟨f,m+1,j,M'⟩ [] [] rfl ail ⟨hS,by show m+1<=j;omega,hj,by show j -(m+1)<=f;omega,hM'⟩ aam aam
 ·rw [if_neg aaJ]at hS
  conv=>(whnf)
  exact lK ⟨f,i,m,M'⟩ [] [] rfl ajQ ⟨hS,by show i<=m;omega,by show m<=2001;omega,by show m-i<=f;omega,hM'⟩ aam aam
theorem aj8 (l:List Sc)(level:Int)(hl:l.length<=100000):mP Tryz.prog G 89 [sdA l (J6 level 2) false 0,iv l.length] 1 [(0, .oU fun _=>none)] (fun a n H=>a=iv (Fg l level)∧n=1∧∃M,H = [(0, .oU M)]):=by
 obtain⟨A,hA⟩ : ∃A,A=xX (fun h=>zJ l (1000 -(h:Int)) level false) 2001 0 2001:=⟨_,rfl⟩
 have hR:Fg l level=1000 -(A:Int):=by unfold Fg;rw [<-hA]
 have hrg:=Qi (p:=fun h=>zJ l (1000 -(h:Int)) level false) 2001 0 2001 aaw
 rw [<-hA]at hrg
 refine lJ func89 rfl mixed aag ?_
 conv=>(whnf)
 (refine nJ aag (lJ func171 rfl mixed aag ?_);(conv=>(whnf)))
 refine mY TQ 4 [5,6] (fun x:KS=> [(5,iv x.i),(6,iv x.j)]) (fun x=> [(3, .var 3 [iv (-1)]),(2, .var 3 [iv l.length]),(1, .var 166 [Bj l,iv (J6 level 2),bv false, .mp 0]),(0, .oU x.M)]) (fun x=>xX (fun h=>zJ l (1000 -(h:Int)) level false) x.f x.i x.j=A∧x.i<=x.j∧x.j<=2001∧x.j-x.i<=x.f∧MKn l (J6 level 2) false x.M) (fun x=>x.j-x.i) [] [] ⟨2001,0,2001,fun _=>none⟩ aag (fun _=>rfl) rfl ⟨hA.symm,by show 0<=2001;decide,by show 2001<=2001;decide,by show 2001-0<=2001;decide,fun e f h=>by cases h⟩ aam aam ?_
 rintro⟨f,i,j,M⟩ ⟨hS,hij,hj,hf,hM⟩
 dsimp only at hS hij hj hf hM
 conv=>(whnf)
 apply lH<;>intro h
 rotate_left
 ·have hn : ¬i<j:=aaE
  have hi:=Du hS hn
  clear hS hM
  conv=>(whnf)
  (refine Hu ?_ rfl ?_;rotate_left 1;(focus trivial);(conv=>(whnf)))
  conv=>(whnf)
  repeat' (first
   | (refine lN.i64 aaI ?_;conv=>(whnf)))
  rw [hR]
  exact nI (iv (1000 -(A:Int))) 1 _ [] [] ⟨rfl,rfl,M,rfl⟩ rfl aam (nN aaI)
 have hlt:i<j:=aaE
 obtain⟨f,rfl⟩ : ∃g,f=g+1:=⟨f-1,by omega⟩
 have hS:=x9 hS
 rw [if_pos hlt]at hS
 conv=>(whnf)
 refine lN.to (y:=((i+j:Nat):Int)) (show IntKind.i64.wrap ((i:Int)+(j:Int))=_ by rw [IntWalk.i64_in _ aai];omega) ?_
 conv=>(whnf)
 refine lN.to (y:=((i+j:Nat):Int)) (oh (n:=i+j) aai) ?_
 conv=>(whnf)
 refine lW.mk aaw ?_
 rw [aeC]
 have hb:i<=(i+j)/2∧(i+j)/2<j:=aai
 generalize (i+j)/2=m at *
 conv=>(whnf)
 refine lN.i64 aai ?_
 conv=>(whnf)
 (refine nJ aag (lJ func172 rfl mixed aag ?_);(conv=>(whnf)))
 conv=>(whnf)
 refine lN.i64 aai ?_
 conv=>(whnf)
 refine lN.to (y:=1000 -(m:Int)) (show IntKind.i64.wrap ((-1)*((m:Int)-1000))=_ by rw [IntWalk.i64_in _ aai];omega) ?_
 conv=>(whnf)
 refine mX [0] [] aag (aeD l (J6 level 2) false (1000 -(m:Int)) l.length M hM hl) rfl aam aam ?_
 rintro _ _ _ ⟨M',hM',rfl,rfl,rfl⟩
 refine⟨rfl, ?_⟩
 rw [aaA l level false (1000 -(m:Int)) hl]
 conv=>(whnf)
 (refine Hu ?_ rfl ?_;rotate_left 1;(focus trivial);(conv=>(whnf)))
 conv=>(whnf)
 refine lH (fun h1=> ?_) (fun h1=> ?_)
 ·rw [if_pos aaJ]at hS
  conv=>(whnf)
  refine lN.i64 aai ?_
  conv=>(whnf)
  exact lK ⟨f,m+1,j,M'⟩ [] [] rfl ail ⟨hS,by show m+1<=j;omega,hj,by show j -(m+1)<=f;omega,hM'⟩ aam aam
 ·rw [if_neg aaJ]at hS
  conv=>(whnf)
  exact lK ⟨f,i,m,M'⟩ [] [] rfl ajQ ⟨hS,by show i<=m;omega,by show m<=2001;omega,by show m-i<=f;omega,hM'⟩ aam aam
theorem ahE (l:List Sc)(level:Int)(hl:l.length<=100000):mP Tryz.prog G 40 [Bj l,iv level] 0 [] (Is (iv (Fe l level))):=by
 obtain⟨R,hR⟩ : ∃R,R=Fe l level:=⟨_,rfl⟩
 rw [<-hR]
 have he:=aj7 (G:=G) l level hl
 rw [<-hR]at he
 refine lJ func40 rfl mixed aag ?_
 conv=>(whnf)
 refine qc [] aag (Vd l level true) aam ?_
 conv=>(whnf)
 rw [show (l.map scF).length=l.length from aj ..]
 refine mX [0] [] aag he rfl aam aam ?_
 rintro _ _ _ ⟨rfl,rfl,M,rfl⟩
 refine⟨rfl, ?_⟩
 conv=>(whnf)
 exact lQ [] aam
theorem ahF (l:List Sc)(level:Int)(hl:l.length<=100000):mP Tryz.prog G 41 [Bj l,iv level] 0 [] (Is (iv (Fg l level))):=by
 obtain⟨R,hR⟩ : ∃R,R=Fg l level:=⟨_,rfl⟩
 rw [<-hR]
 have he:=aj8 (G:=G) l level hl
 rw [<-hR]at he
 refine lJ func41 rfl mixed aag ?_
 conv=>(whnf)
 refine qc [] aag (Vd l level false) aam ?_
 conv=>(whnf)
 rw [show (l.map scF).length=l.length from aj ..]
 refine mX [0] [] aag he rfl aam aam ?_
 rintro _ _ _ ⟨rfl,rfl,M,rfl⟩
 refine⟨rfl, ?_⟩
 conv=>(whnf)
 exact lQ [] aam
theorem aaB (l:List Sc)(e level:Int)(up:Bool)(hl:l.length<=100000):mP Tryz.prog G 102 [Bj l,iv e,iv level,bv up] 0 [] (Is (bv (zJ l e level up))):=by
 have hfr:=aau (G:=G) (Am l e up) (J6 level 2) (by rw [IQ];omega)
 unfold zJ
 generalize hn:Dq (Am l e up) (J6 level 2)=n at *
 refine lJ func102 rfl mixed aag ?_
 conv=>(whnf)
 refine oD [] aag (ahB l e up hl) ?_ ?_
 ·trivial
 rintro _ _ _ ⟨rfl,rfl,rfl⟩
 conv=>(whnf)
 (refine lM [] aag (aat level 2) rfl ?_ ?_;(focus trivial))
 conv=>(whnf)
 (refine lM [] aag (hfr) rfl ?_ ?_;(focus trivial))
 conv=>(whnf)
 exact lQ [] (congrArg Value.bool (decide_eq_decide.2 aai))
theorem ad6 (l:List Sc)(level:Int)(hl:l.length<=100000):mP Tryz.prog G 47 [Bj l,iv level] 0 [] (Is (iv (Fe l level))):=by
 obtain⟨A,hA⟩ : ∃A,A=xX (fun h=>zJ l ((h:Int)-1000) level true) 2001 0 2001:=⟨_,rfl⟩
 have hR:Fe l level=(A:Int)-1000:=by unfold Fe;rw [<-hA]
 rw [hR]
 refine lJ func47 rfl mixed aag ?_
 conv=>(whnf)
 refine mY afn 0 [5,6] (fun x:KS=> [(5,iv ((x.i:Int)-1000)),(6,iv ((x.j:Int)-1000))]) (fun _=> []) (fun x=>xX (fun h=>zJ l ((h:Int)-1000) level true) x.f x.i x.j=A∧x.i<=x.j∧x.j<=2001∧x.j-x.i<=x.f) (fun x=>x.j-x.i) [] [] ⟨2001,0,2001,fun _=>none⟩ aag (fun _=>rfl) rfl ⟨hA.symm,by show 0<=2001;decide,by show 2001<=2001;decide,by show 2001-0<=2001;decide⟩ aam aam ?_
 rintro⟨f,i,j,M⟩ ⟨hS,hij,hj,hf⟩
 dsimp only at hS hij hj hf
 conv=>(whnf)
 apply lH<;>intro h
 rotate_left
 ·have hn : ¬i<j:=aaG
  have hi:=Du hS hn
  conv=>(whnf)
  exact lQ [] (nN aaI)
 have hlt:i<j:=aaG
 obtain⟨f,rfl⟩ : ∃g,f=g+1:=⟨f-1,by omega⟩
 have hS:=x9 hS
 rw [if_pos hlt]at hS
 conv=>(whnf)
 refine lN.to (y:=((j-i:Nat):Int)) (show IntKind.i64.wrap (((j:Int)-1000) -((i:Int)-1000))=_ by rw [IntWalk.i64_in _ aai];omega) ?_
 conv=>(whnf)
 refine lW.mk aaw ?_
 conv=>(whnf)
 refine lN.to (y:=(((j-i)/2:Nat):Int)) (show IntKind.i64.wrap (((j-i)/2:Nat):Int)=_ from IntWalk.i64_in _ aai) ?_
 conv=>(whnf)
 refine lN.to (y:=(((i+j)/2:Nat):Int)-1000) (show IntKind.i64.wrap (((i:Int)-1000)+(((j-i)/2:Nat):Int))=_ by rw [IntWalk.i64_in _ aai];omega) ?_
 have hb:i<=(i+j)/2∧(i+j)/2<j:=aai
 generalize (i+j)/2=m at *
 conv=>(whnf)
 (refine lM [] aag (aaB l ((m:Int)-1000) level true hl) rfl ?_ ?_;(focus trivial))
 conv=>(whnf)
 refine lH (fun h1=> ?_) (fun h1=> ?_)
 ·rw [if_pos aaJ]at hS
  conv=>(whnf)
  refine lN.i64 aai ?_
  conv=>(whnf)
  exact lK ⟨f,m+1,j,M⟩ [] [] rfl ail ⟨hS,by show m+1<=j;omega,hj,by show j -(m+1)<=f;omega⟩ aam ⟨nN aaI,rfl,trivial⟩
 ·rw [if_neg aaJ]at hS
  conv=>(whnf)
  exact lK ⟨f,i,m,M⟩ [] [] rfl ajQ ⟨hS,by show i<=m;omega,by show m<=2001;omega,by show m-i<=f;omega⟩ aam aam
theorem ad7 (l:List Sc)(level:Int)(hl:l.length<=100000):mP Tryz.prog G 48 [Bj l,iv level] 0 [] (Is (iv (Fg l level))):=by
 obtain⟨A,hA⟩ : ∃A,A=xX (fun h=>zJ l (1000 -(h:Int)) level false) 2001 0 2001:=⟨_,rfl⟩
 have hR:Fg l level=1000 -(A:Int):=by unfold Fg;rw [<-hA]
 rw [hR]
 refine lJ func48 rfl mixed aag ?_
 conv=>(whnf)
 refine mY afo 0 [5,6] (fun x:KS=> [(5,iv (1000 -(x.j:Int))),(6,iv (1000 -(x.i:Int)))]) (fun _=> []) (fun x=>xX (fun h=>zJ l (1000 -(h:Int)) level false) x.f x.i x.j=A∧x.i<=x.j∧x.j<=2001∧x.j-x.i<=x.f) (fun x=>x.j-x.i) [] [] ⟨2001,0,2001,fun _=>none⟩ aag (fun _=>rfl) rfl ⟨hA.symm,by show 0<=2001;decide,by show 2001<=2001;decide,by show 2001-0<=2001;decide⟩ aam aam ?_
 rintro⟨f,i,j,M⟩ ⟨hS,hij,hj,hf⟩
 dsimp only at hS hij hj hf
 conv=>(whnf)
 apply lH<;>intro h
 rotate_left
 ·have hn : ¬i<j:=aaG
  have hi:=Du hS hn
  conv=>(whnf)
  exact lQ [] (nN aaI)
 have hlt:i<j:=aaG
 obtain⟨f,rfl⟩ : ∃g,f=g+1:=⟨f-1,by omega⟩
 have hS:=x9 hS
 rw [if_pos hlt]at hS
 conv=>(whnf)
 refine lN.to (y:=((j-i:Nat):Int)) (show IntKind.i64.wrap ((1000 -(i:Int)) -(1000 -(j:Int)))=_ by rw [IntWalk.i64_in _ aai];omega) ?_
 conv=>(whnf)
 refine lN.to (y:=((j-i+1:Nat):Int)) (show IntKind.i64.wrap (((j-i:Nat):Int)+1)=_ by rw [IntWalk.i64_in _ aai];omega) ?_
 conv=>(whnf)
 refine lW.mk aaw ?_
 conv=>(whnf)
 refine lN.to (y:=(((j-i+1)/2:Nat):Int)) (show IntKind.i64.wrap (((j-i+1)/2:Nat):Int)=_ from IntWalk.i64_in _ aai) ?_
 conv=>(whnf)
 refine lN.to (y:=1000 -(((i+j)/2:Nat):Int)) (show IntKind.i64.wrap ((1000 -(j:Int))+(((j-i+1)/2:Nat):Int))=_ by rw [IntWalk.i64_in _ aai];omega) ?_
 have hb:i<=(i+j)/2∧(i+j)/2<j:=aai
 generalize (i+j)/2=m at *
 conv=>(whnf)
 (refine lM [] aag (aaB l (1000 -(m:Int)) level false hl) rfl ?_ ?_;(focus trivial))
 conv=>(whnf)
 refine lH (fun h1=> ?_) (fun h1=> ?_)
 ·rw [if_pos aaJ]at hS
  conv=>(whnf)
  refine lN.i64 aai ?_
  conv=>(whnf)
  exact lK ⟨f,m+1,j,M⟩ [] [] rfl ail ⟨hS,by show m+1<=j;omega,hj,by show j -(m+1)<=f;omega⟩ aam ⟨rfl,nN aaI,trivial⟩
 ·rw [if_neg aaJ]at hS
  conv=>(whnf)
  exact lK ⟨f,i,m,M⟩ [] [] rfl ajQ ⟨hS,by show i<=m;omega,by show m<=2001;omega,by show m-i<=f;omega⟩ aam aam
end
end
end Go.Proofs.YtnandbihiceihaaGreatDoor.Cl
