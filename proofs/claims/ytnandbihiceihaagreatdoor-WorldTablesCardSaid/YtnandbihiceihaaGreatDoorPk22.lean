/- Joined parts of the proof. The walks of score.All and of the reference's Predict, Of, Weights and All -/
import Derived.Test.YtnandbihiceihaaGreatDoorPk21
import Derived.Test.YtnandbihiceihaaGreatDoorPk13
import Derived.Test.YtnandbihiceihaaGreatDoorPk15
set_option linter.unusedVariables false
set_option linter.unusedSimpArgs false
set_option maxRecDepth 100000
set_option maxHeartbeats 16000000
namespace Go.Proofs.YtnandbihiceihaaGreatDoor.Cl
open RowKit Vc Ax Go.Proofs.YtnandbihiceihaaGreatDoor.Id Go.Proofs.Tryz
attribute [local irreducible] loadVar storeVar Instr.indexAt Instr.index Instr.sliceAt Instr.makeSlice Instr.lookup Instr.mapUpdate Instr.range Instr.next Instr.entry Instr.makeMap Builtin.append_ Builtin.copy_ Builtin.len_ Builtin.min_ Builtin.max_ Builtin.cap_ Builtin.delete_ Builtin.clear_ convert binOp eqGuard Op.unary Calls
section
attribute [local irreducible] cls Wu wid
theorem Kq {w:List Wg}{v:Int}{j:Nat}{g:Wg}(h : ∀i x,i<j->w[i]? = some x->x.ver≠v)(hg:w[j]? = some g)(he:g.ver=v):wH w v=some g:=by
 induction w generalizing j with
 | nil=>simp at hg
 | cons a r ih=>
  unfold wH
  rw [iG]
  cases j with
  | zero=>
   simp only [bZ,aI]at hg
   subst hg
   simp [he]
  | succ j=>
   have h0:=h 0 a aai rfl
   simp only [h0,decide_false]
   exact ih (j:=j) (fun i x hi hx=>h (i+1) x aai (by simpa using hx)) (by simpa using hg)
theorem Kr {w:List Wg}{v:Int}(h : ∀i x,i<w.length->w[i]? = some x->x.ver≠v):wH w v=none:=by
 unfold wH
 rw [List.find?_eq_none]
 intro x hx
 obtain⟨i,hi⟩:=jk hx
 have:=h i x (aB.1 hi).1 hi
 simpa using this
structure KA where
 k:Nat
 out:List Sc
theorem aan {n:Nat}(h:n<=200000):n*24<=140737488355328∧n<=maxLen:=⟨by omega,by unfold maxLen;omega⟩
section
variable {G:Glob}
theorem allA (s:List Sm)(w:List Wg)(cap:Int)(adj:Bool)(hb : ∀y∈s,I64 y.before)(hl:s.length<=100000)(hw:w.length<=100000) :
  mP Tryz.prog G 39 [smL s,wgL w,iv cap,bv adj] 0 [] (Is (Bj (Dp s w cap adj))):=by
 obtain⟨A,hA⟩ : ∃A,A=Dp s w cap adj:=⟨_,rfl⟩
 rw [<-hA]
 refine lJ func39 rfl mixed aag ?_
 conv=>(whnf)
 refine mY aff 1 [9,18] (fun x:KA=> [(9, .own 0),(18,iv x.k)]) (fun x=> [(0, .rows 161 3 (x.out.map scF))]) (fun x=>x.k<=s.length∧x.out.length<=x.k∧x.out++Dn w cap adj (s.take x.k) (s.drop x.k)=A) (fun x=>s.length-x.k) [(0, .nil)] [] ⟨0,[]⟩ aag (fun _=>rfl) rfl ⟨aH _,aH _,by rw [hA];rfl⟩ aam aam ?_
 rintro⟨k,out⟩ ⟨hk,ho,hR⟩
 dsimp only at hk ho hR
 conv=>(whnf)
 apply lH<;>intro h
 rotate_left
 ·have hie:k=s.length:=aaG
  subst hie
  rw [iO]at hR
  simp only [Dn,gK]at hR
  subst hR
  conv=>(whnf)
  exact nI (Bj out) 0 [] [] [0] ⟨rfl,rfl,rfl⟩ rfl trivial ⟨rfl,rfl,rfl⟩
 have hlt:k<s.length:=aaG
 have hg:=ah hlt
 rw [J4 hlt]at hR
 have hof:=fun v=>alQ (G:=G) s (s.take k) s[k] k v cap adj hg rfl (fun y hy=>by
  rcases bC.1 hy with hy|hy
  ·exact hb y (bQ hy)
  ·rw [aW.1 hy];exact hb _ (aV hlt)) hl
 have fin (hn:yV w cap adj (s.take k) s[k] = []):out++Dn w cap adj (s.take (k+1)) (s.drop (k+1))=A:=by rw [hn]at hR;exact hR
 have ahy (z:Sc) (hn:yV w cap adj (s.take k) s[k] = [z]):(out++ [z])++Dn w cap adj (s.take (k+1)) (s.drop (k+1))=A:=by rw [hn]at hR;rw [bW];exact hR
 have hone : ∀v,wH w s[k].x.ver=some v->yV w cap adj (s.take k) s[k]=(Fa (s.take k) s[k] v cap adj).toList:=fun v hv=>ajY
 have aao:wH w s[k].x.ver=none->yV w cap adj (s.take k) s[k] = []:=fun hv=>ajY
 clear hR
 generalize s[k]=x at *
 generalize yV w cap adj (s.take k) x=O1 at *
 conv=>(whnf)
 refine mJ.mk' k rfl (pF hlt) ?_
 conv=>(whnf)
 refine mQ.lU hg ?_
 conv=>(whnf)
 refine mY afg 2 [9,25] (fun j:Nat=> [(9, .own 0),(25,iv j)]) (fun _=> [(1, .var 101 ((UR x).map FV.up)),(0, .rows 161 3 (out.map scF))]) (fun j=>j<=w.length∧∀i v,i<j->w[i]? = some v->v.ver≠x.x.ver) (fun j=>w.length-j) [] [] 0 aag (fun _=>rfl) rfl ⟨aH _,fun i v hi=>absurd hi (dQ i)⟩ aam aam ?_
 rintro j ⟨hj,hno⟩
 conv=>(whnf)
 refine lH (fun h2=> ?_) (fun h2=> ?_)
 rotate_left
 ·have hje:j=w.length:=agU
  subst hje
  conv=>(whnf)
  refine lN.i64 aey ?_
  conv=>(whnf)
  exact lK ⟨k+1,out⟩ [(0, .lab 0)] [] rfl aeH ⟨hlt,by show out.length<=k+1;omega,fin (aao (Kr fun i v hi=>hno i v hi))⟩ aam aam
 have hjt:j<w.length:=agU
 have hgw:=ah hjt
 generalize w[j]=v at *
 conv=>(whnf)
 refine mJ.mk' j rfl (pF hjt) ?_
 conv=>(whnf)
 refine mQ.lU hgw ?_
 conv=>(whnf)
 refine lH (fun h3=> ?_) (fun h3=> ?_)
 ·have hne:v.ver≠x.x.ver:=ahq
  conv=>(whnf)
  refine lN.i64 aai ?_
  conv=>(whnf)
  exact lK (j+1) [] [] rfl (by show w.length -(j+1)<w.length-j;omega) ⟨hjt,fun i u hi hu=>by
   rcases eG i j with h4|h4
   ·exact hno i u h4 hu
   ·have:i=j:=aai
    subst this
    rw [hgw]at hu
    injection hu with hu
    subst hu
    exact hne⟩ aam aam
 have he:v.ver=x.x.ver:=ahq
 have h1:=hone v (Kq hno hgw he)
 have hcall:=hof v
 conv=>(whnf)
 cases hO:Fa (s.take k) x v cap adj with
 | none=>
  rw [hO]at hcall h1
  (refine lM [] aag (hcall) rfl ?_ ?_;(focus trivial))
  conv=>(whnf)
  refine lN.i64 aey ?_
  conv=>(whnf)
  exact lK ⟨k+1,out⟩ [(0, .lab 0)] [] rfl aeH ⟨hlt,by show out.length<=k+1;omega,fin h1⟩ aam aam
 | some z=>
  rw [hO]at hcall h1
  (refine lM [] aag (hcall) rfl ?_ ?_;(focus trivial))
  conv=>(whnf)
  refine lW.mk (aan aaL) ?_
  conv=>(whnf)
  refine lN.i64 aey ?_
  conv=>(whnf)
  refine lK ⟨k+1,out++ [z]⟩ [(0, .lab 5)] [] rfl aeH ⟨hlt,by show (out++ [z]).length<=k+1;rw [ay];simp;omega,ahy z h1⟩ ⟨⟨rfl,rfl, ?_⟩,trivial⟩ aam
  rw [aS]
  rfl
theorem Kt (s q:List Sm)(x:Sm)(k:Nat)(arm cap:Int)(hk:s[k]? = some x)(Qx:q=s.take k)(hq:okV 1048576 q)(hb : ∀y∈q++ [x],I64 y.before)(hc:1<=cap∧cap<=1048576)(hl:s.length<=100000) :
  mP Tryz.prog G 180 [smL s,iv k,iv arm,iv cap] 0 [] (Is (iv (preS q x.before arm cap))):=by
 have hks:=(aB.1 hk).1
 have hql:q.length=k:=akc
 have hxb:=hb x abb
 have hsq : ∀i,i<q.length->s[i]? = q[i]? :=fun i hi=>by rw [Qx,bH,if_pos aai]
 obtain⟨A,hA⟩ : ∃A,A=preS q x.before arm cap:=⟨_,rfl⟩
 rw [<-hA]
 unfold preS mean at hA
 generalize hcx:cls x.before=c at *
 refine lJ func180 rfl mixed aag ?_
 conv=>(whnf)
 apply lH<;>intro h
 ·exfalso;simp at h;omega
 conv=>(whnf)
 refine mY abQ 0 [9,10,11,12,13] (fun i:Nat=> [(9,iv (Bl (sO arm (q.take i)))),(10,iv ((sO arm (q.take i)).length:Nat)),(11,iv (Bl (selC arm c (q.take i)))),(12,iv ((selC arm c (q.take i)).length:Nat)),(13,iv i)]) (fun _=> []) (fun i=>i<=q.length) (fun i=>q.length-i) [] [] 0 aag (fun _=>rfl) rfl (aH _) aam ⟨rfl,rfl,rfl,rfl,rfl,trivial⟩ ?_
 intro i hi
 have hv1:=xY (l:=sO arm (q.take i)) fun y hy=>hq _ (bQ (Ql _ _ _ hy))
 have hv2:=xY (l:=selC arm c (q.take i)) fun y hy=>hq _ (bQ (Qm _ _ _ _ hy))
 have hl1:(sO arm (q.take i)).length<=i:=bG (Qn _ _) (iq _ _)
 have hl2:(selC arm c (q.take i)).length<=i:=bG (Qo _ _ _) (iq _ _)
 conv=>(whnf)
 apply lH<;>intro h
 ·have hlt:i<q.length:=aaG
  have hg:s[i]? = some q[i]:=by rw [hsq i hlt];exact ah hlt
  have his:i<s.length:=aai
  have hsn:q.take (i+1)=q.take i++ [q[i]]:=aG hlt
  have hS:=J9 arm (q.take i) q[i]
  have hT:=Ko arm c (q.take i) q[i]
  rw [<-hsn]at hS hT
  have hv:=hq _ (aV hlt)
  have hyb:=hb _ (iK _ (aV hlt))
  generalize q[i]=y at *
  have hsv:=Ah (sO arm (q.take i)) y
  have hsl:(sO arm (q.take i)++ [y]).length=(sO arm (q.take i)).length+1:=aki
  have htv:=Ah (selC arm c (q.take i)) y
  have htl:(selC arm c (q.take i)++ [y]).length=(selC arm c (q.take i)).length+1:=aki
  conv=>(whnf)
  repeat' (first
   | (refine mJ.mk' i rfl (pF his) ?_;conv=>(whnf))
   | (refine mQ.lU hg ?_;conv=>(whnf)))
  refine lH (fun h1=> ?_) (fun h1=> ?_)
  ·have hn : ¬y.x.arm=arm:=aaJ
   rw [if_neg hn]at hS
   rw [if_neg (fun h'=>hn h'.1)]at hT
   conv=>(whnf)
   refine lN.i64 aai ?_
   conv=>(whnf)
   exact lK (i+1) [] [] rfl aec hlt aam ⟨nN (by rw [hS]),nN (by rw [hS]<;>omega),nN (by rw [hT]),nN (by rw [hT]<;>omega),rfl,trivial⟩
  have hy:y.x.arm=arm:=aaJ
  rw [if_pos hy]at hS
  rw [<-hS]at hsv hsl
  conv=>(whnf)
  repeat' (first
   | (refine mJ.mk' i rfl (pF his) ?_;conv=>(whnf))
   | (refine mQ.lU hg ?_;conv=>(whnf))
   | (refine lN.i64 aai ?_;conv=>(whnf)))
  (refine lX afV [] aag ?_;conv=>(whnf))
  repeat' (first
   | (refine And.intro ?_ ?_<;>(conv=>(whnf)))
   | (refine mJ.mk' i rfl (pF his) ?_;conv=>(whnf))
   | (refine mJ.mk' k rfl (pF hks) ?_;conv=>(whnf))
   | (refine mQ.lU hg ?_;conv=>(whnf))
   | (refine mQ.lU hk ?_;conv=>(whnf))
   | ((refine lM [] aag (Va y.before hyb) rfl ?_ ?_;(focus (trivial;done));(conv=>(whnf))))
   | ((refine lM [] aag (Va x.before hxb) rfl ?_ ?_;(focus (trivial;done));(conv=>(whnf)))))
  all_goals (rw [hcx])
  all_goals (refine lH (fun h2=> ?_) (fun h2=> ?_))
  rotate_left
  ·have hn : ¬((cls y.before:Nat):Int)=c:=ae9
   rw [if_neg (fun h'=>hn (by rw [h'.2]))]at hT
   conv=>(whnf)
   refine lN.i64 aai ?_
   conv=>(whnf)
   exact lK (i+1) [] [] rfl aec hlt aam ⟨nN (by rw [hsv]),nN (by rw [hsl]<;>omega),nN (by rw [hT]),nN (by rw [hT]<;>omega),rfl,trivial⟩
  have hcc:((cls y.before:Nat):Int)=c:=ae9
  rw [if_pos ⟨hy,by omega⟩]at hT
  rw [<-hT]at htv htl
  conv=>(whnf)
  repeat' (first
   | (refine mJ.mk' i rfl (pF his) ?_;conv=>(whnf))
   | (refine mQ.lU hg ?_;conv=>(whnf))
   | (refine lN.i64 aai ?_;conv=>(whnf)))
  exact lK (i+1) [] [] rfl aec hlt aam ⟨nN (by rw [hsv]),nN (by rw [hsl]<;>omega),nN (by rw [htv]),nN (by rw [htl]<;>omega),rfl,trivial⟩
 have hie:i=q.length:=aaG
 subst hie
 rw [aZ]at hv1 hl1 hv2 hl2 ⊢
 conv=>(whnf)
 refine lH (fun h0=> ?_) (fun h0=> ?_)
 ·have hp:0<(selC arm c q).length:=ae0
  conv=>(whnf)
  (refine lM [] aag (MZ (a:=Bl (selC arm c q)) (b:=((selC arm c q).length:Nat)) aai aai) rfl ?_ ?_;(focus trivial))
  conv=>(whnf)
  exact lQ [] (nN (by rw [hA,if_pos hp]))
 have hz : ¬0<(selC arm c q).length:=aeY
 conv=>(whnf)
 refine lH (fun h0=> ?_) (fun h0=> ?_)
 ·have hp:0<(sO arm q).length:=ae0
  conv=>(whnf)
  (refine lM [] aag (MZ (a:=Bl (sO arm q)) (b:=((sO arm q).length:Nat)) aai aai) rfl ?_ ?_;(focus trivial))
  conv=>(whnf)
  exact lQ [] (nN (by rw [hA,if_neg hz,if_pos hp]))
 have hz2 : ¬0<(sO arm q).length:=aeY
 conv=>(whnf)
 (refine lM [] aag (MZ (a:=cap) (b:=2) aaw aai) rfl ?_ ?_;(focus trivial))
 conv=>(whnf)
 exact lQ [] (nN (by rw [hA,if_neg hz,if_neg hz2]))
theorem alU (s q:List Sm)(x:Sm)(k:Nat)(w:Wg)(cap:Int)(adj:Bool)(hk:s[k]? = some x)(Qx:q=s.take k)(hb : ∀y∈q++ [x],I64 y.before)(hl:s.length<=100000) :
  mP Tryz.prog G 101 [smL s,iv k, .agg [iv w.ver,iv w.c,iv w.t],iv cap,bv adj] 0 [] (Is (ofA (Fa q x w cap adj))):=by
 have hks:=(aB.1 hk).1
 have hql:q.length=k:=akc
 have hqx:q++ [x]=s.take (k+1):=by rw [Qx,kH,hk];rfl
 have hqn:(q++ [x]).length=k+1:=by rw [ay,hql];rfl
 have hsq : ∀i,i<(q++ [x]).length->s[i]? = (q++ [x])[i]? :=fun i hi=>by rw [hqx,bH,if_pos aai]
 obtain⟨O,hO⟩ : ∃O,O=Fa q x w cap adj:=⟨_,rfl⟩
 rw [<-hO]
 refine lJ func101 rfl mixed aag ?_
 conv=>(whnf)
 (refine lX afK [] aag ?_;conv=>(whnf))
 apply lH<;>intro h
 ·exfalso;simp at h;omega
 conv=>(whnf)
 repeat' (first
  | (refine mJ.mk' k rfl (pF hks) ?_;conv=>(whnf))
  | (refine mQ.lU hk ?_;conv=>(whnf)))
 apply lH<;>intro h
 ·have hn:x.x.arm<1:=aaE
  conv=>(whnf)
  have hO2:O=none:=by rw [hO];unfold Fa;exact if_neg (fun h'=>by have:=h'.1;omega)
  rw [hO2]
  conv=>(whnf)
  exact lQ [] ⟨⟨rfl,rfl,rfl,trivial⟩,rfl,trivial⟩
 have hr1 : ¬x.x.arm<1:=aaE
 conv=>(whnf)
 repeat' (first
  | (refine mJ.mk' k rfl (pF hks) ?_;conv=>(whnf))
  | (refine mQ.lU hk ?_;conv=>(whnf)))
 apply lH<;>intro h
 ·have hn:2<x.x.arm:=aaE
  conv=>(whnf)
  have hO2:O=none:=by rw [hO];unfold Fa;exact if_neg (fun h'=>by have:=h'.1;omega)
  rw [hO2]
  conv=>(whnf)
  exact lQ [] ⟨⟨rfl,rfl,rfl,trivial⟩,rfl,trivial⟩
 have hr2 : ¬2<x.x.arm:=aaE
 conv=>(whnf)
 apply lH<;>intro h
 ·have hn:w.c<1:=aaE
  conv=>(whnf)
  have hO2:O=none:=by rw [hO];unfold Fa;exact if_neg (fun h'=>by have:=h'.2.1;unfold okW at this;omega)
  rw [hO2]
  conv=>(whnf)
  exact lQ [] ⟨⟨rfl,rfl,rfl,trivial⟩,rfl,trivial⟩
 have hw1 : ¬w.c<1:=aaE
 conv=>(whnf)
 apply lH<;>intro h
 ·have hn:10000<w.c:=aaE
  conv=>(whnf)
  have hO2:O=none:=by rw [hO];unfold Fa;exact if_neg (fun h'=>by have:=h'.2.1;unfold okW at this;omega)
  rw [hO2]
  conv=>(whnf)
  exact lQ [] ⟨⟨rfl,rfl,rfl,trivial⟩,rfl,trivial⟩
 have hw2 : ¬10000<w.c:=aaE
 conv=>(whnf)
 apply lH<;>intro h
 ·have hn:w.t<1:=aaE
  conv=>(whnf)
  have hO2:O=none:=by rw [hO];unfold Fa;exact if_neg (fun h'=>by have:=h'.2.2.1;unfold okW at this;omega)
  rw [hO2]
  conv=>(whnf)
  exact lQ [] ⟨⟨rfl,rfl,rfl,trivial⟩,rfl,trivial⟩
 have hw3 : ¬w.t<1:=aaE
 conv=>(whnf)
 apply lH<;>intro h
 ·have hn:10000<w.t:=aaE
  conv=>(whnf)
  have hO2:O=none:=by rw [hO];unfold Fa;exact if_neg (fun h'=>by have:=h'.2.2.1;unfold okW at this;omega)
  rw [hO2]
  conv=>(whnf)
  exact lQ [] ⟨⟨rfl,rfl,rfl,trivial⟩,rfl,trivial⟩
 have hw4 : ¬10000<w.t:=aaE
 have hwc:okW w.c:=by unfold okW;omega
 have hwt:okW w.t:=by unfold okW;omega
 conv=>(whnf)
 apply lH<;>intro h
 ·have hn:cap<1:=aaE
  conv=>(whnf)
  have hO2:O=none:=aeu
  rw [hO2]
  conv=>(whnf)
  exact lQ [] ⟨⟨rfl,rfl,rfl,trivial⟩,rfl,trivial⟩
 have hc1:1<=cap:=aaE
 conv=>(whnf)
 apply lH<;>intro h
 ·have hn:1048576<cap:=aaE
  conv=>(whnf)
  have hO2:O=none:=aeu
  rw [hO2]
  conv=>(whnf)
  exact lQ [] ⟨⟨rfl,rfl,rfl,trivial⟩,rfl,trivial⟩
 have hc:1<=cap∧cap<=1048576:=⟨hc1,by simpa using h⟩
 conv=>(whnf)
 refine mY abr 2 [14] (fun i:Nat=> [(14,iv i)]) (fun _=> [(1, .var 161 [iv 0,iv 0,iv 0]),(0, .var 88 [iv w.ver,iv w.c,iv w.t])]) (fun i=>i<=(q++ [x]).length∧okV cap ((q++ [x]).take i)) (fun i=>(q++ [x]).length-i) [] [] 0 aag (fun _=>rfl) rfl ⟨aH _,fun _ h=>by cases h⟩ aam aam ?_
 rintro i ⟨hi,hv⟩
 conv=>(whnf)
 apply lH<;>intro h
 ·have hlt:i<(q++ [x]).length:=ahR
  have his:i<s.length:=aai
  have hg:s[i]? = some (q++ [x])[i]:=by rw [hsq i hlt];exact ah hlt
  have hm:=aV hlt
  have hsn:(q++ [x]).take (i+1)=(q++ [x]).take i++ [(q++ [x])[i]]:=aG hlt
  generalize (q++ [x])[i]=z at *
  conv=>(whnf)
  repeat' (first
   | (refine mJ.mk' i rfl (pF his) ?_;conv=>(whnf))
   | (refine mQ.lU hg ?_;conv=>(whnf)))
  refine lH (fun h1=> ?_) (fun h1=> ?_)
  ·have hn:z.value<0:=aaJ
   conv=>(whnf)
   have hO2:O=none:=aee
   rw [hO2]
   conv=>(whnf)
   exact lQ [] ⟨⟨rfl,rfl,rfl,trivial⟩,rfl,trivial⟩
  conv=>(whnf)
  repeat' (first
   | (refine mJ.mk' i rfl (pF his) ?_;conv=>(whnf))
   | (refine mQ.lU hg ?_;conv=>(whnf)))
  refine lH (fun h2=> ?_) (fun h2=> ?_)
  ·have hn:cap<z.value:=ae9
   conv=>(whnf)
   have hO2:O=none:=aee
   rw [hO2]
   conv=>(whnf)
   exact lQ [] ⟨⟨rfl,rfl,rfl,trivial⟩,rfl,trivial⟩
  conv=>(whnf)
  refine lN.i64 aai ?_
  conv=>(whnf)
  exact lK (i+1) [] [] rfl (by show (q++ [x]).length -(i+1)<(q++ [x]).length-i;omega) ⟨hlt,fun y hy=>by
   rw [hsn]at hy
   rcases bC.1 hy with hy|hy
   ·exact hv y hy
   ·rw [aW.1 hy];exact⟨by simpa using h1,by simpa using h2⟩⟩ aam aam
 have hie:i=(q++ [x]).length:=by simp only [decide_eq_false_iff_not]at h;omega
 subst hie
 rw [aZ]at hv
 have hq:okV 1048576 q:=fun y hy=>by have:=hv y (iK _ hy);omega
 have hxv:=hv x abb
 have harm:x.x.arm=1∨x.x.arm=2:=aai
 have hO2:O=some (ofS q x w cap adj):=by rw [hO];exact if_pos ⟨harm,hwc,hwt,hc,hv⟩
 clear hO
 conv=>(whnf)
 refine lH (fun ha=> ?_) (fun ha=> ?_)
 ·have hp1:=Dt (b:=x.before) (arm:=1) hq hc
  have hp2:=Dt (b:=x.before) (arm:=2) hq hc
  have ahw:=Kt (G:=G) s q x k 1 cap hk Qx hq hb hc hl
  have ahx:=Kt (G:=G) s q x k 2 cap hk Qx hq hb hc hl
  subst ha
  have hz:ofS q x w cap true=⟨if x.x.arm=1 then w.c*w.t*(preS q x.before 2 cap-preS q x.before 1 cap) -(w.c+w.t)*w.t*(x.value-preS q x.before 1 cap)else w.c*w.t*(preS q x.before 2 cap-preS q x.before 1 cap)+(w.c+w.t)*w.c*(x.value-preS q x.before 2 cap),w.c*w.t*cap,cap*(2*(w.c*w.t)+(w.c+w.t)*max w.c w.t)⟩:=rfl
  generalize ofS q x w cap true=z at *
  generalize preS q x.before 1 cap=p1 at *
  generalize preS q x.before 2 cap=p2 at *
  have hc0:0<=w.c∧w.c<=10000:=aif
  have ht0:0<=w.t∧w.t<=10000:=aii
  have hs0:0<=w.c+w.t∧w.c+w.t<=20000:=aai
  have hx0:0<=max w.c w.t∧max w.c w.t<=10000:=aai
  have hP:=mulR hc0.1 hc0.2 ht0.1 ht0.2
  have hSt:=mulR hs0.1 hs0.2 ht0.1 ht0.2
  have hSc:=mulR hs0.1 hs0.2 hc0.1 hc0.2
  have hSm:=mulR hs0.1 hs0.2 hx0.1 hx0.2
  have hC:=mulR hP.1 hP.2 (show 0<=cap by omega) hc.2
  have hR:=mulR (show 0<=cap by omega) hc.2 (show 0<=2*(w.c*w.t)+(w.c+w.t)*max w.c w.t by omega) (show _<=400000000 by omega)
  have hD:=mulS (b:=p2-p1) (B:=1048576) hP.1 hP.2 aai aai
  have hA1:=mulS (b:=x.value-p1) (B:=1048576) hSt.1 hSt.2 aai aai
  have hA2:=mulS (b:=x.value-p2) (B:=1048576) hSc.1 hSc.2 aai aai
  have hP2:0<=2*w.c*w.t∧2*w.c*w.t<=200000000:=by rw [kN];omega
  rw [<-kN 2 w.c w.t]at hR hz
  conv=>(whnf)
  (refine lM [] aag (ahw) rfl ?_ ?_;(focus trivial))
  conv=>(whnf)
  (refine lM [] aag (ahx) rfl ?_ ?_;(focus trivial))
  rcases harm with ha1|ha1
  ·skip
   conv=>(whnf)
   repeat' (first
    | (refine lN.i64 aai ?_;conv=>(whnf))
    | (refine mJ.mk' k rfl (pF hks) ?_;conv=>(whnf))
    | (refine mQ.lU hk ?_;conv=>(whnf))
    | (refine lH (fun h1=> ?_) (fun h1=> ?_)<;>(first|(exfalso;simp [ha1]at h1;done)|(conv=>(whnf)))))
   all_goals (rw [hO2])
   all_goals exact lQ [] ⟨⟨nN air,nN agC,nN agC,trivial⟩,rfl,trivial⟩
  ·skip
   conv=>(whnf)
   repeat' (first
    | (refine lN.i64 aai ?_;conv=>(whnf))
    | (refine mJ.mk' k rfl (pF hks) ?_;conv=>(whnf))
    | (refine mQ.lU hk ?_;conv=>(whnf))
    | (refine lH (fun h1=> ?_) (fun h1=> ?_)<;>(first|(exfalso;simp [ha1]at h1;done)|(conv=>(whnf)))))
   all_goals (rw [hO2])
   all_goals exact lQ [] ⟨⟨nN ahL,nN agC,nN agC,trivial⟩,rfl,trivial⟩
 ·have hz:ofS q x w cap adj=⟨if x.x.arm=1 then w.c*w.t*(0-0) -(w.c+w.t)*w.t*(x.value-0)else w.c*w.t*(0-0)+(w.c+w.t)*w.c*(x.value-0),w.c*w.t*cap,cap*(2*(w.c*w.t)+(w.c+w.t)*max w.c w.t)⟩:=by rw [ha];rfl
  generalize ofS q x w cap adj=z at *
  have hc0:0<=w.c∧w.c<=10000:=aif
  have ht0:0<=w.t∧w.t<=10000:=aii
  have hs0:0<=w.c+w.t∧w.c+w.t<=20000:=aai
  have hx0:0<=max w.c w.t∧max w.c w.t<=10000:=aai
  have hP:=mulR hc0.1 hc0.2 ht0.1 ht0.2
  have hSt:=mulR hs0.1 hs0.2 ht0.1 ht0.2
  have hSc:=mulR hs0.1 hs0.2 hc0.1 hc0.2
  have hSm:=mulR hs0.1 hs0.2 hx0.1 hx0.2
  have hC:=mulR hP.1 hP.2 (show 0<=cap by omega) hc.2
  have hR:=mulR (show 0<=cap by omega) hc.2 (show 0<=2*(w.c*w.t)+(w.c+w.t)*max w.c w.t by omega) (show _<=400000000 by omega)
  have hD:=mulS (b:=0-0) (B:=1048576) hP.1 hP.2 aai aai
  have hA1:=mulS (b:=x.value-0) (B:=1048576) hSt.1 hSt.2 aai aai
  have hA2:=mulS (b:=x.value-0) (B:=1048576) hSc.1 hSc.2 aai aai
  have hP2:0<=2*w.c*w.t∧2*w.c*w.t<=200000000:=by rw [kN];omega
  rw [<-kN 2 w.c w.t]at hR hz
  rcases harm with ha1|ha1
  ·skip
   conv=>(whnf)
   repeat' (first
    | (refine lN.i64 aai ?_;conv=>(whnf))
    | (refine mJ.mk' k rfl (pF hks) ?_;conv=>(whnf))
    | (refine mQ.lU hk ?_;conv=>(whnf))
    | (refine lH (fun h1=> ?_) (fun h1=> ?_)<;>(first|(exfalso;simp [ha1]at h1;done)|(conv=>(whnf)))))
   all_goals (rw [hO2])
   all_goals exact lQ [] ⟨⟨nN air,nN agC,nN agC,trivial⟩,rfl,trivial⟩
  ·skip
   conv=>(whnf)
   repeat' (first
    | (refine lN.i64 aai ?_;conv=>(whnf))
    | (refine mJ.mk' k rfl (pF hks) ?_;conv=>(whnf))
    | (refine mQ.lU hk ?_;conv=>(whnf))
    | (refine lH (fun h1=> ?_) (fun h1=> ?_)<;>(first|(exfalso;simp [ha1]at h1;done)|(conv=>(whnf)))))
   all_goals (rw [hO2])
   all_goals exact lQ [] ⟨⟨nN ahL,nN agC,nN agC,trivial⟩,rfl,trivial⟩
def wgO:Option Wg->AV
 | some v=> .og [.agg [iv v.ver,iv v.c,iv v.t],bv true]
 | none=> .og [.agg [iv 0,iv 0,iv 0],bv false]
theorem Em (w:List Wg)(n:Int)(hw:w.length<=100000):mP Tryz.prog G 100 [wgL w,iv n] 0 [] (Is (wgO (wH w n))):=by
 obtain⟨O,hO⟩ : ∃O,O=wH w n:=⟨_,rfl⟩
 rw [<-hO]
 refine lJ func100 rfl mixed aag ?_
 conv=>(whnf)
 refine mY abq 1 [6] (fun j:Nat=> [(6,iv j)]) (fun _=> [(0, .var 88 [iv 0,iv 0,iv 0])]) (fun j=>j<=w.length∧∀i v,i<j->w[i]? = some v->v.ver≠n) (fun j=>w.length-j) [] [] 0 aag (fun _=>rfl) rfl ⟨aH _,fun i v hi=>absurd hi (dQ i)⟩ aam aam ?_
 rintro j ⟨hj,hno⟩
 conv=>(whnf)
 refine lH (fun h2=> ?_) (fun h2=> ?_)
 rotate_left
 ·have hje:j=w.length:=agU
  subst hje
  rw [hO,Kr fun i v hi=>hno i v hi]
  conv=>(whnf)
  exact lQ [] ⟨⟨rfl,rfl,rfl,trivial⟩,rfl,trivial⟩
 have hjt:j<w.length:=agU
 have hgw:=ah hjt
 generalize w[j]=v at *
 conv=>(whnf)
 refine mJ.mk' j rfl (pF hjt) ?_
 conv=>(whnf)
 refine mQ.lU hgw ?_
 conv=>(whnf)
 refine lH (fun h3=> ?_) (fun h3=> ?_)
 ·have he:v.ver=n:=ahq
  rw [hO,Kq hno hgw he]
  conv=>(whnf)
  refine mJ.mk' j rfl (pF hjt) ?_
  conv=>(whnf)
  refine mQ.lU hgw ?_
  conv=>(whnf)
  exact lQ [] ⟨⟨rfl,rfl,rfl,trivial⟩,rfl,trivial⟩
 have hne:v.ver≠n:=ahq
 conv=>(whnf)
 refine lN.i64 aai ?_
 conv=>(whnf)
 exact lK (j+1) [] [] rfl (by show w.length -(j+1)<w.length-j;omega) ⟨hjt,fun i u hi hu=>by
  rcases eG i j with h4|h4
  ·exact hno i u h4 hu
  ·have:i=j:=aai
   subst this
   rw [hgw]at hu
   injection hu with hu
   subst hu
   exact hne⟩ aam aam
theorem ajZ (s:List Sm)(w:List Wg)(cap:Int)(adj:Bool)(hb : ∀y∈s,I64 y.before)(hl:s.length<=100000)(hw:w.length<=100000) :
  mP Tryz.prog G 46 [smL s,wgL w,iv cap,bv adj] 0 [] (Is (Bj (Dp s w cap adj))):=by
 obtain⟨A,hA⟩ : ∃A,A=Dp s w cap adj:=⟨_,rfl⟩
 rw [<-hA]
 refine lJ func46 rfl mixed aag ?_
 conv=>(whnf)
 refine mY afm 1 [9,10] (fun x:KA=> [(9, .own 0),(10,iv x.k)]) (fun x=> [(0, .rows 161 3 (x.out.map scF))]) (fun x=>x.k<=s.length∧x.out.length<=x.k∧x.out++Dn w cap adj (s.take x.k) (s.drop x.k)=A) (fun x=>s.length-x.k) [(0, .nil)] [] ⟨0,[]⟩ aag (fun _=>rfl) rfl ⟨aH _,aH _,by rw [hA];rfl⟩ aam aam ?_
 rintro⟨k,out⟩ ⟨hk,ho,hR⟩
 dsimp only at hk ho hR
 conv=>(whnf)
 apply lH<;>intro h
 rotate_left
 ·have hie:k=s.length:=aaG
  subst hie
  rw [iO]at hR
  simp only [Dn,gK]at hR
  subst hR
  conv=>(whnf)
  exact nI (Bj out) 0 [] [] [0] ⟨rfl,rfl,rfl⟩ rfl trivial ⟨rfl,rfl,rfl⟩
 have hlt:k<s.length:=aaG
 have hg:=ah hlt
 rw [J4 hlt]at hR
 have hof:=fun v=>alU (G:=G) s (s.take k) s[k] k v cap adj hg rfl (fun y hy=>by
  rcases bC.1 hy with hy|hy
  ·exact hb y (bQ hy)
  ·rw [aW.1 hy];exact hb _ (aV hlt)) hl
 have fin (hn:yV w cap adj (s.take k) s[k] = []):out++Dn w cap adj (s.take (k+1)) (s.drop (k+1))=A:=by rw [hn]at hR;exact hR
 have ahy (z:Sc) (hn:yV w cap adj (s.take k) s[k] = [z]):(out++ [z])++Dn w cap adj (s.take (k+1)) (s.drop (k+1))=A:=by rw [hn]at hR;rw [bW];exact hR
 have hone : ∀v,wH w s[k].x.ver=some v->yV w cap adj (s.take k) s[k]=(Fa (s.take k) s[k] v cap adj).toList:=fun v hv=>ajY
 have aao:wH w s[k].x.ver=none->yV w cap adj (s.take k) s[k] = []:=fun hv=>ajY
 clear hR
 generalize s[k]=x at *
 generalize yV w cap adj (s.take k) x=O1 at *
 have hcw:=Em (G:=G) w x.x.ver hw
 conv=>(whnf)
 refine mJ.mk' k rfl (pF hlt) ?_
 conv=>(whnf)
 refine mQ.lU hg ?_
 conv=>(whnf)
 cases hf:wH w x.x.ver with
 | none=>
  rw [hf]at hcw
  (refine lM [] aag (hcw) rfl ?_ ?_;(focus trivial))
  conv=>(whnf)
  refine lN.i64 aey ?_
  conv=>(whnf)
  exact lK ⟨k+1,out⟩ [(0, .lab 0)] [] rfl aeH ⟨hlt,by show out.length<=k+1;omega,fin (aao hf)⟩ aam aam
 | some v=>
  rw [hf]at hcw
  (refine lM [] aag (hcw) rfl ?_ ?_;(focus trivial))
  have h1:=hone v hf
  have hcall:=hof v
  conv=>(whnf)
  cases hO:Fa (s.take k) x v cap adj with
  | none=>
   rw [hO]at hcall h1
   (refine lM [] aag (hcall) rfl ?_ ?_;(focus trivial))
   conv=>(whnf)
   refine lN.i64 aey ?_
   conv=>(whnf)
   exact lK ⟨k+1,out⟩ [(0, .lab 0)] [] rfl aeH ⟨hlt,by show out.length<=k+1;omega,fin h1⟩ aam aam
  | some z=>
   rw [hO]at hcall h1
   (refine lM [] aag (hcall) rfl ?_ ?_;(focus trivial))
   conv=>(whnf)
   refine lW.mk (aan aaL) ?_
   conv=>(whnf)
   refine lN.i64 aey ?_
   conv=>(whnf)
   refine lK ⟨k+1,out++ [z]⟩ [(0, .lab 4)] [] rfl aeH ⟨hlt,by show (out++ [z]).length<=k+1;rw [ay];simp;omega,ahy z h1⟩ ⟨⟨rfl,rfl, ?_⟩,trivial⟩ aam
   rw [aS]
   rfl
end
end
section
theorem Nw (x:Int):IntKind.u64.wrap x=x%18446744073709551616:=by
 have e:IntKind.u64.bits=64:=rfl
 have s:IntKind.u64.signed=false:=rfl
 simp only [IntKind.wrap,e,s,gq,aX,if_false]
 rfl
section
variable {G:Glob}
theorem Na (x y:Nat)(hx:x<18446744073709551616)(hy:y<18446744073709551616):mP Tryz.prog G 175 [uv x,uv y] 0 [] (Is (.og [uv (x*y/18446744073709551616),uv (x*y%18446744073709551616)])):=
 mP.up (YV (l:= [.int .u64 (x:Int), .int .u64 (y:Int)]) fun w=>Calls.mono (Tryz.bits_Mul64 x y hx hy w) fun e w' ⟨h1,h2⟩=>⟨_,h1,rfl,by rw [h2];exact Below.refl _ _⟩) G
theorem aj0 (u:Nat)(hu:u<18446744073709551616):mP Tryz.prog G 251 [uv u] 0 [] (Is (iv ((64-wid 64 u:Nat):Int))):=by
 have h:=(qB 64 u hu).2
 refine lJ func251 rfl mixed aag ?_
 conv=>(whnf)
 (refine lM [] aag (mP.up (YU u hu) G) rfl ?_ ?_;(focus (repeat' (first|rfl|trivial|apply And.intro))))
 conv=>(whnf)
 refine lN.i64 aai ?_
 conv=>(whnf)
 exact lQ [] (nN aai)
theorem adY {y:Nat}(h0:0<y)(hy:y<18446744073709551616):J5 y<=63∧WJ y=y*2^J5 y∧9223372036854775808<=WJ y∧WJ y<18446744073709551616:=by
 have h1:=Ut 64 y hy h0
 have h2:=qB 64 y hy
 obtain⟨w,hw⟩ : ∃w,wid 64 y=w+1:=⟨wid 64 y-1,by omega⟩
 have hs:J5 y=63-w:=by unfold J5;omega
 rw [hw]at h1 h2
 rw [jF]at h1
 have e1:(2:Nat)^w*2^(63-w)=2^63:=by rw [<-kE,show w+(63-w)=63 by omega]
 have e2:(2:Nat)^(w+1)*2^(63-w)=2^64:=by rw [<-kE,show w+1+(63-w)=64 by omega]
 have l1:2^63<=y*2^J5 y:=by rw [hs, <-e1];exact bg _ h1.2
 have l2:y*2^J5 y<2^64:=by rw [hs, <-e2];exact Nat.mul_lt_mul_of_pos_right h2.1 (Nat.pow_pos aaw)
 have e3:WJ y=y*2^J5 y:=dL l2
 refine⟨by omega,e3, ?_, ?_⟩
 ·rw [e3];exact l1
 ·rw [e3];exact l2
theorem aj1 (a:Nat):a &&& 4294967295=a%4294967296:=Nat.and_two_pow_sub_one_eq_mod a 32
theorem aj2 {a:Nat}(h:a<18446744073709551616):nV .and .u64 (a:Int) 4294967295=((a%4294967296:Nat):Int):=by
 have e:(4294967295:Int)=((4294967295:Nat):Int):=rfl
 rw [e,Yt _ _ h aaw,aj1]
theorem ahz {a s:Nat}(hs:s<=64):IntKind.u64.wrap ((a:Int)*2^min (Int.toNat (s:Int)) IntKind.u64.bits)=((a*2^s%18446744073709551616:Nat):Int):=by
 have e:IntKind.u64.bits=64:=rfl
 rw [Nw,e,dK,fC hs]
 simp
structure KD where
 f:Nat
 q:Nat
 r:Nat
theorem Qq {WI yn0 un f q r A:Nat}(h:dvC WI yn0 un (f+1) q r=A):(if 4294967296<=q∨4294967296*r+un<q*yn0 then(if 4294967296<=r+WI then q-1 else dvC WI yn0 un f (q-1) (r+WI))else q)=A:=h
attribute [local irreducible] dvC
theorem Nb (hi lo y:Nat)(hh:hi<y)(hl:lo<18446744073709551616)(hy:y<18446744073709551616):mP Tryz.prog G 176 [uv hi,uv lo,uv y] 0 [] (Is (.og [uv (IK hi lo y),uv (aak hi lo y)])):=by
 have hn:=adY (show 0<y by omega) hy
 obtain⟨Q,hQ⟩ : ∃Q,Q=IK hi lo y:=⟨_,rfl⟩
 obtain⟨R,hR⟩ : ∃R,R=aak hi lo y:=⟨_,rfl⟩
 rw [<-hQ, <-hR]
 unfold IK at hQ
 unfold aak at hR
 refine lJ func176 rfl mixed aag ?_
 conv=>(whnf)
 apply lH<;>intro h
 ·exfalso;simp at h;omega
 conv=>(whnf)
 apply lH<;>intro h
 ·exfalso;simp at h;omega
 conv=>(whnf)
 apply lH<;>intro h
 ·have h0:hi=0:=aaG
  rw [if_pos h0]at hQ hR
  conv=>(whnf)
  (refine lX afT [] aag ?_;conv=>(whnf))
  repeat' (first
   | (refine And.intro ?_ ?_<;>(conv=>(whnf)))
   | (refine lW.mk aai ?_;conv=>(whnf))
   | (refine lN.to (y:=((lo/y:Nat):Int)) (oh (n:=lo/y) (by have:=gQ lo y;omega)) ?_;conv=>(whnf))
   | (refine lN.to (y:=((lo%y:Nat):Int)) (oh (n:=lo%y) (by have:=Nat.mod_le lo y;omega)) ?_;conv=>(whnf)))
  exact lQ [] ⟨congrArg (fun n:Nat=>Value.int .u64 (n:Int)) hQ.symm,congrArg (fun n:Nat=>Value.int .u64 (n:Int)) hR.symm,trivial⟩
 have h0 : ¬hi=0:=aaG
 rw [if_neg h0]at hQ hR
 conv=>(whnf)
 (refine lM [] aag (aj0 y hy) rfl ?_ ?_;(focus (repeat' (first|rfl|trivial|apply And.intro))))
 conv=>(whnf)
 refine lN.to (y:=((J5 y:Nat):Int)) (oh (n:=J5 y) aai) ?_
 obtain⟨hs,_,hy1,hy2⟩:=hn
 unfold dvB dvV dvA at *
 have hU:dvU hi lo y=hi*2^J5 y%18446744073709551616 ||| lo/2^(64-J5 y):=rfl
 have hL:dvL lo y=lo*2^J5 y%18446744073709551616:=rfl
 have hY:=ahz (a:=y) (s:=J5 y) aai
 rw [show y*2^J5 y%18446744073709551616=WJ y from rfl]at hY
 have hU2:dvU hi lo y<18446744073709551616:=by
  rw [hU]
  refine kD (n:=64) ?_ ?_
  ·exact fO _ aaw
  ·exact iW (gQ _ _) hl
 have hL2:dvL lo y<18446744073709551616:=by rw [hL];exact fO _ aaw
 generalize WJ y=Y at *
 generalize dvU hi lo y=U at *
 generalize dvL lo y=L at *
 generalize J5 y=s at *
 conv=>(whnf)
 refine lW.mk aai ?_
 conv=>(whnf)
 refine lN.to (y:=((Y:Nat):Int)) hY ?_
 conv=>(whnf)
 refine lW.mk aaw ?_
 rw [YT]
 conv=>(whnf)
 rw [aj2 hy2]
 conv=>(whnf)
 refine lW.mk aai ?_
 conv=>(whnf)
 refine lN.to (y:=((hi*2^s%18446744073709551616:Nat):Int)) (ahz aai) ?_
 conv=>(whnf)
 refine lN.to (y:=((64-s:Nat):Int)) (by(try dsimp only);rw [Nw];omega) ?_
 conv=>(whnf)
 refine lW.mk aai ?_
 rw [VX lo (64-s) aai]
 conv=>(whnf)
 rw [acO _ _ (fO _ aaw) (iW (gQ _ _) hl), <-hU]
 conv=>(whnf)
 refine lW.mk aai ?_
 conv=>(whnf)
 refine lN.to (y:=((L:Nat):Int)) (by rw [hL];exact ahz aai) ?_
 conv=>(whnf)
 refine lW.mk aaw ?_
 rw [YT]
 conv=>(whnf)
 rw [aj2 hL2]
 conv=>(whnf)
 have hyA:2147483648<=Y/4294967296:=aai
 have hyB:Y/4294967296<4294967296:=aai
 have hyC:Y%4294967296<4294967296:=aai
 have huA:L/4294967296<4294967296:=aai
 have huB:L%4294967296<4294967296:=aai
 generalize Y/4294967296=Y1 at *
 generalize Y%4294967296=Y0 at *
 generalize L/4294967296=L1 at *
 generalize L%4294967296=L0 at *
 obtain⟨A,hA⟩ : ∃A,A=dvQ Y1 Y0 U L1:=⟨_,rfl⟩
 rw [<-hA]at hQ hR
 obtain⟨V,hV⟩ : ∃V,V=dvR U L1 A Y:=⟨_,rfl⟩
 rw [<-hV]at hQ hR
 obtain⟨B,hB⟩ : ∃B,B=dvQ Y1 Y0 V L0:=⟨_,rfl⟩
 rw [<-hB]at hQ hR
 unfold dvQ at hA hB
 have hV2:V<18446744073709551616:=by rw [hV];exact fO _ aaw
 clear hY hU hL hL2 h0 h hh hl hy
 refine lW.mk aai ?_
 conv=>(whnf)
 refine lN.to (y:=((U/Y1:Nat):Int)) (oh (n:=U/Y1) (by have:=gQ U Y1;omega)) ?_
 conv=>(whnf)
 refine lN.to (y:=((U/Y1*Y1:Nat):Int)) (oh (n:=U/Y1*Y1) (by have:=Nat.div_mul_le_self U Y1;omega)) ?_
 conv=>(whnf)
 refine lN.to (y:=((U%Y1:Nat):Int)) (by
  have h1:=kV U Y1
  have h2:=gG Y1 (U/Y1)
  have h3:=Nat.mod_le U Y1
  rw [Nw];omega) ?_
 conv=>(whnf)
 refine mY abM 0 [15,16] (fun x:KD=> [(15,uv x.q),(16,uv x.r)]) (fun _=> []) (fun x=>dvC Y1 Y0 L1 x.f x.q x.r=A∧x.r<4294967296∧4294967296-x.r<=x.f∧x.q<18446744073709551616) (fun x=>4294967296-x.r) [] [] ⟨4294967296,U/Y1,U%Y1⟩ aag (fun _=>rfl) rfl ⟨hA.symm,aP (fO _ aai) aai,Nat.sub_le _ _,iW (gQ _ _) aaH⟩ aaM aaM ?_
 rintro⟨f,q,r⟩ ⟨hC,hr,hf,hqt⟩
 dsimp only at hC hr hf hqt
 obtain⟨f,rfl⟩ : ∃g,f=g+1:=⟨f-1,by omega⟩
 have hC:=Qq hC
 have again (hq:4294967296<=q∨4294967296*r+L1<q*Y0) (hn : ¬4294967296<=r+Y1):dvC Y1 Y0 L1 f (q-1) (r+Y1)=A:=by rw [if_pos hq,if_neg hn]at hC;exact hC
 have stop (hq:4294967296<=q∨4294967296*r+L1<q*Y0) (hn:4294967296<=r+Y1):q-1=A:=by rw [if_pos hq,if_pos hn]at hC;exact hC
 have fin (hq : ¬(4294967296<=q∨4294967296*r+L1<q*Y0)):q=A:=by rw [if_neg hq]at hC;exact hC
 have pos (hq:4294967296<=q∨4294967296*r+L1<q*Y0):1<=q:=by
  rcases hq with h|h
  ·omega
  ·rcases bM q with h0|h0
   ·subst h0;simp at h
   ·exact h0
 clear hC
 conv=>(whnf)
 apply lH<;>intro h
 focus
  have hq:4294967296<=q:=aaG
  have hq1:=pos (.inl hq)
  replace stop:=stop (.inl hq)
  replace again:=again (.inl hq)
  conv=>(whnf)
  refine lN.to (y:=((q-1:Nat):Int)) (by(try dsimp only);rw [Nw];omega) ?_
  conv=>(whnf)
  refine lN.to (y:=((r+Y1:Nat):Int)) (oh (n:=r+Y1) aai) ?_
  conv=>(whnf)
  refine lH (fun h4=> ?_) (fun h4=> ?_)
  rotate_left
  ·have hn : ¬4294967296<=r+Y1:=ag1
   conv=>(whnf)
   exact lK ⟨f,q-1,r+Y1⟩ [] [] rfl agT ⟨again hn,by show r+Y1<4294967296;omega,by show 4294967296 -(r+Y1)<=f;omega,by show q-1<18446744073709551616;omega⟩ aaM aaM
  have hn:4294967296<=r+Y1:=ag1
  rw [stop hn]
 rotate_left
 have hq : ¬4294967296<=q:=aaG
 have hm:q*Y0<18446744073709551616:=by
  have:q*Y0<=4294967295*4294967295:=lu aai aai
  omega
 conv=>(whnf)
 refine lN.to (y:=((q*Y0:Nat):Int)) (oh hm) ?_
 conv=>(whnf)
 refine lN.to (y:=((4294967296*r:Nat):Int)) (oh (n:=4294967296*r) aai) ?_
 conv=>(whnf)
 refine lN.to (y:=((4294967296*r+L1:Nat):Int)) (oh (n:=4294967296*r+L1) aai) ?_
 conv=>(whnf)
 refine lH (fun h3=> ?_) (fun h3=> ?_)
 focus
  have hc:4294967296*r+L1<q*Y0:=kU.1 (of_decide_eq_true h3)
  have hq1:=pos (.inr hc)
  replace stop:=stop (.inr hc)
  replace again:=again (.inr hc)
  conv=>(whnf)
  refine lN.to (y:=((q-1:Nat):Int)) (by(try dsimp only);rw [Nw];omega) ?_
  conv=>(whnf)
  refine lN.to (y:=((r+Y1:Nat):Int)) (oh (n:=r+Y1) aai) ?_
  conv=>(whnf)
  refine lH (fun h4=> ?_) (fun h4=> ?_)
  rotate_left
  ·have hn : ¬4294967296<=r+Y1:=ag1
   conv=>(whnf)
   exact lK ⟨f,q-1,r+Y1⟩ [] [] rfl agT ⟨again hn,by show r+Y1<4294967296;omega,by show 4294967296 -(r+Y1)<=f;omega,by show q-1<18446744073709551616;omega⟩ aaM aaM
  have hn:4294967296<=r+Y1:=ag1
  rw [stop hn]
 rotate_left
 have hc : ¬4294967296*r+L1<q*Y0:=fun h5=>of_decide_eq_false h3 (kU.2 h5)
 rw [fin (fun h5=>h5.elim hq hc)]
 all_goals
  conv=>(whnf)
  refine lN.to (y:=((U*4294967296%18446744073709551616:Nat):Int)) (by(try dsimp only);rw [Nw];omega) ?_
  conv=>(whnf)
  refine lN.to (y:=(((U*4294967296%18446744073709551616+L1)%18446744073709551616:Nat):Int)) (by(try dsimp only);rw [Nw];omega) ?_
  conv=>(whnf)
  refine lN.to (y:=((A*Y%18446744073709551616:Nat):Int)) (by rw [<-jR,Nw];generalize A*Y=z;omega) ?_
  conv=>(whnf)
  refine lN.to (y:=((V:Nat):Int)) (by rw [hV];unfold dvR;rw [Nw];generalize A*Y=z;omega) ?_
  conv=>(whnf)
  refine lW.mk aai ?_
  conv=>(whnf)
  refine lN.to (y:=((V/Y1:Nat):Int)) (oh (n:=V/Y1) (by have:=gQ V Y1;omega)) ?_
  conv=>(whnf)
  refine lN.to (y:=((V/Y1*Y1:Nat):Int)) (oh (n:=V/Y1*Y1) (by have:=Nat.div_mul_le_self V Y1;omega)) ?_
  conv=>(whnf)
  refine lN.to (y:=((V%Y1:Nat):Int)) (by
   have h1:=kV V Y1
   have h2:=gG Y1 (V/Y1)
   have h3:=Nat.mod_le V Y1
   rw [Nw];omega) ?_
  conv=>(whnf)
  refine mY abN 0 [18,16] (fun x:KD=> [(18,uv x.q),(16,uv x.r)]) (fun _=> []) (fun x=>dvC Y1 Y0 L0 x.f x.q x.r=B∧x.r<4294967296∧4294967296-x.r<=x.f∧x.q<18446744073709551616) (fun x=>4294967296-x.r) [] [] ⟨4294967296,V/Y1,V%Y1⟩ aag (fun _=>rfl) rfl ⟨hB.symm,aP (fO _ aai) aai,Nat.sub_le _ _,iW (gQ _ _) aaH⟩ aaM aaM ?_
  rintro⟨f,q,r⟩ ⟨hC,hr,hf,hqt⟩
  dsimp only at hC hr hf hqt
  obtain⟨f,rfl⟩ : ∃g,f=g+1:=⟨f-1,by omega⟩
  have hC:=Qq hC
  have again (hq:4294967296<=q∨4294967296*r+L0<q*Y0) (hn : ¬4294967296<=r+Y1):dvC Y1 Y0 L0 f (q-1) (r+Y1)=B:=by rw [if_pos hq,if_neg hn]at hC;exact hC
  have stop (hq:4294967296<=q∨4294967296*r+L0<q*Y0) (hn:4294967296<=r+Y1):q-1=B:=by rw [if_pos hq,if_pos hn]at hC;exact hC
  have fin (hq : ¬(4294967296<=q∨4294967296*r+L0<q*Y0)):q=B:=by rw [if_neg hq]at hC;exact hC
  have pos (hq:4294967296<=q∨4294967296*r+L0<q*Y0):1<=q:=by
   rcases hq with h|h
   ·omega
   ·rcases bM q with h0|h0
    ·subst h0;simp at h
    ·exact h0
  clear hC
  conv=>(whnf)
  apply lH<;>intro h
  focus
   have hq:4294967296<=q:=aaG
   have hq1:=pos (.inl hq)
   replace stop:=stop (.inl hq)
   replace again:=again (.inl hq)
   conv=>(whnf)
   refine lN.to (y:=((q-1:Nat):Int)) (by(try dsimp only);rw [Nw];omega) ?_
   conv=>(whnf)
   refine lN.to (y:=((r+Y1:Nat):Int)) (oh (n:=r+Y1) aai) ?_
   conv=>(whnf)
   refine lH (fun h4=> ?_) (fun h4=> ?_)
   rotate_left
   ·have hn : ¬4294967296<=r+Y1:=ag1
    conv=>(whnf)
    exact lK ⟨f,q-1,r+Y1⟩ [] [] rfl agT ⟨again hn,by show r+Y1<4294967296;omega,by show 4294967296 -(r+Y1)<=f;omega,by show q-1<18446744073709551616;omega⟩ aaM aaM
   have hn:4294967296<=r+Y1:=ag1
   rw [stop hn]
  rotate_left
  have hq : ¬4294967296<=q:=aaG
  have hm:q*Y0<18446744073709551616:=by
   have:q*Y0<=4294967295*4294967295:=lu aai aai
   omega
  conv=>(whnf)
  refine lN.to (y:=((q*Y0:Nat):Int)) (oh hm) ?_
  conv=>(whnf)
  refine lN.to (y:=((4294967296*r:Nat):Int)) (oh (n:=4294967296*r) aai) ?_
  conv=>(whnf)
  refine lN.to (y:=((4294967296*r+L0:Nat):Int)) (oh (n:=4294967296*r+L0) aai) ?_
  conv=>(whnf)
  refine lH (fun h3=> ?_) (fun h3=> ?_)
  focus
   have hc:4294967296*r+L0<q*Y0:=kU.1 (of_decide_eq_true h3)
   have hq1:=pos (.inr hc)
   replace stop:=stop (.inr hc)
   replace again:=again (.inr hc)
   conv=>(whnf)
   refine lN.to (y:=((q-1:Nat):Int)) (by(try dsimp only);rw [Nw];omega) ?_
   conv=>(whnf)
   refine lN.to (y:=((r+Y1:Nat):Int)) (oh (n:=r+Y1) aai) ?_
   conv=>(whnf)
   refine lH (fun h4=> ?_) (fun h4=> ?_)
   rotate_left
   ·have hn : ¬4294967296<=r+Y1:=ag1
    conv=>(whnf)
    exact lK ⟨f,q-1,r+Y1⟩ [] [] rfl agT ⟨again hn,by show r+Y1<4294967296;omega,by show 4294967296 -(r+Y1)<=f;omega,by show q-1<18446744073709551616;omega⟩ aaM aaM
   have hn:4294967296<=r+Y1:=ag1
   rw [stop hn]
  rotate_left
  have hc : ¬4294967296*r+L0<q*Y0:=fun h5=>of_decide_eq_false h3 (kU.2 h5)
  rw [fin (fun h5=>h5.elim hq hc)]
  all_goals
   conv=>(whnf)
   refine lN.to (y:=((A*4294967296%18446744073709551616:Nat):Int)) (by(try dsimp only);rw [Nw];omega) ?_
   conv=>(whnf)
   refine lN.to (y:=((Q:Nat):Int)) (by(try dsimp only);rw [Nw,hQ];omega) ?_
   conv=>(whnf)
   refine lN.to (y:=((V*4294967296%18446744073709551616:Nat):Int)) (by(try dsimp only);rw [Nw];omega) ?_
   conv=>(whnf)
   refine lN.to (y:=(((V*4294967296%18446744073709551616+L0)%18446744073709551616:Nat):Int)) (by(try dsimp only);rw [Nw];omega) ?_
   conv=>(whnf)
   refine lN.to (y:=((B*Y%18446744073709551616:Nat):Int)) (by rw [<-jR,Nw];generalize B*Y=z;omega) ?_
   conv=>(whnf)
   refine lN.to (y:=((dvR V L0 B Y:Nat):Int)) (by unfold dvR;rw [Nw];generalize B*Y=z;omega) ?_
   conv=>(whnf)
   refine lW.mk aai ?_
   rw [VX (dvR V L0 B Y) s aai, <-hR]
   conv=>(whnf)
   exact lQ [] aaM
end
end
section
attribute [local irreducible] IK aak Ei
section
variable {G:Glob}
abbrev scV (s:Sc):AV:= .agg [iv s.num,iv s.unit,iv s.range]
theorem adZ (s:Sc):mP Tryz.prog G 362 [scV s] 0 [] (Is (bv (decide (okS s)))):=by
 obtain⟨b,hb⟩ : ∃b,b=decide (okS s):=⟨_,rfl⟩
 rw [<-hb]
 refine lJ func362 rfl mixed aag ?_
 conv=>(whnf)
 repeat' (first
  | (apply lH<;>intro h<;>(try simp only [bl]at h)<;>(conv=>(whnf)))
  | (refine lN.i64 aai ?_;conv=>(whnf)))
 all_goals (rw [hb])
 all_goals (refine lQ [] (congrArg Value.bool ?_))
 all_goals (try simp only [cond_true,cond_false,decide_eq_true_eq,decide_eq_false_iff_not,ge_iff_le,gt_iff_lt,Int.not_le,fM]at *)
 all_goals first
  | exact decide_eq_false agt
  | exact decide_eq_decide.2 agt
  | exact decide_eq_true agt
  | exact(decide_eq_false agt).symm
  | exact(decide_eq_true agt).symm
theorem aap (s:Sc):mP Tryz.prog G 312 [scV s] 0 [] (Is (bv (decide (okS s)))):=by
 obtain⟨b,hb⟩ : ∃b,b=decide (okS s):=⟨_,rfl⟩
 rw [<-hb]
 refine lJ func312 rfl mixed aag ?_
 conv=>(whnf)
 repeat' (first
  | (apply lH<;>intro h<;>(try simp only [bl]at h)<;>(conv=>(whnf)))
  | (refine lN.i64 aai ?_;conv=>(whnf)))
 all_goals (rw [hb])
 all_goals (refine lQ [] (congrArg Value.bool ?_))
 all_goals (try simp only [cond_true,cond_false,decide_eq_true_eq,decide_eq_false_iff_not,ge_iff_le,gt_iff_lt,Int.not_le,fM]at *)
 all_goals first
  | exact decide_eq_false agt
  | exact decide_eq_decide.2 agt
  | exact decide_eq_true agt
  | exact(decide_eq_false agt).symm
  | exact(decide_eq_true agt).symm
theorem ahA (s:Sc)(e F6:Int)(up:Bool)(aaq:F6=1∨F6=2∨F6=4):mP Tryz.prog G 309 [scV s,iv e,iv F6,bv up] 0 [] (Is (.og [iv (sW s e F6 up),iv (tZ s e)])):=by
 obtain⟨N,hN⟩ : ∃N,N=sW s e F6 up:=⟨_,rfl⟩
 obtain⟨D,hD⟩ : ∃D,D=tZ s e:=⟨_,rfl⟩
 rw [<-hN, <-hD]
 unfold sW gain at hN
 unfold tZ at hD
 refine lJ func309 rfl mixed aag ?_
 conv=>(whnf)
 (refine lM [] aag (adZ s) rfl ?_ ?_;(focus trivial))
 conv=>(whnf)
 apply lH<;>intro h
 ·have hn : ¬okS s:=aaE
  rw [if_neg (fun h'=>hn h'.1)]at hN hD
  conv=>(whnf)
  exact lQ [] ⟨nN hN.symm,nN hD.symm,trivial⟩
 have hs:okS s:=aaE
 conv=>(whnf)
 apply lH<;>intro h
 ·have hn:e < -1000:=aaE
  rw [if_neg (fun h'=>by have:=h'.2;unfold U8 at this;omega)]at hN hD
  conv=>(whnf)
  exact lQ [] ⟨nN hN.symm,nN hD.symm,trivial⟩
 have he1 : ¬e < -1000:=aaE
 conv=>(whnf)
 apply lH<;>intro h
 ·have hn:1000<e:=aaE
  rw [if_neg (fun h'=>by have:=h'.2;unfold U8 at this;omega)]at hN hD
  conv=>(whnf)
  exact lQ [] ⟨nN hN.symm,nN hD.symm,trivial⟩
 have he2 : ¬1000<e:=aaE
 have he:U8 e:=by unfold U8;omega
 rw [if_pos ⟨hs,he⟩]at hN hD
 obtain⟨h1,h2,h3,h4,h5⟩:=hs
 have hm:=mulS (a:=s.unit) (b:=e) (A:=s.unit) (B:=1000) aai (kG _) aai aai
 conv=>(whnf)
 rcases aaq with rfl|rfl|rfl
 all_goals (repeat' (first
  | (apply lH<;>intro h<;>(first|(exfalso;simp at h;done)|(conv=>(whnf))))
  | (refine lN.i64 aai ?_;conv=>(whnf))))
 all_goals (first|(rw [if_pos aaH]at hN)|(rw [if_neg (by simp_all)]at hN))
 all_goals exact lQ [] ⟨nN hN.symm,nN hD.symm,trivial⟩
theorem aar (s:Sc)(e F6:Int)(up:Bool)(aaq:F6=1∨F6=2∨F6=4):mP Tryz.prog G 255 [scV s,iv e,iv F6,bv up] 0 [] (Is (.og [iv (sW s e F6 up),iv (tZ s e)])):=by
 obtain⟨N,hN⟩ : ∃N,N=sW s e F6 up:=⟨_,rfl⟩
 obtain⟨D,hD⟩ : ∃D,D=tZ s e:=⟨_,rfl⟩
 rw [<-hN, <-hD]
 unfold sW gain at hN
 unfold tZ at hD
 refine lJ func255 rfl mixed aag ?_
 conv=>(whnf)
 (refine lM [] aag (aap s) rfl ?_ ?_;(focus trivial))
 conv=>(whnf)
 apply lH<;>intro h
 ·have hn : ¬okS s:=aaE
  rw [if_neg (fun h'=>hn h'.1)]at hN hD
  conv=>(whnf)
  exact lQ [] ⟨nN hN.symm,nN hD.symm,trivial⟩
 have hs:okS s:=aaE
 conv=>(whnf)
 apply lH<;>intro h
 ·have hn:e < -1000:=aaE
  rw [if_neg (fun h'=>by have:=h'.2;unfold U8 at this;omega)]at hN hD
  conv=>(whnf)
  exact lQ [] ⟨nN hN.symm,nN hD.symm,trivial⟩
 have he1 : ¬e < -1000:=aaE
 conv=>(whnf)
 apply lH<;>intro h
 ·have hn:1000<e:=aaE
  rw [if_neg (fun h'=>by have:=h'.2;unfold U8 at this;omega)]at hN hD
  conv=>(whnf)
  exact lQ [] ⟨nN hN.symm,nN hD.symm,trivial⟩
 have he2 : ¬1000<e:=aaE
 have he:U8 e:=by unfold U8;omega
 rw [if_pos ⟨hs,he⟩]at hN hD
 obtain⟨h1,h2,h3,h4,h5⟩:=hs
 have hm:=mulS (a:=s.unit) (b:=e) (A:=s.unit) (B:=1000) aai (kG _) aai aai
 conv=>(whnf)
 rcases aaq with rfl|rfl|rfl
 all_goals (repeat' (first
  | (apply lH<;>intro h<;>(first|(exfalso;simp at h;done)|(conv=>(whnf))))
  | (refine lN.i64 aai ?_;conv=>(whnf))))
 all_goals (first|(rw [if_pos aaH]at hN)|(rw [if_neg (by simp_all)]at hN))
 all_goals exact lQ [] ⟨nN hN.symm,nN hD.symm,trivial⟩
theorem xZ (s:Sc)(e F6:Int)(up:Bool)(aaq:F6=1∨F6=2∨F6=4) : -9223372036854775808<=sW s e F6 up∧sW s e F6 up<=9223372036854775807:=by
 unfold sW gain
 by_cases h:okS s∧U8 e
 ·rw [if_pos h]
  obtain⟨⟨h1,h2,h3,h4,h5⟩,he⟩:=h
  unfold U8 at he
  have hm:=mulS (a:=s.unit) (b:=e) (A:=s.unit) (B:=1000) aai (kG _) aai aai
  rcases aaq with rfl|rfl|rfl<;>split<;>omega
 ·rw [if_neg h];omega
theorem aas (w num den:Int)(hn:I64 num):mP Tryz.prog G 310 [iv w,iv num,iv den] 0 [] (Is (iv (Ei w num den))):=by
 obtain⟨R,hR⟩ : ∃R,R=Ei w num den:=⟨_,rfl⟩
 rw [<-hR]
 unfold Ei at hR
 refine lJ func310 rfl mixed aag ?_
 conv=>(whnf)
 apply lH<;>intro h
 ·have hc:w<0:=aaE
  rw [if_pos aai]at hR
  conv=>(whnf)
  exact lQ [] (nN hR.symm)
 have c1 : ¬w<0:=aaE
 conv=>(whnf)
 apply lH<;>intro h
 ·have hc:2305843009213693952<w:=aaE
  rw [if_pos aai]at hR
  conv=>(whnf)
  exact lQ [] (nN hR.symm)
 have c2 : ¬2305843009213693952<w:=aaE
 conv=>(whnf)
 apply lH<;>intro h
 ·have hc:den<1:=aaE
  rw [if_pos aai]at hR
  conv=>(whnf)
  exact lQ [] (nN hR.symm)
 have c3 : ¬den<1:=aaE
 conv=>(whnf)
 apply lH<;>intro h
 ·have hc:4611686018427387904<den:=aaE
  rw [if_pos aai]at hR
  conv=>(whnf)
  exact lQ [] (nN hR.symm)
 have c4 : ¬4611686018427387904<den:=aaE
 conv=>(whnf)
 apply lH<;>intro h
 ·have hc:num<0:=aaE
  rw [if_pos aai]at hR
  conv=>(whnf)
  exact lQ [] (nN hR.symm)
 have c5 : ¬num<0:=aaE
 rw [if_neg aai]at hR
 obtain⟨W,rfl⟩ : ∃W:Nat,w=W:=⟨w.toNat,by omega⟩
 obtain⟨M,rfl⟩ : ∃M:Nat,num=M:=⟨num.toNat,by omega⟩
 obtain⟨D,rfl⟩ : ∃D:Nat,den=D:=⟨den.toNat,by omega⟩
 simp only [dK]at hR
 unfold I64 at hn
 conv=>(whnf)
 refine lN.to (y:=((W:Nat):Int)) (oh (n:=W) aai) ?_
 conv=>(whnf)
 refine lN.to (y:=((M:Nat):Int)) (oh (n:=M) aai) ?_
 conv=>(whnf)
 (refine lM [] aag (Na W M aai aai) rfl ?_ ?_;(focus trivial))
 conv=>(whnf)
 refine lN.to (y:=((D:Nat):Int)) (oh (n:=D) aai) ?_
 have hlo:W*M%18446744073709551616<18446744073709551616:=fO _ aaw
 generalize W*M/18446744073709551616=hi at *
 generalize W*M%18446744073709551616=lo at *
 conv=>(whnf)
 apply lH<;>intro h
 ·have hc:D<=hi:=aaE
  rw [if_pos hc]at hR
  conv=>(whnf)
  exact lQ [] (nN hR.symm)
 have hc : ¬D<=hi:=aaE
 rw [if_neg hc]at hR
 conv=>(whnf)
 refine lN.to (y:=((D:Nat):Int)) (oh (n:=D) aai) ?_
 conv=>(whnf)
 (refine lM [] aag (Nb hi lo D aai hlo aai) rfl ?_ ?_;(focus trivial))
 generalize IK hi lo D=q at *
 conv=>(whnf)
 refine lN.i64 aai ?_
 conv=>(whnf)
 exact lQ [] (nN (by rw [hR];omega))
theorem IV (w num den:Int)(hn:I64 num):mP Tryz.prog G 185 [iv w,iv num,iv den] 0 [] (Is (iv (Ei w num den))):=by
 obtain⟨R,hR⟩ : ∃R,R=Ei w num den:=⟨_,rfl⟩
 rw [<-hR]
 unfold Ei at hR
 refine lJ func185 rfl mixed aag ?_
 conv=>(whnf)
 apply lH<;>intro h
 ·have hc:w<0:=aaE
  rw [if_pos aai]at hR
  conv=>(whnf)
  exact lQ [] (nN hR.symm)
 have c1 : ¬w<0:=aaE
 conv=>(whnf)
 apply lH<;>intro h
 ·have hc:2305843009213693952<w:=aaE
  rw [if_pos aai]at hR
  conv=>(whnf)
  exact lQ [] (nN hR.symm)
 have c2 : ¬2305843009213693952<w:=aaE
 conv=>(whnf)
 apply lH<;>intro h
 ·have hc:den<1:=aaE
  rw [if_pos aai]at hR
  conv=>(whnf)
  exact lQ [] (nN hR.symm)
 have c3 : ¬den<1:=aaE
 conv=>(whnf)
 apply lH<;>intro h
 ·have hc:4611686018427387904<den:=aaE
  rw [if_pos aai]at hR
  conv=>(whnf)
  exact lQ [] (nN hR.symm)
 have c4 : ¬4611686018427387904<den:=aaE
 conv=>(whnf)
 apply lH<;>intro h
 ·have hc:num<0:=aaE
  rw [if_pos aai]at hR
  conv=>(whnf)
  exact lQ [] (nN hR.symm)
 have c5 : ¬num<0:=aaE
 rw [if_neg aai]at hR
 obtain⟨W,rfl⟩ : ∃W:Nat,w=W:=⟨w.toNat,by omega⟩
 obtain⟨M,rfl⟩ : ∃M:Nat,num=M:=⟨num.toNat,by omega⟩
 obtain⟨D,rfl⟩ : ∃D:Nat,den=D:=⟨den.toNat,by omega⟩
 simp only [dK]at hR
 unfold I64 at hn
 conv=>(whnf)
 refine lN.to (y:=((W:Nat):Int)) (oh (n:=W) aai) ?_
 conv=>(whnf)
 refine lN.to (y:=((M:Nat):Int)) (oh (n:=M) aai) ?_
 conv=>(whnf)
 (refine lM [] aag (Na W M aai aai) rfl ?_ ?_;(focus trivial))
 conv=>(whnf)
 refine lN.to (y:=((D:Nat):Int)) (oh (n:=D) aai) ?_
 have hlo:W*M%18446744073709551616<18446744073709551616:=fO _ aaw
 generalize W*M/18446744073709551616=hi at *
 generalize W*M%18446744073709551616=lo at *
 conv=>(whnf)
 apply lH<;>intro h
 ·have hc:D<=hi:=aaE
  rw [if_pos hc]at hR
  conv=>(whnf)
  exact lQ [] (nN hR.symm)
 have hc : ¬D<=hi:=aaE
 rw [if_neg hc]at hR
 conv=>(whnf)
 refine lN.to (y:=((D:Nat):Int)) (oh (n:=D) aai) ?_
 conv=>(whnf)
 (refine lM [] aag (Nb hi lo D aai hlo aai) rfl ?_ ?_;(focus trivial))
 generalize IK hi lo D=q at *
 conv=>(whnf)
 refine lN.i64 aai ?_
 conv=>(whnf)
 exact lQ [] (nN (by rw [hR];omega))
theorem wQ {n:Nat}(h:n<=200000):n*8<=140737488355328∧n<=maxLen:=⟨by omega,by unfold maxLen;omega⟩
structure K3 where
 j:Nat
 a:Int
 b:Int
 c:Int
 s:Int
def K3I (a0 b0 c0 a b c:Int)(x:K3):Prop:=x=⟨0,a0,b0,c0,0⟩∨x=⟨1,a,b0,c0,a⟩∨x=⟨2,a,b,c0,a+b⟩∨x=⟨3,a,b,c,a+b+c⟩
theorem aj3 (l:List Sc)(e:Int)(up:Bool)(hl:l.length<=100000):mP Tryz.prog G 250 [Bj l,iv e,bv up] 0 [] (Is (li (Am l e up))):=by
 obtain⟨A,hA⟩ : ∃A,A=Am l e up:=⟨_,rfl⟩
 rw [<-hA]
 refine lJ func250 rfl mixed aag ?_
 conv=>(whnf)
 refine mY ab9 3 [9,21] (fun i:Nat=> [(9, .own 2),(21,iv i)]) (fun i=> [(2, .rows 3 1 ((Qw e up (l.take i)).out.map zx)),(1, .var 395 [iv (Qw e up (l.take i)).a,iv (Qw e up (l.take i)).b,iv (Qw e up (l.take i)).c]),(0, .var 395 [iv 1,iv 2,iv 4])]) (fun i=>i<=l.length) (fun i=>l.length-i) [(2, .nil)] [] 0 aag (fun _=>rfl) rfl (aH _) aam aam ?_
 intro i hi
 have hok:=Td e up (l.take i)
 rw [aN,fC hi]at hok
 conv=>(whnf)
 apply lH<;>intro h
 rotate_left
 ·have hie:i=l.length:=aaG
  subst hie
  rw [aZ]
  conv=>(whnf)
  exact nI (li A) 0 [] [] [2] ⟨rfl,rfl,rfl⟩ rfl trivial ⟨rfl,rfl,by rw [hA];rfl⟩
 have hlt:i<l.length:=aaG
 have hg:=ah hlt
 have hn:=IL (e:=e) (up:=up) hlt
 generalize l[i]=y at *
 generalize Qw e up (l.take i)=x at *
 obtain⟨a0,b0,c0,out⟩:=x
 unfold wsN at hn
 dsimp only at hn
 have h1:=uZ a0 (sW y e 1 up) (tZ y e)
 have h2:=uZ b0 (sW y e 2 up) (tZ y e)
 have h3:=uZ c0 (sW y e 4 up) (tZ y e)
 obtain⟨a,ha⟩ : ∃a,a=Ei a0 (sW y e 1 up) (tZ y e):=⟨_,rfl⟩
 obtain⟨b,hb⟩ : ∃b,b=Ei b0 (sW y e 2 up) (tZ y e):=⟨_,rfl⟩
 obtain⟨c,hc⟩ : ∃c,c=Ei c0 (sW y e 4 up) (tZ y e):=⟨_,rfl⟩
 rw [<-ha, <-hb, <-hc]at hn
 rw [<-ha]at h1
 rw [<-hb]at h2
 rw [<-hc]at h3
 have hol:out.length=i:=hok.len
 conv=>(whnf)
 refine mJ.mk' i rfl (pF hlt) ?_
 conv=>(whnf)
 refine mQ.lU hg ?_
 conv=>(whnf)
 refine mY acd 4 [12,26] (fun x:K3=> [(12,iv x.s),(26,iv x.j)]) (fun x=> [(3, .var 161 ((scF y).map FV.up)),(2, .rows 3 1 (out.map zx)),(1, .var 395 [iv x.a,iv x.b,iv x.c]),(0, .var 395 [iv 1,iv 2,iv 4])]) (K3I a0 b0 c0 a b c) (fun x=>3-x.j) [] [] ⟨0,a0,b0,c0,0⟩ aag (fun _=>rfl) rfl (.inl rfl) aam aam ?_
 rintro x (rfl|rfl|rfl|rfl)
 ·conv=>(whnf)
  refine mJ.mk' 0 rfl aaw ?_
  conv=>(whnf)
  (refine lM [] aag (ahA y e 1 up aaw) rfl ?_ ?_;(focus trivial))
  conv=>(whnf)
  refine mJ.mk' 0 rfl aaw ?_
  conv=>(whnf)
  (refine lM [] aag (aas a0 (sW y e 1 up) (tZ y e) (xZ _ _ _ _ aaw)) rfl ?_ ?_;(focus trivial))
  rw [<-ha]
  conv=>(whnf)
  refine mJ.mk' 0 rfl aaw ?_
  conv=>(whnf)
  refine mJ.mk' 0 rfl aaw ?_
  conv=>(whnf)
  refine lN.i64 (by show _<=0+a∧0+a<=_;omega) ?_
  conv=>(whnf)
  refine lN.i64 ahk ?_
  conv=>(whnf)
  exact lK ⟨1,a,b0,c0,a⟩ [] [] rfl (by show 3 -(0+1)<3-0;decide) (.inr (.inl rfl)) aam ⟨nN (jW a),rfl,trivial⟩
 ·conv=>(whnf)
  refine mJ.mk' 1 rfl aaw ?_
  conv=>(whnf)
  (refine lM [] aag (ahA y e 2 up aaw) rfl ?_ ?_;(focus trivial))
  conv=>(whnf)
  refine mJ.mk' 1 rfl aaw ?_
  conv=>(whnf)
  (refine lM [] aag (aas b0 (sW y e 2 up) (tZ y e) (xZ _ _ _ _ aaw)) rfl ?_ ?_;(focus trivial))
  rw [<-hb]
  conv=>(whnf)
  refine mJ.mk' 1 rfl aaw ?_
  conv=>(whnf)
  refine mJ.mk' 1 rfl aaw ?_
  conv=>(whnf)
  refine lN.i64 (by show _<=a+b∧a+b<=_;omega) ?_
  conv=>(whnf)
  refine lN.i64 ahk ?_
  conv=>(whnf)
  exact lK ⟨2,a,b,c0,a+b⟩ [] [] rfl (by show 3 -(1+1)<3-1;decide) (.inr (.inr (.inl rfl))) aam aam
 ·conv=>(whnf)
  refine mJ.mk' 2 rfl aaw ?_
  conv=>(whnf)
  (refine lM [] aag (ahA y e 4 up aaw) rfl ?_ ?_;(focus trivial))
  conv=>(whnf)
  refine mJ.mk' 2 rfl aaw ?_
  conv=>(whnf)
  (refine lM [] aag (aas c0 (sW y e 4 up) (tZ y e) (xZ _ _ _ _ aaw)) rfl ?_ ?_;(focus trivial))
  rw [<-hc]
  conv=>(whnf)
  refine mJ.mk' 2 rfl aaw ?_
  conv=>(whnf)
  refine mJ.mk' 2 rfl aaw ?_
  conv=>(whnf)
  refine lN.i64 (by show _<=a+b+c∧a+b+c<=_;omega) ?_
  conv=>(whnf)
  refine lN.i64 ahk ?_
  conv=>(whnf)
  exact lK ⟨3,a,b,c,a+b+c⟩ [] [] rfl (by show 3 -(2+1)<3-2;decide) (.inr (.inr (.inr rfl))) aam aam
 ·conv=>(whnf)
  refine lW.mk aaw ?_
  conv=>(whnf)
  have hd : -9223372036854775808<=(a+b+c).tdiv 3∧(a+b+c).tdiv 3<=9223372036854775807:=by
   rw [jl aai];omega
  refine lN.i64 hd ?_
  conv=>(whnf)
  refine lW.mk (wQ aaL) ?_
  conv=>(whnf)
  refine lN.i64 aai ?_
  conv=>(whnf)
  refine lK (i+1) [(2, .lab 5)] [] rfl aaF hlt ⟨⟨rfl,rfl, ?_⟩, ?_,aam,trivial⟩ aam
  ·rw [hn,aS];rfl
  ·rw [hn];trivial
theorem ahB (l:List Sc)(e:Int)(up:Bool)(hl:l.length<=100000):mP Tryz.prog G 182 [Bj l,iv e,bv up] 0 [] (Is (li (Am l e up))):=by
 obtain⟨A,hA⟩ : ∃A,A=Am l e up:=⟨_,rfl⟩
 rw [<-hA]
 refine lJ func182 rfl mixed aag ?_
 conv=>(whnf)
 refine mY abS 3 [9,10] (fun i:Nat=> [(9, .own 2),(10,iv i)]) (fun i=> [(2, .rows 3 1 ((Qw e up (l.take i)).out.map zx)),(1, .rows 3 1 [[.v (.int .i64 1)],[.v (.int .i64 2)],[.v (.int .i64 4)]]),(0, .rows 3 1 [[.v (.int .i64 (Qw e up (l.take i)).a)],[.v (.int .i64 (Qw e up (l.take i)).b)],[.v (.int .i64 (Qw e up (l.take i)).c)]])]) (fun i=>i<=l.length) (fun i=>l.length-i) [(2, .nil)] [] 0 aag (fun _=>rfl) rfl (aH _) aam aam ?_
 intro i hi
 have hok:=Td e up (l.take i)
 rw [aN,fC hi]at hok
 conv=>(whnf)
 apply lH<;>intro h
 rotate_left
 ·have hie:i=l.length:=aaG
  subst hie
  rw [aZ]
  conv=>(whnf)
  exact nI (li A) 0 [] [] [2] ⟨rfl,rfl,rfl⟩ rfl trivial ⟨rfl,rfl,by rw [hA];rfl⟩
 have hlt:i<l.length:=aaG
 have hg:=ah hlt
 have hn:=IL (e:=e) (up:=up) hlt
 generalize l[i]=y at *
 generalize Qw e up (l.take i)=x at *
 obtain⟨a0,b0,c0,out⟩:=x
 unfold wsN at hn
 dsimp only at hn
 have h1:=uZ a0 (sW y e 1 up) (tZ y e)
 have h2:=uZ b0 (sW y e 2 up) (tZ y e)
 have h3:=uZ c0 (sW y e 4 up) (tZ y e)
 obtain⟨a,ha⟩ : ∃a,a=Ei a0 (sW y e 1 up) (tZ y e):=⟨_,rfl⟩
 obtain⟨b,hb⟩ : ∃b,b=Ei b0 (sW y e 2 up) (tZ y e):=⟨_,rfl⟩
 obtain⟨c,hc⟩ : ∃c,c=Ei c0 (sW y e 4 up) (tZ y e):=⟨_,rfl⟩
 rw [<-ha, <-hb, <-hc]at hn
 rw [<-ha]at h1
 rw [<-hb]at h2
 rw [<-hc]at h3
 have hol:out.length=i:=hok.len
 conv=>(whnf)
 refine mY abT 3 [11] (fun x:K3=> [(11,iv x.j)]) (fun x=> [(2, .rows 3 1 (out.map zx)),(1, .rows 3 1 [[.v (.int .i64 1)],[.v (.int .i64 2)],[.v (.int .i64 4)]]),(0, .rows 3 1 [[.v (.int .i64 x.a)],[.v (.int .i64 x.b)],[.v (.int .i64 x.c)]])]) (K3I a0 b0 c0 a b c) (fun x=>3-x.j) [] [] ⟨0,a0,b0,c0,0⟩ aag (fun _=>rfl) rfl (.inl rfl) aam aam ?_
 rintro x (rfl|rfl|rfl|rfl)
 ·conv=>(whnf)
  (refine lX LU [] aag ?_;conv=>(whnf))
  repeat' (first
   | (refine And.intro ?_ ?_<;>(conv=>(whnf)))
   | (refine mJ.mk' i rfl (pF hlt) ?_;conv=>(whnf))
   | (refine mQ.lU hg ?_;conv=>(whnf))
   | (refine mJ.mk' 0 rfl (show 0<3 by decide) ?_;conv=>(whnf))
   | (refine mQ.at rfl ?_;conv=>(whnf))
   | ((refine lM [] aag (aar y e 1 up aaw) rfl ?_ ?_;(focus (trivial;done));(conv=>(whnf)))))
  (refine lM [] aag (IV a0 (sW y e 1 up) (tZ y e) (xZ _ _ _ _ aaw)) rfl ?_ ?_;(focus trivial))
  rw [<-ha]
  conv=>(whnf)
  repeat' (first
   | (refine mJ.mk' 0 rfl (show 0<3 by decide) ?_;conv=>(whnf))
   | (refine mQ.at rfl ?_;conv=>(whnf)))
  refine lN.i64 ahk ?_
  conv=>(whnf)
  exact lK ⟨1,a,b0,c0,a⟩ [] [] rfl (by show 3 -(0+1)<3-0;decide) (.inr (.inl rfl)) aam aam
 ·conv=>(whnf)
  (refine lX LU [] aag ?_;conv=>(whnf))
  repeat' (first
   | (refine And.intro ?_ ?_<;>(conv=>(whnf)))
   | (refine mJ.mk' i rfl (pF hlt) ?_;conv=>(whnf))
   | (refine mQ.lU hg ?_;conv=>(whnf))
   | (refine mJ.mk' 1 rfl (show 1<3 by decide) ?_;conv=>(whnf))
   | (refine mQ.at rfl ?_;conv=>(whnf))
   | ((refine lM [] aag (aar y e 2 up aaw) rfl ?_ ?_;(focus (trivial;done));(conv=>(whnf)))))
  (refine lM [] aag (IV b0 (sW y e 2 up) (tZ y e) (xZ _ _ _ _ aaw)) rfl ?_ ?_;(focus trivial))
  rw [<-hb]
  conv=>(whnf)
  repeat' (first
   | (refine mJ.mk' 1 rfl (show 1<3 by decide) ?_;conv=>(whnf))
   | (refine mQ.at rfl ?_;conv=>(whnf)))
  refine lN.i64 ahk ?_
  conv=>(whnf)
  exact lK ⟨2,a,b,c0,a+b⟩ [] [] rfl (by show 3 -(1+1)<3-1;decide) (.inr (.inr (.inl rfl))) aam aam
 ·conv=>(whnf)
  (refine lX LU [] aag ?_;conv=>(whnf))
  repeat' (first
   | (refine And.intro ?_ ?_<;>(conv=>(whnf)))
   | (refine mJ.mk' i rfl (pF hlt) ?_;conv=>(whnf))
   | (refine mQ.lU hg ?_;conv=>(whnf))
   | (refine mJ.mk' 2 rfl (show 2<3 by decide) ?_;conv=>(whnf))
   | (refine mQ.at rfl ?_;conv=>(whnf))
   | ((refine lM [] aag (aar y e 4 up aaw) rfl ?_ ?_;(focus (trivial;done));(conv=>(whnf)))))
  (refine lM [] aag (IV c0 (sW y e 4 up) (tZ y e) (xZ _ _ _ _ aaw)) rfl ?_ ?_;(focus trivial))
  rw [<-hc]
  conv=>(whnf)
  repeat' (first
   | (refine mJ.mk' 2 rfl (show 2<3 by decide) ?_;conv=>(whnf))
   | (refine mQ.at rfl ?_;conv=>(whnf)))
  refine lN.i64 ahk ?_
  conv=>(whnf)
  exact lK ⟨3,a,b,c,a+b+c⟩ [] [] rfl (by show 3 -(2+1)<3-2;decide) (.inr (.inr (.inr rfl))) aam aam
 ·have hd : -9223372036854775808<=(a+b+c).tdiv 3∧(a+b+c).tdiv 3<=9223372036854775807:=by
   rw [jl aai];omega
  conv=>(whnf)
  (refine lX LU [] aag ?_;conv=>(whnf))
  repeat' (first
   | (refine And.intro ?_ ?_<;>(conv=>(whnf)))
   | (refine mJ.mk' 0 rfl (show 0<3 by decide) ?_;conv=>(whnf))
   | (refine mJ.mk' 1 rfl (show 1<3 by decide) ?_;conv=>(whnf))
   | (refine mJ.mk' 2 rfl (show 2<3 by decide) ?_;conv=>(whnf))
   | (refine mQ.at rfl ?_;conv=>(whnf))
   | (refine lW.mk aaw ?_;conv=>(whnf))
   | (refine lN.i64 hd ?_;conv=>(whnf))
   | (refine lN.i64 (by(try dsimp only);omega) ?_;conv=>(whnf))
   | (refine lW.mk (wQ aaL) ?_;conv=>(whnf)))
  refine lK (i+1) [(2, .lab 4)] [] rfl aaF hlt ⟨⟨rfl,rfl, ?_⟩,aam, ?_,trivial⟩ aam
  ·rw [hn,aS];rfl
  ·rw [hn];trivial
theorem Vb {a b:Int}(hb:0<b)(ha:0<=a)(h:a<=9223372036854775807) : -9223372036854775808<=a.tdiv b∧a.tdiv b<=9223372036854775807:=by
 have:=Qj hb ha (c:=9223372036854775807) (lG h (by
  have:=gY (show (1:Int)<=b by omega) (show (0:Int)<=9223372036854775807 by decide)
  omega))
 omega
theorem ad1 (level sides:Int):mP Tryz.prog G 170 [iv level,iv sides] 0 [] (Is (iv (J6 level sides))):=by
 obtain⟨R,hR⟩ : ∃R,R=J6 level sides:=⟨_,rfl⟩
 rw [<-hR]
 unfold J6 at hR
 refine lJ func170 rfl mixed aag ?_
 conv=>(whnf)
 apply lH<;>intro h
 ·have hc:level<1:=aaE
  rw [if_pos aai]at hR
  conv=>(whnf)
  exact lQ [] (nN hR.symm)
 have c1 : ¬level<1:=aaE
 conv=>(whnf)
 apply lH<;>intro h
 ·have hc:999<level:=aaE
  rw [if_pos aai]at hR
  conv=>(whnf)
  exact lQ [] (nN hR.symm)
 have c2 : ¬999<level:=aaE
 conv=>(whnf)
 apply lH<;>intro h
 ·have hc:sides<1:=aaE
  rw [if_pos aai]at hR
  conv=>(whnf)
  exact lQ [] (nN hR.symm)
 have c3 : ¬sides<1:=aaE
 conv=>(whnf)
 apply lH<;>intro h
 ·have hc:1000<sides:=aaE
  rw [if_pos aai]at hR
  conv=>(whnf)
  exact lQ [] (nN hR.symm)
 have c4 : ¬1000<sides:=aaE
 rw [if_neg aai]at hR
 conv=>(whnf)
 repeat' (first
  | (refine lW.mk aai ?_;conv=>(whnf))
  | (refine lN.i64 aai ?_;conv=>(whnf))
  | (refine lN.i64 (Vb aai aai aai) ?_;conv=>(whnf)))
 exact lQ [] (nN hR.symm)
theorem aat (level sides:Int):mP Tryz.prog G 183 [iv level,iv sides] 0 [] (Is (iv (J6 level sides))):=by
 obtain⟨R,hR⟩ : ∃R,R=J6 level sides:=⟨_,rfl⟩
 rw [<-hR]
 unfold J6 at hR
 refine lJ func183 rfl mixed aag ?_
 conv=>(whnf)
 apply lH<;>intro h
 ·have hc:level<1:=aaE
  rw [if_pos aai]at hR
  conv=>(whnf)
  exact lQ [] (nN hR.symm)
 have c1 : ¬level<1:=aaE
 conv=>(whnf)
 apply lH<;>intro h
 ·have hc:999<level:=aaE
  rw [if_pos aai]at hR
  conv=>(whnf)
  exact lQ [] (nN hR.symm)
 have c2 : ¬999<level:=aaE
 conv=>(whnf)
 apply lH<;>intro h
 ·have hc:sides<1:=aaE
  rw [if_pos aai]at hR
  conv=>(whnf)
  exact lQ [] (nN hR.symm)
 have c3 : ¬sides<1:=aaE
 conv=>(whnf)
 apply lH<;>intro h
 ·have hc:1000<sides:=aaE
  rw [if_pos aai]at hR
  conv=>(whnf)
  exact lQ [] (nN hR.symm)
 have c4 : ¬1000<sides:=aaE
 rw [if_neg aai]at hR
 conv=>(whnf)
 repeat' (first
  | (refine lW.mk aai ?_;conv=>(whnf))
  | (refine lN.i64 aai ?_;conv=>(whnf))
  | (refine lN.i64 (Vb aai aai aai) ?_;conv=>(whnf)))
 exact lQ [] (nN hR.symm)
theorem ad2 (l:Li)(t:Int)(hl:l.length<=1000000):mP Tryz.prog G 249 [li l,iv t] 0 [] (Is (iv ((Dq l t:Nat):Int))):=by
 obtain⟨A,hA⟩ : ∃A,A=Dq l t:=⟨_,rfl⟩
 rw [<-hA]
 refine lJ func249 rfl mixed aag ?_
 conv=>(whnf)
 refine mY ab8 0 [9] (fun i:Nat=> [(9,iv i)]) (fun _=> []) (fun i=>i<=l.length∧Jo (l.drop i) t i=A) (fun i=>l.length-i) [] [] 0 aag (fun _=>rfl) rfl ⟨aH _,by rw [hA];rfl⟩ aam aam ?_
 rintro i ⟨hi,hR⟩
 conv=>(whnf)
 apply lH<;>intro h
 rotate_left
 ·have hie:i=l.length:=aaG
  subst hie
  rw [iO]at hR
  simp only [Jo]at hR
  conv=>(whnf)
  exact lQ [] (congrArg (fun n:Nat=>Value.int .i64 (n:Int)) hR)
 have hlt:i<l.length:=aaG
 have hg:=ah hlt
 rw [J7 hlt]at hR
 generalize l[i]=y at *
 conv=>(whnf)
 refine mJ.mk' i rfl (pF hlt) ?_
 conv=>(whnf)
 refine mQ.lU hg ?_
 conv=>(whnf)
 refine lH (fun h1=> ?_) (fun h1=> ?_)
 ·rw [if_pos aaJ]at hR
  conv=>(whnf)
  refine lN.i64 aai ?_
  conv=>(whnf)
  exact lQ [] (nN aai)
 ·rw [if_neg aaJ]at hR
  conv=>(whnf)
  refine lN.i64 aai ?_
  conv=>(whnf)
  exact lK (i+1) [] [] rfl aaF ⟨hlt,hR⟩ aam aam
theorem aau (l:Li)(t:Int)(hl:l.length<=1000000):mP Tryz.prog G 181 [li l,iv t] 0 [] (Is (iv ((Dq l t:Nat):Int))):=by
 obtain⟨A,hA⟩ : ∃A,A=Dq l t:=⟨_,rfl⟩
 rw [<-hA]
 refine lJ func181 rfl mixed aag ?_
 conv=>(whnf)
 refine mY abR 0 [5] (fun i:Nat=> [(5,iv i)]) (fun _=> []) (fun i=>i<=l.length∧Jo (l.drop i) t i=A) (fun i=>l.length-i) [] [] 0 aag (fun _=>rfl) rfl ⟨aH _,by rw [hA];rfl⟩ aam aam ?_
 rintro i ⟨hi,hR⟩
 conv=>(whnf)
 apply lH<;>intro h
 rotate_left
 ·have hie:i=l.length:=aaG
  subst hie
  rw [iO]at hR
  simp only [Jo]at hR
  conv=>(whnf)
  exact lQ [] (congrArg (fun n:Nat=>Value.int .i64 (n:Int)) hR)
 have hlt:i<l.length:=aaG
 have hg:=ah hlt
 rw [J7 hlt]at hR
 generalize l[i]=y at *
 conv=>(whnf)
 refine mJ.mk' i rfl (pF hlt) ?_
 conv=>(whnf)
 refine mQ.lU hg ?_
 conv=>(whnf)
 refine lH (fun h1=> ?_) (fun h1=> ?_)
 ·rw [if_pos aaJ]at hR
  conv=>(whnf)
  refine lN.i64 aai ?_
  conv=>(whnf)
  exact lQ [] (nN aai)
 ·rw [if_neg aaJ]at hR
  conv=>(whnf)
  refine lN.i64 aai ?_
  conv=>(whnf)
  exact lK (i+1) [] [] rfl aaF ⟨hlt,hR⟩ aam aam
end
end
end Go.Proofs.YtnandbihiceihaaGreatDoor.Cl
