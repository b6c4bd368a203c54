/- Joined parts of the proof. The soundness of stores, appends, allocations and calls; of each operation -/
import Derived.Test.YtnandbihiceihaaGreatDoorNk6
import Derived.Lib.AppendStr
import Derived.Laws.CopyRow
import Derived.Laws.IdiomCopy
import Derived.ArgAppend
import Derived.Laws.Slices
set_option linter.unusedVariables false
set_option linter.unusedSimpArgs false
set_option maxRecDepth 100000
set_option maxHeartbeats 16000000
namespace Go.Proofs.YtnandbihiceihaaGreatDoor.Ax
open RowKit Go.Lib Vc
theorem xq (vs:List Value) : ∀(l:List Value) (o:Nat),(qw l o vs).length=l.length:=by
 induction vs with
 | nil=>intro l o;rfl
 | cons v r ih=>intro l o;simp only [qw];rw [ih,bC]
theorem uf (vs:List Value) : ∀(l:List Value) (o m:Nat),o+vs.length<=l.length->(qw l o vs)[m]? = if o<=m∧m<o+vs.length then vs[m-o]? else l[m]? :=by
 induction vs with
 | nil=>intro l o m _;simp only [qw,dw,bU];rw [if_neg aad]
 | cons v r ih=>
  intro l o m h
  simp only [aZ]at h
  simp only [qw]
  rw [ih _ _ _ (by rw [bC];omega),aZ]
  by_cases h1:o+1<=m∧m<o+1+r.length
  ·rw [if_pos h1,if_pos aad,show m-o=(m -(o+1))+1 by omega,dL]
  ·rw [if_neg h1]
   by_cases h2:m=o
   ·subst h2
    rw [if_pos aad,gY,bJ,bV aad]
   ·rw [if_neg aad,fV aad]
theorem NH {α:Type}(vs:List α) : ∀(l:List α) (o:Nat),(wV l o vs).length=l.length:=by
 induction vs with
 | nil=>intro l o;rw [wX]
 | cons v r ih=>intro l o;rw [uI,ih,bC]
theorem NJ {α:Type}(vs:List α) : ∀(l:List α) (o m:Nat),o+vs.length<=l.length->(wV l o vs)[m]? = if o<=m∧m<o+vs.length then vs[m-o]? else l[m]? :=by
 induction vs with
 | nil=>intro l o m _;simp only [wX,dw,bU];rw [if_neg aad]
 | cons v r ih=>
  intro l o m h
  simp only [aZ]at h
  rw [uI]
  rw [ih _ _ _ (by rw [bC];omega),aZ]
  by_cases h1:o+1<=m∧m<o+1+r.length
  ·rw [if_pos h1,if_pos aad,show m-o=(m -(o+1))+1 by omega,dL]
  ·rw [if_neg h1]
   by_cases h2:m=o
   ·subst h2
    rw [if_pos aad,gY,bJ,bV aad]
   ·rw [if_neg aad,fV aad]
theorem Aj {vs l:List Value}{o:Nat}{v:Value}(h:v∈qw l o vs):v∈l∨v∈vs:=by
 induction vs generalizing l o with
 | nil=>exact .inl h
 | cons x r ih=>
  simp only [qw]at h
  rcases ih h with h|h
  ·rcases eY h with h|rfl
   ·exact .inl h
   ·exact .inr aaA
  ·exact .inr (by simp [h])
theorem yw {P:Program}{w:World}{t T:TypeId}{b o:Nat}{l:List Value}{v:Value}{K:World->Prop}(hb:oH w b l T)(hs:szB P t=some v.cells.toList.length)(h1 : ∀x∈v.cells.toList,x.oneCell'=true)
  (hl:o+v.cells.toList.length<=l.length) (k : ∀w',Only b w w'->oH w' b (qw l o v.cells.toList) T->K w'):rD P (storeVar t ⟨b,o,none⟩ v) w K:=by
 obtain⟨w',hr,ho,hbw⟩:=tC (P:=P) v.cells.toList 0 o l w hb aad h1
 refine⟨(),w', ?_,k w' ho hbw⟩
 unfold storeVar
 simp only [Sem.run_bind,mM hs,Result.andThen_ok]
 simp [hr]
section
variable {P:Program}{G:Glob}{jL:World}{jO jQ:Nat->Prop}{n:Nat}{σ:Nat->Loc}{F:Nat->Prop}{H:jI}{w:World}
theorem mY.setRow {sz:Nat}{l:List (List FV)}{xs vs:List Value}{i o:Nat}{row x:List FV}(r:mY F w sz l xs)(hi:l[i]? = some row)(hx:rE F w x vs)(h1 : ∀v∈vs,v.oneCell'=true)(ho:o+x.length<=row.length) :
  mY F w sz (l.set i (wV row o x)) (qw xs (i*sz+o) vs):=by
 have hil:=(aF.1 hi).1
 have hrl:=r.1 row (aO hi)
 have hvl:=hx.1
 have hi1:i*sz+sz<=l.length*sz:=by
  have:(i+1)*sz<=l.length*sz:=aP _ hil
  rw [aX,cu]at this;exact this
 refine⟨fun y hy=> ?_,by rw [xq,bC];exact r.2.1,fun v hv=> ?_,fun k j y a v hk hj hv=> ?_⟩
 ·rcases eY hy with hy|rfl
  ·exact r.1 y hy
  ·rw [NH];exact hrl
 ·rcases Aj hv with hv|hv
  ·exact r.2.2.1 v hv
  ·exact h1 v hv
 ·rw [uf _ _ _ _ (by rw [r.2.1];omega)]at hv
  rw [iE]at hk
  by_cases e:i=k
  ·subst e
   rw [if_pos rfl,if_pos hil]at hk
   injection hk with hk
   rw [<-hk,NJ _ _ _ _ ho]at hj
   by_cases c:o<=j∧j<o+x.length
   ·rw [if_pos c]at hj
    rw [if_pos aad,show i*sz+j -(i*sz+o)=j-o by omega]at hv
    exact hx.2 _ a v hj hv
   ·rw [if_neg c]at hj
    rw [if_neg aad]at hv
    exact r.2.2.2 i j row a v hi hj hv
  ·rw [if_neg e]at hk
   have hjl:=(aF.1 hj).1
   rw [r.1 y (aO hk)]at hjl
   have hne : ¬(i*sz+o<=k*sz+j∧k*sz+j<i*sz+o+vs.length):=by
    intro hh
    rcases Nat.lt_or_gt_of_ne e with h|h
    ·have:(i+1)*sz<=k*sz:=aP _ h
     rw [aX,cu]at this;omega
    ·have:(k+1)*sz<=i*sz:=aP _ h
     rw [aX,cu]at this;omega
   rw [if_neg hne]at hv
   exact r.2.2.2 k j y a v hk hj hv
theorem Df (l vs:List Value)(k o:Nat)(h:o+vs.length<=k)(hk:k<=l.length):(qw l o vs).take k=qw (l.take k) o vs:=by
 apply List.ext_getElem?
 intro m
 rw [aW,uf _ _ _ _ aad,uf _ _ _ _ aby,aW]
 by_cases c:m<k
 ·rw [if_pos c,if_pos c]
 ·rw [if_neg c,if_neg aad,if_neg c]
theorem D7 {t:TypeId}{a x:AV}{va vx:Value}{K:jI->Prop}(h:IG P H t a x K)(st:St G jL jO jQ n σ F H w)(ra:jX n σ F w a va)(rx:jX n σ F w x vx) :
  ∃p,va = .pointer (some p)∧rD P (storeVar t p vx) w fun w'=>D6 G jL jO jQ n σ F w (fun _ n' H'=>n'=n∧K H') undef w':=by
 unfold IG at h
 split at h
 ·rename_i k hs
  cases hb:(Nat.beq (cellsOf x).length k&&all1 (cellsOf x))with
  | false=>rw [hb]at h;exact h.elim
  | true=>
   rw [hb,cond_true]at h
   simp only [ah]at hb
   have e:=aj hb.1
   have rc:=vZ rx hb.2
   have h1:=Ai hb.2 rc
   have hvl:=rc.len
   have hs':szB P t=some vx.cells.toList.length:=by rw [hvl,e];exact hs
   split at h
   ·rename_i l o
    cases ra with
    | ptr _ _ b hl hbk=>
     refine⟨_,rfl, ?_⟩
     split at h
     ·rename_i T cs hk
      cases hc:Nat.ble (o+k) cs.length with
      | false=>rw [hc]at h;exact h.elim
      | true=>
       rw [hc,cond_true,lQ]at h
       have hc:=ak hc
       obtain⟨g,vs,g1,g2,g3,g4⟩:=st.blk _ _ hk
       rw [hbk]at g1
       injection g1 with g1
       subst g1
       refine yw g2 hs' h1 (by rw [g3.len];omega) fun w' hO hB=> ?_
       obtain⟨s2,x2⟩:=st.write hk rfl hbk hO (.var T (wV cs o (cellsOf x))) fun _ hE=>⟨b,_,hbk,hB,(FH rc g3).mono hE,fun v hv=>(Aj hv).elim (g4 v) (h1 v)⟩
       exact⟨.v undef,_,_,_,_,⟨rfl,h⟩,s2,x2, .v _⟩
     ·cases h
   ·rename_i l i o
    cases ra with
    | ep _ _ _ b hl hbk=>
     refine⟨_,rfl, ?_⟩
     split at h
     ·rename_i T sz m0 h0 hk
      obtain⟨q1,q2,xs,hO,hT,hS,hh⟩:=st.blk _ _ hk
      have hu : ∃m e',x = .own e'∧m.length=m0.length∧KW F w sz m xs∧(∀a b g,Fz w (σ l) sz m a b g->Fz w (σ l) sz m0 a b g)∧i<m.length∧o<sz∧(∃row,m[i]? = some row∧row[o]? = some (.f .top))∧K (setH H l (.tree T sz m (some (i,o,e')))):=by
       split at h
       ·rename_i i' o' e0 e'
        obtain⟨⟨rfl,rfl⟩,h⟩:=h
        obtain⟨a1,a2,a3,a4,_⟩:=hh _ _ _ rfl
        exact⟨m0,e',rfl,rfl,hT,fun _ _ _ h=>h,a2,a3,a4,h⟩
       ·rename_i e'
        obtain⟨row,c,n1,n2,h⟩:=h
        have hil:=(aF.1 n1).1
        have hjl:=(aF.1 n2).1
        have hrl:=hT.1 row (aO n1)
        have get : ∀(i2 j2:Nat) (rC:List TV) (y:TV),(m0.set i (row.set o (.f .top)))[i2]? = some rC->rC[j2]? = some y->y = .f .top∨∃r3,m0[i2]? = some r3∧r3[j2]? = some y:=by
         intro i2 j2 rC y k1 k2
         rw [iE]at k1
         split at k1
         ·rename_i ei
          subst ei
          try rw [if_pos hil]at k1
          injection k1 with k1
          subst k1
          rw [iE]at k2
          split at k2
          ·try rw [if_pos hjl]at k2
           injection k2 with k2
           exact .inl k2.symm
          ·exact .inr ⟨row,n1,k2⟩
         ·exact .inr ⟨rC,k1,k2⟩
        refine⟨m0.set i (row.set o (.f .top)),e',rfl,bC,⟨fun r hr=> ?_,by rw [bC];exact hT.2.1,hT.2.2.1,fun i2 j2 rC a v k1 k2 k3=> ?_⟩, ?_,by rw [bC];exact hil,by omega,⟨row.set o (.f .top),by rw [bV hil],bV hjl⟩,h⟩
        ·rcases eY hr with hr|rfl
         ·exact hT.1 r hr
         ·rw [bC];exact hrl
        ·rcases get i2 j2 rC a k1 k2 with e|⟨r3,e1,e2⟩
         ·subst e;exact lN.top v
         ·exact hT.2.2.2 i2 j2 r3 a v e1 e2 k3
        ·rintro i2 j2 g2 ⟨b2,rC,t2,sz2,r2,m2,c2,k1,k2,k3,k4,k5⟩
         rcases get i2 j2 rC _ k2 k3 with e|⟨r3,e1,e2⟩
         ·cases e
         ·exact⟨b2,r3,t2,sz2,r2,m2,c2,k1,e1,e2,k4,k5⟩
       ·cases h
      obtain⟨m,e',rfl,hlen,hT,hN0,a2,a3,⟨row,a4,a5⟩,h⟩:=hu
      have hS:Sep w (σ l) sz m:=⟨fun _ _ _ _ g n1 n2=>hS.1 _ _ _ _ g (hN0 _ _ _ n1) (hN0 _ _ _ n2),fun _ _ g n1=>hS.2 _ _ g (hN0 _ _ _ n1)⟩
      rw [<-hlen]at q2 hO
      obtain⟨g,cur,hoa,hg0,hB,hle,hcm,hcl,htk⟩:=hO.blk aad
      have hgb:=qN hoa
      rw [hbk]at hgb
      injection hgb with hgb
      subst hgb
      have hi1:i*sz+sz<=m.length*sz:=by
       have:(i+1)*sz<=m.length*sz:=aP _ a2
       rw [aX,cu]at this;exact this
      have hcc:m.length*sz<=(σ l).c*sz:=aP _ hle
      have ZF:vx.cells.toList = [vx]∧e'<n:=by
       cases rx with
       | own _ hl=>exact⟨rfl,hl⟩
       | oP _ oa hl _ _=>exact⟨rfl,hl⟩
      rw [q1]
      refine yw hB hs' h1 (by rw [ZF.1,hcl];simp;omega) fun w' ZG hB'=> ?_
      rw [ZF.1]at hB'
      have hx1:vx.oneCell'=true:=h1 vx (by rw [ZF.1];simp)
      have hset : ∀j,(qw xs (i*sz+o) [vx])[j]? = if j=i*sz+o then some vx else xs[j]? :=fun j=>by
       have hxl:=hT.2.1
       rw [uf _ _ _ _ aaT]
       simp only [aZ,dw,aJ]
       by_cases e:j=i*sz+o
       ·rw [if_pos aad,if_pos e,e];simp
       ·rw [if_neg aad,if_neg e]
      have hcell : ∀j,j≠i*sz+o->w'.cell? ⟨b,j,none⟩=w.cell? ⟨b,j,none⟩:=fun j hj=>by
       rw [hB'.cell,hB.cell,uf _ _ _ _ aaT]
       simp only [aZ,dw,aJ]
       rw [if_neg aad]
      have hN : ∀i2 j2 g2,Fz w' (σ l) sz m i2 j2 g2->Fz w (σ l) sz m i2 j2 g2:=by
       rintro i2 j2 g2 ⟨b2,rC,t2,sz2,r2,m2,c2,n1,n2,n3,n4,n5⟩
       rw [hbk]at n1
       injection n1 with n1
       subst n1
       refine⟨b,rC,t2,sz2,r2,m2,c2,hbk,n2,n3, ?_,n5⟩
       have hj2:j2<sz:=by rw [<-hT.1 rC (aO n2)];exact(aF.1 n3).1
       rw [<-hcell _ fun e=> ?_]
       ·exact n4
       ·have ei:i2=i:=by
         rcases jf i2 i with hlt|he|hgt
         ·have:(i2+1)*sz<=i*sz:=aP _ hlt
          rw [aX,cu]at this;omega
         ·exact he
         ·have:(i+1)*sz<=i2*sz:=aP _ hgt
          rw [aX,cu]at this;omega
        subst ei
        have ej:j2=o:=aad
        subst ej
        rw [a4]at n2
        injection n2 with n2
        subst n2
        rw [a5]at n3
        cases n3
      have hnew:qW n σ F w (σ l) (.tree T sz m0 h0)->Ext n σ F w n σ F w'->qW n σ F w' (σ l) (.tree T sz m (some (i,o,e'))):=by
       intro _ hE
       refine⟨q1,q2,qw xs (i*sz+o) [vx],by
        rw [hoa]
        exact Own.wQ hB' hg0 hle hcm (by rw [xq];exact hcl) (by
         have:=Df cur [vx] (m.length*sz) (i*sz+o) aaT (by rw [hcl];exact hcc)
         rw [htk]at this
         exact this), ?_,⟨fun i j i2 j2 g2 n1 n2=>hS.1 _ _ _ _ _ (hN _ _ _ n1) (hN _ _ _ n2),fun i j g2 n1=>hS.2 _ _ _ (hN _ _ _ n1)⟩,fun i2 j2 e2 he2=> ?_⟩
       ·refine⟨hT.1,by rw [xq];exact hT.2.1,fun v hv=>(Aj hv).elim (hT.2.2.1 v) (fun hv=>by simp at hv;rw [hv];exact hx1),fun i2 j2 rC a2' v2 n1 n2 n3=> ?_⟩
        rw [hset]at n3
        have hj2:j2<sz:=by rw [<-hT.1 rC (aO n1)];exact(aF.1 n2).1
        split at n3
        ·rename_i e
         have ei:i2=i:=by
          rcases jf i2 i with hlt|he|hgt
          ·have:(i2+1)*sz<=i*sz:=aP _ hlt
           rw [aX,cu]at this;omega
          ·exact he
          ·have:(i+1)*sz<=i2*sz:=aP _ hgt
           rw [aX,cu]at this;omega
         subst ei
         have ej:j2=o:=aad
         subst ej
         rw [a4]at n1
         injection n1 with n1
         subst n1
         rw [a5]at n2
         injection n2 with n2
         subst n2
         exact lN.top v2
        ·have h3:=hT.2.2.2 i2 j2 rC a2' v2 n1 n2 n3
         cases a2' with
         | f x=>exact lN.mono hE.f h3
         | n t3 sz3 r3=>
          obtain⟨oa3,c3,rfl,h3⟩:=h3
          refine⟨oa3,c3,rfl,h3.imp id fun⟨ys,hc,hO3,hR3⟩=>⟨ys,hc,wU hO3 hE.sz fun g3 hg3=>ZG.block g3 fun e=> ?_,hR3.mono hE.f⟩⟩
          subst e
          obtain⟨b',hLb,hcl'⟩:=rY hO n1 (hT.1 rC (aO n1)) n2 hT.2.1 n3
          refine hS.2 i2 j2 g3 ⟨b',rC,t3,sz3,r3,r3.length,c3,hLb,n1,n2, ?_,hc⟩ hbk
          rw [hcl']
          rcases hO3.2 with ⟨hs3,_⟩|⟨g',cap,abD,hs3,_⟩
          ·injection hs3 with e1 _ _;rw [e1]at hg3;cases hg3
          ·injection hs3 with e1 _ _;rw [e1]at hg3 ⊢;injection hg3 with hg3;have hg3:g'=g3:=hg3;rw [hg3]
       ·injection he2 with he2
        injection he2 with Yg VH
        injection VH with VH Yh
        subst Yg;subst VH;subst Yh
        exact⟨ZF.2,a2,a3,⟨row,a4,a5⟩,vx,by rw [hset,if_pos rfl],rx.mono hE⟩
      obtain⟨s2,x2⟩:=st.write hk rfl hbk ZG (.tree T sz m (some (i,o,e'))) hnew fun g2 hg2=>hg2.imp id fun⟨i2,j2,hg2⟩=>⟨i2,j2,hN0 _ _ _ (hN _ _ _ hg2)⟩
      exact⟨.v undef,_,_,_,_,⟨rfl,h⟩,s2,x2, .v _⟩
     ·obtain⟨x',H1,F1,h,s1,x1,rf⟩:=yu h st rc
      split at h
      ·rename_i T sz m hk
       obtain⟨row,hrow,h⟩:=h.ex
       cases hc:Nat.ble (o+k) row.length with
       | false=>rw [hc]at h;exact h.elim
       | true=>
        rw [hc,cond_true,lQ]at h
        have hc:=ak hc
        obtain⟨q1,q2,xs,hO,hR⟩:=s1.blk _ _ hk
        have hil:=(aF.1 hrow).1
        obtain⟨g,cur,hoa,hg0,hB,hle,hcm,hcl,htk⟩:=hO.blk aad
        have hgb:=qN hoa
        rw [hbk]at hgb
        injection hgb with hgb
        subst hgb
        have hrl:=hR.1 row (aO hrow)
        have hxl:x'.length=k:=by rw [<-rf.1,hvl,e]
        have hi1:i*sz+sz<=m.length*sz:=by
         have:(i+1)*sz<=m.length*sz:=aP _ hil
         rw [aX,cu]at this;exact this
        have hcc:m.length*sz<=(σ l).c*sz:=aP _ hle
        have hvk:vx.cells.toList.length=k:=by rw [hvl,e]
        rw [q1]
        refine yw hB hs' h1 (by rw [hvk,hcl];omega) fun w' ZG hB'=> ?_
        obtain⟨s2,x2⟩:=s1.write hk rfl hbk ZG (.rows T sz (m.set i (wV row o x'))) fun _ hE=>⟨q1,by rw [bC];exact q2,_,by
          rw [hoa,bC]
          exact Own.wQ hB' hg0 hle hcm (by rw [xq];exact hcl) (Df _ _ _ _ (by rw [hvk];omega) (by rw [hcl];exact hcc)),by
          rw [htk]
          exact(hR.setRow hrow rf h1 aad).mono hE.f⟩
        exact⟨.v undef,_,_,_,_,⟨rfl,h⟩,s2,x1.trans x2, .v _⟩
      ·cases h
     ·cases h
   ·cases h
 ·cases h
theorem Ld {t sz c:Nat}{oa:Option Addr}{m:Nat}{xs:List Value}(hO:Own w 0 t sz oa m c xs):m<=c∧(oa=none->c=0):=by
 rcases hO.2 with ⟨hv,h0⟩|⟨g,cap,cur,hv,_,_,hle,_⟩
 ·injection hv with _ _ ec;exact⟨by omega,fun _=>ec⟩
 ·injection hv with eo _ ec;exact⟨by omega,fun en=>by rw [en]at eo;cases eo⟩
theorem uN {sz:Nat}{l:List (List FV)}{v:Value}(h:lN F w (.lst sz l) v)(hF : ∀b,F b->b<w.heap.size) :
  ∃oa m c news,v = .slice oa m c∧m=l.length∧m<=c∧(oa=none->c=0)∧Row w oa news∧mY F w sz l news:=by
 cases h with
 | lst _ _ oa m c b o hn hc hnil ho hsz hex hrep=>
  subst hn
  obtain⟨vs,hl,hvs⟩:=Ag (u:=w) (b:=b) (base:=o) (l.length*sz) fun k hk=>by
   have hz:0<sz:=by
    rcases bH sz with e|e
    ·rw [e,Nat.mul_zero]at hk;exact absurd hk (fO k)
    ·exact e
   have h1:k/sz<l.length:=(Nat.div_lt_iff_lt_mul hz).2 hk
   obtain⟨v,hv,h1⟩:=hex (k/sz) (k%sz) h1 (Nat.mod_lt _ hz)
   rw [fQ,Nat.div_add_mod]at hv
   exact⟨v,hv,h1⟩
  refine⟨oa,l.length,c,vs,rfl,rfl,hc,hnil, ?_,hsz,hl,fun v hv=> ?_,fun i j row a v hi hj hv=>hrep i j row a v hi hj (hvs _ v hv).1⟩
  ·rcases bH l.length with e|e
   ·rw [e,eG]at hl;exact .inl (aH hl)
   ·obtain⟨e1,e2⟩:=ho e
    exact .inr ⟨b,o,e1,hF b e2,fun j v hj=>(hvs j v hj).1⟩
  ·obtain⟨j,hj⟩:=bI.1 hv
   exact(hvs j v hj).2
theorem mY.part {sz i j:Nat}{l:List (List FV)}{xs:List Value}(r:mY F w sz l xs)(hj:i+j<=l.length):mY F w sz ((l.drop i).take j) ((xs.drop (i*sz)).take (j*sz)):=by
 have hx:=r.2.1
 have hle:(i+j)*sz<=l.length*sz:=aP _ hj
 rw [aX]at hle
 refine⟨fun y hy=>r.1 y (fZ (dM hy)), ?_,fun v hv=>r.2.2.1 v (fZ (dM hv)),fun k m row a v hk hm hv=> ?_⟩
 ·rw [aU,bD,aU,bD,hx]
  have e1:min j (l.length-i)=j:=aad
  rw [e1]
  omega
 ·rw [aW]at hk hv
  split at hk
  ·split at hv
   ·rw [bT]at hk hv
    refine r.2.2.2 (i+k) m row a v hk hm ?_
    rw [aX,dS];exact hv
   ·cases hv
  ·cases hk
theorem JD {s:AV}{v:Value}{sz:Nat}{l:List (List FV)}(h:rowsOf H s=some (sz,l))(st:St G jL jO jQ n σ F H w)(r:jX n σ F w s v) :
  ∃oa m c news,v = .slice oa m c∧m=l.length∧m<=c∧(oa=none->c=0)∧Row w oa news∧mY F w sz l news:=by
 have hF : ∀b,F b->b<w.heap.size:=fun b hb=>(st.lI b hb).1
 unfold rowsOf at h
 split at h
 ·simp only [aA,dF]at h
  obtain⟨rfl,rfl⟩:=h
  cases r with|lst hf=>exact uN hf hF
 ·split at h
  ·rename_i l' T sz' m hk
   simp only [aA,dF]at h
   obtain⟨rfl,rfl⟩:=h
   obtain⟨q1,q2,xs,hO,hR⟩:=st.blk _ _ hk
   cases r with
   | oP _ oa hl hn hc=>
    rw [hn]at q2
    have:m = []:=aH q2.symm
    subst this
    exact⟨_,_,_,[],rfl,rfl,ay _,fun _=>rfl,Row.nil _ _,mY.nil _⟩
   | own _ hl=>
    have:=Ld hO
    exact⟨_,_,_,xs,rfl,q2,by rw [q2];exact this.1,this.2,hO.row,hR⟩
  ·rename_i l' sz' m hk
   simp only [aA,dF]at h
   obtain⟨rfl,rfl⟩:=h
   obtain⟨q1,q2,hf,_⟩:=st.blk _ _ hk
   cases r with
   | oP _ oa hl hn hc=>
    rw [hn]at q2
    have:m = []:=aH q2.symm
    subst this
    exact⟨_,_,_,[],rfl,rfl,ay _,fun _=>rfl,Row.nil _ _,mY.nil _⟩
   | own _ hl=>exact uN hf hF
  ·cases h
 ·split at h
  ·rename_i l' o k _ T sz' m hk
   simp only [aA,dF]at h
   obtain⟨rfl,rfl⟩:=h
   obtain⟨q1,q2,xs,hO,hR⟩:=st.blk _ _ hk
   cases r with
   | sub _ _ _ oa c hl hkk hc hnil ho=>
    rw [q2]at hkk
    refine⟨_,_,_,_,rfl,by rw [aU,bD];omega,hc,hnil, ?_,hR.part hkk⟩
    rcases bH k with e|e
    ·subst e;exact .inl aaA
    ·obtain⟨b,e1,e2⟩:=ho e
     rcases hO.row with hx|⟨b',o',e3,hlt,hcell⟩
     ·exact .inl (by rw [hx];simp)
     ·have hb:=qN (L:=σ l') (g:=b) (by unfold Loc.oa;rw [e1];rfl)
      have e4:(σ l').oa=some ⟨b,0,none⟩:=by unfold Loc.oa;rw [e1];rfl
      rw [e4]at e3
      injection e3 with e3;injection e3 with e3 e5
      subst e3
      refine .inr ⟨b,o*sz',by rw [e2,q1],hlt,fun j v hj=> ?_⟩
      rw [aW]at hj
      split at hj
      ·rw [bT]at hj
       have:=hcell _ v hj
       rw [<-e5,aJ]at this
       exact this
      ·cases hj
  ·rename_i l' o k _ sz' m hk
   simp only [aA,dF]at h
   obtain⟨rfl,rfl⟩:=h
   obtain⟨q1,q2,hf,h0⟩:=st.blk _ _ hk
   cases r with
   | sub _ _ _ oa c hl hkk hc hnil ho=>
    obtain⟨lV,m',c',xs,ev,em,_,_,hrow,hR⟩:=uN hf hF
    injection ev with e1 e2 e3
    rw [q2]at hkk
    refine⟨_,_,_,_,rfl,by rw [aU,bD];omega,hc,hnil, ?_,hR.part hkk⟩
    rcases bH k with e|e
    ·subst e;exact .inl aaA
    ·obtain⟨b,f1,f2⟩:=ho e
     rcases hrow with hx|⟨b',o',f3,hlt,hcell⟩
     ·exact .inl (by rw [hx];simp)
     ·have e4:(σ l').oa=some ⟨b,0,none⟩:=by unfold Loc.oa;rw [f1];rfl
      rw [<-e1,e4]at f3
      injection f3 with f3;injection f3 with f3 f5
      subst f3
      refine .inr ⟨b,o*sz',by rw [f2,q1],hlt,fun j v hj=> ?_⟩
      rw [aW]at hj
      split at hj
      ·rw [bT]at hj
       have:=hcell _ v hj
       rw [<-f5,aJ]at this
       exact this
      ·cases hj
  ·cases h
 ·cases h
theorem mY.append {sz:Nat}{l m:List (List FV)}{xs ys:List Value}(r:mY F w sz l xs)(k:mY F w sz m ys):mY F w sz (l++m) (xs++ys):=by
 refine⟨fun y hy=>(dU.1 hy).elim (r.1 y) (k.1 y),by rw [aG,aG,r.2.1,k.2.1,aX],fun v hv=>(dU.1 hv).elim (r.2.2.1 v) (k.2.2.1 v),fun i j row a v hi hj hv=> ?_⟩
 have hx:=r.2.1
 by_cases h:i<l.length
 ·rw [cO h]at hi
  have hjl:=(aF.1 hj).1
  rw [r.1 row (aO hi)]at hjl
  have h1:(i+1)*sz<=l.length*sz:=aP _ h
  rw [aX,cu]at h1
  rw [cO aad]at hv
  exact r.2.2.2 i j row a v hi hj hv
 ·rw [bY aad]at hi
  have h1:l.length*sz<=i*sz:=aP _ aad
  rw [bY aad]at hv
  refine k.2.2.2 (i-l.length) j row a v hi hj ?_
  rw [Nat.sub_mul,show i*sz-l.length*sz+j=i*sz+j-xs.length by omega]
  exact hv
theorem rF {t ty E:TypeId}{sz nV k c m c2:Nat}{oa uF:Option Addr}{xs news zs:List Value}
  (ht:P.underlying t=some (.slice E)) (hs:szB P E=some sz) (hby:l7 P E=some nV) (hz:pz P E=some zs) (hzl:zs.length=sz) (hsz:Nat.ble 1 sz=true)
  (hown:Own w 0 E sz oa k c xs) (hr:Row w uF news) (hl:news.length=m*sz) (h1 : ∀u∈news,u.oneCell'=true) (hnil:uF=none->c2=0)
  (hbytes:(k+m)*nV<=140737488355328) (hlen:k+m<=maxLen) :
  ∃lV c' w',(Builtin.append_ #[t,t] ty #[.slice oa k c, .slice uF m c2]).run P w = .ok (.slice lV (k+m) c') w'∧Own w' 0 E sz lV (k+m) c' (xs++news)∧w.grownBy w' (ownB oa)∧(∀g,ownB lV=some g->ownB oa=some g∨w.heap.size<=g):=by
 obtain⟨i,hi,rfl⟩:=lY hs
 have hb':i.bytes=nV:=by simpa [l7,hi]using hby
 obtain⟨z,hz1,hz2⟩ : ∃z,i.zero=some z∧z.cells.toList=zs:=by
  unfold pz at hz
  simp only [hi,dh]at hz
  cases hzz:i.zero with
  | none=>simp [hzz]at hz
  | some z=>simp only [hzz,bn,aA]at hz;exact⟨z,rfl,hz⟩
 have hsz':0<i.size:=ak hsz
 have hzc:z.cells.size=i.size:=aaI
 by_cases hm:uF=none
 ·subst hm
  have hm0:news = []:=hr.resolve_right (by rintro⟨b,o,he,_⟩;cases he)
  subst hm0
  have:m=0:=by
   rcases bH m with h|h
   ·exact h
   ·have:=je h hsz';simp at hl;omega
  subst this
  have hc2:=hnil rfl
  subst hc2
  have hrun:=run_append_owned_none (P:=P) (w:=w) 0 t ty E i i.size ht hi (.slice oa k c) k xs hown
  exact⟨oa,c,w,hrun,by simpa using hown,⟨rfl,rfl,rfl,ay _,fun _ _ _=>rfl⟩,fun g hg=> .inl hg⟩
 ·obtain⟨ad,rfl,hcells⟩ : ∃ad,uF=some ad∧∀j u,news[j]? = some u->w.cell? (ad.add j)=some u:=by
   rcases hr with rfl|⟨b,o,rfl,_,hc⟩
   ·cases uF with
    | none=>exact absurd rfl hm
    | some ad=>exact⟨ad,rfl,by simp⟩
   ·exact⟨_,rfl,fun j u hj=>by rw [add0];exact hc j u hj⟩
  have main : ∀B,Own w B E i.size oa k c xs->B<=w.heap.size->∃lV c' w',(Builtin.append_ #[t,t] ty #[.slice oa k c, .slice (some ad) m c2]).run P w = .ok (.slice lV (k+m) c') w'∧Own w' B E i.size lV (k+m) c' (xs++news)∧w.grownBy w' (ownB oa):=by
   intro B hown hB
   obtain⟨v',w',hrun,ho,hg,_⟩:=run_append_own (P:=P) w B t ty E i z i.size nV ht hi hz1 rfl hb' hzc hsz' (.slice oa k c) k xs hown ad m c2 news hl hcells h1 hlen hbytes hB
   rw [wP]at hg
   obtain⟨lV,c',rfl⟩ : ∃lV c',v' = .slice lV (k+m) c':=by
    rcases ho.2 with ⟨h,h0⟩|⟨g,cap,cur,h,_⟩
    ·exact⟨none,0,by rw [h,h0]⟩
    ·exact⟨_,cap,h⟩
   exact⟨lV,c',w',hrun,ho,hg⟩
  have up : ∀ {w':World} {B:Nat} {lV:Option Addr} {k' c':Nat} {ys:List Value},Own w' B E i.size lV k' c' ys->Own w' 0 E i.size lV k' c' ys:=fun h=>⟨h.1,h.2.imp id fun⟨g,cap,cur,h1,_,h2⟩=>⟨g,cap,cur,h1,aK _,h2⟩⟩
  rcases hown.2 with ⟨hv,h0⟩|⟨g,cap,cur,hv,hg0,hh,hle,hcm,hcs,htk⟩
  ·injection hv with e1 e2 e3
   subst e1;subst e2;subst e3
   obtain⟨lV,c',w',r1,r2,r3⟩:=main w.heap.size ⟨hown.1, .inl ⟨rfl,rfl⟩⟩ (ay _)
   exact⟨lV,c',w',r1,up r2,r3,fun g hg=> .inr (r2.ge g hg).1⟩
  ·injection hv with e1 e2 e3
   subst e1;subst e3
   obtain⟨lV,c',w',r1,r2,r3⟩:=main 0 hown (aK _)
   refine⟨lV,c',w',r1,r2,r3,fun g' hg'=> ?_⟩
   by_cases hroom:k+m<=c
   ·have hfit:k*i.size+news.length<=cur.size:=by rw [hl,hcs, <-aX];exact aP _ hroom
    have hr2:=run_append_room (P:=P) w t ty E i ht hi g k c cur hh ad m c2 news hl hcells h1 hroom hfit
    rw [r1]at hr2
    injection hr2 with hr2 _
    injection hr2 with hr2 _ _
    rw [hr2]at hg'
    exact .inl hg'
   ·have holds : ∀j u,xs[j]? = some u->w.cell? ((⟨g,0,none⟩:Addr).add j)=some u:=World.ownsRow.cells (h:=hown) (g:=g) rfl
    have hsmall:k+m<=9223372036854775807:=aaZ
    have hr2:=run_append_grow (P:=P) w t ty E i z ht hi hz1 ⟨g,0,none⟩ k c xs hown.1 holds ad m c2 news hl hcells aad aad (growslice_fits aad (by rw [hb'];exact hbytes))
    rw [r1]at hr2
    injection hr2 with hr2 _
    injection hr2 with hr2 _ _
    rw [hr2]at hg'
    simp only [ownB,bn,aA]at hg'
    exact .inr aad
theorem yS {t ty E:TypeId}{sz nV m c2:Nat}{oa uF:Option Addr}{news zs:List Value}
  (ht:P.underlying t=some (.slice E)) (hs:szB P E=some sz) (hby:l7 P E=some nV) (hz:pz P E=some zs) (hzl:zs.length=sz) (hsz:Nat.ble 1 sz=true)
  (hr:Row w uF news) (hl:news.length=m*sz) (h1 : ∀u∈news,u.oneCell'=true) (hnil:uF=none->c2=0)
  (hbytes:m*nV<=140737488355328) (hlen:m<=maxLen) :
  ∃v' w',(Builtin.append_ #[t,t] ty #[.slice oa 0 0, .slice uF m c2]).run P w = .ok v' w'∧((m=0∧v' = .slice oa 0 0∧w'=w)∨
   ∃lV c',v' = .slice lV m c'∧Own w' 0 E sz lV m c' news∧w.grownBy w' none∧∀g,ownB lV=some g->w.heap.size<=g):=by
 have hz1:0<sz:=ak hsz
 cases oa with
 | none=>
  obtain⟨lV,c',w',r1,r2,r3,r4⟩:=rF (P:=P) (w:=w) (ty:=ty) (k:=0) (c:=0) (oa:=none) (xs:= []) (m:=m) (c2:=c2) ht hs hby hz hzl hsz (Own.nil w 0 E sz) hr hl h1 hnil abv abz
  rw [aJ]at r1 r2
  exact⟨_,_,r1, .inr ⟨lV,c',rfl,by simpa using r2,r3,fun g hg=>(r4 g hg).elim (fun e=>by simp [ownB]at e) id⟩⟩
 | some a=>
  obtain⟨i,hi,rfl⟩:=lY hs
  rcases bH m with h0|h0
  ·subst h0
   have hn:news = []:=aH abw
   subst hn
   refine⟨.slice (some a) 0 0,w, ?_, .inl ⟨rfl,rfl,rfl⟩⟩
   cases uF<;>simp [Builtin.append_,run_underlying ht,sizeOf,typeInfo,hi,Builtin.lenOf,Builtin.firstCells,loadCells,loadCellsFrom,storeCells]
  ·have hb':i.bytes=nV:=by simpa [l7,hi]using hby
   obtain⟨z,hz1',hz2⟩ : ∃z,i.zero=some z∧z.cells.toList=zs:=by
    unfold pz at hz
    simp only [hi,dh]at hz
    cases hzz:i.zero with
    | none=>simp [hzz]at hz
    | some z=>simp only [hzz,bn,aA]at hz;exact⟨z,rfl,hz⟩
   have hzc:z.cells.size=i.size:=aaI
   obtain⟨ad,rfl,hcells⟩ : ∃ad,uF=some ad∧∀j u,news[j]? = some u->w.cell? (ad.add j)=some u:=by
    rcases hr with rfl|⟨b,o,rfl,_,hc⟩
    ·have:=je h0 hz1;simp at hl;omega
    ·exact⟨_,rfl,fun j u hj=>by rw [add0];exact hc j u hj⟩
   have hr1:=run_append_grow (P:=P) w t ty E i z ht hi hz1' a 0 0 [] aaA aaA ad m c2 news hl hcells aad aaZ (growslice_fits aad (by rw [hb',aJ];exact hbytes))
   obtain⟨lV,c',w',r1,r2,r3,r4⟩:=rF (P:=P) (w:=w) (ty:=ty) (k:=0) (c:=0) (oa:=none) (xs:= []) (m:=m) (c2:=c2) ht hs hby hz hzl hsz (Own.nil w 0 E i.size) (.inr (by
    rcases hr with rfl|h
    ·have:=je h0 hz1;simp at hl;omega
    ·exact h)) hl h1 hnil abv abz
   have hr2:=run_append_nil (P:=P) w t ty E i z ht hi hz1' ad m c2 news hl hcells aad aaZ (by rw [hb'];omega)
   rw [aJ]at r1 r2
   rw [hr2]at r1
   injection r1 with e1 e2
   simp only [aJ]at hr1
   have e3:(([]:List Value).toArray++news.toArray++Builtin.zeroCells z.cells (grownCap w m 0 E-m))=news.toArray++Builtin.zeroCells z.cells (grownCap w m 0 E-m):=aaA
   rw [e3,e1,e2]at hr1
   exact⟨_,_,hr1, .inr ⟨lV,c',rfl,by simpa using r2,r3,fun g hg=>(r4 g hg).elim (fun e=>by simp [ownB]at e) id⟩⟩
theorem St.move (st:St G jL jO jQ n σ F H w){w':World}{jT:Nat}{blk:mD}(hk:look H jT=some blk)(hm:blk.own=true)(hos:w'.os=w.os)(htp:w'.tape=w.tape)(hou:w'.output=w.output)(hsz:w.heap.size<=w'.heap.size)
  (hg : ∀k,k<w.heap.size->(σ jT).b≠some k->w'.heap[k]? = w.heap[k]?) (L:Loc) (hL : ∀g,L.b=some g->g<w'.heap.size∧((σ jT).b=some g∨w.heap.size<=g)) (blk':mD)
  (hblk:Ext n σ F w (n+1) (sS σ n L) F w'->qW (n+1) (sS σ n L) F w' L blk') (hfl:blk'.flat=true:=by rfl):St G jL jO jQ (n+1) (sS σ n L) F ((n,blk')::H6 H jT) w'∧Ext n σ F w (n+1) (sS σ n L) F w':=by
 have old : ∀b,(σ jT).b=some b->¬F b∧G.nb<=b∧b<w.heap.size∧(jO b∨jL.heap.size<=b):=fun b hb=>st.mu jT blk b hk hm (.inl hb)
 have bk : ∀ {k b g'},k≠jT->look H k=some b->b.own=true->oW w' (σ k) b g'->oW w (σ k) b g':=fun hne h hm' hg'=>hg'.back fun x hx=>hg x (st.mu _ _ x h hm' (.inl hx)).2.2.1 fun e=>hne (st.inj _ jT _ blk x h hk hm' hm (.inl hx) (.inl e))
 have hE:Ext n σ F w (n+1) (sS σ n L) F w':=⟨by omega,fun k hk=>lC aad,fun b hb=>⟨hb,hg b (st.lI b hb).1 fun e=>(old b e).1 hb⟩,hsz⟩
 have hnb:=st.glob.1
 have hw0:=st.nN.size
 refine⟨⟨Glob.nN st.glob hsz fun b hb=>hg b aad fun e=>by have:=(old b e).2.1;omega,st.nN.trans (M':=fun b=>(σ jT).b=some b) ⟨hos,htp,hou,hsz,fun k h1 h2=>hg k h1 h2⟩ (fun b hb=>(old b hb).2.2.2),fun b hb=>⟨aN (st.lI b hb).1 hsz,(st.lI b hb).2⟩,fun k b h=> ?_,fun k b g h hm' hg'=> ?_,fun k k' b b' g h h' hm1 hm2 hg1 hg2=> ?_,fun k b h=> ?_⟩,hE⟩
 ·rw [jY]at h
  split at h
  ·omega
  ·have:=st.lab k b (ng h).2;omega
 ·rw [jY]at h
  split at h
  ·rename_i e
   subst e
   injection h with h
   subst h
   rw [kH]at hg'
   obtain⟨h1,h2⟩:=hL g (hg'.flat hfl)
   rcases h2 with h2|h2
   ·exact⟨(old g h2).1,(old g h2).2.1,h1,(old g h2).2.2.2⟩
   ·exact⟨fun hf=>by have:=(st.lI g hf).1;omega,by omega,h1, .inr aad⟩
  ·obtain⟨hne,h⟩:=ng h
   have hl:=st.lab k b h
   rw [lC aad]at hg'
   have hg':=bk hne h hm' hg'
   obtain⟨h1,h2,h3,h4⟩:=st.mu k b g h hm' hg'
   exact⟨h1,h2,aN h3 hsz,h4⟩
 ·have cross : ∀ {x:Nat} {c:mD},look (H6 H jT) x=some c->c.own=true->oW w' (sS σ n L x) c g->L.b=some g->False:=by
   intro x c hx hc hgx hLg
   obtain⟨x1,x2⟩:=ng hx
   have hl:=st.lab x c x2
   rw [lC aad]at hgx
   have hgx:=bk x1 x2 hc hgx
   rcases(hL g hLg).2 with e|e
   ·exact x1 (st.inj x jT c blk g x2 hk hc hm hgx (.inl e))
   ·have:=(st.mu x c g x2 hc hgx).2.2.1;omega
  rw [jY]at h h'
  split at h
  ·rename_i e
   subst e
   injection h with h
   subst h
   rw [kH]at hg1
   split at h'
   ·rename_i e';exact e'
   ·exact(cross h' hm2 hg2 (hg1.flat hfl)).elim
  ·split at h'
   ·rename_i e'
    subst e'
    injection h' with h'
    subst h'
    rw [kH]at hg2
    exact(cross h hm1 hg1 (hg2.flat hfl)).elim
   ·obtain⟨n1,h⟩:=ng h
    obtain⟨n2,h'⟩:=ng h'
    have hl:=st.lab k b h
    have hl':=st.lab k' b' h'
    rw [lC aad]at hg1 hg2
    exact st.inj k k' b b' g h h' hm1 hm2 (bk n1 h hm1 hg1) (bk n2 h' hm2 hg2)
 ·rw [jY]at h
  split at h
  ·rename_i e
   subst e
   injection h with h
   subst h
   rw [kH]
   exact hblk hE
  ·obtain⟨h1,h⟩:=ng h
   have hl:=st.lab k b h
   rw [lC aad]
   exact(st.blk k b h).mono hE fun hm' g hg'=>hg g (st.mu k b g h hm' hg').2.2.1 fun e=>h1 (st.inj k jT b blk g h hk hm' hm hg' (.inl e))
theorem D8 {t sz c m:Nat}{oa:Option Addr}{xs:List Value}(hO:Own w 0 t sz oa m c xs):(oa.map (·.block)).map (fun g=>(⟨g,0,none⟩:Addr))=oa:=by
 rcases hO.2 with ⟨hv,h0⟩|⟨g,cap,cur,hv,_⟩
 ·injection hv with e _ _;subst e;rfl
 ·injection hv with e _ _;subst e;rfl
theorem uO {t sz c m:Nat}{oa:Option Addr}{xs:List Value}{l:List (List FV)}(hO:Own w 0 t sz oa m c xs)(hm:m=l.length)(hR:mY F w sz l xs):qW n σ F w ⟨oa.map (·.block),m,c,sz⟩ (.rows t sz l):=by
 refine⟨rfl,hm,xs, ?_,hR⟩
 have:(Loc.mk (oa.map (·.block)) m c sz).oa=oa:=D8 hO
 rw [this, <-hm];exact hO
theorem yx {t sz c m:Nat}{oa:Option Addr}{xs:List Value}{w':World}(hO:Own w' 0 t sz oa m c xs):jX (n+1) (sS σ n ⟨oa.map (·.block),m,c,sz⟩) F w' (.own n) (.slice oa m c):=by
 have:=jX.own (n:=n+1) (σ:=sS σ n ⟨oa.map (·.block),m,c,sz⟩) (F:=F) (w:=w') n aad
 rw [kH]at this
 have e:(Loc.mk (oa.map (·.block)) m c sz).oa=oa:=D8 hO
 rw [e]at this
 exact this
theorem yA {t sz c m:Nat}{oa:Option Addr}{xs:List Value}{w':World}(hO:Own w' 0 t sz oa m c xs){g:Nat}(h:oa.map (·.block)=some g):g<w'.heap.size:=(hO.ge g h).2
theorem FQ {t sz c:Nat}{oa:Option Addr}{l:List (List FV)}{ys:List Value}{F':Nat->Prop}(hO:Vc.Own w 0 t sz oa l.length c ys)(hR:mY F w sz l ys)(hF : ∀b,F b->F' b)(hg : ∀g,oa=some ⟨g,0,none⟩->F' g):lN F' w (.lst sz l) (.slice oa l.length c):=by
 have hb:qW 0 (fun _=>⟨oa.map (·.block),l.length,c,sz⟩) F w ⟨oa.map (·.block),l.length,c,sz⟩ (.rows t sz l):=⟨rfl,rfl,ys,by
  have:(Loc.mk (oa.map (·.block)) l.length c sz).oa=oa:=D8 hO
  rw [this];exact hO,hR⟩
 have:=qO hb hF fun g hgb=>by
  refine hg g ?_
  rcases hO.2 with ⟨hv,_⟩|⟨g',cap,cur,hv,_⟩
  ·injection hv with e _ _;subst e;cases hgb
  ·injection hv with e _ _;subst e;simp at hgb;rw [hgb]
 have h3:=this.2.2.1
 have e:(Loc.mk (oa.map (·.block)) l.length c sz).oa=oa:=D8 hO
 rw [e]at h3
 exact h3
theorem FT {t ty E:TypeId}{sz k c c2:Nat}{oa uF:Option Addr}(ht:P.underlying t=some (.slice E))(hs:szB P E=some sz)(hkc:k<=c) :
  (Builtin.append_ #[t,t] ty #[.slice oa k c, .slice uF 0 c2]).run P w = .ok (.slice oa k c) w:=by
 obtain⟨i,hi,rfl⟩:=lY hs
 cases oa<;>cases uF<;>simp [Builtin.append_,run_underlying ht,sizeOf,typeInfo,hi,Builtin.lenOf,Builtin.firstCells,loadCells,loadCellsFrom,storeCells,hkc]
theorem FU {t ty E:TypeId}{sz nV k m c2 b:Nat}{uF:Option Addr}{olds news zs:List Value}
  (ht:P.underlying t=some (.slice E)) (hs:szB P E=some sz) (hby:l7 P E=some nV) (hz:pz P E=some zs) (hzl:zs.length=sz) (hsz:Nat.ble 1 sz=true)
  (hlo:olds.length=k*sz) (holds : ∀j u,olds[j]? = some u->w.cell? ⟨b,0+j,none⟩=some u) (hr:Row w uF news) (hl:news.length=m*sz) (hm:0<m) (hbytes:(k+m)*nV<=140737488355328) (hlen:k+m<=maxLen) :
  ∃lV c' w',(Builtin.append_ #[t,t] ty #[.slice (some ⟨b,0,none⟩) k k, .slice uF m c2]).run P w = .ok (.slice lV (k+m) c') w'∧Vc.Own w' 0 E sz lV (k+m) c' (olds++news)∧w.grownBy w' none∧∀g,ownB lV=some g->w.heap.size<=g:=by
 obtain⟨i,hi,rfl⟩:=lY hs
 have hz1:0<i.size:=ak hsz
 have hb':i.bytes=nV:=by simpa [l7,hi]using hby
 obtain⟨z,hz1',hz2⟩ : ∃z,i.zero=some z∧z.cells.toList=zs:=by
  unfold pz at hz
  simp only [hi,dh]at hz
  cases hzz:i.zero with
  | none=>simp [hzz]at hz
  | some z=>simp only [hzz,bn,aA]at hz;exact⟨z,rfl,hz⟩
 have hzc:z.cells.size=i.size:=aaI
 obtain⟨ad,rfl,hcells⟩ : ∃ad,uF=some ad∧∀j u,news[j]? = some u->w.cell? (ad.add j)=some u:=by
  rcases hr with rfl|⟨b,o,rfl,_,hc⟩
  ·have:=je hm hz1;simp at hl;omega
  ·exact⟨_,rfl,fun j u hj=>by rw [add0];exact hc j u hj⟩
 obtain⟨v',w',hrun,ho,hg⟩:=run_append_arg_grows (P:=P) w t ty E i z i.size nV ht hi hz1' rfl hb' hzc hz1 ⟨b,0,none⟩ k k olds hlo (fun j u hj=>by rw [add0];exact holds j u hj) ad m c2 news hl hcells aad hlen hbytes
 rcases ho.2 with ⟨rfl,h0⟩|⟨g,cap,cur,rfl,hg1,h2⟩
 ·omega
 ·exact⟨_,cap,w',hrun,⟨ho.1, .inr ⟨g,cap,cur,rfl,aK _,h2⟩⟩,hg,fun g' hg'=>by simp [ownB]at hg';omega⟩
theorem lN.head {sz k:Nat}{l:List (List FV)}{oa lV:Option Addr}{m c:Nat}(h:lN F w (.lst sz l) (.slice oa m c))(hk:k<=l.length)(ho:0<k->lV=oa):lN F w (.lst sz (l.take k)) (.slice lV k k):=by
 cases h with
 | lst _ _ _ _ _ b o hn hc hnil hoo hsz hex hrep=>
  refine .lst sz _ _ _ _ b o aby (ay _) (fun e=> ?_) (fun h0=> ?_) (fun row hr=>hsz row (dM hr)) (fun i j hi hj=>hex i j aad hj) (fun i j row a v hi hj hv=> ?_)
  ·rcases bH k with h0|h0
   ·exact h0
   ·have:=(hoo aad).1
    rw [<-ho h0,e]at this;cases this
  ·rw [ho h0];exact hoo aad
  ·rw [aW]at hi
   split at hi
   ·exact hrep i j row a v hi hj hv
   ·cases hi
theorem Ak {ts:List TypeId}{as:List AV}{vs:List Value}{ty:TypeId}{K:AV->Nat->jI->Prop}(h:Ad P ts as n H K)(st:St G jL jO jQ n σ F H w)(r:kD n σ F w as vs) :
  kG P (Builtin.append_ ts.toArray ty vs.toArray) w (D6 G jL jO jQ n σ F w K):=by
 unfold Ad at h
 split at h
 ·rename_i t t' d s
  obtain⟨vd,vs',rfl,rd,rs⟩ : ∃v1 v2,vs = [v1,v2]∧jX n σ F w d v1∧jX n σ F w s v2:=by
   match vs,r with
   | [v1,v2],r=>exact⟨v1,v2,rfl,r.1,r.2.1⟩
  cases hb:Nat.beq t t' with
  | false=>rw [hb]at h;exact h.elim
  | true=>
   rw [hb,cond_true]at h
   have:=aj hb
   subst this
   split at h
   ·rename_i E hu
    split at h
    ·rename_i sz nV zs hs hby hz
     cases hc:(Nat.beq zs.length sz&&Nat.ble 1 sz)with
     | false=>rw [hc]at h;exact h.elim
     | true=>
      rw [hc,cond_true]at h
      simp only [ah]at hc
      have hzl:=aj hc.1
      split at h
      ·rename_i sz' m hsrc
       cases hd:Nat.beq sz sz' with
       | false=>rw [hd]at h;exact h.elim
       | true=>
        rw [hd,cond_true]at h
        have:=aj hd
        subst this
        have src : ∃oa k c news,vs' = .slice oa k c∧k=m.length∧(oa=none->c=0)∧Row w oa news∧mY F w sz m news:=by
         split at hsrc
         ·simp only [aA,dF]at hsrc
          obtain⟨_,rfl⟩:=hsrc
          exact⟨none,0,0,[],rs.kR,rfl,fun _=>rfl,Row.nil _ _,mY.nil sz⟩
         ·obtain⟨oa,k,c,news,h1,h2,_,h4,h5,h6⟩:=JD hsrc st rs
          exact⟨oa,k,c,news,h1,h2,h4,h5,h6⟩
        obtain⟨uF,k2,c2,news,rfl,hk2,hnil,hrow,hR⟩:=src
        subst hk2
        split at h
        ·rw [rd.kR]
         obtain⟨hq1,hq2⟩:=h.req
         obtain⟨lV,c',w',r1,r2,r3,r4⟩:=rF (P:=P) (ty:=ty) (k:=0) (c:=0) (oa:=none) (xs:= []) (m:=m.length) (c2:=c2) hu hs hby hz hzl hc.2 (Own.nil w 0 E sz) hrow hR.2.1 hR.2.2.1 hnil (by rw [aJ];exact hq1) (by rw [aJ];exact hq2)
         rw [aJ]at r1 r2
         simp only [dD]at r2
         have hE0 : ∀b,F b->F b∧w'.heap[b]? = w.heap[b]? :=fun b hb=>⟨hb,r3.block b (st.lI b hb).1 (by simp [ownB])⟩
         obtain⟨s2,x2⟩:=st.new (w':=w') ⟨r3.os,r3.tape,r3.output,r3.size,fun k hk _=>r3.block k hk (by simp [ownB])⟩ ⟨lV.map (fun x:Addr=>x.block),m.length,c',sz⟩
          (fun g hg=>⟨(r4 g hg).elim (fun e=>by simp [ownB]at e) id,yA r2 hg⟩) (.rows E sz m) (uO r2 rfl (hR.mono hE0))
         exact⟨_,_,r1,_,_,_,_,_,h.go,s2,x2,yx r2⟩
        ·rename_i l
         split at h
         ·rename_i E' Ae rr hk
          cases he:(Nat.beq E E'&&Nat.beq sz Ae)with
          | false=>rw [he]at h;exact h.elim
          | true=>
           rw [he,cond_true]at h
           simp only [ah]at he
           have e1:=aj he.1
           have e2:=aj he.2
           subst e1;subst e2
           obtain⟨hq1,hq2⟩:=h.req
           obtain⟨q1,q2,xs,hO,hRx⟩:=st.blk _ _ hk
           have hob:ownB (σ l).oa=(σ l).b:=by
            unfold ownB Loc.oa
            cases (σ l).b<;>rfl
           cases rd with
           | oP _ oa hl hn hc0=>
            rw [hn]at q2
            have hr0:rr = []:=aH q2.symm
            subst hr0
            rw [dD]at h
            simp only [dw,aJ]at hq1 hq2
            obtain⟨v',w',r1,r2⟩:=yS (P:=P) (ty:=ty) (oa:=oa) (c2:=c2) hu hs hby hz hzl hc.2 hrow hR.2.1 hR.2.2.1 hnil hq1 hq2
            rcases r2 with ⟨hm0,rfl,ew⟩|⟨lV,c',rfl,r2,r3,r4⟩
            ·have hm1:m = []:=aH hm0
             subst hm1
             rw [ew]at r1
             obtain⟨s2,x2⟩:=(st.drop l).new (w':=w) (uH.refl _ _) ⟨none,0,0,sz⟩ (fun g hg=>by cases hg) (.rows E sz []) ⟨rfl,rfl,[],Own.nil _ _ _ _,mY.nil sz⟩
             exact⟨_,_,r1,_,_,_,_,_,h.go,s2,x2, .oP n oa aad abn abn⟩
            ·have hE0 : ∀b,F b->F b∧w'.heap[b]? = w.heap[b]? :=fun b hb=>⟨hb,r3.block b (st.lI b hb).1 aaA⟩
             obtain⟨s2,x2⟩:=(st.drop l).new (w':=w') ⟨r3.os,r3.tape,r3.output,r3.size,fun k hk _=>r3.block k hk aaA⟩ ⟨lV.map (fun x:Addr=>x.block),m.length,c',sz⟩
              (fun g hg=>⟨r4 g hg,yA r2 hg⟩) (.rows E sz m) (uO r2 rfl (hR.mono hE0))
             exact⟨_,_,r1,_,_,_,_,_,h.go,s2,x2,yx r2⟩
           | own _ hl=>
            rw [q2]
            obtain⟨lV,c',w',r1,r2,r3,r4⟩:=rF (P:=P) (ty:=ty) (m:=m.length) (c2:=c2) hu hs hby hz hzl hc.2 hO hrow hR.2.1 hR.2.2.1 hnil hq1 hq2
            have hg3 : ∀k,k<w.heap.size->(σ l).b≠some k->w'.heap[k]? = w.heap[k]? :=fun k hk hn=>r3.block k hk (by rw [hob];exact fun e=>hn e.symm)
            have hE0 : ∀b,F b->F b∧w'.heap[b]? = w.heap[b]? :=fun b hb=>⟨hb,hg3 b (st.lI b hb).1 fun e=>(st.mu l _ b hk rfl (.inl e)).1 hb⟩
            obtain⟨s2,x2⟩:=st.move (w':=w') hk rfl r3.os r3.tape r3.output r3.size hg3 ⟨lV.map (·.block),rr.length+m.length,c',sz⟩
             (fun g hg=>⟨yA r2 hg,by have:=r4 g hg;rw [hob]at this;exact this⟩) (.rows E sz (rr++m)) (fun _=>uO r2 (by rw [aG]) ((hRx.mono hE0).append (hR.mono hE0)))
            exact⟨_,_,r1,_,_,_,_,_,h.go,s2,x2,yx r2⟩
         ·cases h
        ·rename_i l k
         split at h
         ·rename_i Ae rr hk
          cases he:Nat.beq sz Ae with
          | false=>rw [he]at h;exact h.elim
          | true=>
           rw [he,cond_true]at h
           have e2:=aj he
           subst e2
           obtain⟨⟨hq1,hq2⟩,hq3⟩:=h.req
           have hgo:=h.go
           obtain⟨q1,q2,hf,hf0⟩:=st.blk _ _ hk
           have hFs : ∀b,F b->b<w.heap.size:=fun b hb=>(st.lI b hb).1
           cases rd with
           | full _ _ oa hl hkk ho=>
            have hoa:0<k->oa=(σ l).oa:=fun h0=>by
             obtain⟨b,e1,e2⟩:=ho h0
             rw [e2];unfold Loc.oa;rw [e1];rfl
            by_cases hm:m.length=0
            ·have hm1:m = []:=aH hm
             subst hm1
             rw [fM]at hgo
             exact⟨_,_,FT hu hs (ay _),_,_,_,_,_,hgo,st, .refl _ _ _ _, .lst (hf.head hq3 hoa)⟩
            ·obtain⟨oa0,m0,c0,NK,ev,em,_,_,hrow0,hR0⟩:=uN hf hFs
             injection ev with ev1 _ _
             have hol:(NK.take (k*sz)).length=k*sz:=by
              rw [aU,hR0.2.1]
              exact eU (aP _ hq3)
             have hRk:mY F w sz (rr.take k) (NK.take (k*sz)):=by
              have:=hR0.part (i:=0) (j:=k) aad
              rw [eG,iH,iH]at this
              exact this
             have hrun : ∃lV c' w',(Builtin.append_ #[t,t] ty #[.slice oa k k, .slice uF m.length c2]).run P w = .ok (.slice lV (k+m.length) c') w'∧Vc.Own w' 0 E sz lV (k+m.length) c' (NK.take (k*sz)++news)∧w.grownBy w' none∧∀g,ownB lV=some g->w.heap.size<=g:=by
              rcases bH k with h0|h0
              ·subst h0
               rw [eG,jB,dD,aJ]
               obtain⟨v',w',r1,r2⟩:=yS (P:=P) (ty:=ty) (oa:=oa) (c2:=c2) hu hs hby hz hzl hc.2 hrow hR.2.1 hR.2.2.1 hnil (by rw [aJ]at hq1;exact hq1) (by rw [aJ]at hq2;exact hq2)
               rcases r2 with ⟨hm0,_⟩|⟨lV,c',rfl,r2,r3,r4⟩
               ·exact absurd hm0 hm
               ·exact⟨lV,c',w',r1,r2,r3,r4⟩
              ·obtain⟨b,e1,e2⟩:=ho h0
               have eb:(σ l).oa=some ⟨b,0,none⟩:=by rw [<-hoa h0,e2]
               rw [e2]
               refine FU hu hs hby hz hzl hc.2 hol (fun j u hj=> ?_) hrow hR.2.1 aad hq1 hq2
               rw [aW]at hj
               split at hj
               ·rcases hrow0 with h5|⟨b',o',e5,_,h6⟩
                ·rw [h5]at hj;cases hj
                ·rw [<-ev1,eb]at e5
                 injection e5 with e5
                 injection e5 with e5 e6
                 subst e5;subst e6
                 exact h6 j u hj
               ·cases hj
             obtain⟨lV,c',w',r1,r2,r3,r4⟩:=hrun
             obtain⟨s2,x2⟩:=st.more (w':=w') ⟨r3.os,r3.tape,r3.output,r3.size,fun k hk _=>r3.block k hk aaA⟩ (fun g=>ownB lV=some g) (fun g hg=>⟨r4 g hg,yA r2 hg⟩)
             have hE0 : ∀b,F b->F b∧w'.heap[b]? = w.heap[b]? :=fun b hb=>⟨hb,r3.block b (hFs b hb) aaA⟩
             have hlen:(rr.take k++m).length=k+m.length:=by rw [aG,aU,eU hq3]
             have hfr:=FQ (F:=F) (F':=fun b=>F b∨ownB lV=some b) (l:=rr.take k++m) (by rw [hlen];exact r2) ((hRk.mono hE0).append (hR.mono hE0)) (fun _ h=> .inl h) (fun g hg=> .inr (by rw [hg];rfl))
             rw [hlen]at hfr
             exact⟨_,_,r1,_,_,_,_,_,hgo,s2,x2, .lst hfr⟩
         ·cases h
        ·cases h
      ·cases h
    ·cases h
   ·cases h
 ·cases h
theorem xu {t u ty E:TypeId}{k c:Nat}{oa:Option Addr}{xs:List Value}{s:ByteArray}
  (ht:P.underlying t=some (.slice E)) (hu:P.underlying u=some .string) (hs:szB P E=some 1) (hby:l7 P E=some 1) (hz:(P.info? E).bind (·.zero)=some (.int .u8 0))
  (hown:Own w 0 E 1 oa k c xs) (hbytes:k+s.size<=140737488355328) (hlen:k+s.size<=maxLen) :
  ∃lV c' w',(Builtin.append_ #[t,u] ty #[.slice oa k c, .string s]).run P w = .ok (.slice lV (k+s.size) c') w'∧Own w' 0 E 1 lV (k+s.size) c' (xs++strCells s)∧w.grownBy w' (ownB oa)∧(∀g,ownB lV=some g->ownB oa=some g∨w.heap.size<=g):=by
 obtain⟨i,hi,hi1⟩:=lY hs
 have hb':i.bytes=1:=by simpa [l7,hi]using hby
 have hz1:i.zero=some (.int .u8 0):=abA
 have main : ∀B,Own w B E 1 oa k c xs->B<=w.heap.size->∃lV c' w',(Builtin.append_ #[t,u] ty #[.slice oa k c, .string s]).run P w = .ok (.slice lV (k+s.size) c') w'∧Own w' B E 1 lV (k+s.size) c' (xs++strCells s)∧w.grownBy w' (ownB oa):=by
  intro B hown hB
  obtain⟨v',w',hrun,ho,hg,_⟩:=run_append_own_string (P:=P) w B t u ty E i ht hu hi hz1 hi1 hb' (.slice oa k c) k xs hown s hlen hbytes hB
  rw [wP]at hg
  obtain⟨lV,c',rfl⟩ : ∃lV c',v' = .slice lV (k+s.size) c':=by
   rcases ho.2 with ⟨h,h0⟩|⟨g,cap,cur,h,_⟩
   ·exact⟨none,0,by rw [h,h0]⟩
   ·exact⟨_,cap,h⟩
  exact⟨lV,c',w',hrun,ho,hg⟩
 have up : ∀ {w':World} {B:Nat} {lV:Option Addr} {k' c':Nat} {ys:List Value},Own w' B E 1 lV k' c' ys->Own w' 0 E 1 lV k' c' ys:=fun h=>⟨h.1,h.2.imp id fun⟨g,cap,cur,h1,_,h2⟩=>⟨g,cap,cur,h1,aK _,h2⟩⟩
 rcases hown.2 with ⟨hv,h0⟩|⟨g,cap,cur,hv,hg0,hh,hle,hcm,hcs,htk⟩
 ·injection hv with e1 e2 e3
  subst e1;subst e2;subst e3
  obtain⟨lV,c',w',r1,r2,r3⟩:=main w.heap.size ⟨hown.1, .inl ⟨rfl,rfl⟩⟩ (ay _)
  exact⟨lV,c',w',r1,up r2,r3,fun g hg=> .inr (r2.ge g hg).1⟩
 ·injection hv with e1 e2 e3
  subst e1;subst e3
  obtain⟨lV,c',w',r1,r2,r3⟩:=main 0 hown (aK _)
  refine⟨lV,c',w',r1,r2,r3,fun g' hg'=> ?_⟩
  by_cases hroom:k+s.size<=c
  ·have hr2:=run_append_room_string (P:=P) w t u ty E i ht hu hi hi1 g k c cur hh s hroom (by rw [hcs];omega)
   rw [r1]at hr2
   injection hr2 with hr2 _
   injection hr2 with hr2 _ _
   rw [hr2]at hg'
   exact .inl hg'
  ·have holds : ∀j v,xs[j]? = some v->w.cell? ((⟨g,0,none⟩:Addr).add j)=some v:=World.ownsRow.cells (h:=hown) (g:=g) rfl
   have hr2:=run_append_grow_string (P:=P) w t u ty E i (.int .u8 0) ht hu hi hz1 ⟨g,0,none⟩ k c xs (by rw [hi1];exact hown.1) holds s aad aaZ (by rw [hb'];exact growslice_fits aad aad)
   rw [r1]at hr2
   injection hr2 with hr2 _
   injection hr2 with hr2 _ _
   rw [hr2]at hg'
   simp only [ownB,bn,aA]at hg'
   exact .inr aad
theorem D9 {t u ty E:TypeId}{oa:Option Addr}{s:ByteArray}
  (ht:P.underlying t=some (.slice E)) (hu:P.underlying u=some .string) (hs:szB P E=some 1) (hby:l7 P E=some 1) (hz:(P.info? E).bind (·.zero)=some (.int .u8 0))
  (hbytes:s.size<=140737488355328) (hlen:s.size<=maxLen) :
  ∃v' w',(Builtin.append_ #[t,u] ty #[.slice oa 0 0, .string s]).run P w = .ok v' w'∧((s.size=0∧v' = .slice oa 0 0∧w'=w)∨
   ∃lV c',v' = .slice lV s.size c'∧Own w' 0 E 1 lV s.size c' (strCells s)∧w.grownBy w' none∧∀g,ownB lV=some g->w.heap.size<=g):=by
 obtain⟨lV,c',w',r1,r2,r3,r4⟩:=xu (P:=P) (w:=w) (t:=t) (u:=u) (ty:=ty) (k:=0) (c:=0) (oa:=none) (xs:= []) (s:=s) ht hu hs hby hz (Own.nil w 0 E 1) abv abz
 rw [aJ]at r1 r2
 cases oa with
 | none=>exact⟨_,_,r1, .inr ⟨lV,c',rfl,by simpa using r2,r3,fun g hg=>(r4 g hg).elim (fun e=>by simp [ownB]at e) id⟩⟩
 | some a=>
  obtain⟨i,hi,hi1⟩:=lY hs
  have hb':i.bytes=1:=by simpa [l7,hi]using hby
  have hz1:i.zero=some (.int .u8 0):=abA
  rcases bH s.size with h0|h0
  ·refine⟨.slice (some a) 0 0,w, ?_, .inl ⟨h0,rfl,rfl⟩⟩
   have hn:strCells s = []:=aH (by rw [strCells_length];exact h0)
   have hf:=run_firstCells_string (P:=P) w i.size s
   rw [hn,h0]at hf
   simp [Builtin.append_,run_underlying ht,run_underlying hu,sizeOf,typeInfo,hi,Builtin.lenOf,h0,hf,storeCells]
  ·have hr1:=run_append_grow_string (P:=P) w t u ty E i (.int .u8 0) ht hu hi hz1 a 0 0 [] aaA aaA s aad aaZ (by rw [hb'];exact growslice_fits aad aad)
   have hr2:=run_append_nil_string (P:=P) w t u ty E i (.int .u8 0) ht hu hi hz1 s aad aaZ (by rw [hb'];omega)
   have e1:(s.data.map fun b=>Value.int .u8 b.toNat)=(strCells s).toArray:=by
    apply gU
    simp [strCells]
   rw [e1,r1]at hr2
   injection hr2 with e1 e2
   simp only [aJ,dD,Array.empty_append]at hr1
   rw [<-e1, <-e2]at hr1
   exact⟨_,_,hr1, .inr ⟨lV,c',rfl,by simpa using r2,r3,fun g hg=>(r4 g hg).elim (fun e=>by simp [ownB]at e) id⟩⟩
theorem JE (s:ByteArray):mY F w 1 (s.data.toList.map pR) (strCells s):=by
 have hl:(strCells s).length=s.size:=strCells_length s
 refine⟨fun row hr=>by obtain⟨x,_,rfl⟩:=dH.1 hr;rfl,by rw [hl,au];simp,strCells_oneCell s,fun i j row a v hi hj hv=> ?_⟩
 rw [aI]at hi
 cases hc:s.data.toList[i]? with
 | none=>rw [hc]at hi;cases hi
 | some x=>
  rw [hc]at hi
  simp only [bn,aA]at hi
  subst hi
  cases j with
  | succ j=>simp [pR]at hj
  | zero=>
   simp only [pR,bJ,aA]at hj
   subst hj
   rw [dG,bU]at hv
   have:v = .int .u8 (x.toNat:Int):=by
    unfold strCells at hv
    rw [aI,hc]at hv
    simpa using hv.symm
   rw [this];exact .v _
theorem yT {t t' ty:TypeId}{d:AV}{x:ByteArray}{vd:Value}{K:AV->Nat->jI->Prop}(h:FD P t t' d x n H K)(st:St G jL jO jQ n σ F H w)(rd:jX n σ F w d vd) :
  kG P (Builtin.append_ #[t,t'] ty #[vd, .string x]) w (D6 G jL jO jQ n σ F w K):=by
 unfold FD at h
 split at h
 ·rename_i E l hu hu'
  split at h
  ·rename_i sz nV hs hby
   split at h
   ·rename_i E' sz' rr hk
    cases hc:(Nat.beq sz 1&&Nat.beq nV 1&&FC P E&&Nat.beq E E'&&Nat.beq sz sz')with
    | false=>rw [hc]at h;exact h.elim
    | true=>
     rw [hc,cond_true]at h
     simp only [ah]at hc
     obtain⟨⟨⟨⟨c1,c2⟩,c3⟩,c4⟩,c5⟩:=hc
     have c1:=aj c1
     have c2:=aj c2
     have c4:=aj c4
     have c5:=aj c5
     subst c1;subst c2;subst c4;subst c5
     have hz:(P.info? E).bind (·.zero)=some (.int .u8 0):=by
      unfold FC at c3
      split at c3
      ·rename_i m hm;rw [hm,of_decide_eq_true c3]
      ·cases c3
     obtain⟨hq1,hq2⟩:=h.req
     obtain⟨q1,q2,xs,hO,hRx⟩:=st.blk _ _ hk
     have hob:ownB (σ l).oa=(σ l).b:=by
      unfold ownB Loc.oa
      cases (σ l).b<;>rfl
     have hxl:(x.data.toList.map pR).length=x.size:=aaA
     cases rd with
     | oP _ oa hl hn hc0=>
      rw [hn]at q2
      have hr0:rr = []:=aH q2.symm
      subst hr0
      rw [dD]at h
      simp only [dw,aJ]at hq1 hq2
      obtain⟨v',w',r1,r2⟩:=D9 (P:=P) (t:=t) (u:=t') (ty:=ty) (oa:=oa) (s:=x) hu hu' hs hby hz hq1 hq2
      rcases r2 with ⟨hm0,rfl,ew⟩|⟨lV,c',rfl,r2,r3,r4⟩
      ·have hm1:x.data.toList.map pR = []:=aH (by rw [hxl];exact hm0)
       rw [hm1]at h
       rw [ew]at r1
       obtain⟨s2,x2⟩:=(st.drop l).new (w':=w) (uH.refl _ _) ⟨none,0,0,1⟩ (fun g hg=>by cases hg) (.rows E 1 []) ⟨rfl,rfl,[],Own.nil _ _ _ _,mY.nil 1⟩
       exact⟨_,_,r1,_,_,_,_,_,h.go,s2,x2, .oP n oa aad abn abn⟩
      ·obtain⟨s2,x2⟩:=(st.drop l).new (w':=w') ⟨r3.os,r3.tape,r3.output,r3.size,fun k hk _=>r3.block k hk aaA⟩ ⟨lV.map (fun x:Addr=>x.block),x.size,c',1⟩
        (fun g hg=>⟨r4 g hg,yA r2 hg⟩) (.rows E 1 (x.data.toList.map pR)) (uO r2 hxl.symm (JE x))
       exact⟨_,_,r1,_,_,_,_,_,h.go,s2,x2,yx r2⟩
     | own _ hl=>
      rw [q2]
      obtain⟨lV,c',w',r1,r2,r3,r4⟩:=xu (P:=P) (t:=t) (u:=t') (ty:=ty) (s:=x) hu hu' hs hby hz hO hq1 hq2
      have hg3 : ∀k,k<w.heap.size->(σ l).b≠some k->w'.heap[k]? = w.heap[k]? :=fun k hk hn=>r3.block k hk (by rw [hob];exact fun e=>hn e.symm)
      have hE0 : ∀b,F b->F b∧w'.heap[b]? = w.heap[b]? :=fun b hb=>⟨hb,hg3 b (st.lI b hb).1 fun e=>(st.mu l _ b hk rfl (.inl e)).1 hb⟩
      obtain⟨s2,x2⟩:=st.move (w':=w') hk rfl r3.os r3.tape r3.output r3.size hg3 ⟨lV.map (·.block),rr.length+x.size,c',1⟩
       (fun g hg=>⟨yA r2 hg,by have:=r4 g hg;rw [hob]at this;exact this⟩) (.rows E 1 (rr++x.data.toList.map pR)) (fun _=>uO r2 (by rw [aG,hxl]) ((hRx.mono hE0).append (JE x)))
      exact⟨_,_,r1,_,_,_,_,_,h.go,s2,x2,yx r2⟩
   ·cases h
  ·cases h
 ·cases h
theorem QO : ∀ {k:Nat} {u:TypeId},QJ P k=some u->P.underlying u=some .string:=by
 intro k
 induction k with
 | zero=>intro u h;cases h
 | succ k ih=>
  intro u h
  unfold QJ at h
  split at h
  ·rename_i u' hu;injection h with h;subst h;exact ih hu
  ·split at h
   ·rename_i hk;injection h with h;subst h;exact hk
   ·cases h
theorem FW (m:Nat):(strCells (qg m)).toArray=Builtin.zeroCells (Value.int .u8 0).cells m:=by
 apply Array.ext
 ·simp [strCells,qg,Builtin.zeroCells,Value.cells]
 ·intro i h1 h2
  simp [strCells,qg,Builtin.zeroCells,Value.cells,Nat.mod_one]
theorem QS {t u tn ty E:TypeId}{kn k:IntKind}{oa:Option Addr}{l c m:Nat}
  (ht:P.underlying t=some (.slice E)) (hu:P.underlying u=some .string) (htn:P.underlying tn=some (.int kn)) (hs:szB P E=some 1) (hby:l7 P E=some 1) (hz:(P.info? E).bind (·.zero)=some (.int .u8 0))
  (hm:l+m<=140737488355328) :
  (Builtin.append_ #[t,tn] ty #[.slice oa l c, .int k (m:Int)]).run P w=(Builtin.append_ #[t,u] ty #[.slice oa l c, .string (qg m)]).run P w:=by
 obtain⟨i,hi,hi1⟩:=lY hs
 have hb':i.bytes=1:=by simpa [l7,hi]using hby
 have hz1:i.zero=some (.int .u8 0):=abA
 have hw:IntKind.i64.wrap (m:Int)=m:=by rw [IntKind.wrap_i64];omega
 have hneg : ¬((m:Int)<0):=aad
 have h48 : ¬(281474976710656<(m:Int)):=aad
 have hsz:(qg m).size=m:=by simp [qg,ByteArray.size]
 have hbig : ¬(9223372036854775807<((l:Int)+(m:Int))):=aad
 have hfc : ∀w:World,(Builtin.firstCells 1 m (.string (qg m))).run P w = .ok (Builtin.zeroCells (Value.int .u8 0).cells m) w:=fun w=>by
  have:=run_firstCells_string (P:=P) w 1 (qg m)
  rw [hsz,FW]at this
  exact this
 have hz0:m=0->Builtin.zeroCells (Value.int .u8 0).cells m = #[]:=fun h=>by subst h;simp [Builtin.zeroCells]
 have hfit : ¬(l+m<=c)->¬(281474976710656<Builtin.nextslicecap (l+m) c):=fun hg=>by
  have:=growslice_fits (need:=l+m) (old:=c) (bytes:=1) aad aad
  omega
 by_cases hroom:l+m<=c
 ·by_cases h0:m=0
  ·have h00:=hz0 h0
   subst h0
   have hw0:IntKind.i64.wrap 0=0:=rfl
   rw [h00]at hfc
   simp [Builtin.append_,run_underlying ht,run_underlying htn,run_underlying hu,sizeOf,typeInfo,zeroValue,hi,hz1,hi1,hb',asInt,asIntOf,Builtin.lenOf,hsz,hfc,hw0,show l<=c by omega]
  ·simp [Builtin.append_,run_underlying ht,run_underlying htn,run_underlying hu,sizeOf,typeInfo,zeroValue,hi,hz1,hi1,hb',asInt,asIntOf,Builtin.lenOf,hsz,hfc,hw,hneg,h48,h0,hbig,hroom]
 ·have hf:=hfit hroom
  by_cases h0:m=0
  ·have h00:=hz0 h0
   subst h0
   have hw0:IntKind.i64.wrap 0=0:=rfl
   rw [bU]at hf hroom hm
   have hl0 : ¬(9223372036854775807<(l:Int)):=aad
   rw [h00]at hfc
   simp [Builtin.append_,run_underlying ht,run_underlying htn,run_underlying hu,sizeOf,typeInfo,zeroValue,hi,hz1,hi1,hb',asInt,asIntOf,Builtin.lenOf,hsz,hfc,hw0,h00,hroom,hf,hl0]
  ·simp [Builtin.append_,run_underlying ht,run_underlying htn,run_underlying hu,sizeOf,typeInfo,zeroValue,hi,hz1,hi1,hb',asInt,asIntOf,Builtin.lenOf,hsz,hfc,hw,hneg,h48,h0,hbig,hroom,hf]
theorem FX {t t' ty:TypeId}{d:AV}{x:Int}{vd:Value}{k:IntKind}{K:AV->Nat->jI->Prop}(h:Ns P t t' d x n H K)(st:St G jL jO jQ n σ F H w)(rd:jX n σ F w d vd) :
  kG P (Builtin.append_ #[t,t'] ty #[vd, .int k x]) w (D6 G jL jO jQ n σ F w K):=by
 unfold Ns at h
 split at h
 ·rename_i kn u hn hu
  obtain⟨m,mc,rfl,_,_,_,_,hk⟩:=h.ex
  obtain⟨v,w',hr,hK⟩:=(yT (ty:=ty) hk st rd)
  have hsz:(qg m).size=m:=by simp [qg,ByteArray.size]
  unfold FD at hk
  split at hk
  ·rename_i E l ht _
   split at hk
   ·rename_i sz nV hs hby
    split at hk
    ·rename_i E' sz' rr hl
     cases hc:(Nat.beq sz 1&&Nat.beq nV 1&&FC P E&&Nat.beq E E'&&Nat.beq sz sz')with
     | false=>rw [hc]at hk;exact hk.elim
     | true=>
      rw [hc,cond_true]at hk
      simp only [ah]at hc
      obtain⟨⟨⟨⟨c1,c2⟩,c3⟩,c4⟩,c5⟩:=hc
      have c1:=aj c1
      have c2:=aj c2
      subst c1;subst c2
      have hz:(P.info? E).bind (·.zero)=some (.int .u8 0):=by
       unfold FC at c3
       split at c3
       ·rename_i z hm;rw [hm,of_decide_eq_true c3]
       ·cases c3
      obtain⟨hq1,_⟩:=hk.req
      rw [hsz]at hq1
      obtain⟨_,q2,_⟩:=st.blk _ _ hl
      have key : ∀(oa:Option Addr) (n' c':Nat),n'<=rr.length->vd = .slice oa n' c'->kG P (Builtin.append_ #[t,t'] ty #[vd, .int k (m:Int)]) w (D6 G jL jO jQ n σ F w K):=fun oa n' c' hn' e=>by
       subst e
       exact⟨v,w',(QS ht (QO hu) hn hs hby hz aad).trans hr,hK⟩
      cases rd with
      | oP _ oa _ _ _=>exact key oa 0 0 (aK _) rfl
      | own _ _=>exact key _ _ _ aad rfl
    ·exact hk.elim
   ·exact hk.elim
  ·exact hk.elim
 ·cases h
theorem BR {ts:List TypeId}{as:List AV}{vs:List Value}{ty:TypeId}{K:AV->Nat->jI->Prop}(h:DN P ts as n H K)(st:St G jL jO jQ n σ F H w)(r:kD n σ F w as vs) :
  kG P (Builtin.append_ ts.toArray ty vs.toArray) w (D6 G jL jO jQ n σ F w K):=by
 unfold DN at h
 split at h
 ·rename_i t t' d x
  obtain⟨vd,rfl,rd⟩ : ∃vd,vs = [vd, .string x]∧jX n σ F w d vd:=by
   match vs,r with
   | [v1,v2],r=>exact⟨v1,by rw [r.2.1.kR],r.1⟩
  exact yT h st rd
 ·rename_i t t' d x
  obtain⟨vd,rfl,rd⟩ : ∃vd,vs = [vd, .int .i64 x]∧jX n σ F w d vd:=by
   match vs,r with
   | [v1,v2],r=>exact⟨v1,by rw [r.2.1.kR],r.1⟩
  exact FX h st rd
 ·exact Ak h st r
theorem Dh : ∀ {H:jI} {l:Nat} {b:mD},look H l=some b->setH H l b=H:=by
 intro H
 induction H with
 | nil=>intro l b h;cases h
 | cons p r ih=>
  intro l b h
  unfold look at h
  unfold setH
  cases hb:Nat.beq p.1 l with
  | true=>
   rw [hb,cond_true]at h
   injection h with h
   rw [cond_true, <-h, <-aj hb]
  | false=>
   rw [hb,cond_false]at h
   rw [cond_false,ih h]
theorem yU {α:Type}(cur cs:List α)(o L:Nat)(h:o+cs.length<=L)(hL:L<=cur.length):(cur.take o++cs++cur.drop (o+cs.length)).take L=(cur.take L).take o++cs++(cur.take L).drop (o+cs.length):=by
 have hA:(cur.take o++cs).length=o+cs.length:=by rw [aG,aU];omega
 rw [List.take_append,hA,dI aad,jC,jD,eU aad]
theorem yV {w:World}{g:Nat}{cs:Array Value} : Only g w (w.setRow g cs):=by
 refine⟨rfl,rfl,rfl,by simp [World.setRow],fun k hk=> ?_⟩
 simp only [World.setRow,iJ]
 rw [if_neg (fun e=>hk e.symm)]
theorem FY {ts:List TypeId}{as:List AV}{vs:List Value}{ty:TypeId}{K:AV->Nat->jI->Prop}(h:Nv P ts as n H K)(st:St G jL jO jQ n σ F H w)(r:kD n σ F w as vs) :
  kG P (Builtin.copy_ ts.toArray ty vs.toArray) w (D6 G jL jO jQ n σ F w K):=by
 unfold Nv at h
 split at h
 ·rename_i t t' d s
  obtain⟨vd,vs',rfl,rd,rs⟩ : ∃v1 v2,vs = [v1,v2]∧jX n σ F w d v1∧jX n σ F w s v2:=by
   match vs,r with
   | [v1,v2],r=>exact⟨v1,v2,rfl,r.1,r.2.1⟩
  split at h
  ·rename_i E hu
   split at h
   ·rename_i sz l o k sz' xs hs hcp hsrc
    split at h
    ·rename_i T Ae m hk
     cases hb:(Nat.beq sz 1&&(Nat.beq sz' 1&&Nat.beq Ae 1))with
     | false=>rw [hb]at h;exact h.elim
     | true=>
      rw [hb,cond_true]at h
      simp only [ah]at hb
      obtain rfl:=aj hb.1
      obtain rfl:=aj hb.2.1
      obtain rfl:=aj hb.2.2
      obtain⟨i,hi,hi1⟩:=lY hs
      have hs1:(P.info? E).map (·.size)=some 1:=by rw [hi];exact congrArg some hi1
      obtain⟨uF,k2,c2,news,rfl,hk2,_,hnil,hrow,hR⟩:=JD hsrc st rs
      subst hk2
      obtain⟨q1,q2,mv,hO,VI⟩:=st.blk _ _ hk
      have dst : ∃oa c,vd = .slice oa k c∧o+k<=m.length∧(0<k->∃g,(σ l).b=some g∧oa=some ⟨g,o,none⟩):=by
       unfold JB at hcp
       split at hcp
       ·rename_i l'
        split at hcp
        ·rename_i T' s' m' hk'
         simp only [aA,dF]at hcp
         obtain⟨rfl,rfl,rfl⟩:=hcp
         rw [hk]at hk'
         injection hk' with hk'
         injection hk' with _ _ hk'
         subst hk'
         cases rd with
         | oP _ oa hl hn hc0=>
          rw [hn]at q2
          exact⟨oa,0,by rw [<-q2],by omega,fun h0=>by omega⟩
         | own _ hl=>
          refine⟨(σ l').oa,(σ l').c,by rw [q2],by omega,fun h0=> ?_⟩
          obtain⟨g,cur,hoa,_⟩:=hO.blk h0
          exact⟨g,qN hoa,hoa⟩
        ·cases hcp
       ·rename_i l' o' k'
        simp only [aA,dF]at hcp
        obtain⟨rfl,rfl,rfl⟩:=hcp
        cases rd with
        | sub _ _ _ oa c hl hk1 hc hnil' ho=>
         refine⟨oa,c,rfl,by omega,fun h0=> ?_⟩
         obtain⟨b,hb1,hb2⟩:=ho h0
         rw [q1,dG]at hb2
         exact⟨b,hb1,hb2⟩
       ·cases hcp
      obtain⟨oa,c,rfl,hok,hdst⟩:=dst
      rcases bH (min xs.length k)with h0|h0
      ·rw [h0]at h
       have hrun:=run_copy_none (P:=P) w t t' ty E oa uF k c xs.length c2 hu hs1 h0
       have e:splice m o (xs.take 0)=m:=by simp [splice]
       rw [e,Dh hk]at h
       exact lJ hrun ⟨.v (.int .i64 0),n,σ,F,H,h,st,Ext.refl n σ F w, .v _⟩
      ·obtain⟨g,hgb,rfl⟩:=hdst aad
       obtain⟨g',cur,hoa,hg0,hB,hle,hcm,hcl,htk⟩:=hO.blk aad
       have hgb':=qN hoa
       rw [hgb]at hgb'
       injection hgb' with hgb'
       subst hgb'
       rw [dG]at hcl htk
       have hnl:news.length=xs.length:=by have:=hR.2.1;rwa [dG]at this
       obtain⟨b2,o2,rfl,_,hcells⟩:=hrow.get aad
       generalize hn0:min xs.length k=n0 at *
       have NM:(news.take n0).length=n0:=aby
       have h1 : ∀v∈news.take n0,v.oneCell'=true:=fun v hv=>hR.2.2.1 v (dM hv)
       have hrun:=run_copy_row (P:=P) w t t' ty E g o k c ⟨b2,o2,none⟩ xs.length c2 cur.toArray T (news.take n0) hu hs1 hB (by rw [NM];exact hn0.symm) (fun j v hj=>by
        rw [add0]
        rw [aW]at hj
        split at hj
        ·exact hcells j v hj
        ·cases hj) (by rw [NM];simp;omega) h1
       rw [NM]at hrun
       have hB':=setRow_heap w g cur.toArray (cur.take o++news.take n0++cur.drop (o+n0)).toArray T (0,0) hB
       have hxl:(xs.take n0).length=n0:=aby
       have hsl:(splice m o (xs.take n0)).length=m.length:=by simp only [splice,hxl,aG,aU,bD];omega
       have p1:=VI.part (i:=0) (j:=o) aad
       have p2:=hR.part (i:=0) (j:=n0) aad
       have p3:=VI.part (i:=o+n0) (j:=m.length -(o+n0)) aad
       simp only [eG,iH,dG]at p1 p2 p3
       have hmv:mv.length=m.length:=by have:=VI.2.1;rwa [dG]at this
       rw [dI (by rw [bD];omega),dI (by rw [bD];omega)]at p3
       have hrep:mY F w 1 (splice m o (xs.take n0)) (mv.take o++news.take n0++mv.drop (o+n0)):=by
        unfold splice
        rw [hxl]
        exact(p1.append p2).append p3
       obtain⟨s2,x2⟩:=st.write (w':=w.setRow g (cur.take o++news.take n0++cur.drop (o+n0)).toArray) hk rfl hgb yV (.rows T 1 (splice m o (xs.take n0))) fun _ hE=>⟨q1,by rw [hsl];exact q2,_,by
         rw [hoa,hsl]
         refine Own.wQ (xs:=mv.take o++news.take n0++mv.drop (o+n0)) hB' hg0 hle hcm ?_ ?_
         ·rw [dG];simp only [aG,aU,bD];omega
         ·rw [dG, <-htk]
          have:=yU cur (news.take n0) o m.length (by rw [NM];omega) aad
          rwa [NM]at this,hrep.mono hE.f⟩
       have e:goInt n0 = .int .i64 (n0:Int):=rfl
       exact lJ hrun ⟨.v (.int .i64 (n0:Int)),n,σ,F,_,h,s2,x2,by rw [e];exact .v _⟩
    ·cases h
   ·cases h
  ·cases h
 ·cases h
theorem VJ (zs:List Value):rE F w (zs.map .v) zs:=⟨by simp,fun j a v h1 h2=>by
 rw [aI,h2]at h1
 simp only [bn,aA]at h1
 rw [<-h1];exact .v _⟩
theorem Am {zs:List Value}{sz:Nat}(hz:zs.length=sz)(h1 : ∀v∈zs,v.oneCell'=true) : ∀m:Nat,mY F w sz (List.replicate m (zs.map .v)) (List.replicate m zs).flatten:=by
 intro m
 induction m with
 | zero=>exact mY.nil sz
 | succ m ih=>rw [dQ,dQ,gK];exact .cons (VJ zs) hz h1 ih
theorem NP {zs:List Value}{sz m mc:Nat}(hz:zs.length=sz)(h:m<=mc):(List.replicate mc zs).flatten.take (m*sz)=(List.replicate m zs).flatten:=by
 obtain⟨d,rfl⟩:=Nat.exists_eq_add_of_le h
 rw [<-List.replicate_append_replicate,List.flatten_append]
 have:m*sz=(List.replicate m zs).flatten.length:=by simp [hz]
 rw [this]
 exact List.take_left
theorem Le {t E ty:TypeId}{g o m c sz:Nat}{zs:List Value}{cur:Array Value}{T:TypeId}(hu:P.underlying t=some (.slice E))(hs:szB P E=some sz)(hz:pz P E=some zs)(hzl:zs.length=sz)(hsz:1<=sz)(h1 : ∀v∈zs,v.oneCell'=true)
  (hg:w.heap[g]? = some (.cells cur T (0,0))) (hfit:o+(m+1)*sz<=cur.size) :
  (Builtin.clear_ #[t] ty #[.slice (some ⟨g,o,none⟩) (m+1) c]).run P w = .ok (.tuple #[]) (w.setRow g (cur.toList.take o++(List.replicate (m+1) zs).flatten++cur.toList.drop (o+(m+1)*sz)).toArray):=by
 obtain⟨i,hi,rfl⟩:=lY hs
 obtain⟨z,hz1,hz2⟩ : ∃z,i.zero=some z∧z.cells.toList=zs:=by
  unfold pz at hz
  simp only [hi,dh]at hz
  cases hzz:i.zero with
  | none=>simp [hzz]at hz
  | some z=>simp only [hzz,bn,aA]at hz;exact⟨z,rfl,hz⟩
 have hzc:z.cells.size=i.size:=aaI
 have hfl:(List.replicate (m+1) zs).flatten.length=(m+1)*i.size:=by simp [hzl]
 have hst:=run_storeCells_at P g o T (List.replicate (m+1) zs).flatten 0 cur w hg (by rw [hfl];simpa using hfit) (fun v hv=>by
  obtain⟨l,hl,hv⟩:=List.mem_flatten.1 hv
  rw [List.eq_of_mem_replicate hl]at hv
  exact h1 v hv)
 rw [hfl,bU]at hst
 have hmc:(Builtin.zeroCells z.cells (m+1)).toList=(List.replicate (m+1) zs).flatten:=by
  have e:Builtin.zeroCells z.cells (m+1)=(List.replicate (m+1) z.cells.toList).flatten.toArray:=by
   rw [<-uz z.cells (m+1) i.size hzc hsz]
   unfold Builtin.zeroCells
   rw [hzc]
  rw [e,hz2]
 have hv:(zeroValue E).run P w = .ok z w:=by simp [zeroValue,typeInfo,hi,hz1]
 simp [Builtin.clear_,run_underlying hu,hv,hmc,hst]
theorem Ea {ts:List TypeId}{as:List AV}{vs:List Value}{ty:TypeId}{K:AV->Nat->jI->Prop}(h:II P H ts as fun H'=>K (.kZ []) n H')(st:St G jL jO jQ n σ F H w)(r:kD n σ F w as vs) :
  kG P (Builtin.clear_ ts.toArray ty vs.toArray) w (D6 G jL jO jQ n σ F w K):=by
 have Yi : ∀(n':Nat) (σ':Nat->Loc) (F':Nat->Prop) (w':World),jX n' σ' F' w' (.kZ []) (.tuple #[]):=fun _ _ _ _=> .kZ [] [] rfl fun _ _ _ h=>by cases h
 unfold II at h
 split at h
 ·rename_i t d
  obtain⟨vd,rfl,rd⟩ : ∃v1,vs = [v1]∧jX n σ F w d v1:=by
   match vs,r with
   | [v1],r=>exact⟨v1,rfl,r.1⟩
  split at h
  ·rename_i E hu
   have zero : ∀(oa:Option Addr) (c:Nat),K (.kZ []) n H->kG P (Builtin.clear_ [t].toArray ty [Value.slice oa 0 c].toArray) w (D6 G jL jO jQ n σ F w K):=fun oa c hk=>
    lJ (v:= .tuple #[]) (w':=w) (by cases oa<;>simp [Builtin.clear_,run_underlying hu]) ⟨.kZ [],n,σ,F,H,hk,st,Ext.refl n σ F w,Yi _ _ _ _⟩
   split at h
   ·rw [rd.kR]
    exact zero none 0 h
   ·rename_i hne
    clear hne
    split at h
    ·rename_i sz zs l o k hs hz hcp
     split at h
     ·rename_i T sz' m hk
      cases hb:(Nat.beq sz sz'&&(Nat.beq zs.length sz&&(Nat.ble 1 sz&&zs.all (·.oneCell'))))with
      | false=>rw [hb]at h;exact h.elim
      | true=>
       rw [hb,cond_true]at h
       simp only [ah]at hb
       obtain⟨b1,b2,b3,b4⟩:=hb
       obtain rfl:=aj b1
       have hzl:=aj b2
       have hsz:=ak b3
       have h1:=bf.1 b4
       obtain⟨q1,q2,mv,hO,VI⟩:=st.blk _ _ hk
       have dst : ∃oa c,vd = .slice oa k c∧o+k<=m.length∧(0<k->∃g,(σ l).b=some g∧oa=some ⟨g,o*sz,none⟩):=by
        unfold JB at hcp
        split at hcp
        ·rename_i l'
         split at hcp
         ·rename_i T' s' m' hk'
          simp only [aA,dF]at hcp
          obtain⟨rfl,rfl,rfl⟩:=hcp
          rw [hk]at hk'
          injection hk' with hk'
          injection hk' with _ _ hk'
          subst hk'
          cases rd with
          | oP _ oa hl hn hc0=>
           rw [hn]at q2
           exact⟨oa,0,by rw [<-q2],by omega,fun h0=>by omega⟩
          | own _ hl=>
           refine⟨(σ l').oa,(σ l').c,by rw [q2],by omega,fun h0=> ?_⟩
           obtain⟨g,cur,hoa,_⟩:=hO.blk h0
           exact⟨g,qN hoa,by rw [hoa,eG]⟩
         ·cases hcp
        ·rename_i l' o' k'
         simp only [aA,dF]at hcp
         obtain⟨rfl,rfl,rfl⟩:=hcp
         cases rd with
         | sub _ _ _ oa c hl hk1 hc hnil' ho=>
          refine⟨oa,c,rfl,by omega,fun h0=> ?_⟩
          obtain⟨b,hb1,hb2⟩:=ho h0
          rw [q1]at hb2
          exact⟨b,hb1,hb2⟩
        ·cases hcp
       obtain⟨oa,c,rfl,hok,hdst⟩:=dst
       rcases bH k with h0|h0
       ·subst h0
        have e:splice m o (List.replicate 0 (zs.map FV.v))=m:=by simp [splice]
        rw [e,Dh hk]at h
        exact zero oa c h
       ·obtain⟨g,hgb,rfl⟩:=hdst h0
        obtain⟨g',cur,hoa,hg0,hB,hle,hcm,hcl,htk⟩:=hO.blk (show 0<m.length by omega)
        have hgb':=qN hoa
        rw [hgb]at hgb'
        injection hgb' with hgb'
        subst hgb'
        obtain⟨k,rfl⟩ : ∃j,k=j+1:=⟨k-1,by omega⟩
        have hmul:(o+(k+1))*sz<=m.length*sz:=aP _ hok
        rw [aX]at hmul
        have hcm':m.length*sz<=cur.length:=by rw [hcl];exact aP _ aad
        have hrun:=Le (w:=w) (ty:=ty) (c:=c) (o:=o*sz) hu hs hz hzl hsz h1 (m:=k) hB (by simpa using bZ hmul hcm')
        have hB':=setRow_heap w g cur.toArray (cur.take (o*sz)++(List.replicate (k+1) zs).flatten++cur.drop (o*sz+(k+1)*sz)).toArray T (0,0) hB
        have hfl:(List.replicate (k+1) zs).flatten.length=(k+1)*sz:=by simp [hzl]
        have hsl:(splice m o (List.replicate (k+1) (zs.map FV.v))).length=m.length:=by simp only [splice,bF,aG,aU,bD];omega
        have p1:=VI.part (i:=0) (j:=o) aad
        have p2:=Am (F:=F) (w:=w) hzl h1 (k+1)
        have p3:=VI.part (i:=o+(k+1)) (j:=m.length -(o+(k+1))) aad
        simp only [eG,iH]at p1
        have hmv:mv.length=m.length*sz:=VI.2.1
        rw [dI (by rw [bD];omega),dI (by rw [bD,Nat.sub_mul,hmv];omega),aX]at p3
        have hrep:mY F w sz (splice m o (List.replicate (k+1) (zs.map FV.v))) (mv.take (o*sz)++(List.replicate (k+1) zs).flatten++mv.drop (o*sz+(k+1)*sz)):=by
         unfold splice
         rw [bF]
         exact(p1.append p2).append p3
        obtain⟨s2,x2⟩:=st.write (w':=w.setRow g (cur.take (o*sz)++(List.replicate (k+1) zs).flatten++cur.drop (o*sz+(k+1)*sz)).toArray) hk rfl hgb yV (.rows T sz (splice m o (List.replicate (k+1) (zs.map FV.v)))) fun _ hE=>⟨q1,by rw [hsl];exact q2,_,by
          rw [hoa,hsl]
          refine Own.wQ (xs:=mv.take (o*sz)++(List.replicate (k+1) zs).flatten++mv.drop (o*sz+(k+1)*sz)) hB' hg0 hle hcm ?_ ?_
          ·simp only [aG,aU,bD,hfl];omega
          ·rw [<-htk]
           have:=yU cur (List.replicate (k+1) zs).flatten (o*sz) (m.length*sz) (by rw [hfl];omega) aad
           rwa [hfl]at this,hrep.mono hE.f⟩
        exact lJ hrun ⟨.kZ [],n,σ,F,_,h,s2,x2,Yi _ _ _ _⟩
     ·cases h
    ·cases h
  ·cases h
 ·cases h
theorem FZ {w:World}{K:Value->World->Prop}{t E:TypeId}{sz nV n m:Nat}{kl kc:IntKind}{zs:List Value}
  (ht:P.underlying t=some (.slice E)) (hs:szB P E=some sz) (hby:l7 P E=some nV) (hz:pz P E=some zs) (hzl:zs.length=sz) (hsz:Nat.ble 1 sz=true)
  (hnm:n<=m) (hbytes:nV*m<=140737488355328) (hn:m<=maxLen)
  (k : ∀w',w'=w.alloc (.cells (List.replicate m zs).flatten.toArray E)->oH w' w.heap.size (List.replicate m zs).flatten E->K (.slice (some ⟨w.heap.size,0,none⟩) n m) w') :
  kG P (Instr.makeSlice t (.int kl (n:Int)) (.int kc (m:Int))) w K:=by
 obtain⟨i,hi,rfl⟩:=lY hs
 have hb':i.bytes=nV:=by simpa [l7,hi]using hby
 subst hb'
 obtain⟨z,hz1,hz2⟩ : ∃z,i.zero=some z∧z.cells.toList=zs:=by
  unfold pz at hz
  simp only [hi,dh]at hz
  cases hzz:i.zero with
  | none=>simp [hzz]at hz
  | some z=>simp only [hzz,bn,aA]at hz;exact⟨z,rfl,hz⟩
 have hsz':1<=i.size:=ak hsz
 have hzc:z.cells.size=i.size:=aaI
 have h63:(m:Int)<=9223372036854775807:=abm
 have hbi:(i.bytes:Int)*(m:Int)<=281474976710656:=by
  rw [<-Int.natCast_mul]
  omega
 have hrun:=run_make (P:=P) w t E i z ht hi hz1 kl kc n m aad aad hbi h63
 have hmc:madeCells z.cells (m*i.size)=(List.replicate m zs).flatten.toArray:=by
  rw [<-hz2, <-uz z.cells m i.size hzc hsz']
  unfold madeCells
  rfl
 simp only [dA]at hrun
 rw [hmc]at hrun
 exact lJ hrun (k _ rfl (by have:=oH.new w (List.replicate m zs).flatten.toArray E;simpa using this))
theorem yB {t:TypeId}{l c:AV}{vl vc:Value}{K:AV->Nat->jI->Prop}(h:vU P t l c n H K)(st:St G jL jO jQ n σ F H w)(rl:jX n σ F w l vl)(rc:jX n σ F w c vc) :
  kG P (Instr.makeSlice t vl vc) w (D6 G jL jO jQ n σ F w K):=by
 unfold vU at h
 split at h
 ·rename_i k1 x k2 y
  rw [rl.kR,rc.kR]
  split at h
  ·rename_i E hu
   split at h
   ·rename_i sz nV zs hs hby hz
    cases hb:(Nat.beq zs.length sz&&Nat.ble 1 sz&&zs.all (·.oneCell'))with
    | false=>rw [hb]at h;exact h.elim
    | true=>
     rw [hb,cond_true]at h
     simp only [ah]at hb
     obtain⟨m,mc,rfl,rfl,hmc,hbm,hm,hk⟩:=h.ex
     have hzl:=aj hb.1.1
     have h1:=bf.1 hb.2
     refine FZ hu hs hby hz hzl hb.1.2 hmc hbm hm fun w' hw hB=> ?_
     subst hw
     have hrz:=Am (F:=F) (w:=w.alloc (.cells (List.replicate mc zs).flatten.toArray E)) hzl h1 m
     have hrc:=Am (F:=F) (w:=w.alloc (.cells (List.replicate mc zs).flatten.toArray E)) hzl h1 mc
     obtain⟨s2,x2⟩:=st.new (w':=w.alloc (.cells (List.replicate mc zs).flatten.toArray E)) (uH.nY (nR (Below.refl _ _) (ay _) _)) ⟨some w.heap.size,m,mc,sz⟩
      (fun g hg=>by injection hg with hg;subst hg;exact⟨ay _,by simp⟩) (.rows E sz (List.replicate m (zs.map .v)))
      ⟨rfl,by simp,_,Own.wQ hB (aK _) (by simpa using hmc) hm (by have:=hrc.2.1;simpa using this) (by
       rw [bF];exact NP hzl hmc),hrz⟩
     refine⟨_,_,_,_,_,hk,s2,x2, ?_⟩
     have:=jX.own (n:=n+1) (σ:=sS σ n ⟨some w.heap.size,m,mc,sz⟩) (F:=F) (w:=w.alloc (.cells (List.replicate mc zs).flatten.toArray E)) n aad
     rw [kH]at this
     exact this
   ·cases h
  ·cases h
 ·cases h
theorem St.start (st:St G jL jO jQ n σ F H w):St G w (qX w σ H) F n σ F H w:=
 ⟨st.glob,uH.refl _ _,fun b hb=>⟨(st.lI b hb).1, .inl hb⟩,st.lab,fun jT b g h hm hg=>⟨(st.mu jT b g h hm hg).1,(st.mu jT b g h hm hg).2.1,(st.mu jT b g h hm hg).2.2.1, .inl ⟨jT,b,h,hm,hg⟩⟩,st.inj,st.blk⟩
theorem St.back (st:St G jL jO jQ n σ F H w){n':Nat}{σ':Nat->Loc}{F':Nat->Prop}{H':jI}{w':World}(s:St G w (qX w σ H) F n' σ' F' H' w'):St G jL jO jQ n' σ' F' H' w':=by
 have hM : ∀b,qX w σ H b->jO b∨jL.heap.size<=b:=fun b ⟨jT,blk,h1,h2,h3⟩=>(st.mu jT blk b h1 h2 h3).2.2.2
 have hw0:=st.nN.size
 refine⟨s.glob,st.nN.trans s.nN hM,fun b hb=>⟨(s.lI b hb).1, ?_⟩,s.lab,fun jT b g h hm hg=> ?_,s.inj,s.blk⟩
 ·rcases(s.lI b hb).2 with h|h|h
  ·exact(st.lI b h).2
  ·exact .inr (.inl aad)
  ·exact(hM b h).elim (fun h=> .inr (.inr h)) fun h=> .inr (.inl h)
 ·obtain⟨h1,h2,h3,h4⟩:=s.mu jT b g h hm hg
  exact⟨h1,h2,h3,h4.elim (hM g) fun h=> .inr aad⟩
theorem tY.sound {f:FuncId}{as:List AV}{vs:List Value}{K:AV->Nat->jI->Prop}(h:tY P G f as n H K)(st:St G jL jO jQ n σ F H w)(r:kD n σ F w as vs):MI P f vs.toArray w (D6 G jL jO jQ n σ F w K):=
 lW h.ok (h.runs w σ F vs st.start r) fun v w' ⟨a,n',σ',F',H',hk,s,x,ra⟩=>⟨a,n',σ',F',H',hk,st.back s,x,ra⟩
theorem F5 (l:List Value):kD n σ F w (l.map FB) l:=by
 induction l with
 | nil=>trivial
 | cons v r ih=>exact⟨pF v,ih⟩
theorem F6 {a:AV}{x v:Value}(h:Nu a=some x)(r:jX n σ F w a v):v=x:=by
 unfold Nu at h
 split at h
 ·injection h with h;rw [r.kR,h]
 ·split at h
  ·rename_i l hl
   injection h with h
   obtain⟨us,rfl,h2⟩:=kD.yQ r
   rw [<-h,Af hl h2]
  ·cases h
 ·cases h
theorem rZ {t:TypeId}{m k x:AV}{vm vk vx:Value}{K:jI->Prop}(h:sO P H t m k x K)(st:St G jL jO jQ n σ F H w)(rm:jX n σ F w m vm)(rk:jX n σ F w k vk)(rx:jX n σ F w x vx) :
  rD P (Instr.mapUpdate t vm vk vx) w fun w'=>D6 G jL jO jQ n σ F w (fun _ n' H'=>n'=n∧K H') undef w':=by
 unfold sO at h
 split at h
 ·rename_i l i
  rw [rk.kR]
  cases rm with
  | mp _ b hl hb=>
   split at h
   ·rename_i kt et M0 hu hk
    split at h
    ·rename_i hkt
     have key : ∃y H' F',(match look H' l with|some (.vS M)=>K (setH H' l (.vS fun k'=>if k'=i then some y else M k'))|_=>False)∧St G jL jO jQ n σ F' H' w∧Ext n σ F w n σ F' w∧lN F' w y vx:=by
      cases hv:Nu x with
      | some v=>
       rw [hv]at h
       have e:=F6 hv rx
       subst e
       exact⟨_,H,F,h,st, .refl _ _ _ _, .v _⟩
      | none=>
       rw [hv]at h
       exact FP h st rx
     obtain⟨y,H',F',h,s1,e1,ry⟩:=key
     split at h
     ·rename_i M hk'
      obtain⟨g,hg,V,hM,hV⟩:=s1.blk _ _ hk'
      rw [hb]at hg
      injection hg with hg
      subst hg
      refine QE hu hkt hM fun w' hO hM'=> ?_
      obtain⟨s2,x2⟩:=s1.write hk' rfl hb hO (.vS fun k'=>if k'=i then some y else M k') fun _ hE=>⟨b,hb,_,hM',fun k'=>by
       by_cases e:k'=i
       ·simp only [if_pos e];exact ry.mono hE.f
       ·simp only [if_neg e]
        have:=hV k'
        split at this
        ·exact this.mono hE.f
        ·trivial
        ·exact this.elim⟩
      exact⟨.v undef,_,_,_,_,⟨rfl,h⟩,s2,e1.trans x2, .v _⟩
     ·cases h
    ·cases h
   ·cases h
 ·rename_i l s
  rw [rk.kR]
  cases rm with
  | mp _ b hl hb=>
   split at h
   ·rename_i kt et M hu hk
    split at h
    ·rename_i v hkt hv
     rw [F6 hv rx]
     obtain⟨g,hg,hM⟩:=st.blk _ _ hk
     rw [hb]at hg
     injection hg with hg
     subst hg
     refine Jz hu hkt hM fun w' hO hM'=> ?_
     obtain⟨s2,x2⟩:=st.write hk rfl hb hO (.map fun k'=>if k'=s then some v else M k') fun _ hE=>⟨b,hb,hM'⟩
     exact⟨.v undef,_,_,_,_,⟨rfl,h⟩,s2,x2, .v _⟩
    ·cases h
   ·rename_i kt et M0 hu hk
    split at h
    ·rename_i cs hkt
     obtain⟨us,rfl,r2⟩:=kD.yQ rx
     obtain⟨r,H',F',h,s1,e1,ry⟩:=yu h st r2
     split at h
     ·rename_i M hk'
      obtain⟨g,hg,V,hM,hV⟩:=s1.blk _ _ hk'
      rw [hb]at hg
      injection hg with hg
      subst hg
      refine Jz hu hkt hM fun w' hO hM'=> ?_
      obtain⟨s2,x2⟩:=s1.write hk' rfl hb hO (.smap fun k'=>if k'=s then some r else M k') fun _ hE=>⟨b,hb,_,hM',fun k'=>by
       by_cases e:k'=s
       ·simp only [if_pos e];exact⟨us,rfl,ry.mono hE.f⟩
       ·simp only [if_neg e]
        have:=hV k'
        split at this
        ·obtain⟨vs,e,r⟩:=this;exact⟨vs,e,r.mono hE.f⟩
        ·trivial
        ·exact this.elim⟩
      exact⟨.v undef,_,_,_,_,⟨rfl,h⟩,s2,e1.trans x2, .v _⟩
     ·cases h
    ·cases h
   ·cases h
 ·cases h
variable {kS:jM}{ρ:jU}
theorem IW : ∀ {cs:List AV} {vs us:List Value},valsOf cs=some vs->kD n σ F w cs us->us=vs:=by
 intro cs
 induction cs with
 | nil=>intro vs us h r;injection h with h;subst h;cases us with
  | nil=>rfl
  | cons _ _=>exact r.elim
 | cons c cs ih=>
  intro vs us h r
  cases us with
  | nil=>exact r.elim
  | cons u us=>
   cases c<;>try (unfold valsOf at h;cases h)
   rename_i x
   unfold valsOf at h
   cases hl:valsOf cs with
   | none=>rw [hl]at h;cases h
   | some l=>
    rw [hl]at h
    injection h with h
    subst h
    rw [ih hl r.2,r.1.kR]
theorem ug {o:Oper}{K:AV->Nat->jI->Prop}(h:aE P G o kS n H K)(hi:rP o=true)(st:St G jL jO jQ n σ F H w)(hr : ∀s,jX n σ F w (kS s) (ρ s)) :
  zO P false o ρ w (D6 G jL jO jQ n σ F w K):=by
 have quiet:aQ P H H o kS (fun a=>K a n H)->zO P false o ρ w (D6 G jL jO jQ n σ F w K):=fun h=>by
  obtain⟨a,v,h1,h2,h3⟩:=Ah h hi st.hrep st.hrep hr
  exact h3 w false _ (qh.refl _ _ _ _) ⟨a,n,σ,F,H,h1,st,Ext.refl _ _ _ _,h2⟩
 have newVar : ∀(elem:TypeId) (cs:List AV) (vs:List Value),all1 cs=true->kD n σ F w cs vs->K (.ptr n 0) (n+1) ((n, .var elem cs)::H)->
   D6 G jL jO jQ n σ F w K (.pointer (some ⟨w.heap.size,0,none⟩)) (w.alloc (.cells vs.toArray elem)):=fun elem cs vs h1 rc hk=>by
  have hE0:Ext n σ F w (n+1) (sS σ n ⟨some w.heap.size,0,0,0⟩) F (w.alloc (.cells vs.toArray elem)):=⟨by omega,fun k hk=>lC aad,fun b hb=>⟨hb,heap_alloc_old w _ b (st.lI b hb).1⟩,by simp⟩
  obtain⟨s2,x2⟩:=st.new (w':=w.alloc (.cells vs.toArray elem)) (uH.nY (nR (Below.refl _ _) (ay _) _)) ⟨some w.heap.size,0,0,0⟩
   (fun g hg=>by injection hg with hg;subst hg;exact⟨ay _,by simp⟩) (.var elem cs) ⟨w.heap.size,vs,rfl,oH.new w _ _,rc.mono hE0,Ai h1 rc⟩
  exact⟨_,_,_,_,_,hk,s2,x2, .ptr n 0 _ aad abn⟩
 unfold aE at h
 unfold zO
 cases ho:o.op<;>simp only [ho]at h
 case alloc elem=>
  dsimp only
  split at h
  ·rename_i z hz
   cases hb:all1 (z.cells.toList.map AV.v)with
   | false=>rw [hb]at h;exact h.elim
   | true=>
    rw [hb,cond_true,lQ]at h
    have:=newVar elem _ _ hb (yg z.cells.toList) h
    rw [hz]
    rw [fP]at this
    cases z<;>exact this
  ·cases h
 case box elem x=>
  dsimp only
  cases hb:all1 (cellsOf (lK kS x))with
  | false=>rw [hb]at h;exact h.elim
  | true=>
   rw [hb,cond_true,oJ]at h
   have:=newVar elem _ _ hb (vZ (kC hr x) hb) h
   rw [fP]at this
   rw [force_eq]
   split
   ·rename_i cs e;rw [e]at this;exact this
   ·exact this
 case buildSlice t m parts=>
  dsimp only
  simp only [oJ,lQ]at h
  rw [kK]
  exact xk h aaA st (CW hr parts.toList)
 case store t a x=>
  dsimp only
  simp only [nO,lQ]at h
  obtain⟨p,hp,hv⟩:=D7 h st (kC hr a) (kC hr x)
  rw [hp]
  simp only [force_eq]
  obtain⟨u,w',e,a',n',σ',F',H',⟨rfl,hk⟩,s,x',_⟩:=hv.ex
  exact⟨u,w',e, .v undef,n',σ',F',H',hk,s,x', .v _⟩
 case makeSlice t l c=>
  dsimp only
  rw [nO,nO]at h
  simp only [force_eq]
  exact yB h st (kC hr l) (kC hr c)
 case makeMap t r=>
  dsimp only
  cases r with
  | some _=>exact h.elim
  | none=>
   show kG P (Instr.makeMap t none) w (wr false w (D6 G jL jO jQ n σ F w K))
   dsimp only at h
   split at h
   ·refine Fq fun w' hB hM=> ?_
    obtain⟨s2,x2⟩:=st.new (w':=w') (uH.nY hB) ⟨some w.heap.size,0,0,0⟩ (fun g hg=>by injection hg with hg;subst hg;exact⟨ay _,hM.lt⟩) (.vS fun _=>none) ⟨w.heap.size,rfl,_,hM,fun _=>trivial⟩
    exact⟨_,_,_,_,_,h,s2,x2, .mp n _ aad abn⟩
   ·refine Ip fun w' hB hM=> ?_
    split at h
    ·obtain⟨s2,x2⟩:=st.new (w':=w') (uH.nY hB) ⟨some w.heap.size,0,0,0⟩ (fun g hg=>by injection hg with hg;subst hg;exact⟨ay _,hM.lt⟩) (.smap fun _=>none) ⟨w.heap.size,rfl,_,hM,fun _=>trivial⟩
     exact⟨_,_,_,_,_,h,s2,x2, .mp n _ aad abn⟩
    ·obtain⟨s2,x2⟩:=st.new (w':=w') (uH.nY hB) ⟨some w.heap.size,0,0,0⟩ (fun g hg=>by injection hg with hg;subst hg;exact⟨ay _,hM.lt⟩) (.map fun _=>none) ⟨w.heap.size,rfl,hM⟩
     exact⟨_,_,_,_,_,h,s2,x2, .mp n _ aad abn⟩
 case mapUpdate t m k x=>
  dsimp only
  simp only [nO,lQ]at h
  simp only [force_eq]
  obtain⟨u,w',e,a',n',σ',F',H',⟨rfl,hk⟩,s,x',_⟩:=(rZ h st (kC hr m) (kC hr k) (kC hr x)).ex
  exact⟨u,w',e, .v undef,n',σ',F',H',hk,s,x', .v _⟩
 case insert t m k x=>
  dsimp only
  simp only [nO,lQ]at h
  simp only [force_eq]
  obtain⟨u,w',e,a',n',σ',F',H',⟨rfl,hk⟩,s,x',_⟩:=(rZ h st (kC hr m) (kC hr k) (kC hr x)).ex
  exact⟨u,w',e, .v undef,n',σ',F',H',hk,s,x', .v _⟩
 case call c=>
  obtain⟨callee,args,ats⟩:=c
  cases callee with
  | builtin b=>
   cases b with
   | append=>
    dsimp only at h ⊢
    simp only [oJ,lQ]at h
    simp only [yM,qJ,kK,vJ]
    exact BR h st (qj hr args.toList)
   | copy=>
    dsimp only at h ⊢
    simp only [oJ,lQ]at h
    simp only [yM,qJ,kK,vJ]
    exact FY h st (qj hr args.toList)
   | clear=>
    dsimp only at h ⊢
    simp only [oJ,lQ]at h
    simp only [yM,qJ,kK,vJ]
    exact Ea h st (qj hr args.toList)
   | _=>
    have:=quiet h
    unfold zO at this
    rw [ho]at this
    exact this
  | value f=>
   dsimp only at h ⊢
   have rf:=kC hr f
   simp only [yM]
   split at h
   ·rename_i g first captured hf
    rw [hf]at rf
    rw [rf.kR]
    rw [oJ]at h
    simp only [qJ,kK]
    have:=h.sound st (((F5 first.toList).append (qj hr args.toList)).append (F5 captured.toList))
    have e:((first.toList++args.toList.map (mQ ρ))++captured.toList).toArray=(first++(args.toList.map (mQ ρ)).toArray)++captured:=by
     apply gU
     simp
    rw [e]at this
    exact this
   ·rename_i g first captured hf
    rw [hf]at rf
    generalize mQ ρ f=z at rf
    cases rf with
    | fn _ _ _ us vs hx hy rx ry=>
     rw [oJ]at h
     simp only [qJ,kK]
     have:=h.sound st ((kD.append (.of hx rx) (qj hr args.toList)).append (.of hy ry))
     simpa using this
   ·cases h
  | invoke r m=>
   have:=quiet h
   unfold zO at this
   rw [ho]at this
   exact this
 case convert src dst x=>
  cases ht:DR P src dst with
  | false=>
   rw [ht]at h
   have:=quiet h
   unfold zO at this
   rw [ho]at this
   exact this
  | true=>
   rw [ht]at h
   dsimp only at h ⊢
   have rx:=kC hr x
   split at h
   ·rename_i s hx
    rw [hx]at rx
    rw [rx.kR]
    obtain⟨e,hs,hd,he⟩ : ∃e,P.underlying src=some .string∧P.underlying dst=some (.slice e)∧P.underlying e=some (.int .u8):=by
     unfold DR at ht
     split at ht
     ·rename_i e h1 h2
      split at ht
      ·rename_i h3;exact⟨e,h1,h2,h3⟩
      ·cases ht
     ·cases ht
    have key:kG P (Go.convert src dst (.string s)) w (D6 G jL jO jQ n σ F w K):=by
     refine Vq hs hd he fun c w' hc hrow hB=> ?_
     obtain⟨s2,x2⟩:=st.more (w':=w') (uH.nY hB) (fun b=>b=w.heap.size∧b<w'.heap.size) fun g hg=>by obtain⟨rfl,h2⟩:=hg;exact⟨ay _,h2⟩
     refine⟨_,_,_,_,_,h,s2,x2, .lst ?_⟩
     have hb : ∀i,i<s.data.toList.length->w.heap.size<w'.heap.size∧∃b:UInt8,s.data.toList[i]? = some b∧w'.cell? ⟨w.heap.size,i,none⟩=some (.int .u8 (b.toNat:Int)):=fun i hi=>by
      rcases hrow with h0|⟨b,o',e1,hlt,hcell⟩
      ·have:(kV s.data.toList).length=0:=by rw [h0];rfl
       simp only [kV,au]at this
       omega
      ·injection e1 with e1
       injection e1 with e1 e2
       subst e1;subst e2
       refine⟨hlt,s.data.toList[i],aB hi, ?_⟩
       have:=hcell i _ (qF hi)
       rwa [aJ]at this
     refine .lst 1 _ _ _ c w.heap.size 0 (by rw [au]) hc (fun e=>by cases e) (fun h0=>⟨rfl, .inr ⟨rfl,(hb 0 h0).1⟩⟩) (fun row hr=>by obtain⟨x,_,rfl⟩:=dH.1 hr;rfl) (fun i j hi hj=> ?_) (fun i j row a v hi hj hv=> ?_)
     ·obtain⟨_,b,_,h2⟩:=hb i hi
      have hj0:j=0:=aad
      subst hj0
      exact⟨_,by rw [aJ,dG,bU];exact h2,rfl⟩
     ·rw [aI]at hi
      cases hx2:s.data.toList[i]? with
      | none=>rw [hx2]at hi;cases hi
      | some y=>
       rw [hx2]at hi
       injection hi with hi
       subst hi
       obtain⟨_,b,h1,h2⟩:=hb i (aF.1 hx2).1
       rw [hx2]at h1
       injection h1 with h1
       subst h1
       match j,hj with
       | 0,hj=>
        injection hj with hj
        subst hj
        rw [aJ,dG,bU,h2]at hv
        injection hv with hv
        subst hv
        exact .v _
    unfold vw
    rw [hs,hd]
    exact key
   ·cases h
 case slice t x lo hi mx=>
  split at h
  rotate_left
  ·have:=quiet h
   unfold zO at this
   rw [ho]at this
   exact this
  rename_i l vs ha
  rw [lQ]at h
  have rx:=kC hr x
  unfold Yd at ha
  split at ha
  rotate_left
  ·cases ha
  rename_i l' hx
  split at ha
  rotate_left
  ·cases ha
  rename_i m e t' cs hu hl
  split at ha
  rotate_left
  ·cases ha
  rename_i vs' hs hv
  cases hb:Nat.beq vs'.length m with
  | false=>rw [hb]at ha;cases ha
  | true=>
   rw [hb,cond_true]at ha
   injection ha with ha
   injection ha with e1 e2
   subst e1 e2
   rw [hx]at rx
   simp only [Option.map_none,force_eq,vI]
   generalize mQ ρ x=vx at rx
   cases rx with
   | ptr _ _ g hlt hg=>
    obtain⟨g',us,hg',hB,hR,h1⟩:=st.blk _ _ hl
    rw [hg]at hg'
    injection hg' with hg'
    subst hg'
    have hus:=IW hv hR
    subst hus
    obtain⟨s2,x2⟩:=st.give hl rfl
    have hm:us.length=m:=aj hb
    have hrun:(Instr.sliceAt t (.pointer (some ⟨g,0,none⟩)) none none none).run P w = .ok (.slice (some ⟨g,0,none⟩) m m) w:=by
     have ea:P.arrayLen t=m:=by unfold Program.arrayLen;rw [hu]
     have ee:P.elem t=e:=by unfold Program.elem;rw [hu]
     rw [run_sliceAt_array_all w t ⟨g,0,none⟩ (by rw [ea,ee];exact hu),ea,ee,mM hs]
     unfold slicedAt
     simp only [Result.andThen_ok]
     by_cases h0:m=0
     ·subst h0;rfl
     ·rw [if_neg h0];rfl
    refine lJ hrun ?_
    refine⟨_,_,_,_,_,h,s2,x2, .lst ?_⟩
    refine .lst 1 _ _ _ m g 0 (by rw [au,hm]) (ay _) (fun e=>by cases e) (fun _=>⟨rfl, .inr hg⟩) (fun row hr=>by obtain⟨x,_,rfl⟩:=dH.1 hr;rfl) (fun i j hi hj=> ?_) (fun i j row a v hi hj hv=> ?_)
    ·have hj0:j=0:=aad
     subst hj0
     have hiu:i<us.length:=aad
     refine⟨us[i], ?_,h1 _ (bQ hiu)⟩
     rw [aJ,dG,bU,hB.cell,aB hiu]
    ·rw [aI]at hi
     cases hx2:us[i]? with
     | none=>rw [hx2]at hi;cases hi
     | some y=>
      rw [hx2]at hi
      injection hi with hi
      subst hi
      match j,hj with
      | 0,hj=>
       injection hj with hj
       subst hj
       rw [aJ,dG,bU,hB.cell,hx2]at hv
       injection hv with hv
       subst hv
       exact .v _
 all_goals
  have:=quiet h
  unfold zO at this
  rw [ho]at this
  exact this
end
end Go.Proofs.YtnandbihiceihaaGreatDoor.Ax
