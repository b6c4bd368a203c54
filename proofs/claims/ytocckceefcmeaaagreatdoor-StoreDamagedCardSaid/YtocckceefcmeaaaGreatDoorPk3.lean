/- Joined parts of the proof. The soundness of stores, appends, allocations and calls; of each operation -/
import Derived.Test.YtocckceefcmeaaaGreatDoorPk2
import Derived.Lib.AppendStr
import Derived.Laws.CopyRow
import Derived.Laws.IdiomCopy
import Derived.ArgAppend
import Derived.Test.YtocckceefcmeaaaGreatDoorPk1
import Derived.Scope
set_option linter.unusedVariables false
set_option linter.unusedSimpArgs false
set_option maxRecDepth 100000
set_option maxHeartbeats 16000000
namespace Go.Proofs.YtocckceefcmeaaaGreatDoor.Ax
open RowKit Go.Lib Vc
theorem zW (vs:List Value) : ∀(l:List Value) (o:Nat),(tZ l o vs).length=l.length:=by
 induction vs with
 | nil=>intro l o;rfl
 | cons v r ih=>intro l o;simp only [tZ];rw [ih,bC]
theorem xP (vs:List Value) : ∀(l:List Value) (o m:Nat),o+vs.length<=l.length->(tZ l o vs)[m]? = if o<=m∧m<o+vs.length then vs[m-o]? else l[m]? :=by
 induction vs with
 | nil=>intro l o m _;simp only [tZ,dQ,dH];rw [if_neg (by omega)]
 | cons v r ih=>
  intro l o m h
  simp only [bg]at h
  simp only [tZ]
  rw [ih _ _ _ (by rw [bC];omega),bg]
  by_cases h1:o+1<=m∧m<o+1+r.length
  ·rw [if_pos h1,if_pos (by omega),show m-o=(m -(o+1))+1 by omega,dI]
  ·rw [if_neg h1]
   by_cases h2:m=o
   ·subst h2
    rw [if_pos (by omega),gJ,bY,dD (by omega)]
   ·rw [if_neg (by omega),gZ (by omega)]
theorem TW {α:Type}(vs:List α) : ∀(l:List α) (o:Nat),(BD l o vs).length=l.length:=by
 induction vs with
 | nil=>intro l o;rfl
 | cons v r ih=>intro l o;simp only [BD];rw [ih,bC]
theorem TY {α:Type}(vs:List α) : ∀(l:List α) (o m:Nat),o+vs.length<=l.length->(BD l o vs)[m]? = if o<=m∧m<o+vs.length then vs[m-o]? else l[m]? :=by
 induction vs with
 | nil=>intro l o m _;simp only [BD,dQ,dH];rw [if_neg (by omega)]
 | cons v r ih=>
  intro l o m h
  simp only [bg]at h
  simp only [BD]
  rw [ih _ _ _ (by rw [bC];omega),bg]
  by_cases h1:o+1<=m∧m<o+1+r.length
  ·rw [if_pos h1,if_pos (by omega),show m-o=(m -(o+1))+1 by omega,dI]
  ·rw [if_neg h1]
   by_cases h2:m=o
   ·subst h2
    rw [if_pos (by omega),gJ,bY,dD (by omega)]
   ·rw [if_neg (by omega),gZ (by omega)]
theorem EK {vs l:List Value}{o:Nat}{v:Value}(h:v∈tZ l o vs):v∈l∨v∈vs:=by
 induction vs generalizing l o with
 | nil=>exact .inl h
 | cons x r ih=>
  simp only [tZ]at h
  rcases ih h with h|h
  ·rcases gV h with h|rfl
   ·exact .inl h
   ·exact .inr (by simp)
  ·exact .inr (by simp [h])
theorem BI {P:Program}{w:World}{t T:TypeId}{b o:Nat}{l:List Value}{v:Value}{K:World->Prop}(hb:qX w b l T)(hs:szB P t=some v.cells.toList.length)(h1 : ∀x∈v.cells.toList,x.oneCell'=true)
  (hl:o+v.cells.toList.length<=l.length) (k : ∀w',Only b w w'->qX w' b (tZ l o v.cells.toList) T->K w'):vw P (storeVar t ⟨b,o,none⟩ v) w K:=by
 obtain⟨w',hr,ho,hbw⟩:=xE (P:=P) v.cells.toList 0 o l w hb (by omega) h1
 refine⟨(),w', ?_,k w' ho hbw⟩
 unfold storeVar
 simp only [Sem.run_bind,qB hs,Result.andThen_ok]
 simp [hr]
section
variable {P:Program}{G:Glob}{lJ:World}{lN lQ:Nat->Prop}{n:Nat}{σ:Nat->Loc}{F:Nat->Prop}{H:lF}{w:World}
theorem pz.setRow {sz:Nat}{l:List (List FV)}{xs vs:List Value}{i o:Nat}{row x:List FV}(r:pz F w sz l xs)(hi:l[i]? = some row)(hx:yU F w x vs)(h1 : ∀v∈vs,v.oneCell'=true)(ho:o+x.length<=row.length) :
  pz F w sz (l.set i (BD row o x)) (tZ xs (i*sz+o) vs):=by
 have hil:=(aG.1 hi).1
 have hrl:=r.1 row (aT hi)
 have hvl:=hx.1
 have hi1:i*sz+sz<=l.length*sz:=by
  have:(i+1)*sz<=l.length*sz:=aU _ hil
  rw [bK,dA]at this;exact this
 refine⟨fun y hy=> ?_,by rw [zW,bC];exact r.2.1,fun v hv=> ?_,fun k j y a v hk hj hv=> ?_⟩
 ·rcases gV hy with hy|rfl
  ·exact r.1 y hy
  ·rw [TW];exact hrl
 ·rcases EK hv with hv|hv
  ·exact r.2.2.1 v hv
  ·exact h1 v hv
 ·rw [xP _ _ _ _ (by rw [r.2.1];omega)]at hv
  rw [jr]at hk
  by_cases e:i=k
  ·subst e
   rw [if_pos rfl,if_pos hil]at hk
   injection hk with hk
   rw [<-hk,TY _ _ _ _ ho]at hj
   by_cases c:o<=j∧j<o+x.length
   ·rw [if_pos c]at hj
    rw [if_pos (by omega),show i*sz+j -(i*sz+o)=j-o by omega]at hv
    exact hx.2 _ a v hj hv
   ·rw [if_neg c]at hj
    rw [if_neg (by omega)]at hv
    exact r.2.2.2 i j row a v hi hj hv
  ·rw [if_neg e]at hk
   have hjl:=(aG.1 hj).1
   rw [r.1 y (aT hk)]at hjl
   have hne : ¬(i*sz+o<=k*sz+j∧k*sz+j<i*sz+o+vs.length):=by
    intro hh
    rcases Nat.lt_or_gt_of_ne e with h|h
    ·have:(i+1)*sz<=k*sz:=aU _ h
     rw [bK,dA]at this;omega
    ·have:(k+1)*sz<=i*sz:=aU _ h
     rw [bK,dA]at this;omega
   rw [if_neg hne]at hv
   exact r.2.2.2 k j y a v hk hj hv
theorem Ht (l vs:List Value)(k o:Nat)(h:o+vs.length<=k)(hk:k<=l.length):(tZ l o vs).take k=tZ (l.take k) o vs:=by
 apply jv
 intro m
 rw [bH,xP _ _ _ _ (by omega),xP _ _ _ _ (by rw [aK];omega),bH]
 by_cases c:m<k
 ·rw [if_pos c,if_pos c]
 ·rw [if_neg c,if_neg (by omega),if_neg c]
theorem IX {t:TypeId}{a x:AV}{va vx:Value}{K:lF->Prop}(h:N8 P H t a x K)(st:St G lJ lN lQ n σ F H w)(ra:mF n σ F w a va)(rx:mF n σ F w x vx) :
  ∃p,va = .pointer (some p)∧vw P (storeVar t p vx) w fun w'=>KH G lJ lN lQ n σ F w (fun _ n' H'=>n'=n∧K H') undef w':=by
 unfold N8 at h
 split at h
 ·rename_i k hs
  cases hb:(Nat.beq (cellsOf x).length k&&all1 (cellsOf x))with
  | false=>rw [hb]at h;exact h.elim
  | true=>
   rw [hb,cond_true]at h
   simp only [au]at hb
   have e:=aA hb.1
   have rc:=zq rx hb.2
   have h1:=EJ hb.2 rc
   have hvl:=rc.len
   have hs':szB P t=some vx.cells.toList.length:=by rw [hvl,e];exact hs
   split at h
   ·rename_i l o
    cases ra with
    | ptr _ _ b hl hbk=>
     refine⟨_,rfl, ?_⟩
     split at h
     ·rename_i T cs hk
      cases hc:Nat.ble (o+k) cs.length with
      | false=>rw [hc]at h;exact h.elim
      | true=>
       rw [hc,cond_true,oU]at h
       have hc:=aN hc
       obtain⟨g,vs,g1,g2,g3,g4⟩:=st.blk _ _ hk
       rw [hbk]at g1
       injection g1 with g1
       subst g1
       refine BI g2 hs' h1 (by rw [g3.len];omega) fun w' hO hB=> ?_
       obtain⟨s2,x2⟩:=st.write hk rfl hbk hO (.var T (BD cs o (cellsOf x))) fun _ hE=>⟨b,_,hbk,hB,(KD rc g3).mono hE,fun v hv=>(EK hv).elim (g4 v) (h1 v)⟩
       exact⟨.v undef,_,_,_,_,⟨rfl,h⟩,s2,x2, .v _⟩
     ·cases h
   ·rename_i l i o
    cases ra with
    | ep _ _ _ b hl hbk=>
     refine⟨_,rfl, ?_⟩
     split at h
     ·rename_i T sz m0 h0 hk
      obtain⟨q1,q2,xs,hO,hT,hS,hh⟩:=st.blk _ _ hk
      have hu : ∃m e',x = .own e'∧m.length=m0.length∧QW F w sz m xs∧(∀a b g,IB w (σ l) sz m a b g->IB w (σ l) sz m0 a b g)∧i<m.length∧o<sz∧(∃row,m[i]? = some row∧row[o]? = some (.f .top))∧K (setH H l (.tree T sz m (some (i,o,e')))):=by
       split at h
       ·rename_i i' o' e0 e'
        obtain⟨⟨rfl,rfl⟩,h⟩:=h
        obtain⟨a1,a2,a3,a4,_⟩:=hh _ _ _ rfl
        exact⟨m0,e',rfl,rfl,hT,fun _ _ _ h=>h,a2,a3,a4,h⟩
       ·rename_i e'
        obtain⟨row,c,n1,n2,h⟩:=h
        have hil:=(aG.1 n1).1
        have hjl:=(aG.1 n2).1
        have hrl:=hT.1 row (aT n1)
        have get : ∀(i2 j2:Nat) (uq:List TV) (y:TV),(m0.set i (row.set o (.f .top)))[i2]? = some uq->uq[j2]? = some y->y = .f .top∨∃r3,m0[i2]? = some r3∧r3[j2]? = some y:=by
         intro i2 j2 uq y k1 k2
         rw [jr]at k1
         split at k1
         ·rename_i ei
          subst ei
          try rw [if_pos hil]at k1
          injection k1 with k1
          subst k1
          rw [jr]at k2
          split at k2
          ·try rw [if_pos hjl]at k2
           injection k2 with k2
           exact .inl k2.symm
          ·exact .inr ⟨row,n1,k2⟩
         ·exact .inr ⟨uq,k1,k2⟩
        refine⟨m0.set i (row.set o (.f .top)),e',rfl,bC,⟨fun r hr=> ?_,by rw [bC];exact hT.2.1,hT.2.2.1,fun i2 j2 uq a v k1 k2 k3=> ?_⟩, ?_,by rw [bC];exact hil,by omega,⟨row.set o (.f .top),by rw [dD hil],dD hjl⟩,h⟩
        ·rcases gV hr with hr|rfl
         ·exact hT.1 r hr
         ·rw [bC];exact hrl
        ·rcases get i2 j2 uq a k1 k2 with e|⟨r3,e1,e2⟩
         ·subst e;exact oL.top v
         ·exact hT.2.2.2 i2 j2 r3 a v e1 e2 k3
        ·rintro i2 j2 g2 ⟨b2,uq,t2,sz2,r2,m2,c2,k1,k2,k3,k4,k5⟩
         rcases get i2 j2 uq _ k2 k3 with e|⟨r3,e1,e2⟩
         ·cases e
         ·exact⟨b2,r3,t2,sz2,r2,m2,c2,k1,e1,e2,k4,k5⟩
       ·cases h
      obtain⟨m,e',rfl,hlen,hT,hN0,a2,a3,⟨row,a4,a5⟩,h⟩:=hu
      have hS:Sep w (σ l) sz m:=⟨fun _ _ _ _ g n1 n2=>hS.1 _ _ _ _ g (hN0 _ _ _ n1) (hN0 _ _ _ n2),fun _ _ g n1=>hS.2 _ _ g (hN0 _ _ _ n1)⟩
      rw [<-hlen]at q2 hO
      obtain⟨g,cur,hoa,hg0,hB,hle,hcm,hcl,htk⟩:=hO.blk (by omega)
      have hgb:=vU hoa
      rw [hbk]at hgb
      injection hgb with hgb
      subst hgb
      have hi1:i*sz+sz<=m.length*sz:=by
       have:(i+1)*sz<=m.length*sz:=aU _ a2
       rw [bK,dA]at this;exact this
      have hcc:m.length*sz<=(σ l).c*sz:=aU _ hle
      have hvx:vx.cells.toList = [vx]∧e'<n:=by
       cases rx with
       | own _ hl=>exact⟨rfl,hl⟩
       | qP _ oa hl _ _=>exact⟨rfl,hl⟩
      rw [q1]
      refine BI hB hs' h1 (by rw [hvx.1,hcl];simp;omega) fun w' hOn hB'=> ?_
      rw [hvx.1]at hB'
      have hx1:vx.oneCell'=true:=h1 vx (by rw [hvx.1];simp)
      have hset : ∀j,(tZ xs (i*sz+o) [vx])[j]? = if j=i*sz+o then some vx else xs[j]? :=fun j=>by
       have hxl:=hT.2.1
       rw [xP _ _ _ _ (by simp;omega)]
       simp only [bg,dQ,aS]
       by_cases e:j=i*sz+o
       ·rw [if_pos (by omega),if_pos e,e];simp
       ·rw [if_neg (by omega),if_neg e]
      have hcell : ∀j,j≠i*sz+o->w'.cell? ⟨b,j,none⟩=w.cell? ⟨b,j,none⟩:=fun j hj=>by
       rw [hB'.cell,hB.cell,xP _ _ _ _ (by simp;omega)]
       simp only [bg,dQ,aS]
       rw [if_neg (by omega)]
      have hN : ∀i2 j2 g2,IB w' (σ l) sz m i2 j2 g2->IB w (σ l) sz m i2 j2 g2:=by
       rintro i2 j2 g2 ⟨b2,uq,t2,sz2,r2,m2,c2,n1,n2,n3,n4,n5⟩
       rw [hbk]at n1
       injection n1 with n1
       subst n1
       refine⟨b,uq,t2,sz2,r2,m2,c2,hbk,n2,n3, ?_,n5⟩
       have hj2:j2<sz:=by rw [<-hT.1 uq (aT n2)];exact(aG.1 n3).1
       rw [<-hcell _ fun e=> ?_]
       ·exact n4
       ·have ei:i2=i:=by
         rcases iY i2 i with hlt|he|hgt
         ·have:(i2+1)*sz<=i*sz:=aU _ hlt
          rw [bK,dA]at this;omega
         ·exact he
         ·have:(i+1)*sz<=i2*sz:=aU _ hgt
          rw [bK,dA]at this;omega
        subst ei
        have ej:j2=o:=by omega
        subst ej
        rw [a4]at n2
        injection n2 with n2
        subst n2
        rw [a5]at n3
        cases n3
      have hnew:uo n σ F w (σ l) (.tree T sz m0 h0)->Ext n σ F w n σ F w'->uo n σ F w' (σ l) (.tree T sz m (some (i,o,e'))):=by
       intro _ hE
       refine⟨q1,q2,tZ xs (i*sz+o) [vx],by
        rw [hoa]
        exact Own.Et hB' hg0 hle hcm (by rw [zW];exact hcl) (by
         have:=Ht cur [vx] (m.length*sz) (i*sz+o) (by simp;omega) (by rw [hcl];exact hcc)
         rw [htk]at this
         exact this), ?_,⟨fun i j i2 j2 g2 n1 n2=>hS.1 _ _ _ _ _ (hN _ _ _ n1) (hN _ _ _ n2),fun i j g2 n1=>hS.2 _ _ _ (hN _ _ _ n1)⟩,fun i2 j2 e2 he2=> ?_⟩
       ·refine⟨hT.1,by rw [zW];exact hT.2.1,fun v hv=>(EK hv).elim (hT.2.2.1 v) (fun hv=>by simp at hv;rw [hv];exact hx1),fun i2 j2 uq a2' v2 n1 n2 n3=> ?_⟩
        rw [hset]at n3
        have hj2:j2<sz:=by rw [<-hT.1 uq (aT n1)];exact(aG.1 n2).1
        split at n3
        ·rename_i e
         have ei:i2=i:=by
          rcases iY i2 i with hlt|he|hgt
          ·have:(i2+1)*sz<=i*sz:=aU _ hlt
           rw [bK,dA]at this;omega
          ·exact he
          ·have:(i+1)*sz<=i2*sz:=aU _ hgt
           rw [bK,dA]at this;omega
         subst ei
         have ej:j2=o:=by omega
         subst ej
         rw [a4]at n1
         injection n1 with n1
         subst n1
         rw [a5]at n2
         injection n2 with n2
         subst n2
         exact oL.top v2
        ·have h3:=hT.2.2.2 i2 j2 uq a2' v2 n1 n2 n3
         cases a2' with
         | f x=>exact oL.mono hE.f h3
         | n t3 sz3 r3=>
          obtain⟨oa3,c3,rfl,h3⟩:=h3
          refine⟨oa3,c3,rfl,h3.imp id fun⟨ys,hc,hO3,hR3⟩=>⟨ys,hc,zQ hO3 hE.sz fun g3 hg3=>hOn.block g3 fun e=> ?_,hR3.mono hE.f⟩⟩
          subst e
          obtain⟨b',hLb,hcl'⟩:=uQ hO n1 (hT.1 uq (aT n1)) n2 hT.2.1 n3
          refine hS.2 i2 j2 g3 ⟨b',uq,t3,sz3,r3,r3.length,c3,hLb,n1,n2, ?_,hc⟩ hbk
          rw [hcl']
          rcases hO3.2 with ⟨hs3,_⟩|⟨g',cap,ahf,hs3,_⟩
          ·injection hs3 with e1 _ _;rw [e1]at hg3;cases hg3
          ·injection hs3 with e1 _ _;rw [e1]at hg3 ⊢;injection hg3 with hg3;have hg3:g'=g3:=hg3;rw [hg3]
       ·injection he2 with he2
        injection he2 with ee1 ee2
        injection ee2 with ee2 ee3
        subst ee1;subst ee2;subst ee3
        exact⟨hvx.2,a2,a3,⟨row,a4,a5⟩,vx,by rw [hset,if_pos rfl],rx.mono hE⟩
      obtain⟨s2,x2⟩:=st.write hk rfl hbk hOn (.tree T sz m (some (i,o,e'))) hnew fun g2 hg2=>hg2.imp id fun⟨i2,j2,hg2⟩=>⟨i2,j2,hN0 _ _ _ (hN _ _ _ hg2)⟩
      exact⟨.v undef,_,_,_,_,⟨rfl,h⟩,s2,x2, .v _⟩
     ·obtain⟨x',H1,F1,h,s1,x1,rf⟩:=Hq h st rc
      split at h
      ·rename_i T sz m hk
       obtain⟨row,hrow,h⟩:=h.ex
       cases hc:Nat.ble (o+k) row.length with
       | false=>rw [hc]at h;exact h.elim
       | true=>
        rw [hc,cond_true,oU]at h
        have hc:=aN hc
        obtain⟨q1,q2,xs,hO,hR⟩:=s1.blk _ _ hk
        have hil:=(aG.1 hrow).1
        obtain⟨g,cur,hoa,hg0,hB,hle,hcm,hcl,htk⟩:=hO.blk (by omega)
        have hgb:=vU hoa
        rw [hbk]at hgb
        injection hgb with hgb
        subst hgb
        have hrl:=hR.1 row (aT hrow)
        have hxl:x'.length=k:=by rw [<-rf.1,hvl,e]
        have hi1:i*sz+sz<=m.length*sz:=by
         have:(i+1)*sz<=m.length*sz:=aU _ hil
         rw [bK,dA]at this;exact this
        have hcc:m.length*sz<=(σ l).c*sz:=aU _ hle
        have hvk:vx.cells.toList.length=k:=by rw [hvl,e]
        rw [q1]
        refine BI hB hs' h1 (by rw [hvk,hcl];omega) fun w' hOn hB'=> ?_
        obtain⟨s2,x2⟩:=s1.write hk rfl hbk hOn (.rows T sz (m.set i (BD row o x'))) fun _ hE=>⟨q1,by rw [bC];exact q2,_,by
          rw [hoa,bC]
          exact Own.Et hB' hg0 hle hcm (by rw [zW];exact hcl) (Ht _ _ _ _ (by rw [hvk];omega) (by rw [hcl];exact hcc)),by
          rw [htk]
          exact(hR.setRow hrow rf h1 (by omega)).mono hE.f⟩
        exact⟨.v undef,_,_,_,_,⟨rfl,h⟩,s2,x1.trans x2, .v _⟩
      ·cases h
     ·cases h
   ·cases h
 ·cases h
theorem Hu {t sz c:Nat}{oa:Option Addr}{m:Nat}{xs:List Value}(hO:Own w 0 t sz oa m c xs):m<=c∧(oa=none->c=0):=by
 rcases hO.2 with ⟨hv,h0⟩|⟨g,cap,cur,hv,_,_,hle,_⟩
 ·injection hv with _ _ ec;exact⟨by omega,fun _=>ec⟩
 ·injection hv with eo _ ec;exact⟨by omega,fun en=>by rw [en]at eo;cases eo⟩
theorem yu {sz:Nat}{l:List (List FV)}{v:Value}(h:oL F w (.lst sz l) v)(hF : ∀b,F b->b<w.heap.size) :
  ∃oa m c news,v = .slice oa m c∧m=l.length∧m<=c∧(oa=none->c=0)∧Row w oa news∧pz F w sz l news:=by
 cases h with
 | lst _ _ oa m c b o hn hc hnil ho hsz hex hrep=>
  subst hn
  obtain⟨vs,hl,hvs⟩:=EH (u:=w) (b:=b) (base:=o) (l.length*sz) fun k hk=>by
   have hz:0<sz:=by
    rcases bP sz with e|e
    ·rw [e,Nat.mul_zero]at hk;exact absurd hk (gQ k)
    ·exact e
   have h1:k/sz<l.length:=(kT hz).2 hk
   obtain⟨v,hv,h1⟩:=hex (k/sz) (k%sz) h1 (iJ _ hz)
   rw [fU,Nat.div_add_mod]at hv
   exact⟨v,hv,h1⟩
  refine⟨oa,l.length,c,vs,rfl,rfl,hc,hnil, ?_,hsz,hl,fun v hv=> ?_,fun i j row a v hi hj hv=>hrep i j row a v hi hj (hvs _ v hv).1⟩
  ·rcases bP l.length with e|e
   ·rw [e,dY]at hl;exact .inl (aF hl)
   ·obtain⟨e1,e2⟩:=ho e
    exact .inr ⟨b,o,e1,hF b e2,fun j v hj=>(hvs j v hj).1⟩
  ·obtain⟨j,hj⟩:=bW.1 hv
   exact(hvs j v hj).2
theorem pz.part {sz i j:Nat}{l:List (List FV)}{xs:List Value}(r:pz F w sz l xs)(hj:i+j<=l.length):pz F w sz ((l.drop i).take j) ((xs.drop (i*sz)).take (j*sz)):=by
 have hx:=r.2.1
 have hle:(i+j)*sz<=l.length*sz:=aU _ hj
 rw [bK]at hle
 refine⟨fun y hy=>r.1 y (ig (fA hy)), ?_,fun v hv=>r.2.2.1 v (ig (fA hv)),fun k m row a v hk hm hv=> ?_⟩
 ·rw [aK,aX,aK,aX,hx]
  have e1:min j (l.length-i)=j:=by omega
  rw [e1]
  omega
 ·rw [bH]at hk hv
  split at hk
  ·split at hv
   ·rw [cZ]at hk hv
    refine r.2.2.2 (i+k) m row a v hk hm ?_
    rw [bK,fG];exact hv
   ·cases hv
  ·cases hk
theorem Pg {s:AV}{v:Value}{sz:Nat}{l:List (List FV)}(h:rowsOf H s=some (sz,l))(st:St G lJ lN lQ n σ F H w)(r:mF n σ F w s v) :
  ∃oa m c news,v = .slice oa m c∧m=l.length∧m<=c∧(oa=none->c=0)∧Row w oa news∧pz F w sz l news:=by
 have hF : ∀b,F b->b<w.heap.size:=fun b hb=>(st.oC b hb).1
 unfold rowsOf at h
 split at h
 ·simp only [aI,fJ]at h
  obtain⟨rfl,rfl⟩:=h
  cases r with|lst hf=>exact yu hf hF
 ·split at h
  ·rename_i l' T sz' m hk
   simp only [aI,fJ]at h
   obtain⟨rfl,rfl⟩:=h
   obtain⟨q1,q2,xs,hO,hR⟩:=st.blk _ _ hk
   cases r with
   | qP _ oa hl hn hc=>
    rw [hn]at q2
    have:m = []:=aF q2.symm
    subst this
    exact⟨_,_,_,[],rfl,rfl,ay _,fun _=>rfl,Row.nil _ _,pz.nil _⟩
   | own _ hl=>
    have:=Hu hO
    exact⟨_,_,_,xs,rfl,q2,by rw [q2];exact this.1,this.2,hO.row,hR⟩
  ·rename_i l' sz' m hk
   simp only [aI,fJ]at h
   obtain⟨rfl,rfl⟩:=h
   obtain⟨q1,q2,hf,_⟩:=st.blk _ _ hk
   cases r with
   | qP _ oa hl hn hc=>
    rw [hn]at q2
    have:m = []:=aF q2.symm
    subst this
    exact⟨_,_,_,[],rfl,rfl,ay _,fun _=>rfl,Row.nil _ _,pz.nil _⟩
   | own _ hl=>exact yu hf hF
  ·cases h
 ·split at h
  ·rename_i l' o k _ T sz' m hk
   simp only [aI,fJ]at h
   obtain⟨rfl,rfl⟩:=h
   obtain⟨q1,q2,xs,hO,hR⟩:=st.blk _ _ hk
   cases r with
   | sub _ _ _ oa c hl hkk hc hnil ho=>
    rw [q2]at hkk
    refine⟨_,_,_,_,rfl,by rw [aK,aX];omega,hc,hnil, ?_,hR.part hkk⟩
    rcases bP k with e|e
    ·subst e;exact .inl (by simp)
    ·obtain⟨b,e1,e2⟩:=ho e
     rcases hO.row with hx|⟨b',o',e3,hlt,hcell⟩
     ·exact .inl (by rw [hx];simp)
     ·have hb:=vU (L:=σ l') (g:=b) (by unfold Loc.oa;rw [e1];rfl)
      have e4:(σ l').oa=some ⟨b,0,none⟩:=by unfold Loc.oa;rw [e1];rfl
      rw [e4]at e3
      injection e3 with e3;injection e3 with e3 e5
      subst e3
      refine .inr ⟨b,o*sz',by rw [e2,q1],hlt,fun j v hj=> ?_⟩
      rw [bH]at hj
      split at hj
      ·rw [cZ]at hj
       have:=hcell _ v hj
       rw [<-e5,aS]at this
       exact this
      ·cases hj
  ·rename_i l' o k _ sz' m hk
   simp only [aI,fJ]at h
   obtain⟨rfl,rfl⟩:=h
   obtain⟨q1,q2,hf,h0⟩:=st.blk _ _ hk
   cases r with
   | sub _ _ _ oa c hl hkk hc hnil ho=>
    obtain⟨oW,m',c',xs,ev,em,_,_,hrow,hR⟩:=yu hf hF
    injection ev with e1 e2 e3
    rw [q2]at hkk
    refine⟨_,_,_,_,rfl,by rw [aK,aX];omega,hc,hnil, ?_,hR.part hkk⟩
    rcases bP k with e|e
    ·subst e;exact .inl (by simp)
    ·obtain⟨b,f1,f2⟩:=ho e
     rcases hrow with hx|⟨b',o',f3,hlt,hcell⟩
     ·exact .inl (by rw [hx];simp)
     ·have e4:(σ l').oa=some ⟨b,0,none⟩:=by unfold Loc.oa;rw [f1];rfl
      rw [<-e1,e4]at f3
      injection f3 with f3;injection f3 with f3 f5
      subst f3
      refine .inr ⟨b,o*sz',by rw [f2,q1],hlt,fun j v hj=> ?_⟩
      rw [bH]at hj
      split at hj
      ·rw [cZ]at hj
       have:=hcell _ v hj
       rw [<-f5,aS]at this
       exact this
      ·cases hj
  ·cases h
 ·cases h
theorem pz.append {sz:Nat}{l m:List (List FV)}{xs ys:List Value}(r:pz F w sz l xs)(k:pz F w sz m ys):pz F w sz (l++m) (xs++ys):=by
 refine⟨fun y hy=>(cu.1 hy).elim (r.1 y) (k.1 y),by rw [ak,ak,r.2.1,k.2.1,bK],fun v hv=>(cu.1 hv).elim (r.2.2.1 v) (k.2.2.1 v),fun i j row a v hi hj hv=> ?_⟩
 have hx:=r.2.1
 by_cases h:i<l.length
 ·rw [dF h]at hi
  have hjl:=(aG.1 hj).1
  rw [r.1 row (aT hi)]at hjl
  have h1:(i+1)*sz<=l.length*sz:=aU _ h
  rw [bK,dA]at h1
  rw [dF (by omega)]at hv
  exact r.2.2.2 i j row a v hi hj hv
 ·rw [dB (by omega)]at hi
  have h1:l.length*sz<=i*sz:=aU _ (by omega)
  rw [dB (by omega)]at hv
  refine k.2.2.2 (i-l.length) j row a v hi hj ?_
  rw [Nat.sub_mul,show i*sz-l.length*sz+j=i*sz+j-xs.length by omega]
  exact hv
theorem vH {t ty E:TypeId}{sz qU k c m c2:Nat}{oa yc:Option Addr}{xs news zs:List Value}
  (ht:P.underlying t=some (.slice E)) (hs:szB P E=some sz) (hby:pW P E=some qU) (hz:vG P E=some zs) (hzl:zs.length=sz) (hsz:Nat.ble 1 sz=true)
  (hown:Own w 0 E sz oa k c xs) (hr:Row w yc news) (hl:news.length=m*sz) (h1 : ∀u∈news,u.oneCell'=true) (hnil:yc=none->c2=0)
  (hbytes:(k+m)*qU<=140737488355328) (hlen:k+m<=maxLen) :
  ∃oW c' w',(Builtin.append_ #[t,t] ty #[.slice oa k c, .slice yc m c2]).run P w = .ok (.slice oW (k+m) c') w'∧Own w' 0 E sz oW (k+m) c' (xs++news)∧w.grownBy w' (ownB oa)∧(∀g,ownB oW=some g->ownB oa=some g∨w.heap.size<=g):=by
 obtain⟨i,hi,rfl⟩:=pK hs
 have hb':i.bytes=qU:=by simpa [pW,hi]using hby
 obtain⟨z,hz1,hz2⟩ : ∃z,i.zero=some z∧z.cells.toList=zs:=by
  unfold vG at hz
  simp only [hi,eP]at hz
  cases hzz:i.zero with
  | none=>simp [hzz]at hz
  | some z=>simp only [hzz,bM,aI]at hz;exact⟨z,rfl,hz⟩
 have hsz':0<i.size:=aN hsz
 have hzc:z.cells.size=i.size:=by rw [<-hz2]at hzl;simpa using hzl
 by_cases hm:yc=none
 ·subst hm
  have hm0:news = []:=hr.resolve_right (by rintro⟨b,o,he,_⟩;cases he)
  subst hm0
  have:m=0:=by
   rcases bP m with h|h
   ·exact h
   ·have:=jM h hsz';simp at hl;omega
  subst this
  have hc2:=hnil rfl
  subst hc2
  have hrun:=run_append_owned_none (P:=P) (w:=w) 0 t ty E i i.size ht hi (.slice oa k c) k xs hown
  exact⟨oa,c,w,hrun,by simpa using hown,⟨rfl,rfl,rfl,ay _,fun _ _ _=>rfl⟩,fun g hg=> .inl hg⟩
 ·obtain⟨ad,rfl,hcells⟩ : ∃ad,yc=some ad∧∀j u,news[j]? = some u->w.cell? (ad.add j)=some u:=by
   rcases hr with rfl|⟨b,o,rfl,_,hc⟩
   ·cases yc with
    | none=>exact absurd rfl hm
    | some ad=>exact⟨ad,rfl,by simp⟩
   ·exact⟨_,rfl,fun j u hj=>by rw [add0];exact hc j u hj⟩
  have main : ∀B,Own w B E i.size oa k c xs->B<=w.heap.size->∃oW c' w',(Builtin.append_ #[t,t] ty #[.slice oa k c, .slice (some ad) m c2]).run P w = .ok (.slice oW (k+m) c') w'∧Own w' B E i.size oW (k+m) c' (xs++news)∧w.grownBy w' (ownB oa):=by
   intro B hown hB
   obtain⟨v',w',hrun,ho,hg,_⟩:=run_append_own (P:=P) w B t ty E i z i.size qU ht hi hz1 rfl hb' hzc hsz' (.slice oa k c) k xs hown ad m c2 news hl hcells h1 hlen hbytes hB
   rw [zO]at hg
   obtain⟨oW,c',rfl⟩ : ∃oW c',v' = .slice oW (k+m) c':=by
    rcases ho.2 with ⟨h,h0⟩|⟨g,cap,cur,h,_⟩
    ·exact⟨none,0,by rw [h,h0]⟩
    ·exact⟨_,cap,h⟩
   exact⟨oW,c',w',hrun,ho,hg⟩
  have up : ∀ {w':World} {B:Nat} {oW:Option Addr} {k' c':Nat} {ys:List Value},Own w' B E i.size oW k' c' ys->Own w' 0 E i.size oW k' c' ys:=fun h=>⟨h.1,h.2.imp id fun⟨g,cap,cur,h1,_,h2⟩=>⟨g,cap,cur,h1,aB _,h2⟩⟩
  rcases hown.2 with ⟨hv,h0⟩|⟨g,cap,cur,hv,hg0,hh,hle,hcm,hcs,htk⟩
  ·injection hv with e1 e2 e3
   subst e1;subst e2;subst e3
   obtain⟨oW,c',w',r1,r2,r3⟩:=main w.heap.size ⟨hown.1, .inl ⟨rfl,rfl⟩⟩ (ay _)
   exact⟨oW,c',w',r1,up r2,r3,fun g hg=> .inr (r2.ge g hg).1⟩
  ·injection hv with e1 e2 e3
   subst e1;subst e3
   obtain⟨oW,c',w',r1,r2,r3⟩:=main 0 hown (aB _)
   refine⟨oW,c',w',r1,r2,r3,fun g' hg'=> ?_⟩
   by_cases hroom:k+m<=c
   ·have hfit:k*i.size+news.length<=cur.size:=by rw [hl,hcs, <-bK];exact aU _ hroom
    have hr2:=run_append_room (P:=P) w t ty E i ht hi g k c cur hh ad m c2 news hl hcells h1 hroom hfit
    rw [r1]at hr2
    injection hr2 with hr2 _
    injection hr2 with hr2 _ _
    rw [hr2]at hg'
    exact .inl hg'
   ·have holds : ∀j u,xs[j]? = some u->w.cell? ((⟨g,0,none⟩:Addr).add j)=some u:=World.ownsRow.cells (h:=hown) (g:=g) rfl
    have hsmall:k+m<=9223372036854775807:=by simp only [maxLen]at hlen;omega
    have hr2:=run_append_grow (P:=P) w t ty E i z ht hi hz1 ⟨g,0,none⟩ k c xs hown.1 holds ad m c2 news hl hcells (by omega) (by omega) (growslice_fits (by omega) (by rw [hb'];exact hbytes))
    rw [r1]at hr2
    injection hr2 with hr2 _
    injection hr2 with hr2 _ _
    rw [hr2]at hg'
    simp only [ownB,bM,aI]at hg'
    exact .inr (by omega)
theorem CV {t ty E:TypeId}{sz qU m c2:Nat}{oa yc:Option Addr}{news zs:List Value}
  (ht:P.underlying t=some (.slice E)) (hs:szB P E=some sz) (hby:pW P E=some qU) (hz:vG P E=some zs) (hzl:zs.length=sz) (hsz:Nat.ble 1 sz=true)
  (hr:Row w yc news) (hl:news.length=m*sz) (h1 : ∀u∈news,u.oneCell'=true) (hnil:yc=none->c2=0)
  (hbytes:m*qU<=140737488355328) (hlen:m<=maxLen) :
  ∃v' w',(Builtin.append_ #[t,t] ty #[.slice oa 0 0, .slice yc m c2]).run P w = .ok v' w'∧((m=0∧v' = .slice oa 0 0∧w'=w)∨
   ∃oW c',v' = .slice oW m c'∧Own w' 0 E sz oW m c' news∧w.grownBy w' none∧∀g,ownB oW=some g->w.heap.size<=g):=by
 have hz1:0<sz:=aN hsz
 cases oa with
 | none=>
  obtain⟨oW,c',w',r1,r2,r3,r4⟩:=vH (P:=P) (w:=w) (ty:=ty) (k:=0) (c:=0) (oa:=none) (xs:= []) (m:=m) (c2:=c2) ht hs hby hz hzl hsz (Own.nil w 0 E sz) hr hl h1 hnil (by rw [aS];exact hbytes) (by rw [aS];exact hlen)
  rw [aS]at r1 r2
  exact⟨_,_,r1, .inr ⟨oW,c',rfl,by simpa using r2,r3,fun g hg=>(r4 g hg).elim (fun e=>by simp [ownB]at e) id⟩⟩
 | some a=>
  obtain⟨i,hi,rfl⟩:=pK hs
  rcases bP m with h0|h0
  ·subst h0
   have hn:news = []:=aF (by simpa using hl)
   subst hn
   refine⟨.slice (some a) 0 0,w, ?_, .inl ⟨rfl,rfl,rfl⟩⟩
   cases yc<;>simp [Builtin.append_,run_underlying ht,sizeOf,typeInfo,hi,Builtin.lenOf,Builtin.firstCells,loadCells,loadCellsFrom,storeCells]
  ·have hb':i.bytes=qU:=by simpa [pW,hi]using hby
   obtain⟨z,hz1',hz2⟩ : ∃z,i.zero=some z∧z.cells.toList=zs:=by
    unfold vG at hz
    simp only [hi,eP]at hz
    cases hzz:i.zero with
    | none=>simp [hzz]at hz
    | some z=>simp only [hzz,bM,aI]at hz;exact⟨z,rfl,hz⟩
   have hzc:z.cells.size=i.size:=by rw [<-hz2]at hzl;simpa using hzl
   obtain⟨ad,rfl,hcells⟩ : ∃ad,yc=some ad∧∀j u,news[j]? = some u->w.cell? (ad.add j)=some u:=by
    rcases hr with rfl|⟨b,o,rfl,_,hc⟩
    ·have:=jM h0 hz1;simp at hl;omega
    ·exact⟨_,rfl,fun j u hj=>by rw [add0];exact hc j u hj⟩
   have hr1:=run_append_grow (P:=P) w t ty E i z ht hi hz1' a 0 0 [] (by simp) (by simp) ad m c2 news hl hcells (by omega) (by simp only [maxLen]at hlen;omega) (growslice_fits (by omega) (by rw [hb',aS];exact hbytes))
   obtain⟨oW,c',w',r1,r2,r3,r4⟩:=vH (P:=P) (w:=w) (ty:=ty) (k:=0) (c:=0) (oa:=none) (xs:= []) (m:=m) (c2:=c2) ht hs hby hz hzl hsz (Own.nil w 0 E i.size) (.inr (by
    rcases hr with rfl|h
    ·have:=jM h0 hz1;simp at hl;omega
    ·exact h)) hl h1 hnil (by rw [aS];exact hbytes) (by rw [aS];exact hlen)
   have hr2:=run_append_nil (P:=P) w t ty E i z ht hi hz1' ad m c2 news hl hcells (by omega) (by simp only [maxLen]at hlen;omega) (by rw [hb'];omega)
   rw [aS]at r1 r2
   rw [hr2]at r1
   injection r1 with e1 e2
   simp only [aS]at hr1
   have e3:(([]:List Value).toArray++news.toArray++Builtin.zeroCells z.cells (grownCap w m 0 E-m))=news.toArray++Builtin.zeroCells z.cells (grownCap w m 0 E-m):=by simp
   rw [e3,e1,e2]at hr1
   exact⟨_,_,hr1, .inr ⟨oW,c',rfl,by simpa using r2,r3,fun g hg=>(r4 g hg).elim (fun e=>by simp [ownB]at e) id⟩⟩
theorem St.move (st:St G lJ lN lQ n σ F H w){w':World}{lV:Nat}{blk:oN}(hk:look H lV=some blk)(hm:blk.own=true)(hos:w'.os=w.os)(htp:w'.tape=w.tape)(hou:w'.output=w.output)(hsz:w.heap.size<=w'.heap.size)
  (hg : ∀k,k<w.heap.size->(σ lV).b≠some k->w'.heap[k]? = w.heap[k]?) (L:Loc) (hL : ∀g,L.b=some g->g<w'.heap.size∧((σ lV).b=some g∨w.heap.size<=g)) (blk':oN)
  (hblk:Ext n σ F w (n+1) (wX σ n L) F w'->uo (n+1) (wX σ n L) F w' L blk') (hfl:blk'.flat=true:=by rfl):St G lJ lN lQ (n+1) (wX σ n L) F ((n,blk')::Gv H lV) w'∧Ext n σ F w (n+1) (wX σ n L) F w':=by
 have old : ∀b,(σ lV).b=some b->¬F b∧G.nb<=b∧b<w.heap.size∧(lN b∨lJ.heap.size<=b):=fun b hb=>st.mu lV blk b hk hm (.inl hb)
 have bk : ∀ {k b g'},k≠lV->look H k=some b->b.own=true->qo w' (σ k) b g'->qo w (σ k) b g':=fun hne h hm' hg'=>hg'.back fun x hx=>hg x (st.mu _ _ x h hm' (.inl hx)).2.2.1 fun e=>hne (st.inj _ lV _ blk x h hk hm' hm (.inl hx) (.inl e))
 have hE:Ext n σ F w (n+1) (wX σ n L) F w':=⟨by omega,fun k hk=>oz (by omega),fun b hb=>⟨hb,hg b (st.oC b hb).1 fun e=>(old b e).1 hb⟩,hsz⟩
 have hnb:=st.glob.1
 have hw0:=st.qg.size
 refine⟨⟨Glob.qg st.glob hsz fun b hb=>hg b (by omega) fun e=>by have:=(old b e).2.1;omega,st.qg.trans (M':=fun b=>(σ lV).b=some b) ⟨hos,htp,hou,hsz,fun k h1 h2=>hg k h1 h2⟩ (fun b hb=>(old b hb).2.2.2),fun b hb=>⟨aV (st.oC b hb).1 hsz,(st.oC b hb).2⟩,fun k b h=> ?_,fun k b g h hm' hg'=> ?_,fun k k' b b' g h h' hm1 hm2 hg1 hg2=> ?_,fun k b h=> ?_⟩,hE⟩
 ·rw [l9]at h
  split at h
  ·omega
  ·have:=st.lab k b (pO h).2;omega
 ·rw [l9]at h
  split at h
  ·rename_i e
   subst e
   injection h with h
   subst h
   rw [nH]at hg'
   obtain⟨h1,h2⟩:=hL g (hg'.flat hfl)
   rcases h2 with h2|h2
   ·exact⟨(old g h2).1,(old g h2).2.1,h1,(old g h2).2.2.2⟩
   ·exact⟨fun hf=>by have:=(st.oC g hf).1;omega,by omega,h1, .inr (by omega)⟩
  ·obtain⟨hne,h⟩:=pO h
   have hl:=st.lab k b h
   rw [oz (by omega)]at hg'
   have hg':=bk hne h hm' hg'
   obtain⟨h1,h2,h3,h4⟩:=st.mu k b g h hm' hg'
   exact⟨h1,h2,aV h3 hsz,h4⟩
 ·have cross : ∀ {x:Nat} {c:oN},look (Gv H lV) x=some c->c.own=true->qo w' (wX σ n L x) c g->L.b=some g->False:=by
   intro x c hx hc hgx hLg
   obtain⟨x1,x2⟩:=pO hx
   have hl:=st.lab x c x2
   rw [oz (by omega)]at hgx
   have hgx:=bk x1 x2 hc hgx
   rcases(hL g hLg).2 with e|e
   ·exact x1 (st.inj x lV c blk g x2 hk hc hm hgx (.inl e))
   ·have:=(st.mu x c g x2 hc hgx).2.2.1;omega
  rw [l9]at h h'
  split at h
  ·rename_i e
   subst e
   injection h with h
   subst h
   rw [nH]at hg1
   split at h'
   ·rename_i e';exact e'
   ·exact(cross h' hm2 hg2 (hg1.flat hfl)).elim
  ·split at h'
   ·rename_i e'
    subst e'
    injection h' with h'
    subst h'
    rw [nH]at hg2
    exact(cross h hm1 hg1 (hg2.flat hfl)).elim
   ·obtain⟨n1,h⟩:=pO h
    obtain⟨n2,h'⟩:=pO h'
    have hl:=st.lab k b h
    have hl':=st.lab k' b' h'
    rw [oz (by omega)]at hg1 hg2
    exact st.inj k k' b b' g h h' hm1 hm2 (bk n1 h hm1 hg1) (bk n2 h' hm2 hg2)
 ·rw [l9]at h
  split at h
  ·rename_i e
   subst e
   injection h with h
   subst h
   rw [nH]
   exact hblk hE
  ·obtain⟨h1,h⟩:=pO h
   have hl:=st.lab k b h
   rw [oz (by omega)]
   exact(st.blk k b h).mono hE fun hm' g hg'=>hg g (st.mu k b g h hm' hg').2.2.1 fun e=>h1 (st.inj k lV b blk g h hk hm' hm hg' (.inl e))
theorem IY {t sz c m:Nat}{oa:Option Addr}{xs:List Value}(hO:Own w 0 t sz oa m c xs):(oa.map (·.block)).map (fun g=>(⟨g,0,none⟩:Addr))=oa:=by
 rcases hO.2 with ⟨hv,h0⟩|⟨g,cap,cur,hv,_⟩
 ·injection hv with e _ _;subst e;rfl
 ·injection hv with e _ _;subst e;rfl
theorem yw {t sz c m:Nat}{oa:Option Addr}{xs:List Value}{l:List (List FV)}(hO:Own w 0 t sz oa m c xs)(hm:m=l.length)(hR:pz F w sz l xs):uo n σ F w ⟨oa.map (·.block),m,c,sz⟩ (.rows t sz l):=by
 refine⟨rfl,hm,xs, ?_,hR⟩
 have:(Loc.mk (oa.map (·.block)) m c sz).oa=oa:=IY hO
 rw [this, <-hm];exact hO
theorem BJ {t sz c m:Nat}{oa:Option Addr}{xs:List Value}{w':World}(hO:Own w' 0 t sz oa m c xs):mF (n+1) (wX σ n ⟨oa.map (·.block),m,c,sz⟩) F w' (.own n) (.slice oa m c):=by
 have:=mF.own (n:=n+1) (σ:=wX σ n ⟨oa.map (·.block),m,c,sz⟩) (F:=F) (w:=w') n (by omega)
 rw [nH]at this
 have e:(Loc.mk (oa.map (·.block)) m c sz).oa=oa:=IY hO
 rw [e]at this
 exact this
theorem BK {t sz c m:Nat}{oa:Option Addr}{xs:List Value}{w':World}(hO:Own w' 0 t sz oa m c xs){g:Nat}(h:oa.map (·.block)=some g):g<w'.heap.size:=(hO.ge g h).2
theorem KL {t sz c:Nat}{oa:Option Addr}{l:List (List FV)}{ys:List Value}{F':Nat->Prop}(hO:Vc.Own w 0 t sz oa l.length c ys)(hR:pz F w sz l ys)(hF : ∀b,F b->F' b)(hg : ∀g,oa=some ⟨g,0,none⟩->F' g):oL F' w (.lst sz l) (.slice oa l.length c):=by
 have hb:uo 0 (fun _=>⟨oa.map (·.block),l.length,c,sz⟩) F w ⟨oa.map (·.block),l.length,c,sz⟩ (.rows t sz l):=⟨rfl,rfl,ys,by
  have:(Loc.mk (oa.map (·.block)) l.length c sz).oa=oa:=IY hO
  rw [this];exact hO,hR⟩
 have:=sN hb hF fun g hgb=>by
  refine hg g ?_
  rcases hO.2 with ⟨hv,_⟩|⟨g',cap,cur,hv,_⟩
  ·injection hv with e _ _;subst e;cases hgb
  ·injection hv with e _ _;subst e;simp at hgb;rw [hgb]
 have h3:=this.2.2.1
 have e:(Loc.mk (oa.map (·.block)) l.length c sz).oa=oa:=IY hO
 rw [e]at h3
 exact h3
theorem KN {t ty E:TypeId}{sz k c c2:Nat}{oa yc:Option Addr}(ht:P.underlying t=some (.slice E))(hs:szB P E=some sz)(hkc:k<=c) :
  (Builtin.append_ #[t,t] ty #[.slice oa k c, .slice yc 0 c2]).run P w = .ok (.slice oa k c) w:=by
 obtain⟨i,hi,rfl⟩:=pK hs
 cases oa<;>cases yc<;>simp [Builtin.append_,run_underlying ht,sizeOf,typeInfo,hi,Builtin.lenOf,Builtin.firstCells,loadCells,loadCellsFrom,storeCells,hkc]
theorem KO {t ty E:TypeId}{sz qU k m c2 b:Nat}{yc:Option Addr}{olds news zs:List Value}
  (ht:P.underlying t=some (.slice E)) (hs:szB P E=some sz) (hby:pW P E=some qU) (hz:vG P E=some zs) (hzl:zs.length=sz) (hsz:Nat.ble 1 sz=true)
  (hlo:olds.length=k*sz) (holds : ∀j u,olds[j]? = some u->w.cell? ⟨b,0+j,none⟩=some u) (hr:Row w yc news) (hl:news.length=m*sz) (hm:0<m) (hbytes:(k+m)*qU<=140737488355328) (hlen:k+m<=maxLen) :
  ∃oW c' w',(Builtin.append_ #[t,t] ty #[.slice (some ⟨b,0,none⟩) k k, .slice yc m c2]).run P w = .ok (.slice oW (k+m) c') w'∧Vc.Own w' 0 E sz oW (k+m) c' (olds++news)∧w.grownBy w' none∧∀g,ownB oW=some g->w.heap.size<=g:=by
 obtain⟨i,hi,rfl⟩:=pK hs
 have hz1:0<i.size:=aN hsz
 have hb':i.bytes=qU:=by simpa [pW,hi]using hby
 obtain⟨z,hz1',hz2⟩ : ∃z,i.zero=some z∧z.cells.toList=zs:=by
  unfold vG at hz
  simp only [hi,eP]at hz
  cases hzz:i.zero with
  | none=>simp [hzz]at hz
  | some z=>simp only [hzz,bM,aI]at hz;exact⟨z,rfl,hz⟩
 have hzc:z.cells.size=i.size:=by rw [<-hz2]at hzl;simpa using hzl
 obtain⟨ad,rfl,hcells⟩ : ∃ad,yc=some ad∧∀j u,news[j]? = some u->w.cell? (ad.add j)=some u:=by
  rcases hr with rfl|⟨b,o,rfl,_,hc⟩
  ·have:=jM hm hz1;simp at hl;omega
  ·exact⟨_,rfl,fun j u hj=>by rw [add0];exact hc j u hj⟩
 obtain⟨v',w',hrun,ho,hg⟩:=run_append_arg_grows (P:=P) w t ty E i z i.size qU ht hi hz1' rfl hb' hzc hz1 ⟨b,0,none⟩ k k olds hlo (fun j u hj=>by rw [add0];exact holds j u hj) ad m c2 news hl hcells (by omega) hlen hbytes
 rcases ho.2 with ⟨rfl,h0⟩|⟨g,cap,cur,rfl,hg1,h2⟩
 ·omega
 ·exact⟨_,cap,w',hrun,⟨ho.1, .inr ⟨g,cap,cur,rfl,aB _,h2⟩⟩,hg,fun g' hg'=>by simp [ownB]at hg';omega⟩
theorem oL.head {sz k:Nat}{l:List (List FV)}{oa oW:Option Addr}{m c:Nat}(h:oL F w (.lst sz l) (.slice oa m c))(hk:k<=l.length)(ho:0<k->oW=oa):oL F w (.lst sz (l.take k)) (.slice oW k k):=by
 cases h with
 | lst _ _ _ _ _ b o hn hc hnil hoo hsz hex hrep=>
  refine .lst sz _ _ _ _ b o (by rw [aK];omega) (ay _) (fun e=> ?_) (fun h0=> ?_) (fun row hr=>hsz row (fA hr)) (fun i j hi hj=>hex i j (by omega) hj) (fun i j row a v hi hj hv=> ?_)
  ·rcases bP k with h0|h0
   ·exact h0
   ·have:=(hoo (by omega)).1
    rw [<-ho h0,e]at this;cases this
  ·rw [ho h0];exact hoo (by omega)
  ·rw [bH]at hi
   split at hi
   ·exact hrep i j row a v hi hj hv
   ·cases hi
theorem EL {ts:List TypeId}{as:List AV}{vs:List Value}{ty:TypeId}{K:AV->Nat->lF->Prop}(h:ED P ts as n H K)(st:St G lJ lN lQ n σ F H w)(r:ng n σ F w as vs) :
  nJ P (Builtin.append_ ts.toArray ty vs.toArray) w (KH G lJ lN lQ n σ F w K):=by
 unfold ED at h
 split at h
 ·rename_i t t' d s
  obtain⟨vd,vs',rfl,rd,rs⟩ : ∃v1 v2,vs = [v1,v2]∧mF n σ F w d v1∧mF n σ F w s v2:=by
   match vs,r with
   | [v1,v2],r=>exact⟨v1,v2,rfl,r.1,r.2.1⟩
  cases hb:Nat.beq t t' with
  | false=>rw [hb]at h;exact h.elim
  | true=>
   rw [hb,cond_true]at h
   have:=aA hb
   subst this
   split at h
   ·rename_i E hu
    split at h
    ·rename_i sz qU zs hs hby hz
     cases hc:(Nat.beq zs.length sz&&Nat.ble 1 sz)with
     | false=>rw [hc]at h;exact h.elim
     | true=>
      rw [hc,cond_true]at h
      simp only [au]at hc
      have hzl:=aA hc.1
      split at h
      ·rename_i sz' m hsrc
       cases hd:Nat.beq sz sz' with
       | false=>rw [hd]at h;exact h.elim
       | true=>
        rw [hd,cond_true]at h
        have:=aA hd
        subst this
        have src : ∃oa k c news,vs' = .slice oa k c∧k=m.length∧(oa=none->c=0)∧Row w oa news∧pz F w sz m news:=by
         split at hsrc
         ·simp only [aI,fJ]at hsrc
          obtain⟨_,rfl⟩:=hsrc
          exact⟨none,0,0,[],rs.nV,rfl,fun _=>rfl,Row.nil _ _,pz.nil sz⟩
         ·obtain⟨oa,k,c,news,h1,h2,_,h4,h5,h6⟩:=Pg hsrc st rs
          exact⟨oa,k,c,news,h1,h2,h4,h5,h6⟩
        obtain⟨yc,k2,c2,news,rfl,hk2,hnil,hrow,hR⟩:=src
        subst hk2
        split at h
        ·rw [rd.nV]
         obtain⟨hq1,hq2⟩:=h.req
         obtain⟨oW,c',w',r1,r2,r3,r4⟩:=vH (P:=P) (ty:=ty) (k:=0) (c:=0) (oa:=none) (xs:= []) (m:=m.length) (c2:=c2) hu hs hby hz hzl hc.2 (Own.nil w 0 E sz) hrow hR.2.1 hR.2.2.1 hnil (by rw [aS];exact hq1) (by rw [aS];exact hq2)
         rw [aS]at r1 r2
         simp only [bI]at r2
         have hE0 : ∀b,F b->F b∧w'.heap[b]? = w.heap[b]? :=fun b hb=>⟨hb,r3.block b (st.oC b hb).1 (by simp [ownB])⟩
         obtain⟨s2,x2⟩:=st.new (w':=w') ⟨r3.os,r3.tape,r3.output,r3.size,fun k hk _=>r3.block k hk (by simp [ownB])⟩ ⟨oW.map (fun x:Addr=>x.block),m.length,c',sz⟩
          (fun g hg=>⟨(r4 g hg).elim (fun e=>by simp [ownB]at e) id,BK r2 hg⟩) (.rows E sz m) (yw r2 rfl (hR.mono hE0))
         exact⟨_,_,r1,_,_,_,_,_,h.go,s2,x2,BJ r2⟩
        ·rename_i l
         split at h
         ·rename_i E' EF rr hk
          cases he:(Nat.beq E E'&&Nat.beq sz EF)with
          | false=>rw [he]at h;exact h.elim
          | true=>
           rw [he,cond_true]at h
           simp only [au]at he
           have e1:=aA he.1
           have e2:=aA he.2
           subst e1;subst e2
           obtain⟨hq1,hq2⟩:=h.req
           obtain⟨q1,q2,xs,hO,hRx⟩:=st.blk _ _ hk
           have hob:ownB (σ l).oa=(σ l).b:=by
            unfold ownB Loc.oa
            cases (σ l).b<;>rfl
           cases rd with
           | qP _ oa hl hn hc0=>
            rw [hn]at q2
            have hr0:rr = []:=aF q2.symm
            subst hr0
            rw [bI]at h
            simp only [dQ,aS]at hq1 hq2
            obtain⟨v',w',r1,r2⟩:=CV (P:=P) (ty:=ty) (oa:=oa) (c2:=c2) hu hs hby hz hzl hc.2 hrow hR.2.1 hR.2.2.1 hnil hq1 hq2
            rcases r2 with ⟨hm0,rfl,ew⟩|⟨oW,c',rfl,r2,r3,r4⟩
            ·have hm1:m = []:=aF hm0
             subst hm1
             rw [ew]at r1
             obtain⟨s2,x2⟩:=(st.drop l).new (w':=w) (yT.refl _ _) ⟨none,0,0,sz⟩ (fun g hg=>by cases hg) (.rows E sz []) ⟨rfl,rfl,[],Own.nil _ _ _ _,pz.nil sz⟩
             exact⟨_,_,r1,_,_,_,_,_,h.go,s2,x2, .qP n oa (by omega) (by rw [nH]) (by rw [nH])⟩
            ·have hE0 : ∀b,F b->F b∧w'.heap[b]? = w.heap[b]? :=fun b hb=>⟨hb,r3.block b (st.oC b hb).1 (by simp)⟩
             obtain⟨s2,x2⟩:=(st.drop l).new (w':=w') ⟨r3.os,r3.tape,r3.output,r3.size,fun k hk _=>r3.block k hk (by simp)⟩ ⟨oW.map (fun x:Addr=>x.block),m.length,c',sz⟩
              (fun g hg=>⟨r4 g hg,BK r2 hg⟩) (.rows E sz m) (yw r2 rfl (hR.mono hE0))
             exact⟨_,_,r1,_,_,_,_,_,h.go,s2,x2,BJ r2⟩
           | own _ hl=>
            rw [q2]
            obtain⟨oW,c',w',r1,r2,r3,r4⟩:=vH (P:=P) (ty:=ty) (m:=m.length) (c2:=c2) hu hs hby hz hzl hc.2 hO hrow hR.2.1 hR.2.2.1 hnil hq1 hq2
            have hg3 : ∀k,k<w.heap.size->(σ l).b≠some k->w'.heap[k]? = w.heap[k]? :=fun k hk hn=>r3.block k hk (by rw [hob];exact fun e=>hn e.symm)
            have hE0 : ∀b,F b->F b∧w'.heap[b]? = w.heap[b]? :=fun b hb=>⟨hb,hg3 b (st.oC b hb).1 fun e=>(st.mu l _ b hk rfl (.inl e)).1 hb⟩
            obtain⟨s2,x2⟩:=st.move (w':=w') hk rfl r3.os r3.tape r3.output r3.size hg3 ⟨oW.map (·.block),rr.length+m.length,c',sz⟩
             (fun g hg=>⟨BK r2 hg,by have:=r4 g hg;rw [hob]at this;exact this⟩) (.rows E sz (rr++m)) (fun _=>yw r2 (by rw [ak]) ((hRx.mono hE0).append (hR.mono hE0)))
            exact⟨_,_,r1,_,_,_,_,_,h.go,s2,x2,BJ r2⟩
         ·cases h
        ·rename_i l k
         split at h
         ·rename_i EF rr hk
          cases he:Nat.beq sz EF with
          | false=>rw [he]at h;exact h.elim
          | true=>
           rw [he,cond_true]at h
           have e2:=aA he
           subst e2
           obtain⟨⟨hq1,hq2⟩,hq3⟩:=h.req
           have hgo:=h.go
           obtain⟨q1,q2,hf,hf0⟩:=st.blk _ _ hk
           have hFs : ∀b,F b->b<w.heap.size:=fun b hb=>(st.oC b hb).1
           cases rd with
           | full _ _ oa hl hkk ho=>
            have hoa:0<k->oa=(σ l).oa:=fun h0=>by
             obtain⟨b,e1,e2⟩:=ho h0
             rw [e2];unfold Loc.oa;rw [e1];rfl
            by_cases hm:m.length=0
            ·have hm1:m = []:=aF hm
             subst hm1
             rw [bZ]at hgo
             exact⟨_,_,KN hu hs (ay _),_,_,_,_,_,hgo,st, .refl _ _ _ _, .lst (hf.head hq3 hoa)⟩
            ·obtain⟨oa0,m0,c0,Ua,ev,em,_,_,hrow0,hR0⟩:=yu hf hFs
             injection ev with ev1 _ _
             have hol:(Ua.take (k*sz)).length=k*sz:=by
              rw [aK,hR0.2.1]
              exact dG (aU _ hq3)
             have hRk:pz F w sz (rr.take k) (Ua.take (k*sz)):=by
              have:=hR0.part (i:=0) (j:=k) (by omega)
              rw [dY,gK,gK]at this
              exact this
             have hrun : ∃oW c' w',(Builtin.append_ #[t,t] ty #[.slice oa k k, .slice yc m.length c2]).run P w = .ok (.slice oW (k+m.length) c') w'∧Vc.Own w' 0 E sz oW (k+m.length) c' (Ua.take (k*sz)++news)∧w.grownBy w' none∧∀g,ownB oW=some g->w.heap.size<=g:=by
              rcases bP k with h0|h0
              ·subst h0
               rw [dY,iO,bI,aS]
               obtain⟨v',w',r1,r2⟩:=CV (P:=P) (ty:=ty) (oa:=oa) (c2:=c2) hu hs hby hz hzl hc.2 hrow hR.2.1 hR.2.2.1 hnil (by rw [aS]at hq1;exact hq1) (by rw [aS]at hq2;exact hq2)
               rcases r2 with ⟨hm0,_⟩|⟨oW,c',rfl,r2,r3,r4⟩
               ·exact absurd hm0 hm
               ·exact⟨oW,c',w',r1,r2,r3,r4⟩
              ·obtain⟨b,e1,e2⟩:=ho h0
               have eb:(σ l).oa=some ⟨b,0,none⟩:=by rw [<-hoa h0,e2]
               rw [e2]
               refine KO hu hs hby hz hzl hc.2 hol (fun j u hj=> ?_) hrow hR.2.1 (by omega) hq1 hq2
               rw [bH]at hj
               split at hj
               ·rcases hrow0 with h5|⟨b',o',e5,_,h6⟩
                ·rw [h5]at hj;cases hj
                ·rw [<-ev1,eb]at e5
                 injection e5 with e5
                 injection e5 with e5 e6
                 subst e5;subst e6
                 exact h6 j u hj
               ·cases hj
             obtain⟨oW,c',w',r1,r2,r3,r4⟩:=hrun
             obtain⟨s2,x2⟩:=st.more (w':=w') ⟨r3.os,r3.tape,r3.output,r3.size,fun k hk _=>r3.block k hk (by simp)⟩ (fun g=>ownB oW=some g) (fun g hg=>⟨r4 g hg,BK r2 hg⟩)
             have hE0 : ∀b,F b->F b∧w'.heap[b]? = w.heap[b]? :=fun b hb=>⟨hb,r3.block b (hFs b hb) (by simp)⟩
             have hlen:(rr.take k++m).length=k+m.length:=by rw [ak,aK,dG hq3]
             have hfr:=KL (F:=F) (F':=fun b=>F b∨ownB oW=some b) (l:=rr.take k++m) (by rw [hlen];exact r2) ((hRk.mono hE0).append (hR.mono hE0)) (fun _ h=> .inl h) (fun g hg=> .inr (by rw [hg];rfl))
             rw [hlen]at hfr
             exact⟨_,_,r1,_,_,_,_,_,hgo,s2,x2, .lst hfr⟩
         ·cases h
        ·cases h
      ·cases h
    ·cases h
   ·cases h
 ·cases h
theorem zX {t u ty E:TypeId}{k c:Nat}{oa:Option Addr}{xs:List Value}{s:ByteArray}
  (ht:P.underlying t=some (.slice E)) (hu:P.underlying u=some .string) (hs:szB P E=some 1) (hby:pW P E=some 1) (hz:(P.info? E).bind (·.zero)=some (.int .u8 0))
  (hown:Own w 0 E 1 oa k c xs) (hbytes:k+s.size<=140737488355328) (hlen:k+s.size<=maxLen) :
  ∃oW c' w',(Builtin.append_ #[t,u] ty #[.slice oa k c, .string s]).run P w = .ok (.slice oW (k+s.size) c') w'∧Own w' 0 E 1 oW (k+s.size) c' (xs++strCells s)∧w.grownBy w' (ownB oa)∧(∀g,ownB oW=some g->ownB oa=some g∨w.heap.size<=g):=by
 obtain⟨i,hi,hi1⟩:=pK hs
 have hb':i.bytes=1:=by simpa [pW,hi]using hby
 have hz1:i.zero=some (.int .u8 0):=by simpa [hi]using hz
 have main : ∀B,Own w B E 1 oa k c xs->B<=w.heap.size->∃oW c' w',(Builtin.append_ #[t,u] ty #[.slice oa k c, .string s]).run P w = .ok (.slice oW (k+s.size) c') w'∧Own w' B E 1 oW (k+s.size) c' (xs++strCells s)∧w.grownBy w' (ownB oa):=by
  intro B hown hB
  obtain⟨v',w',hrun,ho,hg,_⟩:=run_append_own_string (P:=P) w B t u ty E i ht hu hi hz1 hi1 hb' (.slice oa k c) k xs hown s hlen hbytes hB
  rw [zO]at hg
  obtain⟨oW,c',rfl⟩ : ∃oW c',v' = .slice oW (k+s.size) c':=by
   rcases ho.2 with ⟨h,h0⟩|⟨g,cap,cur,h,_⟩
   ·exact⟨none,0,by rw [h,h0]⟩
   ·exact⟨_,cap,h⟩
  exact⟨oW,c',w',hrun,ho,hg⟩
 have up : ∀ {w':World} {B:Nat} {oW:Option Addr} {k' c':Nat} {ys:List Value},Own w' B E 1 oW k' c' ys->Own w' 0 E 1 oW k' c' ys:=fun h=>⟨h.1,h.2.imp id fun⟨g,cap,cur,h1,_,h2⟩=>⟨g,cap,cur,h1,aB _,h2⟩⟩
 rcases hown.2 with ⟨hv,h0⟩|⟨g,cap,cur,hv,hg0,hh,hle,hcm,hcs,htk⟩
 ·injection hv with e1 e2 e3
  subst e1;subst e2;subst e3
  obtain⟨oW,c',w',r1,r2,r3⟩:=main w.heap.size ⟨hown.1, .inl ⟨rfl,rfl⟩⟩ (ay _)
  exact⟨oW,c',w',r1,up r2,r3,fun g hg=> .inr (r2.ge g hg).1⟩
 ·injection hv with e1 e2 e3
  subst e1;subst e3
  obtain⟨oW,c',w',r1,r2,r3⟩:=main 0 hown (aB _)
  refine⟨oW,c',w',r1,r2,r3,fun g' hg'=> ?_⟩
  by_cases hroom:k+s.size<=c
  ·have hr2:=run_append_room_string (P:=P) w t u ty E i ht hu hi hi1 g k c cur hh s hroom (by rw [hcs];omega)
   rw [r1]at hr2
   injection hr2 with hr2 _
   injection hr2 with hr2 _ _
   rw [hr2]at hg'
   exact .inl hg'
  ·have holds : ∀j v,xs[j]? = some v->w.cell? ((⟨g,0,none⟩:Addr).add j)=some v:=World.ownsRow.cells (h:=hown) (g:=g) rfl
   have hr2:=run_append_grow_string (P:=P) w t u ty E i (.int .u8 0) ht hu hi hz1 ⟨g,0,none⟩ k c xs (by rw [hi1];exact hown.1) holds s (by omega) (by simp only [maxLen]at hlen;omega) (by rw [hb'];exact growslice_fits (by omega) (by omega))
   rw [r1]at hr2
   injection hr2 with hr2 _
   injection hr2 with hr2 _ _
   rw [hr2]at hg'
   simp only [ownB,bM,aI]at hg'
   exact .inr (by omega)
theorem IZ {t u ty E:TypeId}{oa:Option Addr}{s:ByteArray}
  (ht:P.underlying t=some (.slice E)) (hu:P.underlying u=some .string) (hs:szB P E=some 1) (hby:pW P E=some 1) (hz:(P.info? E).bind (·.zero)=some (.int .u8 0))
  (hbytes:s.size<=140737488355328) (hlen:s.size<=maxLen) :
  ∃v' w',(Builtin.append_ #[t,u] ty #[.slice oa 0 0, .string s]).run P w = .ok v' w'∧((s.size=0∧v' = .slice oa 0 0∧w'=w)∨
   ∃oW c',v' = .slice oW s.size c'∧Own w' 0 E 1 oW s.size c' (strCells s)∧w.grownBy w' none∧∀g,ownB oW=some g->w.heap.size<=g):=by
 obtain⟨oW,c',w',r1,r2,r3,r4⟩:=zX (P:=P) (w:=w) (t:=t) (u:=u) (ty:=ty) (k:=0) (c:=0) (oa:=none) (xs:= []) (s:=s) ht hu hs hby hz (Own.nil w 0 E 1) (by rw [aS];exact hbytes) (by rw [aS];exact hlen)
 rw [aS]at r1 r2
 cases oa with
 | none=>exact⟨_,_,r1, .inr ⟨oW,c',rfl,by simpa using r2,r3,fun g hg=>(r4 g hg).elim (fun e=>by simp [ownB]at e) id⟩⟩
 | some a=>
  obtain⟨i,hi,hi1⟩:=pK hs
  have hb':i.bytes=1:=by simpa [pW,hi]using hby
  have hz1:i.zero=some (.int .u8 0):=by simpa [hi]using hz
  rcases bP s.size with h0|h0
  ·refine⟨.slice (some a) 0 0,w, ?_, .inl ⟨h0,rfl,rfl⟩⟩
   have hn:strCells s = []:=aF (by rw [strCells_length];exact h0)
   have hf:=run_firstCells_string (P:=P) w i.size s
   rw [hn,h0]at hf
   simp [Builtin.append_,run_underlying ht,run_underlying hu,sizeOf,typeInfo,hi,Builtin.lenOf,h0,hf,storeCells]
  ·have hr1:=run_append_grow_string (P:=P) w t u ty E i (.int .u8 0) ht hu hi hz1 a 0 0 [] (by simp) (by simp) s (by omega) (by simp only [maxLen]at hlen;omega) (by rw [hb'];exact growslice_fits (by omega) (by omega))
   have hr2:=run_append_nil_string (P:=P) w t u ty E i (.int .u8 0) ht hu hi hz1 s (by omega) (by simp only [maxLen]at hlen;omega) (by rw [hb'];omega)
   have e1:(s.data.map fun b=>Value.int .u8 b.toNat)=(strCells s).toArray:=by
    apply jc
    simp [strCells]
   rw [e1,r1]at hr2
   injection hr2 with e1 e2
   simp only [aS,bI,Array.empty_append]at hr1
   rw [<-e1, <-e2]at hr1
   exact⟨_,_,hr1, .inr ⟨oW,c',rfl,by simpa using r2,r3,fun g hg=>(r4 g hg).elim (fun e=>by simp [ownB]at e) id⟩⟩
theorem Ph (s:ByteArray):pz F w 1 (s.data.toList.map oh) (strCells s):=by
 have hl:(strCells s).length=s.size:=strCells_length s
 refine⟨fun row hr=>by obtain⟨x,_,rfl⟩:=dR.1 hr;rfl,by rw [hl,ah];simp,strCells_oneCell s,fun i j row a v hi hj hv=> ?_⟩
 rw [aP]at hi
 cases hc:s.data.toList[i]? with
 | none=>rw [hc]at hi;cases hi
 | some x=>
  rw [hc]at hi
  simp only [bM,aI]at hi
  subst hi
  cases j with
  | succ j=>simp [oh]at hj
  | zero=>
   simp only [oh,bY,aI]at hj
   subst hj
   rw [dW,dH]at hv
   have:v = .int .u8 (x.toNat:Int):=by
    unfold strCells at hv
    rw [aP,hc]at hv
    simpa using hv.symm
   rw [this];exact .v _
theorem CW {t t' ty:TypeId}{d:AV}{x:ByteArray}{vd:Value}{K:AV->Nat->lF->Prop}(h:KC P t t' d x n H K)(st:St G lJ lN lQ n σ F H w)(rd:mF n σ F w d vd) :
  nJ P (Builtin.append_ #[t,t'] ty #[vd, .string x]) w (KH G lJ lN lQ n σ F w K):=by
 unfold KC at h
 split at h
 ·rename_i E l hu hu'
  split at h
  ·rename_i sz qU hs hby
   split at h
   ·rename_i E' sz' rr hk
    cases hc:(Nat.beq sz 1&&Nat.beq qU 1&&KA P E&&Nat.beq E E'&&Nat.beq sz sz')with
    | false=>rw [hc]at h;exact h.elim
    | true=>
     rw [hc,cond_true]at h
     simp only [au]at hc
     obtain⟨⟨⟨⟨c1,c2⟩,c3⟩,c4⟩,c5⟩:=hc
     have c1:=aA c1
     have c2:=aA c2
     have c4:=aA c4
     have c5:=aA c5
     subst c1;subst c2;subst c4;subst c5
     have hz:(P.info? E).bind (·.zero)=some (.int .u8 0):=by
      unfold KA at c3
      split at c3
      ·rename_i m hm;rw [hm,of_decide_eq_true c3]
      ·cases c3
     obtain⟨hq1,hq2⟩:=h.req
     obtain⟨q1,q2,xs,hO,hRx⟩:=st.blk _ _ hk
     have hob:ownB (σ l).oa=(σ l).b:=by
      unfold ownB Loc.oa
      cases (σ l).b<;>rfl
     have hxl:(x.data.toList.map oh).length=x.size:=by simp
     cases rd with
     | qP _ oa hl hn hc0=>
      rw [hn]at q2
      have hr0:rr = []:=aF q2.symm
      subst hr0
      rw [bI]at h
      simp only [dQ,aS]at hq1 hq2
      obtain⟨v',w',r1,r2⟩:=IZ (P:=P) (t:=t) (u:=t') (ty:=ty) (oa:=oa) (s:=x) hu hu' hs hby hz hq1 hq2
      rcases r2 with ⟨hm0,rfl,ew⟩|⟨oW,c',rfl,r2,r3,r4⟩
      ·have hm1:x.data.toList.map oh = []:=aF (by rw [hxl];exact hm0)
       rw [hm1]at h
       rw [ew]at r1
       obtain⟨s2,x2⟩:=(st.drop l).new (w':=w) (yT.refl _ _) ⟨none,0,0,1⟩ (fun g hg=>by cases hg) (.rows E 1 []) ⟨rfl,rfl,[],Own.nil _ _ _ _,pz.nil 1⟩
       exact⟨_,_,r1,_,_,_,_,_,h.go,s2,x2, .qP n oa (by omega) (by rw [nH]) (by rw [nH])⟩
      ·obtain⟨s2,x2⟩:=(st.drop l).new (w':=w') ⟨r3.os,r3.tape,r3.output,r3.size,fun k hk _=>r3.block k hk (by simp)⟩ ⟨oW.map (fun x:Addr=>x.block),x.size,c',1⟩
        (fun g hg=>⟨r4 g hg,BK r2 hg⟩) (.rows E 1 (x.data.toList.map oh)) (yw r2 hxl.symm (Ph x))
       exact⟨_,_,r1,_,_,_,_,_,h.go,s2,x2,BJ r2⟩
     | own _ hl=>
      rw [q2]
      obtain⟨oW,c',w',r1,r2,r3,r4⟩:=zX (P:=P) (t:=t) (u:=t') (ty:=ty) (s:=x) hu hu' hs hby hz hO hq1 hq2
      have hg3 : ∀k,k<w.heap.size->(σ l).b≠some k->w'.heap[k]? = w.heap[k]? :=fun k hk hn=>r3.block k hk (by rw [hob];exact fun e=>hn e.symm)
      have hE0 : ∀b,F b->F b∧w'.heap[b]? = w.heap[b]? :=fun b hb=>⟨hb,hg3 b (st.oC b hb).1 fun e=>(st.mu l _ b hk rfl (.inl e)).1 hb⟩
      obtain⟨s2,x2⟩:=st.move (w':=w') hk rfl r3.os r3.tape r3.output r3.size hg3 ⟨oW.map (·.block),rr.length+x.size,c',1⟩
       (fun g hg=>⟨BK r2 hg,by have:=r4 g hg;rw [hob]at this;exact this⟩) (.rows E 1 (rr++x.data.toList.map oh)) (fun _=>yw r2 (by rw [ak,hxl]) ((hRx.mono hE0).append (Ph x)))
      exact⟨_,_,r1,_,_,_,_,_,h.go,s2,x2,BJ r2⟩
   ·cases h
  ·cases h
 ·cases h
theorem XA : ∀ {k:Nat} {u:TypeId},Xv P k=some u->P.underlying u=some .string:=by
 intro k
 induction k with
 | zero=>intro u h;cases h
 | succ k ih=>
  intro u h
  unfold Xv at h
  split at h
  ·rename_i u' hu;injection h with h;subst h;exact ih hu
  ·split at h
   ·rename_i hk;injection h with h;subst h;exact hk
   ·cases h
theorem KP (m:Nat):(strCells (tK m)).toArray=Builtin.zeroCells (Value.int .u8 0).cells m:=by
 apply Array.ext
 ·simp [strCells,tK,Builtin.zeroCells,Value.cells]
 ·intro i h1 h2
  simp [strCells,tK,Builtin.zeroCells,Value.cells,Nat.mod_one]
theorem XB {t u tn ty E:TypeId}{kn k:IntKind}{oa:Option Addr}{l c m:Nat}
  (ht:P.underlying t=some (.slice E)) (hu:P.underlying u=some .string) (htn:P.underlying tn=some (.int kn)) (hs:szB P E=some 1) (hby:pW P E=some 1) (hz:(P.info? E).bind (·.zero)=some (.int .u8 0))
  (hm:l+m<=140737488355328) :
  (Builtin.append_ #[t,tn] ty #[.slice oa l c, .int k (m:Int)]).run P w=(Builtin.append_ #[t,u] ty #[.slice oa l c, .string (tK m)]).run P w:=by
 obtain⟨i,hi,hi1⟩:=pK hs
 have hb':i.bytes=1:=by simpa [pW,hi]using hby
 have hz1:i.zero=some (.int .u8 0):=by simpa [hi]using hz
 have hw:IntKind.i64.wrap (m:Int)=m:=by rw [IntKind.wrap_i64];omega
 have hneg : ¬((m:Int)<0):=by omega
 have h48 : ¬(281474976710656<(m:Int)):=by omega
 have hsz:(tK m).size=m:=by simp [tK,ByteArray.size]
 have hbig : ¬(9223372036854775807<((l:Int)+(m:Int))):=by omega
 have hfc : ∀w:World,(Builtin.firstCells 1 m (.string (tK m))).run P w = .ok (Builtin.zeroCells (Value.int .u8 0).cells m) w:=fun w=>by
  have:=run_firstCells_string (P:=P) w 1 (tK m)
  rw [hsz,KP]at this
  exact this
 have hz0:m=0->Builtin.zeroCells (Value.int .u8 0).cells m = #[]:=fun h=>by subst h;simp [Builtin.zeroCells]
 have hfit : ¬(l+m<=c)->¬(281474976710656<Builtin.nextslicecap (l+m) c):=fun hg=>by
  have:=growslice_fits (need:=l+m) (old:=c) (bytes:=1) (by omega) (by omega)
  omega
 by_cases hroom:l+m<=c
 ·by_cases h0:m=0
  ·have h00:=hz0 h0
   subst h0
   have hw0:IntKind.i64.wrap 0=0:=rfl
   rw [h00]at hfc
   simp [Builtin.append_,run_underlying ht,run_underlying htn,run_underlying hu,sizeOf,typeInfo,zeroValue,hi,hz1,hi1,hb',asInt,asIntOf,Builtin.lenOf,hsz,hfc,hw0,show l<=c by omega]
  ·simp [Builtin.append_,run_underlying ht,run_underlying htn,run_underlying hu,sizeOf,typeInfo,zeroValue,hi,hz1,hi1,hb',asInt,asIntOf,Builtin.lenOf,hsz,hfc,hw,hneg,h48,h0,hbig,hroom]
 ·have hf:=hfit hroom
  by_cases h0:m=0
  ·have h00:=hz0 h0
   subst h0
   have hw0:IntKind.i64.wrap 0=0:=rfl
   rw [dH]at hf hroom hm
   have hl0 : ¬(9223372036854775807<(l:Int)):=by omega
   rw [h00]at hfc
   simp [Builtin.append_,run_underlying ht,run_underlying htn,run_underlying hu,sizeOf,typeInfo,zeroValue,hi,hz1,hi1,hb',asInt,asIntOf,Builtin.lenOf,hsz,hfc,hw0,h00,hroom,hf,hl0]
  ·simp [Builtin.append_,run_underlying ht,run_underlying htn,run_underlying hu,sizeOf,typeInfo,zeroValue,hi,hz1,hi1,hb',asInt,asIntOf,Builtin.lenOf,hsz,hfc,hw,hneg,h48,h0,hbig,hroom,hf]
theorem KQ {t t' ty:TypeId}{d:AV}{x:Int}{vd:Value}{k:IntKind}{K:AV->Nat->lF->Prop}(h:TK P t t' d x n H K)(st:St G lJ lN lQ n σ F H w)(rd:mF n σ F w d vd) :
  nJ P (Builtin.append_ #[t,t'] ty #[vd, .int k x]) w (KH G lJ lN lQ n σ F w K):=by
 unfold TK at h
 split at h
 ·rename_i kn u hn hu
  obtain⟨m,mc,rfl,_,_,_,_,hk⟩:=h.ex
  obtain⟨v,w',hr,hK⟩:=(CW (ty:=ty) hk st rd)
  have hsz:(tK m).size=m:=by simp [tK,ByteArray.size]
  unfold KC at hk
  split at hk
  ·rename_i E l ht _
   split at hk
   ·rename_i sz qU hs hby
    split at hk
    ·rename_i E' sz' rr hl
     cases hc:(Nat.beq sz 1&&Nat.beq qU 1&&KA P E&&Nat.beq E E'&&Nat.beq sz sz')with
     | false=>rw [hc]at hk;exact hk.elim
     | true=>
      rw [hc,cond_true]at hk
      simp only [au]at hc
      obtain⟨⟨⟨⟨c1,c2⟩,c3⟩,c4⟩,c5⟩:=hc
      have c1:=aA c1
      have c2:=aA c2
      subst c1;subst c2
      have hz:(P.info? E).bind (·.zero)=some (.int .u8 0):=by
       unfold KA at c3
       split at c3
       ·rename_i z hm;rw [hm,of_decide_eq_true c3]
       ·cases c3
      obtain⟨hq1,_⟩:=hk.req
      rw [hsz]at hq1
      obtain⟨_,q2,_⟩:=st.blk _ _ hl
      have key : ∀(oa:Option Addr) (n' c':Nat),n'<=rr.length->vd = .slice oa n' c'->nJ P (Builtin.append_ #[t,t'] ty #[vd, .int k (m:Int)]) w (KH G lJ lN lQ n σ F w K):=fun oa n' c' hn' e=>by
       subst e
       exact⟨v,w',(XB ht (XA hu) hn hs hby hz (by omega)).trans hr,hK⟩
      cases rd with
      | qP _ oa _ _ _=>exact key oa 0 0 (aB _) rfl
      | own _ _=>exact key _ _ _ (by omega) rfl
    ·exact hk.elim
   ·exact hk.elim
  ·exact hk.elim
 ·cases h
theorem Gy {ts:List TypeId}{as:List AV}{vs:List Value}{ty:TypeId}{K:AV->Nat->lF->Prop}(h:IG P ts as n H K)(st:St G lJ lN lQ n σ F H w)(r:ng n σ F w as vs) :
  nJ P (Builtin.append_ ts.toArray ty vs.toArray) w (KH G lJ lN lQ n σ F w K):=by
 unfold IG at h
 split at h
 ·rename_i t t' d x
  obtain⟨vd,rfl,rd⟩ : ∃vd,vs = [vd, .string x]∧mF n σ F w d vd:=by
   match vs,r with
   | [v1,v2],r=>exact⟨v1,by rw [r.2.1.nV],r.1⟩
  exact CW h st rd
 ·rename_i t t' d x
  obtain⟨vd,rfl,rd⟩ : ∃vd,vs = [vd, .int .i64 x]∧mF n σ F w d vd:=by
   match vs,r with
   | [v1,v2],r=>exact⟨v1,by rw [r.2.1.nV],r.1⟩
  exact KQ h st rd
 ·exact EL h st r
theorem Q8 : ∀ {H:lF} {l:Nat} {b:oN},look H l=some b->setH H l b=H:=by
 intro H
 induction H with
 | nil=>intro l b h;cases h
 | cons p r ih=>
  intro l b h
  unfold look at h
  unfold setH
  cases hb:Nat.beq p.1 l with
  | true=>
   rw [hb,cond_true]at h
   injection h with h
   rw [cond_true, <-h, <-aA hb]
  | false=>
   rw [hb,cond_false]at h
   rw [cond_false,ih h]
theorem KU {α:Type}(cur cs:List α)(o L:Nat)(h:o+cs.length<=L)(hL:L<=cur.length):(cur.take o++cs++cur.drop (o+cs.length)).take L=(cur.take L).take o++cs++(cur.take L).drop (o+cs.length):=by
 have hA:(cur.take o++cs).length=o+cs.length:=by rw [ak,aK];omega
 rw [List.take_append,hA,dZ (by omega),kX,jw,dG (by omega)]
theorem KW {w:World}{g:Nat}{cs:Array Value} : Only g w (w.setRow g cs):=by
 refine⟨rfl,rfl,rfl,by simp [World.setRow],fun k hk=> ?_⟩
 simp only [World.setRow,iE]
 rw [if_neg (fun e=>hk e.symm)]
theorem KY {ts:List TypeId}{as:List AV}{vs:List Value}{ty:TypeId}{K:AV->Nat->lF->Prop}(h:TM P ts as n H K)(st:St G lJ lN lQ n σ F H w)(r:ng n σ F w as vs) :
  nJ P (Builtin.copy_ ts.toArray ty vs.toArray) w (KH G lJ lN lQ n σ F w K):=by
 unfold TM at h
 split at h
 ·rename_i t t' d s
  obtain⟨vd,vs',rfl,rd,rs⟩ : ∃v1 v2,vs = [v1,v2]∧mF n σ F w d v1∧mF n σ F w s v2:=by
   match vs,r with
   | [v1,v2],r=>exact⟨v1,v2,rfl,r.1,r.2.1⟩
  split at h
  ·rename_i E hu
   split at h
   ·rename_i sz l o k sz' xs hs hcp hsrc
    split at h
    ·rename_i T EF m hk
     cases hb:(Nat.beq sz 1&&(Nat.beq sz' 1&&Nat.beq EF 1))with
     | false=>rw [hb]at h;exact h.elim
     | true=>
      rw [hb,cond_true]at h
      simp only [au]at hb
      obtain rfl:=aA hb.1
      obtain rfl:=aA hb.2.1
      obtain rfl:=aA hb.2.2
      obtain⟨i,hi,hi1⟩:=pK hs
      have hs1:(P.info? E).map (·.size)=some 1:=by rw [hi];exact congrArg some hi1
      obtain⟨yc,k2,c2,news,rfl,hk2,_,hnil,hrow,hR⟩:=Pg hsrc st rs
      subst hk2
      obtain⟨q1,q2,mv,hO,hRm⟩:=st.blk _ _ hk
      have dst : ∃oa c,vd = .slice oa k c∧o+k<=m.length∧(0<k->∃g,(σ l).b=some g∧oa=some ⟨g,o,none⟩):=by
       unfold aaB at hcp
       split at hcp
       ·rename_i l'
        split at hcp
        ·rename_i T' s' m' hk'
         simp only [aI,fJ]at hcp
         obtain⟨rfl,rfl,rfl⟩:=hcp
         rw [hk]at hk'
         injection hk' with hk'
         injection hk' with _ _ hk'
         subst hk'
         cases rd with
         | qP _ oa hl hn hc0=>
          rw [hn]at q2
          exact⟨oa,0,by rw [<-q2],by omega,fun h0=>by omega⟩
         | own _ hl=>
          refine⟨(σ l').oa,(σ l').c,by rw [q2],by omega,fun h0=> ?_⟩
          obtain⟨g,cur,hoa,_⟩:=hO.blk h0
          exact⟨g,vU hoa,hoa⟩
        ·cases hcp
       ·rename_i l' o' k'
        simp only [aI,fJ]at hcp
        obtain⟨rfl,rfl,rfl⟩:=hcp
        cases rd with
        | sub _ _ _ oa c hl hk1 hc hnil' ho=>
         refine⟨oa,c,rfl,by omega,fun h0=> ?_⟩
         obtain⟨b,hb1,hb2⟩:=ho h0
         rw [q1,dW]at hb2
         exact⟨b,hb1,hb2⟩
       ·cases hcp
      obtain⟨oa,c,rfl,hok,hdst⟩:=dst
      rcases bP (min xs.length k)with h0|h0
      ·rw [h0]at h
       have hrun:=run_copy_none (P:=P) w t t' ty E oa yc k c xs.length c2 hu hs1 h0
       have e:splice m o (xs.take 0)=m:=by simp [splice]
       rw [e,Q8 hk]at h
       exact oP hrun ⟨.v (.int .i64 0),n,σ,F,H,h,st,Ext.refl n σ F w, .v _⟩
      ·obtain⟨g,hgb,rfl⟩:=hdst (by omega)
       obtain⟨g',cur,hoa,hg0,hB,hle,hcm,hcl,htk⟩:=hO.blk (by omega)
       have hgb':=vU hoa
       rw [hgb]at hgb'
       injection hgb' with hgb'
       subst hgb'
       rw [dW]at hcl htk
       have hnl:news.length=xs.length:=by have:=hR.2.1;rwa [dW]at this
       obtain⟨b2,o2,rfl,_,hcells⟩:=hrow.get (by omega)
       generalize hn0:min xs.length k=n0 at *
       have Ub:(news.take n0).length=n0:=by rw [aK];omega
       have h1 : ∀v∈news.take n0,v.oneCell'=true:=fun v hv=>hR.2.2.1 v (fA hv)
       have hrun:=run_copy_row (P:=P) w t t' ty E g o k c ⟨b2,o2,none⟩ xs.length c2 cur.toArray T (news.take n0) hu hs1 hB (by rw [Ub];exact hn0.symm) (fun j v hj=>by
        rw [add0]
        rw [bH]at hj
        split at hj
        ·exact hcells j v hj
        ·cases hj) (by rw [Ub];simp;omega) h1
       rw [Ub]at hrun
       have hB':=setRow_heap w g cur.toArray (cur.take o++news.take n0++cur.drop (o+n0)).toArray T (0,0) hB
       have hxl:(xs.take n0).length=n0:=by rw [aK];omega
       have hsl:(splice m o (xs.take n0)).length=m.length:=by simp only [splice,hxl,ak,aK,aX];omega
       have p1:=hRm.part (i:=0) (j:=o) (by omega)
       have p2:=hR.part (i:=0) (j:=n0) (by omega)
       have p3:=hRm.part (i:=o+n0) (j:=m.length -(o+n0)) (by omega)
       simp only [dY,gK,dW]at p1 p2 p3
       have hmv:mv.length=m.length:=by have:=hRm.2.1;rwa [dW]at this
       rw [dZ (by rw [aX];omega),dZ (by rw [aX];omega)]at p3
       have hrep:pz F w 1 (splice m o (xs.take n0)) (mv.take o++news.take n0++mv.drop (o+n0)):=by
        unfold splice
        rw [hxl]
        exact(p1.append p2).append p3
       obtain⟨s2,x2⟩:=st.write (w':=w.setRow g (cur.take o++news.take n0++cur.drop (o+n0)).toArray) hk rfl hgb KW (.rows T 1 (splice m o (xs.take n0))) fun _ hE=>⟨q1,by rw [hsl];exact q2,_,by
         rw [hoa,hsl]
         refine Own.Et (xs:=mv.take o++news.take n0++mv.drop (o+n0)) hB' hg0 hle hcm ?_ ?_
         ·rw [dW];simp only [ak,aK,aX];omega
         ·rw [dW, <-htk]
          have:=KU cur (news.take n0) o m.length (by rw [Ub];omega) (by omega)
          rwa [Ub]at this,hrep.mono hE.f⟩
       have e:goInt n0 = .int .i64 (n0:Int):=rfl
       exact oP hrun ⟨.v (.int .i64 (n0:Int)),n,σ,F,_,h,s2,x2,by rw [e];exact .v _⟩
    ·cases h
   ·cases h
  ·cases h
 ·cases h
theorem Uc (zs:List Value):yU F w (zs.map .v) zs:=⟨by simp,fun j a v h1 h2=>by
 rw [aP,h2]at h1
 simp only [bM,aI]at h1
 rw [<-h1];exact .v _⟩
theorem KZ {zs:List Value}{sz:Nat}(hz:zs.length=sz)(h1 : ∀v∈zs,v.oneCell'=true) : ∀m:Nat,pz F w sz (List.replicate m (zs.map .v)) (List.replicate m zs).flatten:=by
 intro m
 induction m with
 | zero=>exact pz.nil sz
 | succ m ih=>rw [eU,eU,iq];exact .cons (Uc zs) hz h1 ih
theorem Ud {zs:List Value}{sz m mc:Nat}(hz:zs.length=sz)(h:m<=mc):(List.replicate mc zs).flatten.take (m*sz)=(List.replicate m zs).flatten:=by
 obtain⟨d,rfl⟩:=Nat.exists_eq_add_of_le h
 rw [<-jD,List.flatten_append]
 have:m*sz=(List.replicate m zs).flatten.length:=by simp [hz]
 rw [this]
 exact iP
theorem La {w:World}{K:Value->World->Prop}{t E:TypeId}{sz qU n m:Nat}{kl kc:IntKind}{zs:List Value}
  (ht:P.underlying t=some (.slice E)) (hs:szB P E=some sz) (hby:pW P E=some qU) (hz:vG P E=some zs) (hzl:zs.length=sz) (hsz:Nat.ble 1 sz=true)
  (hnm:n<=m) (hbytes:qU*m<=140737488355328) (hn:m<=maxLen)
  (k : ∀w',w'=w.alloc (.cells (List.replicate m zs).flatten.toArray E)->qX w' w.heap.size (List.replicate m zs).flatten E->K (.slice (some ⟨w.heap.size,0,none⟩) n m) w') :
  nJ P (Instr.makeSlice t (.int kl (n:Int)) (.int kc (m:Int))) w K:=by
 obtain⟨i,hi,rfl⟩:=pK hs
 have hb':i.bytes=qU:=by simpa [pW,hi]using hby
 subst hb'
 obtain⟨z,hz1,hz2⟩ : ∃z,i.zero=some z∧z.cells.toList=zs:=by
  unfold vG at hz
  simp only [hi,eP]at hz
  cases hzz:i.zero with
  | none=>simp [hzz]at hz
  | some z=>simp only [hzz,bM,aI]at hz;exact⟨z,rfl,hz⟩
 have hsz':1<=i.size:=aN hsz
 have hzc:z.cells.size=i.size:=by rw [<-hz2]at hzl;simpa using hzl
 have h63:(m:Int)<=9223372036854775807:=by unfold maxLen at hn;omega
 have hbi:(i.bytes:Int)*(m:Int)<=281474976710656:=by
  rw [<-iw]
  omega
 have hrun:=run_make (P:=P) w t E i z ht hi hz1 kl kc n m (by omega) (by omega) hbi h63
 have hmc:madeCells z.cells (m*i.size)=(List.replicate m zs).flatten.toArray:=by
  rw [<-hz2, <-Bh z.cells m i.size hzc hsz']
  unfold madeCells
  rfl
 simp only [dK]at hrun
 rw [hmc]at hrun
 exact oP hrun (k _ rfl (by have:=qX.new w (List.replicate m zs).flatten.toArray E;simpa using this))
theorem BL {t:TypeId}{l c:AV}{vl vc:Value}{K:AV->Nat->lF->Prop}(h:zk P t l c n H K)(st:St G lJ lN lQ n σ F H w)(rl:mF n σ F w l vl)(rc:mF n σ F w c vc) :
  nJ P (Instr.makeSlice t vl vc) w (KH G lJ lN lQ n σ F w K):=by
 unfold zk at h
 split at h
 ·rename_i k1 x k2 y
  rw [rl.nV,rc.nV]
  split at h
  ·rename_i E hu
   split at h
   ·rename_i sz qU zs hs hby hz
    cases hb:(Nat.beq zs.length sz&&Nat.ble 1 sz&&zs.all (·.oneCell'))with
    | false=>rw [hb]at h;exact h.elim
    | true=>
     rw [hb,cond_true]at h
     simp only [au]at hb
     obtain⟨m,mc,rfl,rfl,hmc,hbm,hm,hk⟩:=h.ex
     have hzl:=aA hb.1.1
     have h1:=bQ.1 hb.2
     refine La hu hs hby hz hzl hb.1.2 hmc hbm hm fun w' hw hB=> ?_
     subst hw
     have hrz:=KZ (F:=F) (w:=w.alloc (.cells (List.replicate mc zs).flatten.toArray E)) hzl h1 m
     have hrc:=KZ (F:=F) (w:=w.alloc (.cells (List.replicate mc zs).flatten.toArray E)) hzl h1 mc
     obtain⟨s2,x2⟩:=st.new (w':=w.alloc (.cells (List.replicate mc zs).flatten.toArray E)) (yT.rW (qV (Below.refl _ _) (ay _) _)) ⟨some w.heap.size,m,mc,sz⟩
      (fun g hg=>by injection hg with hg;subst hg;exact⟨ay _,by simp⟩) (.rows E sz (List.replicate m (zs.map .v)))
      ⟨rfl,by simp,_,Own.Et hB (aB _) (by simpa using hmc) hm (by have:=hrc.2.1;simpa using this) (by
       rw [dL];exact Ud hzl hmc),hrz⟩
     refine⟨_,_,_,_,_,hk,s2,x2, ?_⟩
     have:=mF.own (n:=n+1) (σ:=wX σ n ⟨some w.heap.size,m,mc,sz⟩) (F:=F) (w:=w.alloc (.cells (List.replicate mc zs).flatten.toArray E)) n (by omega)
     rw [nH]at this
     exact this
   ·cases h
  ·cases h
 ·cases h
theorem St.start (st:St G lJ lN lQ n σ F H w):St G w (uj w σ H) F n σ F H w:=
 ⟨st.glob,yT.refl _ _,fun b hb=>⟨(st.oC b hb).1, .inl hb⟩,st.lab,fun lV b g h hm hg=>⟨(st.mu lV b g h hm hg).1,(st.mu lV b g h hm hg).2.1,(st.mu lV b g h hm hg).2.2.1, .inl ⟨lV,b,h,hm,hg⟩⟩,st.inj,st.blk⟩
theorem St.back (st:St G lJ lN lQ n σ F H w){n':Nat}{σ':Nat->Loc}{F':Nat->Prop}{H':lF}{w':World}(s:St G w (uj w σ H) F n' σ' F' H' w'):St G lJ lN lQ n' σ' F' H' w':=by
 have hM : ∀b,uj w σ H b->lN b∨lJ.heap.size<=b:=fun b ⟨lV,blk,h1,h2,h3⟩=>(st.mu lV blk b h1 h2 h3).2.2.2
 have hw0:=st.qg.size
 refine⟨s.glob,st.qg.trans s.qg hM,fun b hb=>⟨(s.oC b hb).1, ?_⟩,s.lab,fun lV b g h hm hg=> ?_,s.inj,s.blk⟩
 ·rcases(s.oC b hb).2 with h|h|h
  ·exact(st.oC b h).2
  ·exact .inr (.inl (by omega))
  ·exact(hM b h).elim (fun h=> .inr (.inr h)) fun h=> .inr (.inl h)
 ·obtain⟨h1,h2,h3,h4⟩:=s.mu lV b g h hm hg
  exact⟨h1,h2,h3,h4.elim (hM g) fun h=> .inr (by omega)⟩
theorem um.sound {f:FuncId}{as:List AV}{vs:List Value}{K:AV->Nat->lF->Prop}(h:um P G f as n H K)(st:St G lJ lN lQ n σ F H w)(r:ng n σ F w as vs):SQ P f vs.toArray w (KH G lJ lN lQ n σ F w K):=
 pF h.ok (h.runs w σ F vs st.start r) fun v w' ⟨a,n',σ',F',H',hk,s,x,ra⟩=>⟨a,n',σ',F',H',hk,st.back s,x,ra⟩
theorem Lc (l:List Value):ng n σ F w (l.map Nl) l:=by
 induction l with
 | nil=>trivial
 | cons v r ih=>exact⟨sW v,ih⟩
theorem Ld {a:AV}{x v:Value}(h:TL a=some x)(r:mF n σ F w a v):v=x:=by
 unfold TL at h
 split at h
 ·injection h with h;rw [r.nV,h]
 ·split at h
  ·rename_i l hl
   injection h with h
   obtain⟨us,rfl,h2⟩:=ng.Ew r
   rw [<-h,EG hl h2]
  ·cases h
 ·cases h
theorem wE {t:TypeId}{m k x:AV}{vm vk vx:Value}{K:lF->Prop}(h:wV P H t m k x K)(st:St G lJ lN lQ n σ F H w)(rm:mF n σ F w m vm)(rk:mF n σ F w k vk)(rx:mF n σ F w x vx) :
  vw P (Instr.mapUpdate t vm vk vx) w fun w'=>KH G lJ lN lQ n σ F w (fun _ n' H'=>n'=n∧K H') undef w':=by
 unfold wV at h
 split at h
 ·rename_i l i
  rw [rk.nV]
  cases rm with
  | mp _ b hl hb=>
   split at h
   ·rename_i kt et M0 hu hk
    split at h
    ·rename_i hkt
     have key : ∃y H' F',(match look H' l with|some (.zf M)=>K (setH H' l (.zf fun k'=>if k'=i then some y else M k'))|_=>False)∧St G lJ lN lQ n σ F' H' w∧Ext n σ F w n σ F' w∧oL F' w y vx:=by
      cases hv:TL x with
      | some v=>
       rw [hv]at h
       have e:=Ld hv rx
       subst e
       exact⟨_,H,F,h,st, .refl _ _ _ _, .v _⟩
      | none=>
       rw [hv]at h
       exact KJ h st rx
     obtain⟨y,H',F',h,s1,e1,ry⟩:=key
     split at h
     ·rename_i M hk'
      obtain⟨g,hg,V,hM,hV⟩:=s1.blk _ _ hk'
      rw [hb]at hg
      injection hg with hg
      subst hg
      refine Xq hu hkt hM fun w' hO hM'=> ?_
      obtain⟨s2,x2⟩:=s1.write hk' rfl hb hO (.zf fun k'=>if k'=i then some y else M k') fun _ hE=>⟨b,hb,_,hM',fun k'=>by
       by_cases e:k'=i
       ·simp only [if_pos e];exact ry.mono hE.f
       ·simp only [if_neg e]
        have:=hV k'
        split at this
        ·exact this.mono hE.f
        ·trivial
        ·exact this.elim⟩
      exact⟨.v undef,_,_,_,_,⟨rfl,h⟩,s2,e1.trans x2, .v _⟩
     ·cases h
    ·cases h
   ·cases h
 ·split at h
  ·rename_i l s v hv _
   rw [rk.nV,Ld hv rx]
   cases rm with
   | mp _ b hl hb=>
    split at h
    ·rename_i kt et M hu hk
     split at h
     ·rename_i hkt
      obtain⟨g,hg,hM⟩:=st.blk _ _ hk
      rw [hb]at hg
      injection hg with hg
      subst hg
      refine Xp hu hkt hM fun w' hO hM'=> ?_
      obtain⟨s2,x2⟩:=st.write hk rfl hb hO (.map fun k'=>if k'=s then some v else M k') fun _ hE=>⟨b,hb,hM'⟩
      exact⟨.v undef,_,_,_,_,⟨rfl,h⟩,s2,x2, .v _⟩
     ·cases h
    ·cases h
  ·cases h
variable {nK:lK}{ρ:lY}
theorem xQ {o:Oper}{K:AV->Nat->lF->Prop}(h:aE P G o nK n H K)(hi:vV o=true)(st:St G lJ lN lQ n σ F H w)(hr : ∀s,mF n σ F w (nK s) (ρ s)) :
  Gp P false o ρ w (KH G lJ lN lQ n σ F w K):=by
 have quiet:aQ P H H o nK (fun a=>K a n H)->Gp P false o ρ w (KH G lJ lN lQ n σ F w K):=fun h=>by
  obtain⟨a,v,h1,h2,h3⟩:=EI h hi st.hrep st.hrep hr
  exact h3 w false _ (tN.refl _ _ _ _) ⟨a,n,σ,F,H,h1,st,Ext.refl _ _ _ _,h2⟩
 have newVar : ∀(elem:TypeId) (cs:List AV) (vs:List Value),all1 cs=true->ng n σ F w cs vs->K (.ptr n 0) (n+1) ((n, .var elem cs)::H)->
   KH G lJ lN lQ n σ F w K (.pointer (some ⟨w.heap.size,0,none⟩)) (w.alloc (.cells vs.toArray elem)):=fun elem cs vs h1 rc hk=>by
  have hE0:Ext n σ F w (n+1) (wX σ n ⟨some w.heap.size,0,0,0⟩) F (w.alloc (.cells vs.toArray elem)):=⟨by omega,fun k hk=>oz (by omega),fun b hb=>⟨hb,heap_alloc_old w _ b (st.oC b hb).1⟩,by simp⟩
  obtain⟨s2,x2⟩:=st.new (w':=w.alloc (.cells vs.toArray elem)) (yT.rW (qV (Below.refl _ _) (ay _) _)) ⟨some w.heap.size,0,0,0⟩
   (fun g hg=>by injection hg with hg;subst hg;exact⟨ay _,by simp⟩) (.var elem cs) ⟨w.heap.size,vs,rfl,qX.new w _ _,rc.mono hE0,EJ h1 rc⟩
  exact⟨_,_,_,_,_,hk,s2,x2, .ptr n 0 _ (by omega) (by rw [nH])⟩
 unfold aE at h
 unfold Gp
 cases ho:o.op<;>simp only [ho]at h
 case alloc elem=>
  dsimp only
  split at h
  ·rename_i z hz
   cases hb:all1 (z.cells.toList.map AV.v)with
   | false=>rw [hb]at h;exact h.elim
   | true=>
    rw [hb,cond_true,oU]at h
    have:=newVar elem _ _ hb (BF z.cells.toList) h
    rw [hz]
    rw [iI]at this
    cases z<;>exact this
  ·cases h
 case box elem x=>
  dsimp only
  cases hb:all1 (cellsOf (oI nK x))with
  | false=>rw [hb]at h;exact h.elim
  | true=>
   rw [hb,cond_true,rG]at h
   have:=newVar elem _ _ hb (zq (mV hr x) hb) h
   rw [iI]at this
   rw [force_eq]
   split
   ·rename_i cs e;rw [e]at this;exact this
   ·exact this
 case buildSlice t m parts=>
  dsimp only
  simp only [rG,oU]at h
  rw [nO]
  exact zV h (by simp) st (G9 hr parts.toList)
 case store t a x=>
  dsimp only
  simp only [qC,oU]at h
  obtain⟨p,hp,hv⟩:=IX h st (mV hr a) (mV hr x)
  rw [hp]
  simp only [force_eq]
  obtain⟨u,w',e,a',n',σ',F',H',⟨rfl,hk⟩,s,x',_⟩:=hv.ex
  exact⟨u,w',e, .v undef,n',σ',F',H',hk,s,x', .v _⟩
 case makeSlice t l c=>
  dsimp only
  rw [qC,qC]at h
  simp only [force_eq]
  exact BL h st (mV hr l) (mV hr c)
 case makeMap t r=>
  dsimp only
  cases r with
  | some _=>exact h.elim
  | none=>
   show nJ P (Instr.makeMap t none) w (wr false w (KH G lJ lN lQ n σ F w K))
   dsimp only at h
   split at h
   ·refine Kt fun w' hB hM=> ?_
    obtain⟨s2,x2⟩:=st.new (w':=w') (yT.rW hB) ⟨some w.heap.size,0,0,0⟩ (fun g hg=>by injection hg with hg;subst hg;exact⟨ay _,hM.lt⟩) (.zf fun _=>none) ⟨w.heap.size,rfl,_,hM,fun _=>trivial⟩
    exact⟨_,_,_,_,_,h,s2,x2, .mp n _ (by omega) (by rw [nH])⟩
   ·refine NP fun w' hB hM=> ?_
    obtain⟨s2,x2⟩:=st.new (w':=w') (yT.rW hB) ⟨some w.heap.size,0,0,0⟩ (fun g hg=>by injection hg with hg;subst hg;exact⟨ay _,hM.lt⟩) (.map fun _=>none) ⟨w.heap.size,rfl,hM⟩
    exact⟨_,_,_,_,_,h,s2,x2, .mp n _ (by omega) (by rw [nH])⟩
 case mapUpdate t m k x=>
  dsimp only
  simp only [qC,oU]at h
  simp only [force_eq]
  obtain⟨u,w',e,a',n',σ',F',H',⟨rfl,hk⟩,s,x',_⟩:=(wE h st (mV hr m) (mV hr k) (mV hr x)).ex
  exact⟨u,w',e, .v undef,n',σ',F',H',hk,s,x', .v _⟩
 case insert t m k x=>
  dsimp only
  simp only [qC,oU]at h
  simp only [force_eq]
  obtain⟨u,w',e,a',n',σ',F',H',⟨rfl,hk⟩,s,x',_⟩:=(wE h st (mV hr m) (mV hr k) (mV hr x)).ex
  exact⟨u,w',e, .v undef,n',σ',F',H',hk,s,x', .v _⟩
 case call c=>
  obtain⟨callee,args,ats⟩:=c
  cases callee with
  | builtin b=>
   cases b with
   | append=>
    dsimp only at h ⊢
    simp only [rG,oU]at h
    simp only [Eh,vF,nO,Bg]
    exact Gy h st (uS hr args.toList)
   | copy=>
    dsimp only at h ⊢
    simp only [rG,oU]at h
    simp only [Eh,vF,nO,Bg]
    exact KY h st (uS hr args.toList)
   | _=>
    have:=quiet h
    unfold Gp at this
    rw [ho]at this
    exact this
  | value f=>
   dsimp only at h ⊢
   have rf:=mV hr f
   simp only [Eh]
   split at h
   ·rename_i g first captured hf
    rw [hf]at rf
    rw [rf.nV]
    rw [rG]at h
    simp only [vF,nO]
    have:=h.sound st (((Lc first.toList).append (uS hr args.toList)).append (Lc captured.toList))
    have e:((first.toList++args.toList.map (pU ρ))++captured.toList).toArray=(first++(args.toList.map (pU ρ)).toArray)++captured:=by
     apply jc
     simp
    rw [e]at this
    exact this
   ·rename_i g first captured hf
    rw [hf]at rf
    generalize pU ρ f=z at rf
    cases rf with
    | fn _ _ _ us vs hx hy rx ry=>
     rw [rG]at h
     simp only [vF,nO]
     have:=h.sound st ((ng.append (.of hx rx) (uS hr args.toList)).append (.of hy ry))
     simpa using this
   ·cases h
  | invoke r m=>
   have:=quiet h
   unfold Gp at this
   rw [ho]at this
   exact this
 case convert src dst x=>
  cases ht:II P src dst with
  | false=>
   rw [ht]at h
   have:=quiet h
   unfold Gp at this
   rw [ho]at this
   exact this
  | true=>
   rw [ht]at h
   dsimp only at h ⊢
   have rx:=mV hr x
   split at h
   ·rename_i s hx
    rw [hx]at rx
    rw [rx.nV]
    obtain⟨e,hs,hd,he⟩ : ∃e,P.underlying src=some .string∧P.underlying dst=some (.slice e)∧P.underlying e=some (.int .u8):=by
     unfold II at ht
     split at ht
     ·rename_i e h1 h2
      split at ht
      ·rename_i h3;exact⟨e,h1,h2,h3⟩
      ·cases ht
     ·cases ht
    have key:nJ P (Go.convert src dst (.string s)) w (KH G lJ lN lQ n σ F w K):=by
     refine abd hs hd he fun c w' hc hrow hB=> ?_
     obtain⟨s2,x2⟩:=st.more (w':=w') (yT.rW hB) (fun b=>b=w.heap.size∧b<w'.heap.size) fun g hg=>by obtain⟨rfl,h2⟩:=hg;exact⟨ay _,h2⟩
     refine⟨_,_,_,_,_,h,s2,x2, .lst ?_⟩
     have hb : ∀i,i<s.data.toList.length->w.heap.size<w'.heap.size∧∃b:UInt8,s.data.toList[i]? = some b∧w'.cell? ⟨w.heap.size,i,none⟩=some (.int .u8 (b.toNat:Int)):=fun i hi=>by
      rcases hrow with h0|⟨b,o',e1,hlt,hcell⟩
      ·have:(nR s.data.toList).length=0:=by rw [h0];rfl
       simp only [nR,ah]at this
       omega
      ·injection e1 with e1
       injection e1 with e1 e2
       subst e1;subst e2
       refine⟨hlt,s.data.toList[i],aj hi, ?_⟩
       have:=hcell i _ (uI hi)
       rwa [aS]at this
     refine .lst 1 _ _ _ c w.heap.size 0 (by rw [ah]) hc (fun e=>by cases e) (fun h0=>⟨rfl, .inr ⟨rfl,(hb 0 h0).1⟩⟩) (fun row hr=>by obtain⟨x,_,rfl⟩:=dR.1 hr;rfl) (fun i j hi hj=> ?_) (fun i j row a v hi hj hv=> ?_)
     ·obtain⟨_,b,_,h2⟩:=hb i hi
      have hj0:j=0:=by omega
      subst hj0
      exact⟨_,by rw [aS,dW,dH];exact h2,rfl⟩
     ·rw [aP]at hi
      cases hx2:s.data.toList[i]? with
      | none=>rw [hx2]at hi;cases hi
      | some y=>
       rw [hx2]at hi
       injection hi with hi
       subst hi
       obtain⟨_,b,h1,h2⟩:=hb i (aG.1 hx2).1
       rw [hx2]at h1
       injection h1 with h1
       subst h1
       match j,hj with
       | 0,hj=>
        injection hj with hj
        subst hj
        rw [aS,dW,dH,h2]at hv
        injection hv with hv
        subst hv
        exact .v _
    unfold yR
    rw [hs,hd]
    exact key
   ·cases h
 all_goals
  have:=quiet h
  unfold Gp at this
  rw [ho]at this
  exact this
end
end Go.Proofs.YtocckceefcmeaaaGreatDoor.Ax
namespace Go.Proofs.YtocckceefcmeaaaGreatDoor.Vc
open Go.RowKit
def EM (ms:List Nat):List Edge->Nat
 | []=>0
 | e::r=>bif Region.binds .any e then Nat.lor (Nat.lor (Nat.shiftLeft 1 e.on) (ms.getD e.on 0)) (EM ms r)else EM ms r
def Ue (ms:List Nat):List Oper->List Nat
 | []=>ms
 | o::r=>Ue (ms++ [EM ms o.after.toList]) r
def Uf (ops:Array Oper)(ms:List Nat):Prop:= ∀i j,(ms.getD i 0).testBit j=true->O6 ops i j
theorem BM {ms:List Nat}{j:Nat} : ∀ {es:List Edge},(EM ms es).testBit j=true->∃e∈es,Region.binds .any e=true∧(e.on=j∨(ms.getD e.on 0).testBit j=true)
 | [],h=>by simp [EM]at h
 | e::r,h=>by
  unfold EM at h
  cases hb:Region.binds .any e with
  | false=>
   rw [hb,cond_false]at h
   obtain⟨x,hx,h1,h2⟩:=BM h
   exact⟨x,by simp [hx],h1,h2⟩
  | true=>
   rw [hb,cond_true]at h
   have h:((1 <<< e.on ||| ms.getD e.on 0) ||| EM ms r).testBit j=true:=h
   simp only [Nat.testBit_or,jk]at h
   rcases h with (h|h)|h
   ·refine⟨e,by simp,hb, .inl ?_⟩
    rw [Nat.one_shiftLeft,Nat.testBit_two_pow]at h
    simpa using h
   ·exact⟨e,by simp,hb, .inr h⟩
   ·obtain⟨x,hx,h1,h2⟩:=BM h
    exact⟨x,by simp [hx],h1,h2⟩
theorem Q9 {ops:Array Oper}{i j k:Nat}(h:O6 ops i j)(h':O6 ops j k):O6 ops i k:=by
 induction h' with
 | one ho he hb=>exact .more h ho he hb
 | more _ ho he hb ih=>exact .more ih ho he hb
theorem Pj {ops:Array Oper} : ∀(os:List Oper) (ms:List Nat),Uf ops ms->(∀k,os[k]? = ops[ms.length+k]?)->Uf ops (Ue ms os)
 | [],ms,h,_=>h
 | o::r,ms,h,ho=>by
  refine Pj r _ ?_ (fun k=>by have:=ho (k+1);simp only [dI]at this;rw [this,ak,List.length_singleton];congr 1;omega)
  intro i j hb
  rcases iY i ms.length with hi|hi|hi
  ·rw [aW,dF hi, <-aW]at hb
   exact h i j hb
  ·subst hi
   rw [aW,dB (ay _)]at hb
   simp only [gJ,bY,iD]at hb
   obtain⟨e,he,h1,h2⟩:=BM hb
   have h0:=ho 0
   simp only [bY,dH]at h0
   have hx:O6 ops ms.length e.on:= .one h0.symm (by simpa using he) h1
   rcases h2 with rfl|h2
   ·exact hx
   ·exact Q9 hx (h _ _ h2)
  ·rw [aW,eX (by simp;omega)]at hb
   simp at hb
def I4 (ms:List Nat)(T:List Nat)(i:Nat):Bool:=T.all fun j=>Nat.beq j i||(ms.getD i 0).testBit j
theorem Le {ops:Array Oper}{T:List Nat}{i j:Nat}(h:I4 (Ue [] ops.toList) T i=true)(hj:j∈T)(hne:j≠i):O6 ops i j:=by
 have hok:Uf ops (Ue [] ops.toList):=Pj ops.toList [] (fun i j h=>by simp at h) (fun k=>by simp)
 simp only [I4,bQ,jk]at h
 rcases h j hj with e|e
 ·exact absurd (aA e) hne
 ·exact hok _ _ e
end Go.Proofs.YtocckceefcmeaaaGreatDoor.Vc
namespace Go.Proofs.YtocckceefcmeaaaGreatDoor.Ax
open RowKit Vc
def EN (all:List Oper)(o:Oper)(ρ:lK)(A O4:lK->Prop):Prop:=
 match o.guard with
 | none=>A ρ
 | some (g,want)=>(match yZ all g with
  | some s=>(match ρ s with
   | .v (.bool t)=>Io t
     (bif want then A (tH ρ s (.v (.bool true)))else O4 (tH ρ s (.v (.bool true))))
     (bif want then O4 (tH ρ s (.v (.bool false)))else A (tH ρ s (.v (.bool false))))
   | .v _=>O4 ρ
   | _=>False)
  | none=>O4 ρ)
def rX (P:Program)(G:Glob)(all:List Oper)(o:Oper)(ρ:lK)(n:Nat)(H:lF)(K:lK->AV->Nat->lF->Prop)(qN:lK->Prop):Prop:=
 match o.guard with
 | none=>aE P G o ρ n H fun a n' H'=>K ρ a n' H'
 | some (g,want)=>(match yZ all g with
  | some s=>(match ρ s with
   | .v (.bool t)=>Io t
     (bif want then aE P G o (tH ρ s (.v (.bool true))) n H fun a n' H'=>K (tH ρ s (.v (.bool true))) a n' H' else qN (tH ρ s (.v (.bool true))))
     (bif want then qN (tH ρ s (.v (.bool false)))else aE P G o (tH ρ s (.v (.bool false))) n H fun a n' H'=>K (tH ρ s (.v (.bool false))) a n' H')
   | .v _=>qN ρ
   | _=>False)
  | none=>qN ρ)
theorem qK (P:Program)(G:Glob)(all:List Oper)(o:Oper)(ρ:lK)(n:Nat)(H:lF)(K:lK->AV->Nat->lF->Prop)(qN:lK->Prop) :
  rX P G all o ρ n H K qN=EN all o ρ (fun ρ'=>aE P G o ρ' n H fun a n' H'=>K ρ' a n' H') qN:=rfl
def I5 (P:Program)(all:List Oper)(o:Oper)(ρ:lK)(Hr H:lF)(K:lK->AV->Prop)(qN:lK->Prop):Prop:=
 match o.guard with
 | none=>aQ P Hr H o ρ fun a=>K ρ a
 | some (g,want)=>(match yZ all g with
  | some s=>(match ρ s with
   | .v (.bool t)=>Io t
     (bif want then aQ P Hr H o (tH ρ s (.v (.bool true))) fun a=>K (tH ρ s (.v (.bool true))) a else qN (tH ρ s (.v (.bool true))))
     (bif want then qN (tH ρ s (.v (.bool false)))else aQ P Hr H o (tH ρ s (.v (.bool false))) fun a=>K (tH ρ s (.v (.bool false))) a)
   | .v _=>qN ρ
   | _=>False)
  | none=>qN ρ)
theorem rH (P:Program)(all:List Oper)(o:Oper)(ρ:lK)(Hr H:lF)(K:lK->AV->Prop)(qN:lK->Prop) :
  I5 P all o ρ Hr H K qN=EN all o ρ (fun ρ'=>aQ P Hr H o ρ' fun a=>K ρ' a) qN:=rfl
def Rf (P:Program)(G:Glob)(all:List Oper)(l:List Oper)(ρ:lK)(n:Nat)(H:lF)(K:lK->Nat->lF->Prop):Prop:=
 match l with
 | []=>K ρ n H
 | o::rest=>rX P G all o ρ n H (fun ρ' a n' H'=>Rf P G all rest (pG ρ' o.dst a) n' H' K) fun ρ'=>Rf P G all rest (pG ρ' o.dst (.v undef)) n H K
def uT (D:List Nat)(x:Nat):Bool:=
 match D with
 | []=>false
 | d::r=>bif Nat.beq d x then true else uT r x
def uU (D:List Nat)(H:lF):lF:=
 match H with
 | []=> []
 | p::r=>bif uT D p.1 then p::uU D r else uU D r
def sO (D:List Nat)(H:lF):lF:=
 match H with
 | []=> []
 | p::r=>bif uT D p.1 then sO D r else p::sO D r
def dx (o:Oper)(n:Nat)(D:List Nat):List Nat:=
 match o.op with
 | .alloc _=>n::D
 | .box _ _=>n::D
 | _=>D
theorem abv {o:Oper}{n k:Nat}{D:List Nat}(hk:k<n)(h:uT (dx o n D) k=true):uT D k=true:=by
 have key:uT (n::D) k=true->uT D k=true:=fun h=>by
  unfold uT at h
  cases hb:Nat.beq n k with
  | true=>have:=aA hb;omega
  | false=>simpa [hb]using h
 unfold dx at h
 split at h
 ·exact key h
 ·exact key h
 ·exact h
def aD (P:Program)(G:Glob)(all:List Oper)(D:List Nat)(p:Plan)(ρ:lK)(n:Nat)(H:lF)(K:lK->Nat->lF->Prop):Prop:=
 match p with
 | .done=>K ρ n H
 | .take i p=>(match all[i]? with
  | some o=>I5 P all o ρ (sO D H) H (fun ρ' a=>aD P G all D p (pG ρ' o.dst a) n H K) fun ρ'=>aD P G all D p (pG ρ' o.dst (.v undef)) n H K
  | none=>False)
 | .one i p=>(match all[i]? with
  | some o=>rX P G all o ρ n (uU D H) (fun ρ' a n' H'=>spine (H'++sO D H) fun rM=>aD P G all (dx o n D) p (pG ρ' o.dst a) n' rM K) fun ρ'=>aD P G all D p (pG ρ' o.dst (.v undef)) n H K
  | none=>False)
 | .two i p j r=>(match all[i]?,all[j]? with
  | some o,some o'=>
   (rX P G all o ρ n (uU D H) (fun ρ' a n' H'=>spine (H'++sO D H) fun rM=>aD P G all (dx o n D) p (pG ρ' o.dst a) n' rM K) fun ρ'=>aD P G all D p (pG ρ' o.dst (.v undef)) n H K)∧
   (rX P G all o' ρ n (uU D H) (fun ρ' a n' H'=>spine (H'++sO D H) fun rM=>aD P G all (dx o' n D) r (pG ρ' o'.dst a) n' rM K) fun ρ'=>aD P G all D r (pG ρ' o'.dst (.v undef)) n H K)
  | _,_=>False)
 | .three i p j r k q=>(match all[i]?,all[j]?,all[k]? with
  | some o,some o',some o''=>
   (rX P G all o ρ n (uU D H) (fun ρ' a n' H'=>spine (H'++sO D H) fun rM=>aD P G all (dx o n D) p (pG ρ' o.dst a) n' rM K) fun ρ'=>aD P G all D p (pG ρ' o.dst (.v undef)) n H K)∧
   (rX P G all o' ρ n (uU D H) (fun ρ' a n' H'=>spine (H'++sO D H) fun rM=>aD P G all (dx o' n D) r (pG ρ' o'.dst a) n' rM K) fun ρ'=>aD P G all D r (pG ρ' o'.dst (.v undef)) n H K)∧
   (rX P G all o'' ρ n (uU D H) (fun ρ' a n' H'=>spine (H'++sO D H) fun rM=>aD P G all (dx o'' n D) q (pG ρ' o''.dst a) n' rM K) fun ρ'=>aD P G all D q (pG ρ' o''.dst (.v undef)) n H K)
  | _,_,_=>False)
 | .sink i=>(match all[i]? with
  | some o=>rX P G all o ρ n H (fun ρ' a n' H'=>K (pG ρ' o.dst a) n' H') fun ρ'=>K (pG ρ' o.dst (.v undef)) n H
  | none=>False)
 | .post i p=>(match all[i]? with
  | some o=>rX P G all o ρ n H (fun ρ' a n' H'=>aD P G all D p (pG ρ' o.dst a) n' H' K) fun ρ'=>aD P G all D p (pG ρ' o.dst (.v undef)) n H K
  | none=>False)
def takes:Plan->List Nat
 | .done=> []
 | .take i p=>i::takes p
 | .one _ p=>takes p
 | .two _ p _ r=>takes p++takes r
 | .three _ p _ r _ q=>takes p++takes r++takes q
 | .sink _=> []
 | .post _ _=> []
def postAt (ops:Array Oper)(T:List Nat)(i:Nat):Bool:=I4 (Ue [] ops.toList) T i
def pR (ops:Array Oper)(T:List Nat):Plan->Bool
 | .done=>true
 | .take i p=>T.contains i&&pR ops T p
 | .one _ p=>pR ops T p
 | .two _ p _ r=>pR ops T p&&pR ops T r
 | .three _ p _ r _ q=>pR ops T p&&pR ops T r&&pR ops T q
 | .sink i=>postAt ops T i
 | .post i p=>postAt ops T i&&pR ops (takes p) p
def vI (ops:Array Oper)(p:Plan):Bool:=vP ops p&&pR ops (takes p) p
def Hw (G:Glob)(ws:Nat->Bool)(nb:Nat)(ρ:lK)(n:Nat)(H:lF)(ρ':lK)(n':Nat)(H':lF):Prop:=
 ∀lJ lN lQ σ F w (ρc:lY),St G lJ lN lQ n σ F H w->(∀s,ws s=true->mF n σ F w (ρ s) (ρc s))->
  ∃σ' F',St G lJ lN lQ n' σ' F' H' w∧(∀s,ws s=true->mF n' σ' F' w (ρ' s) (ρc s))∧(∀l,l<nb->σ' l=σ l)∧∀b,F b->F' b
structure Lh (p:Prop):Prop where
 holds:p
structure Nd where
 listed:Array Bool
 dep:Nat
 succ:List (Nat×Nat)
structure NS where
 ρ:lK
 n:Nat
 H:lF
def aaE (ops:Array Oper)(ns:List Nd):Bool:=
 ns.all fun nd=>nd.succ.isEmpty||((Region.ready .any ops nd.listed==nd.succ.map (·.1))&&nd.succ.all fun s=>match ns[s.2]? with
  | some nj=>(nj.listed==nd.listed.setIfInBounds s.1 true)&&Nat.blt nj.dep nd.dep
  | none=>false)
def Pm (P:Program)(G:Glob)(all:List Oper)(ws:Nat->Bool)(nb:Nat)(A:Nat->NS)(k:Nat)(s:Nat×Nat):Prop:=
 match all[s.1]? with
 | some o=>rX P G all o (A k).ρ (A k).n (A k).H (fun ρ' a n' H'=>Lh (Hw G ws nb (pG ρ' o.dst a) n' H' (A s.2).ρ (A s.2).n (A s.2).H)) fun ρ'=>Lh (Hw G ws nb (pG ρ' o.dst (.v undef)) (A k).n (A k).H (A s.2).ρ (A s.2).n (A s.2).H)
 | none=>False
def WZ (P:Program)(G:Glob)(all:List Oper)(Hh H:lF):List Nat->lK->(lK->Prop)->Prop
 | [],ρ,K=>K ρ
 | i::ts,ρ,K=>(match all[i]? with
  | some o=>I5 P all o ρ Hh H (fun ρ' a=>WZ P G all Hh H ts (pG ρ' o.dst a) K) fun ρ'=>WZ P G all Hh H ts (pG ρ' o.dst (.v undef)) K
  | none=>False)
def Pn (ops:Array Oper)(T:List Nat):List Nat->Array Bool->(Array Bool->Bool)->Bool
 | [],l,k=>k l
 | i::ts,l,k=>(match ops[i]? with|some o=>oO o|none=>false)&&(Region.ready .any ops l).contains i&&Region.free .any ops l i&&T.contains i&&Pn ops T ts (l.setIfInBounds i true) k
def BN (ops:Array Oper)(T ts:List Nat)(ns:List Nd)(p:Plan)(e:Nat):Bool:=
 Nat.ble ts.length ops.size&&Region.noSelect ops&&aaE ops ns&&pR ops T p&&Nat.ble p.depth e&&(ns.all fun nd=> !nd.succ.isEmpty||oM ops p nd.listed)&&
  Pn ops T ts (Array.replicate ops.size false) fun l=>match ns[0]? with
   | some n0=>(n0.listed==l)&&Nat.ble (n0.dep+e+ts.length) ops.size
   | none=>false
structure yV (P:Program)(G:Glob)(id:Nat)(ops:Array Oper)(K:lK->Nat->lF->Prop)(ρ:lK)(n:Nat)(H:lF):Prop where
 ex:(∃(p:Plan) (D:List Nat),vI ops p=true∧aD P G ops.toList D p ρ n H K)∨
  (∃(p:Plan) (D:List Nat) (ws:Nat->Bool) (ρ':lK) (n':Nat) (H':lF),vI ops p=true∧(ops.toList.all fun o=>match o.dst with|some d=>ws d|none=>true)=true∧n<=n'∧(∀s,ws s=false->ρ' s=ρ s)∧
   aD P G ops.toList D p ρ n H (fun oZ O5 qm=>Lh (Hw G ws n oZ O5 qm ρ' n' H'))∧K ρ' n' H')∨
  ∃(T ts:List Nat) (ns:List Nd) (p:Plan) (e:Nat) (D:List Nat) (ws:Nat->Bool) (A:Nat->NS),BN ops T ts ns p e=true∧(ops.toList.all fun o=>match o.dst with|some d=>ws d|none=>true)=true∧(∀j,n<=(A j).n)∧(∀j s,ws s=false->(A j).ρ s=ρ s)∧
   WZ P G ops.toList (sO D H) H ts ρ (fun ρ'=>Lh (Hw G ws n ρ' n (uU D H) (A 0).ρ (A 0).n (A 0).H))∧(∀k nd,ns[k]? = some nd->∀s∈nd.succ,Pm P G ops.toList ws n A k s)∧
   ∀k nd,ns[k]? = some nd->nd.succ = []->aD P G ops.toList D p (A k).ρ (A k).n ((A k).H++sO D H) K
theorem qQ {D:List Nat}{H:lF}{k:Nat}{b:oN}(h:look (uU D H) k=some b):uT D k=true∧look H k=some b:=by
 induction H with
 | nil=>cases h
 | cons p r ih=>
  obtain⟨x,bx⟩:=p
  simp only [uU]at h
  cases hm:uT D x with
  | true=>
   rw [hm,cond_true,l9]at h
   rw [l9]
   split at h
   ·rename_i e;subst e;rw [if_pos rfl];exact⟨hm,h⟩
   ·rename_i e;rw [if_neg e];exact ih h
  | false=>
   rw [hm,cond_false]at h
   obtain⟨h1,h2⟩:=ih h
   refine⟨h1, ?_⟩
   rw [l9,if_neg (fun e=>by subst e;rw [hm]at h1;cases h1)]
   exact h2
theorem uJ {D:List Nat}{H:lF}{k:Nat}{b:oN}(h:look (sO D H) k=some b):uT D k=false∧look H k=some b:=by
 induction H with
 | nil=>cases h
 | cons p r ih=>
  obtain⟨x,bx⟩:=p
  simp only [sO]at h
  cases hm:uT D x with
  | false=>
   rw [hm,cond_false,l9]at h
   rw [l9]
   split at h
   ·rename_i e;subst e;rw [if_pos rfl];exact⟨hm,h⟩
   ·rename_i e;rw [if_neg e];exact ih h
  | true=>
   rw [hm,cond_true]at h
   obtain⟨h1,h2⟩:=ih h
   refine⟨h1, ?_⟩
   rw [l9,if_neg (fun e=>by subst e;rw [hm]at h1;cases h1)]
   exact h2
theorem ny {A B:lF}{k:Nat}{b:oN}(h:look (A++B) k=some b):look A k=some b∨(look A k=none∧look B k=some b):=by
 induction A with
 | nil=>exact .inr ⟨rfl,h⟩
 | cons p r ih=>
  obtain⟨x,bx⟩:=p
  rw [gW,l9]at h
  rw [l9]
  split at h
  ·rename_i e;rw [if_pos e];exact .inl h
  ·rename_i e;rw [if_neg e];exact ih h
section
variable {P:Program}{G:Glob}{lJ:World}{lN lQ:Nat->Prop}{n:Nat}{σ:Nat->Loc}{F:Nat->Prop}{H:lF}{w:World}
theorem St.sub (st:St G lJ lN lQ n σ F H w){H':lF}(h : ∀k b,look H' k=some b->look H k=some b):St G lJ lN lQ n σ F H' w:=
 ⟨st.glob,st.qg,st.oC,fun k b hk=>st.lab k b (h k b hk),fun k b g hk=>st.mu k b g (h k b hk),fun k k' b b' g hk hk'=>st.inj k k' b b' g (h k b hk) (h k' b' hk'),fun k b hk=>st.blk k b (h k b hk)⟩
theorem St.join (st:St G lJ lN lQ n σ F H w){Hd Hh H':lF}(hd : ∀k b,look Hd k=some b->look H k=some b)(hh : ∀k b,look Hh k=some b->look H k=some b∧look Hd k=none)
  {n':Nat} {σ':Nat->Loc} {F':Nat->Prop} {w':World} (s:St G w (uj w σ Hd) F n' σ' F' H' w') (x:Ext n σ F w n' σ' F' w'):St G lJ lN lQ n' σ' F' (H'++Hh) w':=by
 have s0:=(st.sub hd).back s
 have ad1 : ∀k b g,look Hh k=some b->b.own=true->qo w (σ k) b g->¬F g∧G.nb<=g∧g<w.heap.size∧(lN g∨lJ.heap.size<=g)∧¬uj w σ Hd g:=by
  intro k b g hk hm hg
  obtain⟨hk,hn⟩:=hh k b hk
  obtain⟨h1,h2,h3,h4⟩:=st.mu k b g hk hm hg
  refine⟨h1,h2,h3,h4,fun⟨k',b',e1,e2,e3⟩=> ?_⟩
  have:=st.inj k k' b b' g hk (hd k' b' e1) hm e2 hg e3
  subst this
  rw [hn]at e1;cases e1
 have hid : ∀k b g,look Hh k=some b->b.own=true->qo w' (σ' k) b g->qo w (σ k) b g∧¬F g∧G.nb<=g∧g<w.heap.size∧(lN g∨lJ.heap.size<=g)∧¬uj w σ Hd g:=by
  intro k b g hk0 hm hg
  obtain⟨hk,hn⟩:=hh k b hk0
  rw [x.s k (st.lab k b hk)]at hg
  have hg:=hg.back fun y hy=>(let ⟨_,_,a3,_,a5⟩:=ad1 k b y hk0 hm (.inl hy);s.qg.block y a3 a5)
  obtain⟨h1,h2,h3,h4⟩:=st.mu k b g hk hm hg
  refine⟨hg,h1,h2,h3,h4,fun⟨k',b',e1,e2,e3⟩=> ?_⟩
  have:=st.inj k k' b b' g hk (hd k' b' e1) hm e2 hg e3
  subst this
  rw [hn]at e1;cases e1
 have cross : ∀k k' b b' g,look H' k=some b->look Hh k'=some b'->b.own=true->b'.own=true->qo w' (σ' k) b g->qo w' (σ' k') b' g->False:=by
  intro k k' b b' g h h' hm hm' hg hg'
  obtain⟨_,_,_,h3,_,h5⟩:=hid k' b' g h' hm' hg'
  rcases(s.mu k b g h hm hg).2.2.2 with e|e
  ·exact h5 e
  ·omega
 refine⟨s0.glob,s0.qg,s0.oC,fun k b hk=> ?_,fun k b g hk hm hg=> ?_,fun k k' b b' g hk hk' hm hm' hg hg'=> ?_,fun k b hk=> ?_⟩
 ·rcases ny hk with hk|⟨_,hk⟩
  ·exact s0.lab k b hk
  ·have:=st.lab k b (hh k b hk).1
   have:=x.le
   omega
 ·rcases ny hk with hk|⟨_,hk⟩
  ·exact s0.mu k b g hk hm hg
  ·obtain⟨h0,h1,h2,h3,h4,h5⟩:=hid k b g hk hm hg
   refine⟨fun hf=> ?_,h2,aV h3 x.sz,h4⟩
   rcases(s.oC g hf).2 with e|e|e
   ·exact h1 e
   ·omega
   ·exact h5 e
 ·rcases ny hk with hk|⟨_,hk⟩
  ·rcases ny hk' with hk'|⟨_,hk'⟩
   ·exact s0.inj k k' b b' g hk hk' hm hm' hg hg'
   ·exact(cross k k' b b' g hk hk' hm hm' hg hg').elim
  ·rcases ny hk' with hk'|⟨_,hk'⟩
   ·exact(cross k' k b' b g hk' hk hm' hm hg' hg).elim
   ·exact st.inj k k' b b' g (hh k b hk).1 (hh k' b' hk').1 hm hm' (hid k b g hk hm hg).1 (hid k' b' g hk' hm' hg').1
 ·rcases ny hk with hk|⟨_,hk⟩
  ·exact s0.blk k b hk
  ·have hk1:=(hh k b hk).1
   rw [x.s k (st.lab k b hk1)]
   refine(st.blk k b hk1).mono x fun hm g hg=> ?_
   obtain⟨_,_,h3,_,h5⟩:=ad1 k b g hk hm hg
   exact s.qg.block g h3 h5
end
section
variable {P:Program}{G:Glob}{lJ:World}{lN lQ:Nat->Prop}{N:Nat}{ds:List Deferred}{W:Nat->Bool}{ops:Array Oper}{lI:lY}
abbrev qE (n:Nat)(σ:Nat->Loc)(F:Nat->Prop)(w:World)(nK:lK)(ρ:lY):Prop:= ∀s,mF n σ F w (nK s) (ρ s)
theorem qh {n n':Nat}{σ σ':Nat->Loc}{F F':Nat->Prop}{w w':World}{nK:lK}{ρ:lY}{d:Option Nat}{a:AV}{v:Value}(h:qE n σ F w nK ρ)(x:Ext n σ F w n' σ' F' w')(r:mF n' σ' F' w' a v) :
  qE n' σ' F' w' (pG nK d a) (oD ρ d v):=by
 intro s
 cases d with
 | none=>exact(h s).mono x
 | some d=>
  simp only [pG,oD,tH,upd]
  cases Nat.beq s d with
  | true=>exact r
  | false=>exact(h s).mono x
theorem yx {n:Nat}{σ:Nat->Loc}{F:Nat->Prop}{w:World}{nK:lK}{ρ:lY}{s:Nat}{v:Value}(h:qE n σ F w nK ρ)(e:ρ s=v):qE n σ F w (tH nK s (.v v)) ρ:=by
 intro k
 simp only [tH]
 cases hb:Nat.beq k s with
 | true=>rw [aA hb,e];exact .v v
 | false=>exact h k
theorem qp {n:Nat}{σ:Nat->Loc}{F:Nat->Prop}{w:World}{nK:lK}{ρ:lY}{a:Act}{o:Oper}{A O4:lK->Prop}(hf:Fits N ds ρ a)(hr:qE n σ F w nK ρ)(h:EN ops.toList o nK A O4) :
  ∃oq,qE n σ F w oq ρ∧((Region.wanted o (yielded ops a.tmps)=true∧A oq)∨(Region.wanted o (yielded ops a.tmps)=false∧O4 oq)):=by
 unfold EN at h
 unfold Region.wanted
 split at h
 ·rename_i hg;rw [hg];exact⟨nK,hr, .inl ⟨rfl,h⟩⟩
 ·rename_i g want hg
  rw [hg]
  simp only [y5 hf g]
  split at h
  ·rename_i s hs
   simp only [hs]
   have rs:=hr s
   split at h
   ·rename_i t ht
    rw [ht]at rs
    have e:=rs.nV
    simp only [e]
    cases t<;>cases want<;>simp only [Io,cond_true,cond_false]at h
    ·exact⟨_,yx hr e, .inl ⟨rfl,h⟩⟩
    ·exact⟨_,yx hr e, .inr ⟨rfl,h⟩⟩
    ·exact⟨_,yx hr e, .inr ⟨rfl,h⟩⟩
    ·exact⟨_,yx hr e, .inl ⟨rfl,h⟩⟩
   ·rename_i x hne ht
    rw [ht]at rs
    simp only [rs.nV]
    refine⟨_,hr, .inr ⟨?_,h⟩⟩
    cases x<;>first|rfl|exact(hne _ ht).elim
   ·cases h
  ·rename_i hs
   simp only [hs]
   exact⟨_,hr, .inr ⟨rfl,h⟩⟩
structure I7 (G:Glob)(lJ:World)(lN lQ:Nat->Prop)(N:Nat)(ds:List Deferred)(W:Nat->Bool)(lI:lY)(nb:Nat)(pq:Nat->Loc)(Fb:Nat->Prop)(wb:World)(K:lK->Nat->lF->Prop)(a:Act)(w:World):Prop where
 ex : ∃ρ nK n σ F H,Fits N ds ρ a∧Same W lI ρ∧St G lJ lN lQ n σ F H w∧Ext nb pq Fb wb n σ F w∧qE n σ F w nK ρ∧K nK n H
def AQ (G:Glob)(lJ:World)(lN lQ:Nat->Prop)(N:Nat)(ds:List Deferred)(W:Nat->Bool)(lI:lY)(nb:Nat)(pq:Nat->Loc)(Fb:Nat->Prop)(wb:World)(Q:Ex->lK->Nat->lF->Prop):Exit->Act->World->Prop
 | .normal,a,w=>I7 G lJ lN lQ N ds W lI nb pq Fb wb (Q .normal) a w
 | .exit id,a,w=>I7 G lJ lN lQ N ds W lI nb pq Fb wb (Q (.exit id)) a w
 | .ret,a,w=>I7 G lJ lN lQ N ds W lI nb pq Fb wb (Q .ret) a w
 | _,_,_=>False
variable {nb:Nat}{pq:Nat->Loc}{Fb:Nat->Prop}{wb:World}
theorem EO {K:lK->Nat->lF->Prop}{Q:Exit->Act->World->Prop}(hQ : ∀a w,I7 G lJ lN lQ N ds W lI nb pq Fb wb K a w->Q .normal a w) :
  ∀(l:List Oper) (k:Nat) (nK:lK) (n:Nat) (σ:Nat->Loc) (F:Nat->Prop) (H:lF) (ρ:lY) (a:Act) (w:World),(∀j,l[j]? = ops.toList[k+j]?)->(∀o∈l,qA N W o=true∧vV o=true)->
   Fits N ds ρ a->Same W lI ρ->St G lJ lN lQ n σ F H w->Ext nb pq Fb wb n σ F w->qE n σ F w nK ρ->Rf P G ops.toList l nK n H K->wpOps P ops Q (List.range' k l.length) a w:=by
 intro l
 induction l with
 | nil=>intro k nK n σ F H ρ a w _ _ hf hs st x hr h;exact hQ a w ⟨ρ,nK,n,σ,F,H,hf,hs,st,x,hr,h⟩
 | cons o rest ih=>
  intro k nK n σ F H ρ a w hl hok hf hs st x hr h
  have ho:ops[k]? = some o:=by
   have:=hl 0
   simp only [bY,dH]at this
   rw [<-bf];exact this.symm
  obtain⟨ho1,hi1⟩:=hok o (by simp)
  have next : ∀j,rest[j]? = ops.toList[k+1+j]? :=fun j=>by have:=hl (j+1);simp only [dI]at this;rw [this];congr 1;omega
  simp only [bg,jH]
  simp only [wpOps,ho]
  simp only [Rf,qK]at h
  obtain⟨oq,hr',h⟩:=qp hf hr h
  rcases h with ⟨hw,hv⟩|⟨hw,hv⟩
  ·simp only [hw,if_true]
   refine .inl ((rC (xQ hv hi1 st hr')).wp hf.eval fun v w' ⟨a',n',σ',F',H',hk,s,x',ra⟩=> ?_)
   exact ih (k+1) _ _ _ _ _ _ _ _ next (fun o' ho'=>hok o' (by simp [ho'])) (hf.put o.dst v (nX ho1)) (hs.oD ho1) s (x.trans x') (qh hr' x' ra) hk
  ·simp only [hw,aZ,if_false]
   exact ih (k+1) _ _ _ _ _ _ _ _ next (fun o' ho'=>hok o' (by simp [ho'])) (hf.put o.dst undef (nX ho1)) (hs.oD ho1) st x (qh hr' (Ext.refl _ _ _ _) (.v undef)) hv
def Keeps (σ:Nat->Loc)(D:List Nat)(H:lF)(w u:World):Prop:=w.heap.size<=u.heap.size∧∀b,b<w.heap.size->¬uj w σ (uU D H) b->u.heap[b]? = w.heap[b]?
theorem EP {n:Nat}{σ:Nat->Loc}{F:Nat->Prop}{H:lF}{D:List Nat}{w u:World}(st:St G lJ lN lQ n σ F H w)(h:Keeps σ D H w u):tN σ F (sO D H) w u:=by
 have hF : ∀b,F b->u.heap[b]? = w.heap[b]? :=fun b hb=>h.2 b (st.oC b hb).1 fun⟨k,c,e1,e2,e3⟩=>(st.mu k c b (qQ e1).2 e2 e3).1 hb
 refine⟨hF,fun lV blk g hk ho hg=> ?_⟩
 obtain⟨hm,hk⟩:=uJ hk
 refine h.2 g (st.mu lV blk g hk ho hg).2.2.1 fun⟨k,c,e1,e2,e3⟩=> ?_
 obtain⟨f1,f2⟩:=qQ e1
 have:=st.inj lV k blk c g hk f2 ho e2 hg e3
 subst this
 rw [hm]at f1;cases f1
theorem Ug {D:List Nat}{H:lF} : ∀k b,look (sO D H) k=some b->look H k=some b∧look (uU D H) k=none:=fun k b h=>by
 obtain⟨h1,h2⟩:=uJ h
 refine⟨h2, ?_⟩
 cases hv:look (uU D H) k with
 | none=>rfl
 | some c=>have:=(qQ hv).1;rw [h1]at this;cases this
theorem Uh {n:Nat}{σ:Nat->Loc}{F:Nat->Prop}{H:lF}{w w':World}{D:List Nat}(D':List Nat)(hD : ∀k,k<n->uT D' k=true->uT D k=true){v:Value}{K:AV->Nat->lF->Prop}(st:St G lJ lN lQ n σ F H w)(h:KH G w (uj w σ (uU D H)) F n σ F w K v w') :
  ∃a n' σ' F' H',K a n' H'∧St G lJ lN lQ n' σ' F' (H'++sO D H) w'∧Ext n σ F w n' σ' F' w'∧mF n' σ' F' w' a v∧∀u,Keeps σ' D' (H'++sO D H) w' u->Keeps σ D H w u:=by
 obtain⟨a,n',σ',F',H',hk,s,x,ra⟩:=h
 refine⟨a,n',σ',F',H',hk,st.join (fun k b hk=>(qQ hk).2) Ug s x,x,ra,fun u hu=>⟨dN x.sz hu.1,fun b hb hn=> ?_⟩⟩
 rw [hu.2 b (aV hb x.sz) fun⟨k,c,e1,e2,e3⟩=> ?_]
 ·exact s.qg.block b hb hn
 ·obtain⟨f1,f2⟩:=qQ e1
  rcases ny f2 with g1|⟨_,g1⟩
  ·rcases(s.mu k c b g1 e2 e3).2.2.2 with e|e
   ·exact hn e
   ·omega
  ·have h0:=uJ g1
   have:=h0.1
   rw [hD k (st.lab k c h0.2) f1]at this;cases this
theorem wY (σ:Nat->Loc)(D:List Nat)(H:lF)(w:World):Keeps σ D H w w:=⟨ay _,fun _ _ _=>rfl⟩
def RA (K:Act->World->Prop):Exit->Act->World->Prop
 | .normal,a,w=>K a w
 | _,_,_=>False
theorem Oh {ops:Array Oper}{T:List Nat}{i j:Nat}(h:postAt ops T i=true)(hj:j∈T)(hne:j≠i):O6 ops i j:=Le h hj hne
def qj (P:Program)(ops:Array Oper)(Q:Exit->Act->World->Prop):Nat->List Nat->(World->Prop)->Array Bool->Act->World->Prop
 | 0,_,_,listed,a,w=>Region.ready .any ops listed = []∧Q .normal a w
 | fuel+1,T,S,listed,a,w=>
  (Region.ready .any ops listed = []->Q .normal a w)∧
  ∀i∈Region.ready .any ops listed,wpOp P ops Q i (fun a' w'=>(postAt ops T i=true∧∃T' S',qj P ops Q fuel T' S' (listed.setIfInBounds i true) a' w')∨(S w'∧qj P ops Q fuel T S (listed.setIfInBounds i true) a' w')) a w
theorem rJ {Q:Exit->Act->World->Prop} : ∀(fuel:Nat) (T:List Nat) (S:World->Prop) (listed:Array Bool) (a:Act) (w:World),qj P ops Q fuel T S listed a w->wpAny P .any ops Q fuel listed a w
 | 0,_,_,_,_,_,h=>h
 | fuel+1,_,_,_,_,_,h=>⟨h.1,fun i hi=>wpOp_mono (fun a' w' h'=>h'.elim (fun⟨_,_,_,hh⟩=>rJ fuel _ _ _ a' w' hh) fun h'=>rJ fuel _ _ _ a' w' h'.2) (h.2 i hi)⟩
theorem xR {Q:Exit->Act->World->Prop}{T:List Nat}{S S':World->Prop}(h : ∀u,S' u->S u) : ∀(fuel:Nat) (listed:Array Bool) (a:Act) (w:World),qj P ops Q fuel T S' listed a w->qj P ops Q fuel T S listed a w
 | 0,_,_,_,hh=>hh
 | fuel+1,_,_,_,hh=>⟨hh.1,fun i hi=>wpOp_mono (fun a' w' h'=>h'.imp id fun h'=>⟨h w' h'.1,xR h fuel _ a' w' h'.2⟩) (hh.2 i hi)⟩
theorem zY {Q:Exit->Act->World->Prop}{T:List Nat}{S:World->Prop}{i:Nat}{oi:Oper}{v:Value}(hi:ops[i]? = some oi)(hT:i∈T)(hsel : ∀(j:Nat) (o:Oper) cs b,ops[j]? = some o->o.op≠ .select cs b)
  (hQ : ∀c a w,Q (.panic c) (a.put oi.dst v) w->Q (.panic c) a w) :
  ∀(fuel:Nat) (listed:Array Bool) (a:Act) (w:World),
   (∀j oj,ops[j]? = some oj->j≠i->listed.getD j true=false->(∀e∈oj.after,Region.binds .any e=true->e.on≠i)->oi.apart ops oj=true)->
   Down ops listed->i∈Region.ready .any ops listed->YieldsIf P ops S oi v a->S w->
   qj P ops Q fuel T S (listed.setIfInBounds i true) (a.put oi.dst v) w->qj P ops Q (fuel+1) T S listed a w:=by
 intro fuel
 induction fuel with
 | zero=>
  intro listed a w _ _ hr hy hS H
  refine⟨fun h=>(by rw [h]at hr;cases hr),fun j hj=> ?_⟩
  by_cases hji:j=i
  ·subst hji;exact hy.wpOp hi hS (.inr ⟨hS,H⟩)
  ·have:=ready_mono hj hji
   rw [H.1]at this
   cases this
 | succ fuel ih=>
  intro listed a w hfree hdown hr hy hS H
  refine⟨fun h=>(by rw [h]at hr;cases hr),fun j hj=> ?_⟩
  by_cases hji:j=i
  ·subst hji;exact hy.wpOp hi hS (.inr ⟨hS,H⟩)
  ·have h1:=H.2 j (ready_mono hj hji)
   obtain⟨hjun,oj,hoj,hall⟩:=mem_ready.1 hj
   have hnot : ∀e∈oj.after,Region.binds .any e=true->e.on≠i:=fun e he hb heq=>by
    have h1:=hall e he hb
    have h0:=(mem_ready.1 hr).1
    rw [heq]at h1
    rcases dJ i listed.size with h'|h'
    ·simp [h']at h0 h1;rw [h0]at h1;cases h1
    ·simp [fM h']at h1
   have h2:=wpOp_putIf hoj (hfree j oj hoj hji hjun hnot) (fun cs b=>hsel i oi cs b hi) (fun cs b=>hsel j oj cs b hoj) hQ hy h1
   have hfree' : ∀k ok,ops[k]? = some ok->k≠i->(listed.setIfInBounds j true).getD k true=false->
     (∀e∈ok.after,Region.binds .any e=true->e.on≠i)->oi.apart ops ok=true:=fun k ok hk hki hun hno=>by
    refine hfree k ok hk hki ?_ hno
    by_cases hjk:j=k
    ·subst hjk;exact hjun
    ·rw [getD_set_ne true hjk]at hun;exact hun
   have hri:i∈Region.ready .any ops (listed.setIfInBounds j true):=ready_mono hr (kZ hji)
   have hns:postAt ops T j=true->False:=fun hsk=>by
    have h1:=hdown.anc hj (Oh hsk hT (kZ hji))
    have h0:=(mem_ready.1 hr).1
    rcases dJ i listed.size with h'|h'
    ·simp [h']at h0 h1;rw [h0]at h1;cases h1
    ·simp [fM h']at h1
   refine wpOp_mono (fun a' w' h3=> ?_) h2
   have h4:=h3.2.resolve_left fun hh=>hns hh.1
   refine .inr ⟨h4.1,ih (listed.setIfInBounds j true) a' w' hfree' (hdown.set hj) hri h3.1 h4.1 ?_⟩
   rw [jX _ _ hji]
   exact h4.2
theorem xU (hsel:Region.noSelect ops=true)(hok : ∀o∈ops.toList,qA N W o=true∧vV o=true){K:lK->Nat->lF->Prop} :
  ∀(p:Plan) (D:List Nat) (T:List Nat) (listed:Array Bool) (nK:lK) (n:Nat) (σ:Nat->Loc) (F:Nat->Prop) (H:lF) (ρ:lY) (a:Act) (w:World),oM ops p listed=true->pR ops T p=true->Down ops listed->Fits N ds ρ a->Same W lI ρ->St G lJ lN lQ n σ F H w->Ext nb pq Fb wb n σ F w->qE n σ F w nK ρ->
   aD P G ops.toList D p nK n H K->∀fuel,p.depth<=fuel->qj P ops (RA (I7 G lJ lN lQ N ds W lI nb pq Fb wb K)) fuel T (Keeps σ D H w) listed a w:=by
 have mem : ∀ {i:Nat} {o:Oper},ops.toList[i]? = some o->ops[i]? = some o∧qA N W o=true∧vV o=true:=fun {i o} h=>
  ⟨by rw [<-bf];exact h,hok o (aT h)⟩
 have fin : ∀ {T:List Nat} {S:World->Prop} {listed:Array Bool} {nK:lK} {n:Nat} {σ:Nat->Loc} {F:Nat->Prop} {H:lF} {ρ:lY} {a:Act} {w:World},Region.ready .any ops listed = []->Fits N ds ρ a->Same W lI ρ->St G lJ lN lQ n σ F H w->Ext nb pq Fb wb n σ F w->qE n σ F w nK ρ->K nK n H->
   ∀fuel,qj P ops (RA (I7 G lJ lN lQ N ds W lI nb pq Fb wb K)) fuel T S listed a w:=by
  intro T S listed nK n σ F H ρ a w hr hf hs st x hrep h fuel
  cases fuel with
  | zero=>exact⟨hr,ρ,nK,n,σ,F,H,hf,hs,st,x,hrep,h⟩
  | succ m=>exact⟨fun _=>⟨ρ,nK,n,σ,F,H,hf,hs,st,x,hrep,h⟩,by rw [hr];simp⟩
 intro p
 have one : ∀(p:Plan),(∀(D:List Nat) (T:List Nat) (listed:Array Bool) (nK:lK) (n:Nat) (σ:Nat->Loc) (F:Nat->Prop) (H:lF) (ρ:lY) (a:Act) (w:World),oM ops p listed=true->pR ops T p=true->Down ops listed->Fits N ds ρ a->Same W lI ρ->St G lJ lN lQ n σ F H w->Ext nb pq Fb wb n σ F w->qE n σ F w nK ρ->
   aD P G ops.toList D p nK n H K->∀fuel,p.depth<=fuel->qj P ops (RA (I7 G lJ lN lQ N ds W lI nb pq Fb wb K)) fuel T (Keeps σ D H w) listed a w)->
   ∀(i:Nat) (o:Oper) (D:List Nat) (T:List Nat) (listed:Array Bool) (nK:lK) (n:Nat) (σ:Nat->Loc) (F:Nat->Prop) (H:lF) (ρ:lY) (a:Act) (w:World),ops.toList[i]? = some o->oM ops p (listed.setIfInBounds i true)=true->pR ops T p=true->Down ops (listed.setIfInBounds i true)->Fits N ds ρ a->Same W lI ρ->St G lJ lN lQ n σ F H w->Ext nb pq Fb wb n σ F w->qE n σ F w nK ρ->
   (EN ops.toList o nK (fun ρ'=>aE P G o ρ' n (uU D H) fun a n' H'=>aD P G ops.toList (dx o n D) p (pG ρ' o.dst a) n' (H'++sO D H) K) fun ρ'=>aD P G ops.toList D p (pG ρ' o.dst (.v undef)) n H K)->
   ∀fuel,p.depth<=fuel->wpOp P ops (RA (I7 G lJ lN lQ N ds W lI nb pq Fb wb K)) i (fun a' w'=>(postAt ops T i=true∧∃T' S',qj P ops (RA (I7 G lJ lN lQ N ds W lI nb pq Fb wb K)) fuel T' S' (listed.setIfInBounds i true) a' w')∨(Keeps σ D H w w'∧qj P ops (RA (I7 G lJ lN lQ N ds W lI nb pq Fb wb K)) fuel T (Keeps σ D H w) (listed.setIfInBounds i true) a' w')) a w:=by
  intro p ih i o D T listed nK n σ F H ρ a w Bj hp hpo hdn hf hs st x hr h fuel hfu
  obtain⟨hi,ho,ER⟩:=mem Bj
  obtain⟨oq,hr',h⟩:=qp hf hr h
  unfold Go.wpOp
  simp only [hi]
  rcases h with ⟨hw,hv⟩|⟨hw,hv⟩
  ·simp only [hw,if_true]
   refine .inl ((rC (xQ hv ER (st.sub fun k b hk=>(qQ hk).2).start hr')).wp hf.eval fun v w' ht=> ?_)
   obtain⟨a',n',σ',F',H',hk,s,x',ra,hkeep⟩:=Uh (dx o n D) (fun k hk=>abv hk) st ht
   exact .inr ⟨hkeep w' (wY _ _ _ _),xR hkeep _ _ _ _ (ih _ _ _ _ _ _ _ _ _ _ _ hp hpo hdn (hf.put o.dst v (nX ho)) (hs.oD ho) s (x.trans x') (qh hr' x' ra) hk fuel hfu)⟩
  ·simp only [hw,aZ,if_false]
   exact .inr ⟨wY _ _ _ _,ih _ _ _ _ _ _ _ _ _ _ _ hp hpo hdn (hf.put o.dst undef (nX ho)) (hs.oD ho) st x (qh hr' (Ext.refl _ _ _ _) (.v undef)) hv fuel hfu⟩
 induction p with
 | done=>
  intro D T listed nK n σ F H ρ a w hp hpo hdn hf hs st x hr h fuel _
  exact fin (by simpa [oM]using hp) hf hs st x hr h fuel
 | take i p ih=>
  intro D T listed nK n σ F H ρ a w hp hpo hdn hf hs st x hr h fuel hfu
  simp only [oM,au]at hp
  obtain⟨⟨⟨hq,hrd⟩,hfree⟩,hp'⟩:=hp
  simp only [pR,au]at hpo
  have hTi:i∈T:=by simpa using hpo.1
  simp only [aD,qK,rH,oU]at h
  split at h
  ·rename_i o Bj
   obtain⟨hi,ho,ER⟩:=mem Bj
   simp only [hi]at hq
   cases fuel with
   | zero=>simp [Plan.depth]at hfu
   | succ fuel=>
    have Bl:p.depth<=fuel:=by simp only [Plan.depth]at hfu;omega
    obtain⟨oq,hr',h⟩:=qp hf hr h
    have go : ∀(v:Value) (av:AV),YieldsIf P ops (Keeps σ D H w) o v a->mF n σ F w av v->aD P G ops.toList D p (pG oq o.dst av) n H K->qj P ops (RA (I7 G lJ lN lQ N ds W lI nb pq Fb wb K)) (fuel+1) T (Keeps σ D H w) listed a w:=fun v av hy ra hv=>
     zY hi hTi (Region.noSelect_spec hsel) (fun c a w hq=>hq) fuel listed a w (Region.free_spec hi hfree) hdn (by simpa using hrd) hy (wY _ _ _ _)
      (ih _ _ _ _ _ _ _ _ _ _ _ hp' hpo.2 (hdn.set (by simpa using hrd)) (hf.put o.dst v (nX ho)) (hs.oD ho) st x (qh hr' (Ext.refl _ _ _ _) ra) hv fuel Bl)
    rcases h with ⟨hw,hv⟩|⟨hw,hv⟩
    ·have hH:uZ n σ F w (sO D H):=fun k b hk=>st.blk k b (uJ hk).2
     obtain⟨av,v,hk,ra,hrun⟩:=EI hv ER hH st.hrep hr'
     refine go v av (.inl ⟨hw,fun u hu=> ?_⟩) ra hk
     rw [hf.eval]
     obtain⟨v',he,hvv,_⟩:=(rC (hrun u true (fun v' u'=>v'=v∧u'=u) (EP st hu) ⟨rfl,rfl⟩)).quiet hq
     rw [he,hvv]
    ·exact go undef (.v undef) (.inr ⟨hw,rfl⟩) (.v undef) hv
  ·cases h
 | one i p ih=>
  intro D T listed nK n σ F H ρ a w hp hpo hdn hf hs st x hr h fuel hfu
  simp only [oM,au,beq_iff_eq]at hp
  obtain⟨hrd,hp'⟩:=hp
  simp only [aD,qK,rH,oU]at h
  split at h
  ·rename_i o Bj
   cases fuel with
   | zero=>simp [Plan.depth]at hfu
   | succ fuel=>
    have Bl:p.depth<=fuel:=by simp only [Plan.depth]at hfu;omega
    refine⟨fun e=>(by rw [hrd]at e;cases e),fun j hj=> ?_⟩
    rw [hrd]at hj
    simp only [bG]at hj
    subst hj
    exact one p ih j o D T listed nK n σ F H ρ a w Bj hp' hpo (hdn.set (i:=j) (by rw [hrd];simp)) hf hs st x hr h fuel Bl
  ·cases h
 | two i p j r Xi ihr=>
  intro D T listed nK n σ F H ρ a w hp hpo hdn hf hs st x hr h fuel hfu
  simp only [oM,au,beq_iff_eq]at hp
  obtain⟨⟨hrd,hp'⟩,hr'⟩:=hp
  simp only [pR,au]at hpo
  simp only [aD,qK,rH,oU]at h
  split at h
  ·rename_i o o' Bj hjo
   obtain⟨ha,hb⟩:=h
   cases fuel with
   | zero=>simp [Plan.depth]at hfu
   | succ fuel=>
    have Iq:p.depth<=fuel:=by simp only [Plan.depth]at hfu;omega
    have hfu2:r.depth<=fuel:=by simp only [Plan.depth]at hfu;omega
    refine⟨fun e=>(by rw [hrd]at e;cases e),fun k hk=> ?_⟩
    rw [hrd]at hk
    simp only [bF,jI,or_false]at hk
    rcases hk with rfl|rfl
    ·exact one p Xi k o D T listed nK n σ F H ρ a w Bj hp' hpo.1 (hdn.set (i:=k) (by rw [hrd];simp)) hf hs st x hr ha fuel Iq
    ·exact one r ihr k o' D T listed nK n σ F H ρ a w hjo hr' hpo.2 (hdn.set (i:=k) (by rw [hrd];simp)) hf hs st x hr hb fuel hfu2
  ·cases h
 | three i p j r k q Xi ihr ihq=>
  intro D T listed nK n σ F H ρ a w hp hpo hdn hf hs st x hr h fuel hfu
  simp only [oM,au,beq_iff_eq]at hp
  obtain⟨⟨⟨hrd,hp'⟩,hr'⟩,hq'⟩:=hp
  simp only [pR,au]at hpo
  simp only [aD,qK,rH,oU]at h
  split at h
  ·rename_i o o' o'' Bj hjo hko
   obtain⟨ha,hb,hc⟩:=h
   cases fuel with
   | zero=>simp [Plan.depth]at hfu
   | succ fuel=>
    have Iq:p.depth<=fuel:=by simp only [Plan.depth]at hfu;omega
    have hfu2:r.depth<=fuel:=by simp only [Plan.depth]at hfu;omega
    have Xk:q.depth<=fuel:=by simp only [Plan.depth]at hfu;omega
    refine⟨fun e=>(by rw [hrd]at e;cases e),fun k hk=> ?_⟩
    rw [hrd]at hk
    simp only [bF,jI,or_false]at hk
    rcases hk with rfl|rfl|rfl
    ·exact one p Xi k o D T listed nK n σ F H ρ a w Bj hp' hpo.1.1 (hdn.set (i:=k) (by rw [hrd];simp)) hf hs st x hr ha fuel Iq
    ·exact one r ihr k o' D T listed nK n σ F H ρ a w hjo hr' hpo.1.2 (hdn.set (i:=k) (by rw [hrd];simp)) hf hs st x hr hb fuel hfu2
    ·exact one q ihq k o'' D T listed nK n σ F H ρ a w hko hq' hpo.2 (hdn.set (i:=k) (by rw [hrd];simp)) hf hs st x hr hc fuel Xk
  ·cases h
 | sink i=>
  intro D T listed nK n σ F H ρ a w hp hpo hdn hf hs st x hr h fuel hfu
  simp only [oM,au,beq_iff_eq]at hp
  obtain⟨⟨hrd,hsk⟩,he⟩:=hp
  simp only [aD,qK,rH,oU]at h
  split at h
  ·rename_i o Bj
   obtain⟨hi,ho,ER⟩:=mem Bj
   cases fuel with
   | zero=>simp [Plan.depth]at hfu
   | succ fuel=>
    refine⟨fun e=>(by rw [hrd]at e;cases e),fun j hj=> ?_⟩
    rw [hrd]at hj
    simp only [bG]at hj
    subst hj
    have he':Region.ready .any ops (listed.setIfInBounds j true) = []:=by simpa using he
    obtain⟨oq,hr',h⟩:=qp hf hr h
    unfold Go.wpOp
    simp only [hi]
    rcases h with ⟨hw,hv⟩|⟨hw,hv⟩
    ·simp only [hw,if_true]
     refine .inl ((rC (xQ hv ER st hr')).wp hf.eval fun v w' ⟨a',n',σ',F',H',hk,s,x',ra⟩=> ?_)
     exact .inl ⟨hpo,[],fun _=>True,fin he' (hf.put o.dst v (nX ho)) (hs.oD ho) s (x.trans x') (qh hr' x' ra) hk fuel⟩
    ·simp only [hw,aZ,if_false]
     exact .inl ⟨hpo,[],fun _=>True,fin he' (hf.put o.dst undef (nX ho)) (hs.oD ho) st x (qh hr' (Ext.refl _ _ _ _) (.v undef)) hv fuel⟩
  ·cases h
 | post i p ih=>
  intro D T listed nK n σ F H ρ a w hp hpo hdn hf hs st x hr h fuel hfu
  simp only [oM,au,beq_iff_eq]at hp
  obtain⟨hrd,hp'⟩:=hp
  simp only [pR,au]at hpo
  simp only [aD,qK,rH,oU]at h
  split at h
  ·rename_i o Bj
   obtain⟨hi,ho,ER⟩:=mem Bj
   cases fuel with
   | zero=>simp [Plan.depth]at hfu
   | succ fuel=>
    have Bl:p.depth<=fuel:=by simp only [Plan.depth]at hfu;omega
    refine⟨fun e=>(by rw [hrd]at e;cases e),fun j hj=> ?_⟩
    rw [hrd]at hj
    simp only [bG]at hj
    subst hj
    have wB:=hdn.set (i:=j) (by rw [hrd];simp)
    obtain⟨oq,hr',h⟩:=qp hf hr h
    unfold Go.wpOp
    simp only [hi]
    rcases h with ⟨hw,hv⟩|⟨hw,hv⟩
    ·simp only [hw,if_true]
     refine .inl ((rC (xQ hv ER st hr')).wp hf.eval fun v w' ⟨a',n',σ',F',H',hk,s,x',ra⟩=> ?_)
     exact .inl ⟨hpo.1,takes p,_,ih _ _ _ _ _ _ _ _ _ _ _ hp' hpo.2 wB (hf.put o.dst v (nX ho)) (hs.oD ho) s (x.trans x') (qh hr' x' ra) hk fuel Bl⟩
    ·simp only [hw,aZ,if_false]
     exact .inl ⟨hpo.1,takes p,_,ih _ _ _ _ _ _ _ _ _ _ _ hp' hpo.2 wB (hf.put o.dst undef (nX ho)) (hs.oD ho) st x (qh hr' (Ext.refl _ _ _ _) (.v undef)) hv fuel Bl⟩
  ·cases h
theorem St.drew {n:Nat}{σ:Nat->Loc}{F:Nat->Prop}{H:lF}{w:World}(st:St G lJ lN lQ n σ F H w):St G lJ lN lQ n σ F H w.drew:=
 ⟨st.glob,⟨st.qg.os,st.qg.tape,st.qg.output,st.qg.size,st.qg.block⟩,st.oC,st.lab,st.mu,st.inj,fun k b hk=>uo.mono (n:=n) (σ:=σ) (F:=F) (w:=w) (w':=w.drew) ⟨ay _,fun _ _=>rfl,fun _ h=>⟨h,rfl⟩,ay _⟩ (st.blk k b hk) fun _ _ _=>rfl⟩
theorem ES (n:Nat)(σ:Nat->Loc)(F:Nat->Prop)(w:World):Ext n σ F w n σ F w.drew:=⟨ay _,fun _ _=>rfl,fun _ h=>⟨h,rfl⟩,ay _⟩
theorem Rh {Q:Exit->Act->World->Prop}{ns:List Nd}{ws:Nat->Bool}{nb:Nat}{A:Nat->NS}{σs:Nat->Loc}{Fs:Nat->Prop}{Hs:lF}{D:List Nat}{wb:World}{ρs:lK}{ρc:lY}{T:List Nat}{e:Nat}
  (XC:aaE ops ns=true) (hok : ∀o∈ops.toList,qA N (fun k=>W k&&ws k) o=true∧vV o=true)
  (hle : ∀j,nb<=(A j).n) (hun : ∀j s,ws s=false->(A j).ρ s=ρs s) (hrs:qE nb σs Fs wb ρs ρc)
  (hstep : ∀k nd,ns[k]? = some nd->∀s∈nd.succ,Pm P G ops.toList ws nb A k s)
  (hend : ∀k nd,ns[k]? = some nd->nd.succ = []->∀(σ:Nat->Loc) (F:Nat->Prop) (ρ:lY) (a:Act) (w:World),Down ops nd.listed->Fits N ds ρ a->Same (fun k=>W k&&ws k) ρc ρ->St G wb (uj wb σs (uU D Hs)) Fs (A k).n σ F (A k).H w->Ext nb σs Fs wb (A k).n σ F w->qE (A k).n σ F w (A k).ρ ρ->∀fuel,e<=fuel->qj P ops Q fuel T (Keeps σs D Hs wb) nd.listed a w) :
  ∀(m:Nat) (k:Nat) (nd:Nd),ns[k]? = some nd->nd.dep<=m->∀(σ:Nat->Loc) (F:Nat->Prop) (ρ:lY) (a:Act) (w:World),Down ops nd.listed->Fits N ds ρ a->Same (fun k=>W k&&ws k) ρc ρ->St G wb (uj wb σs (uU D Hs)) Fs (A k).n σ F (A k).H w->Ext nb σs Fs wb (A k).n σ F w->qE (A k).n σ F w (A k).ρ ρ->∀fuel,m+e<=fuel->qj P ops Q fuel T (Keeps σs D Hs wb) nd.listed a w:=by
 have mem : ∀ {i:Nat} {o:Oper},ops.toList[i]? = some o->ops[i]? = some o∧qA N (fun k=>W k&&ws k) o=true∧vV o=true:=fun {i o} h=>
  ⟨by rw [<-bf];exact h,hok o (aT h)⟩
 intro m
 induction m with
 | zero=>
  intro k nd hk hd σ F ρ a w hdn hf hs st x hr fuel hfu
  cases hsu:nd.succ with
  | nil=>exact hend k nd hk hsu σ F ρ a w hdn hf hs st x hr fuel (by omega)
  | cons s r=>
   exfalso
   have h1:=bQ.1 XC nd (aT hk)
   rw [hsu]at h1
   simp only [List.isEmpty_cons,jY,au,bQ]at h1
   have h2:=h1.2 s bJ
   split at h2
   ·simp only [au]at h2
    have h3:=h2.2
    rw [Nat.blt_eq]at h3
    omega
   ·cases h2
 | succ m ih=>
  intro k nd hk hd σ F ρ a w hdn hf hs st x hr fuel hfu
  cases hsu:nd.succ with
  | nil=>exact hend k nd hk hsu σ F ρ a w hdn hf hs st x hr fuel (by omega)
  | cons s0 r0=>
   have h1:=bQ.1 XC nd (aT hk)
   have hne:nd.succ.isEmpty=false:=by rw [hsu];rfl
   rw [hne]at h1
   simp only [jY,au,bQ,beq_iff_eq]at h1
   obtain⟨hrd,hall⟩:=h1
   cases fuel with
   | zero=>omega
   | succ fuel=>
    refine⟨fun e=> ?_,fun i hi=> ?_⟩
    ·rw [hrd,hsu]at e;cases e
    rw [hrd]at hi
    have hin:i∈Region.ready .any ops nd.listed:=by rw [hrd];exact hi
    obtain⟨s,hsm,rfl⟩:=dR.1 hi
    have h2:=hall s hsm
    split at h2
    ·rename_i nj hj
     simp only [au,beq_iff_eq]at h2
     obtain⟨hlj,hdj⟩:=h2
     rw [Nat.blt_eq]at hdj
     have h:=hstep k nd hk s hsm
     unfold Pm at h
     split at h
     ·rename_i o Bj
      obtain⟨hi',ho,ER⟩:=mem Bj
      simp only [qK]at h
      obtain⟨oq,hr',h⟩:=qp hf hr h
      have next : ∀(v:Value) (w':World) (n':Nat) (σ':Nat->Loc) (F':Nat->Prop) (H':lF) (uV:lK),St G wb (uj wb σs (uU D Hs)) Fs n' σ' F' H' w'->Ext (A k).n σ F w n' σ' F' w'->qE n' σ' F' w' uV (oD ρ o.dst v)->Lh (Hw G ws nb uV n' H' (A s.2).ρ (A s.2).n (A s.2).H)->Keeps σs D Hs wb w'∧qj P ops Q fuel T (Keeps σs D Hs wb) (nd.listed.setIfInBounds s.1 true) (a.put o.dst v) w':=by
       intro v w' n' σ' F' H' uV s' x' r' hb
       obtain⟨σ2,F2,s2,r2,l2,f2⟩:=hb.holds wb (uj wb σs (uU D Hs)) Fs σ' F' w' (oD ρ o.dst v) s' fun t _=>r' t
       have xx:=x.trans x'
       have x2:Ext nb σs Fs wb (A s.2).n σ2 F2 w':=⟨hle _,fun l hl=>(l2 l hl).trans (xx.s l hl),fun b hb=>⟨f2 b (xx.f b hb).1,(xx.f b hb).2⟩,xx.sz⟩
       refine⟨⟨xx.sz,fun b hb hn=>s2.qg.block b hb hn⟩, ?_⟩
       rw [<-hlj]
       refine ih s.2 nj hj (by omega) σ2 F2 _ _ w' (by rw [hlj];exact hdn.set hin) (hf.put o.dst v (nX ho)) (hs.oD ho) s2 x2 (fun t=> ?_) fuel (by omega)
       cases hws:ws t with
       | true=>exact r2 t hws
       | false=>
        have hsame:=hs.oD (v:=v) ho t (by simp [hws])
        rw [hun _ t hws,hsame]
        exact(hrs t).mono x2
      unfold Go.wpOp
      simp only [hi']
      rcases h with ⟨hw,hv⟩|⟨hw,hv⟩
      ·simp only [hw,if_true]
       refine .inl ((rC (xQ hv ER st hr')).wp hf.eval fun v w' ⟨a',n',σ',F',H',hk',s',x',ra⟩=> ?_)
       exact .inr (next v w' n' σ' F' H' _ s' x' (qh hr' x' ra) hk')
      ·simp only [hw,aZ,if_false]
       exact .inr (next undef w _ σ F _ _ st (Ext.refl _ _ _ _) (qh hr' (Ext.refl _ _ _ _) (.v undef)) hv)
     ·cases h
    ·cases h2
theorem Lj {K:lK->Prop}{Kw:Act->World->Prop}{T:List Nat}{D:List Nat}{n:Nat}{σ:Nat->Loc}{F:Nat->Prop}{H:lF}{w:World}{k:Array Bool->Bool}{fuel:Nat}
  (hsel:Region.noSelect ops=true) (hok : ∀o∈ops.toList,qA N W o=true∧vV o=true) (st:St G lJ lN lQ n σ F H w)
  (hend : ∀(listed:Array Bool) (nK:lK) (ρ:lY) (a:Act),k listed=true->Down ops listed->Fits N ds ρ a->Same W lI ρ->qE n σ F w nK ρ->K nK->qj P ops (RA Kw) fuel T (Keeps σ D H w) listed a w) :
  ∀(ts:List Nat) (listed:Array Bool) (nK:lK) (ρ:lY) (a:Act),Pn ops T ts listed k=true->Down ops listed->Fits N ds ρ a->Same W lI ρ->qE n σ F w nK ρ->WZ P G ops.toList (sO D H) H ts nK K->qj P ops (RA Kw) (fuel+ts.length) T (Keeps σ D H w) listed a w:=by
 have mem : ∀ {i:Nat} {o:Oper},ops.toList[i]? = some o->ops[i]? = some o∧qA N W o=true∧vV o=true:=fun {i o} h=>
  ⟨by rw [<-bf];exact h,hok o (aT h)⟩
 intro ts
 induction ts with
 | nil=>intro listed nK ρ a hk hdn hf hs hr h;exact hend listed nK ρ a hk hdn hf hs hr h
 | cons i ts ih=>
  intro listed nK ρ a hp hdn hf hs hr h
  simp only [Pn,au]at hp
  obtain⟨⟨⟨⟨hq,hrd⟩,hfree⟩,hT⟩,hp'⟩:=hp
  have hTi:i∈T:=by simpa using hT
  simp only [WZ,rH]at h
  split at h
  ·rename_i o Bj
   obtain⟨hi,ho,ER⟩:=mem Bj
   simp only [hi]at hq
   obtain⟨oq,hr',h⟩:=qp hf hr h
   have go : ∀(v:Value) (av:AV),YieldsIf P ops (Keeps σ D H w) o v a->mF n σ F w av v->WZ P G ops.toList (sO D H) H ts (pG oq o.dst av) K->qj P ops (RA Kw) (fuel+ts.length+1) T (Keeps σ D H w) listed a w:=fun v av hy ra hv=>
    zY hi hTi (Region.noSelect_spec hsel) (fun c a w hq=>hq) (fuel+ts.length) listed a w (Region.free_spec hi hfree) hdn (by simpa using hrd) hy (wY _ _ _ _)
     (ih _ _ _ _ hp' (hdn.set (by simpa using hrd)) (hf.put o.dst v (nX ho)) (hs.oD ho) (qh hr' (Ext.refl _ _ _ _) ra) hv)
   rcases h with ⟨hw,hv⟩|⟨hw,hv⟩
   ·have hH:uZ n σ F w (sO D H):=fun k b hk=>st.blk k b (uJ hk).2
    obtain⟨av,v,hk,ra,hrun⟩:=EI hv ER hH st.hrep hr'
    refine go v av (.inl ⟨hw,fun u hu=> ?_⟩) ra hk
    rw [hf.eval]
    obtain⟨v',he,hvv,_⟩:=(rC (hrun u true (fun v' u'=>v'=v∧u'=u) (EP st hu) ⟨rfl,rfl⟩)).quiet hq
    rw [he,hvv]
   ·exact go undef (.v undef) (.inr ⟨hw,rfl⟩) (.v undef) hv
  ·cases h
theorem Ri {n:Nat}{σ:Nat->Loc}{F:Nat->Prop}{H:lF}{w w':World}{D:List Nat}(st:St G lJ lN lQ n σ F H w){n':Nat}{σ':Nat->Loc}{F':Nat->Prop}{H':lF}(s:St G w (uj w σ (uU D H)) F n' σ' F' H' w')(x:Ext n σ F w n' σ' F' w') :
  ∀u,Keeps σ' D (H'++sO D H) w' u->Keeps σ D H w u:=by
 intro u hu
 refine⟨dN x.sz hu.1,fun b hb hn=> ?_⟩
 rw [hu.2 b (aV hb x.sz) fun⟨k,c,e1,e2,e3⟩=> ?_]
 ·exact s.qg.block b hb hn
 ·obtain⟨f1,f2⟩:=qQ e1
  rcases ny f2 with g1|⟨_,g1⟩
  ·rcases(s.mu k c b g1 e2 e3).2.2.2 with e|e
   ·exact hn e
   ·omega
  ·have h0:=uJ g1
   have:=h0.1
   rw [f1]at this;cases this
theorem Po {K:lK->Nat->lF->Prop}{nK:lK}{n:Nat}{σ:Nat->Loc}{F:Nat->Prop}{H:lF}{ρ:lY}{a:Act}{w:World}(hok : ∀o∈ops.toList,qA N W o=true∧vV o=true)
  (hf:Fits N ds ρ a) (hs:Same W lI ρ) (st:St G lJ lN lQ n σ F H w) (x:Ext nb pq Fb wb n σ F w) (hr:qE n σ F w nK ρ)
  {T ts:List Nat} {ns:List Nd} {p:Plan} {e:Nat} {D:List Nat} {ws:Nat->Bool} {A:Nat->NS} (hd:BN ops T ts ns p e=true) (hws:(ops.toList.all fun o=>match o.dst with|some d=>ws d|none=>true)=true)
  (hle : ∀j,n<=(A j).n) (hun : ∀j s,ws s=false->(A j).ρ s=nK s)
  (h0:WZ P G ops.toList (sO D H) H ts nK fun ρ'=>Lh (Hw G ws n ρ' n (uU D H) (A 0).ρ (A 0).n (A 0).H))
  (hstep : ∀k nd,ns[k]? = some nd->∀s∈nd.succ,Pm P G ops.toList ws n A k s)
  (hE : ∀k nd,ns[k]? = some nd->nd.succ = []->aD P G ops.toList D p (A k).ρ (A k).n ((A k).H++sO D H) K) :
  wpAny P .any ops (RA (I7 G lJ lN lQ N ds W lI nb pq Fb wb K)) ops.size (Array.replicate ops.size false) a w.drew:=by
 have e1:=ES n σ F w
 simp only [BN,au]at hd
 obtain⟨⟨⟨⟨⟨⟨htl,hsel⟩,XC⟩,hpo⟩,Bo⟩,hpl⟩,htk⟩:=hd
 have htl:=aN htl
 have hok2 : ∀o∈ops.toList,qA N (fun k=>W k&&ws k) o=true∧vV o=true:=fun o ho=>by
  refine⟨?_,(hok o ho).2⟩
  have h1:=(hok o ho).1
  have h2:=bQ.1 hws o ho
  unfold qA at h1 ⊢
  cases hd:o.dst with
  | none=>rfl
  | some d=>
   rw [hd]at h1 h2
   simp only [au]at h1 ⊢
   exact⟨h1.1,h1.2,h2⟩
 have hr1:qE n σ F w.drew nK ρ:=fun s=>(hr s).mono e1
 have st1:=st.drew
 have main : ∀fuel,ops.size<=fuel+ts.length->qj P ops (RA (I7 G lJ lN lQ N ds W lI nb pq Fb wb K)) (fuel+ts.length) T (Keeps σ D H w.drew) (Array.replicate ops.size false) a w.drew:=by
  intro fuel hfuel
  refine Lj (W:=fun k=>W k&&ws k) (lI:=ρ) hsel hok2 st1 (fun listed oq ρ' a' hk hdn hf' hs' hr' hK=> ?_) ts _ nK ρ a htk (fun j o _ hl=>by rw [uN]at hl;cases hl) hf (Same.refl _ _) hr1 h0
  split at hk
  ·rename_i n0 hn0
   simp only [au,beq_iff_eq]at hk
   obtain⟨rfl,hsz⟩:=hk
   have hsz:=aN hsz
   obtain⟨σ2,F2,s2,r2,l2,f2⟩:=hK.holds w.drew (uj w.drew σ (uU D H)) F σ F w.drew ρ' (st1.sub fun k b hk=>(qQ hk).2).start fun t _=>hr' t
   have x2:Ext n σ F w.drew (A 0).n σ2 F2 w.drew:=⟨hle 0,l2,fun b hb=>⟨f2 b hb,rfl⟩,ay _⟩
   refine Rh (e:=e) XC hok2 hle hun hr1 hstep (fun k nd hk hnil σ' F' ρ3 a3 w3 afJ hf3 hs3 s3 x3 hr3 fuel' Bl=> ?_) n0.dep 0 n0 hn0 (ay _) σ2 F2 ρ' a' w.drew hdn hf' hs' s2 x2 (fun t=> ?_) fuel (by omega)
   ·have afK:oM ops p nd.listed=true:=by
     have:=bQ.1 hpl nd (aT hk)
     rw [hnil]at this
     simpa using this
    have hj:=st1.join (fun k b hk=>(qQ hk).2) Ug s3 x3
    refine xR (Ri st1 s3 x3) _ _ _ _ ?_
    have:=xU (nb:=nb) (pq:=pq) (Fb:=Fb) (wb:=wb) (W:=W) (lI:=lI) hsel hok p D T nd.listed (A k).ρ (A k).n σ' F' _ ρ3 a3 w3 afK hpo afJ hf3 (hs.trans fun t ht=>hs3 t (by simp [ht])) hj ((x.trans e1).trans x3) hr3 (hE k nd hk hnil) fuel' (dN (aN Bo) Bl)
    exact this
   ·cases hw:ws t with
    | true=>exact r2 t hw
    | false=>
     rw [hun _ t hw,hs' t (by simp [hw])]
     exact(hr1 t).mono x2
  ·cases hk
 have h:=main (ops.size-ts.length) (by omega)
 rw [Nat.sub_add_cancel htl]at h
 exact rJ _ _ _ _ _ _ h
theorem yV.sound {id:Nat}{K:lK->Nat->lF->Prop}{nK:lK}{n:Nat}{σ:Nat->Loc}{F:Nat->Prop}{H:lF}{ρ:lY}{a:Act}{w:World}(hm:P.follows .mixedOrders=true)(hok : ∀o∈ops.toList,qA N W o=true∧vV o=true)
  (hf:Fits N ds ρ a) (hs:Same W lI ρ) (st:St G lJ lN lQ n σ F H w) (x:Ext nb pq Fb wb n σ F w) (hr:qE n σ F w nK ρ) (h:yV P G id ops K nK n H) :
  (Code.region id ops true).wp P (RA (I7 G lJ lN lQ N ds W lI nb pq Fb wb K)) a w:=by
 have e:=ES n σ F w
 rcases h.ex with ⟨p,D,hd,hv⟩|⟨p,D,ws,ρ',n',H',hd,hws,hle,hun,hv,hk⟩|⟨T,ts,ns,p,e',D,ws,A,hd,hws,hle,hun,h0,hstep,hE⟩
 ·simp only [vI,vP,au]at hd
  obtain⟨⟨⟨hsel,Bo⟩,hp⟩,hpo⟩:=hd
  exact wp_region_any hm (rJ _ _ _ _ _ _ (xU hsel hok p D (takes p) _ nK n σ F H ρ a w.drew hp hpo (fun j o _ hl=>by rw [uN]at hl;cases hl) hf hs st.drew (x.trans e) (fun s=>(hr s).mono e) hv ops.size (aN Bo)))
 ·simp only [vI,vP,au]at hd
  obtain⟨⟨⟨hsel,Bo⟩,hp⟩,hpo⟩:=hd
  have hok2 : ∀o∈ops.toList,qA N (fun k=>W k&&ws k) o=true∧vV o=true:=fun o ho=>by
   refine⟨?_,(hok o ho).2⟩
   have h1:=(hok o ho).1
   have h2:=bQ.1 hws o ho
   unfold qA at h1 ⊢
   cases hd:o.dst with
   | none=>rfl
   | some d=>
    rw [hd]at h1 h2
    simp only [au]at h1 ⊢
    exact⟨h1.1,h1.2,h2⟩
  have hr':qE n σ F w.drew nK ρ:=fun s=>(hr s).mono e
  refine Go.wp_mono (wp_region_any hm (rJ _ _ _ _ _ _ (xU (W:=fun k=>W k&&ws k) (lI:=ρ) (nb:=n) (pq:=σ) (Fb:=F) (wb:=w.drew) hsel hok2 p D (takes p) _ nK n σ F H ρ a w.drew hp hpo (fun j o _ hl=>by rw [uN]at hl;cases hl) hf (Same.refl _ _) st.drew (Ext.refl _ _ _ _) hr' hv ops.size (aN Bo)))) fun ex a' w' hq=> ?_
  cases ex with
  | normal=>
   obtain⟨Ll,abx,O5,AU,I8,qm,Ui,hs₁,Uj,JW,Uk,Ul⟩:=hq
   obtain⟨σ',F',s',r',l',f'⟩:=Ul.holds lJ lN lQ AU I8 w' Ll Uj fun s _=>Uk s
   have x':Ext n σ F w.drew n' σ' F' w':=⟨hle,fun l hl=>(l' l hl).trans (JW.s l hl),fun b hb=>⟨f' b (JW.f b hb).1,(JW.f b hb).2⟩,JW.sz⟩
   refine⟨Ll,ρ',n',σ',F',H',Ui,hs.trans fun k hk=>hs₁ k (by simp [hk]),s',(x.trans e).trans x',fun s=> ?_,hk⟩
   cases Oi:ws s with
   | true=>exact r' s Oi
   | false=>
    rw [hun s Oi,hs₁ s (by simp [Oi])]
    exact(hr' s).mono x'
  | exit id=>exact hq.elim
  | ret=>exact hq.elim
  | goto l=>exact hq.elim
  | panic ch=>exact hq.elim
  | outgrown=>exact hq.elim
 ·exact wp_region_any hm (Po hok hf hs st x hr hd hws hle hun h0 hstep hE)
end
def XD (V:(Ex->lK->Nat->lF->Prop)->lK->Nat->lF->Prop)(Q:Ex->lK->Nat->lF->Prop)(e:Ex)(ρ:lK)(n:Nat)(H:lF):Prop:=
 match e with
 | .normal=>V Q ρ n H
 | .exit id=>Q (.exit id) ρ n H
 | .ret=>Q .ret ρ n H
def Rj (id:Nat)(Q:Ex->lK->Nat->lF->Prop)(e:Ex)(ρ:lK)(n:Nat)(H:lF):Prop:=
 match e with
 | .normal=>Q .normal ρ n H
 | .exit j=>Q (bif Nat.beq j id then .normal else .exit j) ρ n H
 | .ret=>Q .ret ρ n H
def Oj (R:lK->Nat->lF->Prop)(Q:Ex->lK->Nat->lF->Prop)(e:Ex)(ρ:lK)(n:Nat)(H:lF):Prop:=
 match e with
 | .normal=>R ρ n H
 | .exit id=>Q (.exit id) ρ n H
 | .ret=>Q .ret ρ n H
structure ET (p:Prop):Prop where
 holds:p
structure Pq (G:Glob)(body:Code)(B:(Ex->lK->Nat->lF->Prop)->lK->Nat->lF->Prop)(Q:Ex->lK->Nat->lF->Prop)(ρ:lK)(n:Nat)(H:lF):Prop where
 ex : ∃(ws:Nat->Bool) (I:Nat->lK->lF->Prop) (nl:Nat),writesIn ws body=true∧n<=nl∧(∀m ρ' H',I m ρ' H'->∀s,ws s=false->ρ' s=ρ s)∧(∃m ρ' H',I m ρ' H'∧Hw G ws n ρ n H ρ' nl H')∧
  ∀m ρ' H',I m ρ' H'->
   B (Oj (fun o7 n'' rM=>ET (∃m',m'<m∧∃oZ qm,I m' oZ qm∧Hw G ws n o7 n'' rM oZ nl qm)) Q) ρ' nl H'
def aC (P:Program)(G:Glob)(c:Code)(Q:Ex->lK->Nat->lF->Prop)(ρ:lK)(n:Nat)(H:lF):Prop:=
 match c with
 | .skip=>Q .normal ρ n H
 | .region id ops draw=>(match draw with
  | false=>Rf P G ops.toList ops.toList ρ n H (Q .normal)
  | true=>yV P G id ops (Q .normal) ρ n H)
 | .seq a b=>aC P G a (XD (aC P G b) Q) ρ n H
 | .cond c t e=>(match oI ρ c with
  | .v (.bool b)=>Io b (aC P G t Q ρ n H) (aC P G e Q ρ n H)
  | _=>False)
 | .block id body=>aC P G body (Rj id Q) ρ n H
 | .loop body=>Pq G body (aC P G body) Q ρ n H
 | .exit id=>Q (.exit id) ρ n H
 | .ret=>Q .ret ρ n H
 | .label _=>Q .normal ρ n H
 | .scope body=>aC P G body Q ρ n H
 | _=>False
def oK (N:Nat)(W:Nat->Bool):Code->Bool
 | .region _ ops _=>ops.toList.all fun o=>qA N W o&&vV o
 | .seq a b=>oK N W a&&oK N W b
 | .cond _ a b=>oK N W a&&oK N W b
 | .block _ b=>oK N W b
 | .loop b=>oK N W b
 | .scope b=>oK N W b
 | .skip | .exit _ | .ret | .label _=>true
 | _=>false
theorem I9 {N:Nat}{W ws:Nat->Bool} : ∀c:Code,oK N W c=true->writesIn ws c=true->oK N (fun k=>W k&&ws k) c=true:=by
 intro c
 induction c with
 | region id ops d=>
  intro h1 h2
  simp only [oK,writesIn,bQ,au]at *
  intro o ho
  obtain⟨a1,a3⟩:=h1 o ho
  have a2:=h2 o ho
  refine⟨?_,a3⟩
  unfold qA at *
  unfold Xl at a2
  cases hd:o.dst with
  | none=>rfl
  | some d=>simp only [hd,au]at a1 a2 ⊢;exact⟨a1.1,a1.2,a2⟩
 | seq a b iha ihb=>intro h1 h2;simp only [oK,writesIn,au]at *;exact⟨iha h1.1 h2.1,ihb h1.2 h2.2⟩
 | cond c a b iha ihb=>intro h1 h2;simp only [oK,writesIn,au]at *;exact⟨iha h1.1 h2.1,ihb h1.2 h2.2⟩
 | block id b ih=>intro h1 h2;simp only [oK,writesIn]at *;exact ih h1 h2
 | loop b ih=>intro h1 h2;simp only [oK,writesIn]at *;exact ih h1 h2
 | scope b ih=>intro h1 h2;simp only [oK,writesIn]at *;exact ih h1 h2
 | label l=>intro _ _;rfl
 | skip=>intro _ _;rfl
 | exit id=>intro _ _;rfl
 | ret=>intro _ _;rfl
 | _=>intro h1 _;simp [oK]at h1
section
variable {P:Program}{G:Glob}{lJ:World}{lN lQ:Nat->Prop}{N:Nat}{ds:List Deferred}
theorem wF (hm:P.follows .mixedOrders=true) : ∀(c:Code) (W:Nat->Bool) (Q:Ex->lK->Nat->lF->Prop) (nK:lK) (n:Nat) (H:lF) (ρ lI:lY) (a:Act) (w:World) (σ:Nat->Loc) (F:Nat->Prop) (nb:Nat) (pq:Nat->Loc) (Fb:Nat->Prop) (wb:World),
  oK N W c=true->Fits N ds ρ a->Same W lI ρ->St G lJ lN lQ n σ F H w->Ext nb pq Fb wb n σ F w->qE n σ F w nK ρ->aC P G c Q nK n H->c.wp P (AQ G lJ lN lQ N ds W lI nb pq Fb wb Q) a w:=by
 intro c
 induction c with
 | skip=>intro W Q nK n H ρ lI a w σ F nb pq Fb wb _ hf hs st x hr h;exact wp_skip ⟨ρ,nK,n,σ,F,H,hf,hs,st,x,hr,h⟩
 | region id ops draw=>
  intro W Q nK n H ρ lI a w σ F nb pq Fb wb hc hf hs st x hr h
  have hok : ∀o∈ops.toList,qA N W o=true∧vV o=true:=by simpa only [oK,bQ,au]using hc
  have mono : ∀e a w,RA (I7 G lJ lN lQ N ds W lI nb pq Fb wb (Q .normal)) e a w->AQ G lJ lN lQ N ds W lI nb pq Fb wb Q e a w:=fun e a w hq=>by cases e<;>first|exact hq|exact hq.elim
  cases draw with
  | false=>
   refine Go.wp_mono (wp_region ?_) mono
   have hlen:ops.toList.length=ops.size:=by simp
   rw [jd, <-hlen]
   exact EO (K:=Q .normal) (Q:=RA (I7 G lJ lN lQ N ds W lI nb pq Fb wb (Q .normal))) (fun a' w' h=>h) ops.toList 0 nK n σ F H ρ a w (fun j=>by rw [aS]) hok hf hs st x hr h
  | true=>exact Go.wp_mono (yV.sound hm hok hf hs st x hr h) mono
 | seq c1 c2 ih1 ih2=>
  intro W Q nK n H ρ lI a w σ F nb pq Fb wb hc hf hs st x hr h
  simp only [oK,au]at hc
  refine wp_seq (Go.wp_mono (ih1 W _ nK n H ρ lI a w σ F nb pq Fb wb hc.1 hf hs st x hr h) fun e a' w' hq=> ?_)
  cases e with
  | normal=>
   obtain⟨ρ',oq,n',σ',F',H',hf',hs',st',x',hr',hv⟩:=hq
   exact ih2 W Q oq n' H' ρ' lI a' w' σ' F' nb pq Fb wb hc.2 hf' hs' st' x' hr' hv
  | exit id=>exact hq
  | ret=>exact hq
  | goto l=>exact hq
  | panic ch=>exact hq
  | outgrown=>exact hq
 | cond c c1 c2 ih1 ih2=>
  intro W Q nK n H ρ lI a w σ F nb pq Fb wb hc hf hs st x hr h
  simp only [oK,au]at hc
  simp only [aC]at h
  split at h
  ·rename_i b hb
   have rc:=mV hr c
   rw [hb]at rc
   refine wp_cond (t:=b) (by rw [hf.eval];exact rc.nV) ?_
   cases b with
   | true=>exact ih1 W Q nK n H ρ lI a w σ F nb pq Fb wb hc.1 hf hs st x hr h
   | false=>exact ih2 W Q nK n H ρ lI a w σ F nb pq Fb wb hc.2 hf hs st x hr h
  ·cases h
 | block id b ih=>
  intro W Q nK n H ρ lI a w σ F nb pq Fb wb hc hf hs st x hr h
  refine wp_block (Go.wp_mono (ih W _ nK n H ρ lI a w σ F nb pq Fb wb hc hf hs st x hr h) fun e a' w' hq=> ?_)
  cases e with
  | normal=>exact hq
  | exit j=>
   obtain⟨ρ',oq,n',σ',F',H',hf',hs',st',x',hr',hv⟩:=hq
   simp only [Rj]at hv
   simp only [Exit.inBlock]
   by_cases hj:j=id
   ·subst hj
    rw [iC,cond_true]at hv
    simp only [if_true]
    exact⟨ρ',oq,n',σ',F',H',hf',hs',st',x',hr',hv⟩
   ·have hb:Nat.beq j id=false:=by
     cases hb:Nat.beq j id with
     | false=>rfl
     | true=>exact absurd (aA hb) hj
    rw [hb,cond_false]at hv
    rw [if_neg hj]
    exact⟨ρ',oq,n',σ',F',H',hf',hs',st',x',hr',hv⟩
  | ret=>exact hq
  | goto l=>exact hq
  | panic ch=>exact hq
  | outgrown=>exact hq
 | loop b ih=>
  intro W Q nK n H ρ lI a w σ F nb pq Fb wb hc hf hs st x hr h
  obtain⟨ws,I,nl,hw,hle,aby,⟨m0,ρ0,H0,hI0,Lm⟩,Ol⟩:=h.ex
  have hc':=I9 b hc hw
  let J:Nat->Act->World->Prop:=fun m a' w'=> ∃ρ' oq σ' F' H',Fits N ds ρ' a'∧Same (fun k=>W k&&ws k) ρ ρ'∧I m oq H'∧St G lJ lN lQ nl σ' F' H' w'∧Ext n σ F w nl σ' F' w'∧qE nl σ' F' w' oq ρ'
  have mk : ∀m (ρ':lY) (oq oZ:lK) n' (σ':Nat->Loc) (F':Nat->Prop) H' qm a' w',Fits N ds ρ' a'->Same (fun k=>W k&&ws k) ρ ρ'->St G lJ lN lQ n' σ' F' H' w'->Ext n σ F w n' σ' F' w'->qE n' σ' F' w' oq ρ'->
    I m oZ qm->Hw G ws n oq n' H' oZ nl qm->J m a' w':=by
   intro m ρ' oq oZ n' σ' F' H' qm a' w' hf' hs' st' x' hr' hI abz
   obtain⟨AU,I8,s1,r1,l1,f1⟩:=abz lJ lN lQ σ' F' w' ρ' st' fun s _=>hr' s
   have x1:Ext n σ F w nl AU I8 w':=⟨hle,fun l hl=>(l1 l hl).trans (x'.s l hl),fun b hb=>⟨f1 b (x'.f b hb).1,(x'.f b hb).2⟩,x'.sz⟩
   refine⟨ρ',oZ,AU,I8,qm,hf',hs',hI,s1,x1,fun s=> ?_⟩
   cases hws:ws s with
   | true=>exact r1 s hws
   | false=>
    rw [aby m oZ qm hI s hws,hs' s (by simp [hws])]
    exact(hr s).mono x1
  refine Eo J m0 (mk m0 ρ nK ρ0 n σ F H H0 a w hf (Same.refl _ _) st (Ext.refl _ _ _ _) hr hI0 Lm) fun m a' w' ⟨ρ',oq,σ',F',H',hf',hs',hI,st',x',hr'⟩=> ?_
  refine Go.wp_mono (ih (fun k=>W k&&ws k) _ oq nl H' ρ' ρ a' w' σ' F' n σ F w hc' hf' hs' st' x' hr' (Ol m oq H' hI)) fun e a'' w'' hq=> ?_
  have up : ∀ {o7},Same (fun k=>W k&&ws k) ρ o7->Same W lI o7:=fun h'=>hs.trans fun k hk=>h' k (by simp [hk])
  cases e with
  | normal=>
   obtain⟨o7,uV,n'',yL,Nk,rM,uO,uP,EU,x'',EW,hv⟩:=hq
   obtain⟨m',hlt,oZ,qm,hI₁,Ja⟩:=hv.holds
   exact⟨m',hlt,mk m' o7 uV oZ n'' yL Nk rM qm a'' w'' uO uP EU x'' EW hI₁ Ja⟩
  | exit id=>obtain⟨o7,uV,n'',yL,Nk,rM,uO,uP,EU,x'',EW,hv⟩:=hq;exact⟨o7,uV,n'',yL,Nk,rM,uO,up uP,EU,x.trans x'',EW,hv⟩
  | ret=>obtain⟨o7,uV,n'',yL,Nk,rM,uO,uP,EU,x'',EW,hv⟩:=hq;exact⟨o7,uV,n'',yL,Nk,rM,uO,up uP,EU,x.trans x'',EW,hv⟩
  | goto l=>exact hq
  | panic ch=>exact hq
  | outgrown=>exact hq
 | exit id=>intro W Q nK n H ρ lI a w σ F nb pq Fb wb _ hf hs st x hr h;exact Go.wp_exit ⟨ρ,nK,n,σ,F,H,hf,hs,st,x,hr,h⟩
 | ret=>intro W Q nK n H ρ lI a w σ F nb pq Fb wb _ hf hs st x hr h;exact Go.wp_ret ⟨ρ,nK,n,σ,F,H,hf,hs,st,x,hr,h⟩
 | label l=>intro W Q nK n H ρ lI a w σ F nb pq Fb wb _ hf hs st x hr h;exact Go.wp_label ⟨ρ,nK,n,σ,F,H,hf,hs,st,x,hr,h⟩
 | scope b ih=>
  intro W Q nK n H ρ lI a w σ F nb pq Fb wb hc hf hs st x hr h
  refine Go.wp_scope_straight (Go.wp_mono (ih W Q nK n H ρ lI a w σ F nb pq Fb wb hc hf hs st x hr h) fun e a' w' hq=> ?_)
  cases e with
  | normal=>exact hq
  | exit id=>exact hq
  | ret=>exact hq
  | goto l=>exact hq
  | panic ch=>exact hq
  | outgrown=>exact hq
 | _=>intro W Q nK n H ρ lI a w σ F nb pq Fb wb hc;simp [oK]at hc
end
structure Gz (G:Glob)(nb:Nat)(R:AV->Nat->lF->Prop)(a:AV)(n:Nat)(H:lF):Prop where
 ex : ∃a' n' H',R a' n' H'∧nb<=n'∧∀lJ lN lQ σ F w v,St G lJ lN lQ n σ F H w->mF n σ F w a v->∃σ' F',St G lJ lN lQ n' σ' F' H' w∧mF n' σ' F' w a' v∧(∀l,l<nb->σ' l=σ l)∧∀b,F b->F' b
def Jb (P:Program)(rs:List ResultVar)(ρ:lK)(H:lF)(k:List AV->Prop):Prop:=
 match rs with
 | []=>k []
 | .tmp t::r=>af (ρ t) fun v=>Jb P r ρ H fun vs=>k (v::vs)
 | .cell a t::r=>O9 P H t (ρ a) fun v=>Jb P r ρ H fun vs=>k (v::vs)
def Um (vs:List AV):AV:=match vs with | [v]=>v|vs=> .mW vs
def XE (P:Program)(G:Glob)(nb:Nat)(fn:Func)(R:AV->Nat->lF->Prop)(e:Ex)(ρ:lK)(n:Nat)(H:lF):Prop:=
 match e with
 | .normal=>Jb P fn.results.toList ρ H fun vs=>Gz G nb R (Um vs) n H
 | .ret=>Jb P fn.results.toList ρ H fun vs=>Gz G nb R (Um vs) n H
 | .exit _=>False
def XF (l:List AV)(n:Nat):AV:=
 match l,n with
 | [],_=> .top
 | v::_,0=>v
 | _::r,n+1=>XF r n
def uw (args:List AV):lK:=fun n=>XF args n
section
variable {P:Program}{G:Glob}{lJ:World}{lN lQ:Nat->Prop}{n:Nat}{σ:Nat->Loc}{F:Nat->Prop}{H:lF}{w:World}
theorem Lr : ∀ {as:List AV} {vs:List Value},ng n σ F w as vs->∀k,mF n σ F w (XF as k) (nth vs k):=by
 intro as
 induction as with
 | nil=>intro vs _ k;simp only [XF];exact .top _
 | cons a as ih=>intro vs h k;cases vs with
  | nil=>exact h.elim
  | cons v vs=>cases k with
   | zero=>exact h.1
   | succ k=>exact ih h.2 k
theorem EX {nK:lK}{ρ:lY}(hH:uZ n σ F w H)(hr:qE n σ F w nK ρ) : ∀(rs:List ResultVar) (k:List AV->Prop) (kv:List Value->Prop),Jb P rs nK H k->(∀as vs,k as->ng n σ F w as vs->kv vs)->Ep P rs ρ w kv:=by
 intro rs
 induction rs with
 | nil=>intro k kv h hk;exact hk [] [] h trivial
 | cons r rs ih=>
  intro k kv h hk
  cases r with
  | tmp t=>
   simp only [Jb,qC]at h
   simp only [Ep,force_eq]
   exact ih _ _ h fun as vs h1 h2=>hk _ _ h1 ⟨hr t,h2⟩
  | cell a t=>
   simp only [Jb]at h
   obtain⟨p,hp,av,v,h1,h2,h3⟩:=CU h (hr a) hH
   simp only [Ep,hp]
   exact h3 w true _ (tN.refl _ _ _ _) (ih _ _ h1 fun as vs g1 g2=>hk _ _ g1 ⟨h2,g2⟩)
theorem Ls {as:List AV}{vs:List Value}(r:ng n σ F w as vs):mF n σ F w (Um as) (mW vs):=by
 match as,vs,r with
 | [],[],r=>exact r.mW
 | [a],[v],r=>exact r.1
 | a::b::as,u::v::vs,r=>exact r.mW
theorem Un {f:FuncId}{fn:Func}{c:Code}{args:List AV}{R:AV->Nat->lF->Prop}(hf:P.funcs[f]? = some fn)(hb:fn.body=some c)
  (hok:(Nat.ble args.length fn.ntmps&&oK fn.ntmps (fun _=>true) c)=true)
  (h : ∀(ρ:lY) (a:Act) (w:World) (σ:Nat->Loc) (F:Nat->Prop),Fits fn.ntmps [] ρ a->St G w (uj w σ H) F n σ F H w->qE n σ F w (uw args) ρ->c.wp P (AQ G w (uj w σ H) F fn.ntmps [] (fun _=>true) ρ n σ F w (XE P G n fn R)) a w):mX P G f args n H R:=by
 intro w σ F vs st r
 simp only [au]at hok
 have hN:=aN hok.1
 have hl:=r.len
 refine calls_of_wp hf hb ?_
 have hfit:Fits fn.ntmps [] (rE vs.toArray) {tmps:=vs.toArray++Array.replicate (fn.ntmps-vs.toArray.size) undef,defers:= []}:=by
  refine⟨by simp;omega,fun t=> ?_,rfl⟩
  simp only [rE,zN]
  rw [gu,aW,iW]
  by_cases ht:t<vs.toArray.size
  ·simp only [if_pos ht,kU]
  ·simp only [ht,if_false]
   have ht':vs.length<=t:=by simpa using ht
   rw [eX ht']
   rw [jZ]
   split<;>rfl
 refine Go.wp_mono (h (rE vs.toArray) _ w σ F hfit st (fun s=>by
  have:=Lr r s
  simpa [rE,uw]using this)) fun e a' w' hq=> ?_
 have res : ∀ {ρ':lY} {oq:lK} {n':Nat} {σ':Nat->Loc} {F':Nat->Prop} {H':lF},Fits fn.ntmps [] ρ' a'->St G w (uj w σ H) F n' σ' F' H' w'->Ext n σ F w n' σ' F' w'->qE n' σ' F' w' oq ρ'->
   (Jb P fn.results.toList oq H' fun vs=>Gz G n R (Um vs) n' H')->
   a'.defers = []∧∃v,(results fn a'.tmps).run P w' = .ok v w'∧∃u,Ending.returned v = .returned u∧∃a n' σ' F' H',R a n' H'∧St G w (uj w σ H) F n' σ' F' H' w'∧Ext n σ F w n' σ' F' w'∧mF n' σ' F' w' a u:=by
  intro ρ' oq n' σ' F' H' hf' st' x' hr' hv
  obtain⟨vs,hrun,hk⟩:=Es hf'.get _ _ (EX st'.hrep hr' _ _ (fun vs=> ∃a n' σ' F' H',R a n' H'∧St G w (uj w σ H) F n' σ' F' H' w'∧Ext n σ F w n' σ' F' w'∧mF n' σ' F' w' a (mW vs)) hv fun as vs he hl=>by
   obtain⟨a1,n1,H1,hR,hn,hco⟩:=he.ex
   obtain⟨σ1,F1,s1,r1,l1,f1⟩:=hco _ _ _ _ _ _ _ st' (Ls hl)
   exact⟨a1,n1,σ1,F1,H1,hR,s1,⟨hn,fun l hl=>(l1 l hl).trans (x'.s l hl),fun b hb=>⟨f1 b (x'.f b hb).1,(x'.f b hb).2⟩,x'.sz⟩,r1⟩)
  refine⟨hf'.defers,mW vs, ?_,mW vs,rfl,hk⟩
  rw [wU,Sem.run_bind,jg,Sem.run_map]
  rw [hrun]
  simp only [Result.andThen_ok,Sem.run_pure]
  congr 1
  match vs with
  | []=>rfl
  | [v]=>rfl
  | v::u::r=>simp [mW]
 cases e with
 | normal=>obtain⟨ρ',oq,n',σ',F',H',hf',_,st',x',hr',hv⟩:=hq;exact res hf' st' x' hr' hv
 | ret=>obtain⟨ρ',oq,n',σ',F',H',hf',_,st',x',hr',hv⟩:=hq;exact res hf' st' x' hr' hv
 | exit id=>obtain⟨ρ',oq,n',σ',F',H',hf',_,st',x',hr',hv⟩:=hq;exact hv.elim
 | goto l=>exact hq.elim
 | panic ch=>exact hq.elim
 | outgrown=>exact hq.elim
theorem lH {f:FuncId}{fn:Func}{c:Code}{args:List AV}{R:AV->Nat->lF->Prop}(hf:P.funcs[f]? = some fn)(hb:fn.body=some c)(hm:P.follows .mixedOrders=true)
  (hok:(Nat.ble args.length fn.ntmps&&oK fn.ntmps (fun _=>true) c)=true) (h:aC P G c (XE P G n fn R) (uw args) n H):mX P G f args n H R:=
 Un hf hb hok fun ρ a w σ F hfit st hr=>wF hm c (fun _=>true) _ (uw args) n H ρ ρ a w σ F n σ F w (by simp only [au]at hok;exact hok.2) hfit (Same.refl _ _) st (Ext.refl _ _ _ _) hr h
end
inductive Src where
 | lab (lV:Nat)
 | nil
def tr (θ:List (Nat×Src))(k:Nat):Option Src:=
 match θ with
 | []=>none
 | p::r=>bif Nat.beq p.1 k then some p.2 else tr r k
def CX (θ:List (Nat×Src))(nb k lV:Nat):Prop:=
 match tr θ k with
 | some (.lab e)=>e=lV
 | some .nil=>False
 | none=>Nat.blt k nb=true∧k=lV
mutual
def co (H:lF)(θ:List (Nat×Src))(Z:List Nat)(nb:Nat)(a' a:AV):Prop:=
 match a' with
 | .top=>True
 | .v x'=>(match a with | .v x=>x=x'|_=>False)
 | .lst sz l'=>(match a with
  | .lst sz' l=>sz'=sz∧l=l'
  | .v (.slice none 0 0)=>l' = []
  | .own e=>(match look H e with
   | some (.rows _ sz' l)=>uT Z e=true∧sz'=sz∧l=l'
   | some (.fz sz' l)=>sz'=sz∧l=l'
   | _=>False)
  | .sub e o k=>(match look H e with
   | some (.rows _ sz' l)=>uT Z e=true∧sz'=sz∧(l.drop o).take k=l'
   | some (.fz sz' l)=>sz'=sz∧(l.drop o).take k=l'
   | _=>False)
  | _=>False)
 | .fp cs o=>(match a with | .fp cs' o'=>cs'=cs∧o'=o|_=>False)
 | .fm M=>(match a with
  | .fm M'=>M'=M
  | .mp e=>(match look H e with|some (.QV M')=>M'=M|_=>False)
  | _=>False)
 | .ptr k o=>(match a with | .ptr e o'=>CX θ nb k e∧o'=o|_=>False)
 | .ep k i o=>(match a with | .ep e i' o'=>CX θ nb k e∧i'=i∧o'=o|_=>False)
 | .own k=>(match a with
  | .own e=>CX θ nb k e
  | .v (.slice none 0 0)=>(match tr θ k with|some .nil=>True|_=>False)
  | _=>False)
 | .sub k o n=>(match a with | .sub e o' n'=>CX θ nb k e∧o'=o∧n'=n|_=>False)
 | .full _ _=>False
 | .mp k=>(match a with | .mp e=>CX θ nb k e|_=>False)
 | .fn f xs ys=>(match a with | .fn f' xs' ys'=>f'=f∧Np H θ Z nb xs xs'∧Np H θ Z nb ys ys'|_=>False)
 | .agg cs=>(match a with | .agg cs'=>Np H θ Z nb cs cs'|_=>False)
 | .mW cs=>(match a with | .mW cs'=>Np H θ Z nb cs cs'|_=>False)
def Np (H:lF)(θ:List (Nat×Src))(Z:List Nat)(nb:Nat)(l' l:List AV):Prop:=
 match l' with
 | []=>(match l with | []=>True|_=>False)
 | a'::r'=>(match l with|a::r=>co H θ Z nb a' a∧Np H θ Z nb r' r|_=>False)
end
def W9 (H:lF)(θ:List (Nat×Src))(Z:List Nat)(nb:Nat)(b' b:oN):Prop:=
 match b' with
 | .var t cs=>(match b with | .var t' cs'=>t'=t∧Np H θ Z nb cs cs'|_=>False)
 | .rows t sz l=>(match b with | .rows t' sz' l'=>t'=t∧sz'=sz∧l'=l|_=>False)
 | .fz sz l=>(match b with | .fz sz' l'=>sz'=sz∧l'=l|_=>False)
 | .map M=>(match b with | .map M'=>M'=M|_=>False)
 | .QV M=>(match b with | .QV M'=>M'=M|_=>False)
 | .zf M=>(match b with | .zf M'=>M'=M|_=>False)
 | .itr s p=>(match b with | .itr s' p'=>s'=s∧p'=p|_=>False)
 | .tree t sz l none=>(match b with | .tree t' sz' l' none=>t'=t∧sz'=sz∧l'=l|_=>False)
 | .tree t sz l (some (i,j,k))=>(match b with | .tree t' sz' l' (some (i',j',e))=>t'=t∧sz'=sz∧l'=l∧i'=i∧j'=j∧CX θ nb k e|_=>False)
def Nq (H:lF)(θ:List (Nat×Src))(Z:List Nat)(nb:Nat)(H':lF):Prop:=
 match H' with
 | []=>True
 | (k,b')::r=>(match tr θ k with
  | some (.lab e)=>(match look H e with|some b=>W9 H θ Z nb b' b|none=>False)
  | some .nil=>(match b' with | .rows _ _ l=>l = []|_=>False)
  | none=>(match look H k with|some b=>W9 H θ Z nb b' b|none=>False))∧Nq H θ Z nb r
def wG (θ:List (Nat×Src))(k:Nat):Option Nat:=
 match tr θ k with
 | some (.lab e)=>some e
 | some .nil=>none
 | none=>some k
def clash (θ:List (Nat×Src))(k:Nat)(o:Option Nat)(H:lF):Bool:=
 match H with
 | []=>false
 | p::r=>(match o,wG θ p.1 with|some a,some b=>Nat.beq a b&& !(Nat.beq k p.1)|_,_=>false)||clash θ k o r
def wfH (nb n':Nat)(θ:List (Nat×Src))(Z:List Nat)(All H':lF):Bool:=
 match H' with
 | []=>true
 | p::r=>Nat.blt p.1 n'&&(match tr θ p.1 with|none=>Nat.blt p.1 nb|_=>true)&&(match wG θ p.1 with|some e=> !(uT Z e)|none=>true)&& !(clash θ p.1 (wG θ p.1) All)&&wfH nb n' θ Z All r
def wfT (nb n':Nat)(θ:List (Nat×Src)):Bool:=
 match θ with
 | []=>true
 | p::r=>Nat.ble nb p.1&&Nat.blt p.1 n'&&wfT nb n' r
def JX (nb n':Nat)(θ:List (Nat×Src))(Z:List Nat)(H':lF):Bool:=Nat.ble nb n'&&wfT nb n' θ&&wfH nb n' θ Z H' H'
def EY (θ:List (Nat×Src))(σ:Nat->Loc)(Gq:Nat->Nat)(k:Nat):Loc:=
 match tr θ k with
 | some (.lab e)=>σ e
 | some .nil=>⟨none,0,0,Gq k⟩
 | none=>σ k
def FR (σ:Nat->Loc)(H:lF)(Z:List Nat)(F:Nat->Prop)(b:Nat):Prop:=F b∨∃e t sz l,uT Z e=true∧look H e=some (.rows t sz l)∧(σ e).b=some b
def BO (H:lF)(k:Nat):Nat:=match look H k with|some (.rows _ sz _)=>sz|_=>0
section
variable {G:Glob}{lJ:World}{lN lQ:Nat->Prop}{n n' nb:Nat}{σ:Nat->Loc}{F:Nat->Prop}{H H':lF}{w:World}{θ:List (Nat×Src)}{Z:List Nat}{Gq:Nat->Nat}
theorem Om {nb n':Nat} : ∀ {θ:List (Nat×Src)} {k:Nat} {s:Src},wfT nb n' θ=true->tr θ k=some s->nb<=k∧k<n':=by
 intro θ
 induction θ with
 | nil=>intro k s _ h;cases h
 | cons p r ih=>
  intro k s hw h
  simp only [wfT,au]at hw
  simp only [tr]at h
  cases hb:Nat.beq p.1 k with
  | true=>
   rw [aA hb]at hw
   exact⟨aN hw.1.1,aN hw.1.2⟩
  | false=>rw [hb,cond_false]at h;exact ih hw.2 h
theorem Uo (hw:wfT nb n' θ=true){l:Nat}(hl:l<nb):EY θ σ Gq l=σ l:=by
 unfold EY
 cases h:tr θ l with
 | none=>rfl
 | some s=>have:=(Om hw h).1;omega
theorem wH (hw:wfT nb n' θ=true)(hnb:nb<=n'){k e:Nat}(h:CX θ nb k e):k<n'∧EY θ σ Gq k=σ e:=by
 unfold CX at h
 unfold EY
 split at h
 ·rename_i e' ht
  subst h
  exact⟨(Om hw ht).2,rfl⟩
 ·cases h
 ·rename_i ht
  have:k<nb:=aN h.1
  rw [h.2]at this ⊢
  exact⟨by omega,rfl⟩
theorem abA {F:Nat->Prop}{w:World}{sz b m c k cc o:Nat}{l:List (List FV)}(h:oL F w (.lst sz l) (.slice (some ⟨b,0,none⟩) m c))(hk:o+k<=m)(h0:0<k)(hkc:k<=cc) :
  oL F w (.lst sz ((l.drop o).take k)) (.slice (some ⟨b,o*sz,none⟩) k cc):=by
 cases h with
 | lst _ _ _ _ _ b' o' hn hc hnil ho hsz hex hrep=>
  obtain⟨e,hF⟩:=ho (by omega)
  injection e with e
  injection e with e1 e2
  subst e1;subst e2
  have ea : ∀i j,o*sz+(i*sz+j)=0+((o+i)*sz+j):=fun i j=>by rw [bK];omega
  refine .lst sz _ _ k cc b (o*sz) (by rw [aK,aX];omega) hkc (fun h=>by cases h) (fun _=>⟨rfl,hF⟩) (fun row hr=>hsz row (ig (fA hr))) (fun i j hi hj=> ?_) (fun i j row a v h1 h2 h3=> ?_)
  ·rw [ea];exact hex (o+i) j (by omega) hj
  ·rw [ea]at h3
   rw [bH]at h1
   split at h1
   ·rw [cZ]at h1
    exact hrep (o+i) j row a v h1 h2 h3
   ·cases h1
theorem Pv {n n':Nat}{σ σ':Nat->Loc}{F F':Nat->Prop}{w:World}{e o k sz:Nat}{l:List (List FV)}{v:Value}(h:uo n' σ' F' w (σ e) (.fz sz l))(r:mF n σ F w (.sub e o k) v):mF n' σ' F' w (.lst sz ((l.drop o).take k)) v:=by
 obtain⟨hsz,hn,hf,h0⟩:=h
 cases r with
 | sub _ _ _ oa c hl hk hc hnil ho=>
  refine .lst ?_
  rcases bP k with e0|e0
  ·subst e0
   rw [iO]
   exact .lst sz [] oa 0 c 0 0 rfl hc hnil (fun h=>absurd h (iV 0)) (fun _ h=>by cases h) (fun i j hi=>absurd hi (gQ i)) (fun i j row a v hi=>by simp at hi)
  ·obtain⟨b,hb,rfl⟩:=ho e0
   rw [hsz]
   have eo:(σ e).oa=some ⟨b,0,none⟩:=by unfold Loc.oa;rw [hb];rfl
   rw [eo]at hf
   exact abA hf hk e0 hc
mutual
theorem Jc (st:St G lJ lN lQ n σ F H w)(hw:wfT nb n' θ=true)(hnb:nb<=n')(a' a:AV)(v:Value)(h:co H θ Z nb a' a)(r:mF n σ F w a v):mF n' (EY θ σ Gq) (FR σ H Z F) w a' v:=by
 have hF : ∀b,F b->FR σ H Z F b∧w.heap[b]? = w.heap[b]? :=fun b hb=>⟨.inl hb,rfl⟩
 match a' with
 | .top=>exact .top v
 | .v x'=>
  unfold co at h
  split at h
  ·subst h;rw [r.nV];exact .v _
  ·cases h
 | .lst sz l'=>
  unfold co at h
  split at h
  ·obtain⟨rfl,rfl⟩:=h
   cases r with|lst hf=>exact .lst (hf.mono hF)
  ·subst h;rw [r.nV];exact .lst (yj sz _)
  ·split at h
   ·rename_i e t sz' l hk
    obtain⟨hz,rfl,rfl⟩:=h
    have:=sN (F':=FR σ H Z F) (st.blk _ _ hk) (fun b hb=> .inl hb) fun g hg=> .inr ⟨_,_,_,_,hz,hk,hg⟩
    cases r with
    | qP _ oa hl hn hc=>
     have e:=this.2.1
     rw [hn]at e
     have:l = []:=aF e.symm
     subst this
     exact .lst (yj _ _)
    | own _ hl=>exact .lst this.2.2.1
   ·rename_i e sz' l hk
    obtain⟨rfl,rfl⟩:=h
    cases r with
    | qP _ oa hl hn hc=>
     have e:=(st.blk _ _ hk).2.1
     rw [hn]at e
     have:l = []:=aF e.symm
     subst this
     exact .lst (yj _ _)
    | own _ hl=>exact .lst ((st.blk _ _ hk).2.2.1.mono hF)
   ·cases h
  ·split at h
   ·rename_i e t sz' l hk
    obtain⟨hz,rfl,rfl⟩:=h
    have hb:=sN (F':=FR σ H Z F) (st.blk _ _ hk) (fun b hb=> .inl hb) fun g hg=> .inr ⟨_,_,_,_,hz,hk,hg⟩
    exact Pv hb r
   ·rename_i e sz' l hk
    obtain⟨rfl,rfl⟩:=h
    exact Pv (n:=n) (σ:=σ) ⟨(st.blk _ _ hk).1,(st.blk _ _ hk).2.1,(st.blk _ _ hk).2.2.1.mono hF,(st.blk _ _ hk).2.2.2⟩ r
   ·cases h
  ·cases h
 | .fp cs o=>
  unfold co at h
  split at h
  ·obtain⟨rfl,rfl⟩:=h
   cases r with|fp hf=>exact .fp (hf.mono hF)
  ·cases h
 | .fm M=>
  unfold co at h
  split at h
  ·subst h
   cases r with|fm hf=>exact .fm (hf.mono hF)
  ·split at h
   ·rename_i e M' hk
    subst h
    obtain⟨g,hg,hf⟩:=st.blk _ _ hk
    cases r with
    | mp _ b hl hb=>
     rw [hb]at hg
     injection hg with hg
     subst hg
     exact .fm (hf.mono hF)
   ·cases h
  ·cases h
 | .ptr k o=>
  unfold co at h
  split at h
  ·obtain⟨h1,rfl⟩:=h
   obtain⟨h2,h3⟩:=wH (σ:=σ) (Gq:=Gq) hw hnb h1
   cases r with|ptr _ _ b hl hb=>exact .ptr k _ b h2 (by rw [h3];exact hb)
  ·cases h
 | .ep k i o=>
  unfold co at h
  split at h
  ·obtain⟨h1,rfl,rfl⟩:=h
   obtain⟨h2,h3⟩:=wH (σ:=σ) (Gq:=Gq) hw hnb h1
   cases r with|ep _ _ _ b hl hb=>rw [<-h3];exact .ep k _ _ b h2 (by rw [h3];exact hb)
  ·cases h
 | .own k=>
  unfold co at h
  split at h
  ·obtain⟨h2,h3⟩:=wH (σ:=σ) (Gq:=Gq) hw hnb h
   cases r with
   | qP _ oa hl hn hc=>exact .qP k oa h2 (by rw [h3];exact hn) (by rw [h3];exact hc)
   | own _ hl=>rw [<-h3];exact .own k h2
  ·split at h
   ·rename_i ht
    rw [r.nV]
    have:=mF.own (n:=n') (σ:=EY θ σ Gq) (F:=FR σ H Z F) (w:=w) k (Om hw ht).2
    unfold EY at this ⊢
    rw [ht]at this
    exact this
   ·cases h
  ·cases h
 | .sub k o m=>
  unfold co at h
  split at h
  ·obtain⟨h1,rfl,rfl⟩:=h
   obtain⟨h2,h3⟩:=wH (σ:=σ) (Gq:=Gq) hw hnb h1
   cases r with|sub _ _ _ oa c hl hk hc hnil ho=>exact .sub k _ _ oa c h2 (by rw [h3];exact hk) hc hnil (by rw [h3];exact ho)
  ·cases h
 | .full k m=>
  unfold co at h
  cases h
 | .mp k=>
  unfold co at h
  split at h
  ·obtain⟨h2,h3⟩:=wH (σ:=σ) (Gq:=Gq) hw hnb h
   cases r with|mp _ b hl hb=>exact .mp k b h2 (by rw [h3];exact hb)
  ·cases h
 | .fn f xs ys=>
  unfold co at h
  split at h
  ·obtain⟨rfl,h1,h2⟩:=h
   cases r with
   | fn _ _ _ us vs hx hy rx ry=>
    have r1:=uy st hw hnb xs _ us h1 (.of hx rx)
    have r2:=uy st hw hnb ys _ vs h2 (.of hy ry)
    exact .fn _ xs ys us vs r1.len r2.len r1.at r2.at
  ·cases h
 | .agg cs=>
  unfold co at h
  split at h
  ·obtain⟨us,rfl,r2⟩:=ng.Ew r
   exact(uy st hw hnb cs _ us h r2).agg
  ·cases h
 | .mW cs=>
  unfold co at h
  split at h
  ·cases r with
   | mW _ us hx rx=>exact(uy st hw hnb cs _ us h (.of hx rx)).mW
  ·cases h
theorem uy (st:St G lJ lN lQ n σ F H w)(hw:wfT nb n' θ=true)(hnb:nb<=n')(l' l:List AV)(vs:List Value)(h:Np H θ Z nb l' l)(r:ng n σ F w l vs):ng n' (EY θ σ Gq) (FR σ H Z F) w l' vs:=by
 match l' with
 | []=>
  unfold Np at h
  split at h
  ·cases vs with
   | nil=>trivial
   | cons _ _=>exact r.elim
  ·cases h
 | a'::r'=>
  unfold Np at h
  split at h
  ·cases vs with
   | nil=>exact r.elim
   | cons v vs=>exact⟨Jc st hw hnb a' _ v h.1 r.1,uy st hw hnb r' _ vs h.2 r.2⟩
  ·cases h
end
theorem Oo {a k:Nat} : ∀ {All:lF} {k':Nat} {b:oN},clash θ k (some a) All=false->look All k'=some b->wG θ k'=some a->k'=k:=by
 intro All
 induction All with
 | nil=>intro k' b _ h;cases h
 | cons p r ih=>
  intro k' b hc h hs
  obtain⟨x,bx⟩:=p
  simp only [clash,Bool.or_eq_false_iff]at hc
  rw [l9]at h
  split at h
  ·rename_i e
   subst e
   rw [hs]at hc
   have:=hc.1
   simp only [iC,iK,dU,fC]at this
   exact(aA this).symm
  ·exact ih hc.2 h hs
theorem zZ {All:lF} : ∀ {H':lF} {k:Nat} {b:oN},wfH nb n' θ Z All H'=true->look H' k=some b->k<n'∧(tr θ k=none->k<nb)∧(∀e,wG θ k=some e->uT Z e=false)∧clash θ k (wG θ k) All=false:=by
 intro H'
 induction H' with
 | nil=>intro k b _ h;cases h
 | cons p r ih=>
  intro k b hw h
  obtain⟨x,bx⟩:=p
  simp only [wfH,au]at hw
  obtain⟨⟨⟨⟨w1,w2⟩,w3⟩,w4⟩,w5⟩:=hw
  rw [l9]at h
  split at h
  ·rename_i e
   subst e
   refine⟨aN w1,fun ht=>by rw [ht]at w2;exact aN w2,fun e he=>by rw [he]at w3;simpa using w3,by simpa using w4⟩
  ·exact ih w5 h
theorem xW : ∀ {H':lF} {k:Nat} {b':oN},Nq H θ Z nb H'->look H' k=some b'->
  (∃e b,wG θ k=some e∧look H e=some b∧W9 H θ Z nb b' b)∨(tr θ k=some .nil∧∃t sz,b' = .rows t sz []):=by
 intro H'
 induction H' with
 | nil=>intro k b _ h;cases h
 | cons p r ih=>
  intro k b' hc h
  obtain⟨x,bx⟩:=p
  rw [l9]at h
  split at h
  ·rename_i e
   subst e
   injection h with h
   subst h
   have hc:=hc.1
   unfold wG
   cases ht:tr θ x with
   | none=>
    rw [ht]at hc
    cases hl:look H x with
    | none=>simp only [hl]at hc
    | some b=>simp only [hl]at hc;exact .inl ⟨x,b,rfl,hl,hc⟩
   | some s=>
    rw [ht]at hc
    cases s with
    | lab e=>
     cases hl:look H e with
     | none=>simp only [hl]at hc
     | some b=>simp only [hl]at hc;exact .inl ⟨e,b,rfl,hl,hc⟩
    | nil=>
     cases bx<;>simp only at hc
     subst hc
     exact .inr ⟨rfl,_,_,rfl⟩
  ·exact ih hc.2 h
theorem DL {b' b:oN}(h:W9 H θ Z nb b' b):b'.own=b.own:=by
 unfold W9 at h
 split at h
 ·split at h
  ·rfl
  ·cases h
 ·split at h
  ·rfl
  ·cases h
 ·split at h
  ·rfl
  ·cases h
 ·split at h
  ·rfl
  ·cases h
 ·split at h
  ·rfl
  ·cases h
 ·split at h
  ·rfl
  ·cases h
 ·split at h
  ·rfl
  ·cases h
 ·split at h
  ·rfl
  ·cases h
 ·split at h
  ·rfl
  ·cases h
theorem DN {w:World}{L:Loc}{g:Nat}{b' b:oN}(h:W9 H θ Z nb b' b)(ho:qo w L b' g):qo w L b g:=by
 cases hf:b'.flat with
 | true=>exact .inl (ho.flat hf)
 | false=>
  cases b' with
  | tree t sz l hh=>
   cases hh with
   | some p=>
    obtain⟨i,j,k⟩:=p
    unfold W9 at h
    cases b with
    | tree t' sz' l' h'=>
     cases h' with
     | some q=>obtain⟨_,rfl,rfl,_⟩:=h;exact ho
     | none=>exact h.elim
    | _=>exact h.elim
   | none=>
    unfold W9 at h
    cases b with
    | tree t' sz' l' h'=>
     cases h' with
     | none=>obtain⟨_,rfl,rfl⟩:=h;exact ho
     | some _=>exact h.elim
    | _=>exact h.elim
  | _=>cases hf
theorem DR {k e:Nat}(h:wG θ k=some e):EY θ σ Gq k=σ e:=by
 unfold wG at h
 unfold EY
 split at h
 ·injection h with h;rename_i ht;rw [h]
 ·cases h
 ·injection h with h;rename_i ht;rw [h]
theorem EZ (st:St G lJ lN lQ n σ F H w)(hw:JX nb n' θ Z H'=true)(hc:Nq H θ Z nb H'):St G lJ lN lQ n' (EY θ σ (BO H')) (FR σ H Z F) H' w:=by
 simp only [JX,au]at hw
 obtain⟨⟨hnb,hT⟩,hH⟩:=hw
 have hnb:=aN hnb
 have hF : ∀b,F b->FR σ H Z F b∧w.heap[b]? = w.heap[b]? :=fun b hb=>⟨.inl hb,rfl⟩
 refine⟨st.glob,st.qg,fun b hb=> ?_,fun k b h=>(zZ hH h).1,fun k b g h hm hg=> ?_,fun k k' b b' g h h' hm hm' hg hg'=> ?_,fun k b h=> ?_⟩
 ·rcases hb with hb|⟨e,t,sz,l,_,hk,hb⟩
  ·exact st.oC b hb
  ·obtain⟨_,_,h3,h4⟩:=st.mu e _ b hk rfl (.inl hb)
   exact⟨h3,h4.elim (fun h=> .inr (.inr h)) fun h=> .inr (.inl h)⟩
 ·rcases xW hc h with ⟨e,b0,hs,hk,hb⟩|⟨ht,_⟩
  ·rw [DR hs]at hg
   rw [DL hb]at hm
   have hg:=DN hb hg
   obtain⟨h1,h2,h3,h4⟩:=st.mu e b0 g hk hm hg
   refine⟨fun hf=> ?_,h2,h3,h4⟩
   rcases hf with hf|⟨e',t,sz,l,hz,hk',hg'⟩
   ·exact h1 hf
   ·have:=st.inj e e' b0 _ g hk hk' hm rfl hg (.inl hg')
    subst this
    rw [(zZ hH h).2.2.1 e hs]at hz;cases hz
  ·have hg:=hg.flat (by rename_i x;obtain⟨_,_,rfl⟩:=x;rfl)
   unfold EY at hg;rw [ht]at hg;cases hg
 ·have hs : ∃e b0,wG θ k=some e∧look H e=some b0∧b0.own=true∧qo w (σ e) b0 g:=by
   rcases xW hc h with ⟨e,b0,hs,hk,hb⟩|⟨ht,_,_,rfl⟩
   ·exact⟨e,b0,hs,hk,by rw [<-DL hb];exact hm,by rw [DR hs]at hg;exact DN hb hg⟩
   ·have hg:=hg.flat rfl
    unfold EY at hg;rw [ht]at hg;cases hg
  have hs' : ∃e b0,wG θ k'=some e∧look H e=some b0∧b0.own=true∧qo w (σ e) b0 g:=by
   rcases xW hc h' with ⟨e,b0,hs,hk,hb⟩|⟨ht,_,_,rfl⟩
   ·exact⟨e,b0,hs,hk,by rw [<-DL hb];exact hm',by rw [DR hs]at hg';exact DN hb hg'⟩
   ·have hg':=hg'.flat rfl
    unfold EY at hg';rw [ht]at hg';cases hg'
  obtain⟨e,b0,s1,k1,o1,g1⟩:=hs
  obtain⟨e',b0',s2,k2,o2,g2⟩:=hs'
  have:=st.inj e e' b0 b0' g k1 k2 o1 o2 g1 g2
  subst this
  have hcl:=(zZ hH h).2.2.2
  rw [s1]at hcl
  exact(Oo hcl h' s2).symm
 ·rcases xW hc h with ⟨e,b0,hs,hk,hb⟩|⟨ht,t,sz,rfl⟩
  ·rw [DR hs]
   have hB:=st.blk e b0 hk
   unfold W9 at hb
   split at hb
   ·split at hb
    ·obtain⟨rfl,hb⟩:=hb
     obtain⟨g,vs,h1,h2,h3,h4⟩:=hB
     exact⟨g,vs,h1,h2,uy st hT hnb _ _ vs hb h3,h4⟩
    ·exact hb.elim
   ·split at hb
    ·obtain⟨rfl,rfl,rfl⟩:=hb
     obtain⟨h1,h2,xs,h3,h4⟩:=hB
     exact⟨h1,h2,xs,h3,h4.mono hF⟩
    ·exact hb.elim
   ·split at hb
    ·obtain⟨rfl,rfl⟩:=hb
     exact⟨hB.1,hB.2.1,hB.2.2.1.mono hF,hB.2.2.2⟩
    ·exact hb.elim
   ·split at hb
    ·subst hb
     exact hB
    ·exact hb.elim
   ·split at hb
    ·subst hb
     obtain⟨g,h1,h2⟩:=hB
     exact⟨g,h1,h2.mono hF⟩
    ·exact hb.elim
   ·split at hb
    ·subst hb
     obtain⟨g,h1,h2⟩:=hB
     exact⟨g,h1,h2.mono hF rfl⟩
    ·exact hb.elim
   ·split at hb
    ·obtain⟨rfl,rfl⟩:=hb
     exact hB
    ·exact hb.elim
   ·split at hb
    ·obtain⟨rfl,rfl,rfl⟩:=hb
     obtain⟨h1,h2,xs,h3,h4,h5,_⟩:=hB
     exact⟨h1,h2,xs,h3,h4.mono hF,h5,fun _ _ _ h=>by cases h⟩
    ·exact hb.elim
   ·split at hb
    ·obtain⟨rfl,rfl,rfl,rfl,rfl,hs⟩:=hb
     obtain⟨h1,h2,xs,h3,h4,h5,h6⟩:=hB
     refine⟨h1,h2,xs,h3,h4.mono hF,h5,fun i j e h=> ?_⟩
     injection h with h
     injection h with ee1 h
     injection h with ee2 ee3
     subst ee1;subst ee2;subst ee3
     obtain⟨a1,a2,a3,a4,v,a5,a6⟩:=h6 _ _ _ rfl
     exact⟨(wH (σ:=σ) (Gq:=BO H') hT hnb hs).1,a2,a3,a4,v,a5,Jc st hT hnb (.own _) (.own _) v hs a6⟩
    ·exact hb.elim
  ·have e:EY θ σ (BO H') k=⟨none,0,0,sz⟩:=by
    unfold EY BO
    rw [ht,h]
   rw [e]
   exact⟨rfl,rfl,[],Own.nil _ _ _ _,pz.nil sz⟩
end
def Aa (l:List (Nat×AV))(n:Nat):Option AV:=
 match l with
 | []=>none
 | p::r=>bif Nat.beq n p.1 then some p.2 else Aa r n
def E5 (sl:List (Nat×AV))(ws:List (Nat×Nat))(ρ:lK):lK:=fun n=>
 match Aa sl n with
 | some v=>v
 | none=>bif vS ws n then .top else ρ n
def coS (H:lF)(θ:List (Nat×Src))(Z:List Nat)(nb:Nat)(sl:List (Nat×AV))(ρ:lK):Prop:=
 match sl with
 | []=>True
 | p::r=>co H θ Z nb p.2 (ρ p.1)∧coS H θ Z nb r ρ
theorem Ur {H:lF}{θ:List (Nat×Src)}{Z:List Nat}{nb:Nat}{ρ:lK} : ∀ {sl:List (Nat×AV)} {s:Nat} {a:AV},coS H θ Z nb sl ρ->Aa sl s=some a->co H θ Z nb a (ρ s):=by
 intro sl
 induction sl with
 | nil=>intro s a _ h;cases h
 | cons p r ih=>
  intro s a hc h
  simp only [Aa]at h
  cases hb:Nat.beq s p.1 with
  | true=>rw [hb,cond_true]at h;injection h with h;rw [aA hb, <-h];exact hc.1
  | false=>rw [hb,cond_false]at h;exact ih hc.2 h
theorem E8 {G:Glob}{ws:List (Nat×Nat)}{nb n n':Nat}{ρ ρe:lK}{H H':lF}{sl:List (Nat×AV)}(θ:List (Nat×Src))(Z:List Nat)(hw:JX nb n' θ Z H'=true)(hH:Nq H θ Z nb H')(hs:coS H θ Z nb sl ρ) :
  Hw G (vS ws) nb ρ n H (E5 sl ws ρe) n' H':=by
 intro lJ lN lQ σ F w ρc st hr
 have hw':=hw
 simp only [JX,au]at hw'
 obtain⟨⟨hnb,hT⟩,_⟩:=hw'
 refine⟨_,_,EZ st hw hH,fun s hss=> ?_,fun l hl=>Uo hT hl,fun b hb=> .inl hb⟩
 unfold E5
 cases hl:Aa sl s with
 | some a=>exact Jc st hT (aN hnb) a _ _ (Ur hs hl) (hr s hss)
 | none=>simp only [hss,cond_true];exact .top _
def LI {X:Type}(ws:List (Nat×Nat))(sl:X->List (Nat×AV))(hp:X->lF)(J:X->Prop)(μ:X->Nat)(ρ:lK)(m:Nat)(ρ':lK)(H':lF):Prop:= ∃x,μ x=m∧J x∧ρ'=E5 (sl x) ws ρ∧H'=hp x
theorem Hy {s:Nat} : ∀ {l:List (Nat×AV)} {a:AV},Aa l s=some a->s∈l.map (·.1):=by
 intro l
 induction l with
 | nil=>intro a h;cases h
 | cons p r ih=>
  intro a h
  simp only [Aa]at h
  cases hb:Nat.beq s p.1 with
  | true=>simp [aA hb]
  | false=>rw [hb,cond_false]at h;simp [ih h]
theorem mO {G:Glob}{X:Type}{body:Code}{B:(Ex->lK->Nat->lF->Prop)->lK->Nat->lF->Prop}{Q:Ex->lK->Nat->lF->Prop}{ρ:lK}{n:Nat}{H:lF}
  (ws:List (Nat×Nat)) (nl:Nat) (ks:List Nat) (sl:X->List (Nat×AV)) (hp:X->lF) (J:X->Prop) (μ:X->Nat) (θ:List (Nat×Src)) (Z:List Nat) (zH:X)
  (hw:(writesIn (vS ws) body&&Nat.ble n nl&&ks.all (vS ws))=true) (hsl : ∀x,(sl x).map (·.1)=ks) (hwf:JX n nl θ Z (hp zH)=true) (hJ:J zH) (hH:Nq H θ Z n (hp zH)) (hs:coS H θ Z n (sl zH) ρ)
  (hr : ∀x,J x->B (Oj (fun o7 n'' rM=>ET (∃m',m'<μ x∧∃oZ qm,LI ws sl hp J μ ρ m' oZ qm∧Hw G (vS ws) n o7 n'' rM oZ nl qm)) Q) (E5 (sl x) ws ρ) nl (hp x)) :
  Pq G body B Q ρ n H:=by
 simp only [au]at hw
 refine⟨vS ws,LI ws sl hp J μ ρ,nl,hw.1.1,aN hw.1.2, ?_,⟨μ zH,_,_,⟨zH,rfl,hJ,rfl,rfl⟩,E8 θ Z hwf hH hs⟩, ?_⟩
 ·rintro m ρ' H' ⟨x,rfl,hJx,rfl,rfl⟩ s h
  unfold E5
  cases hl:Aa (sl x) s with
  | none=>simp only [h,cond_false]
  | some a=>
   have h1:=Hy hl
   rw [hsl x]at h1
   have:=bQ.1 hw.2 s h1
   rw [h]at this
   cases this
 ·rintro m ρ' H' ⟨x,rfl,hJx,rfl,rfl⟩
  exact hr x hJx
theorem lX {G:Glob}{X:Type}{ws:List (Nat×Nat)}{sl:X->List (Nat×AV)}{hp:X->lF}{J:X->Prop}{μ:X->Nat}{ρ o7:lK}{nb nl n'' m:Nat}{rM:lF}
  (x':X) (θ:List (Nat×Src)) (Z:List Nat) (hwf:JX nb nl θ Z (hp x')=true) (hlt:μ x'<m) (hJ:J x') (hH:Nq rM θ Z nb (hp x')) (hs:coS rM θ Z nb (sl x') o7) :
  ET (∃m',m'<m∧∃oZ qm,LI ws sl hp J μ ρ m' oZ qm∧Hw G (vS ws) nb o7 n'' rM oZ nl qm):=
 ⟨μ x',hlt,_,_,⟨x',rfl,hJ,rfl,rfl⟩,E8 θ Z hwf hH hs⟩
theorem lW {G:Glob}{nb n:Nat}{R:AV->Nat->lF->Prop}{a:AV}{H:lF}(a':AV)(n':Nat)(H':lF)(θ:List (Nat×Src))(Z:List Nat)(hR:R a' n' H')(hwf:JX nb n' θ Z H'=true)(hH:Nq H θ Z nb H')(hc:co H θ Z nb a' a) :
  Gz G nb R a n H:=by
 have hw':=hwf
 simp only [JX,au]at hw'
 obtain⟨⟨hnb,hT⟩,_⟩:=hw'
 have hnb:=aN hnb
 exact⟨a',n',H',hR,hnb,fun lJ lN lQ σ F w v st r=>⟨_,_,EZ st hwf hH,Jc st hT hnb a' a v hc r,fun l hl=>Uo hT hl,fun b hb=> .inl hb⟩⟩
def Is (r:AV)(a:AV)(n:Nat)(H:lF):Prop:=a=r∧n=0∧H = []
theorem mJ {G:Glob}{n:Nat}{r a:AV}{H:lF}(Z:List Nat)(hc:co H [] Z 0 r a):Gz G 0 (Is r) a n H:=lW r 0 [] [] Z ⟨rfl,rfl,rfl⟩ rfl trivial hc
mutual
def flat:AV->Bool
 | .v _=>true
 | .top=>true
 | .agg cs=>Lu cs
 | .mW cs=>Lu cs
 | _=>false
def Lu:List AV->Bool
 | []=>true
 | a::r=>flat a&&Lu r
end
mutual
theorem Ac {n n':Nat}{σ σ':Nat->Loc}{F F':Nat->Prop}{w w':World}(a:AV)(v:Value)(h:flat a=true)(r:mF n σ F w a v):mF n' σ' F' w' a v:=by
 match a with
 | .v x=>rw [r.nV];exact .v _
 | .top=>exact .top v
 | .agg cs=>
  obtain⟨us,rfl,r2⟩:=ng.Ew r
  exact(BP cs us h r2).agg
 | .mW cs=>
  cases r with
  | mW _ us hx rx=>exact(BP cs us h (.of hx rx)).mW
 | .lst _ _=>cases h
 | .fp _ _=>cases h
 | .ptr _ _=>cases h
 | .ep _ _ _=>cases h
 | .own _=>cases h
 | .sub _ _ _=>cases h
 | .full _ _=>cases h
 | .mp _=>cases h
 | .fn _ _ _=>cases h
theorem BP {n n':Nat}{σ σ':Nat->Loc}{F F':Nat->Prop}{w w':World}(l:List AV)(vs:List Value)(h:Lu l=true)(r:ng n σ F w l vs):ng n' σ' F' w' l vs:=by
 match l with
 | []=>cases vs with
  | nil=>trivial
  | cons _ _=>exact r.elim
 | a::l=>
  cases vs with
  | nil=>exact r.elim
  | cons v vs=>
   simp only [Lu,au]at h
   exact⟨Ac a v h.1 r.1,BP l vs h.2 r.2⟩
end
theorem mX.mono {P:Program}{G:Glob}{f:FuncId}{args:List AV}{n:Nat}{H:lF}{R R':AV->Nat->lF->Prop}(h:mX P G f args n H R)(k : ∀a n H,R a n H->R' a n H):mX P G f args n H R':=
 fun w σ F vs st r=>(h w σ F vs st r).mono fun v w' ⟨a,n',σ',F',H',hR,rest⟩=>⟨a,n',σ',F',H',k _ _ _ hR,rest⟩
def DT (Z:List Nat)(H:lF):lF:=
 match H with
 | []=> []
 | (k, .rows t sz l)::r=>bif uT Z k then(k, .fz sz l)::DT Z r else(k, .rows t sz l)::DT Z r
 | p::r=>p::DT Z r
def fN (n:Nat)(k:Nat->Prop):Prop:=
 match n with
 | 0=>k 0
 | m+1=>k (m+1)
def fB (b:oN)(k:oN->Prop):Prop:=
 match b with
 | .var t cs=>k (.var t cs)
 | .rows t sz l=>k (.rows t sz l)
 | .fz sz l=>k (.fz sz l)
 | .map M=>k (.map M)
 | .QV M=>k (.QV M)
 | .zf M=>k (.zf M)
 | .itr s p=>k (.itr s p)
 | .tree t sz l h=>k (.tree t sz l h)
def fH (H:lF)(k:lF->Prop):Prop:=
 match H with
 | []=>k []
 | (l,b)::r=>fN l fun l'=>fB b fun b'=>fH r fun r'=>k ((l',b')::r')
theorem aaG (n:Nat)(k:Nat->Prop):fN n k=k n:=by cases n<;>rfl
theorem ad3 (b:oN)(k:oN->Prop):fB b k=k b:=by cases b<;>rfl
theorem ad4 (H:lF) : ∀k:lF->Prop,fH H k=k H:=by
 induction H with
 | nil=>intro k;rfl
 | cons p r ih=>intro k;obtain⟨l,b⟩:=p;simp only [fH,aaG,ad3,ih]
def frc (n:Nat)(H:lF)(k:Nat->lF->Prop):Prop:=fN n fun n'=>fH H fun H'=>k n' H'
theorem Us (n:Nat)(H:lF)(k:Nat->lF->Prop):frc n H k=k n H:=by simp only [frc,aaG,ad4]
section
variable {P:Program}{G:Glob}{lJ:World}{lN lQ:Nat->Prop}{n:Nat}{σ:Nat->Loc}{F:Nat->Prop}{H:lF}{w:World}
theorem mQ {f:FuncId}{args args':List AV}{r:AV}{K:AV->Nat->lF->Prop}(Z:List Nat)(hc:callable P f=true)(h:mX P G f args' 0 [] (Is r))(hf:flat r=true)(ha:Np H [] Z 0 args' args)(k:K r n H):um P G f args n H K:=by
 refine⟨hc,fun w σ F vs st hr=> ?_⟩
 have s1:=EZ (H':= []) (θ:= []) (Z:=Z) (nb:=0) (n':=0) st rfl trivial
 have r1:=uy (n':=0) (Gq:=BO []) st rfl (ay 0) args' args vs ha hr
 refine(h w _ _ vs s1.start r1).mono fun v w' ⟨a,n',σ',F',H',⟨ea,en,eH⟩,s,x,ra⟩=> ?_
 subst ea;subst en;subst eH
 have hM : ∀b, ¬uj w (EY [] σ (BO [])) [] b:=fun b ⟨k,c,e,_⟩=>by cases e
 have hE:Ext n σ F w n σ F w':=⟨ay _,fun _ _=>rfl,fun b hb=>⟨hb,s.qg.block b (st.oC b hb).1 (hM b)⟩,x.sz⟩
 have bk : ∀ {lV b g},look H lV=some b->b.own=true->qo w' (σ lV) b g->qo w (σ lV) b g:=fun h hm hg=>hg.back fun k hk=>s.qg.block k (st.mu _ _ k h hm (.inl hk)).2.2.1 (hM k)
 refine⟨a,n,σ,F,H,k, ?_,hE,Ac a v hf ra⟩
 exact⟨s.glob,⟨s.qg.os,s.qg.tape,s.qg.output,x.sz,fun b hb _=>s.qg.block b hb (hM b)⟩,fun b hb=>⟨aV (st.oC b hb).1 x.sz, .inl hb⟩,st.lab,
  fun lV b g hk hm hg=>by
   have hg:=bk hk hm hg
   obtain⟨h1,h2,h3,h4⟩:=st.mu lV b g hk hm hg
   exact⟨h1,h2,aV h3 x.sz, .inl ⟨lV,b,hk,hm,hg⟩⟩,fun e e' b b' g h h' m m' g1 g2=>st.inj e e' b b' g h h' m m' (bk h m g1) (bk h' m' g2),
  fun lV b hk=>(st.blk lV b hk).mono hE fun hm g hg=>s.qg.block g (st.mu lV b g hk hm hg).2.2.1 (hM g)⟩
end
end Go.Proofs.YtocckceefcmeaaaGreatDoor.Ax
