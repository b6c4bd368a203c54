/- Joined parts of the proof. The soundness of stores, appends, allocations and calls; of each operation -/
import Derived.Test.YtocckceefcmeaaaGreatDoorPk2
import Derived.Lib.AppendStr
import Derived.Laws.CopyRow
import Derived.Laws.IdiomCopy
import Derived.Test.YtocckceefcmeaaaGreatDoorPk1
import Derived.Scope
set_option linter.unusedVariables false
set_option linter.unusedSimpArgs false
set_option maxRecDepth 100000
set_option maxHeartbeats 16000000
namespace Go.Proofs.YtocckceefcmeaaaGreatDoor.Ax
open RowKit Go.Lib Vc
theorem CG (vs:List Value) : ∀(l:List Value) (o:Nat),(vO l o vs).length=l.length:=by
 induction vs with
 | nil=>intro l o;rfl
 | cons v r ih=>intro l o;simp only [vO];rw [ih,bV]
theorem zG (vs:List Value) : ∀(l:List Value) (o m:Nat),o+vs.length<=l.length->(vO l o vs)[m]? = if o<=m∧m<o+vs.length then vs[m-o]? else l[m]? :=by
 induction vs with
 | nil=>intro l o m _;simp only [vO,fK,dS];rw [if_neg (by omega)]
 | cons v r ih=>
  intro l o m h
  simp only [bC]at h
  simp only [vO]
  rw [ih _ _ _ (by rw [bV];omega),bC]
  by_cases h1:o+1<=m∧m<o+1+r.length
  ·rw [if_pos h1,if_pos (by omega),show m-o=(m -(o+1))+1 by omega,dV]
  ·rw [if_neg h1]
   by_cases h2:m=o
   ·subst h2
    rw [if_pos (by omega),gQ,bW,fC (by omega)]
   ·rw [if_neg (by omega),iJ (by omega)]
theorem XR {α:Type}(vs:List α) : ∀(l:List α) (o:Nat),(Ei l o vs).length=l.length:=by
 induction vs with
 | nil=>intro l o;rfl
 | cons v r ih=>intro l o;simp only [Ei];rw [ih,bV]
theorem XT {α:Type}(vs:List α) : ∀(l:List α) (o m:Nat),o+vs.length<=l.length->(Ei l o vs)[m]? = if o<=m∧m<o+vs.length then vs[m-o]? else l[m]? :=by
 induction vs with
 | nil=>intro l o m _;simp only [Ei,fK,dS];rw [if_neg (by omega)]
 | cons v r ih=>
  intro l o m h
  simp only [bC]at h
  simp only [Ei]
  rw [ih _ _ _ (by rw [bV];omega),bC]
  by_cases h1:o+1<=m∧m<o+1+r.length
  ·rw [if_pos h1,if_pos (by omega),show m-o=(m -(o+1))+1 by omega,dV]
  ·rw [if_neg h1]
   by_cases h2:m=o
   ·subst h2
    rw [if_pos (by omega),gQ,bW,fC (by omega)]
   ·rw [if_neg (by omega),iJ (by omega)]
theorem Ij {vs l:List Value}{o:Nat}{v:Value}(h:v∈vO l o vs):v∈l∨v∈vs:=by
 induction vs generalizing l o with
 | nil=>exact .inl h
 | cons x r ih=>
  simp only [vO]at h
  rcases ih h with h|h
  ·rcases iG h with h|rfl
   ·exact .inl h
   ·exact .inr (by simp)
  ·exact .inr (by simp [h])
theorem Eo {P:Program}{w:World}{t T:TypeId}{b o:Nat}{l:List Value}{v:Value}{K:World->Prop}(hb:tu w b l T)(hs:szB P t=some v.cells.toList.length)(h1 : ∀x∈v.cells.toList,x.oneCell'=true)
  (hl:o+v.cells.toList.length<=l.length) (k : ∀w',Only b w w'->tu w' b (vO l o v.cells.toList) T->K w'):xE P (storeVar t ⟨b,o,none⟩ v) w K:=by
 obtain⟨w',hr,ho,hbw⟩:=zh (P:=P) v.cells.toList 0 o l w hb (by omega) h1
 refine⟨(),w', ?_,k w' ho hbw⟩
 unfold storeVar
 simp only [Sem.run_bind,qK hs,Result.andThen_ok]
 simp [hr]
section
variable {P:Program}{G:Glob}{lY:World}{mG mJ:Nat->Prop}{n:Nat}{σ:Nat->Loc}{F:Nat->Prop}{H:lM}{w:World}
theorem qA.setRow {sz:Nat}{l:List (List FV)}{xs vs:List Value}{i o:Nat}{row x:List FV}(r:qA F w sz l xs)(hi:l[i]? = some row)(hx:zk F w x vs)(h1 : ∀v∈vs,v.oneCell'=true)(ho:o+x.length<=row.length) :
  qA F w sz (l.set i (Ei row o x)) (vO xs (i*sz+o) vs):=by
 have hil:=(aO.1 hi).1
 have hrl:=r.1 row (aZ hi)
 have hvl:=hx.1
 have hi1:i*sz+sz<=l.length*sz:=by
  have:(i+1)*sz<=l.length*sz:=aX _ hil
  rw [bJ,dF]at this;exact this
 refine⟨fun y hy=> ?_,by rw [CG,bV];exact r.2.1,fun v hv=> ?_,fun k j y a v hk hj hv=> ?_⟩
 ·rcases iG hy with hy|rfl
  ·exact r.1 y hy
  ·rw [XR];exact hrl
 ·rcases Ij hv with hv|hv
  ·exact r.2.2.1 v hv
  ·exact h1 v hv
 ·rw [zG _ _ _ _ (by rw [r.2.1];omega)]at hv
  rw [List.getElem?_set]at hk
  by_cases e:i=k
  ·subst e
   rw [if_pos rfl,if_pos hil]at hk
   injection hk with hk
   rw [<-hk,XT _ _ _ _ ho]at hj
   by_cases c:o<=j∧j<o+x.length
   ·rw [if_pos c]at hj
    rw [if_pos (by omega),show i*sz+j -(i*sz+o)=j-o by omega]at hv
    exact hx.2 _ a v hj hv
   ·rw [if_neg c]at hj
    rw [if_neg (by omega)]at hv
    exact r.2.2.2 i j row a v hi hj hv
  ·rw [if_neg e]at hk
   have hjl:=(aO.1 hj).1
   rw [r.1 y (aZ hk)]at hjl
   have hne : ¬(i*sz+o<=k*sz+j∧k*sz+j<i*sz+o+vs.length):=by
    intro hh
    rcases Nat.lt_or_gt_of_ne e with h|h
    ·have:(i+1)*sz<=k*sz:=aX _ h
     rw [bJ,dF]at this;omega
    ·have:(k+1)*sz<=i*sz:=aX _ h
     rw [bJ,dF]at this;omega
   rw [if_neg hne]at hv
   exact r.2.2.2 k j y a v hk hj hv
theorem KW (l vs:List Value)(k o:Nat)(h:o+vs.length<=k)(hk:k<=l.length):(vO l o vs).take k=vO (l.take k) o vs:=by
 apply jM
 intro m
 rw [bQ,zG _ _ _ _ (by omega),zG _ _ _ _ (by rw [aK];omega),bQ]
 by_cases c:m<k
 ·rw [if_pos c,if_pos c]
 ·rw [if_neg c,if_neg (by omega),if_neg c]
theorem ML {t:TypeId}{a x:AV}{va vx:Value}{K:lM->Prop}(h:RU P H t a x K)(st:St G lY mG mJ n σ F H w)(ra:nI n σ F w a va)(rx:nI n σ F w x vx) :
  ∃p,va = .pointer (some p)∧xE P (storeVar t p vx) w fun w'=>O7 G lY mG mJ n σ F w (fun _ n' H'=>n'=n∧K H') undef w':=by
 unfold RU at h
 split at h
 ·rename_i k hs
  cases hb:(Nat.beq (cellsOf x).length k&&all1 (cellsOf x))with
  | false=>rw [hb]at h;exact h.elim
  | true=>
   rw [hb,cond_true]at h
   simp only [aB]at hb
   have e:=aF hb.1
   have rc:=BG rx hb.2
   have h1:=Ii hb.2 rc
   have hvl:=rc.len
   have hs':szB P t=some vx.cells.toList.length:=by rw [hvl,e];exact hs
   split at h
   ·rename_i l o
    cases ra with
    | ptr _ _ b hl hbk=>
     refine⟨_,rfl, ?_⟩
     split at h
     ·rename_i T cs hk
      cases hc:Nat.ble (o+k) cs.length with
      | false=>rw [hc]at h;exact h.elim
      | true=>
       rw [hc,cond_true,pO]at h
       have hc:=aP hc
       obtain⟨g,vs,g1,g2,g3,g4⟩:=st.blk _ _ hk
       rw [hbk]at g1
       injection g1 with g1
       subst g1
       refine Eo g2 hs' h1 (by rw [g3.len];omega) fun w' hO hB=> ?_
       obtain⟨s2,x2⟩:=st.write hk rfl hbk hO (.var T (Ei cs o (cellsOf x))) fun _ hE=>⟨b,_,hbk,hB,(O1 rc g3).mono hE,fun v hv=>(Ij hv).elim (g4 v) (h1 v)⟩
       exact⟨.v undef,_,_,_,_,⟨rfl,h⟩,s2,x2, .v _⟩
     ·cases h
   ·rename_i l i o
    cases ra with
    | ep _ _ _ b hl hbk=>
     refine⟨_,rfl, ?_⟩
     split at h
     ·rename_i T sz m h0 hk
      split at h
      ·rename_i i' o' e0 e'
       obtain⟨⟨rfl,rfl⟩,h⟩:=h
       obtain⟨q1,q2,xs,hO,hT,hS,hh⟩:=st.blk _ _ hk
       obtain⟨a1,a2,a3,⟨row,a4,a5⟩,v0,a6,a7⟩:=hh _ _ _ rfl
       obtain⟨g,cur,hoa,hg0,hB,hle,hcm,hcl,htk⟩:=hO.blk (by omega)
       have hgb:=yT hoa
       rw [hbk]at hgb
       injection hgb with hgb
       subst hgb
       have hi1:i'*sz+sz<=m.length*sz:=by
        have:(i'+1)*sz<=m.length*sz:=aX _ a2
        rw [bJ,dF]at this;exact this
       have hcc:m.length*sz<=(σ l).c*sz:=aX _ hle
       have hvx:vx.cells.toList = [vx]∧e'<n:=by
        cases rx with
        | own _ hl=>exact⟨rfl,hl⟩
        | tC _ oa hl _ _=>exact⟨rfl,hl⟩
       rw [q1]
       refine Eo hB hs' h1 (by rw [hvx.1,hcl];simp;omega) fun w' hOn hB'=> ?_
       rw [hvx.1]at hB'
       have hx1:vx.oneCell'=true:=h1 vx (by rw [hvx.1];simp)
       have hset : ∀j,(vO xs (i'*sz+o') [vx])[j]? = if j=i'*sz+o' then some vx else xs[j]? :=fun j=>by
        have hxl:=hT.2.1
        rw [zG _ _ _ _ (by simp;omega)]
        simp only [bC,fK,aV]
        by_cases e:j=i'*sz+o'
        ·rw [if_pos (by omega),if_pos e,e];simp
        ·rw [if_neg (by omega),if_neg e]
       have hcell : ∀j,j≠i'*sz+o'->w'.cell? ⟨b,j,none⟩=w.cell? ⟨b,j,none⟩:=fun j hj=>by
        rw [hB'.cell,hB.cell,zG _ _ _ _ (by simp;omega)]
        simp only [bC,fK,aV]
        rw [if_neg (by omega)]
       have hN : ∀i2 j2 g2,Ry w' (σ l) sz m i2 j2 g2->Ry w (σ l) sz m i2 j2 g2:=by
        rintro i2 j2 g2 ⟨b2,Ep,t2,sz2,r2,m2,c2,n1,n2,n3,n4,n5⟩
        rw [hbk]at n1
        injection n1 with n1
        subst n1
        refine⟨b,Ep,t2,sz2,r2,m2,c2,hbk,n2,n3, ?_,n5⟩
        have hj2:j2<sz:=by rw [<-hT.1 Ep (aZ n2)];exact(aO.1 n3).1
        rw [<-hcell _ fun e=> ?_]
        ·exact n4
        ·have ei:i2=i':=by
          rcases jl i2 i' with hlt|he|hgt
          ·have:(i2+1)*sz<=i'*sz:=aX _ hlt
           rw [bJ,dF]at this;omega
          ·exact he
          ·have:(i'+1)*sz<=i2*sz:=aX _ hgt
           rw [bJ,dF]at this;omega
         subst ei
         have ej:j2=o':=by omega
         subst ej
         rw [a4]at n2
         injection n2 with n2
         subst n2
         rw [a5]at n3
         cases n3
       have hnew:vU n σ F w (σ l) (.tree T sz m (some (i',o',e0)))->Ext n σ F w n σ F w'->vU n σ F w' (σ l) (.tree T sz m (some (i',o',e'))):=by
        intro _ hE
        refine⟨q1,q2,vO xs (i'*sz+o') [vx],by
         rw [hoa]
         exact Own.Fe hB' hg0 hle hcm (by rw [CG];exact hcl) (by
          have:=KW cur [vx] (m.length*sz) (i'*sz+o') (by simp;omega) (by rw [hcl];exact hcc)
          rw [htk]at this
          exact this), ?_,⟨fun i j i2 j2 g2 n1 n2=>hS.1 _ _ _ _ _ (hN _ _ _ n1) (hN _ _ _ n2),fun i j g2 n1=>hS.2 _ _ _ (hN _ _ _ n1)⟩,fun i2 j2 e2 he2=> ?_⟩
        ·refine⟨hT.1,by rw [CG];exact hT.2.1,fun v hv=>(Ij hv).elim (hT.2.2.1 v) (fun hv=>by simp at hv;rw [hv];exact hx1),fun i2 j2 Ep a2' v2 n1 n2 n3=> ?_⟩
         rw [hset]at n3
         have hj2:j2<sz:=by rw [<-hT.1 Ep (aZ n1)];exact(aO.1 n2).1
         split at n3
         ·rename_i e
          have ei:i2=i':=by
           rcases jl i2 i' with hlt|he|hgt
           ·have:(i2+1)*sz<=i'*sz:=aX _ hlt
            rw [bJ,dF]at this;omega
           ·exact he
           ·have:(i'+1)*sz<=i2*sz:=aX _ hgt
            rw [bJ,dF]at this;omega
          subst ei
          have ej:j2=o':=by omega
          subst ej
          rw [a4]at n1
          injection n1 with n1
          subst n1
          rw [a5]at n2
          injection n2 with n2
          subst n2
          exact pJ.top v2
         ·have h3:=hT.2.2.2 i2 j2 Ep a2' v2 n1 n2 n3
          cases a2' with
          | f x=>exact pJ.mono hE.f h3
          | n t3 sz3 r3=>
           obtain⟨oa3,c3,rfl,h3⟩:=h3
           refine⟨oa3,c3,rfl,h3.imp id fun⟨ys,hc,hO3,hR3⟩=>⟨ys,hc,Ce hO3 hE.sz fun g3 hg3=>hOn.block g3 fun e=> ?_,hR3.mono hE.f⟩⟩
           subst e
           obtain⟨b',hLb,hcl'⟩:=yC hO n1 (hT.1 Ep (aZ n1)) n2 hT.2.1 n3
           refine hS.2 i2 j2 g3 ⟨b',Ep,t3,sz3,r3,r3.length,c3,hLb,n1,n2, ?_,hc⟩ hbk
           rw [hcl']
           rcases hO3.2 with ⟨hs3,_⟩|⟨g',cap,ams,hs3,_⟩
           ·injection hs3 with e1 _ _;rw [e1]at hg3;cases hg3
           ·injection hs3 with e1 _ _;rw [e1]at hg3 ⊢;injection hg3 with hg3;have hg3:g'=g3:=hg3;rw [hg3]
        ·injection he2 with he2
         injection he2 with ee1 ee2
         injection ee2 with ee2 ee3
         subst ee1;subst ee2;subst ee3
         exact⟨hvx.2,a2,a3,⟨row,a4,a5⟩,vx,by rw [hset,if_pos rfl],rx.mono hE⟩
       obtain⟨s2,x2⟩:=st.write hk rfl hbk hOn (.tree T sz m (some (i',o',e'))) hnew fun g2 hg2=>hg2.imp id fun⟨i2,j2,hg2⟩=>⟨i2,j2,hN _ _ _ hg2⟩
       exact⟨.v undef,_,_,_,_,⟨rfl,h⟩,s2,x2, .v _⟩
      ·cases h
     ·obtain⟨x',H1,F1,h,s1,x1,rf⟩:=KU h st rc
      split at h
      ·rename_i T sz m hk
       obtain⟨row,hrow,h⟩:=h.ex
       cases hc:Nat.ble (o+k) row.length with
       | false=>rw [hc]at h;exact h.elim
       | true=>
        rw [hc,cond_true,pO]at h
        have hc:=aP hc
        obtain⟨q1,q2,xs,hO,hR⟩:=s1.blk _ _ hk
        have hil:=(aO.1 hrow).1
        obtain⟨g,cur,hoa,hg0,hB,hle,hcm,hcl,htk⟩:=hO.blk (by omega)
        have hgb:=yT hoa
        rw [hbk]at hgb
        injection hgb with hgb
        subst hgb
        have hrl:=hR.1 row (aZ hrow)
        have hxl:x'.length=k:=by rw [<-rf.1,hvl,e]
        have hi1:i*sz+sz<=m.length*sz:=by
         have:(i+1)*sz<=m.length*sz:=aX _ hil
         rw [bJ,dF]at this;exact this
        have hcc:m.length*sz<=(σ l).c*sz:=aX _ hle
        have hvk:vx.cells.toList.length=k:=by rw [hvl,e]
        rw [q1]
        refine Eo hB hs' h1 (by rw [hvk,hcl];omega) fun w' hOn hB'=> ?_
        obtain⟨s2,x2⟩:=s1.write hk rfl hbk hOn (.rows T sz (m.set i (Ei row o x'))) fun _ hE=>⟨q1,by rw [bV];exact q2,_,by
          rw [hoa,bV]
          exact Own.Fe hB' hg0 hle hcm (by rw [CG];exact hcl) (KW _ _ _ _ (by rw [hvk];omega) (by rw [hcl];exact hcc)),by
          rw [htk]
          exact(hR.setRow hrow rf h1 (by omega)).mono hE.f⟩
        exact⟨.v undef,_,_,_,_,⟨rfl,h⟩,s2,x1.trans x2, .v _⟩
      ·cases h
     ·cases h
   ·cases h
 ·cases h
theorem VT {t sz c:Nat}{oa:Option Addr}{m:Nat}{xs:List Value}(hO:Own w 0 t sz oa m c xs):m<=c∧(oa=none->c=0):=by
 rcases hO.2 with ⟨hv,h0⟩|⟨g,cap,cur,hv,_,_,hle,_⟩
 ·injection hv with _ _ ec;exact⟨by omega,fun _=>ec⟩
 ·injection hv with eo _ ec;exact⟨by omega,fun en=>by rw [en]at eo;cases eo⟩
theorem CJ {sz:Nat}{l:List (List FV)}{v:Value}(h:pJ F w (.lst sz l) v)(hF : ∀b,F b->b<w.heap.size) :
  ∃oa m c news,v = .slice oa m c∧m=l.length∧m<=c∧(oa=none->c=0)∧Row w oa news∧qA F w sz l news:=by
 cases h with
 | lst _ _ oa m c b o hn hc hnil ho hsz hex hrep=>
  subst hn
  obtain⟨vs,hl,hvs⟩:=Ig (u:=w) (b:=b) (base:=o) (l.length*sz) fun k hk=>by
   have hz:0<sz:=by
    rcases cO sz with e|e
    ·rw [e,Nat.mul_zero]at hk;exact absurd hk (gI k)
    ·exact e
   have h1:k/sz<l.length:=(kY hz).2 hk
   obtain⟨v,hv,h1⟩:=hex (k/sz) (k%sz) h1 (iM _ hz)
   rw [gY,Nat.div_add_mod]at hv
   exact⟨v,hv,h1⟩
  refine⟨oa,l.length,c,vs,rfl,rfl,hc,hnil, ?_,hsz,hl,fun v hv=> ?_,fun i j row a v hi hj hv=>hrep i j row a v hi hj (hvs _ v hv).1⟩
  ·rcases cO l.length with e|e
   ·rw [e,fJ]at hl;exact .inl (aI hl)
   ·obtain⟨e1,e2⟩:=ho e
    exact .inr ⟨b,o,e1,hF b e2,fun j v hj=>(hvs j v hj).1⟩
  ·obtain⟨j,hj⟩:=bZ.1 hv
   exact(hvs j v hj).2
theorem qA.part {sz i j:Nat}{l:List (List FV)}{xs:List Value}(r:qA F w sz l xs)(hj:i+j<=l.length):qA F w sz ((l.drop i).take j) ((xs.drop (i*sz)).take (j*sz)):=by
 have hx:=r.2.1
 have hle:(i+j)*sz<=l.length*sz:=aX _ hj
 rw [bJ]at hle
 refine⟨fun y hy=>r.1 y (ig (fD hy)), ?_,fun v hv=>r.2.2.1 v (ig (fD hv)),fun k m row a v hk hm hv=> ?_⟩
 ·rw [aK,aS,aK,aS,hx]
  have e1:min j (l.length-i)=j:=by omega
  rw [e1]
  omega
 ·rw [bQ]at hk hv
  split at hk
  ·split at hv
   ·rw [dA]at hk hv
    refine r.2.2.2 (i+k) m row a v hk hm ?_
    rw [bJ,fZ];exact hv
   ·cases hv
  ·cases hk
theorem Ui {s:AV}{v:Value}{sz:Nat}{l:List (List FV)}(h:rowsOf H s=some (sz,l))(st:St G lY mG mJ n σ F H w)(r:nI n σ F w s v) :
  ∃oa m c news,v = .slice oa m c∧m=l.length∧m<=c∧(oa=none->c=0)∧Row w oa news∧qA F w sz l news:=by
 have hF : ∀b,F b->b<w.heap.size:=fun b hb=>(st.oW b hb).1
 unfold rowsOf at h
 split at h
 ·simp only [aN,gJ]at h
  obtain⟨rfl,rfl⟩:=h
  cases r with|lst hf=>exact CJ hf hF
 ·split at h
  ·rename_i l' T sz' m hk
   simp only [aN,gJ]at h
   obtain⟨rfl,rfl⟩:=h
   obtain⟨q1,q2,xs,hO,hR⟩:=st.blk _ _ hk
   cases r with
   | tC _ oa hl hn hc=>
    rw [hn]at q2
    have:m = []:=aI q2.symm
    subst this
    exact⟨_,_,_,[],rfl,rfl,aA _,fun _=>rfl,Row.nil _ _,qA.nil _⟩
   | own _ hl=>
    have:=VT hO
    exact⟨_,_,_,xs,rfl,q2,by rw [q2];exact this.1,this.2,hO.row,hR⟩
  ·rename_i l' sz' m hk
   simp only [aN,gJ]at h
   obtain⟨rfl,rfl⟩:=h
   obtain⟨q1,q2,hf,_⟩:=st.blk _ _ hk
   cases r with
   | tC _ oa hl hn hc=>
    rw [hn]at q2
    have:m = []:=aI q2.symm
    subst this
    exact⟨_,_,_,[],rfl,rfl,aA _,fun _=>rfl,Row.nil _ _,qA.nil _⟩
   | own _ hl=>exact CJ hf hF
  ·cases h
 ·split at h
  ·rename_i l' o k _ T sz' m hk
   simp only [aN,gJ]at h
   obtain⟨rfl,rfl⟩:=h
   obtain⟨q1,q2,xs,hO,hR⟩:=st.blk _ _ hk
   cases r with
   | sub _ _ _ oa c hl hkk hc hnil ho=>
    rw [q2]at hkk
    refine⟨_,_,_,_,rfl,by rw [aK,aS];omega,hc,hnil, ?_,hR.part hkk⟩
    rcases cO k with e|e
    ·subst e;exact .inl (by simp)
    ·obtain⟨b,e1,e2⟩:=ho e
     rcases hO.row with hx|⟨b',o',e3,hlt,hcell⟩
     ·exact .inl (by rw [hx];simp)
     ·have hb:=yT (L:=σ l') (g:=b) (by unfold Loc.oa;rw [e1];rfl)
      have e4:(σ l').oa=some ⟨b,0,none⟩:=by unfold Loc.oa;rw [e1];rfl
      rw [e4]at e3
      injection e3 with e3;injection e3 with e3 e5
      subst e3
      refine .inr ⟨b,o*sz',by rw [e2,q1],hlt,fun j v hj=> ?_⟩
      rw [bQ]at hj
      split at hj
      ·rw [dA]at hj
       have:=hcell _ v hj
       rw [<-e5,aV]at this
       exact this
      ·cases hj
  ·rename_i l' o k _ sz' m hk
   simp only [aN,gJ]at h
   obtain⟨rfl,rfl⟩:=h
   obtain⟨q1,q2,hf,h0⟩:=st.blk _ _ hk
   cases r with
   | sub _ _ _ oa c hl hkk hc hnil ho=>
    obtain⟨qy,m',c',xs,ev,em,_,_,hrow,hR⟩:=CJ hf hF
    injection ev with e1 e2 e3
    rw [q2]at hkk
    refine⟨_,_,_,_,rfl,by rw [aK,aS];omega,hc,hnil, ?_,hR.part hkk⟩
    rcases cO k with e|e
    ·subst e;exact .inl (by simp)
    ·obtain⟨b,f1,f2⟩:=ho e
     rcases hrow with hx|⟨b',o',f3,hlt,hcell⟩
     ·exact .inl (by rw [hx];simp)
     ·have e4:(σ l').oa=some ⟨b,0,none⟩:=by unfold Loc.oa;rw [f1];rfl
      rw [<-e1,e4]at f3
      injection f3 with f3;injection f3 with f3 f5
      subst f3
      refine .inr ⟨b,o*sz',by rw [f2,q1],hlt,fun j v hj=> ?_⟩
      rw [bQ]at hj
      split at hj
      ·rw [dA]at hj
       have:=hcell _ v hj
       rw [<-f5,aV]at this
       exact this
      ·cases hj
  ·cases h
 ·cases h
theorem qA.append {sz:Nat}{l m:List (List FV)}{xs ys:List Value}(r:qA F w sz l xs)(k:qA F w sz m ys):qA F w sz (l++m) (xs++ys):=by
 refine⟨fun y hy=>(bK.1 hy).elim (r.1 y) (k.1 y),by rw [ak,ak,r.2.1,k.2.1,bJ],fun v hv=>(bK.1 hv).elim (r.2.2.1 v) (k.2.2.1 v),fun i j row a v hi hj hv=> ?_⟩
 have hx:=r.2.1
 by_cases h:i<l.length
 ·rw [dQ h]at hi
  have hjl:=(aO.1 hj).1
  rw [r.1 row (aZ hi)]at hjl
  have h1:(i+1)*sz<=l.length*sz:=aX _ h
  rw [bJ,dF]at h1
  rw [dQ (by omega)]at hv
  exact r.2.2.2 i j row a v hi hj hv
 ·rw [dG (by omega)]at hi
  have h1:l.length*sz<=i*sz:=aX _ (by omega)
  rw [dG (by omega)]at hv
  refine k.2.2.2 (i-l.length) j row a v hi hj ?_
  rw [Nat.sub_mul,show i*sz-l.length*sz+j=i*sz+j-xs.length by omega]
  exact hv
theorem xI {t ty E:TypeId}{sz qY k c m c2:Nat}{oa Fa:Option Addr}{xs news zs:List Value}
  (ht:P.underlying t=some (.slice E)) (hs:szB P E=some sz) (hby:qG P E=some qY) (hz:xH P E=some zs) (hzl:zs.length=sz) (hsz:Nat.ble 1 sz=true)
  (hown:Own w 0 E sz oa k c xs) (hr:Row w Fa news) (hl:news.length=m*sz) (h1 : ∀u∈news,u.oneCell'=true) (hnil:Fa=none->c2=0)
  (hbytes:(k+m)*qY<=140737488355328) (hlen:k+m<=maxLen) :
  ∃qy c' w',(Builtin.append_ #[t,t] ty #[.slice oa k c, .slice Fa m c2]).run P w = .ok (.slice qy (k+m) c') w'∧Own w' 0 E sz qy (k+m) c' (xs++news)∧w.grownBy w' (ownB oa)∧(∀g,ownB qy=some g->ownB oa=some g∨w.heap.size<=g):=by
 obtain⟨i,hi,rfl⟩:=qJ hs
 have hb':i.bytes=qY:=by simpa [qG,hi]using hby
 obtain⟨z,hz1,hz2⟩ : ∃z,i.zero=some z∧z.cells.toList=zs:=by
  unfold xH at hz
  simp only [hi,fU]at hz
  cases hzz:i.zero with
  | none=>simp [hzz]at hz
  | some z=>simp only [hzz,bU,aN]at hz;exact⟨z,rfl,hz⟩
 have hsz':0<i.size:=aP hsz
 have hzc:z.cells.size=i.size:=by rw [<-hz2]at hzl;simpa using hzl
 by_cases hm:Fa=none
 ·subst hm
  have hm0:news = []:=hr.resolve_right (by rintro⟨b,o,he,_⟩;cases he)
  subst hm0
  have:m=0:=by
   rcases cO m with h|h
   ·exact h
   ·have:=lC h hsz';simp at hl;omega
  subst this
  have hc2:=hnil rfl
  subst hc2
  have hrun:=run_append_owned_none (P:=P) (w:=w) 0 t ty E i i.size ht hi (.slice oa k c) k xs hown
  exact⟨oa,c,w,hrun,by simpa using hown,⟨rfl,rfl,rfl,aA _,fun _ _ _=>rfl⟩,fun g hg=> .inl hg⟩
 ·obtain⟨ad,rfl,hcells⟩ : ∃ad,Fa=some ad∧∀j u,news[j]? = some u->w.cell? (ad.add j)=some u:=by
   rcases hr with rfl|⟨b,o,rfl,_,hc⟩
   ·cases Fa with
    | none=>exact absurd rfl hm
    | some ad=>exact⟨ad,rfl,by simp⟩
   ·exact⟨_,rfl,fun j u hj=>by rw [add0];exact hc j u hj⟩
  have main : ∀B,Own w B E i.size oa k c xs->B<=w.heap.size->∃qy c' w',(Builtin.append_ #[t,t] ty #[.slice oa k c, .slice (some ad) m c2]).run P w = .ok (.slice qy (k+m) c') w'∧Own w' B E i.size qy (k+m) c' (xs++news)∧w.grownBy w' (ownB oa):=by
   intro B hown hB
   obtain⟨v',w',hrun,ho,hg,_⟩:=run_append_own (P:=P) w B t ty E i z i.size qY ht hi hz1 rfl hb' hzc hsz' (.slice oa k c) k xs hown ad m c2 news hl hcells h1 hlen hbytes hB
   rw [Cc]at hg
   obtain⟨qy,c',rfl⟩ : ∃qy c',v' = .slice qy (k+m) c':=by
    rcases ho.2 with ⟨h,h0⟩|⟨g,cap,cur,h,_⟩
    ·exact⟨none,0,by rw [h,h0]⟩
    ·exact⟨_,cap,h⟩
   exact⟨qy,c',w',hrun,ho,hg⟩
  have up : ∀ {w':World} {B:Nat} {qy:Option Addr} {k' c':Nat} {ys:List Value},Own w' B E i.size qy k' c' ys->Own w' 0 E i.size qy k' c' ys:=fun h=>⟨h.1,h.2.imp id fun⟨g,cap,cur,h1,_,h2⟩=>⟨g,cap,cur,h1,au _,h2⟩⟩
  rcases hown.2 with ⟨hv,h0⟩|⟨g,cap,cur,hv,hg0,hh,hle,hcm,hcs,htk⟩
  ·injection hv with e1 e2 e3
   subst e1;subst e2;subst e3
   obtain⟨qy,c',w',r1,r2,r3⟩:=main w.heap.size ⟨hown.1, .inl ⟨rfl,rfl⟩⟩ (aA _)
   exact⟨qy,c',w',r1,up r2,r3,fun g hg=> .inr (r2.ge g hg).1⟩
  ·injection hv with e1 e2 e3
   subst e1;subst e3
   obtain⟨qy,c',w',r1,r2,r3⟩:=main 0 hown (au _)
   refine⟨qy,c',w',r1,r2,r3,fun g' hg'=> ?_⟩
   by_cases hroom:k+m<=c
   ·have hfit:k*i.size+news.length<=cur.size:=by rw [hl,hcs, <-bJ];exact aX _ hroom
    have hr2:=run_append_room (P:=P) w t ty E i ht hi g k c cur hh ad m c2 news hl hcells h1 hroom hfit
    rw [r1]at hr2
    injection hr2 with hr2 _
    injection hr2 with hr2 _ _
    rw [hr2]at hg'
    exact .inl hg'
   ·have holds : ∀j u,xs[j]? = some u->w.cell? ((⟨g,0,none⟩:Addr).add j)=some u:=World.ownsRow.cells (h:=hown) (g:=g) rfl
    have hsmall:k+m<=9223372036854775807:=by simp only [maxLen]at hlen;omega
    have hr2:=run_append_grow (P:=P) w t ty E i z ht hi hz1 ⟨g,0,none⟩ k c xs hown.1 holds ad m c2 news hl hcells (by omega) (by omega) (growslice_fits (by omega) (by rw [hb'];exact hbytes))
    rw [r1]at hr2
    injection hr2 with hr2 _
    injection hr2 with hr2 _ _
    rw [hr2]at hg'
    simp only [ownB,bU,aN]at hg'
    exact .inr (by omega)
theorem O9 {t ty E:TypeId}{sz qY m c2:Nat}{oa Fa:Option Addr}{news zs:List Value}
  (ht:P.underlying t=some (.slice E)) (hs:szB P E=some sz) (hby:qG P E=some qY) (hz:xH P E=some zs) (hzl:zs.length=sz) (hsz:Nat.ble 1 sz=true)
  (hr:Row w Fa news) (hl:news.length=m*sz) (h1 : ∀u∈news,u.oneCell'=true) (hnil:Fa=none->c2=0)
  (hbytes:m*qY<=140737488355328) (hlen:m<=maxLen) :
  ∃v' w',(Builtin.append_ #[t,t] ty #[.slice oa 0 0, .slice Fa m c2]).run P w = .ok v' w'∧((m=0∧v' = .slice oa 0 0∧w'=w)∨
   ∃qy c',v' = .slice qy m c'∧Own w' 0 E sz qy m c' news∧w.grownBy w' none∧∀g,ownB qy=some g->w.heap.size<=g):=by
 have hz1:0<sz:=aP hsz
 cases oa with
 | none=>
  obtain⟨qy,c',w',r1,r2,r3,r4⟩:=xI (P:=P) (w:=w) (ty:=ty) (k:=0) (c:=0) (oa:=none) (xs:= []) (m:=m) (c2:=c2) ht hs hby hz hzl hsz (Own.nil w 0 E sz) hr hl h1 hnil (by rw [aV];exact hbytes) (by rw [aV];exact hlen)
  rw [aV]at r1 r2
  exact⟨_,_,r1, .inr ⟨qy,c',rfl,by simpa using r2,r3,fun g hg=>(r4 g hg).elim (fun e=>by simp [ownB]at e) id⟩⟩
 | some a=>
  obtain⟨i,hi,rfl⟩:=qJ hs
  rcases cO m with h0|h0
  ·subst h0
   have hn:news = []:=aI (by simpa using hl)
   subst hn
   refine⟨.slice (some a) 0 0,w, ?_, .inl ⟨rfl,rfl,rfl⟩⟩
   cases Fa<;>simp [Builtin.append_,run_underlying ht,sizeOf,typeInfo,hi,Builtin.lenOf,Builtin.firstCells,loadCells,loadCellsFrom,storeCells]
  ·have hb':i.bytes=qY:=by simpa [qG,hi]using hby
   obtain⟨z,hz1',hz2⟩ : ∃z,i.zero=some z∧z.cells.toList=zs:=by
    unfold xH at hz
    simp only [hi,fU]at hz
    cases hzz:i.zero with
    | none=>simp [hzz]at hz
    | some z=>simp only [hzz,bU,aN]at hz;exact⟨z,rfl,hz⟩
   have hzc:z.cells.size=i.size:=by rw [<-hz2]at hzl;simpa using hzl
   obtain⟨ad,rfl,hcells⟩ : ∃ad,Fa=some ad∧∀j u,news[j]? = some u->w.cell? (ad.add j)=some u:=by
    rcases hr with rfl|⟨b,o,rfl,_,hc⟩
    ·have:=lC h0 hz1;simp at hl;omega
    ·exact⟨_,rfl,fun j u hj=>by rw [add0];exact hc j u hj⟩
   have hr1:=run_append_grow (P:=P) w t ty E i z ht hi hz1' a 0 0 [] (by simp) (by simp) ad m c2 news hl hcells (by omega) (by simp only [maxLen]at hlen;omega) (growslice_fits (by omega) (by rw [hb',aV];exact hbytes))
   obtain⟨qy,c',w',r1,r2,r3,r4⟩:=xI (P:=P) (w:=w) (ty:=ty) (k:=0) (c:=0) (oa:=none) (xs:= []) (m:=m) (c2:=c2) ht hs hby hz hzl hsz (Own.nil w 0 E i.size) (.inr (by
    rcases hr with rfl|h
    ·have:=lC h0 hz1;simp at hl;omega
    ·exact h)) hl h1 hnil (by rw [aV];exact hbytes) (by rw [aV];exact hlen)
   have hr2:=run_append_nil (P:=P) w t ty E i z ht hi hz1' ad m c2 news hl hcells (by omega) (by simp only [maxLen]at hlen;omega) (by rw [hb'];omega)
   rw [aV]at r1 r2
   rw [hr2]at r1
   injection r1 with e1 e2
   simp only [aV]at hr1
   have e3:(([]:List Value).toArray++news.toArray++Builtin.zeroCells z.cells (grownCap w m 0 E-m))=news.toArray++Builtin.zeroCells z.cells (grownCap w m 0 E-m):=by simp
   rw [e3,e1,e2]at hr1
   exact⟨_,_,hr1, .inr ⟨qy,c',rfl,by simpa using r2,r3,fun g hg=>(r4 g hg).elim (fun e=>by simp [ownB]at e) id⟩⟩
theorem St.move (st:St G lY mG mJ n σ F H w){w':World}{mV:Nat}{blk:oZ}(hk:look H mV=some blk)(hm:blk.own=true)(hos:w'.os=w.os)(htp:w'.tape=w.tape)(hou:w'.output=w.output)(hsz:w.heap.size<=w'.heap.size)
  (hg : ∀k,k<w.heap.size->(σ mV).b≠some k->w'.heap[k]? = w.heap[k]?) (L:Loc) (hL : ∀g,L.b=some g->g<w'.heap.size∧((σ mV).b=some g∨w.heap.size<=g)) (blk':oZ)
  (hblk:Ext n σ F w (n+1) (yU σ n L) F w'->vU (n+1) (yU σ n L) F w' L blk') (hfl:blk'.flat=true:=by rfl):St G lY mG mJ (n+1) (yU σ n L) F ((n,blk')::RP H mV) w'∧Ext n σ F w (n+1) (yU σ n L) F w':=by
 have old : ∀b,(σ mV).b=some b->¬F b∧G.nb<=b∧b<w.heap.size∧(mG b∨lY.heap.size<=b):=fun b hb=>st.mu mV blk b hk hm (.inl hb)
 have bk : ∀ {k b g'},k≠mV->look H k=some b->b.own=true->rY w' (σ k) b g'->rY w (σ k) b g':=fun hne h hm' hg'=>hg'.back fun x hx=>hg x (st.mu _ _ x h hm' (.inl hx)).2.2.1 fun e=>hne (st.inj _ mV _ blk x h hk hm' hm (.inl hx) (.inl e))
 have hE:Ext n σ F w (n+1) (yU σ n L) F w':=⟨by omega,fun k hk=>oP (by omega),fun b hb=>⟨hb,hg b (st.oW b hb).1 fun e=>(old b e).1 hb⟩,hsz⟩
 have hnb:=st.glob.1
 have hw0:=st.qM.size
 refine⟨⟨Glob.qM st.glob hsz fun b hb=>hg b (by omega) fun e=>by have:=(old b e).2.1;omega,st.qM.trans (M':=fun b=>(σ mV).b=some b) ⟨hos,htp,hou,hsz,fun k h1 h2=>hg k h1 h2⟩ (fun b hb=>(old b hb).2.2.2),fun b hb=>⟨bg (st.oW b hb).1 hsz,(st.oW b hb).2⟩,fun k b h=> ?_,fun k b g h hm' hg'=> ?_,fun k k' b b' g h h' hm1 hm2 hg1 hg2=> ?_,fun k b h=> ?_⟩,hE⟩
 ·rw [nG]at h
  split at h
  ·omega
  ·have:=st.lab k b (rJ h).2;omega
 ·rw [nG]at h
  split at h
  ·rename_i e
   subst e
   injection h with h
   subst h
   rw [og]at hg'
   obtain⟨h1,h2⟩:=hL g (hg'.flat hfl)
   rcases h2 with h2|h2
   ·exact⟨(old g h2).1,(old g h2).2.1,h1,(old g h2).2.2.2⟩
   ·exact⟨fun hf=>by have:=(st.oW g hf).1;omega,by omega,h1, .inr (by omega)⟩
  ·obtain⟨hne,h⟩:=rJ h
   have hl:=st.lab k b h
   rw [oP (by omega)]at hg'
   have hg':=bk hne h hm' hg'
   obtain⟨h1,h2,h3,h4⟩:=st.mu k b g h hm' hg'
   exact⟨h1,h2,bg h3 hsz,h4⟩
 ·have cross : ∀ {x:Nat} {c:oZ},look (RP H mV) x=some c->c.own=true->rY w' (yU σ n L x) c g->L.b=some g->False:=by
   intro x c hx hc hgx hLg
   obtain⟨x1,x2⟩:=rJ hx
   have hl:=st.lab x c x2
   rw [oP (by omega)]at hgx
   have hgx:=bk x1 x2 hc hgx
   rcases(hL g hLg).2 with e|e
   ·exact x1 (st.inj x mV c blk g x2 hk hc hm hgx (.inl e))
   ·have:=(st.mu x c g x2 hc hgx).2.2.1;omega
  rw [nG]at h h'
  split at h
  ·rename_i e
   subst e
   injection h with h
   subst h
   rw [og]at hg1
   split at h'
   ·rename_i e';exact e'
   ·exact(cross h' hm2 hg2 (hg1.flat hfl)).elim
  ·split at h'
   ·rename_i e'
    subst e'
    injection h' with h'
    subst h'
    rw [og]at hg2
    exact(cross h hm1 hg1 (hg2.flat hfl)).elim
   ·obtain⟨n1,h⟩:=rJ h
    obtain⟨n2,h'⟩:=rJ h'
    have hl:=st.lab k b h
    have hl':=st.lab k' b' h'
    rw [oP (by omega)]at hg1 hg2
    exact st.inj k k' b b' g h h' hm1 hm2 (bk n1 h hm1 hg1) (bk n2 h' hm2 hg2)
 ·rw [nG]at h
  split at h
  ·rename_i e
   subst e
   injection h with h
   subst h
   rw [og]
   exact hblk hE
  ·obtain⟨h1,h⟩:=rJ h
   have hl:=st.lab k b h
   rw [oP (by omega)]
   exact(st.blk k b h).mono hE fun hm' g hg'=>hg g (st.mu k b g h hm' hg').2.2.1 fun e=>h1 (st.inj k mV b blk g h hk hm' hm hg' (.inl e))
theorem MN {t sz c m:Nat}{oa:Option Addr}{xs:List Value}(hO:Own w 0 t sz oa m c xs):(oa.map (·.block)).map (fun g=>(⟨g,0,none⟩:Addr))=oa:=by
 rcases hO.2 with ⟨hv,h0⟩|⟨g,cap,cur,hv,_⟩
 ·injection hv with e _ _;subst e;rfl
 ·injection hv with e _ _;subst e;rfl
theorem Ag {t sz c m:Nat}{oa:Option Addr}{xs:List Value}{l:List (List FV)}(hO:Own w 0 t sz oa m c xs)(hm:m=l.length)(hR:qA F w sz l xs):vU n σ F w ⟨oa.map (·.block),m,c,sz⟩ (.rows t sz l):=by
 refine⟨rfl,hm,xs, ?_,hR⟩
 have:(Loc.mk (oa.map (·.block)) m c sz).oa=oa:=MN hO
 rw [this, <-hm];exact hO
theorem Es {t sz c m:Nat}{oa:Option Addr}{xs:List Value}{w':World}(hO:Own w' 0 t sz oa m c xs):nI (n+1) (yU σ n ⟨oa.map (·.block),m,c,sz⟩) F w' (.own n) (.slice oa m c):=by
 have:=nI.own (n:=n+1) (σ:=yU σ n ⟨oa.map (·.block),m,c,sz⟩) (F:=F) (w:=w') n (by omega)
 rw [og]at this
 have e:(Loc.mk (oa.map (·.block)) m c sz).oa=oa:=MN hO
 rw [e]at this
 exact this
theorem Ik {t sz c m:Nat}{oa:Option Addr}{xs:List Value}{w':World}(hO:Own w' 0 t sz oa m c xs){g:Nat}(h:oa.map (·.block)=some g):g<w'.heap.size:=(hO.ge g h).2
theorem Il {ts:List TypeId}{as:List AV}{vs:List Value}{ty:TypeId}{K:AV->Nat->lM->Prop}(h:Ic P ts as n H K)(st:St G lY mG mJ n σ F H w)(r:nX n σ F w as vs) :
  nZ P (Builtin.append_ ts.toArray ty vs.toArray) w (O7 G lY mG mJ n σ F w K):=by
 unfold Ic at h
 split at h
 ·rename_i t t' d s
  obtain⟨vd,vs',rfl,rd,rs⟩ : ∃v1 v2,vs = [v1,v2]∧nI n σ F w d v1∧nI n σ F w s v2:=by
   match vs,r with
   | [v1,v2],r=>exact⟨v1,v2,rfl,r.1,r.2.1⟩
  cases hb:Nat.beq t t' with
  | false=>rw [hb]at h;exact h.elim
  | true=>
   rw [hb,cond_true]at h
   have:=aF hb
   subst this
   split at h
   ·rename_i E hu
    split at h
    ·rename_i sz qY zs hs hby hz
     cases hc:(Nat.beq zs.length sz&&Nat.ble 1 sz)with
     | false=>rw [hc]at h;exact h.elim
     | true=>
      rw [hc,cond_true]at h
      simp only [aB]at hc
      have hzl:=aF hc.1
      split at h
      ·rename_i sz' m hsrc
       cases hd:Nat.beq sz sz' with
       | false=>rw [hd]at h;exact h.elim
       | true=>
        rw [hd,cond_true]at h
        have:=aF hd
        subst this
        have src : ∃oa k c news,vs' = .slice oa k c∧k=m.length∧(oa=none->c=0)∧Row w oa news∧qA F w sz m news:=by
         split at hsrc
         ·simp only [aN,gJ]at hsrc
          obtain⟨_,rfl⟩:=hsrc
          exact⟨none,0,0,[],rs.oJ,rfl,fun _=>rfl,Row.nil _ _,qA.nil sz⟩
         ·obtain⟨oa,k,c,news,h1,h2,_,h4,h5,h6⟩:=Ui hsrc st rs
          exact⟨oa,k,c,news,h1,h2,h4,h5,h6⟩
        obtain⟨Fa,k2,c2,news,rfl,hk2,hnil,hrow,hR⟩:=src
        subst hk2
        split at h
        ·rw [rd.oJ]
         obtain⟨hq1,hq2⟩:=h.req
         obtain⟨qy,c',w',r1,r2,r3,r4⟩:=xI (P:=P) (ty:=ty) (k:=0) (c:=0) (oa:=none) (xs:= []) (m:=m.length) (c2:=c2) hu hs hby hz hzl hc.2 (Own.nil w 0 E sz) hrow hR.2.1 hR.2.2.1 hnil (by rw [aV];exact hq1) (by rw [aV];exact hq2)
         rw [aV]at r1 r2
         simp only [dO]at r2
         have hE0 : ∀b,F b->F b∧w'.heap[b]? = w.heap[b]? :=fun b hb=>⟨hb,r3.block b (st.oW b hb).1 (by simp [ownB])⟩
         obtain⟨s2,x2⟩:=st.new (w':=w') ⟨r3.os,r3.tape,r3.output,r3.size,fun k hk _=>r3.block k hk (by simp [ownB])⟩ ⟨qy.map (fun x:Addr=>x.block),m.length,c',sz⟩
          (fun g hg=>⟨(r4 g hg).elim (fun e=>by simp [ownB]at e) id,Ik r2 hg⟩) (.rows E sz m) (Ag r2 rfl (hR.mono hE0))
         exact⟨_,_,r1,_,_,_,_,_,h.go,s2,x2,Es r2⟩
        ·rename_i l
         split at h
         ·rename_i E' RV rr hk
          cases he:(Nat.beq E E'&&Nat.beq sz RV)with
          | false=>rw [he]at h;exact h.elim
          | true=>
           rw [he,cond_true]at h
           simp only [aB]at he
           have e1:=aF he.1
           have e2:=aF he.2
           subst e1;subst e2
           obtain⟨hq1,hq2⟩:=h.req
           obtain⟨q1,q2,xs,hO,hRx⟩:=st.blk _ _ hk
           have hob:ownB (σ l).oa=(σ l).b:=by
            unfold ownB Loc.oa
            cases (σ l).b<;>rfl
           cases rd with
           | tC _ oa hl hn hc0=>
            rw [hn]at q2
            have hr0:rr = []:=aI q2.symm
            subst hr0
            rw [dO]at h
            simp only [fK,aV]at hq1 hq2
            obtain⟨v',w',r1,r2⟩:=O9 (P:=P) (ty:=ty) (oa:=oa) (c2:=c2) hu hs hby hz hzl hc.2 hrow hR.2.1 hR.2.2.1 hnil hq1 hq2
            rcases r2 with ⟨hm0,rfl,ew⟩|⟨qy,c',rfl,r2,r3,r4⟩
            ·have hm1:m = []:=aI hm0
             subst hm1
             rw [ew]at r1
             obtain⟨s2,x2⟩:=(st.drop l).new (w':=w) (AZ.refl _ _) ⟨none,0,0,sz⟩ (fun g hg=>by cases hg) (.rows E sz []) ⟨rfl,rfl,[],Own.nil _ _ _ _,qA.nil sz⟩
             exact⟨_,_,r1,_,_,_,_,_,h.go,s2,x2, .tC n oa (by omega) (by rw [og]) (by rw [og])⟩
            ·have hE0 : ∀b,F b->F b∧w'.heap[b]? = w.heap[b]? :=fun b hb=>⟨hb,r3.block b (st.oW b hb).1 (by simp)⟩
             obtain⟨s2,x2⟩:=(st.drop l).new (w':=w') ⟨r3.os,r3.tape,r3.output,r3.size,fun k hk _=>r3.block k hk (by simp)⟩ ⟨qy.map (fun x:Addr=>x.block),m.length,c',sz⟩
              (fun g hg=>⟨r4 g hg,Ik r2 hg⟩) (.rows E sz m) (Ag r2 rfl (hR.mono hE0))
             exact⟨_,_,r1,_,_,_,_,_,h.go,s2,x2,Es r2⟩
           | own _ hl=>
            rw [q2]
            obtain⟨qy,c',w',r1,r2,r3,r4⟩:=xI (P:=P) (ty:=ty) (m:=m.length) (c2:=c2) hu hs hby hz hzl hc.2 hO hrow hR.2.1 hR.2.2.1 hnil hq1 hq2
            have hg3 : ∀k,k<w.heap.size->(σ l).b≠some k->w'.heap[k]? = w.heap[k]? :=fun k hk hn=>r3.block k hk (by rw [hob];exact fun e=>hn e.symm)
            have hE0 : ∀b,F b->F b∧w'.heap[b]? = w.heap[b]? :=fun b hb=>⟨hb,hg3 b (st.oW b hb).1 fun e=>(st.mu l _ b hk rfl (.inl e)).1 hb⟩
            obtain⟨s2,x2⟩:=st.move (w':=w') hk rfl r3.os r3.tape r3.output r3.size hg3 ⟨qy.map (·.block),rr.length+m.length,c',sz⟩
             (fun g hg=>⟨Ik r2 hg,by have:=r4 g hg;rw [hob]at this;exact this⟩) (.rows E sz (rr++m)) (fun _=>Ag r2 (by rw [ak]) ((hRx.mono hE0).append (hR.mono hE0)))
            exact⟨_,_,r1,_,_,_,_,_,h.go,s2,x2,Es r2⟩
         ·cases h
        ·cases h
      ·cases h
    ·cases h
   ·cases h
 ·cases h
theorem CO {t u ty E:TypeId}{k c:Nat}{oa:Option Addr}{xs:List Value}{s:ByteArray}
  (ht:P.underlying t=some (.slice E)) (hu:P.underlying u=some .string) (hs:szB P E=some 1) (hby:qG P E=some 1) (hz:(P.info? E).bind (·.zero)=some (.int .u8 0))
  (hown:Own w 0 E 1 oa k c xs) (hbytes:k+s.size<=140737488355328) (hlen:k+s.size<=maxLen) :
  ∃qy c' w',(Builtin.append_ #[t,u] ty #[.slice oa k c, .string s]).run P w = .ok (.slice qy (k+s.size) c') w'∧Own w' 0 E 1 qy (k+s.size) c' (xs++strCells s)∧w.grownBy w' (ownB oa)∧(∀g,ownB qy=some g->ownB oa=some g∨w.heap.size<=g):=by
 obtain⟨i,hi,hi1⟩:=qJ hs
 have hb':i.bytes=1:=by simpa [qG,hi]using hby
 have hz1:i.zero=some (.int .u8 0):=by simpa [hi]using hz
 have main : ∀B,Own w B E 1 oa k c xs->B<=w.heap.size->∃qy c' w',(Builtin.append_ #[t,u] ty #[.slice oa k c, .string s]).run P w = .ok (.slice qy (k+s.size) c') w'∧Own w' B E 1 qy (k+s.size) c' (xs++strCells s)∧w.grownBy w' (ownB oa):=by
  intro B hown hB
  obtain⟨v',w',hrun,ho,hg,_⟩:=run_append_own_string (P:=P) w B t u ty E i ht hu hi hz1 hi1 hb' (.slice oa k c) k xs hown s hlen hbytes hB
  rw [Cc]at hg
  obtain⟨qy,c',rfl⟩ : ∃qy c',v' = .slice qy (k+s.size) c':=by
   rcases ho.2 with ⟨h,h0⟩|⟨g,cap,cur,h,_⟩
   ·exact⟨none,0,by rw [h,h0]⟩
   ·exact⟨_,cap,h⟩
  exact⟨qy,c',w',hrun,ho,hg⟩
 have up : ∀ {w':World} {B:Nat} {qy:Option Addr} {k' c':Nat} {ys:List Value},Own w' B E 1 qy k' c' ys->Own w' 0 E 1 qy k' c' ys:=fun h=>⟨h.1,h.2.imp id fun⟨g,cap,cur,h1,_,h2⟩=>⟨g,cap,cur,h1,au _,h2⟩⟩
 rcases hown.2 with ⟨hv,h0⟩|⟨g,cap,cur,hv,hg0,hh,hle,hcm,hcs,htk⟩
 ·injection hv with e1 e2 e3
  subst e1;subst e2;subst e3
  obtain⟨qy,c',w',r1,r2,r3⟩:=main w.heap.size ⟨hown.1, .inl ⟨rfl,rfl⟩⟩ (aA _)
  exact⟨qy,c',w',r1,up r2,r3,fun g hg=> .inr (r2.ge g hg).1⟩
 ·injection hv with e1 e2 e3
  subst e1;subst e3
  obtain⟨qy,c',w',r1,r2,r3⟩:=main 0 hown (au _)
  refine⟨qy,c',w',r1,r2,r3,fun g' hg'=> ?_⟩
  by_cases hroom:k+s.size<=c
  ·have hr2:=run_append_room_string (P:=P) w t u ty E i ht hu hi hi1 g k c cur hh s hroom (by rw [hcs];omega)
   rw [r1]at hr2
   injection hr2 with hr2 _
   injection hr2 with hr2 _ _
   rw [hr2]at hg'
   exact .inl hg'
  ·have holds : ∀j v,xs[j]? = some v->w.cell? ((⟨g,0,none⟩:Addr).add j)=some v:=World.ownsRow.cells (h:=hown) (g:=g) rfl
   have hr2:=run_append_grow_string (P:=P) w t u ty E i (.int .u8 0) ht hu hi hz1 ⟨g,0,none⟩ k c xs (by rw [hi1];exact hown.1) holds s (by omega) (by simp only [maxLen]at hlen;omega) (by rw [hb'];exact growslice_fits (by omega) (by omega))
   rw [r1]at hr2
   injection hr2 with hr2 _
   injection hr2 with hr2 _ _
   rw [hr2]at hg'
   simp only [ownB,bU,aN]at hg'
   exact .inr (by omega)
theorem MO {t u ty E:TypeId}{oa:Option Addr}{s:ByteArray}
  (ht:P.underlying t=some (.slice E)) (hu:P.underlying u=some .string) (hs:szB P E=some 1) (hby:qG P E=some 1) (hz:(P.info? E).bind (·.zero)=some (.int .u8 0))
  (hbytes:s.size<=140737488355328) (hlen:s.size<=maxLen) :
  ∃v' w',(Builtin.append_ #[t,u] ty #[.slice oa 0 0, .string s]).run P w = .ok v' w'∧((s.size=0∧v' = .slice oa 0 0∧w'=w)∨
   ∃qy c',v' = .slice qy s.size c'∧Own w' 0 E 1 qy s.size c' (strCells s)∧w.grownBy w' none∧∀g,ownB qy=some g->w.heap.size<=g):=by
 obtain⟨qy,c',w',r1,r2,r3,r4⟩:=CO (P:=P) (w:=w) (t:=t) (u:=u) (ty:=ty) (k:=0) (c:=0) (oa:=none) (xs:= []) (s:=s) ht hu hs hby hz (Own.nil w 0 E 1) (by rw [aV];exact hbytes) (by rw [aV];exact hlen)
 rw [aV]at r1 r2
 cases oa with
 | none=>exact⟨_,_,r1, .inr ⟨qy,c',rfl,by simpa using r2,r3,fun g hg=>(r4 g hg).elim (fun e=>by simp [ownB]at e) id⟩⟩
 | some a=>
  obtain⟨i,hi,hi1⟩:=qJ hs
  have hb':i.bytes=1:=by simpa [qG,hi]using hby
  have hz1:i.zero=some (.int .u8 0):=by simpa [hi]using hz
  rcases cO s.size with h0|h0
  ·refine⟨.slice (some a) 0 0,w, ?_, .inl ⟨h0,rfl,rfl⟩⟩
   have hn:strCells s = []:=aI (by rw [strCells_length];exact h0)
   have hf:=run_firstCells_string (P:=P) w i.size s
   rw [hn,h0]at hf
   simp [Builtin.append_,run_underlying ht,run_underlying hu,sizeOf,typeInfo,hi,Builtin.lenOf,h0,hf,storeCells]
  ·have hr1:=run_append_grow_string (P:=P) w t u ty E i (.int .u8 0) ht hu hi hz1 a 0 0 [] (by simp) (by simp) s (by omega) (by simp only [maxLen]at hlen;omega) (by rw [hb'];exact growslice_fits (by omega) (by omega))
   have hr2:=run_append_nil_string (P:=P) w t u ty E i (.int .u8 0) ht hu hi hz1 s (by omega) (by simp only [maxLen]at hlen;omega) (by rw [hb'];omega)
   have e1:(s.data.map fun b=>Value.int .u8 b.toNat)=(strCells s).toArray:=by
    apply jo
    simp [strCells]
   rw [e1,r1]at hr2
   injection hr2 with e1 e2
   simp only [aV,dO,Array.empty_append]at hr1
   rw [<-e1, <-e2]at hr1
   exact⟨_,_,hr1, .inr ⟨qy,c',rfl,by simpa using r2,r3,fun g hg=>(r4 g hg).elim (fun e=>by simp [ownB]at e) id⟩⟩
theorem Uj (s:ByteArray):qA F w 1 (s.data.toList.map oh) (strCells s):=by
 have hl:(strCells s).length=s.size:=strCells_length s
 refine⟨fun row hr=>by obtain⟨x,_,rfl⟩:=eP.1 hr;rfl,by rw [hl,ah];simp,strCells_oneCell s,fun i j row a v hi hj hv=> ?_⟩
 rw [aU]at hi
 cases hc:s.data.toList[i]? with
 | none=>rw [hc]at hi;cases hi
 | some x=>
  rw [hc]at hi
  simp only [bU,aN]at hi
  subst hi
  cases j with
  | succ j=>simp [oh]at hj
  | zero=>
   simp only [oh,bW,aN]at hj
   subst hj
   rw [fO,dS]at hv
   have:v = .int .u8 (x.toNat:Int):=by
    unfold strCells at hv
    rw [aU,hc]at hv
    simpa using hv.symm
   rw [this];exact .v _
theorem Fp {t t' ty:TypeId}{d:AV}{x:ByteArray}{vd:Value}{K:AV->Nat->lM->Prop}(h:OZ P t t' d x n H K)(st:St G lY mG mJ n σ F H w)(rd:nI n σ F w d vd) :
  nZ P (Builtin.append_ #[t,t'] ty #[vd, .string x]) w (O7 G lY mG mJ n σ F w K):=by
 unfold OZ at h
 split at h
 ·rename_i E l hu hu'
  split at h
  ·rename_i sz qY hs hby
   split at h
   ·rename_i E' sz' rr hk
    cases hc:(Nat.beq sz 1&&Nat.beq qY 1&&OY P E&&Nat.beq E E'&&Nat.beq sz sz')with
    | false=>rw [hc]at h;exact h.elim
    | true=>
     rw [hc,cond_true]at h
     simp only [aB]at hc
     obtain⟨⟨⟨⟨c1,c2⟩,c3⟩,c4⟩,c5⟩:=hc
     have c1:=aF c1
     have c2:=aF c2
     have c4:=aF c4
     have c5:=aF c5
     subst c1;subst c2;subst c4;subst c5
     have hz:(P.info? E).bind (·.zero)=some (.int .u8 0):=by
      unfold OY at c3
      split at c3
      ·rename_i m hm;rw [hm,of_decide_eq_true c3]
      ·cases c3
     obtain⟨hq1,hq2⟩:=h.req
     obtain⟨q1,q2,xs,hO,hRx⟩:=st.blk _ _ hk
     have hob:ownB (σ l).oa=(σ l).b:=by
      unfold ownB Loc.oa
      cases (σ l).b<;>rfl
     have hxl:(x.data.toList.map oh).length=x.size:=by simp
     cases rd with
     | tC _ oa hl hn hc0=>
      rw [hn]at q2
      have hr0:rr = []:=aI q2.symm
      subst hr0
      rw [dO]at h
      simp only [fK,aV]at hq1 hq2
      obtain⟨v',w',r1,r2⟩:=MO (P:=P) (t:=t) (u:=t') (ty:=ty) (oa:=oa) (s:=x) hu hu' hs hby hz hq1 hq2
      rcases r2 with ⟨hm0,rfl,ew⟩|⟨qy,c',rfl,r2,r3,r4⟩
      ·have hm1:x.data.toList.map oh = []:=aI (by rw [hxl];exact hm0)
       rw [hm1]at h
       rw [ew]at r1
       obtain⟨s2,x2⟩:=(st.drop l).new (w':=w) (AZ.refl _ _) ⟨none,0,0,1⟩ (fun g hg=>by cases hg) (.rows E 1 []) ⟨rfl,rfl,[],Own.nil _ _ _ _,qA.nil 1⟩
       exact⟨_,_,r1,_,_,_,_,_,h.go,s2,x2, .tC n oa (by omega) (by rw [og]) (by rw [og])⟩
      ·obtain⟨s2,x2⟩:=(st.drop l).new (w':=w') ⟨r3.os,r3.tape,r3.output,r3.size,fun k hk _=>r3.block k hk (by simp)⟩ ⟨qy.map (fun x:Addr=>x.block),x.size,c',1⟩
        (fun g hg=>⟨r4 g hg,Ik r2 hg⟩) (.rows E 1 (x.data.toList.map oh)) (Ag r2 hxl.symm (Uj x))
       exact⟨_,_,r1,_,_,_,_,_,h.go,s2,x2,Es r2⟩
     | own _ hl=>
      rw [q2]
      obtain⟨qy,c',w',r1,r2,r3,r4⟩:=CO (P:=P) (t:=t) (u:=t') (ty:=ty) (s:=x) hu hu' hs hby hz hO hq1 hq2
      have hg3 : ∀k,k<w.heap.size->(σ l).b≠some k->w'.heap[k]? = w.heap[k]? :=fun k hk hn=>r3.block k hk (by rw [hob];exact fun e=>hn e.symm)
      have hE0 : ∀b,F b->F b∧w'.heap[b]? = w.heap[b]? :=fun b hb=>⟨hb,hg3 b (st.oW b hb).1 fun e=>(st.mu l _ b hk rfl (.inl e)).1 hb⟩
      obtain⟨s2,x2⟩:=st.move (w':=w') hk rfl r3.os r3.tape r3.output r3.size hg3 ⟨qy.map (·.block),rr.length+x.size,c',1⟩
       (fun g hg=>⟨Ik r2 hg,by have:=r4 g hg;rw [hob]at this;exact this⟩) (.rows E 1 (rr++x.data.toList.map oh)) (fun _=>Ag r2 (by rw [ak,hxl]) ((hRx.mono hE0).append (Uj x)))
      exact⟨_,_,r1,_,_,_,_,_,h.go,s2,x2,Es r2⟩
   ·cases h
  ·cases h
 ·cases h
theorem aa8 : ∀ {k:Nat} {u:TypeId},aa3 P k=some u->P.underlying u=some .string:=by
 intro k
 induction k with
 | zero=>intro u h;cases h
 | succ k ih=>
  intro u h
  unfold aa3 at h
  split at h
  ·rename_i u' hu;injection h with h;subst h;exact ih hu
  ·split at h
   ·rename_i hk;injection h with h;subst h;exact hk
   ·cases h
theorem Pe (m:Nat):(strCells (vI m)).toArray=Builtin.zeroCells (Value.int .u8 0).cells m:=by
 apply Array.ext
 ·simp [strCells,vI,Builtin.zeroCells,Value.cells]
 ·intro i h1 h2
  simp [strCells,vI,Builtin.zeroCells,Value.cells,Nat.mod_one]
theorem aa9 {t u tn ty E:TypeId}{kn k:IntKind}{oa:Option Addr}{l c m:Nat}
  (ht:P.underlying t=some (.slice E)) (hu:P.underlying u=some .string) (htn:P.underlying tn=some (.int kn)) (hs:szB P E=some 1) (hby:qG P E=some 1) (hz:(P.info? E).bind (·.zero)=some (.int .u8 0))
  (hm:l+m<=140737488355328) :
  (Builtin.append_ #[t,tn] ty #[.slice oa l c, .int k (m:Int)]).run P w=(Builtin.append_ #[t,u] ty #[.slice oa l c, .string (vI m)]).run P w:=by
 obtain⟨i,hi,hi1⟩:=qJ hs
 have hb':i.bytes=1:=by simpa [qG,hi]using hby
 have hz1:i.zero=some (.int .u8 0):=by simpa [hi]using hz
 have hw:IntKind.i64.wrap (m:Int)=m:=by rw [IntKind.wrap_i64];omega
 have hneg : ¬((m:Int)<0):=by omega
 have h48 : ¬(281474976710656<(m:Int)):=by omega
 have hsz:(vI m).size=m:=by simp [vI,ByteArray.size]
 have hbig : ¬(9223372036854775807<((l:Int)+(m:Int))):=by omega
 have hfc : ∀w:World,(Builtin.firstCells 1 m (.string (vI m))).run P w = .ok (Builtin.zeroCells (Value.int .u8 0).cells m) w:=fun w=>by
  have:=run_firstCells_string (P:=P) w 1 (vI m)
  rw [hsz,Pe]at this
  exact this
 have hz0:m=0->Builtin.zeroCells (Value.int .u8 0).cells m = #[]:=fun h=>by subst h;simp [Builtin.zeroCells]
 have hfit : ¬(l+m<=c)->¬(281474976710656<Builtin.nextslicecap (l+m) c):=fun hg=>by
  have:=growslice_fits (need:=l+m) (old:=c) (bytes:=1) (by omega) (by omega)
  omega
 by_cases hroom:l+m<=c
 ·by_cases h0:m=0
  ·have h00:=hz0 h0
   subst h0
   have hw0:IntKind.i64.wrap 0=0:=rfl
   rw [h00]at hfc
   simp [Builtin.append_,run_underlying ht,run_underlying htn,run_underlying hu,sizeOf,typeInfo,zeroValue,hi,hz1,hi1,hb',asInt,asIntOf,Builtin.lenOf,hsz,hfc,hw0,show l<=c by omega]
  ·simp [Builtin.append_,run_underlying ht,run_underlying htn,run_underlying hu,sizeOf,typeInfo,zeroValue,hi,hz1,hi1,hb',asInt,asIntOf,Builtin.lenOf,hsz,hfc,hw,hneg,h48,h0,hbig,hroom]
 ·have hf:=hfit hroom
  by_cases h0:m=0
  ·have h00:=hz0 h0
   subst h0
   have hw0:IntKind.i64.wrap 0=0:=rfl
   rw [dS]at hf hroom hm
   have hl0 : ¬(9223372036854775807<(l:Int)):=by omega
   rw [h00]at hfc
   simp [Builtin.append_,run_underlying ht,run_underlying htn,run_underlying hu,sizeOf,typeInfo,zeroValue,hi,hz1,hi1,hb',asInt,asIntOf,Builtin.lenOf,hsz,hfc,hw0,h00,hroom,hf,hl0]
  ·simp [Builtin.append_,run_underlying ht,run_underlying htn,run_underlying hu,sizeOf,typeInfo,zeroValue,hi,hz1,hi1,hb',asInt,asIntOf,Builtin.lenOf,hsz,hfc,hw,hneg,h48,h0,hbig,hroom,hf]
theorem Pg {t t' ty:TypeId}{d:AV}{x:Int}{vd:Value}{k:IntKind}{K:AV->Nat->lM->Prop}(h:XI P t t' d x n H K)(st:St G lY mG mJ n σ F H w)(rd:nI n σ F w d vd) :
  nZ P (Builtin.append_ #[t,t'] ty #[vd, .int k x]) w (O7 G lY mG mJ n σ F w K):=by
 unfold XI at h
 split at h
 ·rename_i kn u hn hu
  obtain⟨m,mc,rfl,_,_,_,_,hk⟩:=h.ex
  obtain⟨v,w',hr,hK⟩:=(Fp (ty:=ty) hk st rd)
  have hsz:(vI m).size=m:=by simp [vI,ByteArray.size]
  unfold OZ at hk
  split at hk
  ·rename_i E l ht _
   split at hk
   ·rename_i sz qY hs hby
    split at hk
    ·rename_i E' sz' rr hl
     cases hc:(Nat.beq sz 1&&Nat.beq qY 1&&OY P E&&Nat.beq E E'&&Nat.beq sz sz')with
     | false=>rw [hc]at hk;exact hk.elim
     | true=>
      rw [hc,cond_true]at hk
      simp only [aB]at hc
      obtain⟨⟨⟨⟨c1,c2⟩,c3⟩,c4⟩,c5⟩:=hc
      have c1:=aF c1
      have c2:=aF c2
      subst c1;subst c2
      have hz:(P.info? E).bind (·.zero)=some (.int .u8 0):=by
       unfold OY at c3
       split at c3
       ·rename_i z hm;rw [hm,of_decide_eq_true c3]
       ·cases c3
      obtain⟨hq1,_⟩:=hk.req
      rw [hsz]at hq1
      obtain⟨_,q2,_⟩:=st.blk _ _ hl
      have key : ∀(oa:Option Addr) (n' c':Nat),n'<=rr.length->vd = .slice oa n' c'->nZ P (Builtin.append_ #[t,t'] ty #[vd, .int k (m:Int)]) w (O7 G lY mG mJ n σ F w K):=fun oa n' c' hn' e=>by
       subst e
       exact⟨v,w',(aa9 ht (aa8 hu) hn hs hby hz (by omega)).trans hr,hK⟩
      cases rd with
      | tC _ oa _ _ _=>exact key oa 0 0 (au _) rfl
      | own _ _=>exact key _ _ _ (by omega) rfl
    ·exact hk.elim
   ·exact hk.elim
  ·exact hk.elim
 ·cases h
theorem J4 {ts:List TypeId}{as:List AV}{vs:List Value}{ty:TypeId}{K:AV->Nat->lM->Prop}(h:Md P ts as n H K)(st:St G lY mG mJ n σ F H w)(r:nX n σ F w as vs) :
  nZ P (Builtin.append_ ts.toArray ty vs.toArray) w (O7 G lY mG mJ n σ F w K):=by
 unfold Md at h
 split at h
 ·rename_i t t' d x
  obtain⟨vd,rfl,rd⟩ : ∃vd,vs = [vd, .string x]∧nI n σ F w d vd:=by
   match vs,r with
   | [v1,v2],r=>exact⟨v1,by rw [r.2.1.oJ],r.1⟩
  exact Fp h st rd
 ·rename_i t t' d x
  obtain⟨vd,rfl,rd⟩ : ∃vd,vs = [vd, .int .i64 x]∧nI n σ F w d vd:=by
   match vs,r with
   | [v1,v2],r=>exact⟨v1,by rw [r.2.1.oJ],r.1⟩
  exact Pg h st rd
 ·exact Il h st r
theorem VU : ∀ {H:lM} {l:Nat} {b:oZ},look H l=some b->setH H l b=H:=by
 intro H
 induction H with
 | nil=>intro l b h;cases h
 | cons p r ih=>
  intro l b h
  unfold look at h
  unfold setH
  cases hb:Nat.beq p.1 l with
  | true=>
   rw [hb,cond_true]at h
   injection h with h
   rw [cond_true, <-h, <-aF hb]
  | false=>
   rw [hb,cond_false]at h
   rw [cond_false,ih h]
theorem Ph {α:Type}(cur cs:List α)(o L:Nat)(h:o+cs.length<=L)(hL:L<=cur.length):(cur.take o++cs++cur.drop (o+cs.length)).take L=(cur.take L).take o++cs++(cur.take L).drop (o+cs.length):=by
 have hA:(cur.take o++cs).length=o+cs.length:=by rw [ak,aK];omega
 rw [List.take_append,hA,dD (by omega),kE,gX,dW (by omega)]
theorem Pj {w:World}{g:Nat}{cs:Array Value} : Only g w (w.setRow g cs):=by
 refine⟨rfl,rfl,rfl,by simp [World.setRow],fun k hk=> ?_⟩
 simp only [World.setRow,iP]
 rw [if_neg (fun e=>hk e.symm)]
theorem Pm {ts:List TypeId}{as:List AV}{vs:List Value}{ty:TypeId}{K:AV->Nat->lM->Prop}(h:XK P ts as n H K)(st:St G lY mG mJ n σ F H w)(r:nX n σ F w as vs) :
  nZ P (Builtin.copy_ ts.toArray ty vs.toArray) w (O7 G lY mG mJ n σ F w K):=by
 unfold XK at h
 split at h
 ·rename_i t t' d s
  obtain⟨vd,vs',rfl,rd,rs⟩ : ∃v1 v2,vs = [v1,v2]∧nI n σ F w d v1∧nI n σ F w s v2:=by
   match vs,r with
   | [v1,v2],r=>exact⟨v1,v2,rfl,r.1,r.2.1⟩
  split at h
  ·rename_i E hu
   split at h
   ·rename_i sz l o k sz' xs hs hcp hsrc
    split at h
    ·rename_i T RV m hk
     cases hb:(Nat.beq sz 1&&(Nat.beq sz' 1&&Nat.beq RV 1))with
     | false=>rw [hb]at h;exact h.elim
     | true=>
      rw [hb,cond_true]at h
      simp only [aB]at hb
      obtain rfl:=aF hb.1
      obtain rfl:=aF hb.2.1
      obtain rfl:=aF hb.2.2
      obtain⟨i,hi,hi1⟩:=qJ hs
      have hs1:(P.info? E).map (·.size)=some 1:=by rw [hi];exact congrArg some hi1
      obtain⟨Fa,k2,c2,news,rfl,hk2,_,hnil,hrow,hR⟩:=Ui hsrc st rs
      subst hk2
      obtain⟨q1,q2,mv,hO,hRm⟩:=st.blk _ _ hk
      have dst : ∃oa c,vd = .slice oa k c∧o+k<=m.length∧(0<k->∃g,(σ l).b=some g∧oa=some ⟨g,o,none⟩):=by
       unfold aeO at hcp
       split at hcp
       ·rename_i l'
        split at hcp
        ·rename_i T' s' m' hk'
         simp only [aN,gJ]at hcp
         obtain⟨rfl,rfl,rfl⟩:=hcp
         rw [hk]at hk'
         injection hk' with hk'
         injection hk' with _ _ hk'
         subst hk'
         cases rd with
         | tC _ oa hl hn hc0=>
          rw [hn]at q2
          exact⟨oa,0,by rw [<-q2],by omega,fun h0=>by omega⟩
         | own _ hl=>
          refine⟨(σ l').oa,(σ l').c,by rw [q2],by omega,fun h0=> ?_⟩
          obtain⟨g,cur,hoa,_⟩:=hO.blk h0
          exact⟨g,yT hoa,hoa⟩
        ·cases hcp
       ·rename_i l' o' k'
        simp only [aN,gJ]at hcp
        obtain⟨rfl,rfl,rfl⟩:=hcp
        cases rd with
        | sub _ _ _ oa c hl hk1 hc hnil' ho=>
         refine⟨oa,c,rfl,by omega,fun h0=> ?_⟩
         obtain⟨b,hb1,hb2⟩:=ho h0
         rw [q1,fO]at hb2
         exact⟨b,hb1,hb2⟩
       ·cases hcp
      obtain⟨oa,c,rfl,hok,hdst⟩:=dst
      rcases cO (min xs.length k)with h0|h0
      ·rw [h0]at h
       have hrun:=run_copy_none (P:=P) w t t' ty E oa Fa k c xs.length c2 hu hs1 h0
       have e:splice m o (xs.take 0)=m:=by simp [splice]
       rw [e,VU hk]at h
       exact pI hrun ⟨.v (.int .i64 0),n,σ,F,H,h,st,Ext.refl n σ F w, .v _⟩
      ·obtain⟨g,hgb,rfl⟩:=hdst (by omega)
       obtain⟨g',cur,hoa,hg0,hB,hle,hcm,hcl,htk⟩:=hO.blk (by omega)
       have hgb':=yT hoa
       rw [hgb]at hgb'
       injection hgb' with hgb'
       subst hgb'
       rw [fO]at hcl htk
       have hnl:news.length=xs.length:=by have:=hR.2.1;rwa [fO]at this
       obtain⟨b2,o2,rfl,_,hcells⟩:=hrow.get (by omega)
       generalize hn0:min xs.length k=n0 at *
       have XU:(news.take n0).length=n0:=by rw [aK];omega
       have h1 : ∀v∈news.take n0,v.oneCell'=true:=fun v hv=>hR.2.2.1 v (fD hv)
       have hrun:=run_copy_row (P:=P) w t t' ty E g o k c ⟨b2,o2,none⟩ xs.length c2 cur.toArray T (news.take n0) hu hs1 hB (by rw [XU];exact hn0.symm) (fun j v hj=>by
        rw [add0]
        rw [bQ]at hj
        split at hj
        ·exact hcells j v hj
        ·cases hj) (by rw [XU];simp;omega) h1
       rw [XU]at hrun
       have hB':=setRow_heap w g cur.toArray (cur.take o++news.take n0++cur.drop (o+n0)).toArray T (0,0) hB
       have hxl:(xs.take n0).length=n0:=by rw [aK];omega
       have hsl:(splice m o (xs.take n0)).length=m.length:=by simp only [splice,hxl,ak,aK,aS];omega
       have p1:=hRm.part (i:=0) (j:=o) (by omega)
       have p2:=hR.part (i:=0) (j:=n0) (by omega)
       have p3:=hRm.part (i:=o+n0) (j:=m.length -(o+n0)) (by omega)
       simp only [fJ,dJ,fO]at p1 p2 p3
       have hmv:mv.length=m.length:=by have:=hRm.2.1;rwa [fO]at this
       rw [dD (by rw [aS];omega),dD (by rw [aS];omega)]at p3
       have hrep:qA F w 1 (splice m o (xs.take n0)) (mv.take o++news.take n0++mv.drop (o+n0)):=by
        unfold splice
        rw [hxl]
        exact(p1.append p2).append p3
       obtain⟨s2,x2⟩:=st.write (w':=w.setRow g (cur.take o++news.take n0++cur.drop (o+n0)).toArray) hk rfl hgb Pj (.rows T 1 (splice m o (xs.take n0))) fun _ hE=>⟨q1,by rw [hsl];exact q2,_,by
         rw [hoa,hsl]
         refine Own.Fe (xs:=mv.take o++news.take n0++mv.drop (o+n0)) hB' hg0 hle hcm ?_ ?_
         ·rw [fO];simp only [ak,aK,aS];omega
         ·rw [fO, <-htk]
          have:=Ph cur (news.take n0) o m.length (by rw [XU];omega) (by omega)
          rwa [XU]at this,hrep.mono hE.f⟩
       have e:goInt n0 = .int .i64 (n0:Int):=rfl
       exact pI hrun ⟨.v (.int .i64 (n0:Int)),n,σ,F,_,h,s2,x2,by rw [e];exact .v _⟩
    ·cases h
   ·cases h
  ·cases h
 ·cases h
theorem XV (zs:List Value):zk F w (zs.map .v) zs:=⟨by simp,fun j a v h1 h2=>by
 rw [aU,h2]at h1
 simp only [bU,aN]at h1
 rw [<-h1];exact .v _⟩
theorem Pn {zs:List Value}{sz:Nat}(hz:zs.length=sz)(h1 : ∀v∈zs,v.oneCell'=true) : ∀m:Nat,qA F w sz (List.replicate m (zs.map .v)) (List.replicate m zs).flatten:=by
 intro m
 induction m with
 | zero=>exact qA.nil sz
 | succ m ih=>rw [gu,gu,iK];exact .cons (XV zs) hz h1 ih
theorem XW {zs:List Value}{sz m mc:Nat}(hz:zs.length=sz)(h:m<=mc):(List.replicate mc zs).flatten.take (m*sz)=(List.replicate m zs).flatten:=by
 obtain⟨d,rfl⟩:=Nat.exists_eq_add_of_le h
 rw [<-jQ,List.flatten_append]
 have:m*sz=(List.replicate m zs).flatten.length:=by simp [hz]
 rw [this]
 exact iO
theorem Po {w:World}{K:Value->World->Prop}{t E:TypeId}{sz qY n m:Nat}{kl kc:IntKind}{zs:List Value}
  (ht:P.underlying t=some (.slice E)) (hs:szB P E=some sz) (hby:qG P E=some qY) (hz:xH P E=some zs) (hzl:zs.length=sz) (hsz:Nat.ble 1 sz=true)
  (hnm:n<=m) (hbytes:qY*m<=140737488355328) (hn:m<=maxLen)
  (k : ∀w',w'=w.alloc (.cells (List.replicate m zs).flatten.toArray E)->tu w' w.heap.size (List.replicate m zs).flatten E->K (.slice (some ⟨w.heap.size,0,none⟩) n m) w') :
  nZ P (Instr.makeSlice t (.int kl (n:Int)) (.int kc (m:Int))) w K:=by
 obtain⟨i,hi,rfl⟩:=qJ hs
 have hb':i.bytes=qY:=by simpa [qG,hi]using hby
 subst hb'
 obtain⟨z,hz1,hz2⟩ : ∃z,i.zero=some z∧z.cells.toList=zs:=by
  unfold xH at hz
  simp only [hi,fU]at hz
  cases hzz:i.zero with
  | none=>simp [hzz]at hz
  | some z=>simp only [hzz,bU,aN]at hz;exact⟨z,rfl,hz⟩
 have hsz':1<=i.size:=aP hsz
 have hzc:z.cells.size=i.size:=by rw [<-hz2]at hzl;simpa using hzl
 have h63:(m:Int)<=9223372036854775807:=by unfold maxLen at hn;omega
 have hbi:(i.bytes:Int)*(m:Int)<=281474976710656:=by
  rw [<-dN]
  omega
 have hrun:=run_make (P:=P) w t E i z ht hi hz1 kl kc n m (by omega) (by omega) hbi h63
 have hmc:madeCells z.cells (m*i.size)=(List.replicate m zs).flatten.toArray:=by
  rw [<-hz2, <-Ea z.cells m i.size hzc hsz']
  unfold madeCells
  rfl
 simp only [dh]at hrun
 rw [hmc]at hrun
 exact pI hrun (k _ rfl (by have:=tu.new w (List.replicate m zs).flatten.toArray E;simpa using this))
theorem Et {t:TypeId}{l c:AV}{vl vc:Value}{K:AV->Nat->lM->Prop}(h:Bz P t l c n H K)(st:St G lY mG mJ n σ F H w)(rl:nI n σ F w l vl)(rc:nI n σ F w c vc) :
  nZ P (Instr.makeSlice t vl vc) w (O7 G lY mG mJ n σ F w K):=by
 unfold Bz at h
 split at h
 ·rename_i k1 x k2 y
  rw [rl.oJ,rc.oJ]
  split at h
  ·rename_i E hu
   split at h
   ·rename_i sz qY zs hs hby hz
    cases hb:(Nat.beq zs.length sz&&Nat.ble 1 sz&&zs.all (·.oneCell'))with
    | false=>rw [hb]at h;exact h.elim
    | true=>
     rw [hb,cond_true]at h
     simp only [aB]at hb
     obtain⟨m,mc,rfl,rfl,hmc,hbm,hm,hk⟩:=h.ex
     have hzl:=aF hb.1.1
     have h1:=bP.1 hb.2
     refine Po hu hs hby hz hzl hb.1.2 hmc hbm hm fun w' hw hB=> ?_
     subst hw
     have hrz:=Pn (F:=F) (w:=w.alloc (.cells (List.replicate mc zs).flatten.toArray E)) hzl h1 m
     have hrc:=Pn (F:=F) (w:=w.alloc (.cells (List.replicate mc zs).flatten.toArray E)) hzl h1 mc
     obtain⟨s2,x2⟩:=st.new (w':=w.alloc (.cells (List.replicate mc zs).flatten.toArray E)) (AZ.uH (rP (Below.refl _ _) (aA _) _)) ⟨some w.heap.size,m,mc,sz⟩
      (fun g hg=>by injection hg with hg;subst hg;exact⟨aA _,by simp⟩) (.rows E sz (List.replicate m (zs.map .v)))
      ⟨rfl,by simp,_,Own.Fe hB (au _) (by simpa using hmc) hm (by have:=hrc.2.1;simpa using this) (by
       rw [cu];exact XW hzl hmc),hrz⟩
     refine⟨_,_,_,_,_,hk,s2,x2, ?_⟩
     have:=nI.own (n:=n+1) (σ:=yU σ n ⟨some w.heap.size,m,mc,sz⟩) (F:=F) (w:=w.alloc (.cells (List.replicate mc zs).flatten.toArray E)) n (by omega)
     rw [og]at this
     exact this
   ·cases h
  ·cases h
 ·cases h
theorem St.start (st:St G lY mG mJ n σ F H w):St G w (wL w σ H) F n σ F H w:=
 ⟨st.glob,AZ.refl _ _,fun b hb=>⟨(st.oW b hb).1, .inl hb⟩,st.lab,fun mV b g h hm hg=>⟨(st.mu mV b g h hm hg).1,(st.mu mV b g h hm hg).2.1,(st.mu mV b g h hm hg).2.2.1, .inl ⟨mV,b,h,hm,hg⟩⟩,st.inj,st.blk⟩
theorem St.back (st:St G lY mG mJ n σ F H w){n':Nat}{σ':Nat->Loc}{F':Nat->Prop}{H':lM}{w':World}(s:St G w (wL w σ H) F n' σ' F' H' w'):St G lY mG mJ n' σ' F' H' w':=by
 have hM : ∀b,wL w σ H b->mG b∨lY.heap.size<=b:=fun b ⟨mV,blk,h1,h2,h3⟩=>(st.mu mV blk b h1 h2 h3).2.2.2
 have hw0:=st.qM.size
 refine⟨s.glob,st.qM.trans s.qM hM,fun b hb=>⟨(s.oW b hb).1, ?_⟩,s.lab,fun mV b g h hm hg=> ?_,s.inj,s.blk⟩
 ·rcases(s.oW b hb).2 with h|h|h
  ·exact(st.oW b h).2
  ·exact .inr (.inl (by omega))
  ·exact(hM b h).elim (fun h=> .inr (.inr h)) fun h=> .inr (.inl h)
 ·obtain⟨h1,h2,h3,h4⟩:=s.mu mV b g h hm hg
  exact⟨h1,h2,h3,h4.elim (hM g) fun h=> .inr (by omega)⟩
theorem zi.sound {f:FuncId}{as:List AV}{vs:List Value}{K:AV->Nat->lM->Prop}(h:zi P G f as n H K)(st:St G lY mG mJ n σ F H w)(r:nX n σ F w as vs):Xk P f vs.toArray w (O7 G lY mG mJ n σ F w K):=
 pY h.ok (h.runs w σ F vs st.start r) fun v w' ⟨a,n',σ',F',H',hk,s,x,ra⟩=>⟨a,n',σ',F',H',hk,st.back s,x,ra⟩
theorem Pq (l:List Value):nX n σ F w (l.map QW) l:=by
 induction l with
 | nil=>trivial
 | cons v r ih=>exact⟨uZ v,ih⟩
theorem Pv {a:AV}{x v:Value}(h:XJ a=some x)(r:nI n σ F w a v):v=x:=by
 unfold XJ at h
 split at h
 ·injection h with h;rw [r.oJ,h]
 ·split at h
  ·rename_i l hl
   injection h with h
   obtain⟨us,rfl,h2⟩:=nX.H8 r
   rw [<-h,Ie hl h2]
  ·cases h
 ·cases h
theorem yD {t:TypeId}{m k x:AV}{vm vk vx:Value}{K:lM->Prop}(h:yS P H t m k x K)(st:St G lY mG mJ n σ F H w)(rm:nI n σ F w m vm)(rk:nI n σ F w k vk)(rx:nI n σ F w x vx) :
  xE P (Instr.mapUpdate t vm vk vx) w fun w'=>O7 G lY mG mJ n σ F w (fun _ n' H'=>n'=n∧K H') undef w':=by
 unfold yS at h
 split at h
 ·rename_i l i
  rw [rk.oJ]
  cases rm with
  | mp _ b hl hb=>
   split at h
   ·rename_i kt et M0 hu hk
    split at h
    ·rename_i hkt
     have key : ∃y H' F',(match look H' l with|some (.Bo M)=>K (setH H' l (.Bo fun k'=>if k'=i then some y else M k'))|_=>False)∧St G lY mG mJ n σ F' H' w∧Ext n σ F w n σ F' w∧pJ F' w y vx:=by
      cases hv:XJ x with
      | some v=>
       rw [hv]at h
       have e:=Pv hv rx
       subst e
       exact⟨_,H,F,h,st, .refl _ _ _ _, .v _⟩
      | none=>
       rw [hv]at h
       exact O8 h st rx
     obtain⟨y,H',F',h,s1,e1,ry⟩:=key
     split at h
     ·rename_i M hk'
      obtain⟨g,hg,V,hM,hV⟩:=s1.blk _ _ hk'
      rw [hb]at hg
      injection hg with hg
      subst hg
      refine aaZ hu hkt hM fun w' hO hM'=> ?_
      obtain⟨s2,x2⟩:=s1.write hk' rfl hb hO (.Bo fun k'=>if k'=i then some y else M k') fun _ hE=>⟨b,hb,_,hM',fun k'=>by
       by_cases e:k'=i
       ·simp only [if_pos e];exact ry.mono hE.f
       ·simp only [if_neg e]
        have:=hV k'
        split at this
        ·exact this.mono hE.f
        ·trivial
        ·exact this.elim⟩
      exact⟨.v undef,_,_,_,_,⟨rfl,h⟩,s2,e1.trans x2, .v _⟩
     ·cases h
    ·cases h
   ·cases h
 ·split at h
  ·rename_i l s v hv _
   rw [rk.oJ,Pv hv rx]
   cases rm with
   | mp _ b hl hb=>
    split at h
    ·rename_i kt et M hu hk
     split at h
     ·rename_i hkt
      obtain⟨g,hg,hM⟩:=st.blk _ _ hk
      rw [hb]at hg
      injection hg with hg
      subst hg
      refine aaY hu hkt hM fun w' hO hM'=> ?_
      obtain⟨s2,x2⟩:=st.write hk rfl hb hO (.map fun k'=>if k'=s then some v else M k') fun _ hE=>⟨b,hb,hM'⟩
      exact⟨.v undef,_,_,_,_,⟨rfl,h⟩,s2,x2, .v _⟩
     ·cases h
    ·cases h
  ·cases h
variable {oD:l9}{ρ:mW}
theorem zH {o:Oper}{K:AV->Nat->lM->Prop}(h:aE P G o oD n H K)(hi:xX o=true)(st:St G lY mG mJ n σ F H w)(hr : ∀s,nI n σ F w (oD s) (ρ s)) :
  JU P false o ρ w (O7 G lY mG mJ n σ F w K):=by
 have quiet:aQ P H H o oD (fun a=>K a n H)->JU P false o ρ w (O7 G lY mG mJ n σ F w K):=fun h=>by
  obtain⟨a,v,h1,h2,h3⟩:=Ih h hi st.hrep st.hrep hr
  exact h3 w false _ (vJ.refl _ _ _ _) ⟨a,n,σ,F,H,h1,st,Ext.refl _ _ _ _,h2⟩
 have newVar : ∀(elem:TypeId) (cs:List AV) (vs:List Value),all1 cs=true->nX n σ F w cs vs->K (.ptr n 0) (n+1) ((n, .var elem cs)::H)->
   O7 G lY mG mJ n σ F w K (.pointer (some ⟨w.heap.size,0,none⟩)) (w.alloc (.cells vs.toArray elem)):=fun elem cs vs h1 rc hk=>by
  have hE0:Ext n σ F w (n+1) (yU σ n ⟨some w.heap.size,0,0,0⟩) F (w.alloc (.cells vs.toArray elem)):=⟨by omega,fun k hk=>oP (by omega),fun b hb=>⟨hb,heap_alloc_old w _ b (st.oW b hb).1⟩,by simp⟩
  obtain⟨s2,x2⟩:=st.new (w':=w.alloc (.cells vs.toArray elem)) (AZ.uH (rP (Below.refl _ _) (aA _) _)) ⟨some w.heap.size,0,0,0⟩
   (fun g hg=>by injection hg with hg;subst hg;exact⟨aA _,by simp⟩) (.var elem cs) ⟨w.heap.size,vs,rfl,tu.new w _ _,rc.mono hE0,Ii h1 rc⟩
  exact⟨_,_,_,_,_,hk,s2,x2, .ptr n 0 _ (by omega) (by rw [og])⟩
 unfold aE at h
 unfold JU
 cases ho:o.op<;>simp only [ho]at h
 case alloc elem=>
  dsimp only
  split at h
  ·rename_i z hz
   cases hb:all1 (z.cells.toList.map AV.v)with
   | false=>rw [hb]at h;exact h.elim
   | true=>
    rw [hb,cond_true,pO]at h
    have:=newVar elem _ _ hb (Ej z.cells.toList) h
    rw [hz]
    rw [iR]at this
    cases z<;>exact this
  ·cases h
 case box elem x=>
  dsimp only
  cases hb:all1 (cellsOf (o7 oD x))with
  | false=>rw [hb]at h;exact h.elim
  | true=>
   rw [hb,cond_true,uf]at h
   have:=newVar elem _ _ hb (BG (nU hr x) hb) h
   rw [iR]at this
   rw [force_eq]
   split
   ·rename_i cs e;rw [e]at this;exact this
   ·exact this
 case buildSlice t m parts=>
  dsimp only
  simp only [uf,pO]at h
  rw [ou]
  exact CB h (by simp) st (KH hr parts.toList)
 case store t a x=>
  dsimp only
  simp only [rH,pO]at h
  obtain⟨p,hp,hv⟩:=ML h st (nU hr a) (nU hr x)
  rw [hp]
  simp only [force_eq]
  obtain⟨u,w',e,a',n',σ',F',H',⟨rfl,hk⟩,s,x',_⟩:=hv.ex
  exact⟨u,w',e, .v undef,n',σ',F',H',hk,s,x', .v _⟩
 case makeSlice t l c=>
  dsimp only
  rw [rH,rH]at h
  simp only [force_eq]
  exact Et h st (nU hr l) (nU hr c)
 case makeMap t r=>
  dsimp only
  cases r with
  | some _=>exact h.elim
  | none=>
   show nZ P (Instr.makeMap t none) w (wr false w (O7 G lY mG mJ n σ F w K))
   dsimp only at h
   split at h
   ·refine OV fun w' hB hM=> ?_
    obtain⟨s2,x2⟩:=st.new (w':=w') (AZ.uH hB) ⟨some w.heap.size,0,0,0⟩ (fun g hg=>by injection hg with hg;subst hg;exact⟨aA _,hM.lt⟩) (.Bo fun _=>none) ⟨w.heap.size,rfl,_,hM,fun _=>trivial⟩
    exact⟨_,_,_,_,_,h,s2,x2, .mp n _ (by omega) (by rw [og])⟩
   ·refine Rw fun w' hB hM=> ?_
    obtain⟨s2,x2⟩:=st.new (w':=w') (AZ.uH hB) ⟨some w.heap.size,0,0,0⟩ (fun g hg=>by injection hg with hg;subst hg;exact⟨aA _,hM.lt⟩) (.map fun _=>none) ⟨w.heap.size,rfl,hM⟩
    exact⟨_,_,_,_,_,h,s2,x2, .mp n _ (by omega) (by rw [og])⟩
 case mapUpdate t m k x=>
  dsimp only
  simp only [rH,pO]at h
  simp only [force_eq]
  obtain⟨u,w',e,a',n',σ',F',H',⟨rfl,hk⟩,s,x',_⟩:=(yD h st (nU hr m) (nU hr k) (nU hr x)).ex
  exact⟨u,w',e, .v undef,n',σ',F',H',hk,s,x', .v _⟩
 case insert t m k x=>
  dsimp only
  simp only [rH,pO]at h
  simp only [force_eq]
  obtain⟨u,w',e,a',n',σ',F',H',⟨rfl,hk⟩,s,x',_⟩:=(yD h st (nU hr m) (nU hr k) (nU hr x)).ex
  exact⟨u,w',e, .v undef,n',σ',F',H',hk,s,x', .v _⟩
 case call c=>
  obtain⟨callee,args,ats⟩:=c
  cases callee with
  | builtin b=>
   cases b with
   | append=>
    dsimp only at h ⊢
    simp only [uf,pO]at h
    simp only [Ho,xG,ou,D9]
    exact J4 h st (wW hr args.toList)
   | copy=>
    dsimp only at h ⊢
    simp only [uf,pO]at h
    simp only [Ho,xG,ou,D9]
    exact Pm h st (wW hr args.toList)
   | _=>
    have:=quiet h
    unfold JU at this
    rw [ho]at this
    exact this
  | value f=>
   dsimp only at h ⊢
   have rf:=nU hr f
   simp only [Ho]
   split at h
   ·rename_i g first captured hf
    rw [hf]at rf
    rw [rf.oJ]
    rw [uf]at h
    simp only [xG,ou]
    have:=h.sound st (((Pq first.toList).append (wW hr args.toList)).append (Pq captured.toList))
    have e:((first.toList++args.toList.map (qE ρ))++captured.toList).toArray=(first++(args.toList.map (qE ρ)).toArray)++captured:=by
     apply jo
     simp
    rw [e]at this
    exact this
   ·rename_i g first captured hf
    rw [hf]at rf
    generalize qE ρ f=z at rf
    cases rf with
    | fn _ _ _ us vs hx hy rx ry=>
     rw [uf]at h
     simp only [xG,ou]
     have:=h.sound st ((nX.append (.of hx rx) (wW hr args.toList)).append (.of hy ry))
     simpa using this
   ·cases h
  | invoke r m=>
   have:=quiet h
   unfold JU at this
   rw [ho]at this
   exact this
 case convert src dst x=>
  cases ht:Me P src dst with
  | false=>
   rw [ht]at h
   have:=quiet h
   unfold JU at this
   rw [ho]at this
   exact this
  | true=>
   rw [ht]at h
   dsimp only at h ⊢
   have rx:=nU hr x
   split at h
   ·rename_i s hx
    rw [hx]at rx
    rw [rx.oJ]
    obtain⟨e,hs,hd,he⟩ : ∃e,P.underlying src=some .string∧P.underlying dst=some (.slice e)∧P.underlying e=some (.int .u8):=by
     unfold Me at ht
     split at ht
     ·rename_i e h1 h2
      split at ht
      ·rename_i h3;exact⟨e,h1,h2,h3⟩
      ·cases ht
     ·cases ht
    have key:nZ P (Go.convert src dst (.string s)) w (O7 G lY mG mJ n σ F w K):=by
     refine afB hs hd he fun c w' hc hrow hB=> ?_
     obtain⟨s2,x2⟩:=st.more (w':=w') (AZ.uH hB) (fun b=>b=w.heap.size∧b<w'.heap.size) fun g hg=>by obtain⟨rfl,h2⟩:=hg;exact⟨aA _,h2⟩
     refine⟨_,_,_,_,_,h,s2,x2, .lst ?_⟩
     have hb : ∀i,i<s.data.toList.length->w.heap.size<w'.heap.size∧∃b:UInt8,s.data.toList[i]? = some b∧w'.cell? ⟨w.heap.size,i,none⟩=some (.int .u8 (b.toNat:Int)):=fun i hi=>by
      rcases hrow with h0|⟨b,o',e1,hlt,hcell⟩
      ·have:(oH s.data.toList).length=0:=by rw [h0];rfl
       simp only [oH,ah]at this
       omega
      ·injection e1 with e1
       injection e1 with e1 e2
       subst e1;subst e2
       refine⟨hlt,s.data.toList[i],aj hi, ?_⟩
       have:=hcell i _ (wK hi)
       rwa [aV]at this
     refine .lst 1 _ _ _ c w.heap.size 0 (by rw [ah]) hc (fun e=>by cases e) (fun h0=>⟨rfl, .inr ⟨rfl,(hb 0 h0).1⟩⟩) (fun row hr=>by obtain⟨x,_,rfl⟩:=eP.1 hr;rfl) (fun i j hi hj=> ?_) (fun i j row a v hi hj hv=> ?_)
     ·obtain⟨_,b,_,h2⟩:=hb i hi
      have hj0:j=0:=by omega
      subst hj0
      exact⟨_,by rw [aV,fO,dS];exact h2,rfl⟩
     ·rw [aU]at hi
      cases hx2:s.data.toList[i]? with
      | none=>rw [hx2]at hi;cases hi
      | some y=>
       rw [hx2]at hi
       injection hi with hi
       subst hi
       obtain⟨_,b,h1,h2⟩:=hb i (aO.1 hx2).1
       rw [hx2]at h1
       injection h1 with h1
       subst h1
       match j,hj with
       | 0,hj=>
        injection hj with hj
        subst hj
        rw [aV,fO,dS,h2]at hv
        injection hv with hv
        subst hv
        exact .v _
    unfold AX
    rw [hs,hd]
    exact key
   ·cases h
 all_goals
  have:=quiet h
  unfold JU at this
  rw [ho]at this
  exact this
end
end Go.Proofs.YtocckceefcmeaaaGreatDoor.Ax
namespace Go.Proofs.YtocckceefcmeaaaGreatDoor.Vc
open Go.RowKit
def Io (ms:List Nat):List Edge->Nat
 | []=>0
 | e::r=>bif Region.binds .any e then Nat.lor (Nat.lor (Nat.shiftLeft 1 e.on) (ms.getD e.on 0)) (Io ms r)else Io ms r
def XY (ms:List Nat):List Oper->List Nat
 | []=>ms
 | o::r=>XY (ms++ [Io ms o.after.toList]) r
def XZ (ops:Array Oper)(ms:List Nat):Prop:= ∀i j,(ms.getD i 0).testBit j=true->Ud ops i j
theorem Eu {ms:List Nat}{j:Nat} : ∀ {es:List Edge},(Io ms es).testBit j=true->∃e∈es,Region.binds .any e=true∧(e.on=j∨(ms.getD e.on 0).testBit j=true)
 | [],h=>by simp [Io]at h
 | e::r,h=>by
  unfold Io at h
  cases hb:Region.binds .any e with
  | false=>
   rw [hb,cond_false]at h
   obtain⟨x,hx,h1,h2⟩:=Eu h
   exact⟨x,by simp [hx],h1,h2⟩
  | true=>
   rw [hb,cond_true]at h
   have h:((1 <<< e.on ||| ms.getD e.on 0) ||| Io ms r).testBit j=true:=h
   simp only [Nat.testBit_or,ji]at h
   rcases h with (h|h)|h
   ·refine⟨e,by simp,hb, .inl ?_⟩
    rw [Nat.one_shiftLeft,Nat.testBit_two_pow]at h
    simpa using h
   ·exact⟨e,by simp,hb, .inr h⟩
   ·obtain⟨x,hx,h1,h2⟩:=Eu h
    exact⟨x,by simp [hx],h1,h2⟩
theorem VW {ops:Array Oper}{i j k:Nat}(h:Ud ops i j)(h':Ud ops j k):Ud ops i k:=by
 induction h' with
 | one ho he hb=>exact .more h ho he hb
 | more _ ho he hb ih=>exact .more ih ho he hb
theorem Uk {ops:Array Oper} : ∀(os:List Oper) (ms:List Nat),XZ ops ms->(∀k,os[k]? = ops[ms.length+k]?)->XZ ops (XY ms os)
 | [],ms,h,_=>h
 | o::r,ms,h,ho=>by
  refine Uk r _ ?_ (fun k=>by have:=ho (k+1);simp only [dV]at this;rw [this,ak,List.length_singleton];congr 1;omega)
  intro i j hb
  rcases jl i ms.length with hi|hi|hi
  ·rw [ay,dQ hi, <-ay]at hb
   exact h i j hb
  ·subst hi
   rw [ay,dG (aA _)]at hb
   simp only [gQ,bW,bH]at hb
   obtain⟨e,he,h1,h2⟩:=Eu hb
   have h0:=ho 0
   simp only [bW,dS]at h0
   have hx:Ud ops ms.length e.on:= .one h0.symm (by simpa using he) h1
   rcases h2 with rfl|h2
   ·exact hx
   ·exact VW hx (h _ _ h2)
  ·rw [ay,fG (by simp;omega)]at hb
   simp at hb
def MP (ms:List Nat)(T:List Nat)(i:Nat):Bool:=T.all fun j=>Nat.beq j i||(ms.getD i 0).testBit j
theorem Px {ops:Array Oper}{T:List Nat}{i j:Nat}(h:MP (XY [] ops.toList) T i=true)(hj:j∈T)(hne:j≠i):Ud ops i j:=by
 have hok:XZ ops (XY [] ops.toList):=Uk ops.toList [] (fun i j h=>by simp at h) (fun k=>by simp)
 simp only [MP,bP,ji]at h
 rcases h j hj with e|e
 ·exact absurd (aF e) hne
 ·exact hok _ _ e
end Go.Proofs.YtocckceefcmeaaaGreatDoor.Vc
namespace Go.Proofs.YtocckceefcmeaaaGreatDoor.Ax
open RowKit Vc
def Ip (all:List Oper)(o:Oper)(ρ:l9)(A Ub:l9->Prop):Prop:=
 match o.guard with
 | none=>A ρ
 | some (g,want)=>(match Bg all g with
  | some s=>(match ρ s with
   | .v (.bool t)=>OE t
     (bif want then A (vH ρ s (.v (.bool true)))else Ub (vH ρ s (.v (.bool true))))
     (bif want then Ub (vH ρ s (.v (.bool false)))else A (vH ρ s (.v (.bool false))))
   | .v _=>Ub ρ
   | _=>False)
  | none=>Ub ρ)
def uI (P:Program)(G:Glob)(all:List Oper)(o:Oper)(ρ:l9)(n:Nat)(H:lM)(K:l9->AV->Nat->lM->Prop)(sS:l9->Prop):Prop:=
 match o.guard with
 | none=>aE P G o ρ n H fun a n' H'=>K ρ a n' H'
 | some (g,want)=>(match Bg all g with
  | some s=>(match ρ s with
   | .v (.bool t)=>OE t
     (bif want then aE P G o (vH ρ s (.v (.bool true))) n H fun a n' H'=>K (vH ρ s (.v (.bool true))) a n' H' else sS (vH ρ s (.v (.bool true))))
     (bif want then sS (vH ρ s (.v (.bool false)))else aE P G o (vH ρ s (.v (.bool false))) n H fun a n' H'=>K (vH ρ s (.v (.bool false))) a n' H')
   | .v _=>sS ρ
   | _=>False)
  | none=>sS ρ)
theorem sG (P:Program)(G:Glob)(all:List Oper)(o:Oper)(ρ:l9)(n:Nat)(H:lM)(K:l9->AV->Nat->lM->Prop)(sS:l9->Prop) :
  uI P G all o ρ n H K sS=Ip all o ρ (fun ρ'=>aE P G o ρ' n H fun a n' H'=>K ρ' a n' H') sS:=rfl
def MQ (P:Program)(all:List Oper)(o:Oper)(ρ:l9)(Hr H:lM)(K:l9->AV->Prop)(sS:l9->Prop):Prop:=
 match o.guard with
 | none=>aQ P Hr H o ρ fun a=>K ρ a
 | some (g,want)=>(match Bg all g with
  | some s=>(match ρ s with
   | .v (.bool t)=>OE t
     (bif want then aQ P Hr H o (vH ρ s (.v (.bool true))) fun a=>K (vH ρ s (.v (.bool true))) a else sS (vH ρ s (.v (.bool true))))
     (bif want then sS (vH ρ s (.v (.bool false)))else aQ P Hr H o (vH ρ s (.v (.bool false))) fun a=>K (vH ρ s (.v (.bool false))) a)
   | .v _=>sS ρ
   | _=>False)
  | none=>sS ρ)
theorem ug (P:Program)(all:List Oper)(o:Oper)(ρ:l9)(Hr H:lM)(K:l9->AV->Prop)(sS:l9->Prop) :
  MQ P all o ρ Hr H K sS=Ip all o ρ (fun ρ'=>aQ P Hr H o ρ' fun a=>K ρ' a) sS:=rfl
def VX (P:Program)(G:Glob)(all:List Oper)(l:List Oper)(ρ:l9)(n:Nat)(H:lM)(K:l9->Nat->lM->Prop):Prop:=
 match l with
 | []=>K ρ n H
 | o::rest=>uI P G all o ρ n H (fun ρ' a n' H'=>VX P G all rest (qm ρ' o.dst a) n' H' K) fun ρ'=>VX P G all rest (qm ρ' o.dst (.v undef)) n H K
def wX (D:List Nat)(x:Nat):Bool:=
 match D with
 | []=>false
 | d::r=>bif Nat.beq d x then true else wX r x
def vV (D:List Nat)(H:lM):lM:=
 match H with
 | []=> []
 | p::r=>bif wX D p.1 then p::vV D r else vV D r
def uJ (D:List Nat)(H:lM):lM:=
 match H with
 | []=> []
 | p::r=>bif wX D p.1 then uJ D r else p::uJ D r
def dx (o:Oper)(n:Nat)(D:List Nat):List Nat:=
 match o.op with
 | .alloc _=>n::D
 | .box _ _=>n::D
 | _=>D
theorem afT {o:Oper}{n k:Nat}{D:List Nat}(hk:k<n)(h:wX (dx o n D) k=true):wX D k=true:=by
 have key:wX (n::D) k=true->wX D k=true:=fun h=>by
  unfold wX at h
  cases hb:Nat.beq n k with
  | true=>have:=aF hb;omega
  | false=>simpa [hb]using h
 unfold dx at h
 split at h
 ·exact key h
 ·exact key h
 ·exact h
def aD (P:Program)(G:Glob)(all:List Oper)(D:List Nat)(p:Plan)(ρ:l9)(n:Nat)(H:lM)(K:l9->Nat->lM->Prop):Prop:=
 match p with
 | .done=>K ρ n H
 | .take i p=>(match all[i]? with
  | some o=>MQ P all o ρ (uJ D H) H (fun ρ' a=>aD P G all D p (qm ρ' o.dst a) n H K) fun ρ'=>aD P G all D p (qm ρ' o.dst (.v undef)) n H K
  | none=>False)
 | .one i p=>(match all[i]? with
  | some o=>uI P G all o ρ n (vV D H) (fun ρ' a n' H'=>spine (H'++uJ D H) fun um=>aD P G all (dx o n D) p (qm ρ' o.dst a) n' um K) fun ρ'=>aD P G all D p (qm ρ' o.dst (.v undef)) n H K
  | none=>False)
 | .two i p j r=>(match all[i]?,all[j]? with
  | some o,some o'=>
   (uI P G all o ρ n (vV D H) (fun ρ' a n' H'=>spine (H'++uJ D H) fun um=>aD P G all (dx o n D) p (qm ρ' o.dst a) n' um K) fun ρ'=>aD P G all D p (qm ρ' o.dst (.v undef)) n H K)∧
   (uI P G all o' ρ n (vV D H) (fun ρ' a n' H'=>spine (H'++uJ D H) fun um=>aD P G all (dx o' n D) r (qm ρ' o'.dst a) n' um K) fun ρ'=>aD P G all D r (qm ρ' o'.dst (.v undef)) n H K)
  | _,_=>False)
 | .three i p j r k q=>(match all[i]?,all[j]?,all[k]? with
  | some o,some o',some o''=>
   (uI P G all o ρ n (vV D H) (fun ρ' a n' H'=>spine (H'++uJ D H) fun um=>aD P G all (dx o n D) p (qm ρ' o.dst a) n' um K) fun ρ'=>aD P G all D p (qm ρ' o.dst (.v undef)) n H K)∧
   (uI P G all o' ρ n (vV D H) (fun ρ' a n' H'=>spine (H'++uJ D H) fun um=>aD P G all (dx o' n D) r (qm ρ' o'.dst a) n' um K) fun ρ'=>aD P G all D r (qm ρ' o'.dst (.v undef)) n H K)∧
   (uI P G all o'' ρ n (vV D H) (fun ρ' a n' H'=>spine (H'++uJ D H) fun um=>aD P G all (dx o'' n D) q (qm ρ' o''.dst a) n' um K) fun ρ'=>aD P G all D q (qm ρ' o''.dst (.v undef)) n H K)
  | _,_,_=>False)
 | .sink i=>(match all[i]? with
  | some o=>uI P G all o ρ n H (fun ρ' a n' H'=>K (qm ρ' o.dst a) n' H') fun ρ'=>K (qm ρ' o.dst (.v undef)) n H
  | none=>False)
 | .post i p=>(match all[i]? with
  | some o=>uI P G all o ρ n H (fun ρ' a n' H'=>aD P G all D p (qm ρ' o.dst a) n' H' K) fun ρ'=>aD P G all D p (qm ρ' o.dst (.v undef)) n H K
  | none=>False)
def takes:Plan->List Nat
 | .done=> []
 | .take i p=>i::takes p
 | .one _ p=>takes p
 | .two _ p _ r=>takes p++takes r
 | .three _ p _ r _ q=>takes p++takes r++takes q
 | .sink _=> []
 | .post _ _=> []
def postAt (ops:Array Oper)(T:List Nat)(i:Nat):Bool:=MP (XY [] ops.toList) T i
def qB (ops:Array Oper)(T:List Nat):Plan->Bool
 | .done=>true
 | .take i p=>T.contains i&&qB ops T p
 | .one _ p=>qB ops T p
 | .two _ p _ r=>qB ops T p&&qB ops T r
 | .three _ p _ r _ q=>qB ops T p&&qB ops T r&&qB ops T q
 | .sink i=>postAt ops T i
 | .post i p=>postAt ops T i&&qB ops (takes p) p
def xJ (ops:Array Oper)(p:Plan):Bool:=xW ops p&&qB ops (takes p) p
def J5 (G:Glob)(ws:Nat->Bool)(nb:Nat)(ρ:l9)(n:Nat)(H:lM)(ρ':l9)(n':Nat)(H':lM):Prop:=
 ∀lY mG mJ σ F w (ρc:mW),St G lY mG mJ n σ F H w->(∀s,ws s=true->nI n σ F w (ρ s) (ρc s))->
  ∃σ' F',St G lY mG mJ n' σ' F' H' w∧(∀s,ws s=true->nI n' σ' F' w (ρ' s) (ρc s))∧(∀l,l<nb->σ' l=σ l)∧∀b,F b->F' b
structure MR (p:Prop):Prop where
 holds:p
structure Nd where
 listed:Array Bool
 dep:Nat
 succ:List (Nat×Nat)
structure NS where
 ρ:l9
 n:Nat
 H:lM
def aeR (ops:Array Oper)(ns:List Nd):Bool:=
 ns.all fun nd=>nd.succ.isEmpty||((Region.ready .any ops nd.listed==nd.succ.map (·.1))&&nd.succ.all fun s=>match ns[s.2]? with
  | some nj=>(nj.listed==nd.listed.setIfInBounds s.1 true)&&Nat.blt nj.dep nd.dep
  | none=>false)
def Iq (P:Program)(G:Glob)(all:List Oper)(ws:Nat->Bool)(nb:Nat)(A:Nat->NS)(k:Nat)(s:Nat×Nat):Prop:=
 match all[s.1]? with
 | some o=>uI P G all o (A k).ρ (A k).n (A k).H (fun ρ' a n' H'=>MR (J5 G ws nb (qm ρ' o.dst a) n' H' (A s.2).ρ (A s.2).n (A s.2).H)) fun ρ'=>MR (J5 G ws nb (qm ρ' o.dst (.v undef)) (A k).n (A k).H (A s.2).ρ (A s.2).n (A s.2).H)
 | none=>False
def X0 (P:Program)(G:Glob)(all:List Oper)(Hh H:lM):List Nat->l9->(l9->Prop)->Prop
 | [],ρ,K=>K ρ
 | i::ts,ρ,K=>(match all[i]? with
  | some o=>MQ P all o ρ Hh H (fun ρ' a=>X0 P G all Hh H ts (qm ρ' o.dst a) K) fun ρ'=>X0 P G all Hh H ts (qm ρ' o.dst (.v undef)) K
  | none=>False)
def Ul (ops:Array Oper)(T:List Nat):List Nat->Array Bool->(Array Bool->Bool)->Bool
 | [],l,k=>k l
 | i::ts,l,k=>(match ops[i]? with|some o=>pG o|none=>false)&&(Region.ready .any ops l).contains i&&Region.free .any ops l i&&T.contains i&&Ul ops T ts (l.setIfInBounds i true) k
def Ah (ops:Array Oper)(T ts:List Nat)(ns:List Nd)(p:Plan)(e:Nat):Bool:=
 Nat.ble ts.length ops.size&&Region.noSelect ops&&aeR ops ns&&qB ops T p&&Nat.ble p.depth e&&(ns.all fun nd=> !nd.succ.isEmpty||pF ops p nd.listed)&&
  Ul ops T ts (Array.replicate ops.size false) fun l=>match ns[0]? with
   | some n0=>(n0.listed==l)&&Nat.ble (n0.dep+e+ts.length) ops.size
   | none=>false
structure zI (P:Program)(G:Glob)(id:Nat)(ops:Array Oper)(K:l9->Nat->lM->Prop)(ρ:l9)(n:Nat)(H:lM):Prop where
 ex:(∃(p:Plan) (D:List Nat),xJ ops p=true∧aD P G ops.toList D p ρ n H K)∨
  (∃(p:Plan) (D:List Nat) (ws:Nat->Bool) (ρ':l9) (n':Nat) (H':lM),xJ ops p=true∧(ops.toList.all fun o=>match o.dst with|some d=>ws d|none=>true)=true∧n<=n'∧(∀s,ws s=false->ρ' s=ρ s)∧
   aD P G ops.toList D p ρ n H (fun pV Uc qW=>MR (J5 G ws n pV Uc qW ρ' n' H'))∧K ρ' n' H')∨
  ∃(T ts:List Nat) (ns:List Nd) (p:Plan) (e:Nat) (D:List Nat) (ws:Nat->Bool) (A:Nat->NS),Ah ops T ts ns p e=true∧(ops.toList.all fun o=>match o.dst with|some d=>ws d|none=>true)=true∧(∀j,n<=(A j).n)∧(∀j s,ws s=false->(A j).ρ s=ρ s)∧
   X0 P G ops.toList (uJ D H) H ts ρ (fun ρ'=>MR (J5 G ws n ρ' n (vV D H) (A 0).ρ (A 0).n (A 0).H))∧(∀k nd,ns[k]? = some nd->∀s∈nd.succ,Iq P G ops.toList ws n A k s)∧
   ∀k nd,ns[k]? = some nd->nd.succ = []->aD P G ops.toList D p (A k).ρ (A k).n ((A k).H++uJ D H) K
theorem sV {D:List Nat}{H:lM}{k:Nat}{b:oZ}(h:look (vV D H) k=some b):wX D k=true∧look H k=some b:=by
 induction H with
 | nil=>cases h
 | cons p r ih=>
  obtain⟨x,bx⟩:=p
  simp only [vV]at h
  cases hm:wX D x with
  | true=>
   rw [hm,cond_true,nG]at h
   rw [nG]
   split at h
   ·rename_i e;subst e;rw [if_pos rfl];exact⟨hm,h⟩
   ·rename_i e;rw [if_neg e];exact ih h
  | false=>
   rw [hm,cond_false]at h
   obtain⟨h1,h2⟩:=ih h
   refine⟨h1, ?_⟩
   rw [nG,if_neg (fun e=>by subst e;rw [hm]at h1;cases h1)]
   exact h2
theorem wM {D:List Nat}{H:lM}{k:Nat}{b:oZ}(h:look (uJ D H) k=some b):wX D k=false∧look H k=some b:=by
 induction H with
 | nil=>cases h
 | cons p r ih=>
  obtain⟨x,bx⟩:=p
  simp only [uJ]at h
  cases hm:wX D x with
  | false=>
   rw [hm,cond_false,nG]at h
   rw [nG]
   split at h
   ·rename_i e;subst e;rw [if_pos rfl];exact⟨hm,h⟩
   ·rename_i e;rw [if_neg e];exact ih h
  | true=>
   rw [hm,cond_true]at h
   obtain⟨h1,h2⟩:=ih h
   refine⟨h1, ?_⟩
   rw [nG,if_neg (fun e=>by subst e;rw [hm]at h1;cases h1)]
   exact h2
theorem nY {A B:lM}{k:Nat}{b:oZ}(h:look (A++B) k=some b):look A k=some b∨(look A k=none∧look B k=some b):=by
 induction A with
 | nil=>exact .inr ⟨rfl,h⟩
 | cons p r ih=>
  obtain⟨x,bx⟩:=p
  rw [iq,nG]at h
  rw [nG]
  split at h
  ·rename_i e;rw [if_pos e];exact .inl h
  ·rename_i e;rw [if_neg e];exact ih h
section
variable {P:Program}{G:Glob}{lY:World}{mG mJ:Nat->Prop}{n:Nat}{σ:Nat->Loc}{F:Nat->Prop}{H:lM}{w:World}
theorem St.sub (st:St G lY mG mJ n σ F H w){H':lM}(h : ∀k b,look H' k=some b->look H k=some b):St G lY mG mJ n σ F H' w:=
 ⟨st.glob,st.qM,st.oW,fun k b hk=>st.lab k b (h k b hk),fun k b g hk=>st.mu k b g (h k b hk),fun k k' b b' g hk hk'=>st.inj k k' b b' g (h k b hk) (h k' b' hk'),fun k b hk=>st.blk k b (h k b hk)⟩
theorem St.join (st:St G lY mG mJ n σ F H w){Hd Hh H':lM}(hd : ∀k b,look Hd k=some b->look H k=some b)(hh : ∀k b,look Hh k=some b->look H k=some b∧look Hd k=none)
  {n':Nat} {σ':Nat->Loc} {F':Nat->Prop} {w':World} (s:St G w (wL w σ Hd) F n' σ' F' H' w') (x:Ext n σ F w n' σ' F' w'):St G lY mG mJ n' σ' F' (H'++Hh) w':=by
 have s0:=(st.sub hd).back s
 have aiA : ∀k b g,look Hh k=some b->b.own=true->rY w (σ k) b g->¬F g∧G.nb<=g∧g<w.heap.size∧(mG g∨lY.heap.size<=g)∧¬wL w σ Hd g:=by
  intro k b g hk hm hg
  obtain⟨hk,hn⟩:=hh k b hk
  obtain⟨h1,h2,h3,h4⟩:=st.mu k b g hk hm hg
  refine⟨h1,h2,h3,h4,fun⟨k',b',e1,e2,e3⟩=> ?_⟩
  have:=st.inj k k' b b' g hk (hd k' b' e1) hm e2 hg e3
  subst this
  rw [hn]at e1;cases e1
 have hid : ∀k b g,look Hh k=some b->b.own=true->rY w' (σ' k) b g->rY w (σ k) b g∧¬F g∧G.nb<=g∧g<w.heap.size∧(mG g∨lY.heap.size<=g)∧¬wL w σ Hd g:=by
  intro k b g hk0 hm hg
  obtain⟨hk,hn⟩:=hh k b hk0
  rw [x.s k (st.lab k b hk)]at hg
  have hg:=hg.back fun y hy=>(let ⟨_,_,a3,_,a5⟩:=aiA k b y hk0 hm (.inl hy);s.qM.block y a3 a5)
  obtain⟨h1,h2,h3,h4⟩:=st.mu k b g hk hm hg
  refine⟨hg,h1,h2,h3,h4,fun⟨k',b',e1,e2,e3⟩=> ?_⟩
  have:=st.inj k k' b b' g hk (hd k' b' e1) hm e2 hg e3
  subst this
  rw [hn]at e1;cases e1
 have cross : ∀k k' b b' g,look H' k=some b->look Hh k'=some b'->b.own=true->b'.own=true->rY w' (σ' k) b g->rY w' (σ' k') b' g->False:=by
  intro k k' b b' g h h' hm hm' hg hg'
  obtain⟨_,_,_,h3,_,h5⟩:=hid k' b' g h' hm' hg'
  rcases(s.mu k b g h hm hg).2.2.2 with e|e
  ·exact h5 e
  ·omega
 refine⟨s0.glob,s0.qM,s0.oW,fun k b hk=> ?_,fun k b g hk hm hg=> ?_,fun k k' b b' g hk hk' hm hm' hg hg'=> ?_,fun k b hk=> ?_⟩
 ·rcases nY hk with hk|⟨_,hk⟩
  ·exact s0.lab k b hk
  ·have:=st.lab k b (hh k b hk).1
   have:=x.le
   omega
 ·rcases nY hk with hk|⟨_,hk⟩
  ·exact s0.mu k b g hk hm hg
  ·obtain⟨h0,h1,h2,h3,h4,h5⟩:=hid k b g hk hm hg
   refine⟨fun hf=> ?_,h2,bg h3 x.sz,h4⟩
   rcases(s.oW g hf).2 with e|e|e
   ·exact h1 e
   ·omega
   ·exact h5 e
 ·rcases nY hk with hk|⟨_,hk⟩
  ·rcases nY hk' with hk'|⟨_,hk'⟩
   ·exact s0.inj k k' b b' g hk hk' hm hm' hg hg'
   ·exact(cross k k' b b' g hk hk' hm hm' hg hg').elim
  ·rcases nY hk' with hk'|⟨_,hk'⟩
   ·exact(cross k' k b' b g hk' hk hm' hm hg' hg).elim
   ·exact st.inj k k' b b' g (hh k b hk).1 (hh k' b' hk').1 hm hm' (hid k b g hk hm hg).1 (hid k' b' g hk' hm' hg').1
 ·rcases nY hk with hk|⟨_,hk⟩
  ·exact s0.blk k b hk
  ·have hk1:=(hh k b hk).1
   rw [x.s k (st.lab k b hk1)]
   refine(st.blk k b hk1).mono x fun hm g hg=> ?_
   obtain⟨_,_,h3,_,h5⟩:=aiA k b g hk hm hg
   exact s.qM.block g h3 h5
end
section
variable {P:Program}{G:Glob}{lY:World}{mG mJ:Nat->Prop}{N:Nat}{ds:List Deferred}{W:Nat->Bool}{ops:Array Oper}{lW:mW}
abbrev rZ (n:Nat)(σ:Nat->Loc)(F:Nat->Prop)(w:World)(oD:l9)(ρ:mW):Prop:= ∀s,nI n σ F w (oD s) (ρ s)
theorem qN {n n':Nat}{σ σ':Nat->Loc}{F F':Nat->Prop}{w w':World}{oD:l9}{ρ:mW}{d:Option Nat}{a:AV}{v:Value}(h:rZ n σ F w oD ρ)(x:Ext n σ F w n' σ' F' w')(r:nI n' σ' F' w' a v) :
  rZ n' σ' F' w' (qm oD d a) (oU ρ d v):=by
 intro s
 cases d with
 | none=>exact(h s).mono x
 | some d=>
  simp only [qm,oU,vH,upd]
  cases Nat.beq s d with
  | true=>exact r
  | false=>exact(h s).mono x
theorem Ai {n:Nat}{σ:Nat->Loc}{F:Nat->Prop}{w:World}{oD:l9}{ρ:mW}{s:Nat}{v:Value}(h:rZ n σ F w oD ρ)(e:ρ s=v):rZ n σ F w (vH oD s (.v v)) ρ:=by
 intro k
 simp only [vH]
 cases hb:Nat.beq k s with
 | true=>rw [aF hb,e];exact .v v
 | false=>exact h k
theorem qZ {n:Nat}{σ:Nat->Loc}{F:Nat->Prop}{w:World}{oD:l9}{ρ:mW}{a:Act}{o:Oper}{A Ub:l9->Prop}(hf:Fits N ds ρ a)(hr:rZ n σ F w oD ρ)(h:Ip ops.toList o oD A Ub) :
  ∃pz,rZ n σ F w pz ρ∧((Region.wanted o (yielded ops a.tmps)=true∧A pz)∨(Region.wanted o (yielded ops a.tmps)=false∧Ub pz)):=by
 unfold Ip at h
 unfold Region.wanted
 split at h
 ·rename_i hg;rw [hg];exact⟨oD,hr, .inl ⟨rfl,h⟩⟩
 ·rename_i g want hg
  rw [hg]
  simp only [Bh hf g]
  split at h
  ·rename_i s hs
   simp only [hs]
   have rs:=hr s
   split at h
   ·rename_i t ht
    rw [ht]at rs
    have e:=rs.oJ
    simp only [e]
    cases t<;>cases want<;>simp only [OE,cond_true,cond_false]at h
    ·exact⟨_,Ai hr e, .inl ⟨rfl,h⟩⟩
    ·exact⟨_,Ai hr e, .inr ⟨rfl,h⟩⟩
    ·exact⟨_,Ai hr e, .inr ⟨rfl,h⟩⟩
    ·exact⟨_,Ai hr e, .inl ⟨rfl,h⟩⟩
   ·rename_i x hne ht
    rw [ht]at rs
    simp only [rs.oJ]
    refine⟨_,hr, .inr ⟨?_,h⟩⟩
    cases x<;>first|rfl|exact(hne _ ht).elim
   ·cases h
  ·rename_i hs
   simp only [hs]
   exact⟨_,hr, .inr ⟨rfl,h⟩⟩
structure MS (G:Glob)(lY:World)(mG mJ:Nat->Prop)(N:Nat)(ds:List Deferred)(W:Nat->Bool)(lW:mW)(nb:Nat)(rC:Nat->Loc)(Fb:Nat->Prop)(wb:World)(K:l9->Nat->lM->Prop)(a:Act)(w:World):Prop where
 ex : ∃ρ oD n σ F H,Fits N ds ρ a∧Same W lW ρ∧St G lY mG mJ n σ F H w∧Ext nb rC Fb wb n σ F w∧rZ n σ F w oD ρ∧K oD n H
def AQ (G:Glob)(lY:World)(mG mJ:Nat->Prop)(N:Nat)(ds:List Deferred)(W:Nat->Bool)(lW:mW)(nb:Nat)(rC:Nat->Loc)(Fb:Nat->Prop)(wb:World)(Q:Ex->l9->Nat->lM->Prop):Exit->Act->World->Prop
 | .normal,a,w=>MS G lY mG mJ N ds W lW nb rC Fb wb (Q .normal) a w
 | .exit id,a,w=>MS G lY mG mJ N ds W lW nb rC Fb wb (Q (.exit id)) a w
 | .ret,a,w=>MS G lY mG mJ N ds W lW nb rC Fb wb (Q .ret) a w
 | _,_,_=>False
variable {nb:Nat}{rC:Nat->Loc}{Fb:Nat->Prop}{wb:World}
theorem Ir {K:l9->Nat->lM->Prop}{Q:Exit->Act->World->Prop}(hQ : ∀a w,MS G lY mG mJ N ds W lW nb rC Fb wb K a w->Q .normal a w) :
  ∀(l:List Oper) (k:Nat) (oD:l9) (n:Nat) (σ:Nat->Loc) (F:Nat->Prop) (H:lM) (ρ:mW) (a:Act) (w:World),(∀j,l[j]? = ops.toList[k+j]?)->(∀o∈l,rG N W o=true∧xX o=true)->
   Fits N ds ρ a->Same W lW ρ->St G lY mG mJ n σ F H w->Ext nb rC Fb wb n σ F w->rZ n σ F w oD ρ->VX P G ops.toList l oD n H K->wpOps P ops Q (List.range' k l.length) a w:=by
 intro l
 induction l with
 | nil=>intro k oD n σ F H ρ a w _ _ hf hs st x hr h;exact hQ a w ⟨ρ,oD,n,σ,F,H,hf,hs,st,x,hr,h⟩
 | cons o rest ih=>
  intro k oD n σ F H ρ a w hl hok hf hs st x hr h
  have ho:ops[k]? = some o:=by
   have:=hl 0
   simp only [bW,dS]at this
   rw [<-bn];exact this.symm
  obtain⟨ho1,hi1⟩:=hok o (by simp)
  have next : ∀j,rest[j]? = ops.toList[k+1+j]? :=fun j=>by have:=hl (j+1);simp only [dV]at this;rw [this];congr 1;omega
  simp only [bC,jT]
  simp only [wpOps,ho]
  simp only [VX,sG]at h
  obtain⟨pz,hr',h⟩:=qZ hf hr h
  rcases h with ⟨hw,hv⟩|⟨hw,hv⟩
  ·simp only [hw,if_true]
   refine .inl ((tK (zH hv hi1 st hr')).wp hf.eval fun v w' ⟨a',n',σ',F',H',hk,s,x',ra⟩=> ?_)
   exact ih (k+1) _ _ _ _ _ _ _ _ next (fun o' ho'=>hok o' (by simp [ho'])) (hf.put o.dst v (oK ho1)) (hs.oU ho1) s (x.trans x') (qN hr' x' ra) hk
  ·simp only [hw,bf,if_false]
   exact ih (k+1) _ _ _ _ _ _ _ _ next (fun o' ho'=>hok o' (by simp [ho'])) (hf.put o.dst undef (oK ho1)) (hs.oU ho1) st x (qN hr' (Ext.refl _ _ _ _) (.v undef)) hv
def Keeps (σ:Nat->Loc)(D:List Nat)(H:lM)(w u:World):Prop:=w.heap.size<=u.heap.size∧∀b,b<w.heap.size->¬wL w σ (vV D H) b->u.heap[b]? = w.heap[b]?
theorem Iu {n:Nat}{σ:Nat->Loc}{F:Nat->Prop}{H:lM}{D:List Nat}{w u:World}(st:St G lY mG mJ n σ F H w)(h:Keeps σ D H w u):vJ σ F (uJ D H) w u:=by
 have hF : ∀b,F b->u.heap[b]? = w.heap[b]? :=fun b hb=>h.2 b (st.oW b hb).1 fun⟨k,c,e1,e2,e3⟩=>(st.mu k c b (sV e1).2 e2 e3).1 hb
 refine⟨hF,fun mV blk g hk ho hg=> ?_⟩
 obtain⟨hm,hk⟩:=wM hk
 refine h.2 g (st.mu mV blk g hk ho hg).2.2.1 fun⟨k,c,e1,e2,e3⟩=> ?_
 obtain⟨f1,f2⟩:=sV e1
 have:=st.inj mV k blk c g hk f2 ho e2 hg e3
 subst this
 rw [hm]at f1;cases f1
theorem X3 {D:List Nat}{H:lM} : ∀k b,look (uJ D H) k=some b->look H k=some b∧look (vV D H) k=none:=fun k b h=>by
 obtain⟨h1,h2⟩:=wM h
 refine⟨h2, ?_⟩
 cases hv:look (vV D H) k with
 | none=>rfl
 | some c=>have:=(sV hv).1;rw [h1]at this;cases this
theorem X4 {n:Nat}{σ:Nat->Loc}{F:Nat->Prop}{H:lM}{w w':World}{D:List Nat}(D':List Nat)(hD : ∀k,k<n->wX D' k=true->wX D k=true){v:Value}{K:AV->Nat->lM->Prop}(st:St G lY mG mJ n σ F H w)(h:O7 G w (wL w σ (vV D H)) F n σ F w K v w') :
  ∃a n' σ' F' H',K a n' H'∧St G lY mG mJ n' σ' F' (H'++uJ D H) w'∧Ext n σ F w n' σ' F' w'∧nI n' σ' F' w' a v∧∀u,Keeps σ' D' (H'++uJ D H) w' u->Keeps σ D H w u:=by
 obtain⟨a,n',σ',F',H',hk,s,x,ra⟩:=h
 refine⟨a,n',σ',F',H',hk,st.join (fun k b hk=>(sV hk).2) X3 s x,x,ra,fun u hu=>⟨dM x.sz hu.1,fun b hb hn=> ?_⟩⟩
 rw [hu.2 b (bg hb x.sz) fun⟨k,c,e1,e2,e3⟩=> ?_]
 ·exact s.qM.block b hb hn
 ·obtain⟨f1,f2⟩:=sV e1
  rcases nY f2 with g1|⟨_,g1⟩
  ·rcases(s.mu k c b g1 e2 e3).2.2.2 with e|e
   ·exact hn e
   ·omega
  ·have h0:=wM g1
   have:=h0.1
   rw [hD k (st.lab k c h0.2) f1]at this;cases this
theorem yV (σ:Nat->Loc)(D:List Nat)(H:lM)(w:World):Keeps σ D H w w:=⟨aA _,fun _ _ _=>rfl⟩
def RA (K:Act->World->Prop):Exit->Act->World->Prop
 | .normal,a,w=>K a w
 | _,_,_=>False
theorem Sr {ops:Array Oper}{T:List Nat}{i j:Nat}(h:postAt ops T i=true)(hj:j∈T)(hne:j≠i):Ud ops i j:=Px h hj hne
def qO (P:Program)(ops:Array Oper)(Q:Exit->Act->World->Prop):Nat->List Nat->(World->Prop)->Array Bool->Act->World->Prop
 | 0,_,_,listed,a,w=>Region.ready .any ops listed = []∧Q .normal a w
 | fuel+1,T,S,listed,a,w=>
  (Region.ready .any ops listed = []->Q .normal a w)∧
  ∀i∈Region.ready .any ops listed,wpOp P ops Q i (fun a' w'=>(postAt ops T i=true∧∃T' S',qO P ops Q fuel T' S' (listed.setIfInBounds i true) a' w')∨(S w'∧qO P ops Q fuel T S (listed.setIfInBounds i true) a' w')) a w
theorem uh {Q:Exit->Act->World->Prop} : ∀(fuel:Nat) (T:List Nat) (S:World->Prop) (listed:Array Bool) (a:Act) (w:World),qO P ops Q fuel T S listed a w->wpAny P .any ops Q fuel listed a w
 | 0,_,_,_,_,_,h=>h
 | fuel+1,_,_,_,_,_,h=>⟨h.1,fun i hi=>wpOp_mono (fun a' w' h'=>h'.elim (fun⟨_,_,_,hh⟩=>uh fuel _ _ _ a' w' hh) fun h'=>uh fuel _ _ _ a' w' h'.2) (h.2 i hi)⟩
theorem zJ {Q:Exit->Act->World->Prop}{T:List Nat}{S S':World->Prop}(h : ∀u,S' u->S u) : ∀(fuel:Nat) (listed:Array Bool) (a:Act) (w:World),qO P ops Q fuel T S' listed a w->qO P ops Q fuel T S listed a w
 | 0,_,_,_,hh=>hh
 | fuel+1,_,_,_,hh=>⟨hh.1,fun i hi=>wpOp_mono (fun a' w' h'=>h'.imp id fun h'=>⟨h w' h'.1,zJ h fuel _ a' w' h'.2⟩) (hh.2 i hi)⟩
theorem CP {Q:Exit->Act->World->Prop}{T:List Nat}{S:World->Prop}{i:Nat}{oi:Oper}{v:Value}(hi:ops[i]? = some oi)(hT:i∈T)(hsel : ∀(j:Nat) (o:Oper) cs b,ops[j]? = some o->o.op≠ .select cs b)
  (hQ : ∀c a w,Q (.panic c) (a.put oi.dst v) w->Q (.panic c) a w) :
  ∀(fuel:Nat) (listed:Array Bool) (a:Act) (w:World),
   (∀j oj,ops[j]? = some oj->j≠i->listed.getD j true=false->(∀e∈oj.after,Region.binds .any e=true->e.on≠i)->oi.apart ops oj=true)->
   Down ops listed->i∈Region.ready .any ops listed->YieldsIf P ops S oi v a->S w->
   qO P ops Q fuel T S (listed.setIfInBounds i true) (a.put oi.dst v) w->qO P ops Q (fuel+1) T S listed a w:=by
 intro fuel
 induction fuel with
 | zero=>
  intro listed a w _ _ hr hy hS H
  refine⟨fun h=>(by rw [h]at hr;cases hr),fun j hj=> ?_⟩
  by_cases hji:j=i
  ·subst hji;exact hy.wpOp hi hS (.inr ⟨hS,H⟩)
  ·have:=ready_mono hj hji
   rw [H.1]at this
   cases this
 | succ fuel ih=>
  intro listed a w hfree hdown hr hy hS H
  refine⟨fun h=>(by rw [h]at hr;cases hr),fun j hj=> ?_⟩
  by_cases hji:j=i
  ·subst hji;exact hy.wpOp hi hS (.inr ⟨hS,H⟩)
  ·have h1:=H.2 j (ready_mono hj hji)
   obtain⟨hjun,oj,hoj,hall⟩:=mem_ready.1 hj
   have hnot : ∀e∈oj.after,Region.binds .any e=true->e.on≠i:=fun e he hb heq=>by
    have h1:=hall e he hb
    have h0:=(mem_ready.1 hr).1
    rw [heq]at h1
    rcases dP i listed.size with h'|h'
    ·simp [h']at h0 h1;rw [h0]at h1;cases h1
    ·simp [gK h']at h1
   have h2:=wpOp_putIf hoj (hfree j oj hoj hji hjun hnot) (fun cs b=>hsel i oi cs b hi) (fun cs b=>hsel j oj cs b hoj) hQ hy h1
   have hfree' : ∀k ok,ops[k]? = some ok->k≠i->(listed.setIfInBounds j true).getD k true=false->
     (∀e∈ok.after,Region.binds .any e=true->e.on≠i)->oi.apart ops ok=true:=fun k ok hk hki hun hno=>by
    refine hfree k ok hk hki ?_ hno
    by_cases hjk:j=k
    ·subst hjk;exact hjun
    ·rw [getD_set_ne true hjk]at hun;exact hun
   have hri:i∈Region.ready .any ops (listed.setIfInBounds j true):=ready_mono hr (lF hji)
   have hns:postAt ops T j=true->False:=fun hsk=>by
    have h1:=hdown.anc hj (Sr hsk hT (lF hji))
    have h0:=(mem_ready.1 hr).1
    rcases dP i listed.size with h'|h'
    ·simp [h']at h0 h1;rw [h0]at h1;cases h1
    ·simp [gK h']at h1
   refine wpOp_mono (fun a' w' h3=> ?_) h2
   have h4:=h3.2.resolve_left fun hh=>hns hh.1
   refine .inr ⟨h4.1,ih (listed.setIfInBounds j true) a' w' hfree' (hdown.set hj) hri h3.1 h4.1 ?_⟩
   rw [kK _ _ hji]
   exact h4.2
theorem zK (hsel:Region.noSelect ops=true)(hok : ∀o∈ops.toList,rG N W o=true∧xX o=true){K:l9->Nat->lM->Prop} :
  ∀(p:Plan) (D:List Nat) (T:List Nat) (listed:Array Bool) (oD:l9) (n:Nat) (σ:Nat->Loc) (F:Nat->Prop) (H:lM) (ρ:mW) (a:Act) (w:World),pF ops p listed=true->qB ops T p=true->Down ops listed->Fits N ds ρ a->Same W lW ρ->St G lY mG mJ n σ F H w->Ext nb rC Fb wb n σ F w->rZ n σ F w oD ρ->
   aD P G ops.toList D p oD n H K->∀fuel,p.depth<=fuel->qO P ops (RA (MS G lY mG mJ N ds W lW nb rC Fb wb K)) fuel T (Keeps σ D H w) listed a w:=by
 have mem : ∀ {i:Nat} {o:Oper},ops.toList[i]? = some o->ops[i]? = some o∧rG N W o=true∧xX o=true:=fun {i o} h=>
  ⟨by rw [<-bn];exact h,hok o (aZ h)⟩
 have fin : ∀ {T:List Nat} {S:World->Prop} {listed:Array Bool} {oD:l9} {n:Nat} {σ:Nat->Loc} {F:Nat->Prop} {H:lM} {ρ:mW} {a:Act} {w:World},Region.ready .any ops listed = []->Fits N ds ρ a->Same W lW ρ->St G lY mG mJ n σ F H w->Ext nb rC Fb wb n σ F w->rZ n σ F w oD ρ->K oD n H->
   ∀fuel,qO P ops (RA (MS G lY mG mJ N ds W lW nb rC Fb wb K)) fuel T S listed a w:=by
  intro T S listed oD n σ F H ρ a w hr hf hs st x hrep h fuel
  cases fuel with
  | zero=>exact⟨hr,ρ,oD,n,σ,F,H,hf,hs,st,x,hrep,h⟩
  | succ m=>exact⟨fun _=>⟨ρ,oD,n,σ,F,H,hf,hs,st,x,hrep,h⟩,by rw [hr];simp⟩
 intro p
 have one : ∀(p:Plan),(∀(D:List Nat) (T:List Nat) (listed:Array Bool) (oD:l9) (n:Nat) (σ:Nat->Loc) (F:Nat->Prop) (H:lM) (ρ:mW) (a:Act) (w:World),pF ops p listed=true->qB ops T p=true->Down ops listed->Fits N ds ρ a->Same W lW ρ->St G lY mG mJ n σ F H w->Ext nb rC Fb wb n σ F w->rZ n σ F w oD ρ->
   aD P G ops.toList D p oD n H K->∀fuel,p.depth<=fuel->qO P ops (RA (MS G lY mG mJ N ds W lW nb rC Fb wb K)) fuel T (Keeps σ D H w) listed a w)->
   ∀(i:Nat) (o:Oper) (D:List Nat) (T:List Nat) (listed:Array Bool) (oD:l9) (n:Nat) (σ:Nat->Loc) (F:Nat->Prop) (H:lM) (ρ:mW) (a:Act) (w:World),ops.toList[i]? = some o->pF ops p (listed.setIfInBounds i true)=true->qB ops T p=true->Down ops (listed.setIfInBounds i true)->Fits N ds ρ a->Same W lW ρ->St G lY mG mJ n σ F H w->Ext nb rC Fb wb n σ F w->rZ n σ F w oD ρ->
   (Ip ops.toList o oD (fun ρ'=>aE P G o ρ' n (vV D H) fun a n' H'=>aD P G ops.toList (dx o n D) p (qm ρ' o.dst a) n' (H'++uJ D H) K) fun ρ'=>aD P G ops.toList D p (qm ρ' o.dst (.v undef)) n H K)->
   ∀fuel,p.depth<=fuel->wpOp P ops (RA (MS G lY mG mJ N ds W lW nb rC Fb wb K)) i (fun a' w'=>(postAt ops T i=true∧∃T' S',qO P ops (RA (MS G lY mG mJ N ds W lW nb rC Fb wb K)) fuel T' S' (listed.setIfInBounds i true) a' w')∨(Keeps σ D H w w'∧qO P ops (RA (MS G lY mG mJ N ds W lW nb rC Fb wb K)) fuel T (Keeps σ D H w) (listed.setIfInBounds i true) a' w')) a w:=by
  intro p ih i o D T listed oD n σ F H ρ a w Eb hp hpo hdn hf hs st x hr h fuel hfu
  obtain⟨hi,ho,Iw⟩:=mem Eb
  obtain⟨pz,hr',h⟩:=qZ hf hr h
  unfold Go.wpOp
  simp only [hi]
  rcases h with ⟨hw,hv⟩|⟨hw,hv⟩
  ·simp only [hw,if_true]
   refine .inl ((tK (zH hv Iw (st.sub fun k b hk=>(sV hk).2).start hr')).wp hf.eval fun v w' ht=> ?_)
   obtain⟨a',n',σ',F',H',hk,s,x',ra,hkeep⟩:=X4 (dx o n D) (fun k hk=>afT hk) st ht
   exact .inr ⟨hkeep w' (yV _ _ _ _),zJ hkeep _ _ _ _ (ih _ _ _ _ _ _ _ _ _ _ _ hp hpo hdn (hf.put o.dst v (oK ho)) (hs.oU ho) s (x.trans x') (qN hr' x' ra) hk fuel hfu)⟩
  ·simp only [hw,bf,if_false]
   exact .inr ⟨yV _ _ _ _,ih _ _ _ _ _ _ _ _ _ _ _ hp hpo hdn (hf.put o.dst undef (oK ho)) (hs.oU ho) st x (qN hr' (Ext.refl _ _ _ _) (.v undef)) hv fuel hfu⟩
 induction p with
 | done=>
  intro D T listed oD n σ F H ρ a w hp hpo hdn hf hs st x hr h fuel _
  exact fin (by simpa [pF]using hp) hf hs st x hr h fuel
 | take i p ih=>
  intro D T listed oD n σ F H ρ a w hp hpo hdn hf hs st x hr h fuel hfu
  simp only [pF,aB]at hp
  obtain⟨⟨⟨hq,hrd⟩,hfree⟩,hp'⟩:=hp
  simp only [qB,aB]at hpo
  have hTi:i∈T:=by simpa using hpo.1
  simp only [aD,sG,ug,pO]at h
  split at h
  ·rename_i o Eb
   obtain⟨hi,ho,Iw⟩:=mem Eb
   simp only [hi]at hq
   cases fuel with
   | zero=>simp [Plan.depth]at hfu
   | succ fuel=>
    have Ec:p.depth<=fuel:=by simp only [Plan.depth]at hfu;omega
    obtain⟨pz,hr',h⟩:=qZ hf hr h
    have go : ∀(v:Value) (av:AV),YieldsIf P ops (Keeps σ D H w) o v a->nI n σ F w av v->aD P G ops.toList D p (qm pz o.dst av) n H K->qO P ops (RA (MS G lY mG mJ N ds W lW nb rC Fb wb K)) (fuel+1) T (Keeps σ D H w) listed a w:=fun v av hy ra hv=>
     CP hi hTi (Region.noSelect_spec hsel) (fun c a w hq=>hq) fuel listed a w (Region.free_spec hi hfree) hdn (by simpa using hrd) hy (yV _ _ _ _)
      (ih _ _ _ _ _ _ _ _ _ _ _ hp' hpo.2 (hdn.set (by simpa using hrd)) (hf.put o.dst v (oK ho)) (hs.oU ho) st x (qN hr' (Ext.refl _ _ _ _) ra) hv fuel Ec)
    rcases h with ⟨hw,hv⟩|⟨hw,hv⟩
    ·have hH:xu n σ F w (uJ D H):=fun k b hk=>st.blk k b (wM hk).2
     obtain⟨av,v,hk,ra,hrun⟩:=Ih hv Iw hH st.hrep hr'
     refine go v av (.inl ⟨hw,fun u hu=> ?_⟩) ra hk
     rw [hf.eval]
     obtain⟨v',he,hvv,_⟩:=(tK (hrun u true (fun v' u'=>v'=v∧u'=u) (Iu st hu) ⟨rfl,rfl⟩)).quiet hq
     rw [he,hvv]
    ·exact go undef (.v undef) (.inr ⟨hw,rfl⟩) (.v undef) hv
  ·cases h
 | one i p ih=>
  intro D T listed oD n σ F H ρ a w hp hpo hdn hf hs st x hr h fuel hfu
  simp only [pF,aB,beq_iff_eq]at hp
  obtain⟨hrd,hp'⟩:=hp
  simp only [aD,sG,ug,pO]at h
  split at h
  ·rename_i o Eb
   cases fuel with
   | zero=>simp [Plan.depth]at hfu
   | succ fuel=>
    have Ec:p.depth<=fuel:=by simp only [Plan.depth]at hfu;omega
    refine⟨fun e=>(by rw [hrd]at e;cases e),fun j hj=> ?_⟩
    rw [hrd]at hj
    simp only [bF]at hj
    subst hj
    exact one p ih j o D T listed oD n σ F H ρ a w Eb hp' hpo (hdn.set (i:=j) (by rw [hrd];simp)) hf hs st x hr h fuel Ec
  ·cases h
 | two i p j r ihp ihr=>
  intro D T listed oD n σ F H ρ a w hp hpo hdn hf hs st x hr h fuel hfu
  simp only [pF,aB,beq_iff_eq]at hp
  obtain⟨⟨hrd,hp'⟩,hr'⟩:=hp
  simp only [qB,aB]at hpo
  simp only [aD,sG,ug,pO]at h
  split at h
  ·rename_i o o' Eb hjo
   obtain⟨ha,hb⟩:=h
   cases fuel with
   | zero=>simp [Plan.depth]at hfu
   | succ fuel=>
    have LW:p.depth<=fuel:=by simp only [Plan.depth]at hfu;omega
    have hfu2:r.depth<=fuel:=by simp only [Plan.depth]at hfu;omega
    refine⟨fun e=>(by rw [hrd]at e;cases e),fun k hk=> ?_⟩
    rw [hrd]at hk
    simp only [bD,jA,or_false]at hk
    rcases hk with rfl|rfl
    ·exact one p ihp k o D T listed oD n σ F H ρ a w Eb hp' hpo.1 (hdn.set (i:=k) (by rw [hrd];simp)) hf hs st x hr ha fuel LW
    ·exact one r ihr k o' D T listed oD n σ F H ρ a w hjo hr' hpo.2 (hdn.set (i:=k) (by rw [hrd];simp)) hf hs st x hr hb fuel hfu2
  ·cases h
 | three i p j r k q ihp ihr ihq=>
  intro D T listed oD n σ F H ρ a w hp hpo hdn hf hs st x hr h fuel hfu
  simp only [pF,aB,beq_iff_eq]at hp
  obtain⟨⟨⟨hrd,hp'⟩,hr'⟩,hq'⟩:=hp
  simp only [qB,aB]at hpo
  simp only [aD,sG,ug,pO]at h
  split at h
  ·rename_i o o' o'' Eb hjo hko
   obtain⟨ha,hb,hc⟩:=h
   cases fuel with
   | zero=>simp [Plan.depth]at hfu
   | succ fuel=>
    have LW:p.depth<=fuel:=by simp only [Plan.depth]at hfu;omega
    have hfu2:r.depth<=fuel:=by simp only [Plan.depth]at hfu;omega
    have aaT:q.depth<=fuel:=by simp only [Plan.depth]at hfu;omega
    refine⟨fun e=>(by rw [hrd]at e;cases e),fun k hk=> ?_⟩
    rw [hrd]at hk
    simp only [bD,jA,or_false]at hk
    rcases hk with rfl|rfl|rfl
    ·exact one p ihp k o D T listed oD n σ F H ρ a w Eb hp' hpo.1.1 (hdn.set (i:=k) (by rw [hrd];simp)) hf hs st x hr ha fuel LW
    ·exact one r ihr k o' D T listed oD n σ F H ρ a w hjo hr' hpo.1.2 (hdn.set (i:=k) (by rw [hrd];simp)) hf hs st x hr hb fuel hfu2
    ·exact one q ihq k o'' D T listed oD n σ F H ρ a w hko hq' hpo.2 (hdn.set (i:=k) (by rw [hrd];simp)) hf hs st x hr hc fuel aaT
  ·cases h
 | sink i=>
  intro D T listed oD n σ F H ρ a w hp hpo hdn hf hs st x hr h fuel hfu
  simp only [pF,aB,beq_iff_eq]at hp
  obtain⟨⟨hrd,hsk⟩,he⟩:=hp
  simp only [aD,sG,ug,pO]at h
  split at h
  ·rename_i o Eb
   obtain⟨hi,ho,Iw⟩:=mem Eb
   cases fuel with
   | zero=>simp [Plan.depth]at hfu
   | succ fuel=>
    refine⟨fun e=>(by rw [hrd]at e;cases e),fun j hj=> ?_⟩
    rw [hrd]at hj
    simp only [bF]at hj
    subst hj
    have he':Region.ready .any ops (listed.setIfInBounds j true) = []:=by simpa using he
    obtain⟨pz,hr',h⟩:=qZ hf hr h
    unfold Go.wpOp
    simp only [hi]
    rcases h with ⟨hw,hv⟩|⟨hw,hv⟩
    ·simp only [hw,if_true]
     refine .inl ((tK (zH hv Iw st hr')).wp hf.eval fun v w' ⟨a',n',σ',F',H',hk,s,x',ra⟩=> ?_)
     exact .inl ⟨hpo,[],fun _=>True,fin he' (hf.put o.dst v (oK ho)) (hs.oU ho) s (x.trans x') (qN hr' x' ra) hk fuel⟩
    ·simp only [hw,bf,if_false]
     exact .inl ⟨hpo,[],fun _=>True,fin he' (hf.put o.dst undef (oK ho)) (hs.oU ho) st x (qN hr' (Ext.refl _ _ _ _) (.v undef)) hv fuel⟩
  ·cases h
 | post i p ih=>
  intro D T listed oD n σ F H ρ a w hp hpo hdn hf hs st x hr h fuel hfu
  simp only [pF,aB,beq_iff_eq]at hp
  obtain⟨hrd,hp'⟩:=hp
  simp only [qB,aB]at hpo
  simp only [aD,sG,ug,pO]at h
  split at h
  ·rename_i o Eb
   obtain⟨hi,ho,Iw⟩:=mem Eb
   cases fuel with
   | zero=>simp [Plan.depth]at hfu
   | succ fuel=>
    have Ec:p.depth<=fuel:=by simp only [Plan.depth]at hfu;omega
    refine⟨fun e=>(by rw [hrd]at e;cases e),fun j hj=> ?_⟩
    rw [hrd]at hj
    simp only [bF]at hj
    subst hj
    have yA:=hdn.set (i:=j) (by rw [hrd];simp)
    obtain⟨pz,hr',h⟩:=qZ hf hr h
    unfold Go.wpOp
    simp only [hi]
    rcases h with ⟨hw,hv⟩|⟨hw,hv⟩
    ·simp only [hw,if_true]
     refine .inl ((tK (zH hv Iw st hr')).wp hf.eval fun v w' ⟨a',n',σ',F',H',hk,s,x',ra⟩=> ?_)
     exact .inl ⟨hpo.1,takes p,_,ih _ _ _ _ _ _ _ _ _ _ _ hp' hpo.2 yA (hf.put o.dst v (oK ho)) (hs.oU ho) s (x.trans x') (qN hr' x' ra) hk fuel Ec⟩
    ·simp only [hw,bf,if_false]
     exact .inl ⟨hpo.1,takes p,_,ih _ _ _ _ _ _ _ _ _ _ _ hp' hpo.2 yA (hf.put o.dst undef (oK ho)) (hs.oU ho) st x (qN hr' (Ext.refl _ _ _ _) (.v undef)) hv fuel Ec⟩
  ·cases h
theorem St.drew {n:Nat}{σ:Nat->Loc}{F:Nat->Prop}{H:lM}{w:World}(st:St G lY mG mJ n σ F H w):St G lY mG mJ n σ F H w.drew:=
 ⟨st.glob,⟨st.qM.os,st.qM.tape,st.qM.output,st.qM.size,st.qM.block⟩,st.oW,st.lab,st.mu,st.inj,fun k b hk=>vU.mono (n:=n) (σ:=σ) (F:=F) (w:=w) (w':=w.drew) ⟨aA _,fun _ _=>rfl,fun _ h=>⟨h,rfl⟩,aA _⟩ (st.blk k b hk) fun _ _ _=>rfl⟩
theorem Iy (n:Nat)(σ:Nat->Loc)(F:Nat->Prop)(w:World):Ext n σ F w n σ F w.drew:=⟨aA _,fun _ _=>rfl,fun _ h=>⟨h,rfl⟩,aA _⟩
theorem VY {Q:Exit->Act->World->Prop}{ns:List Nd}{ws:Nat->Bool}{nb:Nat}{A:Nat->NS}{σs:Nat->Loc}{Fs:Nat->Prop}{Hs:lM}{D:List Nat}{wb:World}{ρs:l9}{ρc:mW}{T:List Nat}{e:Nat}
  (abb:aeR ops ns=true) (hok : ∀o∈ops.toList,rG N (fun k=>W k&&ws k) o=true∧xX o=true)
  (hle : ∀j,nb<=(A j).n) (hun : ∀j s,ws s=false->(A j).ρ s=ρs s) (hrs:rZ nb σs Fs wb ρs ρc)
  (hstep : ∀k nd,ns[k]? = some nd->∀s∈nd.succ,Iq P G ops.toList ws nb A k s)
  (hend : ∀k nd,ns[k]? = some nd->nd.succ = []->∀(σ:Nat->Loc) (F:Nat->Prop) (ρ:mW) (a:Act) (w:World),Down ops nd.listed->Fits N ds ρ a->Same (fun k=>W k&&ws k) ρc ρ->St G wb (wL wb σs (vV D Hs)) Fs (A k).n σ F (A k).H w->Ext nb σs Fs wb (A k).n σ F w->rZ (A k).n σ F w (A k).ρ ρ->∀fuel,e<=fuel->qO P ops Q fuel T (Keeps σs D Hs wb) nd.listed a w) :
  ∀(m:Nat) (k:Nat) (nd:Nd),ns[k]? = some nd->nd.dep<=m->∀(σ:Nat->Loc) (F:Nat->Prop) (ρ:mW) (a:Act) (w:World),Down ops nd.listed->Fits N ds ρ a->Same (fun k=>W k&&ws k) ρc ρ->St G wb (wL wb σs (vV D Hs)) Fs (A k).n σ F (A k).H w->Ext nb σs Fs wb (A k).n σ F w->rZ (A k).n σ F w (A k).ρ ρ->∀fuel,m+e<=fuel->qO P ops Q fuel T (Keeps σs D Hs wb) nd.listed a w:=by
 have mem : ∀ {i:Nat} {o:Oper},ops.toList[i]? = some o->ops[i]? = some o∧rG N (fun k=>W k&&ws k) o=true∧xX o=true:=fun {i o} h=>
  ⟨by rw [<-bn];exact h,hok o (aZ h)⟩
 intro m
 induction m with
 | zero=>
  intro k nd hk hd σ F ρ a w hdn hf hs st x hr fuel hfu
  cases hsu:nd.succ with
  | nil=>exact hend k nd hk hsu σ F ρ a w hdn hf hs st x hr fuel (by omega)
  | cons s r=>
   exfalso
   have h1:=bP.1 abb nd (aZ hk)
   rw [hsu]at h1
   simp only [List.isEmpty_cons,jE,aB,bP]at h1
   have h2:=h1.2 s bG
   split at h2
   ·simp only [aB]at h2
    have h3:=h2.2
    rw [Nat.blt_eq]at h3
    omega
   ·cases h2
 | succ m ih=>
  intro k nd hk hd σ F ρ a w hdn hf hs st x hr fuel hfu
  cases hsu:nd.succ with
  | nil=>exact hend k nd hk hsu σ F ρ a w hdn hf hs st x hr fuel (by omega)
  | cons s0 r0=>
   have h1:=bP.1 abb nd (aZ hk)
   have hne:nd.succ.isEmpty=false:=by rw [hsu];rfl
   rw [hne]at h1
   simp only [jE,aB,bP,beq_iff_eq]at h1
   obtain⟨hrd,hall⟩:=h1
   cases fuel with
   | zero=>omega
   | succ fuel=>
    refine⟨fun e=> ?_,fun i hi=> ?_⟩
    ·rw [hrd,hsu]at e;cases e
    rw [hrd]at hi
    have hin:i∈Region.ready .any ops nd.listed:=by rw [hrd];exact hi
    obtain⟨s,hsm,rfl⟩:=eP.1 hi
    have h2:=hall s hsm
    split at h2
    ·rename_i nj hj
     simp only [aB,beq_iff_eq]at h2
     obtain⟨hlj,hdj⟩:=h2
     rw [Nat.blt_eq]at hdj
     have h:=hstep k nd hk s hsm
     unfold Iq at h
     split at h
     ·rename_i o Eb
      obtain⟨hi',ho,Iw⟩:=mem Eb
      simp only [sG]at h
      obtain⟨pz,hr',h⟩:=qZ hf hr h
      have next : ∀(v:Value) (w':World) (n':Nat) (σ':Nat->Loc) (F':Nat->Prop) (H':lM) (wY:l9),St G wb (wL wb σs (vV D Hs)) Fs n' σ' F' H' w'->Ext (A k).n σ F w n' σ' F' w'->rZ n' σ' F' w' wY (oU ρ o.dst v)->MR (J5 G ws nb wY n' H' (A s.2).ρ (A s.2).n (A s.2).H)->Keeps σs D Hs wb w'∧qO P ops Q fuel T (Keeps σs D Hs wb) (nd.listed.setIfInBounds s.1 true) (a.put o.dst v) w':=by
       intro v w' n' σ' F' H' wY s' x' r' hb
       obtain⟨σ2,F2,s2,r2,l2,f2⟩:=hb.holds wb (wL wb σs (vV D Hs)) Fs σ' F' w' (oU ρ o.dst v) s' fun t _=>r' t
       have xx:=x.trans x'
       have x2:Ext nb σs Fs wb (A s.2).n σ2 F2 w':=⟨hle _,fun l hl=>(l2 l hl).trans (xx.s l hl),fun b hb=>⟨f2 b (xx.f b hb).1,(xx.f b hb).2⟩,xx.sz⟩
       refine⟨⟨xx.sz,fun b hb hn=>s2.qM.block b hb hn⟩, ?_⟩
       rw [<-hlj]
       refine ih s.2 nj hj (by omega) σ2 F2 _ _ w' (by rw [hlj];exact hdn.set hin) (hf.put o.dst v (oK ho)) (hs.oU ho) s2 x2 (fun t=> ?_) fuel (by omega)
       cases hws:ws t with
       | true=>exact r2 t hws
       | false=>
        have hsame:=hs.oU (v:=v) ho t (by simp [hws])
        rw [hun _ t hws,hsame]
        exact(hrs t).mono x2
      unfold Go.wpOp
      simp only [hi']
      rcases h with ⟨hw,hv⟩|⟨hw,hv⟩
      ·simp only [hw,if_true]
       refine .inl ((tK (zH hv Iw st hr')).wp hf.eval fun v w' ⟨a',n',σ',F',H',hk',s',x',ra⟩=> ?_)
       exact .inr (next v w' n' σ' F' H' _ s' x' (qN hr' x' ra) hk')
      ·simp only [hw,bf,if_false]
       exact .inr (next undef w _ σ F _ _ st (Ext.refl _ _ _ _) (qN hr' (Ext.refl _ _ _ _) (.v undef)) hv)
     ·cases h
    ·cases h2
theorem Py {K:l9->Prop}{Kw:Act->World->Prop}{T:List Nat}{D:List Nat}{n:Nat}{σ:Nat->Loc}{F:Nat->Prop}{H:lM}{w:World}{k:Array Bool->Bool}{fuel:Nat}
  (hsel:Region.noSelect ops=true) (hok : ∀o∈ops.toList,rG N W o=true∧xX o=true) (st:St G lY mG mJ n σ F H w)
  (hend : ∀(listed:Array Bool) (oD:l9) (ρ:mW) (a:Act),k listed=true->Down ops listed->Fits N ds ρ a->Same W lW ρ->rZ n σ F w oD ρ->K oD->qO P ops (RA Kw) fuel T (Keeps σ D H w) listed a w) :
  ∀(ts:List Nat) (listed:Array Bool) (oD:l9) (ρ:mW) (a:Act),Ul ops T ts listed k=true->Down ops listed->Fits N ds ρ a->Same W lW ρ->rZ n σ F w oD ρ->X0 P G ops.toList (uJ D H) H ts oD K->qO P ops (RA Kw) (fuel+ts.length) T (Keeps σ D H w) listed a w:=by
 have mem : ∀ {i:Nat} {o:Oper},ops.toList[i]? = some o->ops[i]? = some o∧rG N W o=true∧xX o=true:=fun {i o} h=>
  ⟨by rw [<-bn];exact h,hok o (aZ h)⟩
 intro ts
 induction ts with
 | nil=>intro listed oD ρ a hk hdn hf hs hr h;exact hend listed oD ρ a hk hdn hf hs hr h
 | cons i ts ih=>
  intro listed oD ρ a hp hdn hf hs hr h
  simp only [Ul,aB]at hp
  obtain⟨⟨⟨⟨hq,hrd⟩,hfree⟩,hT⟩,hp'⟩:=hp
  have hTi:i∈T:=by simpa using hT
  simp only [X0,ug]at h
  split at h
  ·rename_i o Eb
   obtain⟨hi,ho,Iw⟩:=mem Eb
   simp only [hi]at hq
   obtain⟨pz,hr',h⟩:=qZ hf hr h
   have go : ∀(v:Value) (av:AV),YieldsIf P ops (Keeps σ D H w) o v a->nI n σ F w av v->X0 P G ops.toList (uJ D H) H ts (qm pz o.dst av) K->qO P ops (RA Kw) (fuel+ts.length+1) T (Keeps σ D H w) listed a w:=fun v av hy ra hv=>
    CP hi hTi (Region.noSelect_spec hsel) (fun c a w hq=>hq) (fuel+ts.length) listed a w (Region.free_spec hi hfree) hdn (by simpa using hrd) hy (yV _ _ _ _)
     (ih _ _ _ _ hp' (hdn.set (by simpa using hrd)) (hf.put o.dst v (oK ho)) (hs.oU ho) (qN hr' (Ext.refl _ _ _ _) ra) hv)
   rcases h with ⟨hw,hv⟩|⟨hw,hv⟩
   ·have hH:xu n σ F w (uJ D H):=fun k b hk=>st.blk k b (wM hk).2
    obtain⟨av,v,hk,ra,hrun⟩:=Ih hv Iw hH st.hrep hr'
    refine go v av (.inl ⟨hw,fun u hu=> ?_⟩) ra hk
    rw [hf.eval]
    obtain⟨v',he,hvv,_⟩:=(tK (hrun u true (fun v' u'=>v'=v∧u'=u) (Iu st hu) ⟨rfl,rfl⟩)).quiet hq
    rw [he,hvv]
   ·exact go undef (.v undef) (.inr ⟨hw,rfl⟩) (.v undef) hv
  ·cases h
theorem VZ {n:Nat}{σ:Nat->Loc}{F:Nat->Prop}{H:lM}{w w':World}{D:List Nat}(st:St G lY mG mJ n σ F H w){n':Nat}{σ':Nat->Loc}{F':Nat->Prop}{H':lM}(s:St G w (wL w σ (vV D H)) F n' σ' F' H' w')(x:Ext n σ F w n' σ' F' w') :
  ∀u,Keeps σ' D (H'++uJ D H) w' u->Keeps σ D H w u:=by
 intro u hu
 refine⟨dM x.sz hu.1,fun b hb hn=> ?_⟩
 rw [hu.2 b (bg hb x.sz) fun⟨k,c,e1,e2,e3⟩=> ?_]
 ·exact s.qM.block b hb hn
 ·obtain⟨f1,f2⟩:=sV e1
  rcases nY f2 with g1|⟨_,g1⟩
  ·rcases(s.mu k c b g1 e2 e3).2.2.2 with e|e
   ·exact hn e
   ·omega
  ·have h0:=wM g1
   have:=h0.1
   rw [f1]at this;cases this
theorem Um {K:l9->Nat->lM->Prop}{oD:l9}{n:Nat}{σ:Nat->Loc}{F:Nat->Prop}{H:lM}{ρ:mW}{a:Act}{w:World}(hok : ∀o∈ops.toList,rG N W o=true∧xX o=true)
  (hf:Fits N ds ρ a) (hs:Same W lW ρ) (st:St G lY mG mJ n σ F H w) (x:Ext nb rC Fb wb n σ F w) (hr:rZ n σ F w oD ρ)
  {T ts:List Nat} {ns:List Nd} {p:Plan} {e:Nat} {D:List Nat} {ws:Nat->Bool} {A:Nat->NS} (hd:Ah ops T ts ns p e=true) (hws:(ops.toList.all fun o=>match o.dst with|some d=>ws d|none=>true)=true)
  (hle : ∀j,n<=(A j).n) (hun : ∀j s,ws s=false->(A j).ρ s=oD s)
  (h0:X0 P G ops.toList (uJ D H) H ts oD fun ρ'=>MR (J5 G ws n ρ' n (vV D H) (A 0).ρ (A 0).n (A 0).H))
  (hstep : ∀k nd,ns[k]? = some nd->∀s∈nd.succ,Iq P G ops.toList ws n A k s)
  (hE : ∀k nd,ns[k]? = some nd->nd.succ = []->aD P G ops.toList D p (A k).ρ (A k).n ((A k).H++uJ D H) K) :
  wpAny P .any ops (RA (MS G lY mG mJ N ds W lW nb rC Fb wb K)) ops.size (Array.replicate ops.size false) a w.drew:=by
 have e1:=Iy n σ F w
 simp only [Ah,aB]at hd
 obtain⟨⟨⟨⟨⟨⟨htl,hsel⟩,abb⟩,hpo⟩,Ed⟩,hpl⟩,htk⟩:=hd
 have htl:=aP htl
 have hok2 : ∀o∈ops.toList,rG N (fun k=>W k&&ws k) o=true∧xX o=true:=fun o ho=>by
  refine⟨?_,(hok o ho).2⟩
  have h1:=(hok o ho).1
  have h2:=bP.1 hws o ho
  unfold rG at h1 ⊢
  cases hd:o.dst with
  | none=>rfl
  | some d=>
   rw [hd]at h1 h2
   simp only [aB]at h1 ⊢
   exact⟨h1.1,h1.2,h2⟩
 have hr1:rZ n σ F w.drew oD ρ:=fun s=>(hr s).mono e1
 have st1:=st.drew
 have main : ∀fuel,ops.size<=fuel+ts.length->qO P ops (RA (MS G lY mG mJ N ds W lW nb rC Fb wb K)) (fuel+ts.length) T (Keeps σ D H w.drew) (Array.replicate ops.size false) a w.drew:=by
  intro fuel hfuel
  refine Py (W:=fun k=>W k&&ws k) (lW:=ρ) hsel hok2 st1 (fun listed pz ρ' a' hk hdn hf' hs' hr' hK=> ?_) ts _ oD ρ a htk (fun j o _ hl=>by rw [wS]at hl;cases hl) hf (Same.refl _ _) hr1 h0
  split at hk
  ·rename_i n0 hn0
   simp only [aB,beq_iff_eq]at hk
   obtain⟨rfl,hsz⟩:=hk
   have hsz:=aP hsz
   obtain⟨σ2,F2,s2,r2,l2,f2⟩:=hK.holds w.drew (wL w.drew σ (vV D H)) F σ F w.drew ρ' (st1.sub fun k b hk=>(sV hk).2).start fun t _=>hr' t
   have x2:Ext n σ F w.drew (A 0).n σ2 F2 w.drew:=⟨hle 0,l2,fun b hb=>⟨f2 b hb,rfl⟩,aA _⟩
   refine VY (e:=e) abb hok2 hle hun hr1 hstep (fun k nd hk hnil σ' F' ρ3 a3 w3 akQ hf3 hs3 s3 x3 hr3 fuel' Ec=> ?_) n0.dep 0 n0 hn0 (aA _) σ2 F2 ρ' a' w.drew hdn hf' hs' s2 x2 (fun t=> ?_) fuel (by omega)
   ·have akR:pF ops p nd.listed=true:=by
     have:=bP.1 hpl nd (aZ hk)
     rw [hnil]at this
     simpa using this
    have hj:=st1.join (fun k b hk=>(sV hk).2) X3 s3 x3
    refine zJ (VZ st1 s3 x3) _ _ _ _ ?_
    have:=zK (nb:=nb) (rC:=rC) (Fb:=Fb) (wb:=wb) (W:=W) (lW:=lW) hsel hok p D T nd.listed (A k).ρ (A k).n σ' F' _ ρ3 a3 w3 akR hpo akQ hf3 (hs.trans fun t ht=>hs3 t (by simp [ht])) hj ((x.trans e1).trans x3) hr3 (hE k nd hk hnil) fuel' (dM (aP Ed) Ec)
    exact this
   ·cases hw:ws t with
    | true=>exact r2 t hw
    | false=>
     rw [hun _ t hw,hs' t (by simp [hw])]
     exact(hr1 t).mono x2
  ·cases hk
 have h:=main (ops.size-ts.length) (by omega)
 rw [Nat.sub_add_cancel htl]at h
 exact uh _ _ _ _ _ _ h
theorem zI.sound {id:Nat}{K:l9->Nat->lM->Prop}{oD:l9}{n:Nat}{σ:Nat->Loc}{F:Nat->Prop}{H:lM}{ρ:mW}{a:Act}{w:World}(hm:P.follows .mixedOrders=true)(hok : ∀o∈ops.toList,rG N W o=true∧xX o=true)
  (hf:Fits N ds ρ a) (hs:Same W lW ρ) (st:St G lY mG mJ n σ F H w) (x:Ext nb rC Fb wb n σ F w) (hr:rZ n σ F w oD ρ) (h:zI P G id ops K oD n H) :
  (Code.region id ops true).wp P (RA (MS G lY mG mJ N ds W lW nb rC Fb wb K)) a w:=by
 have e:=Iy n σ F w
 rcases h.ex with ⟨p,D,hd,hv⟩|⟨p,D,ws,ρ',n',H',hd,hws,hle,hun,hv,hk⟩|⟨T,ts,ns,p,e',D,ws,A,hd,hws,hle,hun,h0,hstep,hE⟩
 ·simp only [xJ,xW,aB]at hd
  obtain⟨⟨⟨hsel,Ed⟩,hp⟩,hpo⟩:=hd
  exact wp_region_any hm (uh _ _ _ _ _ _ (zK hsel hok p D (takes p) _ oD n σ F H ρ a w.drew hp hpo (fun j o _ hl=>by rw [wS]at hl;cases hl) hf hs st.drew (x.trans e) (fun s=>(hr s).mono e) hv ops.size (aP Ed)))
 ·simp only [xJ,xW,aB]at hd
  obtain⟨⟨⟨hsel,Ed⟩,hp⟩,hpo⟩:=hd
  have hok2 : ∀o∈ops.toList,rG N (fun k=>W k&&ws k) o=true∧xX o=true:=fun o ho=>by
   refine⟨?_,(hok o ho).2⟩
   have h1:=(hok o ho).1
   have h2:=bP.1 hws o ho
   unfold rG at h1 ⊢
   cases hd:o.dst with
   | none=>rfl
   | some d=>
    rw [hd]at h1 h2
    simp only [aB]at h1 ⊢
    exact⟨h1.1,h1.2,h2⟩
  have hr':rZ n σ F w.drew oD ρ:=fun s=>(hr s).mono e
  refine Go.wp_mono (wp_region_any hm (uh _ _ _ _ _ _ (zK (W:=fun k=>W k&&ws k) (lW:=ρ) (nb:=n) (rC:=σ) (Fb:=F) (wb:=w.drew) hsel hok2 p D (takes p) _ oD n σ F H ρ a w.drew hp hpo (fun j o _ hl=>by rw [wS]at hl;cases hl) hf (Same.refl _ _) st.drew (Ext.refl _ _ _ _) hr' hv ops.size (aP Ed)))) fun ex a' w' hq=> ?_
  cases ex with
  | normal=>
   obtain⟨Pz,afV,Uc,DV,MV,qW,X5,hs₁,X6,Oz,X7,X8⟩:=hq
   obtain⟨σ',F',s',r',l',f'⟩:=X8.holds lY mG mJ DV MV w' Pz X6 fun s _=>X7 s
   have x':Ext n σ F w.drew n' σ' F' w':=⟨hle,fun l hl=>(l' l hl).trans (Oz.s l hl),fun b hb=>⟨f' b (Oz.f b hb).1,(Oz.f b hb).2⟩,Oz.sz⟩
   refine⟨Pz,ρ',n',σ',F',H',X5,hs.trans fun k hk=>hs₁ k (by simp [hk]),s',(x.trans e).trans x',fun s=> ?_,hk⟩
   cases Sv:ws s with
   | true=>exact r' s Sv
   | false=>
    rw [hun s Sv,hs₁ s (by simp [Sv])]
    exact(hr' s).mono x'
  | exit id=>exact hq.elim
  | ret=>exact hq.elim
  | goto l=>exact hq.elim
  | panic ch=>exact hq.elim
  | outgrown=>exact hq.elim
 ·exact wp_region_any hm (Um hok hf hs st x hr hd hws hle hun h0 hstep hE)
end
def aiC (V:(Ex->l9->Nat->lM->Prop)->l9->Nat->lM->Prop)(Q:Ex->l9->Nat->lM->Prop)(e:Ex)(ρ:l9)(n:Nat)(H:lM):Prop:=
 match e with
 | .normal=>V Q ρ n H
 | .exit id=>Q (.exit id) ρ n H
 | .ret=>Q .ret ρ n H
def abd (id:Nat)(Q:Ex->l9->Nat->lM->Prop)(e:Ex)(ρ:l9)(n:Nat)(H:lM):Prop:=
 match e with
 | .normal=>Q .normal ρ n H
 | .exit j=>Q (bif Nat.beq j id then .normal else .exit j) ρ n H
 | .ret=>Q .ret ρ n H
def Sz (R:l9->Nat->lM->Prop)(Q:Ex->l9->Nat->lM->Prop)(e:Ex)(ρ:l9)(n:Nat)(H:lM):Prop:=
 match e with
 | .normal=>R ρ n H
 | .exit id=>Q (.exit id) ρ n H
 | .ret=>Q .ret ρ n H
structure Iz (p:Prop):Prop where
 holds:p
structure Un (G:Glob)(body:Code)(B:(Ex->l9->Nat->lM->Prop)->l9->Nat->lM->Prop)(Q:Ex->l9->Nat->lM->Prop)(ρ:l9)(n:Nat)(H:lM):Prop where
 ex : ∃(ws:Nat->Bool) (I:Nat->l9->lM->Prop) (nl:Nat),writesIn ws body=true∧n<=nl∧(∀m ρ' H',I m ρ' H'->∀s,ws s=false->ρ' s=ρ s)∧(∃m ρ' H',I m ρ' H'∧J5 G ws n ρ n H ρ' nl H')∧
  ∀m ρ' H',I m ρ' H'->
   B (Sz (fun qc n'' um=>Iz (∃m',m'<m∧∃pV qW,I m' pV qW∧J5 G ws n qc n'' um pV nl qW)) Q) ρ' nl H'
def aC (P:Program)(G:Glob)(c:Code)(Q:Ex->l9->Nat->lM->Prop)(ρ:l9)(n:Nat)(H:lM):Prop:=
 match c with
 | .skip=>Q .normal ρ n H
 | .region id ops draw=>(match draw with
  | false=>VX P G ops.toList ops.toList ρ n H (Q .normal)
  | true=>zI P G id ops (Q .normal) ρ n H)
 | .seq a b=>aC P G a (aiC (aC P G b) Q) ρ n H
 | .cond c t e=>(match o7 ρ c with
  | .v (.bool b)=>OE b (aC P G t Q ρ n H) (aC P G e Q ρ n H)
  | _=>False)
 | .block id body=>aC P G body (abd id Q) ρ n H
 | .loop body=>Un G body (aC P G body) Q ρ n H
 | .exit id=>Q (.exit id) ρ n H
 | .ret=>Q .ret ρ n H
 | .label _=>Q .normal ρ n H
 | .scope body=>aC P G body Q ρ n H
 | _=>False
def qw (N:Nat)(W:Nat->Bool):Code->Bool
 | .region _ ops _=>ops.toList.all fun o=>rG N W o&&xX o
 | .seq a b=>qw N W a&&qw N W b
 | .cond _ a b=>qw N W a&&qw N W b
 | .block _ b=>qw N W b
 | .loop b=>qw N W b
 | .scope b=>qw N W b
 | .skip | .exit _ | .ret | .label _=>true
 | _=>false
theorem MW {N:Nat}{W ws:Nat->Bool} : ∀c:Code,qw N W c=true->writesIn ws c=true->qw N (fun k=>W k&&ws k) c=true:=by
 intro c
 induction c with
 | region id ops d=>
  intro h1 h2
  simp only [qw,writesIn,bP,aB]at *
  intro o ho
  obtain⟨a1,a3⟩:=h1 o ho
  have a2:=h2 o ho
  refine⟨?_,a3⟩
  unfold rG at *
  unfold aaU at a2
  cases hd:o.dst with
  | none=>rfl
  | some d=>simp only [hd,aB]at a1 a2 ⊢;exact⟨a1.1,a1.2,a2⟩
 | seq a b iha ihb=>intro h1 h2;simp only [qw,writesIn,aB]at *;exact⟨iha h1.1 h2.1,ihb h1.2 h2.2⟩
 | cond c a b iha ihb=>intro h1 h2;simp only [qw,writesIn,aB]at *;exact⟨iha h1.1 h2.1,ihb h1.2 h2.2⟩
 | block id b ih=>intro h1 h2;simp only [qw,writesIn]at *;exact ih h1 h2
 | loop b ih=>intro h1 h2;simp only [qw,writesIn]at *;exact ih h1 h2
 | scope b ih=>intro h1 h2;simp only [qw,writesIn]at *;exact ih h1 h2
 | label l=>intro _ _;rfl
 | skip=>intro _ _;rfl
 | exit id=>intro _ _;rfl
 | ret=>intro _ _;rfl
 | _=>intro h1 _;simp [qw]at h1
section
variable {P:Program}{G:Glob}{lY:World}{mG mJ:Nat->Prop}{N:Nat}{ds:List Deferred}
theorem X9 (hm:P.follows .mixedOrders=true) : ∀(c:Code) (W:Nat->Bool) (Q:Ex->l9->Nat->lM->Prop) (oD:l9) (n:Nat) (H:lM) (ρ lW:mW) (a:Act) (w:World) (σ:Nat->Loc) (F:Nat->Prop) (nb:Nat) (rC:Nat->Loc) (Fb:Nat->Prop) (wb:World),
  qw N W c=true->Fits N ds ρ a->Same W lW ρ->St G lY mG mJ n σ F H w->Ext nb rC Fb wb n σ F w->rZ n σ F w oD ρ->aC P G c Q oD n H->c.wp P (AQ G lY mG mJ N ds W lW nb rC Fb wb Q) a w:=by
 intro c
 induction c with
 | skip=>intro W Q oD n H ρ lW a w σ F nb rC Fb wb _ hf hs st x hr h;exact wp_skip ⟨ρ,oD,n,σ,F,H,hf,hs,st,x,hr,h⟩
 | region id ops draw=>
  intro W Q oD n H ρ lW a w σ F nb rC Fb wb hc hf hs st x hr h
  have hok : ∀o∈ops.toList,rG N W o=true∧xX o=true:=by simpa only [qw,bP,aB]using hc
  have mono : ∀e a w,RA (MS G lY mG mJ N ds W lW nb rC Fb wb (Q .normal)) e a w->AQ G lY mG mJ N ds W lW nb rC Fb wb Q e a w:=fun e a w hq=>by cases e<;>first|exact hq|exact hq.elim
  cases draw with
  | false=>
   refine Go.wp_mono (wp_region ?_) mono
   have hlen:ops.toList.length=ops.size:=by simp
   rw [jr, <-hlen]
   exact Ir (K:=Q .normal) (Q:=RA (MS G lY mG mJ N ds W lW nb rC Fb wb (Q .normal))) (fun a' w' h=>h) ops.toList 0 oD n σ F H ρ a w (fun j=>by rw [aV]) hok hf hs st x hr h
  | true=>exact Go.wp_mono (zI.sound hm hok hf hs st x hr h) mono
 | seq c1 c2 ih1 ih2=>
  intro W Q oD n H ρ lW a w σ F nb rC Fb wb hc hf hs st x hr h
  simp only [qw,aB]at hc
  refine wp_seq (Go.wp_mono (ih1 W _ oD n H ρ lW a w σ F nb rC Fb wb hc.1 hf hs st x hr h) fun e a' w' hq=> ?_)
  cases e with
  | normal=>
   obtain⟨ρ',pz,n',σ',F',H',hf',hs',st',x',hr',hv⟩:=hq
   exact ih2 W Q pz n' H' ρ' lW a' w' σ' F' nb rC Fb wb hc.2 hf' hs' st' x' hr' hv
  | exit id=>exact hq
  | ret=>exact hq
  | goto l=>exact hq
  | panic ch=>exact hq
  | outgrown=>exact hq
 | cond c c1 c2 ih1 ih2=>
  intro W Q oD n H ρ lW a w σ F nb rC Fb wb hc hf hs st x hr h
  simp only [qw,aB]at hc
  simp only [aC]at h
  split at h
  ·rename_i b hb
   have rc:=nU hr c
   rw [hb]at rc
   refine wp_cond (t:=b) (by rw [hf.eval];exact rc.oJ) ?_
   cases b with
   | true=>exact ih1 W Q oD n H ρ lW a w σ F nb rC Fb wb hc.1 hf hs st x hr h
   | false=>exact ih2 W Q oD n H ρ lW a w σ F nb rC Fb wb hc.2 hf hs st x hr h
  ·cases h
 | block id b ih=>
  intro W Q oD n H ρ lW a w σ F nb rC Fb wb hc hf hs st x hr h
  refine wp_block (Go.wp_mono (ih W _ oD n H ρ lW a w σ F nb rC Fb wb hc hf hs st x hr h) fun e a' w' hq=> ?_)
  cases e with
  | normal=>exact hq
  | exit j=>
   obtain⟨ρ',pz,n',σ',F',H',hf',hs',st',x',hr',hv⟩:=hq
   simp only [abd]at hv
   simp only [Exit.inBlock]
   by_cases hj:j=id
   ·subst hj
    rw [iT,cond_true]at hv
    simp only [if_true]
    exact⟨ρ',pz,n',σ',F',H',hf',hs',st',x',hr',hv⟩
   ·have hb:Nat.beq j id=false:=by
     cases hb:Nat.beq j id with
     | false=>rfl
     | true=>exact absurd (aF hb) hj
    rw [hb,cond_false]at hv
    rw [if_neg hj]
    exact⟨ρ',pz,n',σ',F',H',hf',hs',st',x',hr',hv⟩
  | ret=>exact hq
  | goto l=>exact hq
  | panic ch=>exact hq
  | outgrown=>exact hq
 | loop b ih=>
  intro W Q oD n H ρ lW a w σ F nb rC Fb wb hc hf hs st x hr h
  obtain⟨ws,I,nl,hw,hle,afW,⟨m0,ρ0,H0,hI0,PD⟩,SA⟩:=h.ex
  have hc':=MW b hc hw
  let J:Nat->Act->World->Prop:=fun m a' w'=> ∃ρ' pz σ' F' H',Fits N ds ρ' a'∧Same (fun k=>W k&&ws k) ρ ρ'∧I m pz H'∧St G lY mG mJ nl σ' F' H' w'∧Ext n σ F w nl σ' F' w'∧rZ nl σ' F' w' pz ρ'
  have mk : ∀m (ρ':mW) (pz pV:l9) n' (σ':Nat->Loc) (F':Nat->Prop) H' qW a' w',Fits N ds ρ' a'->Same (fun k=>W k&&ws k) ρ ρ'->St G lY mG mJ n' σ' F' H' w'->Ext n σ F w n' σ' F' w'->rZ n' σ' F' w' pz ρ'->
    I m pV qW->J5 G ws n pz n' H' pV nl qW->J m a' w':=by
   intro m ρ' pz pV n' σ' F' H' qW a' w' hf' hs' st' x' hr' hI afX
   obtain⟨DV,MV,s1,r1,l1,f1⟩:=afX lY mG mJ σ' F' w' ρ' st' fun s _=>hr' s
   have x1:Ext n σ F w nl DV MV w':=⟨hle,fun l hl=>(l1 l hl).trans (x'.s l hl),fun b hb=>⟨f1 b (x'.f b hb).1,(x'.f b hb).2⟩,x'.sz⟩
   refine⟨ρ',pV,DV,MV,qW,hf',hs',hI,s1,x1,fun s=> ?_⟩
   cases hws:ws s with
   | true=>exact r1 s hws
   | false=>
    rw [afW m pV qW hI s hws,hs' s (by simp [hws])]
    exact(hr s).mono x1
  refine Hy J m0 (mk m0 ρ oD ρ0 n σ F H H0 a w hf (Same.refl _ _) st (Ext.refl _ _ _ _) hr hI0 PD) fun m a' w' ⟨ρ',pz,σ',F',H',hf',hs',hI,st',x',hr'⟩=> ?_
  refine Go.wp_mono (ih (fun k=>W k&&ws k) _ pz nl H' ρ' ρ a' w' σ' F' n σ F w hc' hf' hs' st' x' hr' (SA m pz H' hI)) fun e a'' w'' hq=> ?_
  have up : ∀ {qc},Same (fun k=>W k&&ws k) ρ qc->Same W lW qc:=fun h'=>hs.trans fun k hk=>h' k (by simp [hk])
  cases e with
  | normal=>
   obtain⟨qc,wY,n'',AO,QV,um,wU,wV,IB,x'',IC,hv⟩:=hq
   obtain⟨m',hlt,pV,qW,hI₁,MX⟩:=hv.holds
   exact⟨m',hlt,mk m' qc wY pV n'' AO QV um qW a'' w'' wU wV IB x'' IC hI₁ MX⟩
  | exit id=>obtain⟨qc,wY,n'',AO,QV,um,wU,wV,IB,x'',IC,hv⟩:=hq;exact⟨qc,wY,n'',AO,QV,um,wU,up wV,IB,x.trans x'',IC,hv⟩
  | ret=>obtain⟨qc,wY,n'',AO,QV,um,wU,wV,IB,x'',IC,hv⟩:=hq;exact⟨qc,wY,n'',AO,QV,um,wU,up wV,IB,x.trans x'',IC,hv⟩
  | goto l=>exact hq
  | panic ch=>exact hq
  | outgrown=>exact hq
 | exit id=>intro W Q oD n H ρ lW a w σ F nb rC Fb wb _ hf hs st x hr h;exact Go.wp_exit ⟨ρ,oD,n,σ,F,H,hf,hs,st,x,hr,h⟩
 | ret=>intro W Q oD n H ρ lW a w σ F nb rC Fb wb _ hf hs st x hr h;exact Go.wp_ret ⟨ρ,oD,n,σ,F,H,hf,hs,st,x,hr,h⟩
 | label l=>intro W Q oD n H ρ lW a w σ F nb rC Fb wb _ hf hs st x hr h;exact Go.wp_label ⟨ρ,oD,n,σ,F,H,hf,hs,st,x,hr,h⟩
 | scope b ih=>
  intro W Q oD n H ρ lW a w σ F nb rC Fb wb hc hf hs st x hr h
  refine Go.wp_scope_straight (Go.wp_mono (ih W Q oD n H ρ lW a w σ F nb rC Fb wb hc hf hs st x hr h) fun e a' w' hq=> ?_)
  cases e with
  | normal=>exact hq
  | exit id=>exact hq
  | ret=>exact hq
  | goto l=>exact hq
  | panic ch=>exact hq
  | outgrown=>exact hq
 | _=>intro W Q oD n H ρ lW a w σ F nb rC Fb wb hc;simp [qw]at hc
end
structure J6 (G:Glob)(nb:Nat)(R:AV->Nat->lM->Prop)(a:AV)(n:Nat)(H:lM):Prop where
 ex : ∃a' n' H',R a' n' H'∧nb<=n'∧∀lY mG mJ σ F w v,St G lY mG mJ n σ F H w->nI n σ F w a v->∃σ' F',St G lY mG mJ n' σ' F' H' w∧nI n' σ' F' w a' v∧(∀l,l<nb->σ' l=σ l)∧∀b,F b->F' b
def MZ (P:Program)(rs:List ResultVar)(ρ:l9)(H:lM)(k:List AV->Prop):Prop:=
 match rs with
 | []=>k []
 | .tmp t::r=>af (ρ t) fun v=>MZ P r ρ H fun vs=>k (v::vs)
 | .cell a t::r=>Ug P H t (ρ a) fun v=>MZ P r ρ H fun vs=>k (v::vs)
def Ya (vs:List AV):AV:=match vs with | [v]=>v|vs=> .nN vs
def aiD (P:Program)(G:Glob)(nb:Nat)(fn:Func)(R:AV->Nat->lM->Prop)(e:Ex)(ρ:l9)(n:Nat)(H:lM):Prop:=
 match e with
 | .normal=>MZ P fn.results.toList ρ H fun vs=>J6 G nb R (Ya vs) n H
 | .ret=>MZ P fn.results.toList ρ H fun vs=>J6 G nb R (Ya vs) n H
 | .exit _=>False
def abe (l:List AV)(n:Nat):AV:=
 match l,n with
 | [],_=> .top
 | v::_,0=>v
 | _::r,n+1=>abe r n
def Aj (args:List AV):l9:=fun n=>abe args n
section
variable {P:Program}{G:Glob}{lY:World}{mG mJ:Nat->Prop}{n:Nat}{σ:Nat->Loc}{F:Nat->Prop}{H:lM}{w:World}
theorem PE : ∀ {as:List AV} {vs:List Value},nX n σ F w as vs->∀k,nI n σ F w (abe as k) (nth vs k):=by
 intro as
 induction as with
 | nil=>intro vs _ k;simp only [abe];exact .top _
 | cons a as ih=>intro vs h k;cases vs with
  | nil=>exact h.elim
  | cons v vs=>cases k with
   | zero=>exact h.1
   | succ k=>exact ih h.2 k
theorem IE {oD:l9}{ρ:mW}(hH:xu n σ F w H)(hr:rZ n σ F w oD ρ) : ∀(rs:List ResultVar) (k:List AV->Prop) (kv:List Value->Prop),MZ P rs oD H k->(∀as vs,k as->nX n σ F w as vs->kv vs)->Hz P rs ρ w kv:=by
 intro rs
 induction rs with
 | nil=>intro k kv h hk;exact hk [] [] h trivial
 | cons r rs ih=>
  intro k kv h hk
  cases r with
  | tmp t=>
   simp only [MZ,rH]at h
   simp only [Hz,force_eq]
   exact ih _ _ h fun as vs h1 h2=>hk _ _ h1 ⟨hr t,h2⟩
  | cell a t=>
   simp only [MZ]at h
   obtain⟨p,hp,av,v,h1,h2,h3⟩:=Fj h (hr a) hH
   simp only [Hz,hp]
   exact h3 w true _ (vJ.refl _ _ _ _) (ih _ _ h1 fun as vs g1 g2=>hk _ _ g1 ⟨h2,g2⟩)
theorem PG {as:List AV}{vs:List Value}(r:nX n σ F w as vs):nI n σ F w (Ya as) (nN vs):=by
 match as,vs,r with
 | [],[],r=>exact r.nN
 | [a],[v],r=>exact r.1
 | a::b::as,u::v::vs,r=>exact r.nN
theorem lQ {f:FuncId}{fn:Func}{c:Code}{args:List AV}{R:AV->Nat->lM->Prop}(hf:P.funcs[f]? = some fn)(hb:fn.body=some c)(hm:P.follows .mixedOrders=true)
  (hok:(Nat.ble args.length fn.ntmps&&qw fn.ntmps (fun _=>true) c)=true) (h:aC P G c (aiD P G n fn R) (Aj args) n H):mQ P G f args n H R:=by
 intro w σ F vs st r
 simp only [aB]at hok
 have hN:=aP hok.1
 have hl:=r.len
 refine calls_of_wp hf hb ?_
 have hfit:Fits fn.ntmps [] (tY vs.toArray) {tmps:=vs.toArray++Array.replicate (fn.ntmps-vs.toArray.size) undef,defers:= []}:=by
  refine⟨by simp;omega,fun t=> ?_,rfl⟩
  simp only [tY,BZ]
  rw [iw,ay,jk]
  by_cases ht:t<vs.toArray.size
  ·simp only [if_pos ht,kZ]
  ·simp only [ht,if_false]
   have ht':vs.length<=t:=by simpa using ht
   rw [fG ht']
   rw [kL]
   split<;>rfl
 refine Go.wp_mono (X9 hm c (fun _=>true) _ (Aj args) n H _ (tY vs.toArray) _ w σ F n σ F w hok.2 hfit (Same.refl _ _) st (Ext.refl _ _ _ _) (fun s=>by
  have:=PE r s
  simpa [tY,Aj]using this) h) fun e a' w' hq=> ?_
 have res : ∀ {ρ':mW} {pz:l9} {n':Nat} {σ':Nat->Loc} {F':Nat->Prop} {H':lM},Fits fn.ntmps [] ρ' a'->St G w (wL w σ H) F n' σ' F' H' w'->Ext n σ F w n' σ' F' w'->rZ n' σ' F' w' pz ρ'->
   (MZ P fn.results.toList pz H' fun vs=>J6 G n R (Ya vs) n' H')->
   a'.defers = []∧∃v,(results fn a'.tmps).run P w' = .ok v w'∧∃u,Ending.returned v = .returned u∧∃a n' σ' F' H',R a n' H'∧St G w (wL w σ H) F n' σ' F' H' w'∧Ext n σ F w n' σ' F' w'∧nI n' σ' F' w' a u:=by
  intro ρ' pz n' σ' F' H' hf' st' x' hr' hv
  obtain⟨vs,hrun,hk⟩:=HY hf'.get _ _ (IE st'.hrep hr' _ _ (fun vs=> ∃a n' σ' F' H',R a n' H'∧St G w (wL w σ H) F n' σ' F' H' w'∧Ext n σ F w n' σ' F' w'∧nI n' σ' F' w' a (nN vs)) hv fun as vs he hl=>by
   obtain⟨a1,n1,H1,hR,hn,hco⟩:=he.ex
   obtain⟨σ1,F1,s1,r1,l1,f1⟩:=hco _ _ _ _ _ _ _ st' (PG hl)
   exact⟨a1,n1,σ1,F1,H1,hR,s1,⟨hn,fun l hl=>(l1 l hl).trans (x'.s l hl),fun b hb=>⟨f1 b (x'.f b hb).1,(x'.f b hb).2⟩,x'.sz⟩,r1⟩)
  refine⟨hf'.defers,nN vs, ?_,nN vs,rfl,hk⟩
  rw [yR,Sem.run_bind,jC,Sem.run_map]
  rw [hrun]
  simp only [Result.andThen_ok,Sem.run_pure]
  congr 1
  match vs with
  | []=>rfl
  | [v]=>rfl
  | v::u::r=>simp [nN]
 cases e with
 | normal=>obtain⟨ρ',pz,n',σ',F',H',hf',_,st',x',hr',hv⟩:=hq;exact res hf' st' x' hr' hv
 | ret=>obtain⟨ρ',pz,n',σ',F',H',hf',_,st',x',hr',hv⟩:=hq;exact res hf' st' x' hr' hv
 | exit id=>obtain⟨ρ',pz,n',σ',F',H',hf',_,st',x',hr',hv⟩:=hq;exact hv.elim
 | goto l=>exact hq.elim
 | panic ch=>exact hq.elim
 | outgrown=>exact hq.elim
end
inductive Src where
 | lab (mV:Nat)
 | nil
def tr (θ:List (Nat×Src))(k:Nat):Option Src:=
 match θ with
 | []=>none
 | p::r=>bif Nat.beq p.1 k then some p.2 else tr r k
def Fq (θ:List (Nat×Src))(nb k mV:Nat):Prop:=
 match tr θ k with
 | some (.lab e)=>e=mV
 | some .nil=>False
 | none=>Nat.blt k nb=true∧k=mV
mutual
def co (H:lM)(θ:List (Nat×Src))(Z:List Nat)(nb:Nat)(a' a:AV):Prop:=
 match a' with
 | .top=>True
 | .v x'=>(match a with | .v x=>x=x'|_=>False)
 | .lst sz l'=>(match a with
  | .lst sz' l=>sz'=sz∧l=l'
  | .v (.slice none 0 0)=>l' = []
  | .own e=>(match look H e with
   | some (.rows _ sz' l)=>wX Z e=true∧sz'=sz∧l=l'
   | some (.fz sz' l)=>sz'=sz∧l=l'
   | _=>False)
  | .sub e o k=>(match look H e with
   | some (.rows _ sz' l)=>wX Z e=true∧sz'=sz∧(l.drop o).take k=l'
   | some (.fz sz' l)=>sz'=sz∧(l.drop o).take k=l'
   | _=>False)
  | _=>False)
 | .fp cs o=>(match a with | .fp cs' o'=>cs'=cs∧o'=o|_=>False)
 | .fm M=>(match a with
  | .fm M'=>M'=M
  | .mp e=>(match look H e with|some (.VN M')=>M'=M|_=>False)
  | _=>False)
 | .ptr k o=>(match a with | .ptr e o'=>Fq θ nb k e∧o'=o|_=>False)
 | .ep k i o=>(match a with | .ep e i' o'=>Fq θ nb k e∧i'=i∧o'=o|_=>False)
 | .own k=>(match a with
  | .own e=>Fq θ nb k e
  | .v (.slice none 0 0)=>(match tr θ k with|some .nil=>True|_=>False)
  | _=>False)
 | .sub k o n=>(match a with | .sub e o' n'=>Fq θ nb k e∧o'=o∧n'=n|_=>False)
 | .mp k=>(match a with | .mp e=>Fq θ nb k e|_=>False)
 | .fn f xs ys=>(match a with | .fn f' xs' ys'=>f'=f∧QX H θ Z nb xs xs'∧QX H θ Z nb ys ys'|_=>False)
 | .agg cs=>(match a with | .agg cs'=>QX H θ Z nb cs cs'|_=>False)
 | .nN cs=>(match a with | .nN cs'=>QX H θ Z nb cs cs'|_=>False)
def QX (H:lM)(θ:List (Nat×Src))(Z:List Nat)(nb:Nat)(l' l:List AV):Prop:=
 match l' with
 | []=>(match l with | []=>True|_=>False)
 | a'::r'=>(match l with|a::r=>co H θ Z nb a' a∧QX H θ Z nb r' r|_=>False)
end
def coB (H:lM)(θ:List (Nat×Src))(Z:List Nat)(nb:Nat)(b' b:oZ):Prop:=
 match b' with
 | .var t cs=>(match b with | .var t' cs'=>t'=t∧QX H θ Z nb cs cs'|_=>False)
 | .rows t sz l=>(match b with | .rows t' sz' l'=>t'=t∧sz'=sz∧l'=l|_=>False)
 | .fz sz l=>(match b with | .fz sz' l'=>sz'=sz∧l'=l|_=>False)
 | .map M=>(match b with | .map M'=>M'=M|_=>False)
 | .VN M=>(match b with | .VN M'=>M'=M|_=>False)
 | .Bo M=>(match b with | .Bo M'=>M'=M|_=>False)
 | .itr s p=>(match b with | .itr s' p'=>s'=s∧p'=p|_=>False)
 | .tree t sz l none=>(match b with | .tree t' sz' l' none=>t'=t∧sz'=sz∧l'=l|_=>False)
 | .tree t sz l (some (i,j,k))=>(match b with | .tree t' sz' l' (some (i',j',e))=>t'=t∧sz'=sz∧l'=l∧i'=i∧j'=j∧Fq θ nb k e|_=>False)
def QY (H:lM)(θ:List (Nat×Src))(Z:List Nat)(nb:Nat)(H':lM):Prop:=
 match H' with
 | []=>True
 | (k,b')::r=>(match tr θ k with
  | some (.lab e)=>(match look H e with|some b=>coB H θ Z nb b' b|none=>False)
  | some .nil=>(match b' with | .rows _ _ l=>l = []|_=>False)
  | none=>(match look H k with|some b=>coB H θ Z nb b' b|none=>False))∧QY H θ Z nb r
def yE (θ:List (Nat×Src))(k:Nat):Option Nat:=
 match tr θ k with
 | some (.lab e)=>some e
 | some .nil=>none
 | none=>some k
def clash (θ:List (Nat×Src))(k:Nat)(o:Option Nat)(H:lM):Bool:=
 match H with
 | []=>false
 | p::r=>(match o,yE θ p.1 with|some a,some b=>Nat.beq a b&& !(Nat.beq k p.1)|_,_=>false)||clash θ k o r
def wfH (nb n':Nat)(θ:List (Nat×Src))(Z:List Nat)(All H':lM):Bool:=
 match H' with
 | []=>true
 | p::r=>Nat.blt p.1 n'&&(match tr θ p.1 with|none=>Nat.blt p.1 nb|_=>true)&&(match yE θ p.1 with|some e=> !(wX Z e)|none=>true)&& !(clash θ p.1 (yE θ p.1) All)&&wfH nb n' θ Z All r
def wfT (nb n':Nat)(θ:List (Nat×Src)):Bool:=
 match θ with
 | []=>true
 | p::r=>Nat.ble nb p.1&&Nat.blt p.1 n'&&wfT nb n' r
def OA (nb n':Nat)(θ:List (Nat×Src))(Z:List Nat)(H':lM):Bool:=Nat.ble nb n'&&wfT nb n' θ&&wfH nb n' θ Z H' H'
def IG (θ:List (Nat×Src))(σ:Nat->Loc)(JV:Nat->Nat)(k:Nat):Loc:=
 match tr θ k with
 | some (.lab e)=>σ e
 | some .nil=>⟨none,0,0,JV k⟩
 | none=>σ k
def FR (σ:Nat->Loc)(H:lM)(Z:List Nat)(F:Nat->Prop)(b:Nat):Prop:=F b∨∃e t sz l,wX Z e=true∧look H e=some (.rows t sz l)∧(σ e).b=some b
def Ew (H:lM)(k:Nat):Nat:=match look H k with|some (.rows _ sz _)=>sz|_=>0
section
variable {G:Glob}{lY:World}{mG mJ:Nat->Prop}{n n' nb:Nat}{σ:Nat->Loc}{F:Nat->Prop}{H H':lM}{w:World}{θ:List (Nat×Src)}{Z:List Nat}{JV:Nat->Nat}
theorem SB {nb n':Nat} : ∀ {θ:List (Nat×Src)} {k:Nat} {s:Src},wfT nb n' θ=true->tr θ k=some s->nb<=k∧k<n':=by
 intro θ
 induction θ with
 | nil=>intro k s _ h;cases h
 | cons p r ih=>
  intro k s hw h
  simp only [wfT,aB]at hw
  simp only [tr]at h
  cases hb:Nat.beq p.1 k with
  | true=>
   rw [aF hb]at hw
   exact⟨aP hw.1.1,aP hw.1.2⟩
  | false=>rw [hb,cond_false]at h;exact ih hw.2 h
theorem Yb (hw:wfT nb n' θ=true){l:Nat}(hl:l<nb):IG θ σ JV l=σ l:=by
 unfold IG
 cases h:tr θ l with
 | none=>rfl
 | some s=>have:=(SB hw h).1;omega
theorem yF (hw:wfT nb n' θ=true)(hnb:nb<=n'){k e:Nat}(h:Fq θ nb k e):k<n'∧IG θ σ JV k=σ e:=by
 unfold Fq at h
 unfold IG
 split at h
 ·rename_i e' ht
  subst h
  exact⟨(SB hw ht).2,rfl⟩
 ·cases h
 ·rename_i ht
  have:k<nb:=aP h.1
  rw [h.2]at this ⊢
  exact⟨by omega,rfl⟩
theorem afY {F:Nat->Prop}{w:World}{sz b m c k cc o:Nat}{l:List (List FV)}(h:pJ F w (.lst sz l) (.slice (some ⟨b,0,none⟩) m c))(hk:o+k<=m)(h0:0<k)(hkc:k<=cc) :
  pJ F w (.lst sz ((l.drop o).take k)) (.slice (some ⟨b,o*sz,none⟩) k cc):=by
 cases h with
 | lst _ _ _ _ _ b' o' hn hc hnil ho hsz hex hrep=>
  obtain⟨e,hF⟩:=ho (by omega)
  injection e with e
  injection e with e1 e2
  subst e1;subst e2
  have ea : ∀i j,o*sz+(i*sz+j)=0+((o+i)*sz+j):=fun i j=>by rw [bJ];omega
  refine .lst sz _ _ k cc b (o*sz) (by rw [aK,aS];omega) hkc (fun h=>by cases h) (fun _=>⟨rfl,hF⟩) (fun row hr=>hsz row (ig (fD hr))) (fun i j hi hj=> ?_) (fun i j row a v h1 h2 h3=> ?_)
  ·rw [ea];exact hex (o+i) j (by omega) hj
  ·rw [ea]at h3
   rw [bQ]at h1
   split at h1
   ·rw [dA]at h1
    exact hrep (o+i) j row a v h1 h2 h3
   ·cases h1
theorem Uo {n n':Nat}{σ σ':Nat->Loc}{F F':Nat->Prop}{w:World}{e o k sz:Nat}{l:List (List FV)}{v:Value}(h:vU n' σ' F' w (σ e) (.fz sz l))(r:nI n σ F w (.sub e o k) v):nI n' σ' F' w (.lst sz ((l.drop o).take k)) v:=by
 obtain⟨hsz,hn,hf,h0⟩:=h
 cases r with
 | sub _ _ _ oa c hl hk hc hnil ho=>
  refine .lst ?_
  rcases cO k with e0|e0
  ·subst e0
   rw [jv]
   exact .lst sz [] oa 0 c 0 0 rfl hc hnil (fun h=>absurd h (jF 0)) (fun _ h=>by cases h) (fun i j hi=>absurd hi (gI i)) (fun i j row a v hi=>by simp at hi)
  ·obtain⟨b,hb,rfl⟩:=ho e0
   rw [hsz]
   have eo:(σ e).oa=some ⟨b,0,none⟩:=by unfold Loc.oa;rw [hb];rfl
   rw [eo]at hf
   exact afY hf hk e0 hc
mutual
theorem Na (st:St G lY mG mJ n σ F H w)(hw:wfT nb n' θ=true)(hnb:nb<=n')(a' a:AV)(v:Value)(h:co H θ Z nb a' a)(r:nI n σ F w a v):nI n' (IG θ σ JV) (FR σ H Z F) w a' v:=by
 have hF : ∀b,F b->FR σ H Z F b∧w.heap[b]? = w.heap[b]? :=fun b hb=>⟨.inl hb,rfl⟩
 match a' with
 | .top=>exact .top v
 | .v x'=>
  unfold co at h
  split at h
  ·subst h;rw [r.oJ];exact .v _
  ·cases h
 | .lst sz l'=>
  unfold co at h
  split at h
  ·obtain⟨rfl,rfl⟩:=h
   cases r with|lst hf=>exact .lst (hf.mono hF)
  ·subst h;rw [r.oJ];exact .lst (Af sz _)
  ·split at h
   ·rename_i e t sz' l hk
    obtain⟨hz,rfl,rfl⟩:=h
    have:=uS (F':=FR σ H Z F) (st.blk _ _ hk) (fun b hb=> .inl hb) fun g hg=> .inr ⟨_,_,_,_,hz,hk,hg⟩
    cases r with
    | tC _ oa hl hn hc=>
     have e:=this.2.1
     rw [hn]at e
     have:l = []:=aI e.symm
     subst this
     exact .lst (Af _ _)
    | own _ hl=>exact .lst this.2.2.1
   ·rename_i e sz' l hk
    obtain⟨rfl,rfl⟩:=h
    cases r with
    | tC _ oa hl hn hc=>
     have e:=(st.blk _ _ hk).2.1
     rw [hn]at e
     have:l = []:=aI e.symm
     subst this
     exact .lst (Af _ _)
    | own _ hl=>exact .lst ((st.blk _ _ hk).2.2.1.mono hF)
   ·cases h
  ·split at h
   ·rename_i e t sz' l hk
    obtain⟨hz,rfl,rfl⟩:=h
    have hb:=uS (F':=FR σ H Z F) (st.blk _ _ hk) (fun b hb=> .inl hb) fun g hg=> .inr ⟨_,_,_,_,hz,hk,hg⟩
    exact Uo hb r
   ·rename_i e sz' l hk
    obtain⟨rfl,rfl⟩:=h
    exact Uo (n:=n) (σ:=σ) ⟨(st.blk _ _ hk).1,(st.blk _ _ hk).2.1,(st.blk _ _ hk).2.2.1.mono hF,(st.blk _ _ hk).2.2.2⟩ r
   ·cases h
  ·cases h
 | .fp cs o=>
  unfold co at h
  split at h
  ·obtain⟨rfl,rfl⟩:=h
   cases r with|fp hf=>exact .fp (hf.mono hF)
  ·cases h
 | .fm M=>
  unfold co at h
  split at h
  ·subst h
   cases r with|fm hf=>exact .fm (hf.mono hF)
  ·split at h
   ·rename_i e M' hk
    subst h
    obtain⟨g,hg,hf⟩:=st.blk _ _ hk
    cases r with
    | mp _ b hl hb=>
     rw [hb]at hg
     injection hg with hg
     subst hg
     exact .fm (hf.mono hF)
   ·cases h
  ·cases h
 | .ptr k o=>
  unfold co at h
  split at h
  ·obtain⟨h1,rfl⟩:=h
   obtain⟨h2,h3⟩:=yF (σ:=σ) (JV:=JV) hw hnb h1
   cases r with|ptr _ _ b hl hb=>exact .ptr k _ b h2 (by rw [h3];exact hb)
  ·cases h
 | .ep k i o=>
  unfold co at h
  split at h
  ·obtain⟨h1,rfl,rfl⟩:=h
   obtain⟨h2,h3⟩:=yF (σ:=σ) (JV:=JV) hw hnb h1
   cases r with|ep _ _ _ b hl hb=>rw [<-h3];exact .ep k _ _ b h2 (by rw [h3];exact hb)
  ·cases h
 | .own k=>
  unfold co at h
  split at h
  ·obtain⟨h2,h3⟩:=yF (σ:=σ) (JV:=JV) hw hnb h
   cases r with
   | tC _ oa hl hn hc=>exact .tC k oa h2 (by rw [h3];exact hn) (by rw [h3];exact hc)
   | own _ hl=>rw [<-h3];exact .own k h2
  ·split at h
   ·rename_i ht
    rw [r.oJ]
    have:=nI.own (n:=n') (σ:=IG θ σ JV) (F:=FR σ H Z F) (w:=w) k (SB hw ht).2
    unfold IG at this ⊢
    rw [ht]at this
    exact this
   ·cases h
  ·cases h
 | .sub k o m=>
  unfold co at h
  split at h
  ·obtain⟨h1,rfl,rfl⟩:=h
   obtain⟨h2,h3⟩:=yF (σ:=σ) (JV:=JV) hw hnb h1
   cases r with|sub _ _ _ oa c hl hk hc hnil ho=>exact .sub k _ _ oa c h2 (by rw [h3];exact hk) hc hnil (by rw [h3];exact ho)
  ·cases h
 | .mp k=>
  unfold co at h
  split at h
  ·obtain⟨h2,h3⟩:=yF (σ:=σ) (JV:=JV) hw hnb h
   cases r with|mp _ b hl hb=>exact .mp k b h2 (by rw [h3];exact hb)
  ·cases h
 | .fn f xs ys=>
  unfold co at h
  split at h
  ·obtain⟨rfl,h1,h2⟩:=h
   cases r with
   | fn _ _ _ us vs hx hy rx ry=>
    have r1:=vW st hw hnb xs _ us h1 (.of hx rx)
    have r2:=vW st hw hnb ys _ vs h2 (.of hy ry)
    exact .fn _ xs ys us vs r1.len r2.len r1.at r2.at
  ·cases h
 | .agg cs=>
  unfold co at h
  split at h
  ·obtain⟨us,rfl,r2⟩:=nX.H8 r
   exact(vW st hw hnb cs _ us h r2).agg
  ·cases h
 | .nN cs=>
  unfold co at h
  split at h
  ·cases r with
   | nN _ us hx rx=>exact(vW st hw hnb cs _ us h (.of hx rx)).nN
  ·cases h
theorem vW (st:St G lY mG mJ n σ F H w)(hw:wfT nb n' θ=true)(hnb:nb<=n')(l' l:List AV)(vs:List Value)(h:QX H θ Z nb l' l)(r:nX n σ F w l vs):nX n' (IG θ σ JV) (FR σ H Z F) w l' vs:=by
 match l' with
 | []=>
  unfold QX at h
  split at h
  ·cases vs with
   | nil=>trivial
   | cons _ _=>exact r.elim
  ·cases h
 | a'::r'=>
  unfold QX at h
  split at h
  ·cases vs with
   | nil=>exact r.elim
   | cons v vs=>exact⟨Na st hw hnb a' _ v h.1 r.1,vW st hw hnb r' _ vs h.2 r.2⟩
  ·cases h
end
theorem SC {a k:Nat} : ∀ {All:lM} {k':Nat} {b:oZ},clash θ k (some a) All=false->look All k'=some b->yE θ k'=some a->k'=k:=by
 intro All
 induction All with
 | nil=>intro k' b _ h;cases h
 | cons p r ih=>
  intro k' b hc h hs
  obtain⟨x,bx⟩:=p
  simp only [clash,Bool.or_eq_false_iff]at hc
  rw [nG]at h
  split at h
  ·rename_i e
   subst e
   rw [hs]at hc
   have:=hc.1
   simp only [iT,gW,dR,dH]at this
   exact(aF this).symm
  ·exact ih hc.2 h hs
theorem CU {All:lM} : ∀ {H':lM} {k:Nat} {b:oZ},wfH nb n' θ Z All H'=true->look H' k=some b->k<n'∧(tr θ k=none->k<nb)∧(∀e,yE θ k=some e->wX Z e=false)∧clash θ k (yE θ k) All=false:=by
 intro H'
 induction H' with
 | nil=>intro k b _ h;cases h
 | cons p r ih=>
  intro k b hw h
  obtain⟨x,bx⟩:=p
  simp only [wfH,aB]at hw
  obtain⟨⟨⟨⟨w1,w2⟩,w3⟩,w4⟩,w5⟩:=hw
  rw [nG]at h
  split at h
  ·rename_i e
   subst e
   refine⟨aP w1,fun ht=>by rw [ht]at w2;exact aP w2,fun e he=>by rw [he]at w3;simpa using w3,by simpa using w4⟩
  ·exact ih w5 h
theorem zL : ∀ {H':lM} {k:Nat} {b':oZ},QY H θ Z nb H'->look H' k=some b'->
  (∃e b,yE θ k=some e∧look H e=some b∧coB H θ Z nb b' b)∨(tr θ k=some .nil∧∃t sz,b' = .rows t sz []):=by
 intro H'
 induction H' with
 | nil=>intro k b _ h;cases h
 | cons p r ih=>
  intro k b' hc h
  obtain⟨x,bx⟩:=p
  rw [nG]at h
  split at h
  ·rename_i e
   subst e
   injection h with h
   subst h
   have hc:=hc.1
   unfold yE
   cases ht:tr θ x with
   | none=>
    rw [ht]at hc
    cases hl:look H x with
    | none=>simp only [hl]at hc
    | some b=>simp only [hl]at hc;exact .inl ⟨x,b,rfl,hl,hc⟩
   | some s=>
    rw [ht]at hc
    cases s with
    | lab e=>
     cases hl:look H e with
     | none=>simp only [hl]at hc
     | some b=>simp only [hl]at hc;exact .inl ⟨e,b,rfl,hl,hc⟩
    | nil=>
     cases bx<;>simp only at hc
     subst hc
     exact .inr ⟨rfl,_,_,rfl⟩
  ·exact ih hc.2 h
theorem Gi {b' b:oZ}(h:coB H θ Z nb b' b):b'.own=b.own:=by
 unfold coB at h
 split at h
 ·split at h
  ·rfl
  ·cases h
 ·split at h
  ·rfl
  ·cases h
 ·split at h
  ·rfl
  ·cases h
 ·split at h
  ·rfl
  ·cases h
 ·split at h
  ·rfl
  ·cases h
 ·split at h
  ·rfl
  ·cases h
 ·split at h
  ·rfl
  ·cases h
 ·split at h
  ·rfl
  ·cases h
 ·split at h
  ·rfl
  ·cases h
theorem Gj {w:World}{L:Loc}{g:Nat}{b' b:oZ}(h:coB H θ Z nb b' b)(ho:rY w L b' g):rY w L b g:=by
 cases hf:b'.flat with
 | true=>exact .inl (ho.flat hf)
 | false=>
  cases b' with
  | tree t sz l hh=>
   cases hh with
   | some p=>
    obtain⟨i,j,k⟩:=p
    unfold coB at h
    cases b with
    | tree t' sz' l' h'=>
     cases h' with
     | some q=>obtain⟨_,rfl,rfl,_⟩:=h;exact ho
     | none=>exact h.elim
    | _=>exact h.elim
   | none=>
    unfold coB at h
    cases b with
    | tree t' sz' l' h'=>
     cases h' with
     | none=>obtain⟨_,rfl,rfl⟩:=h;exact ho
     | some _=>exact h.elim
    | _=>exact h.elim
  | _=>cases hf
theorem Gl {k e:Nat}(h:yE θ k=some e):IG θ σ JV k=σ e:=by
 unfold yE at h
 unfold IG
 split at h
 ·injection h with h;rename_i ht;rw [h]
 ·cases h
 ·injection h with h;rename_i ht;rw [h]
theorem II (st:St G lY mG mJ n σ F H w)(hw:OA nb n' θ Z H'=true)(hc:QY H θ Z nb H'):St G lY mG mJ n' (IG θ σ (Ew H')) (FR σ H Z F) H' w:=by
 simp only [OA,aB]at hw
 obtain⟨⟨hnb,hT⟩,hH⟩:=hw
 have hnb:=aP hnb
 have hF : ∀b,F b->FR σ H Z F b∧w.heap[b]? = w.heap[b]? :=fun b hb=>⟨.inl hb,rfl⟩
 refine⟨st.glob,st.qM,fun b hb=> ?_,fun k b h=>(CU hH h).1,fun k b g h hm hg=> ?_,fun k k' b b' g h h' hm hm' hg hg'=> ?_,fun k b h=> ?_⟩
 ·rcases hb with hb|⟨e,t,sz,l,_,hk,hb⟩
  ·exact st.oW b hb
  ·obtain⟨_,_,h3,h4⟩:=st.mu e _ b hk rfl (.inl hb)
   exact⟨h3,h4.elim (fun h=> .inr (.inr h)) fun h=> .inr (.inl h)⟩
 ·rcases zL hc h with ⟨e,b0,hs,hk,hb⟩|⟨ht,_⟩
  ·rw [Gl hs]at hg
   rw [Gi hb]at hm
   have hg:=Gj hb hg
   obtain⟨h1,h2,h3,h4⟩:=st.mu e b0 g hk hm hg
   refine⟨fun hf=> ?_,h2,h3,h4⟩
   rcases hf with hf|⟨e',t,sz,l,hz,hk',hg'⟩
   ·exact h1 hf
   ·have:=st.inj e e' b0 _ g hk hk' hm rfl hg (.inl hg')
    subst this
    rw [(CU hH h).2.2.1 e hs]at hz;cases hz
  ·have hg:=hg.flat (by rename_i x;obtain⟨_,_,rfl⟩:=x;rfl)
   unfold IG at hg;rw [ht]at hg;cases hg
 ·have hs : ∃e b0,yE θ k=some e∧look H e=some b0∧b0.own=true∧rY w (σ e) b0 g:=by
   rcases zL hc h with ⟨e,b0,hs,hk,hb⟩|⟨ht,_,_,rfl⟩
   ·exact⟨e,b0,hs,hk,by rw [<-Gi hb];exact hm,by rw [Gl hs]at hg;exact Gj hb hg⟩
   ·have hg:=hg.flat rfl
    unfold IG at hg;rw [ht]at hg;cases hg
  have hs' : ∃e b0,yE θ k'=some e∧look H e=some b0∧b0.own=true∧rY w (σ e) b0 g:=by
   rcases zL hc h' with ⟨e,b0,hs,hk,hb⟩|⟨ht,_,_,rfl⟩
   ·exact⟨e,b0,hs,hk,by rw [<-Gi hb];exact hm',by rw [Gl hs]at hg';exact Gj hb hg'⟩
   ·have hg':=hg'.flat rfl
    unfold IG at hg';rw [ht]at hg';cases hg'
  obtain⟨e,b0,s1,k1,o1,g1⟩:=hs
  obtain⟨e',b0',s2,k2,o2,g2⟩:=hs'
  have:=st.inj e e' b0 b0' g k1 k2 o1 o2 g1 g2
  subst this
  have hcl:=(CU hH h).2.2.2
  rw [s1]at hcl
  exact(SC hcl h' s2).symm
 ·rcases zL hc h with ⟨e,b0,hs,hk,hb⟩|⟨ht,t,sz,rfl⟩
  ·rw [Gl hs]
   have hB:=st.blk e b0 hk
   unfold coB at hb
   split at hb
   ·split at hb
    ·obtain⟨rfl,hb⟩:=hb
     obtain⟨g,vs,h1,h2,h3,h4⟩:=hB
     exact⟨g,vs,h1,h2,vW st hT hnb _ _ vs hb h3,h4⟩
    ·exact hb.elim
   ·split at hb
    ·obtain⟨rfl,rfl,rfl⟩:=hb
     obtain⟨h1,h2,xs,h3,h4⟩:=hB
     exact⟨h1,h2,xs,h3,h4.mono hF⟩
    ·exact hb.elim
   ·split at hb
    ·obtain⟨rfl,rfl⟩:=hb
     exact⟨hB.1,hB.2.1,hB.2.2.1.mono hF,hB.2.2.2⟩
    ·exact hb.elim
   ·split at hb
    ·subst hb
     exact hB
    ·exact hb.elim
   ·split at hb
    ·subst hb
     obtain⟨g,h1,h2⟩:=hB
     exact⟨g,h1,h2.mono hF⟩
    ·exact hb.elim
   ·split at hb
    ·subst hb
     obtain⟨g,h1,h2⟩:=hB
     exact⟨g,h1,h2.mono hF rfl⟩
    ·exact hb.elim
   ·split at hb
    ·obtain⟨rfl,rfl⟩:=hb
     exact hB
    ·exact hb.elim
   ·split at hb
    ·obtain⟨rfl,rfl,rfl⟩:=hb
     obtain⟨h1,h2,xs,h3,h4,h5,_⟩:=hB
     exact⟨h1,h2,xs,h3,h4.mono hF,h5,fun _ _ _ h=>by cases h⟩
    ·exact hb.elim
   ·split at hb
    ·obtain⟨rfl,rfl,rfl,rfl,rfl,hs⟩:=hb
     obtain⟨h1,h2,xs,h3,h4,h5,h6⟩:=hB
     refine⟨h1,h2,xs,h3,h4.mono hF,h5,fun i j e h=> ?_⟩
     injection h with h
     injection h with ee1 h
     injection h with ee2 ee3
     subst ee1;subst ee2;subst ee3
     obtain⟨a1,a2,a3,a4,v,a5,a6⟩:=h6 _ _ _ rfl
     exact⟨(yF (σ:=σ) (JV:=Ew H') hT hnb hs).1,a2,a3,a4,v,a5,Na st hT hnb (.own _) (.own _) v hs a6⟩
    ·exact hb.elim
  ·have e:IG θ σ (Ew H') k=⟨none,0,0,sz⟩:=by
    unfold IG Ew
    rw [ht,h]
   rw [e]
   exact⟨rfl,rfl,[],Own.nil _ _ _ _,qA.nil sz⟩
end
def A8 (l:List (Nat×AV))(n:Nat):Option AV:=
 match l with
 | []=>none
 | p::r=>bif Nat.beq n p.1 then some p.2 else A8 r n
def CV (sl:List (Nat×AV))(ws:List (Nat×Nat))(ρ:l9):l9:=fun n=>
 match A8 sl n with
 | some v=>v
 | none=>bif uG ws n then .top else ρ n
def coS (H:lM)(θ:List (Nat×Src))(Z:List Nat)(nb:Nat)(sl:List (Nat×AV))(ρ:l9):Prop:=
 match sl with
 | []=>True
 | p::r=>co H θ Z nb p.2 (ρ p.1)∧coS H θ Z nb r ρ
theorem Yc {H:lM}{θ:List (Nat×Src)}{Z:List Nat}{nb:Nat}{ρ:l9} : ∀ {sl:List (Nat×AV)} {s:Nat} {a:AV},coS H θ Z nb sl ρ->A8 sl s=some a->co H θ Z nb a (ρ s):=by
 intro sl
 induction sl with
 | nil=>intro s a _ h;cases h
 | cons p r ih=>
  intro s a hc h
  simp only [A8]at h
  cases hb:Nat.beq s p.1 with
  | true=>rw [hb,cond_true]at h;injection h with h;rw [aF hb, <-h];exact hc.1
  | false=>rw [hb,cond_false]at h;exact ih hc.2 h
theorem IJ {G:Glob}{ws:List (Nat×Nat)}{nb n n':Nat}{ρ ρe:l9}{H H':lM}{sl:List (Nat×AV)}(θ:List (Nat×Src))(Z:List Nat)(hw:OA nb n' θ Z H'=true)(hH:QY H θ Z nb H')(hs:coS H θ Z nb sl ρ) :
  J5 G (uG ws) nb ρ n H (CV sl ws ρe) n' H':=by
 intro lY mG mJ σ F w ρc st hr
 have hw':=hw
 simp only [OA,aB]at hw'
 obtain⟨⟨hnb,hT⟩,_⟩:=hw'
 refine⟨_,_,II st hw hH,fun s hss=> ?_,fun l hl=>Yb hT hl,fun b hb=> .inl hb⟩
 unfold CV
 cases hl:A8 sl s with
 | some a=>exact Na st hT (aP hnb) a _ _ (Yc hs hl) (hr s hss)
 | none=>simp only [hss,cond_true];exact .top _
def LI {X:Type}(ws:List (Nat×Nat))(sl:X->List (Nat×AV))(hp:X->lM)(J:X->Prop)(μ:X->Nat)(ρ:l9)(m:Nat)(ρ':l9)(H':lM):Prop:= ∃x,μ x=m∧J x∧ρ'=CV (sl x) ws ρ∧H'=hp x
theorem Ey {s:Nat} : ∀ {l:List (Nat×AV)} {a:AV},A8 l s=some a->s∈l.map (·.1):=by
 intro l
 induction l with
 | nil=>intro a h;cases h
 | cons p r ih=>
  intro a h
  simp only [A8]at h
  cases hb:Nat.beq s p.1 with
  | true=>simp [aF hb]
  | false=>rw [hb,cond_false]at h;simp [ih h]
theorem mO {G:Glob}{X:Type}{body:Code}{B:(Ex->l9->Nat->lM->Prop)->l9->Nat->lM->Prop}{Q:Ex->l9->Nat->lM->Prop}{ρ:l9}{n:Nat}{H:lM}
  (ws:List (Nat×Nat)) (nl:Nat) (ks:List Nat) (sl:X->List (Nat×AV)) (hp:X->lM) (J:X->Prop) (μ:X->Nat) (θ:List (Nat×Src)) (Z:List Nat) (BP:X)
  (hw:(writesIn (uG ws) body&&Nat.ble n nl&&ks.all (uG ws))=true) (hsl : ∀x,(sl x).map (·.1)=ks) (hwf:OA n nl θ Z (hp BP)=true) (hJ:J BP) (hH:QY H θ Z n (hp BP)) (hs:coS H θ Z n (sl BP) ρ)
  (hr : ∀x,J x->B (Sz (fun qc n'' um=>Iz (∃m',m'<μ x∧∃pV qW,LI ws sl hp J μ ρ m' pV qW∧J5 G (uG ws) n qc n'' um pV nl qW)) Q) (CV (sl x) ws ρ) nl (hp x)) :
  Un G body B Q ρ n H:=by
 simp only [aB]at hw
 refine⟨uG ws,LI ws sl hp J μ ρ,nl,hw.1.1,aP hw.1.2, ?_,⟨μ BP,_,_,⟨BP,rfl,hJ,rfl,rfl⟩,IJ θ Z hwf hH hs⟩, ?_⟩
 ·rintro m ρ' H' ⟨x,rfl,hJx,rfl,rfl⟩ s h
  unfold CV
  cases hl:A8 (sl x) s with
  | none=>simp only [h,cond_false]
  | some a=>
   have h1:=Ey hl
   rw [hsl x]at h1
   have:=bP.1 hw.2 s h1
   rw [h]at this
   cases this
 ·rintro m ρ' H' ⟨x,rfl,hJx,rfl,rfl⟩
  exact hr x hJx
theorem lU {G:Glob}{X:Type}{ws:List (Nat×Nat)}{sl:X->List (Nat×AV)}{hp:X->lM}{J:X->Prop}{μ:X->Nat}{ρ qc:l9}{nb nl n'' m:Nat}{um:lM}
  (x':X) (θ:List (Nat×Src)) (Z:List Nat) (hwf:OA nb nl θ Z (hp x')=true) (hlt:μ x'<m) (hJ:J x') (hH:QY um θ Z nb (hp x')) (hs:coS um θ Z nb (sl x') qc) :
  Iz (∃m',m'<m∧∃pV qW,LI ws sl hp J μ ρ m' pV qW∧J5 G (uG ws) nb qc n'' um pV nl qW):=
 ⟨μ x',hlt,_,_,⟨x',rfl,hJ,rfl,rfl⟩,IJ θ Z hwf hH hs⟩
theorem lX {G:Glob}{nb n:Nat}{R:AV->Nat->lM->Prop}{a:AV}{H:lM}(a':AV)(n':Nat)(H':lM)(θ:List (Nat×Src))(Z:List Nat)(hR:R a' n' H')(hwf:OA nb n' θ Z H'=true)(hH:QY H θ Z nb H')(hc:co H θ Z nb a' a) :
  J6 G nb R a n H:=by
 have hw':=hwf
 simp only [OA,aB]at hw'
 obtain⟨⟨hnb,hT⟩,_⟩:=hw'
 have hnb:=aP hnb
 exact⟨a',n',H',hR,hnb,fun lY mG mJ σ F w v st r=>⟨_,_,II st hwf hH,Na st hT hnb a' a v hc r,fun l hl=>Yb hT hl,fun b hb=> .inl hb⟩⟩
def Is (r:AV)(a:AV)(n:Nat)(H:lM):Prop:=a=r∧n=0∧H = []
theorem lZ {G:Glob}{n:Nat}{r a:AV}{H:lM}(Z:List Nat)(hc:co H [] Z 0 r a):J6 G 0 (Is r) a n H:=lX r 0 [] [] Z ⟨rfl,rfl,rfl⟩ rfl trivial hc
mutual
def flat:AV->Bool
 | .v _=>true
 | .top=>true
 | .agg cs=>PI cs
 | .nN cs=>PI cs
 | _=>false
def PI:List AV->Bool
 | []=>true
 | a::r=>flat a&&PI r
end
mutual
theorem CW {n n':Nat}{σ σ':Nat->Loc}{F F':Nat->Prop}{w w':World}(a:AV)(v:Value)(h:flat a=true)(r:nI n σ F w a v):nI n' σ' F' w' a v:=by
 match a with
 | .v x=>rw [r.oJ];exact .v _
 | .top=>exact .top v
 | .agg cs=>
  obtain⟨us,rfl,r2⟩:=nX.H8 r
  exact(Ez cs us h r2).agg
 | .nN cs=>
  cases r with
  | nN _ us hx rx=>exact(Ez cs us h (.of hx rx)).nN
 | .lst _ _=>cases h
 | .fp _ _=>cases h
 | .ptr _ _=>cases h
 | .ep _ _ _=>cases h
 | .own _=>cases h
 | .sub _ _ _=>cases h
 | .mp _=>cases h
 | .fn _ _ _=>cases h
theorem Ez {n n':Nat}{σ σ':Nat->Loc}{F F':Nat->Prop}{w w':World}(l:List AV)(vs:List Value)(h:PI l=true)(r:nX n σ F w l vs):nX n' σ' F' w' l vs:=by
 match l with
 | []=>cases vs with
  | nil=>trivial
  | cons _ _=>exact r.elim
 | a::l=>
  cases vs with
  | nil=>exact r.elim
  | cons v vs=>
   simp only [PI,aB]at h
   exact⟨CW a v h.1 r.1,Ez l vs h.2 r.2⟩
end
theorem mQ.mono {P:Program}{G:Glob}{f:FuncId}{args:List AV}{n:Nat}{H:lM}{R R':AV->Nat->lM->Prop}(h:mQ P G f args n H R)(k : ∀a n H,R a n H->R' a n H):mQ P G f args n H R':=
 fun w σ F vs st r=>(h w σ F vs st r).mono fun v w' ⟨a,n',σ',F',H',hR,rest⟩=>⟨a,n',σ',F',H',k _ _ _ hR,rest⟩
def Fv (Z:List Nat)(H:lM):lM:=
 match H with
 | []=> []
 | (k, .rows t sz l)::r=>bif wX Z k then(k, .fz sz l)::Fv Z r else(k, .rows t sz l)::Fv Z r
 | p::r=>p::Fv Z r
def fN (n:Nat)(k:Nat->Prop):Prop:=
 match n with
 | 0=>k 0
 | m+1=>k (m+1)
def fB (b:oZ)(k:oZ->Prop):Prop:=
 match b with
 | .var t cs=>k (.var t cs)
 | .rows t sz l=>k (.rows t sz l)
 | .fz sz l=>k (.fz sz l)
 | .map M=>k (.map M)
 | .VN M=>k (.VN M)
 | .Bo M=>k (.Bo M)
 | .itr s p=>k (.itr s p)
 | .tree t sz l h=>k (.tree t sz l h)
def fH (H:lM)(k:lM->Prop):Prop:=
 match H with
 | []=>k []
 | (l,b)::r=>fN l fun l'=>fB b fun b'=>fH r fun r'=>k ((l',b')::r')
theorem aeT (n:Nat)(k:Nat->Prop):fN n k=k n:=by cases n<;>rfl
theorem aiE (b:oZ)(k:oZ->Prop):fB b k=k b:=by cases b<;>rfl
theorem aiF (H:lM) : ∀k:lM->Prop,fH H k=k H:=by
 induction H with
 | nil=>intro k;rfl
 | cons p r ih=>intro k;obtain⟨l,b⟩:=p;simp only [fH,aeT,aiE,ih]
def frc (n:Nat)(H:lM)(k:Nat->lM->Prop):Prop:=fN n fun n'=>fH H fun H'=>k n' H'
theorem Yd (n:Nat)(H:lM)(k:Nat->lM->Prop):frc n H k=k n H:=by simp only [frc,aeT,aiF]
section
variable {P:Program}{G:Glob}{lY:World}{mG mJ:Nat->Prop}{n:Nat}{σ:Nat->Loc}{F:Nat->Prop}{H:lM}{w:World}
theorem mF {f:FuncId}{args args':List AV}{r:AV}{K:AV->Nat->lM->Prop}(Z:List Nat)(hc:callable P f=true)(h:mQ P G f args' 0 [] (Is r))(hf:flat r=true)(ha:QX H [] Z 0 args' args)(k:K r n H):zi P G f args n H K:=by
 refine⟨hc,fun w σ F vs st hr=> ?_⟩
 have s1:=II (H':= []) (θ:= []) (Z:=Z) (nb:=0) (n':=0) st rfl trivial
 have r1:=vW (n':=0) (JV:=Ew []) st rfl (aA 0) args' args vs ha hr
 refine(h w _ _ vs s1.start r1).mono fun v w' ⟨a,n',σ',F',H',⟨ea,en,eH⟩,s,x,ra⟩=> ?_
 subst ea;subst en;subst eH
 have hM : ∀b, ¬wL w (IG [] σ (Ew [])) [] b:=fun b ⟨k,c,e,_⟩=>by cases e
 have hE:Ext n σ F w n σ F w':=⟨aA _,fun _ _=>rfl,fun b hb=>⟨hb,s.qM.block b (st.oW b hb).1 (hM b)⟩,x.sz⟩
 have bk : ∀ {mV b g},look H mV=some b->b.own=true->rY w' (σ mV) b g->rY w (σ mV) b g:=fun h hm hg=>hg.back fun k hk=>s.qM.block k (st.mu _ _ k h hm (.inl hk)).2.2.1 (hM k)
 refine⟨a,n,σ,F,H,k, ?_,hE,CW a v hf ra⟩
 exact⟨s.glob,⟨s.qM.os,s.qM.tape,s.qM.output,x.sz,fun b hb _=>s.qM.block b hb (hM b)⟩,fun b hb=>⟨bg (st.oW b hb).1 x.sz, .inl hb⟩,st.lab,
  fun mV b g hk hm hg=>by
   have hg:=bk hk hm hg
   obtain⟨h1,h2,h3,h4⟩:=st.mu mV b g hk hm hg
   exact⟨h1,h2,bg h3 x.sz, .inl ⟨mV,b,hk,hm,hg⟩⟩,fun e e' b b' g h h' m m' g1 g2=>st.inj e e' b b' g h h' m m' (bk h m g1) (bk h' m' g2),
  fun mV b hk=>(st.blk mV b hk).mono hE fun hm g hg=>s.qM.block g (st.mu mV b g hk hm hg).2.2.1 (hM g)⟩
end
end Go.Proofs.YtocckceefcmeaaaGreatDoor.Ax
