/- Joined parts of the proof. The soundness of stores, appends, allocations and calls; of each operation -/
import Derived.Test.YtocckceefcmeaaaGreatDoorPk5
import Derived.Lib.AppendStr
import Derived.Laws.CopyRow
import Derived.Laws.IdiomCopy
import Derived.Test.YtocckceefcmeaaaGreatDoorPk1
set_option linter.unusedVariables false
set_option linter.unusedSimpArgs false
set_option maxRecDepth 100000
set_option maxHeartbeats 16000000
namespace Go.Proofs.YtocckceefcmeaaaGreatDoor.Ax
open Go Go.RowKit Go.Lib Go.Proofs.YtocckceefcmeaaaGreatDoor.Vc
theorem sG (vs:List Value) : ∀(l:List Value) (o:Nat),(kE l o vs).length=l.length:=by
 induction vs with
 | nil=>intro l o;rfl
 | cons v r ih=>intro l o;simp only [kE];rw [ih,List.length_set]
theorem o9 (vs:List Value) : ∀(l:List Value) (o m:Nat),o+vs.length≤l.length→(kE l o vs)[m]? = if o≤m∧m<o+vs.length then vs[m-o]? else l[m]? :=by
 induction vs with
 | nil=>intro l o m _;simp only [kE,List.length_nil,Nat.add_zero];rw [if_neg (by omega)]
 | cons v r ih=>
  intro l o m h
  simp only [List.length_cons]at h
  simp only [kE]
  rw [ih _ _ _ (by rw [List.length_set];omega),List.length_cons]
  by_cases h1:o+1≤m∧m<o+1+r.length
  ·rw [if_pos h1,if_pos (by omega),show m-o=(m -(o+1))+1 by omega,List.getElem?_cons_succ]
  ·rw [if_neg h1]
   by_cases h2:m=o
   ·subst h2
    rw [if_pos (by omega),Nat.sub_self,List.getElem?_cons_zero,List.getElem?_set_self (by omega)]
   ·rw [if_neg (by omega),List.getElem?_set_ne (by omega)]
theorem P5 {α:Type}(vs:List α) : ∀(l:List α) (o:Nat),(vG l o vs).length=l.length:=by
 induction vs with
 | nil=>intro l o;rfl
 | cons v r ih=>intro l o;simp only [vG];rw [ih,List.length_set]
theorem P6 {α:Type}(vs:List α) : ∀(l:List α) (o m:Nat),o+vs.length≤l.length→(vG l o vs)[m]? = if o≤m∧m<o+vs.length then vs[m-o]? else l[m]? :=by
 induction vs with
 | nil=>intro l o m _;simp only [vG,List.length_nil,Nat.add_zero];rw [if_neg (by omega)]
 | cons v r ih=>
  intro l o m h
  simp only [List.length_cons]at h
  simp only [vG]
  rw [ih _ _ _ (by rw [List.length_set];omega),List.length_cons]
  by_cases h1:o+1≤m∧m<o+1+r.length
  ·rw [if_pos h1,if_pos (by omega),show m-o=(m -(o+1))+1 by omega,List.getElem?_cons_succ]
  ·rw [if_neg h1]
   by_cases h2:m=o
   ·subst h2
    rw [if_pos (by omega),Nat.sub_self,List.getElem?_cons_zero,List.getElem?_set_self (by omega)]
   ·rw [if_neg (by omega),List.getElem?_set_ne (by omega)]
theorem zn {vs l:List Value}{o:Nat}{v:Value}(h:v∈kE l o vs):v∈l∨v∈vs:=by
 induction vs generalizing l o with
 | nil=>exact .inl h
 | cons x r ih=>
  simp only [kE]at h
  rcases ih h with h | h
  ·rcases List.mem_or_eq_of_mem_set h with h | rfl
   ·exact .inl h
   ·exact .inr (by simp)
  ·exact .inr (by simp [h])
theorem vK {P:Program}{w:World}{t T:TypeId}{b o:Nat}{l:List Value}{v:Value}{K:World→Prop}(hb:jC w b l T)(hs:szB P t=some v.cells.toList.length)(h1 : ∀x∈v.cells.toList,x.oneCell'=true)
  (hl:o+v.cells.toList.length≤l.length) (k : ∀w',Only b w w'→jC w' b (kE l o v.cells.toList) T→K w'):lX P (storeVar t ⟨b,o,none⟩ v) w K:=by
 obtain⟨w',hr,ho,hbw⟩:=oK (P:=P) v.cells.toList 0 o l w hb (by omega) h1
 refine⟨(),w', ?_,k w' ho hbw⟩
 unfold storeVar
 simp only [Sem.run_bind,gU hs,Result.andThen_ok]
 simp [hr]
section
variable {P:Program}{G:Glob}{w₀:World}{aK aN:Nat→Prop}{n:Nat}{σ:Nat→Loc}{F:Nat→Prop}{H:ak}{w:World}
theorem fU.setRow {sz:Nat}{l:List (List FV)}{xs vs:List Value}{i o:Nat}{row x:List FV}(r:fU F w sz l xs)(hi:l[i]? = some row)(hx:oL F w x vs)(h1 : ∀v∈vs,v.oneCell'=true)(ho:o+x.length≤row.length) :
  fU F w sz (l.set i (vG row o x)) (kE xs (i*sz+o) vs):=by
 have hil:=(List.getElem?_eq_some_iff.1 hi).1
 have hrl:=r.1 row (List.mem_of_getElem? hi)
 have hvl:=hx.1
 have hi1:i*sz+sz≤l.length*sz:=by
  have:(i+1)*sz≤l.length*sz:=Nat.mul_le_mul_right _ hil
  rw [Nat.add_mul,Nat.one_mul]at this;exact this
 refine⟨fun y hy=> ?_,by rw [sG,List.length_set];exact r.2.1,fun v hv=> ?_,fun k j y a v hk hj hv=> ?_⟩
 ·rcases List.mem_or_eq_of_mem_set hy with hy | rfl
  ·exact r.1 y hy
  ·rw [P5];exact hrl
 ·rcases zn hv with hv | hv
  ·exact r.2.2.1 v hv
  ·exact h1 v hv
 ·rw [o9 _ _ _ _ (by rw [r.2.1];omega)]at hv
  rw [List.getElem?_set]at hk
  by_cases e:i=k
  ·subst e
   rw [if_pos rfl,if_pos hil]at hk
   injection hk with hk
   rw [←hk,P6 _ _ _ _ ho]at hj
   by_cases c:o≤j∧j<o+x.length
   ·rw [if_pos c]at hj
    rw [if_pos (by omega),show i*sz+j -(i*sz+o)=j-o by omega]at hv
    exact hx.2 _ a v hj hv
   ·rw [if_neg c]at hj
    rw [if_neg (by omega)]at hv
    exact r.2.2.2 i j row a v hi hj hv
  ·rw [if_neg e]at hk
   have hjl:=(List.getElem?_eq_some_iff.1 hj).1
   rw [r.1 y (List.mem_of_getElem? hk)]at hjl
   have hne : ¬(i*sz+o≤k*sz+j∧k*sz+j<i*sz+o+vs.length):=by
    intro hh
    rcases Nat.lt_or_gt_of_ne e with h | h
    ·have:(i+1)*sz≤k*sz:=Nat.mul_le_mul_right _ h
     rw [Nat.add_mul,Nat.one_mul]at this;omega
    ·have:(k+1)*sz≤i*sz:=Nat.mul_le_mul_right _ h
     rw [Nat.add_mul,Nat.one_mul]at this;omega
   rw [if_neg hne]at hv
   exact r.2.2.2 k j y a v hk hj hv
theorem CG (l vs:List Value)(k o:Nat)(h:o+vs.length≤k)(hk:k≤l.length):(kE l o vs).take k=kE (l.take k) o vs:=by
 apply List.ext_getElem?
 intro m
 rw [List.getElem?_take,o9 _ _ _ _ (by omega),o9 _ _ _ _ (by rw [List.length_take];omega),List.getElem?_take]
 by_cases c:m<k
 ·rw [if_pos c,if_pos c]
 ·rw [if_neg c,if_neg (by omega),if_neg c]
theorem DT {t:TypeId}{a x:AV}{va vx:Value}{K:ak→Prop}(h:Jc P H t a x K)(st:St G w₀ aK aN n σ F H w)(ra:aZ n σ F w a va)(rx:aZ n σ F w x vx) :
  ∃p,va = .pointer (some p)∧lX P (storeVar t p vx) w fun w'=>FN G w₀ aK aN n σ F w (fun _ n' H'=>n'=n∧K H') undef w':=by
 unfold Jc at h
 split at h
 ·rename_i k hs
  cases hb:(Nat.beq (cellsOf x).length k&&all1 (cellsOf x))with
  | false=>rw [hb]at h;exact h.elim
  | true=>
   rw [hb,cond_true]at h
   simp only [Bool.and_eq_true]at hb
   have e:=Nat.eq_of_beq_eq_true hb.1
   have rc:=rD rx hb.2
   have h1:=zl hb.2 rc
   have hvl:=rc.len
   have hs':szB P t=some vx.cells.toList.length:=by rw [hvl,e];exact hs
   split at h
   ·rename_i l o
    cases ra with
    | ptr _ _ b hl hbk=>
     refine⟨_,rfl, ?_⟩
     split at h
     ·rename_i T cs hk
      cases hc:Nat.ble (o+k) cs.length with
      | false=>rw [hc]at h;exact h.elim
      | true=>
       rw [hc,cond_true,eU]at h
       have hc:=Nat.le_of_ble_eq_true hc
       obtain⟨g,vs,g1,g2,g3,g4⟩:=st.blk _ _ hk
       rw [hbk]at g1
       injection g1 with g1
       subst g1
       refine vK g2 hs' h1 (by rw [g3.len];omega) fun w' hO hB=> ?_
       obtain⟨s2,x2⟩:=st.write hk rfl hbk hO (.var T (vG cs o (cellsOf x))) fun _ hE=>⟨b,_,hbk,hB,(FH rc g3).mono hE,fun v hv=>(zn hv).elim (g4 v) (h1 v)⟩
       exact⟨.v undef,_,_,_,_,⟨rfl,h⟩,s2,x2, .v _⟩
     ·exact h.elim
   ·rename_i l i o
    cases ra with
    | ep _ _ _ b hl hbk=>
     refine⟨_,rfl, ?_⟩
     split at h
     ·rename_i T sz m h0 hk
      split at h
      ·rename_i i' o' e0 e'
       obtain⟨⟨rfl,rfl⟩,h⟩:=h
       obtain⟨q1,q2,xs,hO,hT,hS,hh⟩:=st.blk _ _ hk
       obtain⟨a1,a2,a3,⟨row,a4,a5⟩,v0,a6,a7⟩:=hh _ _ _ rfl
       obtain⟨g,cur,hoa,hg0,hB,hle,hcm,hcl,htk⟩:=hO.blk (by omega)
       have hgb:=oh hoa
       rw [hbk]at hgb
       injection hgb with hgb
       subst hgb
       have hi1:i'*sz+sz≤m.length*sz:=by
        have:(i'+1)*sz≤m.length*sz:=Nat.mul_le_mul_right _ a2
        rw [Nat.add_mul,Nat.one_mul]at this;exact this
       have hcc:m.length*sz≤(σ l).c*sz:=Nat.mul_le_mul_right _ hle
       have hvx:vx.cells.toList = [vx]∧e'<n:=by
        cases rx with
        | own _ hl=>exact⟨rfl,hl⟩
        | je _ oa hl _ _=>exact⟨rfl,hl⟩
       rw [q1]
       refine vK hB hs' h1 (by rw [hvx.1,hcl];simp;omega) fun w' hOn hB'=> ?_
       rw [hvx.1]at hB'
       have hx1:vx.oneCell'=true:=h1 vx (by rw [hvx.1];simp)
       have hset : ∀j,(kE xs (i'*sz+o') [vx])[j]? = if j=i'*sz+o' then some vx else xs[j]? :=fun j=>by
        have hxl:=hT.2.1
        rw [o9 _ _ _ _ (by simp;omega)]
        simp only [List.length_cons,List.length_nil,Nat.zero_add]
        by_cases e:j=i'*sz+o'
        ·rw [if_pos (by omega),if_pos e,e];simp
        ·rw [if_neg (by omega),if_neg e]
       have hcell : ∀j,j≠i'*sz+o'→w'.cell? ⟨b,j,none⟩=w.cell? ⟨b,j,none⟩:=fun j hj=>by
        rw [hB'.cell,hB.cell,o9 _ _ _ _ (by simp;omega)]
        simp only [List.length_cons,List.length_nil,Nat.zero_add]
        rw [if_neg (by omega)]
       have hN : ∀i2 j2 g2,IW w' (σ l) sz m i2 j2 g2→IW w (σ l) sz m i2 j2 g2:=by
        rintro i2 j2 g2 ⟨b2,vM,t2,sz2,r2,m2,c2,n1,n2,n3,n4,n5⟩
        rw [hbk]at n1
        injection n1 with n1
        subst n1
        refine⟨b,vM,t2,sz2,r2,m2,c2,hbk,n2,n3, ?_,n5⟩
        have hj2:j2<sz:=by rw [←hT.1 vM (List.mem_of_getElem? n2)];exact(List.getElem?_eq_some_iff.1 n3).1
        rw [←hcell _ fun e=> ?_]
        ·exact n4
        ·have ei:i2=i':=by
          rcases Nat.lt_trichotomy i2 i' with hlt | he | hgt
          ·have:(i2+1)*sz≤i'*sz:=Nat.mul_le_mul_right _ hlt
           rw [Nat.add_mul,Nat.one_mul]at this;omega
          ·exact he
          ·have:(i'+1)*sz≤i2*sz:=Nat.mul_le_mul_right _ hgt
           rw [Nat.add_mul,Nat.one_mul]at this;omega
         subst ei
         have ej:j2=o':=by omega
         subst ej
         rw [a4]at n2
         injection n2 with n2
         subst n2
         rw [a5]at n3
         cases n3
       have hnew:kP n σ F w (σ l) (.tree T sz m (some (i',o',e0)))→Ext n σ F w n σ F w'→kP n σ F w' (σ l) (.tree T sz m (some (i',o',e'))):=by
        intro _ hE
        refine⟨q1,q2,kE xs (i'*sz+o') [vx],by
         rw [hoa]
         exact Own.wS hB' hg0 hle hcm (by rw [sG];exact hcl) (by
          have:=CG cur [vx] (m.length*sz) (i'*sz+o') (by simp;omega) (by rw [hcl];exact hcc)
          rw [htk]at this
          exact this), ?_,⟨fun i j i2 j2 g2 n1 n2=>hS.1 _ _ _ _ _ (hN _ _ _ n1) (hN _ _ _ n2),fun i j g2 n1=>hS.2 _ _ _ (hN _ _ _ n1)⟩,fun i2 j2 e2 he2=> ?_⟩
        ·refine⟨hT.1,by rw [sG];exact hT.2.1,fun v hv=>(zn hv).elim (hT.2.2.1 v) (fun hv=>by simp at hv;rw [hv];exact hx1),fun i2 j2 vM a2' v2 n1 n2 n3=> ?_⟩
         rw [hset]at n3
         have hj2:j2<sz:=by rw [←hT.1 vM (List.mem_of_getElem? n1)];exact(List.getElem?_eq_some_iff.1 n2).1
         split at n3
         ·rename_i e
          have ei:i2=i':=by
           rcases Nat.lt_trichotomy i2 i' with hlt | he | hgt
           ·have:(i2+1)*sz≤i'*sz:=Nat.mul_le_mul_right _ hlt
            rw [Nat.add_mul,Nat.one_mul]at this;omega
           ·exact he
           ·have:(i'+1)*sz≤i2*sz:=Nat.mul_le_mul_right _ hgt
            rw [Nat.add_mul,Nat.one_mul]at this;omega
          subst ei
          have ej:j2=o':=by omega
          subst ej
          rw [a4]at n1
          injection n1 with n1
          subst n1
          rw [a5]at n2
          injection n2 with n2
          subst n2
          exact dV.top v2
         ·have h3:=hT.2.2.2 i2 j2 vM a2' v2 n1 n2 n3
          cases a2' with
          | f x=>exact dV.mono hE.f h3
          | n t3 sz3 r3=>
           obtain⟨oa3,c3,rfl,h3⟩:=h3
           refine⟨oa3,c3,rfl,h3.imp id fun⟨ys,hc,hO3,hR3⟩=>⟨ys,hc,rX hO3 hE.sz fun g3 hg3=>hOn.block g3 fun e=> ?_,hR3.mono hE.f⟩⟩
           subst e
           obtain⟨b',hLb,hcl'⟩:=nG hO n1 (hT.1 vM (List.mem_of_getElem? n1)) n2 hT.2.1 n3
           refine hS.2 i2 j2 g3 ⟨b',vM,t3,sz3,r3,r3.length,c3,hLb,n1,n2, ?_,hc⟩ hbk
           rw [hcl']
           rcases hO3.2 with ⟨hs3,_⟩ | ⟨g',cap,afv,hs3,_⟩
           ·injection hs3 with e1 _ _;rw [e1]at hg3;cases hg3
           ·injection hs3 with e1 _ _;rw [e1]at hg3 ⊢;injection hg3 with hg3;have hg3:g'=g3:=hg3;rw [hg3]
        ·injection he2 with he2
         injection he2 with ee1 Zm
         injection Zm with Zm ee3
         subst ee1;subst Zm;subst ee3
         exact⟨hvx.2,a2,a3,⟨row,a4,a5⟩,vx,by rw [hset,if_pos rfl],rx.mono hE⟩
       obtain⟨s2,x2⟩:=st.write hk rfl hbk hOn (.tree T sz m (some (i',o',e'))) hnew fun g2 hg2=>hg2.imp id fun⟨i2,j2,hg2⟩=>⟨i2,j2,hN _ _ _ hg2⟩
       exact⟨.v undef,_,_,_,_,⟨rfl,h⟩,s2,x2, .v _⟩
      ·exact h.elim
     ·obtain⟨x',H1,F1,h,s1,x1,rf⟩:=CB h st rc
      split at h
      ·rename_i T sz m hk
       obtain⟨row,hrow,h⟩:=h.ex
       cases hc:Nat.ble (o+k) row.length with
       | false=>rw [hc]at h;exact h.elim
       | true=>
        rw [hc,cond_true,eU]at h
        have hc:=Nat.le_of_ble_eq_true hc
        obtain⟨q1,q2,xs,hO,hR⟩:=s1.blk _ _ hk
        have hil:=(List.getElem?_eq_some_iff.1 hrow).1
        obtain⟨g,cur,hoa,hg0,hB,hle,hcm,hcl,htk⟩:=hO.blk (by omega)
        have hgb:=oh hoa
        rw [hbk]at hgb
        injection hgb with hgb
        subst hgb
        have hrl:=hR.1 row (List.mem_of_getElem? hrow)
        have hxl:x'.length=k:=by rw [←rf.1,hvl,e]
        have hi1:i*sz+sz≤m.length*sz:=by
         have:(i+1)*sz≤m.length*sz:=Nat.mul_le_mul_right _ hil
         rw [Nat.add_mul,Nat.one_mul]at this;exact this
        have hcc:m.length*sz≤(σ l).c*sz:=Nat.mul_le_mul_right _ hle
        have hvk:vx.cells.toList.length=k:=by rw [hvl,e]
        rw [q1]
        refine vK hB hs' h1 (by rw [hvk,hcl];omega) fun w' hOn hB'=> ?_
        obtain⟨s2,x2⟩:=s1.write hk rfl hbk hOn (.rows T sz (m.set i (vG row o x'))) fun _ hE=>⟨q1,by rw [List.length_set];exact q2,_,by
          rw [hoa,List.length_set]
          exact Own.wS hB' hg0 hle hcm (by rw [sG];exact hcl) (CG _ _ _ _ (by rw [hvk];omega) (by rw [hcl];exact hcc)),by
          rw [htk]
          exact(hR.setRow hrow rf h1 (by omega)).mono hE.f⟩
        exact⟨.v undef,_,_,_,_,⟨rfl,h⟩,s2,x1.trans x2, .v _⟩
      ·exact h.elim
     ·exact h.elim
   ·exact h.elim
 ·exact h.elim
theorem NJ {t sz c:Nat}{oa:Option Addr}{m:Nat}{xs:List Value}(hO:Own w 0 t sz oa m c xs):m≤c∧(oa=none→c=0):=by
 rcases hO.2 with ⟨hv,h0⟩ | ⟨g,cap,cur,hv,_,_,hle,_⟩
 ·injection hv with _ _ ec;exact⟨by omega,fun _=>ec⟩
 ·injection hv with eo _ ec;exact⟨by omega,fun en=>by rw [en]at eo;cases eo⟩
theorem sH {sz:Nat}{l:List (List FV)}{v:Value}(h:dV F w (.lst sz l) v)(hF : ∀b,F b→b<w.heap.size) :
  ∃oa m c news,v = .slice oa m c∧m=l.length∧m≤c∧(oa=none→c=0)∧Row w oa news∧fU F w sz l news:=by
 cases h with
 | lst _ _ oa m c b o hn hc hnil ho hsz hex hrep=>
  subst hn
  obtain⟨vs,hl,hvs⟩:=zi (u:=w) (b:=b) (base:=o) (l.length*sz) fun k hk=>by
   have hz:0<sz:=by
    rcases Nat.eq_zero_or_pos sz with e | e
    ·rw [e,Nat.mul_zero]at hk;exact absurd hk (Nat.not_lt_zero k)
    ·exact e
   have h1:k/sz<l.length:=(Nat.div_lt_iff_lt_mul hz).2 hk
   obtain⟨v,hv,h1⟩:=hex (k/sz) (k%sz) h1 (Nat.mod_lt _ hz)
   rw [Nat.mul_comm,Nat.div_add_mod]at hv
   exact⟨v,hv,h1⟩
  refine⟨oa,l.length,c,vs,rfl,rfl,hc,hnil, ?_,hsz,hl,fun v hv=> ?_,fun i j row a v hi hj hv=>hrep i j row a v hi hj (hvs _ v hv).1⟩
  ·rcases Nat.eq_zero_or_pos l.length with e | e
   ·rw [e,Nat.zero_mul]at hl;exact .inl (List.eq_nil_of_length_eq_zero hl)
   ·obtain⟨e1,e2⟩:=ho e
    exact .inr ⟨b,o,e1,hF b e2,fun j v hj=>(hvs j v hj).1⟩
  ·obtain⟨j,hj⟩:=List.mem_iff_getElem?.1 hv
   exact(hvs j v hj).2
theorem fU.part {sz i j:Nat}{l:List (List FV)}{xs:List Value}(r:fU F w sz l xs)(hj:i+j≤l.length):fU F w sz ((l.drop i).take j) ((xs.drop (i*sz)).take (j*sz)):=by
 have hx:=r.2.1
 have hle:(i+j)*sz≤l.length*sz:=Nat.mul_le_mul_right _ hj
 rw [Nat.add_mul]at hle
 refine⟨fun y hy=>r.1 y (List.mem_of_mem_drop (List.mem_of_mem_take hy)), ?_,fun v hv=>r.2.2.1 v (List.mem_of_mem_drop (List.mem_of_mem_take hv)),fun k m row a v hk hm hv=> ?_⟩
 ·rw [List.length_take,List.length_drop,List.length_take,List.length_drop,hx]
  have e1:min j (l.length-i)=j:=by omega
  rw [e1]
  omega
 ·rw [List.getElem?_take]at hk hv
  split at hk
  ·split at hv
   ·rw [List.getElem?_drop]at hk hv
    refine r.2.2.2 (i+k) m row a v hk hm ?_
    rw [Nat.add_mul,Nat.add_assoc];exact hv
   ·cases hv
  ·cases hk
theorem KL {s:AV}{v:Value}{sz:Nat}{l:List (List FV)}(h:rowsOf H s=some (sz,l))(st:St G w₀ aK aN n σ F H w)(r:aZ n σ F w s v) :
  ∃oa m c news,v = .slice oa m c∧m=l.length∧m≤c∧(oa=none→c=0)∧Row w oa news∧fU F w sz l news:=by
 have hF : ∀b,F b→b<w.heap.size:=fun b hb=>(st.dL b hb).1
 unfold rowsOf at h
 split at h
 ·simp only [Option.some.injEq,Prod.mk.injEq]at h
  obtain⟨rfl,rfl⟩:=h
  cases r with | lst hf=>exact sH hf hF
 ·split at h
  ·rename_i l' T sz' m hk
   simp only [Option.some.injEq,Prod.mk.injEq]at h
   obtain⟨rfl,rfl⟩:=h
   obtain⟨q1,q2,xs,hO,hR⟩:=st.blk _ _ hk
   cases r with
   | je _ oa hl hn hc=>
    rw [hn]at q2
    have:m = []:=List.eq_nil_of_length_eq_zero q2.symm
    subst this
    exact⟨_,_,_,[],rfl,rfl,Nat.le_refl _,fun _=>rfl,Row.nil _ _,fU.nil _⟩
   | own _ hl=>
    have:=NJ hO
    exact⟨_,_,_,xs,rfl,q2,by rw [q2];exact this.1,this.2,hO.row,hR⟩
  ·rename_i l' sz' m hk
   simp only [Option.some.injEq,Prod.mk.injEq]at h
   obtain⟨rfl,rfl⟩:=h
   obtain⟨q1,q2,hf,_⟩:=st.blk _ _ hk
   cases r with
   | je _ oa hl hn hc=>
    rw [hn]at q2
    have:m = []:=List.eq_nil_of_length_eq_zero q2.symm
    subst this
    exact⟨_,_,_,[],rfl,rfl,Nat.le_refl _,fun _=>rfl,Row.nil _ _,fU.nil _⟩
   | own _ hl=>exact sH hf hF
  ·cases h
 ·split at h
  ·rename_i l' o k _ T sz' m hk
   simp only [Option.some.injEq,Prod.mk.injEq]at h
   obtain⟨rfl,rfl⟩:=h
   obtain⟨q1,q2,xs,hO,hR⟩:=st.blk _ _ hk
   cases r with
   | sub _ _ _ oa c hl hkk hc hnil ho=>
    rw [q2]at hkk
    refine⟨_,_,_,_,rfl,by rw [List.length_take,List.length_drop];omega,hc,hnil, ?_,hR.part hkk⟩
    rcases Nat.eq_zero_or_pos k with e | e
    ·subst e;exact .inl (by simp)
    ·obtain⟨b,e1,e2⟩:=ho e
     rcases hO.row with hx | ⟨b',o',e3,hlt,hcell⟩
     ·exact .inl (by rw [hx];simp)
     ·have hb:=oh (L:=σ l') (g:=b) (by unfold Loc.oa;rw [e1];rfl)
      have e4:(σ l').oa=some ⟨b,0,none⟩:=by unfold Loc.oa;rw [e1];rfl
      rw [e4]at e3
      injection e3 with e3;injection e3 with e3 e5
      subst e3
      refine .inr ⟨b,o*sz',by rw [e2,q1],hlt,fun j v hj=> ?_⟩
      rw [List.getElem?_take]at hj
      split at hj
      ·rw [List.getElem?_drop]at hj
       have:=hcell _ v hj
       rw [←e5,Nat.zero_add]at this
       exact this
      ·cases hj
  ·rename_i l' o k _ sz' m hk
   simp only [Option.some.injEq,Prod.mk.injEq]at h
   obtain⟨rfl,rfl⟩:=h
   obtain⟨q1,q2,hf,h0⟩:=st.blk _ _ hk
   cases r with
   | sub _ _ _ oa c hl hkk hc hnil ho=>
    obtain⟨iq,m',c',xs,ev,em,_,_,hrow,hR⟩:=sH hf hF
    injection ev with e1 e2 e3
    rw [q2]at hkk
    refine⟨_,_,_,_,rfl,by rw [List.length_take,List.length_drop];omega,hc,hnil, ?_,hR.part hkk⟩
    rcases Nat.eq_zero_or_pos k with e | e
    ·subst e;exact .inl (by simp)
    ·obtain⟨b,f1,f2⟩:=ho e
     rcases hrow with hx | ⟨b',o',f3,hlt,hcell⟩
     ·exact .inl (by rw [hx];simp)
     ·have e4:(σ l').oa=some ⟨b,0,none⟩:=by unfold Loc.oa;rw [f1];rfl
      rw [←e1,e4]at f3
      injection f3 with f3;injection f3 with f3 f5
      subst f3
      refine .inr ⟨b,o*sz',by rw [f2,q1],hlt,fun j v hj=> ?_⟩
      rw [List.getElem?_take]at hj
      split at hj
      ·rw [List.getElem?_drop]at hj
       have:=hcell _ v hj
       rw [←f5,Nat.zero_add]at this
       exact this
      ·cases hj
  ·cases h
 ·cases h
theorem fU.append {sz:Nat}{l m:List (List FV)}{xs ys:List Value}(r:fU F w sz l xs)(k:fU F w sz m ys):fU F w sz (l++m) (xs++ys):=by
 refine⟨fun y hy=>(List.mem_append.1 hy).elim (r.1 y) (k.1 y),by rw [List.length_append,List.length_append,r.2.1,k.2.1,Nat.add_mul],fun v hv=>(List.mem_append.1 hv).elim (r.2.2.1 v) (k.2.2.1 v),fun i j row a v hi hj hv=> ?_⟩
 have hx:=r.2.1
 by_cases h:i<l.length
 ·rw [List.getElem?_append_left h]at hi
  have hjl:=(List.getElem?_eq_some_iff.1 hj).1
  rw [r.1 row (List.mem_of_getElem? hi)]at hjl
  have h1:(i+1)*sz≤l.length*sz:=Nat.mul_le_mul_right _ h
  rw [Nat.add_mul,Nat.one_mul]at h1
  rw [List.getElem?_append_left (by omega)]at hv
  exact r.2.2.2 i j row a v hi hj hv
 ·rw [List.getElem?_append_right (by omega)]at hi
  have h1:l.length*sz≤i*sz:=Nat.mul_le_mul_right _ (by omega)
  rw [List.getElem?_append_right (by omega)]at hv
  refine k.2.2.2 (i-l.length) j row a v hi hj ?_
  rw [Nat.sub_mul,show i*sz-l.length*sz+j=i*sz+j-xs.length by omega]
  exact hv
theorem mD {t ty E:TypeId}{sz iQ k c m c2:Nat}{oa wR:Option Addr}{xs news zs:List Value}
  (ht:P.underlying t=some (.slice E)) (hs:szB P E=some sz) (hby:gB P E=some iQ) (hz:lZ P E=some zs) (hzl:zs.length=sz) (hsz:Nat.ble 1 sz=true)
  (hown:Own w 0 E sz oa k c xs) (hr:Row w wR news) (hl:news.length=m*sz) (h1 : ∀u∈news,u.oneCell'=true) (hnil:wR=none→c2=0)
  (hbytes:(k+m)*iQ≤140737488355328) (hlen:k+m≤maxLen) :
  ∃iq c' w',(Builtin.append_ #[t,t] ty #[.slice oa k c, .slice wR m c2]).run P w = .ok (.slice iq (k+m) c') w'∧Own w' 0 E sz iq (k+m) c' (xs++news)∧w.grownBy w' (ownB oa)∧(∀g,ownB iq=some g→ownB oa=some g∨w.heap.size≤g):=by
 obtain⟨i,hi,rfl⟩:=gQ hs
 have hb':i.bytes=iQ:=by simpa [gB,hi]using hby
 obtain⟨z,hz1,hz2⟩ : ∃z,i.zero=some z∧z.cells.toList=zs:=by
  unfold lZ at hz
  simp only [hi,Option.bind_some]at hz
  cases hzz:i.zero with
  | none=>simp [hzz]at hz
  | some z=>simp only [hzz,Option.map_some,Option.some.injEq]at hz;exact⟨z,rfl,hz⟩
 have hsz':0<i.size:=Nat.le_of_ble_eq_true hsz
 have hzc:z.cells.size=i.size:=by rw [←hz2]at hzl;simpa using hzl
 by_cases hm:wR=none
 ·subst hm
  have hm0:news = []:=hr.resolve_right (by rintro⟨b,o,he,_⟩;cases he)
  subst hm0
  have:m=0:=by
   rcases Nat.eq_zero_or_pos m with h | h
   ·exact h
   ·have:=Nat.mul_pos h hsz';simp at hl;omega
  subst this
  have hc2:=hnil rfl
  subst hc2
  have hrun:=run_append_owned_none (P:=P) (w:=w) 0 t ty E i i.size ht hi (.slice oa k c) k xs hown
  exact⟨oa,c,w,hrun,by simpa using hown,⟨rfl,rfl,rfl,Nat.le_refl _,fun _ _ _=>rfl⟩,fun g hg=> .inl hg⟩
 ·obtain⟨ad,rfl,hcells⟩ : ∃ad,wR=some ad∧∀j u,news[j]? = some u→w.cell? (ad.add j)=some u:=by
   rcases hr with rfl | ⟨b,o,rfl,_,hc⟩
   ·cases wR with
    | none=>exact absurd rfl hm
    | some ad=>exact⟨ad,rfl,by simp⟩
   ·exact⟨_,rfl,fun j u hj=>by rw [add0];exact hc j u hj⟩
  have main : ∀B,Own w B E i.size oa k c xs→B≤w.heap.size→∃iq c' w',(Builtin.append_ #[t,t] ty #[.slice oa k c, .slice (some ad) m c2]).run P w = .ok (.slice iq (k+m) c') w'∧Own w' B E i.size iq (k+m) c' (xs++news)∧w.grownBy w' (ownB oa):=by
   intro B hown hB
   obtain⟨v',w',hrun,ho,hg,_⟩:=run_append_own (P:=P) w B t ty E i z i.size iQ ht hi hz1 rfl hb' hzc hsz' (.slice oa k c) k xs hown ad m c2 news hl hcells h1 hlen hbytes hB
   rw [rW]at hg
   obtain⟨iq,c',rfl⟩ : ∃iq c',v' = .slice iq (k+m) c':=by
    rcases ho.2 with ⟨h,h0⟩ | ⟨g,cap,cur,h,_⟩
    ·exact⟨none,0,by rw [h,h0]⟩
    ·exact⟨_,cap,h⟩
   exact⟨iq,c',w',hrun,ho,hg⟩
  have up : ∀ {w':World} {B:Nat} {iq:Option Addr} {k' c':Nat} {ys:List Value},Own w' B E i.size iq k' c' ys→Own w' 0 E i.size iq k' c' ys:=fun h=>⟨h.1,h.2.imp id fun⟨g,cap,cur,h1,_,h2⟩=>⟨g,cap,cur,h1,Nat.zero_le _,h2⟩⟩
  rcases hown.2 with ⟨hv,h0⟩ | ⟨g,cap,cur,hv,hg0,hh,hle,hcm,hcs,htk⟩
  ·injection hv with e1 e2 e3
   subst e1;subst e2;subst e3
   obtain⟨iq,c',w',r1,r2,r3⟩:=main w.heap.size ⟨hown.1, .inl ⟨rfl,rfl⟩⟩ (Nat.le_refl _)
   exact⟨iq,c',w',r1,up r2,r3,fun g hg=> .inr (r2.ge g hg).1⟩
  ·injection hv with e1 e2 e3
   subst e1;subst e3
   obtain⟨iq,c',w',r1,r2,r3⟩:=main 0 hown (Nat.zero_le _)
   refine⟨iq,c',w',r1,r2,r3,fun g' hg'=> ?_⟩
   by_cases hroom:k+m≤c
   ·have hfit:k*i.size+news.length≤cur.size:=by rw [hl,hcs, ←Nat.add_mul];exact Nat.mul_le_mul_right _ hroom
    have hr2:=run_append_room (P:=P) w t ty E i ht hi g k c cur hh ad m c2 news hl hcells h1 hroom hfit
    rw [r1]at hr2
    injection hr2 with hr2 _
    injection hr2 with hr2 _ _
    rw [hr2]at hg'
    exact .inl hg'
   ·have holds : ∀j u,xs[j]? = some u→w.cell? ((⟨g,0,none⟩:Addr).add j)=some u:=World.ownsRow.cells (h:=hown) (g:=g) rfl
    have hsmall:k+m≤9223372036854775807:=by simp only [maxLen]at hlen;omega
    have hr2:=run_append_grow (P:=P) w t ty E i z ht hi hz1 ⟨g,0,none⟩ k c xs hown.1 holds ad m c2 news hl hcells (by omega) (by omega) (growslice_fits (by omega) (by rw [hb'];exact hbytes))
    rw [r1]at hr2
    injection hr2 with hr2 _
    injection hr2 with hr2 _ _
    rw [hr2]at hg'
    simp only [ownB,Option.map_some,Option.some.injEq]at hg'
    exact .inr (by omega)
theorem FQ {t ty E:TypeId}{sz iQ m c2:Nat}{oa wR:Option Addr}{news zs:List Value}
  (ht:P.underlying t=some (.slice E)) (hs:szB P E=some sz) (hby:gB P E=some iQ) (hz:lZ P E=some zs) (hzl:zs.length=sz) (hsz:Nat.ble 1 sz=true)
  (hr:Row w wR news) (hl:news.length=m*sz) (h1 : ∀u∈news,u.oneCell'=true) (hnil:wR=none→c2=0)
  (hbytes:m*iQ≤140737488355328) (hlen:m≤maxLen) :
  ∃v' w',(Builtin.append_ #[t,t] ty #[.slice oa 0 0, .slice wR m c2]).run P w = .ok v' w'∧((m=0∧v' = .slice oa 0 0∧w'=w)∨
   ∃iq c',v' = .slice iq m c'∧Own w' 0 E sz iq m c' news∧w.grownBy w' none∧∀g,ownB iq=some g→w.heap.size≤g):=by
 have hz1:0<sz:=Nat.le_of_ble_eq_true hsz
 cases oa with
 | none=>
  obtain⟨iq,c',w',r1,r2,r3,r4⟩:=mD (P:=P) (w:=w) (ty:=ty) (k:=0) (c:=0) (oa:=none) (xs:= []) (m:=m) (c2:=c2) ht hs hby hz hzl hsz (Own.nil w 0 E sz) hr hl h1 hnil (by rw [Nat.zero_add];exact hbytes) (by rw [Nat.zero_add];exact hlen)
  rw [Nat.zero_add]at r1 r2
  exact⟨_,_,r1, .inr ⟨iq,c',rfl,by simpa using r2,r3,fun g hg=>(r4 g hg).elim (fun e=>by simp [ownB]at e) id⟩⟩
 | some a=>
  obtain⟨i,hi,rfl⟩:=gQ hs
  rcases Nat.eq_zero_or_pos m with h0 | h0
  ·subst h0
   have hn:news = []:=List.eq_nil_of_length_eq_zero (by simpa using hl)
   subst hn
   refine⟨.slice (some a) 0 0,w, ?_, .inl ⟨rfl,rfl,rfl⟩⟩
   cases wR<;>simp [Builtin.append_,run_underlying ht,sizeOf,typeInfo,hi,Builtin.lenOf,Builtin.firstCells,loadCells,loadCellsFrom,storeCells]
  ·have hb':i.bytes=iQ:=by simpa [gB,hi]using hby
   obtain⟨z,hz1',hz2⟩ : ∃z,i.zero=some z∧z.cells.toList=zs:=by
    unfold lZ at hz
    simp only [hi,Option.bind_some]at hz
    cases hzz:i.zero with
    | none=>simp [hzz]at hz
    | some z=>simp only [hzz,Option.map_some,Option.some.injEq]at hz;exact⟨z,rfl,hz⟩
   have hzc:z.cells.size=i.size:=by rw [←hz2]at hzl;simpa using hzl
   obtain⟨ad,rfl,hcells⟩ : ∃ad,wR=some ad∧∀j u,news[j]? = some u→w.cell? (ad.add j)=some u:=by
    rcases hr with rfl | ⟨b,o,rfl,_,hc⟩
    ·have:=Nat.mul_pos h0 hz1;simp at hl;omega
    ·exact⟨_,rfl,fun j u hj=>by rw [add0];exact hc j u hj⟩
   have hr1:=run_append_grow (P:=P) w t ty E i z ht hi hz1' a 0 0 [] (by simp) (by simp) ad m c2 news hl hcells (by omega) (by simp only [maxLen]at hlen;omega) (growslice_fits (by omega) (by rw [hb',Nat.zero_add];exact hbytes))
   obtain⟨iq,c',w',r1,r2,r3,r4⟩:=mD (P:=P) (w:=w) (ty:=ty) (k:=0) (c:=0) (oa:=none) (xs:= []) (m:=m) (c2:=c2) ht hs hby hz hzl hsz (Own.nil w 0 E i.size) (.inr (by
    rcases hr with rfl | h
    ·have:=Nat.mul_pos h0 hz1;simp at hl;omega
    ·exact h)) hl h1 hnil (by rw [Nat.zero_add];exact hbytes) (by rw [Nat.zero_add];exact hlen)
   have hr2:=run_append_nil (P:=P) w t ty E i z ht hi hz1' ad m c2 news hl hcells (by omega) (by simp only [maxLen]at hlen;omega) (by rw [hb'];omega)
   rw [Nat.zero_add]at r1 r2
   rw [hr2]at r1
   injection r1 with e1 e2
   simp only [Nat.zero_add]at hr1
   have e3:(([]:List Value).toArray++news.toArray++Builtin.zeroCells z.cells (grownCap w m 0 E-m))=news.toArray++Builtin.zeroCells z.cells (grownCap w m 0 E-m):=by simp
   rw [e3,e1,e2]at hr1
   exact⟨_,_,hr1, .inr ⟨iq,c',rfl,by simpa using r2,r3,fun g hg=>(r4 g hg).elim (fun e=>by simp [ownB]at e) id⟩⟩
theorem St.move (st:St G w₀ aK aN n σ F H w){w':World}{aT:Nat}{blk:dU}(hk:look H aT=some blk)(hm:blk.own=true)(hos:w'.os=w.os)(htp:w'.tape=w.tape)(hou:w'.output=w.output)(hsz:w.heap.size≤w'.heap.size)
  (hg : ∀k,k<w.heap.size→(σ aT).b≠some k→w'.heap[k]? = w.heap[k]?) (L:Loc) (hL : ∀g,L.b=some g→g<w'.heap.size∧((σ aT).b=some g∨w.heap.size≤g)) (blk':dU)
  (hblk:Ext n σ F w (n+1) (oq σ n L) F w'→kP (n+1) (oq σ n L) F w' L blk') (hfl:blk'.flat=true:=by rfl):St G w₀ aK aN (n+1) (oq σ n L) F ((n,blk')::Jb H aT) w'∧Ext n σ F w (n+1) (oq σ n L) F w':=by
 have old : ∀b,(σ aT).b=some b→¬F b∧G.nb≤b∧b<w.heap.size∧(aK b∨w₀.heap.size≤b):=fun b hb=>st.mu aT blk b hk hm (.inl hb)
 have bk : ∀ {k b g'},k≠aT→look H k=some b→b.own=true→iL w' (σ k) b g'→iL w (σ k) b g':=fun hne h hm' hg'=>hg'.back fun x hx=>hg x (st.mu _ _ x h hm' (.inl hx)).2.2.1 fun e=>hne (st.inj _ aT _ blk x h hk hm' hm (.inl hx) (.inl e))
 have hE:Ext n σ F w (n+1) (oq σ n L) F w':=⟨by omega,fun k hk=>dJ (by omega),fun b hb=>⟨hb,hg b (st.dL b hb).1 fun e=>(old b e).1 hb⟩,hsz⟩
 have hnb:=st.glob.1
 have hw0:=st.gI.size
 refine⟨⟨Glob.gI st.glob hsz fun b hb=>hg b (by omega) fun e=>by have:=(old b e).2.1;omega,st.gI.trans (M':=fun b=>(σ aT).b=some b) ⟨hos,htp,hou,hsz,fun k h1 h2=>hg k h1 h2⟩ (fun b hb=>(old b hb).2.2.2),fun b hb=>⟨Nat.lt_of_lt_of_le (st.dL b hb).1 hsz,(st.dL b hb).2⟩,fun k b h=> ?_,fun k b g h hm' hg'=> ?_,fun k k' b b' g h h' hm1 hm2 hg1 hg2=> ?_,fun k b h=> ?_⟩,hE⟩
 ·rw [aW]at h
  split at h
  ·omega
  ·have:=st.lab k b (iI h).2;omega
 ·rw [aW]at h
  split at h
  ·rename_i e
   subst e
   injection h with h
   subst h
   rw [bV]at hg'
   obtain⟨h1,h2⟩:=hL g (hg'.flat hfl)
   rcases h2 with h2 | h2
   ·exact⟨(old g h2).1,(old g h2).2.1,h1,(old g h2).2.2.2⟩
   ·exact⟨fun hf=>by have:=(st.dL g hf).1;omega,by omega,h1, .inr (by omega)⟩
  ·obtain⟨hne,h⟩:=iI h
   have hl:=st.lab k b h
   rw [dJ (by omega)]at hg'
   have hg':=bk hne h hm' hg'
   obtain⟨h1,h2,h3,h4⟩:=st.mu k b g h hm' hg'
   exact⟨h1,h2,Nat.lt_of_lt_of_le h3 hsz,h4⟩
 ·have cross : ∀ {x:Nat} {c:dU},look (Jb H aT) x=some c→c.own=true→iL w' (oq σ n L x) c g→L.b=some g→False:=by
   intro x c hx hc hgx hLg
   obtain⟨x1,x2⟩:=iI hx
   have hl:=st.lab x c x2
   rw [dJ (by omega)]at hgx
   have hgx:=bk x1 x2 hc hgx
   rcases(hL g hLg).2 with e | e
   ·exact x1 (st.inj x aT c blk g x2 hk hc hm hgx (.inl e))
   ·have:=(st.mu x c g x2 hc hgx).2.2.1;omega
  rw [aW]at h h'
  split at h
  ·rename_i e
   subst e
   injection h with h
   subst h
   rw [bV]at hg1
   split at h'
   ·rename_i e';exact e'
   ·exact(cross h' hm2 hg2 (hg1.flat hfl)).elim
  ·split at h'
   ·rename_i e'
    subst e'
    injection h' with h'
    subst h'
    rw [bV]at hg2
    exact(cross h hm1 hg1 (hg2.flat hfl)).elim
   ·obtain⟨n1,h⟩:=iI h
    obtain⟨n2,h'⟩:=iI h'
    have hl:=st.lab k b h
    have hl':=st.lab k' b' h'
    rw [dJ (by omega)]at hg1 hg2
    exact st.inj k k' b b' g h h' hm1 hm2 (bk n1 h hm1 hg1) (bk n2 h' hm2 hg2)
 ·rw [aW]at h
  split at h
  ·rename_i e
   subst e
   injection h with h
   subst h
   rw [bV]
   exact hblk hE
  ·obtain⟨h1,h⟩:=iI h
   have hl:=st.lab k b h
   rw [dJ (by omega)]
   exact(st.blk k b h).mono hE fun hm' g hg'=>hg g (st.mu k b g h hm' hg').2.2.1 fun e=>h1 (st.inj k aT b blk g h hk hm' hm hg' (.inl e))
theorem DU {t sz c m:Nat}{oa:Option Addr}{xs:List Value}(hO:Own w 0 t sz oa m c xs):(oa.map (·.block)).map (fun g=>(⟨g,0,none⟩:Addr))=oa:=by
 rcases hO.2 with ⟨hv,h0⟩ | ⟨g,cap,cur,hv,_⟩
 ·injection hv with e _ _;subst e;rfl
 ·injection hv with e _ _;subst e;rfl
theorem qh {t sz c m:Nat}{oa:Option Addr}{xs:List Value}{l:List (List FV)}(hO:Own w 0 t sz oa m c xs)(hm:m=l.length)(hR:fU F w sz l xs):kP n σ F w ⟨oa.map (·.block),m,c,sz⟩ (.rows t sz l):=by
 refine⟨rfl,hm,xs, ?_,hR⟩
 have:(Loc.mk (oa.map (·.block)) m c sz).oa=oa:=DU hO
 rw [this, ←hm];exact hO
theorem vN {t sz c m:Nat}{oa:Option Addr}{xs:List Value}{w':World}(hO:Own w' 0 t sz oa m c xs):aZ (n+1) (oq σ n ⟨oa.map (·.block),m,c,sz⟩) F w' (.own n) (.slice oa m c):=by
 have:=aZ.own (n:=n+1) (σ:=oq σ n ⟨oa.map (·.block),m,c,sz⟩) (F:=F) (w:=w') n (by omega)
 rw [bV]at this
 have e:(Loc.mk (oa.map (·.block)) m c sz).oa=oa:=DU hO
 rw [e]at this
 exact this
theorem zo {t sz c m:Nat}{oa:Option Addr}{xs:List Value}{w':World}(hO:Own w' 0 t sz oa m c xs){g:Nat}(h:oa.map (·.block)=some g):g<w'.heap.size:=(hO.ge g h).2
theorem zq {ts:List TypeId}{as:List AV}{vs:List Value}{ty:TypeId}{K:AV→Nat→ak→Prop}(h:zf P ts as n H K)(st:St G w₀ aK aN n σ F H w)(r:bJ n σ F w as vs) :
  bQ P (Builtin.append_ ts.toArray ty vs.toArray) w (FN G w₀ aK aN n σ F w K):=by
 unfold zf at h
 split at h
 ·rename_i t t' d s
  obtain⟨vd,vs',rfl,rd,rs⟩ : ∃v1 v2,vs = [v1,v2]∧aZ n σ F w d v1∧aZ n σ F w s v2:=by
   match vs,r with
   | [v1,v2],r=>exact⟨v1,v2,rfl,r.1,r.2.1⟩
  cases hb:Nat.beq t t' with
  | false=>rw [hb]at h;exact h.elim
  | true=>
   rw [hb,cond_true]at h
   have:=Nat.eq_of_beq_eq_true hb
   subst this
   split at h
   ·rename_i E hu
    split at h
    ·rename_i sz iQ zs hs hby hz
     cases hc:(Nat.beq zs.length sz&&Nat.ble 1 sz)with
     | false=>rw [hc]at h;exact h.elim
     | true=>
      rw [hc,cond_true]at h
      simp only [Bool.and_eq_true]at hc
      have hzl:=Nat.eq_of_beq_eq_true hc.1
      split at h
      ·rename_i sz' m hsrc
       cases hd:Nat.beq sz sz' with
       | false=>rw [hd]at h;exact h.elim
       | true=>
        rw [hd,cond_true]at h
        have:=Nat.eq_of_beq_eq_true hd
        subst this
        have src : ∃oa k c news,vs' = .slice oa k c∧k=m.length∧(oa=none→c=0)∧Row w oa news∧fU F w sz m news:=by
         split at hsrc
         ·simp only [Option.some.injEq,Prod.mk.injEq]at hsrc
          obtain⟨_,rfl⟩:=hsrc
          exact⟨none,0,0,[],rs.dH,rfl,fun _=>rfl,Row.nil _ _,fU.nil sz⟩
         ·obtain⟨oa,k,c,news,h1,h2,_,h4,h5,h6⟩:=KL hsrc st rs
          exact⟨oa,k,c,news,h1,h2,h4,h5,h6⟩
        obtain⟨wR,k2,c2,news,rfl,hk2,hnil,hrow,hR⟩:=src
        subst hk2
        split at h
        ·rw [rd.dH]
         obtain⟨hq1,hq2⟩:=h.req
         obtain⟨iq,c',w',r1,r2,r3,r4⟩:=mD (P:=P) (ty:=ty) (k:=0) (c:=0) (oa:=none) (xs:= []) (m:=m.length) (c2:=c2) hu hs hby hz hzl hc.2 (Own.nil w 0 E sz) hrow hR.2.1 hR.2.2.1 hnil (by rw [Nat.zero_add];exact hq1) (by rw [Nat.zero_add];exact hq2)
         rw [Nat.zero_add]at r1 r2
         simp only [List.nil_append]at r2
         have hE0 : ∀b,F b→F b∧w'.heap[b]? = w.heap[b]? :=fun b hb=>⟨hb,r3.block b (st.dL b hb).1 (by simp [ownB])⟩
         obtain⟨s2,x2⟩:=st.new (w':=w') ⟨r3.os,r3.tape,r3.output,r3.size,fun k hk _=>r3.block k hk (by simp [ownB])⟩ ⟨iq.map (fun x:Addr=>x.block),m.length,c',sz⟩
          (fun g hg=>⟨(r4 g hg).elim (fun e=>by simp [ownB]at e) id,zo r2 hg⟩) (.rows E sz m) (qh r2 rfl (hR.mono hE0))
         exact⟨_,_,r1,_,_,_,_,_,h.go,s2,x2,vN r2⟩
        ·rename_i l
         split at h
         ·rename_i E' Jd rr hk
          cases he:(Nat.beq E E'&&Nat.beq sz Jd)with
          | false=>rw [he]at h;exact h.elim
          | true=>
           rw [he,cond_true]at h
           simp only [Bool.and_eq_true]at he
           have e1:=Nat.eq_of_beq_eq_true he.1
           have e2:=Nat.eq_of_beq_eq_true he.2
           subst e1;subst e2
           obtain⟨hq1,hq2⟩:=h.req
           obtain⟨q1,q2,xs,hO,hRx⟩:=st.blk _ _ hk
           have hob:ownB (σ l).oa=(σ l).b:=by
            unfold ownB Loc.oa
            cases (σ l).b<;>rfl
           cases rd with
           | je _ oa hl hn hc0=>
            rw [hn]at q2
            have hr0:rr = []:=List.eq_nil_of_length_eq_zero q2.symm
            subst hr0
            rw [List.nil_append]at h
            simp only [List.length_nil,Nat.zero_add]at hq1 hq2
            obtain⟨v',w',r1,r2⟩:=FQ (P:=P) (ty:=ty) (oa:=oa) (c2:=c2) hu hs hby hz hzl hc.2 hrow hR.2.1 hR.2.2.1 hnil hq1 hq2
            rcases r2 with ⟨hm0,rfl,ew⟩ | ⟨iq,c',rfl,r2,r3,r4⟩
            ·have hm1:m = []:=List.eq_nil_of_length_eq_zero hm0
             subst hm1
             rw [ew]at r1
             obtain⟨s2,x2⟩:=(st.drop l).new (w':=w) (qE.refl _ _) ⟨none,0,0,sz⟩ (fun g hg=>by cases hg) (.rows E sz []) ⟨rfl,rfl,[],Own.nil _ _ _ _,fU.nil sz⟩
             exact⟨_,_,r1,_,_,_,_,_,h.go,s2,x2, .je n oa (by omega) (by rw [bV]) (by rw [bV])⟩
            ·have hE0 : ∀b,F b→F b∧w'.heap[b]? = w.heap[b]? :=fun b hb=>⟨hb,r3.block b (st.dL b hb).1 (by simp)⟩
             obtain⟨s2,x2⟩:=(st.drop l).new (w':=w') ⟨r3.os,r3.tape,r3.output,r3.size,fun k hk _=>r3.block k hk (by simp)⟩ ⟨iq.map (fun x:Addr=>x.block),m.length,c',sz⟩
              (fun g hg=>⟨r4 g hg,zo r2 hg⟩) (.rows E sz m) (qh r2 rfl (hR.mono hE0))
             exact⟨_,_,r1,_,_,_,_,_,h.go,s2,x2,vN r2⟩
           | own _ hl=>
            rw [q2]
            obtain⟨iq,c',w',r1,r2,r3,r4⟩:=mD (P:=P) (ty:=ty) (m:=m.length) (c2:=c2) hu hs hby hz hzl hc.2 hO hrow hR.2.1 hR.2.2.1 hnil hq1 hq2
            have hg3 : ∀k,k<w.heap.size→(σ l).b≠some k→w'.heap[k]? = w.heap[k]? :=fun k hk hn=>r3.block k hk (by rw [hob];exact fun e=>hn e.symm)
            have hE0 : ∀b,F b→F b∧w'.heap[b]? = w.heap[b]? :=fun b hb=>⟨hb,hg3 b (st.dL b hb).1 fun e=>(st.mu l _ b hk rfl (.inl e)).1 hb⟩
            obtain⟨s2,x2⟩:=st.move (w':=w') hk rfl r3.os r3.tape r3.output r3.size hg3 ⟨iq.map (·.block),rr.length+m.length,c',sz⟩
             (fun g hg=>⟨zo r2 hg,by have:=r4 g hg;rw [hob]at this;exact this⟩) (.rows E sz (rr++m)) (fun _=>qh r2 (by rw [List.length_append]) ((hRx.mono hE0).append (hR.mono hE0)))
            exact⟨_,_,r1,_,_,_,_,_,h.go,s2,x2,vN r2⟩
         ·exact h.elim
        ·exact h.elim
      ·exact h.elim
    ·exact h.elim
   ·exact h.elim
 ·exact h.elim
theorem sJ {t u ty E:TypeId}{k c:Nat}{oa:Option Addr}{xs:List Value}{s:ByteArray}
  (ht:P.underlying t=some (.slice E)) (hu:P.underlying u=some .string) (hs:szB P E=some 1) (hby:gB P E=some 1) (hz:(P.info? E).bind (·.zero)=some (.int .u8 0))
  (hown:Own w 0 E 1 oa k c xs) (hbytes:k+s.size≤140737488355328) (hlen:k+s.size≤maxLen) :
  ∃iq c' w',(Builtin.append_ #[t,u] ty #[.slice oa k c, .string s]).run P w = .ok (.slice iq (k+s.size) c') w'∧Own w' 0 E 1 iq (k+s.size) c' (xs++strCells s)∧w.grownBy w' (ownB oa)∧(∀g,ownB iq=some g→ownB oa=some g∨w.heap.size≤g):=by
 obtain⟨i,hi,hi1⟩:=gQ hs
 have hb':i.bytes=1:=by simpa [gB,hi]using hby
 have hz1:i.zero=some (.int .u8 0):=by simpa [hi]using hz
 have main : ∀B,Own w B E 1 oa k c xs→B≤w.heap.size→∃iq c' w',(Builtin.append_ #[t,u] ty #[.slice oa k c, .string s]).run P w = .ok (.slice iq (k+s.size) c') w'∧Own w' B E 1 iq (k+s.size) c' (xs++strCells s)∧w.grownBy w' (ownB oa):=by
  intro B hown hB
  obtain⟨v',w',hrun,ho,hg,_⟩:=run_append_own_string (P:=P) w B t u ty E i ht hu hi hz1 hi1 hb' (.slice oa k c) k xs hown s hlen hbytes hB
  rw [rW]at hg
  obtain⟨iq,c',rfl⟩ : ∃iq c',v' = .slice iq (k+s.size) c':=by
   rcases ho.2 with ⟨h,h0⟩ | ⟨g,cap,cur,h,_⟩
   ·exact⟨none,0,by rw [h,h0]⟩
   ·exact⟨_,cap,h⟩
  exact⟨iq,c',w',hrun,ho,hg⟩
 have up : ∀ {w':World} {B:Nat} {iq:Option Addr} {k' c':Nat} {ys:List Value},Own w' B E 1 iq k' c' ys→Own w' 0 E 1 iq k' c' ys:=fun h=>⟨h.1,h.2.imp id fun⟨g,cap,cur,h1,_,h2⟩=>⟨g,cap,cur,h1,Nat.zero_le _,h2⟩⟩
 rcases hown.2 with ⟨hv,h0⟩ | ⟨g,cap,cur,hv,hg0,hh,hle,hcm,hcs,htk⟩
 ·injection hv with e1 e2 e3
  subst e1;subst e2;subst e3
  obtain⟨iq,c',w',r1,r2,r3⟩:=main w.heap.size ⟨hown.1, .inl ⟨rfl,rfl⟩⟩ (Nat.le_refl _)
  exact⟨iq,c',w',r1,up r2,r3,fun g hg=> .inr (r2.ge g hg).1⟩
 ·injection hv with e1 e2 e3
  subst e1;subst e3
  obtain⟨iq,c',w',r1,r2,r3⟩:=main 0 hown (Nat.zero_le _)
  refine⟨iq,c',w',r1,r2,r3,fun g' hg'=> ?_⟩
  by_cases hroom:k+s.size≤c
  ·have hr2:=run_append_room_string (P:=P) w t u ty E i ht hu hi hi1 g k c cur hh s hroom (by rw [hcs];omega)
   rw [r1]at hr2
   injection hr2 with hr2 _
   injection hr2 with hr2 _ _
   rw [hr2]at hg'
   exact .inl hg'
  ·have holds : ∀j v,xs[j]? = some v→w.cell? ((⟨g,0,none⟩:Addr).add j)=some v:=World.ownsRow.cells (h:=hown) (g:=g) rfl
   have hr2:=run_append_grow_string (P:=P) w t u ty E i (.int .u8 0) ht hu hi hz1 ⟨g,0,none⟩ k c xs (by rw [hi1];exact hown.1) holds s (by omega) (by simp only [maxLen]at hlen;omega) (by rw [hb'];exact growslice_fits (by omega) (by omega))
   rw [r1]at hr2
   injection hr2 with hr2 _
   injection hr2 with hr2 _ _
   rw [hr2]at hg'
   simp only [ownB,Option.map_some,Option.some.injEq]at hg'
   exact .inr (by omega)
theorem DV {t u ty E:TypeId}{oa:Option Addr}{s:ByteArray}
  (ht:P.underlying t=some (.slice E)) (hu:P.underlying u=some .string) (hs:szB P E=some 1) (hby:gB P E=some 1) (hz:(P.info? E).bind (·.zero)=some (.int .u8 0))
  (hbytes:s.size≤140737488355328) (hlen:s.size≤maxLen) :
  ∃v' w',(Builtin.append_ #[t,u] ty #[.slice oa 0 0, .string s]).run P w = .ok v' w'∧((s.size=0∧v' = .slice oa 0 0∧w'=w)∨
   ∃iq c',v' = .slice iq s.size c'∧Own w' 0 E 1 iq s.size c' (strCells s)∧w.grownBy w' none∧∀g,ownB iq=some g→w.heap.size≤g):=by
 obtain⟨iq,c',w',r1,r2,r3,r4⟩:=sJ (P:=P) (w:=w) (t:=t) (u:=u) (ty:=ty) (k:=0) (c:=0) (oa:=none) (xs:= []) (s:=s) ht hu hs hby hz (Own.nil w 0 E 1) (by rw [Nat.zero_add];exact hbytes) (by rw [Nat.zero_add];exact hlen)
 rw [Nat.zero_add]at r1 r2
 cases oa with
 | none=>exact⟨_,_,r1, .inr ⟨iq,c',rfl,by simpa using r2,r3,fun g hg=>(r4 g hg).elim (fun e=>by simp [ownB]at e) id⟩⟩
 | some a=>
  obtain⟨i,hi,hi1⟩:=gQ hs
  have hb':i.bytes=1:=by simpa [gB,hi]using hby
  have hz1:i.zero=some (.int .u8 0):=by simpa [hi]using hz
  rcases Nat.eq_zero_or_pos s.size with h0 | h0
  ·refine⟨.slice (some a) 0 0,w, ?_, .inl ⟨h0,rfl,rfl⟩⟩
   have hn:strCells s = []:=List.eq_nil_of_length_eq_zero (by rw [strCells_length];exact h0)
   have hf:=run_firstCells_string (P:=P) w i.size s
   rw [hn,h0]at hf
   simp [Builtin.append_,run_underlying ht,run_underlying hu,sizeOf,typeInfo,hi,Builtin.lenOf,h0,hf,storeCells]
  ·have hr1:=run_append_grow_string (P:=P) w t u ty E i (.int .u8 0) ht hu hi hz1 a 0 0 [] (by simp) (by simp) s (by omega) (by simp only [maxLen]at hlen;omega) (by rw [hb'];exact growslice_fits (by omega) (by omega))
   have hr2:=run_append_nil_string (P:=P) w t u ty E i (.int .u8 0) ht hu hi hz1 s (by omega) (by simp only [maxLen]at hlen;omega) (by rw [hb'];omega)
   have e1:(s.data.map fun b=>Value.int .u8 b.toNat)=(strCells s).toArray:=by
    apply Array.ext'
    simp [strCells]
   rw [e1,r1]at hr2
   injection hr2 with e1 e2
   simp only [Nat.zero_add,List.nil_append,Array.empty_append]at hr1
   rw [←e1, ←e2]at hr1
   exact⟨_,_,hr1, .inr ⟨iq,c',rfl,by simpa using r2,r3,fun g hg=>(r4 g hg).elim (fun e=>by simp [ownB]at e) id⟩⟩
theorem KN (s:ByteArray):fU F w 1 (s.data.toList.map dW) (strCells s):=by
 have hl:(strCells s).length=s.size:=strCells_length s
 refine⟨fun row hr=>by obtain⟨x,_,rfl⟩:=List.mem_map.1 hr;rfl,by rw [hl,List.length_map];simp,strCells_oneCell s,fun i j row a v hi hj hv=> ?_⟩
 rw [List.getElem?_map]at hi
 cases hc:s.data.toList[i]? with
 | none=>rw [hc]at hi;cases hi
 | some x=>
  rw [hc]at hi
  simp only [Option.map_some,Option.some.injEq]at hi
  subst hi
  cases j with
  | succ j=>simp [dW]at hj
  | zero=>
   simp only [dW,List.getElem?_cons_zero,Option.some.injEq]at hj
   subst hj
   rw [Nat.mul_one,Nat.add_zero]at hv
   have:v = .int .u8 (x.toNat:Int):=by
    unfold strCells at hv
    rw [List.getElem?_map,hc]at hv
    simpa using hv.symm
   rw [this];exact .v _
theorem wX {t t' ty:TypeId}{d:AV}{x:ByteArray}{vd:Value}{K:AV→Nat→ak→Prop}(h:FD P t t' d x n H K)(st:St G w₀ aK aN n σ F H w)(rd:aZ n σ F w d vd) :
  bQ P (Builtin.append_ #[t,t'] ty #[vd, .string x]) w (FN G w₀ aK aN n σ F w K):=by
 unfold FD at h
 split at h
 ·rename_i E l hu hu'
  split at h
  ·rename_i sz iQ hs hby
   split at h
   ·rename_i E' sz' rr hk
    cases hc:(Nat.beq sz 1&&Nat.beq iQ 1&&FC P E&&Nat.beq E E'&&Nat.beq sz sz')with
    | false=>rw [hc]at h;exact h.elim
    | true=>
     rw [hc,cond_true]at h
     simp only [Bool.and_eq_true]at hc
     obtain⟨⟨⟨⟨c1,c2⟩,c3⟩,c4⟩,c5⟩:=hc
     have c1:=Nat.eq_of_beq_eq_true c1
     have c2:=Nat.eq_of_beq_eq_true c2
     have c4:=Nat.eq_of_beq_eq_true c4
     have c5:=Nat.eq_of_beq_eq_true c5
     subst c1;subst c2;subst c4;subst c5
     have hz:(P.info? E).bind (·.zero)=some (.int .u8 0):=by
      unfold FC at c3
      split at c3
      ·rename_i m hm;rw [hm,of_decide_eq_true c3]
      ·cases c3
     obtain⟨hq1,hq2⟩:=h.req
     obtain⟨q1,q2,xs,hO,hRx⟩:=st.blk _ _ hk
     have hob:ownB (σ l).oa=(σ l).b:=by
      unfold ownB Loc.oa
      cases (σ l).b<;>rfl
     have hxl:(x.data.toList.map dW).length=x.size:=by simp
     cases rd with
     | je _ oa hl hn hc0=>
      rw [hn]at q2
      have hr0:rr = []:=List.eq_nil_of_length_eq_zero q2.symm
      subst hr0
      rw [List.nil_append]at h
      simp only [List.length_nil,Nat.zero_add]at hq1 hq2
      obtain⟨v',w',r1,r2⟩:=DV (P:=P) (t:=t) (u:=t') (ty:=ty) (oa:=oa) (s:=x) hu hu' hs hby hz hq1 hq2
      rcases r2 with ⟨hm0,rfl,ew⟩ | ⟨iq,c',rfl,r2,r3,r4⟩
      ·have hm1:x.data.toList.map dW = []:=List.eq_nil_of_length_eq_zero (by rw [hxl];exact hm0)
       rw [hm1]at h
       rw [ew]at r1
       obtain⟨s2,x2⟩:=(st.drop l).new (w':=w) (qE.refl _ _) ⟨none,0,0,1⟩ (fun g hg=>by cases hg) (.rows E 1 []) ⟨rfl,rfl,[],Own.nil _ _ _ _,fU.nil 1⟩
       exact⟨_,_,r1,_,_,_,_,_,h.go,s2,x2, .je n oa (by omega) (by rw [bV]) (by rw [bV])⟩
      ·obtain⟨s2,x2⟩:=(st.drop l).new (w':=w') ⟨r3.os,r3.tape,r3.output,r3.size,fun k hk _=>r3.block k hk (by simp)⟩ ⟨iq.map (fun x:Addr=>x.block),x.size,c',1⟩
        (fun g hg=>⟨r4 g hg,zo r2 hg⟩) (.rows E 1 (x.data.toList.map dW)) (qh r2 hxl.symm (KN x))
       exact⟨_,_,r1,_,_,_,_,_,h.go,s2,x2,vN r2⟩
     | own _ hl=>
      rw [q2]
      obtain⟨iq,c',w',r1,r2,r3,r4⟩:=sJ (P:=P) (t:=t) (u:=t') (ty:=ty) (s:=x) hu hu' hs hby hz hO hq1 hq2
      have hg3 : ∀k,k<w.heap.size→(σ l).b≠some k→w'.heap[k]? = w.heap[k]? :=fun k hk hn=>r3.block k hk (by rw [hob];exact fun e=>hn e.symm)
      have hE0 : ∀b,F b→F b∧w'.heap[b]? = w.heap[b]? :=fun b hb=>⟨hb,hg3 b (st.dL b hb).1 fun e=>(st.mu l _ b hk rfl (.inl e)).1 hb⟩
      obtain⟨s2,x2⟩:=st.move (w':=w') hk rfl r3.os r3.tape r3.output r3.size hg3 ⟨iq.map (·.block),rr.length+x.size,c',1⟩
       (fun g hg=>⟨zo r2 hg,by have:=r4 g hg;rw [hob]at this;exact this⟩) (.rows E 1 (rr++x.data.toList.map dW)) (fun _=>qh r2 (by rw [List.length_append,hxl]) ((hRx.mono hE0).append (KN x)))
      exact⟨_,_,r1,_,_,_,_,_,h.go,s2,x2,vN r2⟩
   ·exact h.elim
  ·exact h.elim
 ·exact h.elim
theorem UN : ∀ {k:Nat} {u:TypeId},UH P k=some u→P.underlying u=some .string:=by
 intro k
 induction k with
 | zero=>intro u h;cases h
 | succ k ih=>
  intro u h
  unfold UH at h
  split at h
  ·rename_i u' hu;injection h with h;subst h;exact ih hu
  ·split at h
   ·rename_i hk;injection h with h;subst h;exact hk
   ·cases h
theorem FT (m:Nat):(strCells (l9 m)).toArray=Builtin.zeroCells (Value.int .u8 0).cells m:=by
 apply Array.ext
 ·simp [strCells,l9,Builtin.zeroCells,Value.cells]
 ·intro i h1 h2
  simp [strCells,l9,Builtin.zeroCells,Value.cells,Nat.mod_one]
theorem UO {t u tn ty E:TypeId}{kn k:IntKind}{oa:Option Addr}{l c m:Nat}
  (ht:P.underlying t=some (.slice E)) (hu:P.underlying u=some .string) (htn:P.underlying tn=some (.int kn)) (hs:szB P E=some 1) (hby:gB P E=some 1) (hz:(P.info? E).bind (·.zero)=some (.int .u8 0))
  (hm:l+m≤140737488355328) :
  (Builtin.append_ #[t,tn] ty #[.slice oa l c, .int k (m:Int)]).run P w=(Builtin.append_ #[t,u] ty #[.slice oa l c, .string (l9 m)]).run P w:=by
 obtain⟨i,hi,hi1⟩:=gQ hs
 have hb':i.bytes=1:=by simpa [gB,hi]using hby
 have hz1:i.zero=some (.int .u8 0):=by simpa [hi]using hz
 have hw:IntKind.i64.wrap (m:Int)=m:=by rw [IntKind.wrap_i64];omega
 have hneg : ¬((m:Int)<0):=by omega
 have h48 : ¬(281474976710656<(m:Int)):=by omega
 have hsz:(l9 m).size=m:=by simp [l9,ByteArray.size]
 have hbig : ¬(9223372036854775807<((l:Int)+(m:Int))):=by omega
 have hfc : ∀w:World,(Builtin.firstCells 1 m (.string (l9 m))).run P w = .ok (Builtin.zeroCells (Value.int .u8 0).cells m) w:=fun w=>by
  have:=run_firstCells_string (P:=P) w 1 (l9 m)
  rw [hsz,FT]at this
  exact this
 have hz0:m=0→Builtin.zeroCells (Value.int .u8 0).cells m = #[]:=fun h=>by subst h;simp [Builtin.zeroCells]
 have hfit : ¬(l+m≤c)→¬(281474976710656<Builtin.nextslicecap (l+m) c):=fun hg=>by
  have:=growslice_fits (need:=l+m) (old:=c) (bytes:=1) (by omega) (by omega)
  omega
 by_cases hroom:l+m≤c
 ·by_cases h0:m=0
  ·have h00:=hz0 h0
   subst h0
   have hw0:IntKind.i64.wrap 0=0:=rfl
   rw [h00]at hfc
   simp [Builtin.append_,run_underlying ht,run_underlying htn,run_underlying hu,sizeOf,typeInfo,zeroValue,hi,hz1,hi1,hb',asInt,asIntOf,Builtin.lenOf,hsz,hfc,hw0,show l≤c by omega]
  ·simp [Builtin.append_,run_underlying ht,run_underlying htn,run_underlying hu,sizeOf,typeInfo,zeroValue,hi,hz1,hi1,hb',asInt,asIntOf,Builtin.lenOf,hsz,hfc,hw,hneg,h48,h0,hbig,hroom]
 ·have hf:=hfit hroom
  by_cases h0:m=0
  ·have h00:=hz0 h0
   subst h0
   have hw0:IntKind.i64.wrap 0=0:=rfl
   rw [Nat.add_zero]at hf hroom hm
   have hl0 : ¬(9223372036854775807<(l:Int)):=by omega
   rw [h00]at hfc
   simp [Builtin.append_,run_underlying ht,run_underlying htn,run_underlying hu,sizeOf,typeInfo,zeroValue,hi,hz1,hi1,hb',asInt,asIntOf,Builtin.lenOf,hsz,hfc,hw0,h00,hroom,hf,hl0]
  ·simp [Builtin.append_,run_underlying ht,run_underlying htn,run_underlying hu,sizeOf,typeInfo,zeroValue,hi,hz1,hi1,hb',asInt,asIntOf,Builtin.lenOf,hsz,hfc,hw,hneg,h48,h0,hbig,hroom,hf]
theorem FU {t t' ty:TypeId}{d:AV}{x:Int}{vd:Value}{k:IntKind}{K:AV→Nat→ak→Prop}(h:PN P t t' d x n H K)(st:St G w₀ aK aN n σ F H w)(rd:aZ n σ F w d vd) :
  bQ P (Builtin.append_ #[t,t'] ty #[vd, .int k x]) w (FN G w₀ aK aN n σ F w K):=by
 unfold PN at h
 split at h
 ·rename_i kn u hn hu
  obtain⟨m,mc,rfl,_,_,_,_,hk⟩:=h.ex
  obtain⟨v,w',hr,hK⟩:=(wX (ty:=ty) hk st rd)
  have hsz:(l9 m).size=m:=by simp [l9,ByteArray.size]
  unfold FD at hk
  split at hk
  ·rename_i E l ht _
   split at hk
   ·rename_i sz iQ hs hby
    split at hk
    ·rename_i E' sz' rr hl
     cases hc:(Nat.beq sz 1&&Nat.beq iQ 1&&FC P E&&Nat.beq E E'&&Nat.beq sz sz')with
     | false=>rw [hc]at hk;exact hk.elim
     | true=>
      rw [hc,cond_true]at hk
      simp only [Bool.and_eq_true]at hc
      obtain⟨⟨⟨⟨c1,c2⟩,c3⟩,c4⟩,c5⟩:=hc
      have c1:=Nat.eq_of_beq_eq_true c1
      have c2:=Nat.eq_of_beq_eq_true c2
      subst c1;subst c2
      have hz:(P.info? E).bind (·.zero)=some (.int .u8 0):=by
       unfold FC at c3
       split at c3
       ·rename_i z hm;rw [hm,of_decide_eq_true c3]
       ·cases c3
      obtain⟨hq1,_⟩:=hk.req
      rw [hsz]at hq1
      obtain⟨_,q2,_⟩:=st.blk _ _ hl
      have key : ∀(oa:Option Addr) (n' c':Nat),n'≤rr.length→vd = .slice oa n' c'→bQ P (Builtin.append_ #[t,t'] ty #[vd, .int k (m:Int)]) w (FN G w₀ aK aN n σ F w K):=fun oa n' c' hn' e=>by
       subst e
       exact⟨v,w',(UO ht (UN hu) hn hs hby hz (by omega)).trans hr,hK⟩
      cases rd with
      | je _ oa _ _ _=>exact key oa 0 0 (Nat.zero_le _) rfl
      | own _ _=>exact key _ _ _ (by omega) rfl
    ·exact hk.elim
   ·exact hk.elim
  ·exact hk.elim
 ·exact h.elim
theorem BF {ts:List TypeId}{as:List AV}{vs:List Value}{ty:TypeId}{K:AV→Nat→ak→Prop}(h:Dz P ts as n H K)(st:St G w₀ aK aN n σ F H w)(r:bJ n σ F w as vs) :
  bQ P (Builtin.append_ ts.toArray ty vs.toArray) w (FN G w₀ aK aN n σ F w K):=by
 unfold Dz at h
 split at h
 ·rename_i t t' d x
  obtain⟨vd,rfl,rd⟩ : ∃vd,vs = [vd, .string x]∧aZ n σ F w d vd:=by
   match vs,r with
   | [v1,v2],r=>exact⟨v1,by rw [r.2.1.dH],r.1⟩
  exact wX h st rd
 ·rename_i t t' d x
  obtain⟨vd,rfl,rd⟩ : ∃vd,vs = [vd, .int .i64 x]∧aZ n σ F w d vd:=by
   match vs,r with
   | [v1,v2],r=>exact⟨v1,by rw [r.2.1.dH],r.1⟩
  exact FU h st rd
 ·exact zq h st r
theorem NK : ∀ {H:ak} {l:Nat} {b:dU},look H l=some b→setH H l b=H:=by
 intro H
 induction H with
 | nil=>intro l b h;cases h
 | cons p r ih=>
  intro l b h
  unfold look at h
  unfold setH
  cases hb:Nat.beq p.1 l with
  | true=>
   rw [hb,cond_true]at h
   injection h with h
   rw [cond_true, ←h, ←Nat.eq_of_beq_eq_true hb]
  | false=>
   rw [hb,cond_false]at h
   rw [cond_false,ih h]
theorem FW {α:Type}(cur cs:List α)(o L:Nat)(h:o+cs.length≤L)(hL:L≤cur.length):(cur.take o++cs++cur.drop (o+cs.length)).take L=(cur.take L).take o++cs++(cur.take L).drop (o+cs.length):=by
 have hA:(cur.take o++cs).length=o+cs.length:=by rw [List.length_append,List.length_take];omega
 rw [List.take_append,hA,List.take_of_length_le (by omega),List.take_take,List.drop_take,Nat.min_eq_left (by omega)]
theorem FX {w:World}{g:Nat}{cs:Array Value} : Only g w (w.setRow g cs):=by
 refine⟨rfl,rfl,rfl,by simp [World.setRow],fun k hk=> ?_⟩
 simp only [World.setRow,Array.getElem?_modify]
 rw [if_neg (fun e=>hk e.symm)]
theorem FY {ts:List TypeId}{as:List AV}{vs:List Value}{ty:TypeId}{K:AV→Nat→ak→Prop}(h:PU P ts as n H K)(st:St G w₀ aK aN n σ F H w)(r:bJ n σ F w as vs) :
  bQ P (Builtin.copy_ ts.toArray ty vs.toArray) w (FN G w₀ aK aN n σ F w K):=by
 unfold PU at h
 split at h
 ·rename_i t t' d s
  obtain⟨vd,vs',rfl,rd,rs⟩ : ∃v1 v2,vs = [v1,v2]∧aZ n σ F w d v1∧aZ n σ F w s v2:=by
   match vs,r with
   | [v1,v2],r=>exact⟨v1,v2,rfl,r.1,r.2.1⟩
  split at h
  ·rename_i E hu
   split at h
   ·rename_i sz l o k sz' xs hs hcp hsrc
    split at h
    ·rename_i T Jd m hk
     cases hb:(Nat.beq sz 1&&(Nat.beq sz' 1&&Nat.beq Jd 1))with
     | false=>rw [hb]at h;exact h.elim
     | true=>
      rw [hb,cond_true]at h
      simp only [Bool.and_eq_true]at hb
      obtain rfl:=Nat.eq_of_beq_eq_true hb.1
      obtain rfl:=Nat.eq_of_beq_eq_true hb.2.1
      obtain rfl:=Nat.eq_of_beq_eq_true hb.2.2
      obtain⟨i,hi,hi1⟩:=gQ hs
      have hs1:(P.info? E).map (·.size)=some 1:=by rw [hi];exact congrArg some hi1
      obtain⟨wR,k2,c2,news,rfl,hk2,_,hnil,hrow,hR⟩:=KL hsrc st rs
      subst hk2
      obtain⟨q1,q2,mv,hO,hRm⟩:=st.blk _ _ hk
      have dst : ∃oa c,vd = .slice oa k c∧o+k≤m.length∧(0<k→∃g,(σ l).b=some g∧oa=some ⟨g,o,none⟩):=by
       unfold Yt at hcp
       split at hcp
       ·rename_i l'
        split at hcp
        ·rename_i T' s' m' hk'
         simp only [Option.some.injEq,Prod.mk.injEq]at hcp
         obtain⟨rfl,rfl,rfl⟩:=hcp
         rw [hk]at hk'
         injection hk' with hk'
         injection hk' with _ _ hk'
         subst hk'
         cases rd with
         | je _ oa hl hn hc0=>
          rw [hn]at q2
          exact⟨oa,0,by rw [←q2],by omega,fun h0=>by omega⟩
         | own _ hl=>
          refine⟨(σ l').oa,(σ l').c,by rw [q2],by omega,fun h0=> ?_⟩
          obtain⟨g,cur,hoa,_⟩:=hO.blk h0
          exact⟨g,oh hoa,hoa⟩
        ·cases hcp
       ·rename_i l' o' k'
        simp only [Option.some.injEq,Prod.mk.injEq]at hcp
        obtain⟨rfl,rfl,rfl⟩:=hcp
        cases rd with
        | sub _ _ _ oa c hl hk1 hc hnil' ho=>
         refine⟨oa,c,rfl,by omega,fun h0=> ?_⟩
         obtain⟨b,hb1,hb2⟩:=ho h0
         rw [q1,Nat.mul_one]at hb2
         exact⟨b,hb1,hb2⟩
       ·cases hcp
      obtain⟨oa,c,rfl,hok,hdst⟩:=dst
      rcases Nat.eq_zero_or_pos (min xs.length k)with h0 | h0
      ·rw [h0]at h
       have hrun:=run_copy_none (P:=P) w t t' ty E oa wR k c xs.length c2 hu hs1 h0
       have e:splice m o (xs.take 0)=m:=by simp [splice]
       rw [e,NK hk]at h
       exact dZ hrun ⟨.v (.int .i64 0),n,σ,F,H,h,st,Ext.refl n σ F w, .v _⟩
      ·obtain⟨g,hgb,rfl⟩:=hdst (by omega)
       obtain⟨g',cur,hoa,hg0,hB,hle,hcm,hcl,htk⟩:=hO.blk (by omega)
       have hgb':=oh hoa
       rw [hgb]at hgb'
       injection hgb' with hgb'
       subst hgb'
       rw [Nat.mul_one]at hcl htk
       have hnl:news.length=xs.length:=by have:=hR.2.1;rwa [Nat.mul_one]at this
       obtain⟨b2,o2,rfl,_,hcells⟩:=hrow.get (by omega)
       generalize hn0:min xs.length k=n0 at *
       have P7:(news.take n0).length=n0:=by rw [List.length_take];omega
       have h1 : ∀v∈news.take n0,v.oneCell'=true:=fun v hv=>hR.2.2.1 v (List.mem_of_mem_take hv)
       have hrun:=run_copy_row (P:=P) w t t' ty E g o k c ⟨b2,o2,none⟩ xs.length c2 cur.toArray T (news.take n0) hu hs1 hB (by rw [P7];exact hn0.symm) (fun j v hj=>by
        rw [add0]
        rw [List.getElem?_take]at hj
        split at hj
        ·exact hcells j v hj
        ·cases hj) (by rw [P7];simp;omega) h1
       rw [P7]at hrun
       have hB':=setRow_heap w g cur.toArray (cur.take o++news.take n0++cur.drop (o+n0)).toArray T (0,0) hB
       have hxl:(xs.take n0).length=n0:=by rw [List.length_take];omega
       have hsl:(splice m o (xs.take n0)).length=m.length:=by simp only [splice,hxl,List.length_append,List.length_take,List.length_drop];omega
       have p1:=hRm.part (i:=0) (j:=o) (by omega)
       have p2:=hR.part (i:=0) (j:=n0) (by omega)
       have p3:=hRm.part (i:=o+n0) (j:=m.length -(o+n0)) (by omega)
       simp only [Nat.zero_mul,List.drop_zero,Nat.mul_one]at p1 p2 p3
       have hmv:mv.length=m.length:=by have:=hRm.2.1;rwa [Nat.mul_one]at this
       rw [List.take_of_length_le (by rw [List.length_drop];omega),List.take_of_length_le (by rw [List.length_drop];omega)]at p3
       have hrep:fU F w 1 (splice m o (xs.take n0)) (mv.take o++news.take n0++mv.drop (o+n0)):=by
        unfold splice
        rw [hxl]
        exact(p1.append p2).append p3
       obtain⟨s2,x2⟩:=st.write (w':=w.setRow g (cur.take o++news.take n0++cur.drop (o+n0)).toArray) hk rfl hgb FX (.rows T 1 (splice m o (xs.take n0))) fun _ hE=>⟨q1,by rw [hsl];exact q2,_,by
         rw [hoa,hsl]
         refine Own.wS (xs:=mv.take o++news.take n0++mv.drop (o+n0)) hB' hg0 hle hcm ?_ ?_
         ·rw [Nat.mul_one];simp only [List.length_append,List.length_take,List.length_drop];omega
         ·rw [Nat.mul_one, ←htk]
          have:=FW cur (news.take n0) o m.length (by rw [P7];omega) (by omega)
          rwa [P7]at this,hrep.mono hE.f⟩
       have e:goInt n0 = .int .i64 (n0:Int):=rfl
       exact dZ hrun ⟨.v (.int .i64 (n0:Int)),n,σ,F,_,h,s2,x2,by rw [e];exact .v _⟩
    ·exact h.elim
   ·exact h.elim
  ·exact h.elim
 ·exact h.elim
theorem P8 (zs:List Value):oL F w (zs.map .v) zs:=⟨by simp,fun j a v h1 h2=>by
 rw [List.getElem?_map,h2]at h1
 simp only [Option.map_some,Option.some.injEq]at h1
 rw [←h1];exact .v _⟩
theorem FZ {zs:List Value}{sz:Nat}(hz:zs.length=sz)(h1 : ∀v∈zs,v.oneCell'=true) : ∀m:Nat,fU F w sz (List.replicate m (zs.map .v)) (List.replicate m zs).flatten:=by
 intro m
 induction m with
 | zero=>exact fU.nil sz
 | succ m ih=>rw [List.replicate_succ,List.replicate_succ,List.flatten_cons];exact .cons (P8 zs) hz h1 ih
theorem P9 {zs:List Value}{sz m mc:Nat}(hz:zs.length=sz)(h:m≤mc):(List.replicate mc zs).flatten.take (m*sz)=(List.replicate m zs).flatten:=by
 obtain⟨d,rfl⟩:=Nat.exists_eq_add_of_le h
 rw [←List.replicate_append_replicate,List.flatten_append]
 have:m*sz=(List.replicate m zs).flatten.length:=by simp [hz]
 rw [this]
 exact List.take_left
theorem F5 {w:World}{K:Value→World→Prop}{t E:TypeId}{sz iQ n m:Nat}{kl kc:IntKind}{zs:List Value}
  (ht:P.underlying t=some (.slice E)) (hs:szB P E=some sz) (hby:gB P E=some iQ) (hz:lZ P E=some zs) (hzl:zs.length=sz) (hsz:Nat.ble 1 sz=true)
  (hnm:n≤m) (hbytes:iQ*m≤140737488355328) (hn:m≤maxLen)
  (k : ∀w',w'=w.alloc (.cells (List.replicate m zs).flatten.toArray E)→jC w' w.heap.size (List.replicate m zs).flatten E→K (.slice (some ⟨w.heap.size,0,none⟩) n m) w') :
  bQ P (Instr.makeSlice t (.int kl (n:Int)) (.int kc (m:Int))) w K:=by
 obtain⟨i,hi,rfl⟩:=gQ hs
 have hb':i.bytes=iQ:=by simpa [gB,hi]using hby
 subst hb'
 obtain⟨z,hz1,hz2⟩ : ∃z,i.zero=some z∧z.cells.toList=zs:=by
  unfold lZ at hz
  simp only [hi,Option.bind_some]at hz
  cases hzz:i.zero with
  | none=>simp [hzz]at hz
  | some z=>simp only [hzz,Option.map_some,Option.some.injEq]at hz;exact⟨z,rfl,hz⟩
 have hsz':1≤i.size:=Nat.le_of_ble_eq_true hsz
 have hzc:z.cells.size=i.size:=by rw [←hz2]at hzl;simpa using hzl
 have h63:(m:Int)≤9223372036854775807:=by unfold maxLen at hn;omega
 have hbi:(i.bytes:Int)*(m:Int)≤281474976710656:=by
  rw [←Int.natCast_mul]
  omega
 have hrun:=run_make (P:=P) w t E i z ht hi hz1 kl kc n m (by omega) (by omega) hbi h63
 have hmc:madeCells z.cells (m*i.size)=(List.replicate m zs).flatten.toArray:=by
  rw [←hz2, ←uU z.cells m i.size hzc hsz']
  unfold madeCells
  rfl
 simp only [Int.toNat_natCast]at hrun
 rw [hmc]at hrun
 exact dZ hrun (k _ rfl (by have:=jC.new w (List.replicate m zs).flatten.toArray E;simpa using this))
theorem vO {t:TypeId}{l c:AV}{vl vc:Value}{K:AV→Nat→ak→Prop}(h:qX P t l c n H K)(st:St G w₀ aK aN n σ F H w)(rl:aZ n σ F w l vl)(rc:aZ n σ F w c vc) :
  bQ P (Instr.makeSlice t vl vc) w (FN G w₀ aK aN n σ F w K):=by
 unfold qX at h
 split at h
 ·rename_i k1 x k2 y
  rw [rl.dH,rc.dH]
  split at h
  ·rename_i E hu
   split at h
   ·rename_i sz iQ zs hs hby hz
    cases hb:(Nat.beq zs.length sz&&Nat.ble 1 sz&&zs.all (·.oneCell'))with
    | false=>rw [hb]at h;exact h.elim
    | true=>
     rw [hb,cond_true]at h
     simp only [Bool.and_eq_true]at hb
     obtain⟨m,mc,rfl,rfl,hmc,hbm,hm,hk⟩:=h.ex
     have hzl:=Nat.eq_of_beq_eq_true hb.1.1
     have h1:=List.all_eq_true.1 hb.2
     refine F5 hu hs hby hz hzl hb.1.2 hmc hbm hm fun w' hw hB=> ?_
     subst hw
     have hrz:=FZ (F:=F) (w:=w.alloc (.cells (List.replicate mc zs).flatten.toArray E)) hzl h1 m
     have hrc:=FZ (F:=F) (w:=w.alloc (.cells (List.replicate mc zs).flatten.toArray E)) hzl h1 mc
     obtain⟨s2,x2⟩:=st.new (w':=w.alloc (.cells (List.replicate mc zs).flatten.toArray E)) (qE.jF (lG (Below.refl _ _) (Nat.le_refl _) _)) ⟨some w.heap.size,m,mc,sz⟩
      (fun g hg=>by injection hg with hg;subst hg;exact⟨Nat.le_refl _,by simp⟩) (.rows E sz (List.replicate m (zs.map .v)))
      ⟨rfl,by simp,_,Own.wS hB (Nat.zero_le _) (by simpa using hmc) hm (by have:=hrc.2.1;simpa using this) (by
       rw [List.length_replicate];exact P9 hzl hmc),hrz⟩
     refine⟨_,_,_,_,_,hk,s2,x2, ?_⟩
     have:=aZ.own (n:=n+1) (σ:=oq σ n ⟨some w.heap.size,m,mc,sz⟩) (F:=F) (w:=w.alloc (.cells (List.replicate mc zs).flatten.toArray E)) n (by omega)
     rw [bV]at this
     exact this
   ·exact h.elim
  ·exact h.elim
 ·exact h.elim
theorem St.start (st:St G w₀ aK aN n σ F H w):St G w (kQ w σ H) F n σ F H w:=
 ⟨st.glob,qE.refl _ _,fun b hb=>⟨(st.dL b hb).1, .inl hb⟩,st.lab,fun aT b g h hm hg=>⟨(st.mu aT b g h hm hg).1,(st.mu aT b g h hm hg).2.1,(st.mu aT b g h hm hg).2.2.1, .inl ⟨aT,b,h,hm,hg⟩⟩,st.inj,st.blk⟩
theorem St.back (st:St G w₀ aK aN n σ F H w){n':Nat}{σ':Nat→Loc}{F':Nat→Prop}{H':ak}{w':World}(s:St G w (kQ w σ H) F n' σ' F' H' w'):St G w₀ aK aN n' σ' F' H' w':=by
 have hM : ∀b,kQ w σ H b→aK b∨w₀.heap.size≤b:=fun b ⟨aT,blk,h1,h2,h3⟩=>(st.mu aT blk b h1 h2 h3).2.2.2
 have hw0:=st.gI.size
 refine⟨s.glob,st.gI.trans s.gI hM,fun b hb=>⟨(s.dL b hb).1, ?_⟩,s.lab,fun aT b g h hm hg=> ?_,s.inj,s.blk⟩
 ·rcases(s.dL b hb).2 with h | h | h
  ·exact(st.dL b h).2
  ·exact .inr (.inl (by omega))
  ·exact(hM b h).elim (fun h=> .inr (.inr h)) fun h=> .inr (.inl h)
 ·obtain⟨h1,h2,h3,h4⟩:=s.mu aT b g h hm hg
  exact⟨h1,h2,h3,h4.elim (hM g) fun h=> .inr (by omega)⟩
theorem qM.sound {f:FuncId}{as:List AV}{vs:List Value}{K:AV→Nat→ak→Prop}(h:qM P G f as n H K)(st:St G w₀ aK aN n σ F H w)(r:bJ n σ F w as vs):O4 P f vs.toArray w (FN G w₀ aK aN n σ F w K):=
 lF h.ok (h.runs w σ F vs st.start r) fun v w' ⟨a,n',σ',F',H',hk,s,x,ra⟩=>⟨a,n',σ',F',H',hk,st.back s,x,ra⟩
theorem F6 (l:List Value):bJ n σ F w (l.map Io) l:=by
 induction l with
 | nil=>trivial
 | cons v r ih=>exact⟨jQ v,ih⟩
theorem F7 {a:AV}{x v:Value}(h:PO a=some x)(r:aZ n σ F w a v):v=x:=by
 unfold PO at h
 split at h
 ·injection h with h;rw [r.dH,h]
 ·split at h
  ·rename_i l hl
   injection h with h
   obtain⟨us,rfl,h2⟩:=bJ.y5 r
   rw [←h,zh hl h2]
  ·cases h
 ·cases h
theorem nH {t:TypeId}{m k x:AV}{vm vk vx:Value}{K:ak→Prop}(h:og P H t m k x K)(st:St G w₀ aK aN n σ F H w)(rm:aZ n σ F w m vm)(rk:aZ n σ F w k vk)(rx:aZ n σ F w x vx) :
  lX P (Instr.mapUpdate t vm vk vx) w fun w'=>FN G w₀ aK aN n σ F w (fun _ n' H'=>n'=n∧K H') undef w':=by
 unfold og at h
 split at h
 ·rename_i l i
  rw [rk.dH]
  cases rm with
  | mp _ b hl hb=>
   split at h
   ·rename_i kt et M0 hu hk
    split at h
    ·rename_i hkt
     have key : ∃y H' F',(match look H' l with | some (.qV M)=>K (setH H' l (.qV fun k'=>if k'=i then some y else M k')) | _=>False)∧St G w₀ aK aN n σ F' H' w∧Ext n σ F w n σ F' w∧dV F' w y vx:=by
      cases hv:PO x with
      | some v=>
       rw [hv]at h
       have e:=F7 hv rx
       subst e
       exact⟨_,H,F,h,st, .refl _ _ _ _, .v _⟩
      | none=>
       rw [hv]at h
       exact FP h st rx
     obtain⟨y,H',F',h,s1,e1,ry⟩:=key
     split at h
     ·rename_i M hk'
      obtain⟨g,hg,V,hM,hV⟩:=s1.blk _ _ hk'
      rw [hb]at hg
      injection hg with hg
      subst hg
      refine UD hu hkt hM fun w' hO hM'=> ?_
      obtain⟨s2,x2⟩:=s1.write hk' rfl hb hO (.qV fun k'=>if k'=i then some y else M k') fun _ hE=>⟨b,hb,_,hM',fun k'=>by
       by_cases e:k'=i
       ·simp only [if_pos e];exact ry.mono hE.f
       ·simp only [if_neg e]
        have:=hV k'
        split at this
        ·exact this.mono hE.f
        ·trivial
        ·exact this.elim⟩
      exact⟨.v undef,_,_,_,_,⟨rfl,h⟩,s2,e1.trans x2, .v _⟩
     ·exact h.elim
    ·exact h.elim
   ·exact h.elim
 ·split at h
  ·rename_i l s v hv _
   rw [rk.dH,F7 hv rx]
   cases rm with
   | mp _ b hl hb=>
    split at h
    ·rename_i kt et M hu hk
     split at h
     ·rename_i hkt
      obtain⟨g,hg,hM⟩:=st.blk _ _ hk
      rw [hb]at hg
      injection hg with hg
      subst hg
      refine UC hu hkt hM fun w' hO hM'=> ?_
      obtain⟨s2,x2⟩:=st.write hk rfl hb hO (.map fun k'=>if k'=s then some v else M k') fun _ hE=>⟨b,hb,hM'⟩
      exact⟨.v undef,_,_,_,_,⟨rfl,h⟩,s2,x2, .v _⟩
     ·exact h.elim
    ·exact h.elim
  ·exact h.elim
variable {cZ:aJ}{ρ:aU}
theorem pq {o:Oper}{K:AV→Nat→ak→Prop}(h:aE P G o cZ n H K)(hi:mV o=true)(st:St G w₀ aK aN n σ F H w)(hr : ∀s,aZ n σ F w (cZ s) (ρ s)) :
  Bg P false o ρ w (FN G w₀ aK aN n σ F w K):=by
 have quiet:aQ P H H o cZ (fun a=>K a n H)→Bg P false o ρ w (FN G w₀ aK aN n σ F w K):=fun h=>by
  obtain⟨a,v,h1,h2,h3⟩:=zk h hi st.hrep st.hrep hr
  exact h3 w false _ (jX.refl _ _ _ _) ⟨a,n,σ,F,H,h1,st,Ext.refl _ _ _ _,h2⟩
 have newVar : ∀(elem:TypeId) (cs:List AV) (vs:List Value),all1 cs=true→bJ n σ F w cs vs→K (.ptr n 0) (n+1) ((n, .var elem cs)::H)→
   FN G w₀ aK aN n σ F w K (.pointer (some ⟨w.heap.size,0,none⟩)) (w.alloc (.cells vs.toArray elem)):=fun elem cs vs h1 rc hk=>by
  have hE0:Ext n σ F w (n+1) (oq σ n ⟨some w.heap.size,0,0,0⟩) F (w.alloc (.cells vs.toArray elem)):=⟨by omega,fun k hk=>dJ (by omega),fun b hb=>⟨hb,heap_alloc_old w _ b (st.dL b hb).1⟩,by simp⟩
  obtain⟨s2,x2⟩:=st.new (w':=w.alloc (.cells vs.toArray elem)) (qE.jF (lG (Below.refl _ _) (Nat.le_refl _) _)) ⟨some w.heap.size,0,0,0⟩
   (fun g hg=>by injection hg with hg;subst hg;exact⟨Nat.le_refl _,by simp⟩) (.var elem cs) ⟨w.heap.size,vs,rfl,jC.new w _ _,rc.mono hE0,zl h1 rc⟩
  exact⟨_,_,_,_,_,hk,s2,x2, .ptr n 0 _ (by omega) (by rw [bV])⟩
 unfold aE at h
 unfold Bg
 cases ho:o.op<;>simp only [ho]at h
 case alloc elem=>
  dsimp only
  split at h
  ·rename_i z hz
   cases hb:all1 (z.cells.toList.map AV.v)with
   | false=>rw [hb]at h;exact h.elim
   | true=>
    rw [hb,cond_true,eU]at h
    have:=newVar elem _ _ hb (vH z.cells.toList) h
    rw [hz]
    rw [Array.toArray_toList]at this
    cases z<;>exact this
  ·exact h.elim
 case box elem x=>
  dsimp only
  cases hb:all1 (cellsOf (dO cZ x))with
  | false=>rw [hb]at h;exact h.elim
  | true=>
   rw [hb,cond_true,jo]at h
   have:=newVar elem _ _ hb (rD (bG hr x) hb) h
   rw [Array.toArray_toList]at this
   rw [force_eq]
   split
   ·rename_i cs e;rw [e]at this;exact this
   ·exact this
 case buildSlice t m parts=>
  dsimp only
  simp only [jo,eU]at h
  rw [cu]
  exact sD h (by simp) st (Cb hr parts.toList)
 case store t a x=>
  dsimp only
  simp only [iH,eU]at h
  obtain⟨p,hp,hv⟩:=DT h st (bG hr a) (bG hr x)
  rw [hp]
  simp only [force_eq]
  obtain⟨u,w',e,a',n',σ',F',H',⟨rfl,hk⟩,s,x',_⟩:=hv.ex
  exact⟨u,w',e, .v undef,n',σ',F',H',hk,s,x', .v _⟩
 case makeSlice t l c=>
  dsimp only
  rw [iH,iH]at h
  simp only [force_eq]
  exact vO h st (bG hr l) (bG hr c)
 case makeMap t r=>
  dsimp only
  cases r with
  | some _=>exact h.elim
  | none=>
   show bQ P (Instr.makeMap t none) w (wr false w (FN G w₀ aK aN n σ F w K))
   dsimp only at h
   split at h
   ·refine Fv fun w' hB hM=> ?_
    obtain⟨s2,x2⟩:=st.new (w':=w') (qE.jF hB) ⟨some w.heap.size,0,0,0⟩ (fun g hg=>by injection hg with hg;subst hg;exact⟨Nat.le_refl _,hM.lt⟩) (.qV fun _=>none) ⟨w.heap.size,rfl,_,hM,fun _=>trivial⟩
    exact⟨_,_,_,_,_,h,s2,x2, .mp n _ (by omega) (by rw [bV])⟩
   ·refine IU fun w' hB hM=> ?_
    obtain⟨s2,x2⟩:=st.new (w':=w') (qE.jF hB) ⟨some w.heap.size,0,0,0⟩ (fun g hg=>by injection hg with hg;subst hg;exact⟨Nat.le_refl _,hM.lt⟩) (.map fun _=>none) ⟨w.heap.size,rfl,hM⟩
    exact⟨_,_,_,_,_,h,s2,x2, .mp n _ (by omega) (by rw [bV])⟩
 case mapUpdate t m k x=>
  dsimp only
  simp only [iH,eU]at h
  simp only [force_eq]
  obtain⟨u,w',e,a',n',σ',F',H',⟨rfl,hk⟩,s,x',_⟩:=(nH h st (bG hr m) (bG hr k) (bG hr x)).ex
  exact⟨u,w',e, .v undef,n',σ',F',H',hk,s,x', .v _⟩
 case insert t m k x=>
  dsimp only
  simp only [iH,eU]at h
  simp only [force_eq]
  obtain⟨u,w',e,a',n',σ',F',H',⟨rfl,hk⟩,s,x',_⟩:=(nH h st (bG hr m) (bG hr k) (bG hr x)).ex
  exact⟨u,w',e, .v undef,n',σ',F',H',hk,s,x', .v _⟩
 case call c=>
  obtain⟨callee,args,ats⟩:=c
  cases callee with
  | builtin b=>
   cases b with
   | append=>
    dsimp only at h ⊢
    simp only [jo,eU]at h
    simp only [yP,lY,cu,uT]
    exact BF h st (lH hr args.toList)
   | copy=>
    dsimp only at h ⊢
    simp only [jo,eU]at h
    simp only [yP,lY,cu,uT]
    exact FY h st (lH hr args.toList)
   | _=>
    have:=quiet h
    unfold Bg at this
    rw [ho]at this
    exact this
  | value f=>
   dsimp only at h ⊢
   have rf:=bG hr f
   simp only [yP]
   split at h
   ·rename_i g first captured hf
    rw [hf]at rf
    rw [rf.dH]
    rw [jo]at h
    simp only [lY,cu]
    have:=h.sound st (((F6 first.toList).append (lH hr args.toList)).append (F6 captured.toList))
    have e:((first.toList++args.toList.map (gu ρ))++captured.toList).toArray=(first++(args.toList.map (gu ρ)).toArray)++captured:=by
     apply Array.ext'
     simp
    rw [e]at this
    exact this
   ·rename_i g first captured hf
    rw [hf]at rf
    generalize gu ρ f=z at rf
    cases rf with
    | fn _ _ _ us vs hx hy rx ry=>
     rw [jo]at h
     simp only [lY,cu]
     have:=h.sound st ((bJ.append (.of hx rx) (lH hr args.toList)).append (.of hy ry))
     simpa using this
   ·exact h.elim
  | invoke r m=>
   have:=quiet h
   unfold Bg at this
   rw [ho]at this
   exact this
 case convert src dst x=>
  cases ht:DC P src dst with
  | false=>
   rw [ht]at h
   have:=quiet h
   unfold Bg at this
   rw [ho]at this
   exact this
  | true=>
   rw [ht]at h
   dsimp only at h ⊢
   have rx:=bG hr x
   split at h
   ·rename_i s hx
    rw [hx]at rx
    rw [rx.dH]
    obtain⟨e,hs,hd,he⟩ : ∃e,P.underlying src=some .string∧P.underlying dst=some (.slice e)∧P.underlying e=some (.int .u8):=by
     unfold DC at ht
     split at ht
     ·rename_i e h1 h2
      split at ht
      ·rename_i h3;exact⟨e,h1,h2,h3⟩
      ·cases ht
     ·cases ht
    have key:bQ P (Go.convert src dst (.string s)) w (FN G w₀ aK aN n σ F w K):=by
     refine Y7 hs hd he fun c w' hc hrow hB=> ?_
     obtain⟨s2,x2⟩:=st.more (w':=w') (qE.jF hB) (fun b=>b=w.heap.size∧b<w'.heap.size) fun g hg=>by obtain⟨rfl,h2⟩:=hg;exact⟨Nat.le_refl _,h2⟩
     refine⟨_,_,_,_,_,h,s2,x2, .lst ?_⟩
     have hb : ∀i,i<s.data.toList.length→w.heap.size<w'.heap.size∧∃b:UInt8,s.data.toList[i]? = some b∧w'.cell? ⟨w.heap.size,i,none⟩=some (.int .u8 (b.toNat:Int)):=fun i hi=>by
      rcases hrow with h0 | ⟨b,o',e1,hlt,hcell⟩
      ·have:(dw s.data.toList).length=0:=by rw [h0];rfl
       simp only [dw,List.length_map]at this
       omega
      ·injection e1 with e1
       injection e1 with e1 e2
       subst e1;subst e2
       refine⟨hlt,s.data.toList[i],List.getElem?_eq_getElem hi, ?_⟩
       have:=hcell i _ (nD hi)
       rwa [Nat.zero_add]at this
     refine .lst 1 _ _ _ c w.heap.size 0 (by rw [List.length_map]) hc (fun e=>by cases e) (fun h0=>⟨rfl, .inr ⟨rfl,(hb 0 h0).1⟩⟩) (fun row hr=>by obtain⟨x,_,rfl⟩:=List.mem_map.1 hr;rfl) (fun i j hi hj=> ?_) (fun i j row a v hi hj hv=> ?_)
     ·obtain⟨_,b,_,h2⟩:=hb i hi
      have hj0:j=0:=by omega
      subst hj0
      exact⟨_,by rw [Nat.zero_add,Nat.mul_one,Nat.add_zero];exact h2,rfl⟩
     ·rw [List.getElem?_map]at hi
      cases hx2:s.data.toList[i]? with
      | none=>rw [hx2]at hi;cases hi
      | some y=>
       rw [hx2]at hi
       injection hi with hi
       subst hi
       obtain⟨_,b,h1,h2⟩:=hb i (List.getElem?_eq_some_iff.1 hx2).1
       rw [hx2]at h1
       injection h1 with h1
       subst h1
       match j,hj with
       | 0,hj=>
        injection hj with hj
        subst hj
        rw [Nat.zero_add,Nat.mul_one,Nat.add_zero,h2]at hv
        injection hv with hv
        subst hv
        exact .v _
    unfold qK
    rw [hs,hd]
    exact key
   ·exact h.elim
 all_goals
  have:=quiet h
  unfold Bg at this
  rw [ho]at this
  exact this
end
end Go.Proofs.YtocckceefcmeaaaGreatDoor.Ax
namespace Go.Proofs.YtocckceefcmeaaaGreatDoor.Vc
open Go Go.RowKit
def zx (ms:List Nat):List Edge→Nat
 | []=>0
 | e::r=>bif Region.binds .any e then Nat.lor (Nat.lor (Nat.shiftLeft 1 e.on) (ms.getD e.on 0)) (zx ms r)else zx ms r
def Qa (ms:List Nat):List Oper→List Nat
 | []=>ms
 | o::r=>Qa (ms++ [zx ms o.after.toList]) r
def Qb (ops:Array Oper)(ms:List Nat):Prop:= ∀i j,(ms.getD i 0).testBit j=true→KE ops i j
theorem vP {ms:List Nat}{j:Nat} : ∀ {es:List Edge},(zx ms es).testBit j=true→∃e∈es,Region.binds .any e=true∧(e.on=j∨(ms.getD e.on 0).testBit j=true)
 | [],h=>by simp [zx]at h
 | e::r,h=>by
  unfold zx at h
  cases hb:Region.binds .any e with
  | false=>
   rw [hb,cond_false]at h
   obtain⟨x,hx,h1,h2⟩:=vP h
   exact⟨x,by simp [hx],h1,h2⟩
  | true=>
   rw [hb,cond_true]at h
   have h:((1 <<< e.on ||| ms.getD e.on 0) ||| zx ms r).testBit j=true:=h
   simp only [Nat.testBit_or,Bool.or_eq_true]at h
   rcases h with (h | h) | h
   ·refine⟨e,by simp,hb, .inl ?_⟩
    rw [Nat.one_shiftLeft,Nat.testBit_two_pow]at h
    simpa using h
   ·exact⟨e,by simp,hb, .inr h⟩
   ·obtain⟨x,hx,h1,h2⟩:=vP h
    exact⟨x,by simp [hx],h1,h2⟩
theorem NM {ops:Array Oper}{i j k:Nat}(h:KE ops i j)(h':KE ops j k):KE ops i k:=by
 induction h' with
 | one ho he hb=>exact .more h ho he hb
 | more _ ho he hb ih=>exact .more ih ho he hb
theorem KO {ops:Array Oper} : ∀(os:List Oper) (ms:List Nat),Qb ops ms→(∀k,os[k]? = ops[ms.length+k]?)→Qb ops (Qa ms os)
 | [],ms,h,_=>h
 | o::r,ms,h,ho=>by
  refine KO r _ ?_ (fun k=>by have:=ho (k+1);simp only [List.getElem?_cons_succ]at this;rw [this,List.length_append,List.length_singleton];congr 1;omega)
  intro i j hb
  rcases Nat.lt_trichotomy i ms.length with hi | hi | hi
  ·rw [List.getD_eq_getElem?_getD,List.getElem?_append_left hi, ←List.getD_eq_getElem?_getD]at hb
   exact h i j hb
  ·subst hi
   rw [List.getD_eq_getElem?_getD,List.getElem?_append_right (Nat.le_refl _)]at hb
   simp only [Nat.sub_self,List.getElem?_cons_zero,Option.getD_some]at hb
   obtain⟨e,he,h1,h2⟩:=vP hb
   have h0:=ho 0
   simp only [List.getElem?_cons_zero,Nat.add_zero]at h0
   have hx:KE ops ms.length e.on:= .one h0.symm (by simpa using he) h1
   rcases h2 with rfl | h2
   ·exact hx
   ·exact NM hx (h _ _ h2)
  ·rw [List.getD_eq_getElem?_getD,List.getElem?_eq_none (by simp;omega)]at hb
   simp at hb
def DW (ms:List Nat)(T:List Nat)(i:Nat):Bool:=T.all fun j=>Nat.beq j i||(ms.getD i 0).testBit j
theorem F8 {ops:Array Oper}{T:List Nat}{i j:Nat}(h:DW (Qa [] ops.toList) T i=true)(hj:j∈T)(hne:j≠i):KE ops i j:=by
 have hok:Qb ops (Qa [] ops.toList):=KO ops.toList [] (fun i j h=>by simp at h) (fun k=>by simp)
 simp only [DW,List.all_eq_true,Bool.or_eq_true]at h
 rcases h j hj with e | e
 ·exact absurd (Nat.eq_of_beq_eq_true e) hne
 ·exact hok _ _ e
end Go.Proofs.YtocckceefcmeaaaGreatDoor.Vc
