/- Joined parts of the proof. The soundness of the operations that change memory -/
import Derived.Test.YtnandbihiceihaaGreatDoorNk5
set_option linter.unusedVariables false
set_option linter.unusedSimpArgs false
set_option maxRecDepth 100000
set_option maxHeartbeats 16000000
namespace Go.Proofs.YtnandbihiceihaaGreatDoor.Ax
open RowKit Vc
def sS (σ:Nat->Loc)(n:Nat)(L:Loc):Nat->Loc:=fun k=>if k=n then L else σ k
theorem kH (σ:Nat->Loc)(n:Nat)(L:Loc):sS σ n L n=L:=if_pos rfl
theorem lC {σ:Nat->Loc}{n k:Nat}{L:Loc}(h:k≠n):sS σ n L k=σ k:=if_neg h
theorem jY {H:jI}{n k:Nat}{b:mD} : look ((n,b)::H) k=if n=k then some b else look H k:=by
 simp only [look]
 by_cases h:n=k
 ·subst h;rw [fU,cond_true,if_pos rfl]
 ·have:Nat.beq n k=false:=by
   cases hb:Nat.beq n k with
   | false=>rfl
   | true=>exact absurd (aj hb) h
  rw [this,cond_false,if_neg h]
theorem lg {H:jI}{jT k:Nat}{b b':mD}(h:look H jT=some b):look (setH H jT b') k=if k=jT then some b' else look H k:=by
 induction H with
 | nil=>cases h
 | cons p r ih=>
  obtain⟨x,bx⟩:=p
  rw [jY]at h
  by_cases hx:x=jT
  ·subst hx
   have e:setH ((x,bx)::r) x b'=(x,b')::r:=by simp only [setH,fU,cond_true]
   rw [e,jY,jY]
   by_cases hk:x=k
   ·rw [if_pos hk,if_pos hk.symm]
   ·rw [if_neg hk,if_neg (fun e=>hk e.symm),if_neg hk]
  ·rw [if_neg hx]at h
   have hb:Nat.beq x jT=false:=by
    cases hb:Nat.beq x jT with
    | false=>rfl
    | true=>exact absurd (aj hb) hx
   have e:setH ((x,bx)::r) jT b'=(x,bx)::setH r jT b':=by simp only [setH,hb,cond_false]
   rw [e,jY,jY,ih h]
   by_cases hk:x=k
   ·subst hk;rw [if_pos rfl,if_neg hx,if_pos rfl]
   ·rw [if_neg hk,if_neg hk]
theorem ng {H:jI}{jT k:Nat}{b:mD}(h:look (H6 H jT) k=some b):k≠jT∧look H k=some b:=by
 induction H with
 | nil=>cases h
 | cons p r ih=>
  obtain⟨x,bx⟩:=p
  by_cases hx:x=jT
  ·subst hx
   have e:H6 ((x,bx)::r) x=H6 r x:=by simp only [H6,fU,cond_true]
   rw [e]at h
   obtain⟨h1,h2⟩:=ih h
   refine⟨h1, ?_⟩
   rw [jY,if_neg (fun e=>h1 e.symm)]
   exact h2
  ·have hb:Nat.beq x jT=false:=by
    cases hb:Nat.beq x jT with
    | false=>rfl
    | true=>exact absurd (aj hb) hx
   have e:H6 ((x,bx)::r) jT=(x,bx)::H6 r jT:=by simp only [H6,hb,cond_false]
   rw [e,jY]at h
   by_cases hk:x=k
   ·subst hk
    rw [if_pos rfl]at h
    exact⟨hx,by rw [jY,if_pos rfl];exact h⟩
   ·rw [if_neg hk]at h
    obtain⟨h1,h2⟩:=ih h
    exact⟨h1,by rw [jY,if_neg hk];exact h2⟩
def D6 (G:Glob)(jL:World)(jO jQ:Nat->Prop)(n:Nat)(σ:Nat->Loc)(F:Nat->Prop)(w:World)(K:AV->Nat->jI->Prop)(v:Value)(w':World):Prop:=
 ∃a n' σ' F' H',K a n' H'∧St G jL jO jQ n' σ' F' H' w'∧Ext n σ F w n' σ' F' w'∧jX n' σ' F' w' a v
section
variable {P:Program}{G:Glob}{jL:World}{jO jQ:Nat->Prop}{n:Nat}{σ:Nat->Loc}{F:Nat->Prop}{H:jI}{w:World}
theorem St.hrep (st:St G jL jO jQ n σ F H w):qZ n σ F w H:=st.blk
theorem St.more (st:St G jL jO jQ n σ F H w){w':World}(hB:uH (fun _=>False) w w')(X:Nat->Prop)(hX : ∀g,X g->w.heap.size<=g∧g<w'.heap.size) :
  St G jL jO jQ n σ (fun b=>F b∨X b) H w'∧Ext n σ F w n σ (fun b=>F b∨X b) w':=by
 have hE:Ext n σ F w n σ (fun b=>F b∨X b) w':=⟨ay _,fun _ _=>rfl,fun b hb=>⟨.inl hb,hB.block b (st.lI b hb).1 id⟩,hB.size⟩
 have hnb:=st.glob.1
 have hw0:=st.nN.size
 have bk : ∀ {jT b g},look H jT=some b->b.own=true->oW w' (σ jT) b g->oW w (σ jT) b g:=fun h hm hg=>hg.back fun k hk=>hB.block k (st.mu _ _ k h hm (.inl hk)).2.2.1 id
 refine⟨⟨Glob.nN st.glob hB.size fun b hb=>hB.block b aad id,st.nN.trans hB (fun _ h=>h.elim),fun b hb=> ?_,st.lab,fun jT b g' h hm hg=> ?_,fun jT uY b b' g' h h' hm hm' hg hg'=>st.inj jT uY b b' g' h h' hm hm' (bk h hm hg) (bk h' hm' hg'),fun jT b h=>(st.blk jT b h).mono hE fun hk k hx=>hB.block k (st.mu _ _ k h hk hx).2.2.1 id⟩,hE⟩
 ·rcases hb with hb|hb
  ·exact⟨aN (st.lI b hb).1 hB.size,(st.lI b hb).2⟩
  ·have:=hX b hb
   exact⟨this.2, .inr (.inl aad)⟩
 ·have hg:=bk h hm hg
  obtain⟨q1,q2,q3,q4⟩:=st.mu jT b g' h hm hg
  exact⟨fun hf=>hf.elim q1 fun e=>by have:=(hX g' e).1;omega,q2,aN q3 hB.size,q4⟩
theorem St.new (st:St G jL jO jQ n σ F H w){w':World}(hB:uH (fun _=>False) w w')(L:Loc)(hL : ∀g,L.b=some g->w.heap.size<=g∧g<w'.heap.size)(blk:mD)(hblk:qW (n+1) (sS σ n L) F w' L blk)(hfl:blk.flat=true:=by rfl) :
  St G jL jO jQ (n+1) (sS σ n L) F ((n,blk)::H) w'∧Ext n σ F w (n+1) (sS σ n L) F w':=by
 have hE:Ext n σ F w (n+1) (sS σ n L) F w':=⟨by omega,fun k hk=>lC aad,fun b hb=>⟨hb,hB.block b (st.lI b hb).1 id⟩,hB.size⟩
 have hnb:=st.glob.1
 have hw0:=st.nN.size
 have bk : ∀ {jT b g},look H jT=some b->b.own=true->oW w' (σ jT) b g->oW w (σ jT) b g:=fun h hm hg=>hg.back fun k hk=>hB.block k (st.mu _ _ k h hm (.inl hk)).2.2.1 id
 refine⟨⟨Glob.nN st.glob hB.size fun b hb=>hB.block b aad id,st.nN.trans hB (fun _ h=>h.elim),fun b hb=>⟨aN (st.lI b hb).1 hB.size,(st.lI b hb).2⟩,fun jT b h=> ?_,fun jT b g h hm hg=> ?_,fun jT uY b b' g h h' hm hm' hg hg'=> ?_,fun jT b h=> ?_⟩,hE⟩
 ·rw [jY]at h
  split at h
  ·omega
  ·have:=st.lab jT b h;omega
 ·rw [jY]at h
  split at h
  ·rename_i e
   subst e
   injection h with h
   subst h
   rw [kH]at hg
   obtain⟨h1,h2⟩:=hL g (hg.flat hfl)
   exact⟨fun hf=>by have:=(st.lI g hf).1;omega,by omega,h2, .inr aad⟩
  ·have hl:=st.lab jT b h
   rw [lC aad]at hg
   have hg:=bk h hm hg
   obtain⟨h1,h2,h3,h4⟩:=st.mu jT b g h hm hg
   exact⟨h1,h2,aN h3 hB.size,h4⟩
 ·rw [jY]at h h'
  split at h
  ·rename_i e
   split at h'
   ·rename_i e';omega
   ·have hl:=st.lab uY b' h'
    injection h with h
    subst h
    rw [<-e,kH]at hg
    rw [lC aad]at hg'
    have:=(hL g (hg.flat hfl)).1
    have:=(st.mu uY b' g h' hm' (bk h' hm' hg')).2.2.1
    omega
  ·have hl:=st.lab jT b h
   rw [lC aad]at hg
   split at h'
   ·rename_i e'
    injection h' with h'
    subst h'
    rw [<-e',kH]at hg'
    have:=(hL g (hg'.flat hfl)).1
    have:=(st.mu jT b g h hm (bk h hm hg)).2.2.1
    omega
   ·have hl':=st.lab uY b' h'
    rw [lC aad]at hg'
    exact st.inj jT uY b b' g h h' hm hm' (bk h hm hg) (bk h' hm' hg')
 ·rw [jY]at h
  split at h
  ·rename_i e
   subst e
   injection h with h
   subst h
   rw [kH]
   exact hblk
  ·have hl:=st.lab jT b h
   rw [lC aad]
   exact(st.blk jT b h).mono hE fun hm g hg=>hB.block g (st.mu jT b g h hm hg).2.2.1 id
theorem St.write (st:St G jL jO jQ n σ F H w){w':World}{jT g:Nat}{blk:mD}(hk:look H jT=some blk)(hm:blk.own=true)(hg:(σ jT).b=some g)(hO:Only g w w')(blk':mD)(hblk:qW n σ F w (σ jT) blk->Ext n σ F w n σ F w'->qW n σ F w' (σ jT) blk')(hfl : ∀g',oW w' (σ jT) blk' g'->oW w (σ jT) blk g':=by exact fun _ h=> .inl (h.flat rfl)) :
  St G jL jO jQ n σ F (setH H jT blk') w'∧Ext n σ F w n σ F w':=by
 obtain⟨m1,m2,m3,m4⟩:=st.mu jT blk g hk hm (.inl hg)
 have bk : ∀ {k b g'},k≠jT->look H k=some b->b.own=true->oW w' (σ k) b g'->oW w (σ k) b g':=fun hne h hm' hg'=>hg'.back fun x hx=>hO.block x fun e=>by
  subst e
  exact hne (st.inj _ jT _ blk x h hk hm' hm (.inl hx) (.inl hg))
 have hE:Ext n σ F w n σ F w':=⟨ay _,fun _ _=>rfl,fun b hb=>⟨hb,hO.block b fun e=>m1 (e▸hb)⟩,iD hO.size.symm⟩
 refine⟨⟨Glob.nN st.glob (iD hO.size.symm) fun b hb=>hO.block b aad,st.nN.trans (uH.Vt hO) (fun b hb=>by subst hb;exact m4),fun b hb=>⟨by rw [hO.size];exact(st.lI b hb).1,(st.lI b hb).2⟩,fun k b h=> ?_,fun k b g' h hm' hg'=> ?_,fun k k' b b' g' h h' hm1 hm2 hg1 hg2=> ?_,fun k b h=> ?_⟩,hE⟩
 ·rw [lg hk]at h
  split at h
  ·rename_i e;subst e;exact st.lab _ _ hk
  ·exact st.lab k b h
 ·rw [lg hk]at h
  rw [hO.size]
  split at h
  ·rename_i e;subst e;injection h with h;subst h;exact st.mu _ _ g' hk hm (hfl g' hg')
  ·rename_i e;exact st.mu k b g' h hm' (bk e h hm' hg')
 ·rw [lg hk]at h h'
  have e1 : ∃c,look H k=some c∧c.own=true∧oW w (σ k) c g':=by
   split at h
   ·rename_i e;subst e;injection h with h;subst h;exact⟨_,hk,hm,hfl g' hg1⟩
   ·rename_i e;exact⟨_,h,hm1,bk e h hm1 hg1⟩
  have e2 : ∃c,look H k'=some c∧c.own=true∧oW w (σ k') c g':=by
   split at h'
   ·rename_i e;subst e;injection h' with h';subst h';exact⟨_,hk,hm,hfl g' hg2⟩
   ·rename_i e;exact⟨_,h',hm2,bk e h' hm2 hg2⟩
  obtain⟨c1,x1,y1,z1⟩:=e1
  obtain⟨c2,x2,y2,z2⟩:=e2
  exact st.inj k k' c1 c2 g' x1 x2 y1 y2 z1 z2
 ·rw [lg hk]at h
  split at h
  ·rename_i e
   subst e
   injection h with h
   subst h
   exact hblk (st.blk _ _ hk) hE
  ·rename_i e
   refine(st.blk k b h).mono hE fun hm' g' hg'=>hO.block g' fun e2=> ?_
   subst e2
   exact e (st.inj k jT b blk g' h hk hm' hm hg' (.inl hg))
theorem St.drop (st:St G jL jO jQ n σ F H w)(jT:Nat):St G jL jO jQ n σ F (H6 H jT) w:=
 ⟨st.glob,st.nN,st.lI,fun k b h=>st.lab k b (ng h).2,fun k b g h=>st.mu k b g (ng h).2,fun k k' b b' g h h'=>st.inj k k' b b' g (ng h).2 (ng h').2,fun k b h=>st.blk k b (ng h).2⟩
theorem St.give (st:St G jL jO jQ n σ F H w){jT:Nat}{blk:mD}(hk:look H jT=some blk)(ho:blk.own=true) :
  St G jL jO jQ n σ (fun b=>F b∨(σ jT).b=some b) (H6 H jT) w∧Ext n σ F w n σ (fun b=>F b∨(σ jT).b=some b) w:=by
 have hE:Ext n σ F w n σ (fun b=>F b∨(σ jT).b=some b) w:=⟨ay _,fun _ _=>rfl,fun b hb=>⟨.inl hb,rfl⟩,ay _⟩
 have sd:=st.drop jT
 refine⟨⟨sd.glob,sd.nN,fun b hb=> ?_,sd.lab,fun k b g' h hm' hg'=>⟨fun hf=> ?_,(sd.mu k b g' h hm' hg').2⟩,sd.inj,fun k b h=>(sd.blk k b h).mono hE fun _ _ _=>rfl⟩,hE⟩
 ·rcases hb with hb|hb
  ·exact st.lI b hb
  ·obtain⟨_,_,h3,h4⟩:=st.mu jT _ b hk ho (.inl hb)
   exact⟨h3,h4.elim (fun h=> .inr (.inr h)) fun h=> .inr (.inl h)⟩
 ·rcases hf with hf|hf
  ·exact(sd.mu k b g' h hm' hg').1 hf
  ·exact(ng h).1 (st.inj k jT b blk g' (ng h).2 hk hm' ho hg' (.inl hf))
theorem qO {L:Loc}{F':Nat->Prop}{t sz:Nat}{l:List (List FV)}(h:qW n σ F w L (.rows t sz l))(hF : ∀b,F b->F' b)(hg : ∀g,L.b=some g->F' g):qW n σ F' w L (.fz sz l):=by
 obtain⟨h1,h2,xs,hO,hR⟩:=h
 have hm : ∀b,F b->F' b∧w.heap[b]? = w.heap[b]? :=fun b hb=>⟨hF b hb,rfl⟩
 refine⟨h1,h2, ?_, ?_⟩
 ·rw [h2]
  have hc:l.length<=L.c∧(L.oa=none->L.c=0):=by
   rcases hO.2 with ⟨hv,h0⟩|⟨g,cap,cur,hv,_,_,hle,_⟩
   ·injection hv with _ _ ec;exact⟨by omega,fun _=>ec⟩
   ·injection hv with eo _ ec;exact⟨by omega,fun en=>by rw [en]at eo;cases eo⟩
  rcases bH l.length with h0|h0
  ·have hl:l = []:=aH h0
   subst hl
   exact .lst sz [] _ _ _ 0 0 rfl hc.1 hc.2 (fun h=>absurd h (ig 0)) aaA (fun i j hi=>absurd hi (fO i)) (fun i j row a v hi=>by simp at hi)
  ·obtain⟨g,cur,hoa,_,hB,hle,_,hcl,htk⟩:=hO.blk h0
   have hcell : ∀k,k<l.length*sz->w.cell? ⟨g,0+k,none⟩=xs[k]? :=fun k hk=>by
    rw [aJ,hB.cell, <-htk,aW,if_pos hk]
   have hlt : ∀i j,i<l.length->j<sz->i*sz+j<l.length*sz:=fun i j hi hj=>by
    have:(i+1)*sz<=l.length*sz:=aP _ hi
    rw [aX,cu]at this;omega
   refine .lst sz l _ _ _ g 0 rfl hc.1 hc.2 (fun _=>⟨hoa,hg g (qN hoa)⟩) hR.1 (fun i j hi hj=> ?_) (fun i j row a v hi hj hv=> ?_)
   ·have hk:=hlt i j hi hj
    rw [hcell _ hk]
    have hxl:=hR.2.1
    exact⟨xs[i*sz+j],aB aad,hR.2.2.1 _ (bQ _)⟩
   ·have hil:=(aF.1 hi).1
    have hjl:=(aF.1 hj).1
    rw [hR.1 row (aO hi)]at hjl
    rw [hcell _ (hlt i j hil hjl)]at hv
    exact(hR.2.2.2 i j row a v hi hj hv).mono hm
 ·intro b o e
  unfold Loc.oa at e
  cases hb:L.b with
  | none=>rw [hb]at e;cases e
  | some g=>rw [hb]at e;simp only [bn,aA]at e;injection e with _ e;exact e.symm
theorem St.freeze (st:St G jL jO jQ n σ F H w){jT t sz:Nat}{l:List (List FV)}(hk:look H jT=some (.rows t sz l)) :
  St G jL jO jQ n σ (fun b=>F b∨(σ jT).b=some b) (setH H jT (.fz sz l)) w∧Ext n σ F w n σ (fun b=>F b∨(σ jT).b=some b) w:=by
 have hE:Ext n σ F w n σ (fun b=>F b∨(σ jT).b=some b) w:=⟨ay _,fun _ _=>rfl,fun b hb=>⟨.inl hb,rfl⟩,ay _⟩
 refine⟨⟨st.glob,st.nN,fun b hb=> ?_,fun k b h=> ?_,fun k b g' h hm' hg'=> ?_,fun k k' b b' g' h h' hm1 hm2 hg1 hg2=> ?_,fun k b h=> ?_⟩,hE⟩
 ·rcases hb with hb|hb
  ·exact st.lI b hb
  ·obtain⟨_,_,h3,h4⟩:=st.mu jT _ b hk rfl (.inl hb)
   exact⟨h3,h4.elim (fun h=> .inr (.inr h)) fun h=> .inr (.inl h)⟩
 ·rw [lg hk]at h
  split at h
  ·rename_i e;subst e;exact st.lab _ _ hk
  ·exact st.lab k b h
 ·rw [lg hk]at h
  split at h
  ·injection h with h;subst h;cases hm'
  ·rename_i e
   obtain⟨h1,h2⟩:=st.mu k b g' h hm' hg'
   refine⟨fun hf=>hf.elim h1 fun hf=>e (st.inj k jT b _ g' h hk hm' rfl hg' (.inl hf)),h2⟩
 ·rw [lg hk]at h h'
  split at h
  ·injection h with h;subst h;cases hm1
  ·split at h'
   ·injection h' with h';subst h';cases hm2
   ·exact st.inj k k' b b' g' h h' hm1 hm2 hg1 hg2
 ·rw [lg hk]at h
  split at h
  ·rename_i e
   subst e
   injection h with h
   subst h
   exact qO (st.blk _ _ hk) (fun b hb=> .inl hb) fun g hg=> .inr hg
  ·exact(st.blk k b h).mono hE fun _ _ _=>rfl
theorem St.QN (st:St G jL jO jQ n σ F H w){jT:Nat}{M:ByteArray->Option Value}(hk:look H jT=some (.map M)) :
  St G jL jO jQ n σ (fun b=>F b∨(σ jT).b=some b) (setH H jT (.KU M)) w∧Ext n σ F w n σ (fun b=>F b∨(σ jT).b=some b) w:=by
 have hE:Ext n σ F w n σ (fun b=>F b∨(σ jT).b=some b) w:=⟨ay _,fun _ _=>rfl,fun b hb=>⟨.inl hb,rfl⟩,ay _⟩
 refine⟨⟨st.glob,st.nN,fun b hb=> ?_,fun k b h=> ?_,fun k b g' h hm' hg'=> ?_,fun k k' b b' g' h h' hm1 hm2 hg1 hg2=> ?_,fun k b h=> ?_⟩,hE⟩
 ·rcases hb with hb|hb
  ·exact st.lI b hb
  ·obtain⟨_,_,h3,h4⟩:=st.mu jT _ b hk rfl (.inl hb)
   exact⟨h3,h4.elim (fun h=> .inr (.inr h)) fun h=> .inr (.inl h)⟩
 ·rw [lg hk]at h
  split at h
  ·rename_i e;subst e;exact st.lab _ _ hk
  ·exact st.lab k b h
 ·rw [lg hk]at h
  split at h
  ·injection h with h;subst h;cases hm'
  ·rename_i e
   obtain⟨h1,h2⟩:=st.mu k b g' h hm' hg'
   refine⟨fun hf=>hf.elim h1 fun hf=>e (st.inj k jT b _ g' h hk hm' rfl hg' (.inl hf)),h2⟩
 ·rw [lg hk]at h h'
  split at h
  ·injection h with h;subst h;cases hm1
  ·split at h'
   ·injection h' with h';subst h';cases hm2
   ·exact st.inj k k' b b' g' h h' hm1 hm2 hg1 hg2
 ·rw [lg hk]at h
  split at h
  ·rename_i e
   subst e
   injection h with h
   subst h
   obtain⟨g,hg,hM⟩:=st.blk _ _ hk
   exact⟨g,hg, .fm M g (.inr hg) hM⟩
  ·exact(st.blk k b h).mono hE fun _ _ _=>rfl
theorem rE.cons {x:FV}{v:Value}{xs:List FV}{vs:List Value}(h:lN F w x v)(r:rE F w xs vs):rE F w (x::xs) (v::vs):=⟨by simp [r.1],fun j a u h1 h2=>by
 cases j with
 | zero=>simp only [bJ,aA]at h1 h2;rw [<-h1, <-h2];exact h
 | succ j=>exact r.2 j a u abg abx⟩
theorem uM (sz:Nat)(oa:Option Addr):lN F w (.lst sz []) (.slice oa 0 0):=
 .lst sz [] oa 0 0 0 0 rfl (ay _) (fun _=>rfl) (fun h=>absurd h (ig 0)) aaA (fun i j hi=>absurd hi (fO i)) (fun i j row a v hi=>by simp at hi)
theorem FP {a:AV}{v:Value}{K:FV->jI->Prop}(h:dn H a K)(st:St G jL jO jQ n σ F H w)(ra:jX n σ F w a v) :
  ∃x H' F',K x H'∧St G jL jO jQ n σ F' H' w∧Ext n σ F w n σ F' w∧lN F' w x v:=by
 unfold dn at h
 split at h
 ·rw [ra.kR];exact⟨_,_,F,h,st, .refl _ _ _ _, .v _⟩
 ·cases ra with|lst hf=>exact⟨_,_,F,h,st, .refl _ _ _ _,hf⟩
 ·cases ra with|fp hf=>exact⟨_,_,F,h,st, .refl _ _ _ _,hf⟩
 ·split at h
  ·rename_i t sz m hk
   obtain⟨s1,e1⟩:=st.freeze hk
   have hb:=s1.blk _ (.fz sz m) (by rw [lg hk,if_pos rfl])
   cases ra with
   | oP _ oa hl hn hc=>
    have e:=hb.2.1
    rw [hn]at e
    have:m = []:=aH e.symm
    subst this
    exact⟨_,_,_,h,s1,e1,uM sz oa⟩
   | own _ hl=>exact⟨_,_,_,h,s1,e1,hb.2.2.1⟩
  ·rename_i sz m hk
   have hb:=st.blk _ _ hk
   cases ra with
   | oP _ oa hl hn hc=>
    have e:=hb.2.1
    rw [hn]at e
    have:m = []:=aH e.symm
    subst this
    exact⟨_,_,F,h,st, .refl _ _ _ _,uM sz oa⟩
   | own _ hl=>exact⟨_,_,F,h,st, .refl _ _ _ _,hb.2.2.1⟩
  ·cases h
 ·cases ra with|fm hf=>exact⟨_,_,F,h,st, .refl _ _ _ _,hf⟩
 ·split at h
  ·rename_i M hk
   obtain⟨s1,e1⟩:=st.QN hk
   obtain⟨g,hg,hf⟩:=s1.blk _ (.KU M) (by rw [lg hk,if_pos rfl])
   cases ra with
   | mp _ b hl hb=>
    rw [hb]at hg
    injection hg with hg
    subst hg
    exact⟨_,_,_,h,s1,e1,hf⟩
  ·rename_i M hk
   obtain⟨g,hg,hf⟩:=st.blk _ _ hk
   cases ra with
   | mp _ b hl hb=>
    rw [hb]at hg
    injection hg with hg
    subst hg
    exact⟨_,_,F,h,st, .refl _ _ _ _,hf⟩
  ·cases h
 ·cases h
theorem yu : ∀ {as:List AV} {vs:List Value} {H:jI} {F:Nat->Prop} {K:List FV->jI->Prop},Yc H as K->St G jL jO jQ n σ F H w->kD n σ F w as vs->
  ∃xs H' F',K xs H'∧St G jL jO jQ n σ F' H' w∧Ext n σ F w n σ F' w∧rE F' w xs vs:=by
 intro as
 induction as with
 | nil=>intro vs H F K h st r;cases vs with
  | nil=>exact⟨[],H,F,h,st, .refl _ _ _ _,rfl,fun j a v h1=>by simp at h1⟩
  | cons _ _=>exact r.elim
 | cons a as ih=>intro vs H F K h st r;cases vs with
  | nil=>exact r.elim
  | cons v vs=>
   obtain⟨x,H1,F1,h1,s1,e1,r1⟩:=FP h st r.1
   obtain⟨xs,H2,F2,h2,s2,e2,r2⟩:=ih h1 s1 (r.2.mono e1)
   exact⟨x::xs,H2,F2,h2,s2,e1.trans e2, .cons (r1.mono e2.f) r2⟩
theorem mY.nil (sz:Nat):mY F w sz [] []:=⟨by simp,by simp,by simp,fun i j row a v h=>by simp at h⟩
theorem mY.cons {sz:Nat}{row:List FV}{l:List (List FV)}{vs xs:List Value}(hr:rE F w row vs)(hl:vs.length=sz)(h1 : ∀v∈vs,v.oneCell'=true)(r:mY F w sz l xs):mY F w sz (row::l) (vs++xs):=by
 refine⟨fun x hx=> ?_,by rw [aG,r.2.1,hl,aZ,aX];omega,fun v hv=> ?_,fun i j row' a v hi hj hv=> ?_⟩
 ·rcases bG.1 hx with rfl|hx
  ·rw [<-hr.1];exact hl
  ·exact r.1 x hx
 ·rcases dU.1 hv with hv|hv
  ·exact h1 v hv
  ·exact r.2.2.1 v hv
 ·cases i with
  | zero=>
   simp only [bJ,aA]at hi
   subst hi
   have hjl:=(aF.1 hj).1
   rw [eG,aJ,cO (by rw [hr.1];exact hjl)]at hv
   exact hr.2 j a v hj hv
  | succ i=>
   have hi':l[i]? = some row':=by simpa using hi
   rw [bY (by rw [hl,aX];omega),hl]at hv
   rw [show (i+1)*sz+j-sz=i*sz+j by rw [aX];omega]at hv
   exact r.2.2.2 i j row' a v hi' hj hv
theorem Ai : ∀ {as:List AV} {vs:List Value},all1 as=true->kD n σ F w as vs->∀v∈vs,v.oneCell'=true:=by
 intro as
 induction as with
 | nil=>intro vs _ r v hv;cases vs with
  | nil=>cases hv
  | cons _ _=>exact r.elim
 | cons a as ih=>intro vs h r v hv;cases vs with
  | nil=>exact r.elim
  | cons u vs=>
   simp only [all1,ah]at h
   rcases bG.1 hv with rfl|hv
   ·have hc:=h.1
    have ra:=r.1
    have key : ∀ {a:AV} {v:Value},cell1 a=true->jX n σ F w a v->v.oneCell'=true:=fun {a v} hc ra=>by
     cases ra with
     | v x=>exact hc
     | top x=>cases hc
     | agg _ _ _ _=>cases hc
     | kZ _ _ _ _=>cases hc
     | lst hf=>cases hf;rfl
     | fp hf=>cases hf;rfl
     | fm hf=>cases hf;rfl
     | _=>rfl
    exact key hc ra
   ·exact ih h.2 r.2 v hv
theorem vZ {a:AV}{v:Value}(r:jX n σ F w a v)(h:all1 (cellsOf a)=true):kD n σ F w (cellsOf a) v.cells.toList:=
 CX r fun e=>by rw [e]at h;simp [cellsOf,all1,cell1]at h
theorem BQ {sz:Nat} : ∀ {ks:List Nat} {as:List AV} {us:List Value} {i:Nat} {H:jI} {F:Nat->Prop} {K:List (List FV)->jI->Prop},zo H sz i (ks.zip as) K->ks.length=as.length->St G jL jO jQ n σ F H w->kD n σ F w as us->
  ∃l H' F',K l H'∧St G jL jO jQ n σ F' H' w∧Ext n σ F w n σ F' w∧l.length=as.length∧ks=List.range' i as.length∧(∀u∈us,u.cells.toList.length=sz)∧mY F' w sz l (us.flatMap fun u=>u.cells.toList):=by
 intro ks
 induction ks with
 | nil=>
  intro as us i H F K h hl st r
  cases as with
  | cons _ _=>simp at hl
  | nil=>cases us with
   | cons _ _=>exact r.elim
   | nil=>exact⟨[],H,F,h,st, .refl _ _ _ _,rfl,rfl,by simp,mY.nil sz⟩
 | cons k ks ih=>
  intro as us i H F K h hl st r
  cases as with
  | nil=>simp at hl
  | cons a as=>cases us with
   | nil=>exact r.elim
   | cons u us=>
    simp only [gy,zo]at h
    cases hb:(Nat.beq i k&&Nat.beq (cellsOf a).length sz&&all1 (cellsOf a))with
    | false=>rw [hb]at h;exact h.elim
    | true=>
     rw [hb,cond_true]at h
     simp only [ah]at hb
     have e1:=aj hb.1.1
     have e2:=aj hb.1.2
     subst e1
     have rc:=vZ r.1 hb.2
     obtain⟨x,H1,F1,h1,s1,x1,r1⟩:=yu h st rc
     obtain⟨l,H2,F2,h2,s2,x2,l2,k2,c2,r2⟩:=ih h1 abw s1 (r.2.mono x1)
     refine⟨x::l,H2,F2,h2,s2,x1.trans x2,by simp [l2],by rw [k2];rfl, ?_, ?_⟩
     ·intro v hv
      rcases bG.1 hv with rfl|hv
      ·rw [rc.len];exact e2
      ·exact c2 v hv
     ·rw [iG]
      exact .cons (r1.mono x2.f) (by rw [rc.len];exact e2) (Ai hb.2 rc) r2
theorem NG (z:List Value)(sz:Nat)(hz:z.length=sz) : ∀(us:List Value) (i:Nat) (pre:List Value),pre.length=i*sz->(∀u∈us,u.cells.toList.length=sz)->
  tu (fun j=>some (j*sz,sz)) (pre++(List.replicate us.length z).flatten) ((List.range' i us.length).zip us)=some (pre++us.flatMap fun u=>u.cells.toList):=by
 intro us
 induction us with
 | nil=>intro i pre _ _;simp [tu]
 | cons u us ih=>
  intro i pre hp hc
  have hu:=hc u aaA
  simp only [aZ,iL,gy,tu,dQ,gK]
  have hlen:(pre++(z++(List.replicate us.length z).flatten)).length=i*sz+sz+(List.replicate us.length z).flatten.length:=by simp [hp,hz];omega
  have c1:(Nat.beq u.cells.toList.length sz&&Nat.ble (i*sz+u.cells.toList.length) (pre++(z++(List.replicate us.length z).flatten)).length)=true:=by
   rw [hu,hlen]
   simp only [fU,fF]
   exact jv aad
  rw [c1,cond_true, <-hp, <-bg,Fh pre u.cells.toList z _ aad]
  have:=ih (i+1) (pre++u.cells.toList) (by rw [aG,hp,hu,aX,cu]) (fun v hv=>hc v (by simp [hv]))
  rw [this,iG,bg]
theorem xk {t:TypeId}{m:Nat}{ks:List Nat}{as:List AV}{us:List Value}{K:AV->Nat->jI->Prop}(h:tX P t m (ks.zip as) n H K)(hl:ks.length=as.length)(st:St G jL jO jQ n σ F H w)(r:kD n σ F w as us) :
  pY P t m (ks.zip us) w (D6 G jL jO jQ n σ F w K):=by
 unfold tX at h
 unfold pY
 split at h
 ·rename_i e hu
  split at h
  ·rename_i i hi
   split at h
   ·rename_i z hz
    cases hb:(Nat.beq z.cells.toList.length i.size&&Nat.ble 1 i.size&&Nat.ble (m*i.size) 16777216&&Nat.beq (ks.zip as).length m&&Nat.ble m maxLen)with
    | false=>rw [hb]at h;exact h.elim
    | true=>
     rw [hb,cond_true]at h
     simp only [ah]at hb
     obtain⟨⟨⟨⟨b1,b2⟩,b3⟩,b4⟩,b5⟩:=hb
     have e4:=aj b4
     rw [List.length_zip,hl,Nat.min_self]at e4
     subst e4
     have hzl:=aj b1
     obtain⟨l,H1,F1,h1,s1,x1,l1,k1,c1,r1⟩:=BQ h hl st r
     have hul:=r.len
     have hf:=NG z.cells.toList i.size hzl us 0 [] aaA c1
     simp only [dD]at hf
     simp only [hu,hi,hz,b1,b2,b3,Bool.and_self,cond_true]
     rw [k1, <-hul,hf]
     simp only [kK]
     obtain⟨s2,x2⟩:=s1.new (w':=w.alloc (.cells (us.flatMap fun u=>u.cells.toList).toArray e)) (uH.nY (nR (Below.refl _ _) (ay _) _))
      ⟨some w.heap.size,l.length,l.length,i.size⟩ (fun g hg=>by injection hg with hg;subst hg;exact⟨ay _,by simp⟩) (.rows e i.size l)
      ⟨rfl,rfl,_,Own.wQ (oH.new w _ e) (aK _) (ay _) (by rw [l1];exact ak b5) (by simpa using r1.2.1) (by rw [<-r1.2.1];exact fD),r1.mono fun b hb=>⟨hb,heap_alloc_old w _ b (s1.lI b hb).1⟩⟩
     refine⟨_,_,_,_,_,h1,s2,x1.trans x2, ?_⟩
     have:=jX.own (n:=n+1) (σ:=sS σ n ⟨some w.heap.size,l.length,l.length,i.size⟩) (F:=F1) (w:=w.alloc (.cells (us.flatMap fun u=>u.cells.toList).toArray e)) n aad
     rw [kH]at this
     rw [hul, <-l1]
     exact this
   ·cases h
  ·cases h
 ·cases h
end
end Go.Proofs.YtnandbihiceihaaGreatDoor.Ax
