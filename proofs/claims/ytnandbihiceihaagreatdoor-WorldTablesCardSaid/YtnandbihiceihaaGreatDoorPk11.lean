/- Joined parts of the proof. Calls of functions that change memory of the caller's: the labels lent come back changed -/
import Derived.Test.YtnandbihiceihaaGreatDoorPk9
import Derived.RangeFuncLeaves
import Derived.RangeFuncCalls
import Derived.RangeFuncSeq
import Derived.OrdersIn
import Derived.OwnWalkIn
import Derived.Test.YtnandbihiceihaaGreatDoorPk10
set_option linter.unusedVariables false
set_option linter.unusedSimpArgs false
set_option maxRecDepth 100000
set_option maxHeartbeats 16000000
namespace Go.Proofs.YtnandbihiceihaaGreatDoor.Ax
open RowKit Vc
mutual
def rnA (f:Nat->Nat):AV->AV
 | .ptr e o=> .ptr (f e) o
 | .ep e i o=> .ep (f e) i o
 | .own e=> .own (f e)
 | .sub e o k=> .sub (f e) o k
 | .full e k=> .full (f e) k
 | .mp e=> .mp (f e)
 | .fn g xs ys=> .fn g (rnL f xs) (rnL f ys)
 | .agg cs=> .agg (rnL f cs)
 | .og cs=> .og (rnL f cs)
 | .top=> .top
 | .v x=> .v x
 | .lst sz l=> .lst sz l
 | .fp cs o=> .fp cs o
 | .fm M=> .fm M
def rnL (f:Nat->Nat):List AV->List AV
 | []=> []
 | a::r=>rnA f a::rnL f r
end
def rnB (f:Nat->Nat):oI->oI
 | .var t cs=> .var t (rnL f cs)
 | .tree t sz l (some (i,j,e))=> .tree t sz l (some (i,j,f e))
 | b=>b
def rnH (f:Nat->Nat):lI->lI
 | []=> []
 | p::r=>(f p.1,rnB f p.2)::rnH f r
theorem LW (f:Nat->Nat) : ∀l:List AV,rnL f l=l.map (rnA f):=by
 intro l
 induction l with
 | nil=>rfl
 | cons a r ih=>simp [rnL,ih]
theorem acs (f:Nat->Nat)(b:oI):(rnB f b).own=b.own:=by
 cases b with
 | tree t sz l h=>cases h<;>rfl
 | _=>rfl
theorem acu {f:Nat->Nat}{b:oI}{w:World}{L:Loc}{g:Nat}(h:qO w L (rnB f b) g):qO w L b g:=by
 cases b with
 | tree t sz l o=>cases o<;>exact h
 | _=>exact h
section
variable {n m:Nat}{σ σ':Nat->Loc}{F:Nat->Prop}{w:World}{f:Nat->Nat}
theorem RJ (hs : ∀k,k<m->f k<n∧σ' (f k)=σ k){a:AV}{v:Value}(r:mM m σ F w a v):mM n σ' F w (rnA f a) v:=by
 induction r with
 | top x=>exact .top x
 | v x=>exact .v x
 | lst h=>exact .lst h
 | fp h=>exact .fp h
 | fm h=>exact .fm h
 | ptr l o b hl hb=>exact .ptr _ o b (hs l hl).1 ajO
 | ep l i o b hl hb=>rw [<-(hs l hl).2];exact .ep _ i o b (hs l hl).1 ajO
 | own l hl=>rw [<-(hs l hl).2];exact .own _ (hs l hl).1
 | rH l oa hl hn hc=>exact .rH _ oa (hs l hl).1 (by rw [(hs l hl).2];exact hn) (by rw [(hs l hl).2];exact hc)
 | sub l o k oa c hl hk hc hnil ho=>exact .sub _ o k oa c (hs l hl).1 (by rw [(hs l hl).2];exact hk) hc hnil (by rw [(hs l hl).2];exact ho)
 | full l k oa hl hk ho=>exact .full _ k oa (hs l hl).1 (by rw [(hs l hl).2];exact hk) (by rw [(hs l hl).2];exact ho)
 | mp l b hl hb=>exact .mp _ b (hs l hl).1 ajO
 | fn g xs ys us vs hx hy _ _ ih1 ih2=>
  simp only [rnA,LW]
  refine .fn g _ _ us vs aia (by simp [hy]) (fun j a v h1 h2=> ?_) (fun j a v h1 h2=> ?_)
  ·rw [aJ]at h1
   cases hx:xs[j]? with
   | none=>rw [hx]at h1;cases h1
   | some x=>rw [hx]at h1;injection h1 with h1;rw [<-h1];exact ih1 j x v hx h2
  ·rw [aJ]at h1
   cases hy:ys[j]? with
   | none=>rw [hy]at h1;cases h1
   | some y=>rw [hy]at h1;injection h1 with h1;rw [<-h1];exact ih2 j y v hy h2
 | agg xs us hx _ ih=>
  simp only [rnA,LW]
  refine .agg _ us aia (fun j a v h1 h2=> ?_)
  rw [aJ]at h1
  cases hx:xs[j]? with
  | none=>rw [hx]at h1;cases h1
  | some x=>rw [hx]at h1;injection h1 with h1;rw [<-h1];exact ih j x v hx h2
 | og xs us hx _ ih=>
  simp only [rnA,LW]
  refine .og _ us aia (fun j a v h1 h2=> ?_)
  rw [aJ]at h1
  cases hx:xs[j]? with
  | none=>rw [hx]at h1;cases h1
  | some x=>rw [hx]at h1;injection h1 with h1;rw [<-h1];exact ih j x v hx h2
theorem acv (hs : ∀k,k<m->f k<n∧σ' (f k)=σ k){l:List AV}{vs:List Value}(r:mZ m σ F w l vs):mZ n σ' F w (rnL f l) vs:=by
 rw [LW]
 refine .of (by simp [r.len]) fun j a v h1 h2=> ?_
 rw [aJ]at h1
 cases hx:l[j]? with
 | none=>rw [hx]at h1;cases h1
 | some x=>rw [hx]at h1;injection h1 with h1;rw [<-h1];exact RJ hs (r.at j x v hx h2)
theorem acw (hs : ∀k,k<m->f k<n∧σ' (f k)=σ k){L:Loc}{b:oI}(r:uS m σ F w L b):uS n σ' F w L (rnB f b):=by
 cases b with
 | var t cs=>obtain⟨g,vs,h1,h2,h3,h4⟩:=r;exact⟨g,vs,h1,h2,acv hs h3,h4⟩
 | tree t sz l h=>
  cases h with
  | none=>obtain⟨h1,h2,xs,h3,h4,h5,_⟩:=r;exact⟨h1,h2,xs,h3,h4,h5,fun _ _ _ h=>by cases h⟩
  | some p=>
   obtain⟨i,j,e⟩:=p
   obtain⟨h1,h2,xs,h3,h4,h5,h6⟩:=r
   refine⟨h1,h2,xs,h3,h4,h5,fun i' j' e' h=> ?_⟩
   injection h with h
   injection h with e1 h
   injection h with e2 e3
   subst e1;subst e2;subst e3
   obtain⟨a1,a2,a3,a4,v,a5,a6⟩:=h6 _ _ _ rfl
   exact⟨(hs e a1).1,a2,a3,a4,v,a5,RJ hs a6⟩
 | _=>exact r
theorem Hy : ∀ {H:lI} {k:Nat} {b:oI},look (rnH f H) k=some b->∃j c,k=f j∧c∈H.map (·.2)∧(j,c)∈H∧b=rnB f c:=by
 intro H
 induction H with
 | nil=>intro k b h;cases h
 | cons p r ih=>
  intro k b h
  obtain⟨x,c⟩:=p
  simp only [rnH]at h
  rw [mO]at h
  split at h
  ·rename_i e
   injection h with h
   exact⟨x,c,e.symm,by simp,by simp,h.symm⟩
  ·obtain⟨j,d,h1,h2,h3,h4⟩:=ih h
   exact⟨j,d,h1,by simp at h2 ⊢;exact .inr h2,by simp [h3],h4⟩
end
def once:lI->Bool
 | []=>true
 | p::r=>(match look r p.1 with|some _=>false|none=>true)&&once r
theorem Eb : ∀ {H:lI} {k:Nat} {b:oI},once H=true->(k,b)∈H->look H k=some b:=by
 intro H
 induction H with
 | nil=>intro k b _ h;cases h
 | cons p r ih=>
  intro k b ho h
  obtain⟨x,c⟩:=p
  simp only [once,ak]at ho
  rw [mO]
  rcases bI.1 h with e|e
  ·injection e with e1 e2
   subst e1;subst e2
   rw [if_pos rfl]
  ·have:=ih ho.2 e
   split
   ·rename_i e'
    subst e'
    rw [this]at ho
    cases ho.1
   ·exact this
def rmL (L:List Nat)(H:lI):lI:=
 match L with
 | []=>H
 | l::r=>rmL r (Gu H l)
theorem zq : ∀ {L:List Nat} {H:lI} {k:Nat} {b:oI},look (rmL L H) k=some b->k∉L∧look H k=some b:=by
 intro L
 induction L with
 | nil=>intro H k b h;exact⟨by simp,h⟩
 | cons l r ih=>
  intro H k b h
  obtain⟨h1,h2⟩:=ih h
  obtain⟨h3,h4⟩:=pV h2
  exact⟨by simp [h1,h3],h4⟩
def sQ (i:Nat)(L:List Nat):List (Nat×Src):=
 match L with
 | []=> []
 | l::r=>(i, .lab l)::sQ (i+1) r
theorem Yd : ∀ {L:List Nat} {i k l:Nat},L[k]? = some l->tr (sQ i L) (i+k)=some (.lab l):=by
 intro L
 induction L with
 | nil=>intro i k l h;simp at h
 | cons x r ih=>
  intro i k l h
  cases k with
  | zero=>
   simp only [bZ,aI]at h
   subst h
   simp [sQ,tr]
  | succ k=>
   simp only [fD]at h
   have:=ih (i:=i+1) h
   simp only [sQ,tr]
   have e:Nat.beq i (i+(k+1))=false:=by
    cases hb:Nat.beq i (i+(k+1))with
    | false=>rfl
    | true=>have:=aA hb;omega
   rw [e,cond_false,show i+(k+1)=i+1+k by omega]
   exact this
def Ns (L:List Nat)(n k:Nat):Nat:=
 match L,k with
 | [],k=>n+k
 | l::_,0=>l
 | _::r,k+1=>Ns r n k
theorem af8 : ∀ {L:List Nat} {n k l:Nat},L[k]? = some l->Ns L n k=l:=by
 intro L
 induction L with
 | nil=>intro n k l h;simp at h
 | cons x r ih=>
  intro n k l h
  cases k with
  | zero=>simp only [bZ,aI]at h;exact h
  | succ k=>exact ih aaE
theorem af9 : ∀ {L:List Nat} {n k:Nat},L.length<=k->Ns L n k=n+(k-L.length):=by
 intro L
 induction L with
 | nil=>intro n k _;simp [Ns]
 | cons x r ih=>
  intro n k h
  cases k with
  | zero=>simp at h
  | succ k=>
   simp only [bn]at h ⊢
   show Ns r n k=_
   rw [ih aai]
   congr 1
   omega
def hasAll (H:lI):Nat->Bool
 | 0=>true
 | k+1=>(match look H k with|some _=>true|none=>false)&&hasAll H k
theorem OD {H:lI} : ∀ {n k:Nat},hasAll H n=true->k<n->∃b,look H k=some b:=by
 intro n
 induction n with
 | zero=>intro k _ h;omega
 | succ n ih=>
  intro k h hk
  simp only [hasAll,ak]at h
  by_cases e:k=n
  ·subst e
   cases hl:look H k with
   | none=>rw [hl]at h;cases h.1
   | some b=>exact⟨b,rfl⟩
  ·exact ih h.2 aai
structure Once (H:lI):Prop where
 ok:once H=true
section
variable {P:Program}{G:Glob}{n:Nat}{H:lI}
theorem acy {f:FuncId}{args args':List AV}{H0:lI}{R:AV->Nat->lI->Prop}{K:AV->Nat->lI->Prop}(L:List Nat)(Z:List Nat)(hc:callable P f=true)(h:mP P G f args' L.length H0 R)
  (hwf:(Nr 0 L.length (sQ 0 L) Z H0&&hasAll H0 L.length)=true) (hH:Qu H (sQ 0 L) Z 0 H0) (ha:Ot H (sQ 0 L) Z 0 args' args)
  (k : ∀a m H',R a m H'->once H'=true∧K (rnA (Ns L n) a) (n+(m-L.length)) (rnH (Ns L n) H'++BD Z (rmL L H))):xG P G f args n H K:=by
 simp only [ak]at hwf
 obtain⟨hwf,hall⟩:=hwf
 have hwf':=hwf
 simp only [Nr,ak]at hwf'
 obtain⟨⟨_,hT⟩,hwH⟩:=hwf'
 refine⟨hc,fun w σ F vs st hr=> ?_⟩
 have s1:=Hg (H':=H0) (θ:=sQ 0 L) (Z:=Z) (nb:=0) (n':=L.length) st hwf hH
 have r1:=uX (n':=L.length) (I4:=D8 H0) st hT (aH _) args' args vs ha hr
 have aga : ∀j,(hj:j<L.length)->tr (sQ 0 L) j=some (.lab L[j]):=fun j hj=>by
  have:=Yd (i:=0) (ah hj)
  rwa [aO]at this
 have σ1 : ∀j,(hj:j<L.length)->Hf (sQ 0 L) σ (D8 H0) j=σ L[j]:=fun j hj=>by unfold Hf;rw [aga j hj]
 have inH : ∀j,(hj:j<L.length)->∃b b',look H L[j]=some b∧look H0 j=some b'∧coB H (sQ 0 L) Z 0 b' b:=fun j hj=>by
  obtain⟨b',hb'⟩:=OD hall hj
  rcases zo hH hb' with ⟨e,b,hs,hk,hb⟩|⟨ht,_⟩
  ·unfold xI at hs
   rw [aga j hj]at hs
   injection hs with hs
   subst hs
   exact⟨b,b',hk,hb',hb⟩
  ·rw [aga j hj]at ht;cases ht
 have akO : ∀ {j b'},look H0 j=some b'->j<L.length:=fun h=>(Ci hwH h).1
 refine(h w _ _ vs s1.start r1).mono fun v w' ⟨a,m,σ',F',H',hR,s,x,ra⟩=> ?_
 obtain⟨hon,hK⟩:=k a m H' hR
 have hmu : ∀b,uJ w (Hf (sQ 0 L) σ (D8 H0)) H0 b->∃j, ∃hj:j<L.length, ∃c,look H L[j]=some c∧c.own=true∧qO w (σ L[j]) c b:=fun b ⟨j,c,e,ho,hg⟩=>by
  have hj:=akO e
  obtain⟨b0,b',h1,h2,h3⟩:=inH j hj
  rw [h2]at e
  injection e with e
  subst e
  exact⟨j,hj,b0,h1,by rw [<-FD h3];exact ho,by rw [σ1 j hj]at hg;exact FH h3 hg⟩
 have hm:L.length<=m:=x.le
 let σn:Nat->Loc:=fun l=>if l<n then σ l else σ' (l-n+L.length)
 have inN : ∀j,(hj:j<L.length)->L[j]<n:=fun j hj=>by obtain⟨b,_,h1,_⟩:=inH j hj;exact st.lab _ b h1
 have ho : ∀k,k<n->σn k=σ k:=fun k hk=>if_pos hk
 have hs : ∀k,k<m->Ns L n k<n+(m-L.length)∧σn (Ns L n k)=σ' k:=fun k hk=>by
  by_cases hkl:k<L.length
  ·rw [af8 (ah hkl)]
   have:=inN k hkl
   refine⟨by omega, ?_⟩
   rw [ho _ this,x.s k hkl,σ1 k hkl]
  ·rw [af9 aai]
   refine⟨by omega, ?_⟩
   show (if n+(k-L.length)<n then _ else _)=_
   rw [if_neg aai]
   congr 1
   omega
 have hF : ∀b,F b->F' b∧w'.heap[b]? = w.heap[b]? :=fun b hb=>x.f b (.inl hb)
 have hE:Ext n σ F w (n+(m-L.length)) σn F' w':=⟨by omega,ho,hF,x.sz⟩
 have Ye : ∀k b g,k∉L->look H k=some b->b.own=true->qO w (σ k) b g->¬uJ w (Hf (sQ 0 L) σ (D8 H0)) H0 g:=fun k b g hkL hk hm hg agb=>by
  obtain⟨j,hj,c,h1,h2,h3⟩:=hmu g agb
  have:=st.inj k L[j] b c g hk h1 hm h2 hg h3
  exact hkL (by rw [this];exact aV hj)
 have old : ∀k b g,look (BD Z (rmL L H)) k=some b->b.own=true->qO w (σ k) b g->k∉L∧look H k=some b∧¬F' g∧G.nb<=g∧g<w.heap.size∧uJ w σ H g:=by
  intro k b g hk hm hg
  rcases xK hk with ⟨h1,h2⟩|⟨_,t,sz,l,_,rfl⟩
  ·obtain⟨hkL,h1⟩:=zq h1
   obtain⟨m1,m2,m3,m4⟩:=st.mu k b g h1 hm hg
   refine⟨hkL,h1,fun hf=> ?_,m2,m3,⟨k,b,h1,hm,hg⟩⟩
   rcases(s.oG g hf).2 with e|e|e
   ·rcases e with e|⟨k',t,sz,l,hz,hk',hg'⟩
    ·exact m1 e
    ·have:=st.inj k k' b _ g h1 hk' hm rfl hg (.inl hg')
     subst this
     rw [h1]at hk'
     injection hk' with hk'
     exact h2 hz t sz l hk'
   ·omega
   ·exact Ye k b g hkL h1 hm hg e
  ·cases hm
 have new : ∀k b g,look (rnH (Ns L n) H') k=some b->b.own=true->qO w' (σn k) b g->∃j c,k=Ns L n j∧look H' j=some c∧c.own=true∧qO w' (σ' j) c g∧¬F' g∧G.nb<=g∧g<w'.heap.size∧(uJ w (Hf (sQ 0 L) σ (D8 H0)) H0 g∨w.heap.size<=g):=by
  intro k b g hk hm hg
  obtain⟨j,c,rfl,_,hj,rfl⟩:=Hy hk
  have hj:=Eb hon hj
  rw [acs]at hm
  rw [(hs j (s.lab j c hj)).2]at hg
  have hg:=acu hg
  obtain⟨m1,m2,m3,m4⟩:=s.mu j c g hj hm hg
  exact⟨j,c,rfl,hj,hm,hg,m1,m2,m3,m4⟩
 have bk : ∀ {k b g},look (BD Z (rmL L H)) k=some b->b.own=true->qO w' (σ k) b g->qO w (σ k) b g:=fun hk hm hg=>hg.back fun y hy=>(let ⟨o1,o2,_,_,o5,_⟩:=old _ _ y hk hm (.inl hy);s.qF.block y o5 (Ye _ _ y o1 o2 hm (.inl hy)))
 have CB : ∀k b,look (BD Z (rmL L H)) k=some b->k<n:=fun k b hk=>by
  rcases xK hk with ⟨h1,_⟩|⟨_,t,sz,l,h1,_⟩
  ·exact st.lab k _ (zq h1).2
  ·exact st.lab k _ (zq h1).2
 have cross : ∀k k' b b' g,look (rnH (Ns L n) H') k=some b->look (BD Z (rmL L H)) k'=some b'->b.own=true->b'.own=true->qO w' (σn k) b g->qO w (σ k') b' g->False:=by
  intro k k' b b' g hk hk' hm hm' hg hg'
  obtain⟨j,c,e1,h1,h2,h3,_,_,_,h4⟩:=new k b g hk hm hg
  obtain⟨o1,o2,_,_,o5,_⟩:=old k' b' g hk' hm' hg'
  rcases h4 with h4|h4
  ·exact Ye k' b' g o1 o2 hm' hg' h4
  ·omega
 have hst:St G w (uJ w σ H) F (n+(m-L.length)) σn F' (rnH (Ns L n) H'++BD Z (rmL L H)) w':=by
  refine⟨s.glob,⟨s.qF.os,s.qF.tape,s.qF.output,x.sz,fun b hb hn=>s.qF.block b hb fun agb=>hn ?_⟩,fun b hb=>⟨(s.oG b hb).1, ?_⟩,fun k b hk=> ?_,fun k b g hk hm hg=> ?_,fun k k' b b' g hk hk' hm hm' hg hg'=> ?_,fun k b hk=> ?_⟩
  ·obtain⟨j,hj,c,h1,h2,h3⟩:=hmu b agb
   exact⟨L[j],c,h1,h2,h3⟩
  ·rcases(s.oG b hb).2 with e|e|e
   ·rcases e with e|⟨k',t,sz,l,hz,hk',hg'⟩
    ·exact .inl e
    ·exact .inr (.inr ⟨k',_,hk',rfl, .inl hg'⟩)
   ·exact .inr (.inl e)
   ·obtain⟨j,hj,c,h1,h2,h3⟩:=hmu b e
    exact .inr (.inr ⟨L[j],c,h1,h2,h3⟩)
  ·rcases nK hk with hk|⟨_,hk⟩
   ·obtain⟨j,c,rfl,_,hj,_⟩:=Hy hk
    exact(hs j (s.lab j c (Eb hon hj))).1
   ·have:=CB k b hk;omega
  ·rcases nK hk with hk|⟨_,hk⟩
   ·obtain⟨j,c,_,_,_,_,m1,m2,m3,m4⟩:=new k b g hk hm hg
    refine⟨m1,m2,m3,m4.elim (fun h=> ?_) .inr⟩
    obtain⟨j,hj,c,h1,h2,h3⟩:=hmu g h
    exact .inl ⟨L[j],c,h1,h2,h3⟩
   ·rw [ho k (CB k b hk)]at hg
    obtain⟨_,_,m1,m2,m3,m4⟩:=old k b g hk hm (bk hk hm hg)
    exact⟨m1,m2,aP m3 x.sz, .inl m4⟩
  ·rcases nK hk with hk|⟨_,hk⟩
   ·rcases nK hk' with hk'|⟨_,hk'⟩
    ·obtain⟨j,c,e1,h1,h2,h3,_⟩:=new k b g hk hm hg
     obtain⟨j',c',e1',h1',h2',h3',_⟩:=new k' b' g hk' hm' hg'
     have:=s.inj j j' c c' g h1 h1' h2 h2' h3 h3'
     rw [e1,e1',this]
    ·rw [ho k' (CB k' b' hk')]at hg'
     exact(cross k k' b b' g hk hk' hm hm' hg (bk hk' hm' hg')).elim
   ·rcases nK hk' with hk'|⟨_,hk'⟩
    ·rw [ho k (CB k b hk)]at hg
     exact(cross k' k b' b g hk' hk hm' hm hg' (bk hk hm hg)).elim
    ·rw [ho k (CB k b hk)]at hg
     rw [ho k' (CB k' b' hk')]at hg'
     have h5:=old k b g hk hm (bk hk hm hg)
     have h6:=old k' b' g hk' hm' (bk hk' hm' hg')
     exact st.inj k k' b b' g h5.2.1 h6.2.1 hm hm' (bk hk hm hg) (bk hk' hm' hg')
  ·rcases nK hk with hk|⟨_,hk⟩
   ·obtain⟨j,c,rfl,_,hj,rfl⟩:=Hy hk
    have hj:=Eb hon hj
    rw [(hs j (s.lab j c hj)).2]
    exact acw hs (s.blk j c hj)
   ·rw [ho k (CB k b hk)]
    rcases xK hk with ⟨h1,_⟩|⟨hz,t,sz,l,h1,rfl⟩
    ·obtain⟨hkL,h1⟩:=zq h1
     exact(st.blk k b h1).mono hE fun hm g hg=>s.qF.block g (st.mu k b g h1 hm hg).2.2.1 (Ye k b g hkL h1 hm hg)
    ·obtain⟨hkL,h1⟩:=zq h1
     have hb:=(st.blk k _ h1).mono hE fun hm g hg=>s.qF.block g (st.mu k _ g h1 rfl hg).2.2.1 (Ye k _ g hkL h1 rfl hg)
     exact tV hb (fun _ h=>h) fun g hg=>(x.f g (.inr ⟨k,t,sz,l,hz,h1,hg⟩)).1
 exact⟨rnA (Ns L n) a,n+(m-L.length),σn,F',_,hK,hst,hE,RJ hs ra⟩
theorem mX {f:FuncId}{args args':List AV}{H0:lI}{R:AV->Nat->lI->Prop}{K:AV->Nat->lI->Prop}(L:List Nat)(Z:List Nat)(hc:callable P f=true)(h:mP P G f args' L.length H0 R)
  (hwf:(Nr 0 L.length (sQ 0 L) Z H0&&hasAll H0 L.length)=true) (hH:Qu H (sQ 0 L) Z 0 H0) (ha:Ot H (sQ 0 L) Z 0 args' args)
  (k : ∀a m H',R a m H'->once H'=true∧frc (n+(m-L.length)) (rnH (Ns L n) H'++BD Z (rmL L H)) fun n' rW=>K (rnA (Ns L n) a) n' rW):xG P G f args n H K:=
 acy L Z hc h hwf hH ha fun a m H' hR=>by have:=k a m H' hR;rwa [XO]at this
end
theorem vw {P:Program}{G:Glob}{n m0:Nat}{H H0 H1:lI}{f:FuncId}{args args':List AV}{r:AV}{K:AV->Nat->lI->Prop}(L:List Nat)(Z:List Nat)(hc:callable P f=true)(h:mP P G f args' L.length H0 fun a m H'=>a=r∧m=m0∧H'=H1)(hwf:(Nr 0 L.length (sQ 0 L) Z H0&&hasAll H0 L.length)=true)(hH:Qu H (sQ 0 L) Z 0 H0)(ha:Ot H (sQ 0 L) Z 0 args' args)(e:once H1=true)(k:frc (n+(m0-L.length)) (rnH (Ns L n) H1++BD Z (rmL L H)) fun n' rW=>K (rnA (Ns L n) r) n' rW):xG P G f args n H K:=mX L Z hc h hwf hH ha fun _ _ _ ⟨e1,e2,e3⟩=>by subst e1 e2 e3;exact⟨e,k⟩
def EU (r:Option Nat):Fence:= {fn:=fun _=>True,depth:=none,alive:=false,round:=r}
theorem OE {r:Option Nat}{n:Nat}{P:Program}{f:FuncId}{args:Array Value}{w:World}{R:Ending->World->Prop}(h:Calls P f args w R):CallsIn (EU r) n P f args w R:=(callsIn_wide (n:=n)).2 h
theorem RP {r:Option Nat}{n:Nat}{P:Program}{row:String}{args:Array Value}{w:World}{R:Value->World->Prop}(h:Rows P row args w R):RowsIn (EU r) n P row args w R:=
 fun c cs _=>let ⟨v,w',hr,s⟩:=h c cs;⟨v,w',hr,(stepsIn_wide (P:=P)).2 s⟩
def qQ (o:Oper):Bool:=match o.op with | .defer _=>false|_=>true
theorem Hz {o:Oper}(h:qQ o=true) : ∀c,o.op≠ .defer c:=fun c e=>by unfold qQ at h;rw [e]at h;cases h
section
variable {P:Program}{r:Option Nat}{n:Nat}{ops:Array Oper}{Q:Exit->Act->World->Prop}
theorem LY {o:Oper}{a:Act}{w:World}{next next':Act->World->Prop}(hd:qQ o=true)(hn : ∀a w,next a w->next' a w)(h:o.wp P a w next Q):o.wpIn (EU r) n P a w next' Q:=by
 refine⟨fun _ _=>trivial, ?_⟩
 have e:o.semAt (EU r).round a.eval=execOp a.eval o:=Oper.semAt_plain (EU r) _ o (Hz hd)
 rw [e]
 unfold Oper.wp at h
 generalize (execOp a.eval o).run P w=res at *
 cases res with
 | ok x w'=>
  cases x with
  | value v=>exact hn _ _ h
  | skip=>exact hn _ _ h
  | defer d=>exact hn _ _ h
  | enter f args=>
   refine⟨(fun hh=>by cases hh),OE (Calls.mono h fun e w'' he=> ?_)⟩
   cases e with
   | returned v=>exact hn _ _ he
   | panicked ch=>exact he
   | outgrown=>exact he
  | row row args=>exact⟨(fun hh=>by cases hh),RP (Rows.mono h fun v w'' he=>hn _ _ he)⟩
  | round l f tmps ars bo=>exact h.elim
  | _=>exact h.elim
 | halt x w'=>
  cases x with
  | panic v=>exact h
  | _=>exact h.elim
theorem Yf (hq : ¬LetsOut Q) : ∀(l:List Nat),(∀i∈l, ∀o,ops[i]? = some o->qQ o=true)->∀a w,wpOps P ops Q l a w->wpOpsIn (EU r) n P ops Q l a w:=by
 intro l
 induction l with
 | nil=>intro _ a w h;exact h
 | cons i rest ih=>
  intro hd a w h
  have ih:=ih fun j hj=>hd j (dU _ hj)
  unfold wpOps at h
  unfold wpOpsIn
  cases ho:ops[i]? with
  | none=>rw [ho]at h;exact ih a w h
  | some o=>
   simp only [ho]at h ⊢
   split
   ·rename_i hw
    rw [if_pos hw]at h
    exact LY (hd i dw o ho) ih (h.resolve_right fun hh=>hq hh.2)
   ·rename_i hw
    rw [if_neg hw]at h
    exact⟨fun _ _=>trivial,ih _ _ h⟩
theorem acz (hq : ¬LetsOut Q){i:Nat}(hd : ∀(i:Nat) (o:Oper),ops[i]? = some o->qQ o=true){a:Act}{w:World}{K K':Act->World->Prop}(hn : ∀a w,K a w->K' a w)(h:wpOp P ops Q i K a w):wpOpIn (EU r) n P ops Q i K' a w:=by
 unfold Go.wpOp at h
 unfold Go.wpOpIn
 cases ho:ops[i]? with
 | none=>simp only [ho]at h ⊢;exact hn _ _ h
 | some o=>
  simp only [ho]at h ⊢
  split
  ·rename_i hw
   rw [if_pos hw]at h
   exact LY (hd i o ho) hn (h.resolve_right fun hh=>hq hh.2)
  ·rename_i hw
   rw [if_neg hw]at h
   exact⟨fun _ _=>trivial,hn _ _ h⟩
theorem CP (hq : ¬LetsOut Q){md:Region.Mode}(hd : ∀(i:Nat) (o:Oper),ops[i]? = some o->qQ o=true) : ∀(fuel:Nat) (listed:Array Bool) (a:Act) (w:World),wpAny P md ops Q fuel listed a w->wpAnyIn (EU r) n P md ops Q fuel listed a w:=by
 intro fuel
 induction fuel with
 | zero=>intro listed a w h;exact h
 | succ fuel ih=>intro listed a w h;exact⟨h.1,fun i hi=>acz hq hd (fun a w=>ih _ a w) (h.2 i hi)⟩
end
structure Off (G:Glob)(lT:World)(σ:Nat->Loc)(F:Nat->Prop)(H:lI)(w:World)(k:Nat):Prop where
 new:lT.heap.size<=k
 nb:G.nb<=k
 lt:k<w.heap.size
 nf : ¬F k
 nm : ¬uJ w σ H k
section
variable {G:Glob}{lT:World}{lY lZ:Nat->Prop}{n n':Nat}{σ σ':Nat->Loc}{F F':Nat->Prop}{H H':lI}{w w':World}{k:Nat}
theorem Off.step (h:Off G lT σ F H w k)(s:St G w (uJ w σ H) F n' σ' F' H' w'):Off G lT σ' F' H' w' k∧w'.heap[k]? = w.heap[k]? :=by
 refine⟨⟨h.new,h.nb,aP h.lt s.qF.size,fun hf=> ?_,fun⟨mD,blk,h1,h2,h3⟩=> ?_⟩,s.qF.block k h.lt h.nm⟩
 ·have hl:=h.lt
  rcases(s.oG k hf).2 with e|e|e
  ·exact h.nf e
  ·omega
  ·exact h.nm e
 ·have hl:=h.lt
  rcases(s.mu mD blk k h1 h2 h3).2.2.2 with e|e
  ·exact h.nm e
  ·omega
theorem CS (o:Obj)(nf : ¬F k):Ext n σ F w n σ F (w.putObj k o):=
 ⟨au _,fun _ _=>rfl,fun b hb=>⟨hb,World.putObj_heap_other fun e=>nf (e▸hb)⟩,jI World.putObj_size.symm⟩
theorem St.put (st:St G lT lY lZ n σ F H w)(h:Off G lT σ F H w k)(o:Obj):St G lT lY lZ n σ F H (w.putObj k o):=by
 have hs:(w.putObj k o).heap.size=w.heap.size:=World.putObj_size
 have hb : ∀b,b≠k->(w.putObj k o).heap[b]? = w.heap[b]? :=fun b hb=>World.putObj_heap_other hb
 have hk:=h.nb
 have hn:=h.new
 have bk : ∀ {mD b g},look H mD=some b->b.own=true->qO (w.putObj k o) (σ mD) b g->qO w (σ mD) b g:=fun h1 hm hg=>hg.back fun y hy=>hb y fun e=>h.nm ⟨_,_,h1,hm, .inl (e▸hy)⟩
 refine⟨Glob.qF st.glob (jI hs.symm) fun b hb'=>hb b aai,⟨st.qF.os,st.qF.tape,st.qF.output,by rw [hs];exact st.qF.size,fun b h1 h2=>(hb b aai).trans (st.qF.block b h1 h2)⟩,fun b hb'=>⟨by rw [hs];exact(st.oG b hb').1,(st.oG b hb').2⟩,st.lab,fun mD b g h1 h2 h3=> ?_,fun e e' b b' g h1 h2 m1 m2 g1 g2=>st.inj e e' b b' g h1 h2 m1 m2 (bk h1 m1 g1) (bk h2 m2 g2),fun mD b h1=> ?_⟩
 ·obtain⟨a1,a2,a3,a4⟩:=st.mu mD b g h1 h2 (bk h1 h2 h3)
  exact⟨a1,a2,by rw [hs];exact a3,a4⟩
 ·exact(st.blk mD b h1).mono (CS o h.nf) fun hm g hg=>hb g fun e=>h.nm ⟨mD,b,h1,hm,e▸hg⟩
theorem Off.put (h:Off G lT σ F H w k){l:Nat}{yX:World}(hl:Off G yX σ F H w l)(o:Obj):Off G lT σ F H (w.putObj l o) k:=
 ⟨h.new,h.nb,by rw [World.putObj_size];exact h.lt,h.nf,fun⟨e,b,h1,h2,h3⟩=>h.nm ⟨e,b,h1,h2,h3.back fun y hy=>World.putObj_heap_other fun e'=>by subst e';exact hl.nm ⟨e,b,h1,h2, .inl hy⟩⟩⟩
theorem HY (st:St G lT lY lZ n σ F H w)(hB:Below w.heap.size w w'):Ext n σ F w n σ F w':=⟨au _,fun _ _=>rfl,fun b hb=>⟨hb,hB.block b (st.oG b hb).1⟩,hB.size⟩
theorem St.grow (st:St G lT lY lZ n σ F H w)(hB:Below w.heap.size w w'):St G lT lY lZ n σ F H w':=by
 have h0:=st.qF.size
 have bk : ∀ {mD b g},look H mD=some b->b.own=true->qO w' (σ mD) b g->qO w (σ mD) b g:=fun h1 hm hg=>hg.back fun y hy=>hB.block y (st.mu _ _ y h1 hm (.inl hy)).2.2.1
 refine⟨Glob.qF st.glob hB.size fun b hb=>hB.block b (aP hb st.glob.1),⟨hB.os.trans st.qF.os,hB.tape.trans st.qF.tape,hB.output.trans st.qF.output,bG h0 hB.size,fun b h1 h2=>(hB.block b aai).trans (st.qF.block b h1 h2)⟩,fun b hb=>⟨aP (st.oG b hb).1 hB.size,(st.oG b hb).2⟩,st.lab,fun mD b g h1 h2 h3=> ?_,fun e e' b b' g h1 h2 m1 m2 g1 g2=>st.inj e e' b b' g h1 h2 m1 m2 (bk h1 m1 g1) (bk h2 m2 g2),fun mD b h1=> ?_⟩
 ·obtain⟨a1,a2,a3,a4⟩:=st.mu mD b g h1 h2 (bk h1 h2 h3)
  exact⟨a1,a2,aP a3 hB.size,a4⟩
 ·exact(st.blk mD b h1).mono (HY st hB) fun hm g hg=>hB.block g (st.mu mD b g h1 hm hg).2.2.1
theorem Off.grow (h:Off G lT σ F H w k)(st:St G lT lY lZ n σ F H w)(hB:Below w.heap.size w w'):Off G lT σ F H w' k:=
 ⟨h.new,h.nb,aP h.lt hB.size,h.nf,fun⟨e,b,h1,h2,h3⟩=>h.nm ⟨e,b,h1,h2,h3.back fun y hy=>hB.block y (st.mu _ _ y h1 h2 (.inl hy)).2.2.1⟩⟩
end
def mark (D:Nat):Deferred:= {target:= .collected D,args:= #[]}
structure MK (G:Glob)(lT:World)(L:List Nat)(σ:Nat->Loc)(F:Nat->Prop)(H:lI)(w:World):Prop where
 nodup:L.Nodup
 off : ∀D∈L,Off G lT σ F H w D
 obj : ∀D∈L,w.heap[D]? = some (.deferred (some []))
theorem MK.nil {G:Glob}{lT:World}{σ:Nat->Loc}{F:Nat->Prop}{H:lI}{w:World} : MK G lT [] σ F H w:=⟨List.nodup_nil,fun _ h=>ajW,fun _ h=>ajW⟩
theorem MK.step {G:Glob}{lT:World}{L:List Nat}{n':Nat}{σ σ':Nat->Loc}{F F':Nat->Prop}{H H':lI}{w w':World}(h:MK G lT L σ F H w)(s:St G w (uJ w σ H) F n' σ' F' H' w'):MK G lT L σ' F' H' w':=
 ⟨h.nodup,fun D hD=>((h.off D hD).step s).1,fun D hD=>((h.off D hD).step s).2.trans (h.obj D hD)⟩
theorem OG {P:Program}{fn:Func}{tmps:Array Value}{R:Ending->World->Prop}{G:Glob}{lT:World}{lY lZ:Nat->Prop}{n:Nat}{σ:Nat->Loc}{F:Nat->Prop}{H:lI} :
  ∀(L:List Nat) (w:World),MK G lT L σ F H w->St G lT lY lZ n σ F H w->(∀w',St G lT lY lZ n σ F H w'->Ext n σ F w n σ F w'->LeavesIn (EU none) 0 P fn tmps R [] .returning w')->LeavesInM (EU none) 0 P fn tmps R (L.map mark) .returning w:=by
 intro L
 induction L with
 | nil=>intro w _ st h;exact h w st (Ext.refl _ _ _ _)
 | cons D L ih=>
  intro w hm st h
  have ho:=hm.off D dw
  have hnd:=List.nodup_cons.1 hm.nodup
  refine⟨abb, .inl ⟨D,_,rfl,run_takeDeferred (hm.obj D dw),ih _ ⟨hnd.2,fun D' h'=>(hm.off D' (dU _ h')).put ho _,fun D' h'=> ?_⟩ (st.put ho _) fun w' s x=>h w' s ((CS _ ho.nf).trans x)⟩⟩
  rw [World.putObj_heap_other (fun e:D'=D=>hnd.1 (e▸h'))]
  exact hm.obj D' (dU _ h')
def AIt (P:Program)(G:Glob)(gf:FuncId)(caps:List AV)(xs:List (List AV)):Prop:=
 ∀(n:Nat) (σ:Nat->Loc) (F:Nat->Prop) (vs:List Value) (W:World) (l:Nat) (J:Nat->World->Prop),G.holds W->(∀b,F b->b<W.heap.size)->mZ n σ F W caps vs->
  (∀i W' W'',J i W'->Below W'.heap.size W' W''->J i W'')->
  (∀i W',J i W'->W.heap.size<=W'.heap.size∧G.holds W'∧∀b,F b->W'.heap[b]? = W.heap[b]?)->
  (∀i x W' args,xs[i]? = some x->J i W'->mZ n σ F W' x args->YieldAt (EU none) 0 P l args.toArray W' fun e W''=>e = .returned (.bool true)∧J (i+1) W'')->
  J 0 W->CallsIn (EU none) 0 P gf (#[.func (.yield l) #[] #[]]++vs.toArray) W fun e W'=>(∃v,e = .returned v)∧J xs.length W'
def H6 (ρ:lV)(ps:List Tmp)(x:List AV):lV:=
 match ps,x with
 | p::ps,a::x=>H6 (um ρ p a) ps x
 | _,_=>ρ
def Ud (K:lV->Nat->lI->Prop)(e:Ex)(ρ:lV)(n:Nat)(H:lI):Prop:=
 match e with
 | .normal=>K ρ n H
 | _=>False
structure Yg (P:Program)(G:Glob)(gv:AV)(ps:Array Tmp)(A B:(Ex->lV->Nat->lI->Prop)->lV->Nat->lI->Prop)(Q:Ex->lV->Nat->lI->Prop)(ρ:lV)(n:Nat)(H:lI):Prop where
 ex : ∃(gf:FuncId) (caps:List AV) (xs:List (List AV)) (nl:Nat) (Hs:Nat->lI),gv = .fn (.func gf) [] caps∧callable P gf=true∧AIt P G gf caps xs∧n<=nl∧(∀x∈xs,x.length=ps.size)∧
  JE G (fun _=>false) n ρ n H ρ nl (Hs 0)∧
  (∀i x,xs[i]? = some x->A (Ud (B (Ud fun ρ' n' H'=>G6 (JE G (fun _=>false) n ρ' n' H' ρ nl (Hs (i+1)))))) (H6 ρ ps.toList x) nl (Hs i))∧
  Q .normal ρ nl (Hs xs.length)
def aY (P:Program)(G:Glob)(c:Code)(Q:Ex->lV->Nat->lI->Prop)(ρ:lV)(n:Nat)(H:lI):Prop:=
 match c with
 | .skip=>Q .normal ρ n H
 | .region id ops draw=>(match draw with
  | false=>VG P G ops.toList ops.toList ρ n H (Q .normal)
  | true=>zk P G id ops (Q .normal) ρ n H)
 | .seq a b=>aY P G a (ain (aY P G b) Q) ρ n H
 | .cond c t e=>(match oW ρ c with
  | .v (.bool b)=>Ku b (aY P G t Q ρ n H) (aY P G e Q ρ n H)
  | _=>False)
 | .block id body=>aY P G body (abh id Q) ρ n H
 | .loop body=>Ol G body (aY P G body) Q ρ n H
 | .exit id=>Q (.exit id) ρ n H
 | .ret=>Q .ret ρ n H
 | .rangeFunc g ps assign body=>Yg P G (oW ρ g) ps (aY P G assign) (aY P G body) Q ρ n H
 | _=>False
def qo (rf:Bool)(N:Nat)(W:Nat->Bool):Code->Bool
 | .region _ ops _=>ops.toList.all fun o=>qU N W o&&wV o&&qQ o
 | .seq a b=>qo rf N W a&&qo rf N W b
 | .cond _ a b=>qo rf N W a&&qo rf N W b
 | .block _ b=>qo rf N W b
 | .loop b=>qo rf N W b
 | .skip | .exit _ | .ret=>true
 | .rangeFunc _ ps a b=>rf&&ps.toList.all (Nat.blt · N)&&qo false N (fun _=>true) a&&qo false N (fun _=>true) b
 | _=>false
theorem EH {rf:Bool}{N:Nat}{W ws:Nat->Bool} : ∀c:Code,qo rf N W c=true->writesIn ws c=true->qo rf N (fun k=>W k&&ws k) c=true:=by
 intro c
 induction c with
 | region id ops d=>
  intro h1 h2
  simp only [qo,writesIn,bP,ak]at *
  intro o ho
  obtain⟨⟨a1,a3⟩,a4⟩:=h1 o ho
  have a2:=h2 o ho
  refine⟨⟨?_,a3⟩,a4⟩
  unfold qU at *
  unfold aaX at a2
  cases hd:o.dst with
  | none=>rfl
  | some d=>simp only [hd,ak]at a1 a2 ⊢;exact⟨a1.1,a1.2,a2⟩
 | seq a b iha ihb=>intro h1 h2;simp only [qo,writesIn,ak]at *;exact⟨iha h1.1 h2.1,ihb h1.2 h2.2⟩
 | cond c a b iha ihb=>intro h1 h2;simp only [qo,writesIn,ak]at *;exact⟨iha h1.1 h2.1,ihb h1.2 h2.2⟩
 | block id b ih=>intro h1 h2;simp only [qo,writesIn]at *;exact ih h1 h2
 | loop b ih=>intro h1 h2;simp only [qo,writesIn]at *;exact ih h1 h2
 | skip=>intro _ _;rfl
 | exit id=>intro _ _;rfl
 | ret=>intro _ _;rfl
 | rangeFunc g ps a b _ _=>intro h1 _;exact h1
 | scope b _=>intro h1 _;simp [qo]at h1
 | label l=>intro h1 _;simp [qo]at h1
 | _=>intro h1 h2;simp [writesIn]at h2
structure AtY (G:Glob)(lT:World)(lY lZ:Nat->Prop)(N:Nat)(Lp:List Nat->Prop)(W:Nat->Bool)(lS:mG)(nb:Nat)(qI:Nat->Loc)(Fb:Nat->Prop)(wb:World)(K:lV->Nat->lI->Prop)(a:Act)(w:World):Prop where
 ex : ∃L ρ nZ n σ F H,Lp L∧Fits N (L.map mark) ρ a∧Same W lS ρ∧St G lT lY lZ n σ F H w∧Ext nb qI Fb wb n σ F w∧rC n σ F w nZ ρ∧MK G lT L σ F H w∧K nZ n H
def AQY (G:Glob)(lT:World)(lY lZ:Nat->Prop)(N:Nat)(Lp:List Nat->Prop)(W:Nat->Bool)(lS:mG)(nb:Nat)(qI:Nat->Loc)(Fb:Nat->Prop)(wb:World)(Q:Ex->lV->Nat->lI->Prop):Exit->Act->World->Prop
 | .normal,a,w=>AtY G lT lY lZ N Lp W lS nb qI Fb wb (Q .normal) a w
 | .exit id,a,w=>AtY G lT lY lZ N Lp W lS nb qI Fb wb (Q (.exit id)) a w
 | .ret,a,w=>AtY G lT lY lZ N Lp W lS nb qI Fb wb (Q .ret) a w
 | _,_,_=>False
theorem yH {F:Fence}{n:Nat}{P:Program}{c:Code}{Q:Exit->Act->World->Prop}{a:Act}{w:World}(I:Nat->Act->World->Prop)(m:Nat)(Nj:I m a w)
  (round : ∀m a w,I m a w->c.wpIn F n P (Exit.then (fun a' w'=> ∃m',m'<m∧I m' a' w') Q) a w):(Code.loop c).wpIn F n P Q a w:=by
 intro b k cs hro hb hr
 have key : ∀m a w,I m a w->∃e a' w',Q e a' w'∧ArrivesIn (Machine.fenced P F) P (lone (b.atR a (.code c:: .inLoop c::k)) cs w) b k cs e a' w':=by
  intro m
  induction m using Nat.strongRecOn with
  | _ m ih=>
   intro a w hI
   obtain⟨e,Bv,yX,hq,harr⟩:=round m a w hI b (.inLoop c::k) cs hro hb hr
   cases e with
   | normal=>
    obtain⟨m',hlt,hI₁⟩:=hq
    obtain⟨ahH,ahI,Fq,hq₂,harr₂⟩:=ih m' hlt Bv yX hI₁
    exact⟨ahH,ahI,Fq,hq₂, .of_steps (StepsIn.trans harr (.one (fenced_calm hb hr rfl) stepR_inLoop)) harr₂⟩
   | exit id=>exact⟨_,Bv,yX,hq, .pass (x:= .inLoop c) rfl (fun _ _=> .inl abb) harr⟩
   | goto l=>exact⟨_,Bv,yX,hq, .pass (x:= .inLoop c) rfl (fun _ _=> .inl abb) harr⟩
   | ret=>exact⟨_,Bv,yX,hq, .pass (x:= .inLoop c) rfl (fun _ _=> .inl abb) harr⟩
   | panic ch=>exact⟨_,Bv,yX,hq, .pass (x:= .inLoop c) rfl (fun _ _=> .inl abb) harr⟩
   | outgrown=>exact⟨_,Bv,yX,hq, .pass (x:= .inLoop c) rfl (fun _ _=> .inl abb) harr⟩
 obtain⟨e,a',w',hq,harr⟩:=key m a w Nj
 exact⟨e,a',w',hq, .of_steps (.one (fenced_calm hb hr rfl) stepR_loop) harr⟩
section
variable {P:Program}{G:Glob}{N:Nat}
theorem Fits.H6 {n:Nat}{σ:Nat->Loc}{F:Nat->Prop}{w:World} : ∀(ps:List Tmp) (x:List AV) (vs:List Value) (nZ:lV) (ρ:mG) (t:Array Value),(∀p∈ps,p<N)->x.length=ps.length->mZ n σ F w x vs->Fits N [] ρ {tmps:=t,defers:= []} ->rC n σ F w nZ ρ->
  ∃ρ',Fits N [] ρ' {tmps:=(ps.zip vs).foldl (fun t (p,v)=>t.setIfInBounds p v) t,defers:= []} ∧rC n σ F w (Ax.H6 nZ ps x) ρ':=by
 intro ps
 induction ps with
 | nil=>intro x vs nZ ρ t _ _ _ hf hr;exact⟨ρ,hf,by cases x<;>exact hr⟩
 | cons p ps ih=>
  intro x vs nZ ρ t hp hl r hf hr
  cases x with
  | nil=>simp at hl
  | cons a x=>
   cases vs with
   | nil=>exact r.elim
   | cons v vs=>
    have h1:=hf.put (some p) v (fun t e=>by cases e;exact hp p dw)
    have h2:=qH (d:=some p) hr (Ext.refl _ _ _ _) r.1
    exact ih x vs (um nZ p a) (upd ρ p v) (t.setIfInBounds p v) (fun q hq=>hp q (dU _ hq)) ahV r.2 h1 h2
end
section
variable {P:Program}{G:Glob}{lT:World}{lY lZ:Nat->Prop}{N:Nat}{ds:List Deferred}{W:Nat->Bool}{ops:Array Oper}{lS:mG}
variable {nb:Nat}{qI:Nat->Loc}{Fb:Nat->Prop}{wb:World}
theorem zk.LZ {r:Option Nat}{id:Nat}{K:lV->Nat->lI->Prop}{nZ:lV}{n:Nat}{σ:Nat->Loc}{F:Nat->Prop}{H:lI}{ρ:mG}{a:Act}{w:World}(hm:P.follows .mixedOrders=true)(hok : ∀o∈ops.toList,qU N W o=true∧wV o=true)(hnd : ∀(i:Nat) (o:Oper),ops[i]? = some o->qQ o=true)
  (hf:Fits N ds ρ a) (hs:Same W lS ρ) (st:St G lT lY lZ n σ F H w) (x:Ext nb qI Fb wb n σ F w) (hr:rC n σ F w nZ ρ) (h:zk P G id ops K nZ n H) :
  (Code.region id ops true).wpIn (EU r) 0 P (RA (Lu G lT lY lZ N ds W lS nb qI Fb wb K)) a w:=by
 have e:=G5 n σ F w
 rcases h.ex with ⟨p,D,hd,hv⟩|⟨p,D,ws,ρ',n',H',hd,hws,hle,hun,hv,hk⟩|⟨T,ts,ns,p,e',D,ws,A,hd,hws,hle,hun,h0,hstep,hE⟩
 ·simp only [uV,vK,ak]at hd
  obtain⟨⟨⟨hsel,DK⟩,hp⟩,hpo⟩:=hd
  exact wpIn_region_any hm (CP (fun⟨_,_,h⟩=>h) hnd _ _ _ _ (sK _ _ _ _ _ _ (zn hsel hok p D (takes p) _ nZ n σ F H ρ a w.drew hp hpo (fun j o _ hl=>by rw [vM]at hl;cases hl) hf hs st.drew (x.trans e) (fun s=>(hr s).mono e) hv ops.size (aF DK))))
 ·simp only [uV,vK,ak]at hd
  obtain⟨⟨⟨hsel,DK⟩,hp⟩,hpo⟩:=hd
  have hok2 : ∀o∈ops.toList,qU N (fun k=>W k&&ws k) o=true∧wV o=true:=fun o ho=>by
   refine⟨?_,(hok o ho).2⟩
   have h1:=(hok o ho).1
   have h2:=bP.1 hws o ho
   unfold qU at h1 ⊢
   cases hd:o.dst with
   | none=>rfl
   | some d=>
    rw [hd]at h1 h2
    simp only [ak]at h1 ⊢
    exact⟨h1.1,h1.2,h2⟩
  have hr':rC n σ F w.drew nZ ρ:=fun s=>(hr s).mono e
  refine Go.wpIn_mono (wpIn_region_any hm (CP (fun⟨_,_,h⟩=>h) hnd _ _ _ _ (sK _ _ _ _ _ _ (zn (W:=fun k=>W k&&ws k) (lS:=ρ) (nb:=n) (qI:=σ) (Fb:=F) (wb:=w.drew) hsel hok2 p D (takes p) _ nZ n σ F H ρ a w.drew hp hpo (fun j o _ hl=>by rw [vM]at hl;cases hl) hf (Same.refl _ _) st.drew (Ext.refl _ _ _ _) hr' hv ops.size (aF DK))))) fun ex a' w' hq=> ?_
  cases ex with
  | normal=>
   obtain⟨Oj,ae3,Tn,Dv,LC,qL,XE,hs₁,XF,Nk,XG,XH⟩:=hq
   obtain⟨σ',F',s',r',l',f'⟩:=XH.holds lT lY lZ Dv LC w' Oj XF fun s _=>XG s
   have x':Ext n σ F w.drew n' σ' F' w':=⟨hle,fun l hl=>(l' l hl).trans (Nk.s l hl),fun b hb=>⟨f' b (Nk.f b hb).1,(Nk.f b hb).2⟩,Nk.sz⟩
   refine⟨Oj,ρ',n',σ',F',H',XE,hs.trans fun k hk=>hs₁ k ahT,s',(x.trans e).trans x',fun s=> ?_,hk⟩
   cases Rt:ws s with
   | true=>exact r' s Rt
   | false=>
    rw [hun s Rt,hs₁ s (by simp [Rt])]
    exact(hr' s).mono x'
  | exit id=>exact hq.elim
  | ret=>exact hq.elim
  | goto l=>exact hq.elim
  | panic ch=>exact hq.elim
  | outgrown=>exact hq.elim
 ·exact wpIn_region_any hm (CP (fun⟨_,_,h⟩=>h) hnd _ _ _ _ (TK hok hf hs st x hr hd hws hle hun h0 hstep hE))
end
section
variable {P:Program}{G:Glob}{N:Nat}
theorem Yh (hm:P.follows .mixedOrders=true) : ∀(c:Code) (rf:Bool) (r:Option Nat) (Lp:List Nat->Prop) (W:Nat->Bool) (Q:Ex->lV->Nat->lI->Prop) (nZ:lV) (n:Nat) (H:lI) (ρ lS:mG) (a:Act) (w:World) (σ:Nat->Loc) (F:Nat->Prop) (nb:Nat) (qI:Nat->Loc) (Fb:Nat->Prop) (wb:World) (L:List Nat) (lT:World) (lY lZ:Nat->Prop),
  (rf=true->r=none∧∀D L,Lp L->Lp (D::L))->qo rf N W c=true->Lp L->Fits N (L.map mark) ρ a->Same W lS ρ->St G lT lY lZ n σ F H w->Ext nb qI Fb wb n σ F w->rC n σ F w nZ ρ->MK G lT L σ F H w->aY P G c Q nZ n H->c.wpIn (EU r) 0 P (AQY G lT lY lZ N Lp W lS nb qI Fb wb Q) a w:=by
 intro c
 induction c with
 | skip=>intro rf r Lp W Q nZ n H ρ lS a w σ F nb qI Fb wb L lT lY lZ _ _ hlp hf hs st x hr mk h;exact wpIn_skip ⟨L,ρ,nZ,n,σ,F,H,hlp,hf,hs,st,x,hr,mk,h⟩
 | region id ops draw=>
  intro rf r Lp W Q nZ n H ρ lS a w σ F nb qI Fb wb L lT lY lZ _ hc hlp hf hs st x hr mk h
  have hok0 : ∀o∈ops.toList,(qU N W o=true∧wV o=true)∧qQ o=true:=by simpa only [qo,bP,ak]using hc
  have hok:=fun o ho=>(hok0 o ho).1
  have hnd : ∀(i:Nat) (o:Oper),ops[i]? = some o->qQ o=true:=fun i o ho=>(hok0 o (by rw [<-bF]at ho;exact aU ho)).2
  have mono : ∀e a' w',RA (Lu G w (uJ w σ H) F N (L.map mark) W lS n σ F w (Q .normal)) e a' w'->AQY G lT lY lZ N Lp W lS nb qI Fb wb Q e a' w':=fun e a' w' hq=>by
   cases e with
   | normal=>
    obtain⟨ρ',oL,n',σ',F',H',hf',hs',st',x',hr',hk⟩:=hq
    exact⟨L,ρ',oL,n',σ',F',H',hlp,hf',hs',st.back st',x.trans x',hr',mk.step st',hk⟩
   | exit id=>exact hq.elim
   | goto l=>exact hq.elim
   | ret=>exact hq.elim
   | panic ch=>exact hq.elim
   | outgrown=>exact hq.elim
  cases draw with
  | false=>
   refine Go.wpIn_mono (wpIn_region (Yf (fun⟨_,_,h⟩=>h) _ (fun i _ o ho=>hnd i o ho) _ _ ?_)) mono
   have hlen:ops.toList.length=ops.size:=abb
   rw [jh, <-hlen]
   exact GV (K:=Q .normal) (Q:=RA (Lu G w (uJ w σ H) F N (L.map mark) W lS n σ F w (Q .normal))) (fun a' w' h=>h) ops.toList 0 nZ n σ F H ρ a w (fun j=>by rw [aO]) hok hf hs st.start (Ext.refl _ _ _ _) hr h
  | true=>exact Go.wpIn_mono (zk.LZ hm hok hnd hf hs st.start (Ext.refl _ _ _ _) hr h) mono
 | seq c1 c2 ih1 ih2=>
  intro rf r Lp W Q nZ n H ρ lS a w σ F nb qI Fb wb L lT lY lZ hrf hc hlp hf hs st x hr mk h
  simp only [qo,ak]at hc
  refine wpIn_seq (Go.wpIn_mono (ih1 rf r Lp W _ nZ n H ρ lS a w σ F nb qI Fb wb L lT lY lZ hrf hc.1 hlp hf hs st x hr mk h) fun e a' w' hq=> ?_)
  cases e with
  | normal=>
   obtain⟨L',ρ',oL,n',σ',F',H',Jf,hf',hs',st',x',hr',mk',hv⟩:=hq
   exact ih2 rf r Lp W Q oL n' H' ρ' lS a' w' σ' F' nb qI Fb wb L' lT lY lZ hrf hc.2 Jf hf' hs' st' x' hr' mk' hv
  | exit id=>exact hq
  | ret=>exact hq
  | goto l=>exact hq
  | panic ch=>exact hq
  | outgrown=>exact hq
 | cond c c1 c2 ih1 ih2=>
  intro rf r Lp W Q nZ n H ρ lS a w σ F nb qI Fb wb L lT lY lZ hrf hc hlp hf hs st x hr mk h
  simp only [qo,ak]at hc
  simp only [aY]at h
  split at h
  ·rename_i b hb
   have rc:=ni hr c
   rw [hb]at rc
   refine wpIn_cond (t:=b) (by rw [hf.eval];exact rc.nY) ?_
   cases b with
   | true=>exact ih1 rf r Lp W Q nZ n H ρ lS a w σ F nb qI Fb wb L lT lY lZ hrf hc.1 hlp hf hs st x hr mk h
   | false=>exact ih2 rf r Lp W Q nZ n H ρ lS a w σ F nb qI Fb wb L lT lY lZ hrf hc.2 hlp hf hs st x hr mk h
  ·cases h
 | block id b ih=>
  intro rf r Lp W Q nZ n H ρ lS a w σ F nb qI Fb wb L lT lY lZ hrf hc hlp hf hs st x hr mk h
  refine wpIn_block (Go.wpIn_mono (ih rf r Lp W _ nZ n H ρ lS a w σ F nb qI Fb wb L lT lY lZ hrf hc hlp hf hs st x hr mk h) fun e a' w' hq=> ?_)
  cases e with
  | normal=>exact hq
  | exit j=>
   obtain⟨L',ρ',oL,n',σ',F',H',Jf,hf',hs',st',x',hr',mk',hv⟩:=hq
   simp only [abh]at hv
   simp only [Exit.inBlock]
   by_cases hj:j=id
   ·subst hj
    rw [iI,cond_true]at hv
    simp only [if_true]
    exact⟨L',ρ',oL,n',σ',F',H',Jf,hf',hs',st',x',hr',mk',hv⟩
   ·have hb:Nat.beq j id=false:=by
     cases hb:Nat.beq j id with
     | false=>rfl
     | true=>exact absurd (aA hb) hj
    rw [hb,cond_false]at hv
    rw [if_neg hj]
    exact⟨L',ρ',oL,n',σ',F',H',Jf,hf',hs',st',x',hr',mk',hv⟩
  | ret=>exact hq
  | goto l=>exact hq
  | panic ch=>exact hq
  | outgrown=>exact hq
 | loop b ih=>
  intro rf r Lp W Q nZ n H ρ lS a w σ F nb qI Fb wb L lT lY lZ hrf hc hlp hf hs st x hr mk0 h
  rcases h.ex with ⟨k,hk⟩|⟨ws,I,nl,hw,hle,ae4,⟨m0,ρ0,H0,hI0,Om⟩,Ru⟩
  ·refine yH (fun m a' w'=>AQY G lT lY lZ N Lp W lS nb qI Fb wb (fun _=>XI (aY P G b) Q m) .normal a' w') k ⟨L,ρ,nZ,n,σ,F,H,hlp,hf,hs,st,x,hr,mk0,hk⟩ fun m a' w' ⟨L',ρ',oL,n',σ',F',H',Jf,hf',hs',st',x',hr',mk',hv⟩=> ?_
   cases m with
   | zero=>exact hv.elim
   | succ m=>
    refine Go.wpIn_mono (ih rf r Lp W _ oL n' H' ρ' lS a' w' σ' F' nb qI Fb wb L' lT lY lZ hrf hc Jf hf' hs' st' x' hr' mk' hv) fun e a'' w'' hq=> ?_
    cases e with
    | normal=>exact⟨m,jm m,hq⟩
    | exit id=>exact hq
    | ret=>exact hq
    | goto l=>exact hq
    | panic ch=>exact hq
    | outgrown=>exact hq
  have hc':=EH b hc hw
  let J:Nat->Act->World->Prop:=fun m a' w'=> ∃L' ρ' oL σ' F' H',Lp L'∧Fits N (L'.map mark) ρ' a'∧Same (fun k=>W k&&ws k) ρ ρ'∧I m oL H'∧St G lT lY lZ nl σ' F' H' w'∧Ext n σ F w nl σ' F' w'∧rC nl σ' F' w' oL ρ'∧MK G lT L' σ' F' H' w'
  have mk : ∀m L' (ρ':mG) (oL pK:lV) n' (σ':Nat->Loc) (F':Nat->Prop) H' qL a' w',Lp L'->Fits N (L'.map mark) ρ' a'->Same (fun k=>W k&&ws k) ρ ρ'->St G lT lY lZ n' σ' F' H' w'->Ext n σ F w n' σ' F' w'->rC n' σ' F' w' oL ρ'->MK G lT L' σ' F' H' w'->
    I m pK qL->JE G ws n oL n' H' pK nl qL->J m a' w':=by
   intro m L' ρ' oL pK n' σ' F' H' qL a' w' Jf hf' hs' st' x' hr' mk' hI ae5
   obtain⟨Dv,LC,s1,r1,l1,f1⟩:=ae5 w' (uJ w' σ' H') F' σ' F' w' ρ' st'.start fun s _=>hr' s
   have x1:Ext n σ F w nl Dv LC w':=⟨hle,fun l hl=>(l1 l hl).trans (x'.s l hl),fun b hb=>⟨f1 b (x'.f b hb).1,(x'.f b hb).2⟩,x'.sz⟩
   refine⟨L',ρ',pK,Dv,LC,qL,Jf,hf',hs',hI,st'.back s1,x1,fun s=> ?_,mk'.step s1⟩
   cases hws:ws s with
   | true=>exact r1 s hws
   | false=>
    rw [ae4 m pK qL hI s hws,hs' s (by simp [hws])]
    exact(hr s).mono x1
  refine yH J m0 (mk m0 L ρ nZ ρ0 n σ F H H0 a w hlp hf (Same.refl _ _) st (Ext.refl _ _ _ _) hr mk0 hI0 Om) fun m a' w' ⟨L',ρ',oL,σ',F',H',Jf,hf',hs',hI,st',x',hr',mk'⟩=> ?_
  refine Go.wpIn_mono (ih rf r Lp (fun k=>W k&&ws k) _ oL nl H' ρ' ρ a' w' σ' F' n σ F w L' lT lY lZ hrf hc' Jf hf' hs' st' x' hr' mk' (Ru m oL H' hI)) fun e a'' w'' hq=> ?_
  have up : ∀ {pY},Same (fun k=>W k&&ws k) ρ pY->Same W lS pY:=fun h'=>hs.trans fun k hk=>h' k ahT
  cases e with
  | normal=>
   obtain⟨L'',pY,vX,n'',yR,Nl,rW,OH,vN,vO,G7,x'',G8,mk'',hv⟩:=hq
   obtain⟨m',hlt,pK,qL,hI₁,LH⟩:=hv.holds
   exact⟨m',hlt,mk m' L'' pY vX pK n'' yR Nl rW qL a'' w'' OH vN vO G7 x'' G8 mk'' hI₁ LH⟩
  | exit id=>obtain⟨L'',pY,vX,n'',yR,Nl,rW,OH,vN,vO,G7,x'',G8,mk'',hv⟩:=hq;exact⟨L'',pY,vX,n'',yR,Nl,rW,OH,vN,up vO,G7,x.trans x'',G8,mk'',hv⟩
  | ret=>obtain⟨L'',pY,vX,n'',yR,Nl,rW,OH,vN,vO,G7,x'',G8,mk'',hv⟩:=hq;exact⟨L'',pY,vX,n'',yR,Nl,rW,OH,vN,up vO,G7,x.trans x'',G8,mk'',hv⟩
  | goto l=>exact hq
  | panic ch=>exact hq
  | outgrown=>exact hq
 | exit id=>intro rf r Lp W Q nZ n H ρ lS a w σ F nb qI Fb wb L lT lY lZ _ _ hlp hf hs st x hr mk h;exact Go.wpIn_exit ⟨L,ρ,nZ,n,σ,F,H,hlp,hf,hs,st,x,hr,mk,h⟩
 | ret=>intro rf r Lp W Q nZ n H ρ lS a w σ F nb qI Fb wb L lT lY lZ _ _ hlp hf hs st x hr mk h;exact Go.wpIn_ret ⟨L,ρ,nZ,n,σ,F,H,hlp,hf,hs,st,x,hr,mk,h⟩
 | rangeFunc g ps assign body iha ihb=>
  intro rf r Lp W Q nZ n H ρ lS a w σ F nb qI Fb wb L lT lY lZ hrf hc hlp hf hs st x hr mk h
  obtain⟨gf,caps,xs,nl,Hs,hgv,akR,hit,hle,hxl,Om,hbody,hdone⟩:=h.ex
  simp only [qo,ak,bP]at hc
  obtain⟨⟨⟨akS,hps⟩,hca⟩,hcb⟩:=hc
  have akT : ∀p∈ps.toList,p<N:=fun p hp=>aF (hps p hp)
  obtain⟨rfl,hLp⟩:=hrf akS
  have rg:=ni hr g
  rw [hgv]at rg
  obtain⟨vs,aiO,aiP⟩ : ∃vs:List Value,qC ρ g = .func (.func gf) #[] vs.toArray∧mZ n σ F w caps vs:=by
   generalize qC ρ g=v at rg
   cases rg with
   | fn _ _ _ us vs hx hy rx ry=>
    have hu:us = []:=aK hx
    subst hu
    exact⟨vs,rfl, .of hy ry⟩
  refine wpIn_rangeFunc fun fn _=> ?_
  obtain⟨rec,hrec⟩ : ∃rec:LoopState->Option Code->Loop,rec=fun st pe=> {state:=st,pending:=pe,fn,tmps:=a.tmps,params:=ps,assign,body,defers:=w.heap.size}:=⟨_,rfl⟩
  obtain⟨W1,hW1⟩ : ∃W1,(w.alloc (.deferred (some []))).alloc (.loop (rec .ready none))=W1:=⟨_,rfl⟩
  have hL1:W1.heap[w.heap.size+1]? = some (.loop (rec .ready none)):=by
   rw [<-hW1];have:=World.alloc_heap_new (w.alloc (.deferred (some []))) (.loop (rec .ready none));rwa [World.size_alloc]at this
  have hD1:W1.heap[w.heap.size]? = some (.deferred (some [])):=by
   rw [<-hW1];exact(Below.heap_alloc _ _ _ abb).trans (World.alloc_heap_new w _)
  have hB1:Below w.heap.size w W1:=by
   rw [<-hW1];exact(((Below.refl _ w).alloc (au _) _).alloc abb _)
  have hsz1:W1.heap.size=w.heap.size+2:=by rw [<-hW1];simp
  have off1 : ∀k,w.heap.size<=k->k<w.heap.size+2->Off G w σ F H W1 k:=fun k h1 h2=>
   ⟨h1,bG st.glob.1 h1,by omega,fun hf=>by have:=(st.oG k hf).1;omega,fun⟨mD,blk,e1,e2,e3⟩=>by have:=(st.mu mD blk k e1 e2 (e3.back fun y hy=>hB1.block y (st.mu _ _ y e1 e2 (.inl hy)).2.2.1)).2.2.1;omega⟩
  have hev:a.eval g = .func (.func gf) #[] vs.toArray:=by rw [hf.eval];exact aiO
  let J:Nat->World->Prop:=fun i W'=> ∃σ' F',St G w (uJ w σ H) F nl σ' F' (Hs i) W'∧Ext n σ F w nl σ' F' W'∧(Off G w σ' F' (Hs i) W' (w.heap.size+1)∧W'.heap[w.heap.size+1]? = some (.loop (rec .ready none)))∧Off G w σ' F' (Hs i) W' w.heap.size∧W'.heap[w.heap.size]? = some (.deferred (some []))
  have st1:St G w (uJ w σ H) F n σ F H W1:=st.start.grow hB1
  have x1:Ext n σ F w n σ F W1:=HY st hB1
  have hJ0:J 0 W1:=by
   obtain⟨σ1,F1,s1,_,l1,f1⟩:=Om W1 (uJ W1 σ H) F σ F W1 ρ st1.start fun s hs=>by cases hs
   have o1:=(off1 (w.heap.size+1) aai aai).step s1
   have o2:=(off1 w.heap.size aai aai).step s1
   exact⟨σ1,F1,st1.back s1,x1.trans ⟨hle,l1,fun b hb=>⟨f1 b hb,rfl⟩,au _⟩,⟨o1.1,hL1⟩,o2.1,hD1⟩
  have hcall:=hit n σ F vs W1 (w.heap.size+1) J st1.glob (fun b hb=>(st1.oG b hb).1) (aiP.mono x1)
   (fun i W' W'' ⟨σ',F',s',x',⟨o1,h1⟩,o2,h2⟩ hB=>⟨σ',F',s'.grow hB,x'.trans (HY s' hB),⟨o1.grow s' hB,(hB.block _ o1.lt).trans h1⟩,o2.grow s' hB,(hB.block _ o2.lt).trans h2⟩)
   (fun i W' ⟨σ',F',s',x',⟨o1,h1⟩,o2,h2⟩=>⟨by have:=o1.lt;omega,s'.glob,fun b hb=>(x'.f b hb).2.trans (x1.f b hb).2.symm⟩)
   (fun i y W' args hy ⟨σ',F',s',x',⟨o1,h1⟩,o2,h2⟩ ra=>by
    have hyl:y.length=ps.size:=hxl y (aU hy)
    have hal:=ra.len
    have hrun:=run_yield (P:=P) (args:=args.toArray) h1 (by rw [hrec];simp only [List.size_toArray];omega)
    rw [hrec]at hrun
    refine⟨fn,_,assign,body,hrun,roundIn_of_wpIn trivial ?_⟩
    have eF:(ps.zip args.toArray).foldl (fun tmps (x:Tmp×Value)=>tmps.setIfInBounds x.1 x.2) a.tmps=(ps.toList.zip args).foldl (fun tmps (x:Tmp×Value)=>tmps.setIfInBounds x.1 x.2) a.tmps:=by
     rw [<-Array.foldl_toList,Array.toList_zip]
    have x0:Ext n σ F W' nl σ' F' W':=⟨hle,x'.s,fun b hb=>⟨(x'.f b hb).1,rfl⟩,au _⟩
    obtain⟨ρr,hfr,hrr⟩:=Fits.H6 (N:=N) ps.toList y args nZ ρ a.tmps akT (by rw [hyl];simp) (ra.mono x0) ⟨hf.size,hf.get,rfl⟩ fun s=>(hr s).mono x'
    have e2:({tmps:=(ps.toList.zip args).foldl (fun tmps (x:Tmp×Value)=>tmps.setIfInBounds x.1 x.2) a.tmps,defers:= []} : Act) = {tmps:=(ps.zip args.toArray).foldl (fun tmps (x:Tmp×Value)=>tmps.setIfInBounds x.1 x.2) a.tmps,defers:= []}:=by rw [eF]
    rw [e2]at hfr
    refine Go.wpIn_mono (iha false (some (w.heap.size+1)) (fun L=>L = []) (fun _=>true) _ (H6 nZ ps.toList y) nl (Hs i) ρr ρr _ W' σ' F' nl σ' F' W' [] W' (uJ W' σ' (Hs i)) F' (fun e=>by cases e) hca rfl hfr (Same.refl _ _) s'.start (Ext.refl _ _ _ _) hrr MK.nil (hbody i y hy)) fun e Bv yX hq=> ?_
    cases e with
    | normal=>
     obtain⟨L1,ρ1,agc,n1,σ1,F1,H1,rfl,hf1,_,t1,y1,hr1,_,hv⟩:=hq
     have q1:=o1.step t1
     have q2:=o2.step t1
     have g1:=q1.2.trans h1
     have g2:=q2.2.trans h2
     refine⟨_,run_beginRound g1 (by rw [hrec]), ?_⟩
     obtain⟨Fq,Ue⟩ : ∃Fq,yX.putObj (w.heap.size+1) (.loop {rec .ready none with state:= .busy})=Fq:=⟨_,rfl⟩
     rw [Ue]
     have u1:=s'.back t1
     have u2:=u1.put q1.1 (.loop {rec .ready none with state:= .busy})
     have x2:=CS (n:=n1) (σ:=σ1) (w:=yX) (.loop {rec .ready none with state:= .busy}) q1.1.nf
     have p1:=q1.1.put q1.1 (.loop {rec .ready none with state:= .busy})
     have p2:=q2.1.put q1.1 (.loop {rec .ready none with state:= .busy})
     have k1:Fq.heap[w.heap.size+1]? = some (.loop {rec .ready none with state:= .busy}):=by rw [<-Ue];exact World.putObj_heap_same q1.1.lt
     have k2:Fq.heap[w.heap.size]? = some (.deferred (some [])):=by rw [<-Ue,World.putObj_heap_other aai];exact g2
     rw [Ue]at u2 x2 p1 p2
     refine Go.wpIn_mono (ihb false (some (w.heap.size+1)) (fun L=>L = []) (fun _=>true) _ agc n1 H1 ρ1 ρ1 Bv Fq σ1 F1 n1 σ1 F1 Fq [] Fq (uJ Fq σ1 H1) F1 (fun e=>by cases e) hcb rfl hf1 (Same.refl _ _) u2.start (Ext.refl _ _ _ _) (fun s=>(hr1 s).mono x2) MK.nil hv) fun e ana WA hq3=> ?_
     cases e with
     | normal=>
      obtain⟨L3,ρ3,aiQ,n3,σ3,F3,H3,rfl,hf3,_,t3,y3,hr3,_,hv3⟩:=hq3
      have v1:=p1.step t3
      have v2:=p2.step t3
      have m1:=v1.2.trans k1
      have m2:=v2.2.trans k2
      obtain⟨σ4,F4,s4,_,l4,f4⟩:=hv3.holds WA (uJ WA σ3 H3) F3 σ3 F3 WA ρ3 (u2.back t3).start fun s hs=>by cases hs
      have z1:=v1.1.step s4
      have z2:=v2.1.step s4
      have sz:St G w (uJ w σ H) F nl σ4 F4 (Hs (i+1)) WA:=(u2.back t3).back s4
      have hend:=run_endRound (P:=P) none m1
      refine⟨_,_,hend,rfl,σ4,F4,sz.put z1.1 _, ?_,⟨z1.1.put z1.1 _, ?_⟩,z2.1.put z1.1 _, ?_⟩
      ·have xA:Ext n σ F w n3 σ3 F3 WA:=(x'.trans y1).trans (x2.trans y3)
       have xB:Ext n σ F w nl σ4 F4 WA:=⟨hle,fun l hl=>(l4 l hl).trans (xA.s l hl),fun b hb=>⟨f4 b (xA.f b hb).1,(xA.f b hb).2⟩,xA.sz⟩
       exact xB.trans (CS _ z1.1.nf)
      ·rw [World.putObj_heap_same z1.1.lt]
       simp only [hrec,Option.isNone_none,if_true]
      ·rw [World.putObj_heap_other aai];exact m2
     | exit id=>obtain⟨L3,ρ3,aiQ,n3,σ3,F3,H3,_,_,_,_,_,_,_,hv3⟩:=hq3;exact hv3.elim
     | ret=>obtain⟨L3,ρ3,aiQ,n3,σ3,F3,H3,_,_,_,_,_,_,_,hv3⟩:=hq3;exact hv3.elim
     | goto l=>exact hq3.elim
     | panic ch=>exact hq3.elim
     | outgrown=>exact hq3.elim
    | exit id=>obtain⟨L1,ρ1,agc,n1,σ1,F1,H1,_,_,_,_,_,_,_,hv⟩:=hq;exact hv.elim
    | ret=>obtain⟨L1,ρ1,agc,n1,σ1,F1,H1,_,_,_,_,_,_,_,hv⟩:=hq;exact hv.elim
    | goto l=>exact hq.elim
    | panic ch=>exact hq.elim
    | outgrown=>exact hq.elim) hJ0
  refine⟨w.heap.size+1,[mark w.heap.size],W1,{target:= .fn (.func gf) vs.toArray,args:= #[.func (.yield (w.heap.size+1)) #[] #[]]},W1,gf, #[.func (.yield (w.heap.size+1)) #[] #[]]++vs.toArray,W1, ?_, ?_,fun _ _=>trivial, ?_,fun h=>ajW, ?_⟩
  ·rw [<-hW1,hrec];exact run_enterLoop_outer _ _ _ _ _
  ·simp only [resolve,hev]
   simp [go_sem]
  ·simp only [invoke]
   exact BH akR
  refine hcall.mono ?_
  rintro e W' ⟨⟨v,rfl⟩,σ',F',s',x',⟨o1,h1⟩,o2,h2⟩
  refine⟨none,W'.putObj (w.heap.size+1) (.loop {rec .ready none with state:= .exhausted}), ?_, ?_⟩
  ·have:=run_endLoop (P:=P) h1 (by rw [hrec];simp)
   rw [this,hrec]
  ·have xp:=CS (n:=nl) (σ:=σ') (w:=W') (.loop {rec .ready none with state:= .exhausted}) o1.nf
   have sp:=s'.put o1 (.loop {rec .ready none with state:= .exhausted})
   refine⟨w.heap.size::L,ρ,nZ,nl,σ',F',Hs xs.length,hLp _ _ hlp,⟨hf.size,hf.get, ?_⟩,hs,st.back sp,(x.trans x').trans xp,fun s=>(hr s).mono (x'.trans xp), ?_,hdone⟩
   ·show [mark w.heap.size]++a.defers=_
    rw [hf.defers];rfl
   ·have mk2:=(mk.step s')
    have hw0:=st.qF.size
    refine⟨List.nodup_cons.2 ⟨fun hm=> ?_,mk.nodup⟩,fun D hD=> ?_,fun D hD=> ?_⟩
    ·have:=(mk.off _ hm).lt;omega
    ·rcases bI.1 hD with rfl|hD
     ·exact(Off.mk aai o2.nb o2.lt o2.nf o2.nm:Off G lT σ' F' (Hs xs.length) W' w.heap.size).put o1 _
     ·exact(mk2.off D hD).put o1 _
    ·rcases bI.1 hD with rfl|hD
     ·rw [World.putObj_heap_other aai];exact h2
     ·have:=(mk.off D hD).lt
      rw [World.putObj_heap_other aai];exact mk2.obj D hD
 | _=>intro rf r Lp W Q nZ n H ρ lS a w σ F nb qI Fb wb L lT lY lZ _ hc;simp [qo]at hc
end
section
variable {P:Program}{G:Glob}{n:Nat}{H:lI}
theorem yI {f:FuncId}{fn:Func}{c:Code}{args:List AV}{R:AV->Nat->lI->Prop}(hf:P.funcs[f]? = some fn)(hb:fn.body=some c)(hm:P.follows .mixedOrders=true)
  (hok:(Nat.ble args.length fn.ntmps&&qo true fn.ntmps (fun _=>true) c)=true) (h:aY P G c (ae6 P G n fn R) (yF args) n H):mP P G f args n H R:=by
 intro w σ F vs st r
 simp only [ak]at hok
 have hN:=aF hok.1
 have hl:=r.len
 refine(callsIn_wide (n:=0)).1 (callsIn_of_wp_marks hf hb trivial ?_)
 have hfit:Fits fn.ntmps ([].map mark) (sH vs.toArray) {tmps:=vs.toArray++Array.replicate (fn.ntmps-vs.toArray.size) undef,defers:= []}:=by
  refine⟨by simp;omega,fun t=> ?_,rfl⟩
  simp only [sH,BJ]
  rw [gB,aT,jc]
  by_cases ht:t<vs.toArray.size
  ·simp only [if_pos ht,kX]
  ·simp only [ht,if_false]
   have ht':vs.length<=t:=by simpa using ht
   rw [dN ht']
   rw [kK]
   split<;>rfl
 refine Go.wpIn_mono (Yh hm c true none (fun _=>True) (fun _=>true) _ (yF args) n H _ (sH vs.toArray) _ w σ F n σ F w [] w (uJ w σ H) F (fun _=>⟨rfl,fun _ _ _=>trivial⟩) hok.2 trivial hfit (Same.refl _ _) st (Ext.refl _ _ _ _) (fun s=>by
  have:=Oo r s
  simpa [sH,yF]using this) MK.nil h) fun e a' w' hq=> ?_
 have res : ∀ {L':List Nat} {ρ':mG} {oL:lV} {n':Nat} {σ':Nat->Loc} {F':Nat->Prop} {H':lI},Fits fn.ntmps (L'.map mark) ρ' a'->St G w (uJ w σ H) F n' σ' F' H' w'->Ext n σ F w n' σ' F' w'->rC n' σ' F' w' oL ρ'->MK G w L' σ' F' H' w'->
   (LJ P fn.results.toList oL H' fun vs=>G9 G n R (XK vs) n' H')->
   LeavesInM (EU none) 0 P fn a'.tmps (fun e w'=> ∃v,e = .returned v∧∃a n' σ' F' H',R a n' H'∧St G w (uJ w σ H) F n' σ' F' H' w'∧Ext n σ F w n' σ' F' w'∧mM n' σ' F' w' a v) a'.defers .returning w':=by
  intro L' ρ' oL n' σ' F' H' hf' st' x' hr' mk' hv
  rw [hf'.defers]
  refine OG L' w' mk' st' fun w'' s2 x2=> ?_
  obtain⟨vs,hrun,hk⟩:=Gm hf'.get _ _ (He s2.hrep (fun s=>(hr' s).mono x2) _ _ (fun vs=> ∃a n' σ' F' H',R a n' H'∧St G w (uJ w σ H) F n' σ' F' H' w''∧Ext n σ F w n' σ' F' w''∧mM n' σ' F' w'' a (og vs)) hv fun ars vs he hl=>by
   obtain⟨a1,n1,H1,hR,hn,hco⟩:=he.ex
   obtain⟨σ1,F1,s1,r1,l1,f1⟩:=hco _ _ _ _ _ _ _ s2 (Oq hl)
   have x3:=x'.trans x2
   exact⟨a1,n1,σ1,F1,H1,hR,s1,⟨hn,fun l hl=>(l1 l hl).trans (x3.s l hl),fun b hb=>⟨f1 b (x3.f b hb).1,(x3.f b hb).2⟩,x3.sz⟩,r1⟩)
  refine⟨og vs, ?_,og vs,rfl,hk⟩
  rw [yw,Sem.run_bind,jo,Sem.run_map]
  rw [hrun]
  simp only [Result.andThen_ok,Sem.run_pure]
  congr 1
  match vs with
  | []=>rfl
  | [v]=>rfl
  | v::u::r=>simp [og]
 cases e with
 | normal=>obtain⟨L',ρ',oL,n',σ',F',H',_,hf',_,st',x',hr',mk',hv⟩:=hq;exact res hf' st' x' hr' mk' hv
 | ret=>obtain⟨L',ρ',oL,n',σ',F',H',_,hf',_,st',x',hr',mk',hv⟩:=hq;exact res hf' st' x' hr' mk' hv
 | exit id=>obtain⟨L',ρ',oL,n',σ',F',H',_,hf',_,st',x',hr',mk',hv⟩:=hq;exact hv.elim
 | goto l=>exact hq.elim
 | panic ch=>exact hq.elim
 | outgrown=>exact hq.elim
end
structure agd (P:Program)(l:Nat)(args:Array Value)(w:World)(K:Value->World->Prop):Prop where
 runs:YieldAt (EU none) 0 P l args w fun e w'=> ∃v,e = .returned v∧K v w'
def VK (P:Program)(o:Oper)(ρ:mG)(w:World)(K:Value->World->Prop):Prop:=
 match o.op with
 | .call c=>(match c.callee with
  | .value f=>(match qC ρ f with
   | .func (.yield l) first _=>agd P l (first.toList++c.args.toList.map (qC ρ)).toArray w K
   | _=>F9 P false o ρ w K)
  | _=>F9 P false o ρ w K)
 | _=>F9 P false o ρ w K
def L6 (P:Program)(all:List Oper)(o:Oper)(ρ:mG)(w:World)(K:mG->Value->World->Prop)(rP:mG->Prop):Prop:=
 match o.guard with
 | none=>VK P o ρ w fun v w'=>K ρ v w'
 | some (g,want)=>(match AA all g with
  | some s=>(match ρ s with
   | .bool t=>Ku t
     (bif want then VK P o (upd ρ s (.bool true)) w fun v w'=>K (upd ρ s (.bool true)) v w' else rP (upd ρ s (.bool true)))
     (bif want then rP (upd ρ s (.bool false))else VK P o (upd ρ s (.bool false)) w fun v w'=>K (upd ρ s (.bool false)) v w')
   | _=>rP ρ)
  | none=>rP ρ)
def OI (P:Program)(all:List Oper)(l:List Oper)(ρ:mG)(w:World)(K:mG->World->Prop):Prop:=
 match l with
 | []=>K ρ w
 | o::rest=>L6 P all o ρ w (fun ρ' v w'=>OI P all rest (oN ρ' o.dst v) w' K) fun ρ'=>OI P all rest (oN ρ' o.dst undef) w K
section
variable {P:Program}
theorem acA {o:Oper}{ρ:mG}{a:Act}{w:World}{K:Value->World->Prop}{next:Act->World->Prop}{Q:Exit->Act->World->Prop}(hd:qQ o=true)(he:a.eval=qC ρ)(h:VK P o ρ w K)(hk : ∀v w',K v w'->next (a.put o.dst v) w'):o.wpIn (EU none) 0 P a w next Q:=by
 have plain:F9 P false o ρ w K->o.wpIn (EU none) 0 P a w next Q:=fun h=>LY (Q:=Q) hd (fun _ _ h=>h) ((sD h).wp he hk)
 unfold VK at h
 split at h
 ·rename_i c ho
  split at h
  ·rename_i f hc
   split at h
   ·rename_i l first cap hf
    obtain⟨fn,tmps,assign,body,hy,hR⟩:=h.runs
    refine⟨fun _ _=>trivial, ?_⟩
    have e:o.semAt (EU none).round a.eval=execOp a.eval o:=Oper.semAt_plain (EU none) _ o (Hz hd)
    rw [e,he]
    have ea:(first.toList++c.args.toList.map (qC ρ)).toArray=first++c.args.map (qC ρ):=by apply jg;simp
    rw [ea]at hy
    have hrun:(execOp (qC ρ) o).run P w = .ok (.round l fn tmps assign body) w:=by
     simp only [execOp,ho,resolve,hc,hf]
     simp [go_sem,Deferred.ofValue,invoke,hy]
    rw [hrun]
    exact⟨fun h=>ajW,RoundIn.mono hR fun e w' ⟨v,hv,k⟩=>by subst hv;exact hk _ _ k⟩
   ·exact plain h
  ·exact plain h
 ·exact plain h
theorem Jg {N:Nat}{ds:List Deferred}{ρ:mG}{a:Act}{ops:Array Oper}{o:Oper}{w:World}{K:mG->Value->World->Prop}{rP:mG->Prop}
  (hf:Fits N ds ρ a) (h:L6 P ops.toList o ρ w K rP) :
  (Region.wanted o (yielded ops a.tmps)=true∧VK P o ρ w fun v w'=>K ρ v w')∨
  (Region.wanted o (yielded ops a.tmps)=false∧rP ρ):=by
 unfold L6 at h
 unfold Region.wanted
 split at h
 ·rename_i hg;rw [hg];exact .inl ⟨rfl,h⟩
 ·rename_i g want hg
  rw [hg]
  simp only [AB hf g]
  split at h
  ·rename_i s hs
   simp only [hs]
   cases hv:ρ s with
   | bool t=>
    have hu:upd ρ s (.bool t)=ρ:=Nz hv
    rw [hv]at h
    cases t<;>cases want<;>simp only [Ku,cond_true,cond_false]at h<;>rw [hu]at h
    ·exact .inl ⟨rfl,h⟩
    ·exact .inr ⟨rfl,h⟩
    ·exact .inr ⟨rfl,h⟩
    ·exact .inl ⟨rfl,h⟩
   | _=>rw [hv]at h;exact .inr ⟨rfl,h⟩
  ·rename_i hs;simp only [hs];exact .inr ⟨rfl,h⟩
theorem OJ {N:Nat}{ds:List Deferred}{W:Nat->Bool}{ops:Array Oper}{Q:Exit->Act->World->Prop}{K:mG->World->Prop}{lS:mG}
  (hK : ∀ρ' a' w',Fits N ds ρ' a'->Same W lS ρ'->K ρ' w'->Q .normal a' w') :
  ∀(l:List Oper) (k:Nat) (ρ:mG) (a:Act) (w:World),(∀j,l[j]? = ops.toList[k+j]?)->(∀o∈l,qU N W o=true∧qQ o=true)->Fits N ds ρ a->Same W lS ρ->
   OI P ops.toList l ρ w K->wpOpsIn (EU none) 0 P ops Q (List.range' k l.length) a w:=by
 intro l
 induction l with
 | nil=>intro k ρ a w _ _ hf hs h;exact hK _ _ _ hf hs h
 | cons o rest ih=>
  intro k ρ a w hl hok hf hs h
  have ho:ops[k]? = some o:=by
   have:=hl 0
   simp only [bZ,dV]at this
   rw [<-bF];exact this.symm
  obtain⟨ho1,ho2⟩:=hok o abb
  have step : ∀(v:Value) (w':World),OI P ops.toList rest (oN ρ o.dst v) w' K->wpOpsIn (EU none) 0 P ops Q (List.range' (k+1) rest.length) (a.put o.dst v) w':=fun v w' hv=>
   ih (k+1) _ _ _ (fun j=>by have:=hl (j+1);simp only [fD]at this;rw [this];congr 1;omega) (fun o' ho'=>hok o' (by simp [ho']))
    (hf.put o.dst v (oC ho1)) (hs.oN ho1) hv
  simp only [bn,jM]
  simp only [wpOpsIn,ho]
  rcases Jg hf h with ⟨hw,hv⟩|⟨hw,hv⟩
  ·simp only [hw,if_true]
   exact acA ho2 hf.eval hv step
  ·simp only [hw,aX,if_false]
   exact⟨fun _ _=>trivial,step undef w hv⟩
def vY (P:Program)(c:Code)(Q:Ex->mG->World->Prop)(ρ:mG)(w:World):Prop:=
 match c with
 | .skip=>Q .normal ρ w
 | .region id ops draw=>(match draw with
  | false=>OI P ops.toList ops.toList ρ w (Q .normal)
  | true=>y5 P id ops (Q .normal) ρ w)
 | .seq a b=>vY P a (ah5 (vY P b) Q) ρ w
 | .cond c t e=>(match qC ρ c with
  | .bool b=>Ku b (vY P t Q ρ w) (vY P e Q ρ w)
  | _=>False)
 | .block id body=>vY P body (aaY id Q) ρ w
 | .loop body=>WZ body (vY P body) Q ρ w
 | .exit id=>Q (.exit id) ρ w
 | .ret=>Q .ret ρ w
 | _=>False
theorem y5.LZ {id:Nat}{N:Nat}{ds:List Deferred}{W:Nat->Bool}{ops:Array Oper}{K:mG->World->Prop}{ρ lS:mG}{a:Act}{w:World}{r:Option Nat}
  (hm:P.follows .mixedOrders=true) (hok : ∀o∈ops.toList,qU N W o=true) (hnd : ∀(i:Nat) (o:Oper),ops[i]? = some o->qQ o=true) (hf:Fits N ds ρ a) (hs:Same W lS ρ) (h:y5 P id ops K ρ w) :
  (Code.region id ops true).wpIn (EU r) 0 P (RQ N ds W lS K) a w:=by
 obtain⟨p,Ep,S,hd,he,hS,hv⟩:=h.ex
 simp only [vK,ak]at hd
 obtain⟨⟨hsel,DK⟩,hp⟩:=hd
 exact wpIn_region_any hm (CP (fun⟨_,_,h⟩=>h) hnd _ _ _ _ (AL _ _ _ _ (NC hsel hok w.drew p S he _ ρ a w.drew hp (fun j o _ hl=>by rw [vM]at hl;cases hl) hf hs hS hv ops.size (aF DK))))
theorem Yi (hm:P.follows .mixedOrders=true){N:Nat} : ∀(c:Code) (W:Nat->Bool) (Q:Ex->mG->World->Prop) (ρ lS:mG) (a:Act) (w:World),
  qo false N W c=true->Fits N [] ρ a->Same W lS ρ->vY P c Q ρ w->c.wpIn (EU none) 0 P (CQ N [] W lS Q) a w:=by
 intro c
 induction c with
 | skip=>intro W Q ρ lS a w _ hf hs h;exact wpIn_skip ⟨ρ,hf,hs,h⟩
 | region id ops draw=>
  intro W Q ρ lS a w hc hf hs h
  have hok0 : ∀o∈ops.toList,(qU N W o=true∧wV o=true)∧qQ o=true:=by simpa only [qo,bP,ak]using hc
  have hok : ∀o∈ops.toList,qU N W o=true:=fun o ho=>(hok0 o ho).1.1
  have hnd : ∀(i:Nat) (o:Oper),ops[i]? = some o->qQ o=true:=fun i o ho=>(hok0 o (by rw [<-bF]at ho;exact aU ho)).2
  have mono : ∀e a w,RQ N [] W lS (Q .normal) e a w->CQ N [] W lS Q e a w:=fun e a w hq=>ahS
  cases draw with
  | false=>
   refine Go.wpIn_mono (wpIn_region ?_) mono
   have hlen:ops.toList.length=ops.size:=abb
   rw [jh, <-hlen]
   exact OJ (K:=Q .normal) (Q:=RQ N [] W lS (Q .normal)) (fun ρ' a' w' hf' hs' hk=>⟨ρ',hf',hs',hk⟩) ops.toList 0 ρ a w (fun j=>by rw [aO]) (fun o ho=>⟨hok o ho,(hok0 o ho).2⟩) hf hs h
  | true=>exact Go.wpIn_mono (y5.LZ hm hok hnd hf hs h) mono
 | seq x y ihx ihy=>
  intro W Q ρ lS a w hc hf hs h
  simp only [qo,ak]at hc
  refine wpIn_seq (Go.wpIn_mono (ihx W _ ρ lS a w hc.1 hf hs h) fun e a' w' hq=> ?_)
  cases e with
  | normal=>
   obtain⟨ρ',hf',hs',hv⟩:=hq
   exact ihy W Q ρ' lS a' w' hc.2 hf' hs' hv
  | exit id=>exact hq
  | ret=>exact hq
  | goto l=>exact hq
  | panic ch=>exact hq
  | outgrown=>exact hq
 | cond c x y ihx ihy=>
  intro W Q ρ lS a w hc hf hs h
  simp only [qo,ak]at hc
  simp only [vY]at h
  split at h
  ·rename_i b hb
   refine wpIn_cond (t:=b) (by rw [hf.eval];exact hb) ?_
   cases b with
   | true=>exact ihx W Q ρ lS a w hc.1 hf hs h
   | false=>exact ihy W Q ρ lS a w hc.2 hf hs h
  ·cases h
 | block id b ih=>
  intro W Q ρ lS a w hc hf hs h
  refine wpIn_block (Go.wpIn_mono (ih W _ ρ lS a w hc hf hs h) fun e a' w' hq=> ?_)
  cases e with
  | normal=>exact hq
  | exit j=>
   obtain⟨ρ',hf',hs',hv⟩:=hq
   simp only [aaY]at hv
   simp only [Exit.inBlock]
   by_cases hj:j=id
   ·subst hj
    rw [iI,cond_true]at hv
    simp only [if_true]
    exact⟨ρ',hf',hs',hv⟩
   ·have hb:Nat.beq j id=false:=by
     cases hb:Nat.beq j id with
     | false=>rfl
     | true=>exact absurd (aA hb) hj
    rw [hb,cond_false]at hv
    rw [if_neg hj]
    exact⟨ρ',hf',hs',hv⟩
  | ret=>exact hq
  | goto l=>exact hq
  | panic ch=>exact hq
  | outgrown=>exact hq
 | loop b ih=>
  intro W Q ρ lS a w hc hf hs h
  obtain⟨ws,I,n,hw,Nj,hr⟩:=h.ex
  have hc':=EH b hc hw
  refine yH (fun n a' w'=> ∃ρ',I n ρ' w'∧Fits N [] ρ' a'∧Same (fun k=>W k&&ws k) ρ ρ') n ⟨ρ,Nj,hf,Same.refl _ _⟩ fun n a' w' ⟨ρ',hI,hf',hs'⟩=> ?_
  have hsw:Same ws ρ ρ':=fun k hk=>hs' k ahT
  refine Go.wpIn_mono (ih (fun k=>W k&&ws k) _ ρ' ρ a' w' hc' hf' hs' (hr n ρ' w' hI hsw)) fun e a'' w'' hq=> ?_
  have up : ∀ {pY},Same (fun k=>W k&&ws k) ρ pY->Same W lS pY:=fun h'=>hs.trans fun k hk=>h' k ahT
  cases e with
  | normal=>
   obtain⟨pY,vN,vO,⟨m,hlt,hI'⟩⟩:=hq
   exact⟨m,hlt,pY,hI',vN,vO⟩
  | exit id=>obtain⟨pY,vN,vO,hv⟩:=hq;exact⟨pY,vN,up vO,hv⟩
  | ret=>obtain⟨pY,vN,vO,hv⟩:=hq;exact⟨pY,vN,up vO,hv⟩
  | goto l=>exact hq
  | panic ch=>exact hq
  | outgrown=>exact hq
 | exit id=>intro W Q ρ lS a w _ hf hs h;exact Go.wpIn_exit ⟨ρ,hf,hs,h⟩
 | ret=>intro W Q ρ lS a w _ hf hs h;exact Go.wpIn_ret ⟨ρ,hf,hs,h⟩
 | _=>intro W Q ρ lS a w hc;simp [qo]at hc
def akV (K:World->Prop)(e:Ex)(_:mG)(w:World):Prop:=
 match e with
 | .normal=>qM (K w)
 | .ret=>qM (K w)
 | .exit _=>False
theorem EJ {f:FuncId}{fn:Func}{c:Code}{args:Array Value}{w:World}{K:World->Prop}
  (hf:P.funcs[f]? = some fn) (hb:fn.body=some c) (hm:P.follows .mixedOrders=true) (hN:args.size<=fn.ntmps) (hres:fn.results = #[]) (hok:qo false fn.ntmps (fun _=>true) c=true)
  (h:vY P c (akV K) (sH args) w):CallsIn (EU none) 0 P f args w fun e w'=>(∃v,e = .returned v)∧K w':=by
 refine callsIn_of_wp hf hb trivial ?_
 have hfit:Fits fn.ntmps [] (sH args) {tmps:=args++Array.replicate (fn.ntmps-args.size) undef,defers:= []}:=by
  refine⟨by simp;omega,fun t=> ?_,rfl⟩
  simp only [sH,BJ]
  rw [gB,aT,jc]
  by_cases ht:t<args.size
  ·simp [ht]
  ·simp only [ht,if_false,bF]
   rw [fV (kP ht)]
   by_cases h2:t-args.size<fn.ntmps-args.size
   ·simp [h2]
   ·simp [h2]
 refine Go.wpIn_mono (Yi hm c (fun _=>true) _ _ _ _ w hok hfit (Same.refl _ _) h) fun e a' w' hq=> ?_
 have res : ∀ {ρ':mG},Fits fn.ntmps [] ρ' a'->K w'->a'.defers = []∧∃v,(results fn a'.tmps).run P w' = .ok v w'∧(∃u,Ending.returned v = .returned u)∧K w':=by
  intro ρ' hf' hk
  refine⟨hf'.defers, .tuple #[], ?_,⟨_,rfl⟩,hk⟩
  rw [yw,hres]
  simp
 cases e with
 | normal=>obtain⟨ρ',hf',_,hv⟩:=hq;exact res hf' hv.holds
 | ret=>obtain⟨ρ',hf',_,hv⟩:=hq;exact res hf' hv.holds
 | exit id=>obtain⟨ρ',hf',_,hv⟩:=hq;exact hv.elim
 | goto l=>exact hq.elim
 | panic ch=>exact hq.elim
 | outgrown=>exact hq.elim
end
theorem oV.down {n:Nat}{σ:Nat->Loc}{F:Nat->Prop}{w:World}{a:FV}{v:Value}(h:mM n σ F w a.up v):oV F w a v:=by
 cases a with
 | top=>exact .top v
 | v x=>cases h;exact .v _
 | lst sz l=>cases h with|lst h=>exact h
 | fp cs o=>cases h with|fp h=>exact h
 | fm M=>cases h with|fm h=>exact h
theorem Uf {G:Glob}{n:Nat}{H:lI}{R:AV->Nat->lI->Prop}{f:Fn}(ls:List (Nat×TypeId×List FV))(k:R (.fn f [] (ls.map fun p=> .fp p.2.2 0)) 0 [])
  (hl : ∀p∈ls,look H p.1=some (.var p.2.1 (p.2.2.map FV.up))):G9 G 0 R (.fn f [] (ls.map fun p=> .ptr p.1 0)) n H:=by
 refine⟨_,0,[],k,au _,fun lT lY lZ σ F w v st ra=> ?_⟩
 have hsub : ∀b,(F b∨∃p∈ls,(σ p.1).b=some b)->b<w.heap.size∧(lZ b∨lT.heap.size<=b∨lY b):=fun b hb=>by
  rcases hb with hb|⟨p,hp,hb⟩
  ·exact st.oG b hb
  ·obtain⟨_,_,h3,h4⟩:=st.mu _ _ b (hl p hp) rfl (.inl hb)
   exact⟨h3,h4.elim (fun h=> .inr (.inr h)) fun h=> .inr (.inl h)⟩
 refine⟨σ,fun b=>F b∨∃p∈ls,(σ p.1).b=some b,⟨st.glob,st.qF,hsub,(fun _ _ h=>by cases h),(fun _ _ _ h=>by cases h),(fun _ _ _ _ _ h=>by cases h),(fun _ _ h=>by cases h)⟩, ?_,fun _ h=>absurd h (dQ _),fun b hb=> .inl hb⟩
 cases ra with
 | fn _ _ _ us vs hx hy rx ry=>
  refine .fn f [] _ us vs hx (by simpa using hy) (fun j a v h=>by simp at h) fun j a v h1 h2=> ?_
  rw [aJ]at h1
  cases hp:ls[j]? with
  | none=>rw [hp]at h1;cases h1
  | some p=>
   rw [hp]at h1
   injection h1 with h1
   subst h1
   have hm:=aU hp
   have r:=ry j (.ptr p.1 0) v (by rw [aJ,hp];rfl) h2
   cases r with
   | ptr _ _ b hlt hb=>
    obtain⟨g,xs,hg,hblk,hr,hone⟩:=st.blk _ _ (hl p hm)
    rw [hb]at hg
    injection hg with hg
    subst hg
    have hlen:=hr.len
    rw [aj]at hlen
    refine .fp (.fp p.2.2 0 b 0 (.inr ⟨p,hm,hb⟩) (fun j hj=> ?_) fun j a v h1 h3=> ?_)
    ·have hj':j<xs.length:=aai
     exact⟨xs[j],by rw [aO,hblk.cell,ah hj'],hone _ (aV hj')⟩
    ·rw [aO,hblk.cell]at h3
     exact(oV.down (hr.at j a.up v (by rw [aJ,h1];rfl) h3)).mono fun b hb=>⟨.inl hb,rfl⟩
theorem mP.up {P:Program}{f:FuncId}{args:List AV}{n:Nat}{H:lI}{R:AV->Nat->lI->Prop}(h:mP P ⟨0,fun _=>none,fun _=>none⟩ f args n H R)(G:Glob):mP P G f args n H R:=by
 intro w σ F vs st r
 have st0:St ⟨0,fun _=>none,fun _=>none⟩ w (uJ w σ H) F n σ F H w:=
  ⟨⟨aH _,(fun _ _ h=>by cases h),fun _ _ h=>by cases h⟩,st.qF,st.oG,st.lab,fun mD b g h1 h2 h3=>⟨(st.mu mD b g h1 h2 h3).1,aH _,(st.mu mD b g h1 h2 h3).2.2⟩,st.inj,st.blk⟩
 refine(h w σ F vs st0 r).mono fun v w' ⟨a,n',σ',F',H',hR,s,x,ra⟩=>⟨a,n',σ',F',H',hR, ?_,x,ra⟩
 have hnb:=st.glob.1
 refine⟨Glob.qF st.glob s.qF.size fun b hb=>s.qF.block b aai fun⟨mD,blk,h1,h2,h3⟩=>by have:=(st.mu mD blk b h1 h2 h3).2.1;omega,s.qF,s.oG,s.lab,fun mD b g h1 h2 h3=> ?_,s.inj,s.blk⟩
 obtain⟨a1,a2,a3,a4⟩:=s.mu mD b g h1 h2 h3
 refine⟨a1, ?_,a3,a4⟩
 rcases a4 with ⟨y8,blk',e1,e2,e3⟩|h4
 ·exact(st.mu y8 blk' g e1 e2 e3).2.1
 ·omega
section
variable {P:Program}{G:Glob}
theorem Bc {gv:AV}{ps:Array Tmp}{A B:(Ex->lV->Nat->lI->Prop)->lV->Nat->lI->Prop}{Q:Ex->lV->Nat->lI->Prop}{ρ:lV}{n:Nat}{H:lI}
  {gf:FuncId} {caps:List AV} {xs:List (List AV)} (hit:AIt P G gf caps xs) (nl:Nat) (Hs:Nat->lI) (θ:List (Nat×Src)) (Z:List Nat) (hg:gv = .fn (.func gf) [] caps) (hc:callable P gf=true) (hle:Nat.ble n nl=true) (hx : ∀x∈xs,x.length=ps.size)
  (hw:Nr n nl θ Z (Hs 0)=true) (hH:Qu H θ Z n (Hs 0))
  (hbody : ∀i x,xs[i]? = some x->A (Ud (B (Ud fun ρ' n' H'=>G6 (JE G (fun _=>false) n ρ' n' H' ρ nl (Hs (i+1)))))) (H6 ρ ps.toList x) nl (Hs i))
  (hdone:Q .normal ρ nl (Hs xs.length)):Yg P G gv ps A B Q ρ n H:=
 ⟨⟨gf,caps,xs,nl,Hs,hg,hc,hit,aF hle,hx,Ho (ws:= []) (sl:= []) θ Z hw hH trivial,hbody,hdone⟩⟩
theorem sN {ρ ρ':lV}{nb nl n':Nat}{H' qL:lI}(θ:List (Nat×Src))(Z:List Nat)(hw:Nr nb nl θ Z qL=true)(hH:Qu H' θ Z nb qL):G6 (JE G (fun _=>false) nb ρ' n' H' ρ nl qL):=
 ⟨Ho (ws:= []) (sl:= []) θ Z hw hH trivial⟩
end
end Go.Proofs.YtnandbihiceihaaGreatDoor.Ax
