/- Joined parts of the proof. Calls of functions that change memory of the caller's: the labels lent come back changed -/
import Derived.Test.YtocckceefcmeaaaGreatDoorPk8
import Derived.RangeFuncLeaves
import Derived.RangeFuncCalls
import Derived.RangeFuncSeq
import Derived.OrdersIn
import Derived.OwnWalkIn
import Derived.Test.YtocckceefcmeaaaGreatDoorPk9
set_option linter.unusedVariables false
set_option linter.unusedSimpArgs false
set_option maxRecDepth 100000
set_option maxHeartbeats 16000000
namespace Go.Proofs.YtocckceefcmeaaaGreatDoor.Ax
open Go Go.RowKit Go.Proofs.YtocckceefcmeaaaGreatDoor.Vc
mutual
def VW (f:Nat→Nat):AV→AV
 | .ptr e o=> .ptr (f e) o
 | .ep e i o=> .ep (f e) i o
 | .own e=> .own (f e)
 | .sub e o k=> .sub (f e) o k
 | .mp e=> .mp (f e)
 | .fn g xs ys=> .fn g (VX f xs) (VX f ys)
 | .agg cs=> .agg (VX f cs)
 | .bH cs=> .bH (VX f cs)
 | .top=> .top
 | .v x=> .v x
 | .lst sz l=> .lst sz l
 | .fp cs o=> .fp cs o
 | .fm M=> .fm M
def VX (f:Nat→Nat):List AV→List AV
 | []=> []
 | a::r=>VW f a::VX f r
end
def rnB (f:Nat→Nat):dU→dU
 | .var t cs=> .var t (VX f cs)
 | .tree t sz l (some (i,j,e))=> .tree t sz l (some (i,j,f e))
 | b=>b
def YD (f:Nat→Nat):ak→ak
 | []=> []
 | p::r=>(f p.1,rnB f p.2)::YD f r
theorem Ej (f:Nat→Nat) : ∀l:List AV,VX f l=l.map (VW f):=by
 intro l
 induction l with
 | nil=>rfl
 | cons a r ih=>simp [VX,ih]
theorem VY (f:Nat→Nat)(b:dU):(rnB f b).own=b.own:=by
 cases b with
 | tree t sz l h=>cases h<;>rfl
 | _=>rfl
theorem VZ {f:Nat→Nat}{b:dU}{w:World}{L:Loc}{g:Nat}(h:iL w L (rnB f b) g):iL w L b g:=by
 cases b with
 | tree t sz l o=>cases o<;>exact h
 | _=>exact h
section
variable {n m:Nat}{σ σ':Nat→Loc}{F:Nat→Prop}{w:World}{f:Nat→Nat}
theorem Jz (hs : ∀k,k<m→f k<n∧σ' (f k)=σ k){a:AV}{v:Value}(r:aZ m σ F w a v):aZ n σ' F w (VW f a) v:=by
 induction r with
 | top x=>exact .top x
 | v x=>exact .v x
 | lst h=>exact .lst h
 | fp h=>exact .fp h
 | fm h=>exact .fm h
 | ptr l o b hl hb=>exact .ptr _ o b (hs l hl).1 (by rw [(hs l hl).2];exact hb)
 | ep l i o b hl hb=>rw [←(hs l hl).2];exact .ep _ i o b (hs l hl).1 (by rw [(hs l hl).2];exact hb)
 | own l hl=>rw [←(hs l hl).2];exact .own _ (hs l hl).1
 | je l oa hl hn hc=>exact .je _ oa (hs l hl).1 (by rw [(hs l hl).2];exact hn) (by rw [(hs l hl).2];exact hc)
 | sub l o k oa c hl hk hc hnil ho=>exact .sub _ o k oa c (hs l hl).1 (by rw [(hs l hl).2];exact hk) hc hnil (by rw [(hs l hl).2];exact ho)
 | mp l b hl hb=>exact .mp _ b (hs l hl).1 (by rw [(hs l hl).2];exact hb)
 | fn g xs ys us vs hx hy _ _ ih1 ih2=>
  simp only [VW,Ej]
  refine .fn g _ _ us vs (by simp [hx]) (by simp [hy]) (fun j a v h1 h2=> ?_) (fun j a v h1 h2=> ?_)
  ·rw [List.getElem?_map]at h1
   cases hx:xs[j]? with
   | none=>rw [hx]at h1;cases h1
   | some x=>rw [hx]at h1;injection h1 with h1;rw [←h1];exact ih1 j x v hx h2
  ·rw [List.getElem?_map]at h1
   cases hy:ys[j]? with
   | none=>rw [hy]at h1;cases h1
   | some y=>rw [hy]at h1;injection h1 with h1;rw [←h1];exact ih2 j y v hy h2
 | agg xs us hx _ ih=>
  simp only [VW,Ej]
  refine .agg _ us (by simp [hx]) (fun j a v h1 h2=> ?_)
  rw [List.getElem?_map]at h1
  cases hx:xs[j]? with
  | none=>rw [hx]at h1;cases h1
  | some x=>rw [hx]at h1;injection h1 with h1;rw [←h1];exact ih j x v hx h2
 | bH xs us hx _ ih=>
  simp only [VW,Ej]
  refine .bH _ us (by simp [hx]) (fun j a v h1 h2=> ?_)
  rw [List.getElem?_map]at h1
  cases hx:xs[j]? with
  | none=>rw [hx]at h1;cases h1
  | some x=>rw [hx]at h1;injection h1 with h1;rw [←h1];exact ih j x v hx h2
theorem V3 (hs : ∀k,k<m→f k<n∧σ' (f k)=σ k){l:List AV}{vs:List Value}(r:bJ m σ F w l vs):bJ n σ' F w (VX f l) vs:=by
 rw [Ej]
 refine .of (by simp [r.len]) fun j a v h1 h2=> ?_
 rw [List.getElem?_map]at h1
 cases hx:l[j]? with
 | none=>rw [hx]at h1;cases h1
 | some x=>rw [hx]at h1;injection h1 with h1;rw [←h1];exact Jz hs (r.at j x v hx h2)
theorem V4 (hs : ∀k,k<m→f k<n∧σ' (f k)=σ k){L:Loc}{b:dU}(r:kP m σ F w L b):kP n σ' F w L (rnB f b):=by
 cases b with
 | var t cs=>obtain⟨g,vs,h1,h2,h3,h4⟩:=r;exact⟨g,vs,h1,h2,V3 hs h3,h4⟩
 | tree t sz l h=>
  cases h with
  | none=>obtain⟨h1,h2,xs,h3,h4,h5,_⟩:=r;exact⟨h1,h2,xs,h3,h4,h5,fun _ _ _ h=>by cases h⟩
  | some p=>
   obtain⟨i,j,e⟩:=p
   obtain⟨h1,h2,xs,h3,h4,h5,h6⟩:=r
   refine⟨h1,h2,xs,h3,h4,h5,fun i' j' e' h=> ?_⟩
   injection h with h
   injection h with e1 h
   injection h with e2 e3
   subst e1;subst e2;subst e3
   obtain⟨a1,a2,a3,a4,v,a5,a6⟩:=h6 _ _ _ rfl
   exact⟨(hs e a1).1,a2,a3,a4,v,a5,Jz hs a6⟩
 | _=>exact r
theorem zS : ∀ {H:ak} {k:Nat} {b:dU},look (YD f H) k=some b→∃j c,k=f j∧c∈H.map (·.2)∧(j,c)∈H∧b=rnB f c:=by
 intro H
 induction H with
 | nil=>intro k b h;cases h
 | cons p r ih=>
  intro k b h
  obtain⟨x,c⟩:=p
  simp only [YD]at h
  rw [aW]at h
  split at h
  ·rename_i e
   injection h with h
   exact⟨x,c,e.symm,by simp,by simp,h.symm⟩
  ·obtain⟨j,d,h1,h2,h3,h4⟩:=ih h
   exact⟨j,d,h1,by simp at h2 ⊢;exact .inr h2,by simp [h3],h4⟩
end
def once:ak→Bool
 | []=>true
 | p::r=>(match look r p.1 with | some _=>false | none=>true)&&once r
theorem vX : ∀ {H:ak} {k:Nat} {b:dU},once H=true→(k,b)∈H→look H k=some b:=by
 intro H
 induction H with
 | nil=>intro k b _ h;cases h
 | cons p r ih=>
  intro k b ho h
  obtain⟨x,c⟩:=p
  simp only [once,Bool.and_eq_true]at ho
  rw [aW]
  rcases List.mem_cons.1 h with e | e
  ·injection e with e1 e2
   subst e1;subst e2
   rw [if_pos rfl]
  ·have:=ih ho.2 e
   split
   ·rename_i e'
    subst e'
    rw [this]at ho
    cases ho.1
   ·exact this
def V5 (L:List Nat)(H:ak):ak:=
 match L with
 | []=>H
 | l::r=>V5 r (Jb H l)
theorem pI : ∀ {L:List Nat} {H:ak} {k:Nat} {b:dU},look (V5 L H) k=some b→k∉L∧look H k=some b:=by
 intro L
 induction L with
 | nil=>intro H k b h;exact⟨by simp,h⟩
 | cons l r ih=>
  intro H k b h
  obtain⟨h1,h2⟩:=ih h
  obtain⟨h3,h4⟩:=iI h2
  exact⟨by simp [h1,h3],h4⟩
def jZ (i:Nat)(L:List Nat):List (Nat×Src):=
 match L with
 | []=> []
 | l::r=>(i, .lab l)::jZ (i+1) r
theorem Qz : ∀ {L:List Nat} {i k l:Nat},L[k]? = some l→tr (jZ i L) (i+k)=some (.lab l):=by
 intro L
 induction L with
 | nil=>intro i k l h;simp at h
 | cons x r ih=>
  intro i k l h
  cases k with
  | zero=>
   simp only [List.getElem?_cons_zero,Option.some.injEq]at h
   subst h
   simp [jZ,tr]
  | succ k=>
   simp only [List.getElem?_cons_succ]at h
   have:=ih (i:=i+1) h
   simp only [jZ,tr]
   have e:Nat.beq i (i+(k+1))=false:=by
    cases hb:Nat.beq i (i+(k+1))with
    | false=>rfl
    | true=>have:=Nat.eq_of_beq_eq_true hb;omega
   rw [e,cond_false,show i+(k+1)=i+1+k by omega]
   exact this
def Ip (L:List Nat)(n k:Nat):Nat:=
 match L,k with
 | [],k=>n+k
 | l::_,0=>l
 | _::r,k+1=>Ip r n k
theorem Z8 : ∀ {L:List Nat} {n k l:Nat},L[k]? = some l→Ip L n k=l:=by
 intro L
 induction L with
 | nil=>intro n k l h;simp at h
 | cons x r ih=>
  intro n k l h
  cases k with
  | zero=>simp only [List.getElem?_cons_zero,Option.some.injEq]at h;exact h
  | succ k=>exact ih (by simpa using h)
theorem Z9 : ∀ {L:List Nat} {n k:Nat},L.length≤k→Ip L n k=n+(k-L.length):=by
 intro L
 induction L with
 | nil=>intro n k _;simp [Ip]
 | cons x r ih=>
  intro n k h
  cases k with
  | zero=>simp at h
  | succ k=>
   simp only [List.length_cons]at h ⊢
   show Ip r n k=_
   rw [ih (by omega)]
   congr 1
   omega
def hasAll (H:ak):Nat→Bool
 | 0=>true
 | k+1=>(match look H k with | some _=>true | none=>false)&&hasAll H k
theorem Gu {H:ak} : ∀ {n k:Nat},hasAll H n=true→k<n→∃b,look H k=some b:=by
 intro n
 induction n with
 | zero=>intro k _ h;omega
 | succ n ih=>
  intro k h hk
  simp only [hasAll,Bool.and_eq_true]at h
  by_cases e:k=n
  ·subst e
   cases hl:look H k with
   | none=>rw [hl]at h;cases h.1
   | some b=>exact⟨b,rfl⟩
  ·exact ih h.2 (by omega)
structure Once (H:ak):Prop where
 ok:once H=true
section
variable {P:Program}{G:Glob}{n:Nat}{H:ak}
theorem V6 {f:FuncId}{args args':List AV}{H0:ak}{R:AV→Nat→ak→Prop}{K:AV→Nat→ak→Prop}(L:List Nat)(Z:List Nat)(hc:callable P f=true)(h:bD P G f args' L.length H0 R)
  (hwf:(Gm 0 L.length (jZ 0 L) Z H0&&hasAll H0 L.length)=true) (hH:Jp H (jZ 0 L) Z 0 H0) (ha:KY H (jZ 0 L) Z 0 args' args)
  (k : ∀a m H',R a m H'→once H'=true∧K (VW (Ip L n) a) (n+(m-L.length)) (YD (Ip L n) H'++Bj Z (V5 L H))):qM P G f args n H K:=by
 simp only [Bool.and_eq_true]at hwf
 obtain⟨hwf,hall⟩:=hwf
 have hwf':=hwf
 simp only [Gm,Bool.and_eq_true]at hwf'
 obtain⟨⟨_,hT⟩,hwH⟩:=hwf'
 refine⟨hc,fun w σ F vs st hr=> ?_⟩
 have s1:=zK (H':=H0) (θ:=jZ 0 L) (Z:=Z) (nb:=0) (n':=L.length) st hwf hH
 have r1:=kR (n':=L.length) (Bh:=vT H0) st hT (Nat.zero_le _) args' args vs ha hr
 have aac : ∀j,(hj:j<L.length)→tr (jZ 0 L) j=some (.lab L[j]):=fun j hj=>by
  have:=Qz (i:=0) (List.getElem?_eq_getElem hj)
  rwa [Nat.zero_add]at this
 have σ1 : ∀j,(hj:j<L.length)→zJ (jZ 0 L) σ (vT H0) j=σ L[j]:=fun j hj=>by unfold zJ;rw [aac j hj]
 have inH : ∀j,(hj:j<L.length)→∃b b',look H L[j]=some b∧look H0 j=some b'∧Ul H (jZ 0 L) Z 0 b' b:=fun j hj=>by
  obtain⟨b',hb'⟩:=Gu hall hj
  rcases pG hH hb' with ⟨e,b,hs,hk,hb⟩ | ⟨ht,_⟩
  ·unfold nI at hs
   rw [aac j hj]at hs
   injection hs with hs
   subst hs
   exact⟨b,b',hk,hb',hb⟩
  ·rw [aac j hj]at ht;cases ht
 have aec : ∀ {j b'},look H0 j=some b'→j<L.length:=fun h=>(sN hwH h).1
 refine(h w _ _ vs s1.start r1).mono fun v w' ⟨a,m,σ',F',H',hR,s,x,ra⟩=> ?_
 obtain⟨hon,hK⟩:=k a m H' hR
 have hmu : ∀b,kQ w (zJ (jZ 0 L) σ (vT H0)) H0 b→∃j, ∃hj:j<L.length, ∃c,look H L[j]=some c∧c.own=true∧iL w (σ L[j]) c b:=fun b ⟨j,c,e,ho,hg⟩=>by
  have hj:=aec e
  obtain⟨b0,b',h1,h2,h3⟩:=inH j hj
  rw [h2]at e
  injection e with e
  subst e
  exact⟨j,hj,b0,h1,by rw [←xY h3];exact ho,by rw [σ1 j hj]at hg;exact xZ h3 hg⟩
 have hm:L.length≤m:=x.le
 let σn:Nat→Loc:=fun l=>if l<n then σ l else σ' (l-n+L.length)
 have inN : ∀j,(hj:j<L.length)→L[j]<n:=fun j hj=>by obtain⟨b,_,h1,_⟩:=inH j hj;exact st.lab _ b h1
 have ho : ∀k,k<n→σn k=σ k:=fun k hk=>if_pos hk
 have hs : ∀k,k<m→Ip L n k<n+(m-L.length)∧σn (Ip L n k)=σ' k:=fun k hk=>by
  by_cases hkl:k<L.length
  ·rw [Z8 (List.getElem?_eq_getElem hkl)]
   have:=inN k hkl
   refine⟨by omega, ?_⟩
   rw [ho _ this,x.s k hkl,σ1 k hkl]
  ·rw [Z9 (by omega)]
   refine⟨by omega, ?_⟩
   show (if n+(k-L.length)<n then _ else _)=_
   rw [if_neg (by omega)]
   congr 1
   omega
 have hF : ∀b,F b→F' b∧w'.heap[b]? = w.heap[b]? :=fun b hb=>x.f b (.inl hb)
 have hE:Ext n σ F w (n+(m-L.length)) σn F' w':=⟨by omega,ho,hF,x.sz⟩
 have QA : ∀k b g,k∉L→look H k=some b→b.own=true→iL w (σ k) b g→¬kQ w (zJ (jZ 0 L) σ (vT H0)) H0 g:=fun k b g YE hk hm hg aad=>by
  obtain⟨j,hj,c,h1,h2,h3⟩:=hmu g aad
  have:=st.inj k L[j] b c g hk h1 hm h2 hg h3
  exact YE (by rw [this];exact List.getElem_mem hj)
 have old : ∀k b g,look (Bj Z (V5 L H)) k=some b→b.own=true→iL w (σ k) b g→k∉L∧look H k=some b∧¬F' g∧G.nb≤g∧g<w.heap.size∧kQ w σ H g:=by
  intro k b g hk hm hg
  rcases nK hk with ⟨h1,h2⟩ | ⟨_,t,sz,l,_,rfl⟩
  ·obtain⟨YE,h1⟩:=pI h1
   obtain⟨m1,m2,m3,m4⟩:=st.mu k b g h1 hm hg
   refine⟨YE,h1,fun hf=> ?_,m2,m3,⟨k,b,h1,hm,hg⟩⟩
   rcases(s.dL g hf).2 with e | e | e
   ·rcases e with e | ⟨k',t,sz,l,hz,hk',hg'⟩
    ·exact m1 e
    ·have:=st.inj k k' b _ g h1 hk' hm rfl hg (.inl hg')
     subst this
     rw [h1]at hk'
     injection hk' with hk'
     exact h2 hz t sz l hk'
   ·omega
   ·exact QA k b g YE h1 hm hg e
  ·cases hm
 have new : ∀k b g,look (YD (Ip L n) H') k=some b→b.own=true→iL w' (σn k) b g→∃j c,k=Ip L n j∧look H' j=some c∧c.own=true∧iL w' (σ' j) c g∧¬F' g∧G.nb≤g∧g<w'.heap.size∧(kQ w (zJ (jZ 0 L) σ (vT H0)) H0 g∨w.heap.size≤g):=by
  intro k b g hk hm hg
  obtain⟨j,c,rfl,_,hj,rfl⟩:=zS hk
  have hj:=vX hon hj
  rw [VY]at hm
  rw [(hs j (s.lab j c hj)).2]at hg
  have hg:=VZ hg
  obtain⟨m1,m2,m3,m4⟩:=s.mu j c g hj hm hg
  exact⟨j,c,rfl,hj,hm,hg,m1,m2,m3,m4⟩
 have bk : ∀ {k b g},look (Bj Z (V5 L H)) k=some b→b.own=true→iL w' (σ k) b g→iL w (σ k) b g:=fun hk hm hg=>hg.back fun y hy=>(let ⟨o1,o2,_,_,o5,_⟩:=old _ _ y hk hm (.inl hy);s.gI.block y o5 (QA _ _ y o1 o2 hm (.inl hy)))
 have sS : ∀k b,look (Bj Z (V5 L H)) k=some b→k<n:=fun k b hk=>by
  rcases nK hk with ⟨h1,_⟩ | ⟨_,t,sz,l,h1,_⟩
  ·exact st.lab k _ (pI h1).2
  ·exact st.lab k _ (pI h1).2
 have cross : ∀k k' b b' g,look (YD (Ip L n) H') k=some b→look (Bj Z (V5 L H)) k'=some b'→b.own=true→b'.own=true→iL w' (σn k) b g→iL w (σ k') b' g→False:=by
  intro k k' b b' g hk hk' hm hm' hg hg'
  obtain⟨j,c,e1,h1,h2,h3,_,_,_,h4⟩:=new k b g hk hm hg
  obtain⟨o1,o2,_,_,o5,_⟩:=old k' b' g hk' hm' hg'
  rcases h4 with h4 | h4
  ·exact QA k' b' g o1 o2 hm' hg' h4
  ·omega
 have hst:St G w (kQ w σ H) F (n+(m-L.length)) σn F' (YD (Ip L n) H'++Bj Z (V5 L H)) w':=by
  refine⟨s.glob,⟨s.gI.os,s.gI.tape,s.gI.output,x.sz,fun b hb hn=>s.gI.block b hb fun aad=>hn ?_⟩,fun b hb=>⟨(s.dL b hb).1, ?_⟩,fun k b hk=> ?_,fun k b g hk hm hg=> ?_,fun k k' b b' g hk hk' hm hm' hg hg'=> ?_,fun k b hk=> ?_⟩
  ·obtain⟨j,hj,c,h1,h2,h3⟩:=hmu b aad
   exact⟨L[j],c,h1,h2,h3⟩
  ·rcases(s.dL b hb).2 with e | e | e
   ·rcases e with e | ⟨k',t,sz,l,hz,hk',hg'⟩
    ·exact .inl e
    ·exact .inr (.inr ⟨k',_,hk',rfl, .inl hg'⟩)
   ·exact .inr (.inl e)
   ·obtain⟨j,hj,c,h1,h2,h3⟩:=hmu b e
    exact .inr (.inr ⟨L[j],c,h1,h2,h3⟩)
  ·rcases bM hk with hk | ⟨_,hk⟩
   ·obtain⟨j,c,rfl,_,hj,_⟩:=zS hk
    exact(hs j (s.lab j c (vX hon hj))).1
   ·have:=sS k b hk;omega
  ·rcases bM hk with hk | ⟨_,hk⟩
   ·obtain⟨j,c,_,_,_,_,m1,m2,m3,m4⟩:=new k b g hk hm hg
    refine⟨m1,m2,m3,m4.elim (fun h=> ?_) .inr⟩
    obtain⟨j,hj,c,h1,h2,h3⟩:=hmu g h
    exact .inl ⟨L[j],c,h1,h2,h3⟩
   ·rw [ho k (sS k b hk)]at hg
    obtain⟨_,_,m1,m2,m3,m4⟩:=old k b g hk hm (bk hk hm hg)
    exact⟨m1,m2,Nat.lt_of_lt_of_le m3 x.sz, .inl m4⟩
  ·rcases bM hk with hk | ⟨_,hk⟩
   ·rcases bM hk' with hk' | ⟨_,hk'⟩
    ·obtain⟨j,c,e1,h1,h2,h3,_⟩:=new k b g hk hm hg
     obtain⟨j',c',e1',h1',h2',h3',_⟩:=new k' b' g hk' hm' hg'
     have:=s.inj j j' c c' g h1 h1' h2 h2' h3 h3'
     rw [e1,e1',this]
    ·rw [ho k' (sS k' b' hk')]at hg'
     exact(cross k k' b b' g hk hk' hm hm' hg (bk hk' hm' hg')).elim
   ·rcases bM hk' with hk' | ⟨_,hk'⟩
    ·rw [ho k (sS k b hk)]at hg
     exact(cross k' k b' b g hk' hk hm' hm hg' (bk hk hm hg)).elim
    ·rw [ho k (sS k b hk)]at hg
     rw [ho k' (sS k' b' hk')]at hg'
     have h5:=old k b g hk hm (bk hk hm hg)
     have h6:=old k' b' g hk' hm' (bk hk' hm' hg')
     exact st.inj k k' b b' g h5.2.1 h6.2.1 hm hm' (bk hk hm hg) (bk hk' hm' hg')
  ·rcases bM hk with hk | ⟨_,hk⟩
   ·obtain⟨j,c,rfl,_,hj,rfl⟩:=zS hk
    have hj:=vX hon hj
    rw [(hs j (s.lab j c hj)).2]
    exact V4 hs (s.blk j c hj)
   ·rw [ho k (sS k b hk)]
    rcases nK hk with ⟨h1,_⟩ | ⟨hz,t,sz,l,h1,rfl⟩
    ·obtain⟨YE,h1⟩:=pI h1
     exact(st.blk k b h1).mono hE fun hm g hg=>s.gI.block g (st.mu k b g h1 hm hg).2.2.1 (QA k b g YE h1 hm hg)
    ·obtain⟨YE,h1⟩:=pI h1
     have hb:=(st.blk k _ h1).mono hE fun hm g hg=>s.gI.block g (st.mu k _ g h1 rfl hg).2.2.1 (QA k _ g YE h1 rfl hg)
     exact jM hb (fun _ h=>h) fun g hg=>(x.f g (.inr ⟨k,t,sz,l,hz,h1,hg⟩)).1
 exact⟨VW (Ip L n) a,n+(m-L.length),σn,F',_,hK,hst,hE,Jz hs ra⟩
theorem aH {f:FuncId}{args args':List AV}{H0:ak}{R:AV→Nat→ak→Prop}{K:AV→Nat→ak→Prop}(L:List Nat)(Z:List Nat)(hc:callable P f=true)(h:bD P G f args' L.length H0 R)
  (hwf:(Gm 0 L.length (jZ 0 L) Z H0&&hasAll H0 L.length)=true) (hH:Jp H (jZ 0 L) Z 0 H0) (ha:KY H (jZ 0 L) Z 0 args' args)
  (k : ∀a m H',R a m H'→once H'=true∧frc (n+(m-L.length)) (YD (Ip L n) H'++Bj Z (V5 L H)) fun n' jI=>K (VW (Ip L n) a) n' jI):qM P G f args n H K:=
 V6 L Z hc h hwf hH ha fun a m H' hR=>by have:=k a m H' hR;rwa [Qn]at this
end
def xJ (r:Option Nat):Fence:= {fn:=fun _=>True,depth:=none,alive:=false,round:=r}
theorem Gv {r:Option Nat}{n:Nat}{P:Program}{f:FuncId}{args:Array Value}{w:World}{R:Ending→World→Prop}(h:Calls P f args w R):CallsIn (xJ r) n P f args w R:=(callsIn_wide (n:=n)).2 h
theorem JA {r:Option Nat}{n:Nat}{P:Program}{row:String}{args:Array Value}{w:World}{R:Value→World→Prop}(h:Rows P row args w R):RowsIn (xJ r) n P row args w R:=
 fun c cs _=>let ⟨v,w',hr,s⟩:=h c cs;⟨v,w',hr,(stepsIn_wide (P:=P)).2 s⟩
def iC (o:Oper):Bool:=match o.op with | .defer _=>false | _=>true
theorem zT {o:Oper}(h:iC o=true) : ∀c,o.op≠ .defer c:=fun c e=>by unfold iC at h;rw [e]at h;cases h
section
variable {P:Program}{r:Option Nat}{n:Nat}{ops:Array Oper}{Q:Exit→Act→World→Prop}
theorem Em {o:Oper}{a:Act}{w:World}{next next':Act→World→Prop}(hd:iC o=true)(hn : ∀a w,next a w→next' a w)(h:o.wp P a w next Q):o.wpIn (xJ r) n P a w next' Q:=by
 refine⟨fun _ _=>trivial, ?_⟩
 have e:o.semAt (xJ r).round a.eval=execOp a.eval o:=Oper.semAt_plain (xJ r) _ o (zT hd)
 rw [e]
 unfold Oper.wp at h
 generalize (execOp a.eval o).run P w=res at *
 cases res with
 | ok x w'=>
  cases x with
  | value v=>exact hn _ _ h
  | skip=>exact hn _ _ h
  | defer d=>exact hn _ _ h
  | enter f args=>
   refine⟨(fun hh=>by cases hh),Gv (Calls.mono h fun e w'' he=> ?_)⟩
   cases e with
   | returned v=>exact hn _ _ he
   | panicked ch=>exact he
   | outgrown=>exact he
  | row row args=>exact⟨(fun hh=>by cases hh),JA (Rows.mono h fun v w'' he=>hn _ _ he)⟩
  | round l f tmps ars bo=>exact h.elim
  | _=>exact h.elim
 | halt x w'=>
  cases x with
  | panic v=>exact h
  | _=>exact h.elim
theorem QB (hq : ¬LetsOut Q) : ∀(l:List Nat),(∀i∈l, ∀o,ops[i]? = some o→iC o=true)→∀a w,wpOps P ops Q l a w→wpOpsIn (xJ r) n P ops Q l a w:=by
 intro l
 induction l with
 | nil=>intro _ a w h;exact h
 | cons i rest ih=>
  intro hd a w h
  have ih:=ih fun j hj=>hd j (List.mem_cons_of_mem _ hj)
  unfold wpOps at h
  unfold wpOpsIn
  cases ho:ops[i]? with
  | none=>rw [ho]at h;exact ih a w h
  | some o=>
   simp only [ho]at h ⊢
   split
   ·rename_i hw
    rw [if_pos hw]at h
    exact Em (hd i List.mem_cons_self o ho) ih (h.resolve_right fun hh=>hq hh.2)
   ·rename_i hw
    rw [if_neg hw]at h
    exact⟨fun _ _=>trivial,ih _ _ h⟩
theorem V7 (hq : ¬LetsOut Q){i:Nat}(hd : ∀(i:Nat) (o:Oper),ops[i]? = some o→iC o=true){a:Act}{w:World}{K K':Act→World→Prop}(hn : ∀a w,K a w→K' a w)(h:wpOp P ops Q i K a w):wpOpIn (xJ r) n P ops Q i K' a w:=by
 unfold Go.wpOp at h
 unfold Go.wpOpIn
 cases ho:ops[i]? with
 | none=>simp only [ho]at h ⊢;exact hn _ _ h
 | some o=>
  simp only [ho]at h ⊢
  split
  ·rename_i hw
   rw [if_pos hw]at h
   exact Em (hd i o ho) hn (h.resolve_right fun hh=>hq hh.2)
  ·rename_i hw
   rw [if_neg hw]at h
   exact⟨fun _ _=>trivial,hn _ _ h⟩
theorem sW (hq : ¬LetsOut Q){md:Region.Mode}(hd : ∀(i:Nat) (o:Oper),ops[i]? = some o→iC o=true) : ∀(fuel:Nat) (listed:Array Bool) (a:Act) (w:World),wpAny P md ops Q fuel listed a w→wpAnyIn (xJ r) n P md ops Q fuel listed a w:=by
 intro fuel
 induction fuel with
 | zero=>intro listed a w h;exact h
 | succ fuel ih=>intro listed a w h;exact⟨h.1,fun i hi=>V7 hq hd (fun a w=>ih _ a w) (h.2 i hi)⟩
end
structure Off (G:Glob)(w₀:World)(σ:Nat→Loc)(F:Nat→Prop)(H:ak)(w:World)(k:Nat):Prop where
 new:w₀.heap.size≤k
 nb:G.nb≤k
 lt:k<w.heap.size
 nf : ¬F k
 nm : ¬kQ w σ H k
section
variable {G:Glob}{w₀:World}{aK aN:Nat→Prop}{n n':Nat}{σ σ':Nat→Loc}{F F':Nat→Prop}{H H':ak}{w w':World}{k:Nat}
theorem Off.step (h:Off G w₀ σ F H w k)(s:St G w (kQ w σ H) F n' σ' F' H' w'):Off G w₀ σ' F' H' w' k∧w'.heap[k]? = w.heap[k]? :=by
 refine⟨⟨h.new,h.nb,Nat.lt_of_lt_of_le h.lt s.gI.size,fun hf=> ?_,fun⟨aT,blk,h1,h2,h3⟩=> ?_⟩,s.gI.block k h.lt h.nm⟩
 ·have hl:=h.lt
  rcases(s.dL k hf).2 with e | e | e
  ·exact h.nf e
  ·omega
  ·exact h.nm e
 ·have hl:=h.lt
  rcases(s.mu aT blk k h1 h2 h3).2.2.2 with e | e
  ·exact h.nm e
  ·omega
theorem sZ (o:Obj)(nf : ¬F k):Ext n σ F w n σ F (w.putObj k o):=
 ⟨Nat.le_refl _,fun _ _=>rfl,fun b hb=>⟨hb,World.putObj_heap_other fun e=>nf (e▸hb)⟩,Nat.le_of_eq World.putObj_size.symm⟩
theorem St.put (st:St G w₀ aK aN n σ F H w)(h:Off G w₀ σ F H w k)(o:Obj):St G w₀ aK aN n σ F H (w.putObj k o):=by
 have hs:(w.putObj k o).heap.size=w.heap.size:=World.putObj_size
 have hb : ∀b,b≠k→(w.putObj k o).heap[b]? = w.heap[b]? :=fun b hb=>World.putObj_heap_other hb
 have hk:=h.nb
 have hn:=h.new
 have bk : ∀ {aT b g},look H aT=some b→b.own=true→iL (w.putObj k o) (σ aT) b g→iL w (σ aT) b g:=fun h1 hm hg=>hg.back fun y hy=>hb y fun e=>h.nm ⟨_,_,h1,hm, .inl (e▸hy)⟩
 refine⟨Glob.gI st.glob (Nat.le_of_eq hs.symm) fun b hb'=>hb b (by omega),⟨st.gI.os,st.gI.tape,st.gI.output,by rw [hs];exact st.gI.size,fun b h1 h2=>(hb b (by omega)).trans (st.gI.block b h1 h2)⟩,fun b hb'=>⟨by rw [hs];exact(st.dL b hb').1,(st.dL b hb').2⟩,st.lab,fun aT b g h1 h2 h3=> ?_,fun e e' b b' g h1 h2 m1 m2 g1 g2=>st.inj e e' b b' g h1 h2 m1 m2 (bk h1 m1 g1) (bk h2 m2 g2),fun aT b h1=> ?_⟩
 ·obtain⟨a1,a2,a3,a4⟩:=st.mu aT b g h1 h2 (bk h1 h2 h3)
  exact⟨a1,a2,by rw [hs];exact a3,a4⟩
 ·exact(st.blk aT b h1).mono (sZ o h.nf) fun hm g hg=>hb g fun e=>h.nm ⟨aT,b,h1,hm,e▸hg⟩
theorem Off.put (h:Off G w₀ σ F H w k){l:Nat}{w₁:World}(hl:Off G w₁ σ F H w l)(o:Obj):Off G w₀ σ F H (w.putObj l o) k:=
 ⟨h.new,h.nb,by rw [World.putObj_size];exact h.lt,h.nf,fun⟨e,b,h1,h2,h3⟩=>h.nm ⟨e,b,h1,h2,h3.back fun y hy=>World.putObj_heap_other fun e'=>by subst e';exact hl.nm ⟨e,b,h1,h2, .inl hy⟩⟩⟩
theorem zU (st:St G w₀ aK aN n σ F H w)(hB:Below w.heap.size w w'):Ext n σ F w n σ F w':=⟨Nat.le_refl _,fun _ _=>rfl,fun b hb=>⟨hb,hB.block b (st.dL b hb).1⟩,hB.size⟩
theorem St.grow (st:St G w₀ aK aN n σ F H w)(hB:Below w.heap.size w w'):St G w₀ aK aN n σ F H w':=by
 have h0:=st.gI.size
 have bk : ∀ {aT b g},look H aT=some b→b.own=true→iL w' (σ aT) b g→iL w (σ aT) b g:=fun h1 hm hg=>hg.back fun y hy=>hB.block y (st.mu _ _ y h1 hm (.inl hy)).2.2.1
 refine⟨Glob.gI st.glob hB.size fun b hb=>hB.block b (Nat.lt_of_lt_of_le hb st.glob.1),⟨hB.os.trans st.gI.os,hB.tape.trans st.gI.tape,hB.output.trans st.gI.output,Nat.le_trans h0 hB.size,fun b h1 h2=>(hB.block b (by omega)).trans (st.gI.block b h1 h2)⟩,fun b hb=>⟨Nat.lt_of_lt_of_le (st.dL b hb).1 hB.size,(st.dL b hb).2⟩,st.lab,fun aT b g h1 h2 h3=> ?_,fun e e' b b' g h1 h2 m1 m2 g1 g2=>st.inj e e' b b' g h1 h2 m1 m2 (bk h1 m1 g1) (bk h2 m2 g2),fun aT b h1=> ?_⟩
 ·obtain⟨a1,a2,a3,a4⟩:=st.mu aT b g h1 h2 (bk h1 h2 h3)
  exact⟨a1,a2,Nat.lt_of_lt_of_le a3 hB.size,a4⟩
 ·exact(st.blk aT b h1).mono (zU st hB) fun hm g hg=>hB.block g (st.mu aT b g h1 hm hg).2.2.1
theorem Off.grow (h:Off G w₀ σ F H w k)(st:St G w₀ aK aN n σ F H w)(hB:Below w.heap.size w w'):Off G w₀ σ F H w' k:=
 ⟨h.new,h.nb,Nat.lt_of_lt_of_le h.lt hB.size,h.nf,fun⟨e,b,h1,h2,h3⟩=>h.nm ⟨e,b,h1,h2,h3.back fun y hy=>hB.block y (st.mu _ _ y h1 h2 (.inl hy)).2.2.1⟩⟩
end
def mark (D:Nat):Deferred:= {target:= .collected D,args:= #[]}
structure MK (G:Glob)(w₀:World)(L:List Nat)(σ:Nat→Loc)(F:Nat→Prop)(H:ak)(w:World):Prop where
 nodup:L.Nodup
 off : ∀D∈L,Off G w₀ σ F H w D
 obj : ∀D∈L,w.heap[D]? = some (.deferred (some []))
theorem MK.nil {G:Glob}{w₀:World}{σ:Nat→Loc}{F:Nat→Prop}{H:ak}{w:World} : MK G w₀ [] σ F H w:=⟨List.nodup_nil,fun _ h=>(by cases h),fun _ h=>(by cases h)⟩
theorem MK.step {G:Glob}{w₀:World}{L:List Nat}{n':Nat}{σ σ':Nat→Loc}{F F':Nat→Prop}{H H':ak}{w w':World}(h:MK G w₀ L σ F H w)(s:St G w (kQ w σ H) F n' σ' F' H' w'):MK G w₀ L σ' F' H' w':=
 ⟨h.nodup,fun D hD=>((h.off D hD).step s).1,fun D hD=>((h.off D hD).step s).2.trans (h.obj D hD)⟩
theorem Gw {P:Program}{fn:Func}{tmps:Array Value}{R:Ending→World→Prop}{G:Glob}{w₀:World}{aK aN:Nat→Prop}{n:Nat}{σ:Nat→Loc}{F:Nat→Prop}{H:ak} :
  ∀(L:List Nat) (w:World),MK G w₀ L σ F H w→St G w₀ aK aN n σ F H w→(∀w',St G w₀ aK aN n σ F H w'→Ext n σ F w n σ F w'→LeavesIn (xJ none) 0 P fn tmps R [] .returning w')→LeavesInM (xJ none) 0 P fn tmps R (L.map mark) .returning w:=by
 intro L
 induction L with
 | nil=>intro w _ st h;exact h w st (Ext.refl _ _ _ _)
 | cons D L ih=>
  intro w hm st h
  have ho:=hm.off D List.mem_cons_self
  have hnd:=List.nodup_cons.1 hm.nodup
  refine⟨(by simp), .inl ⟨D,_,rfl,run_takeDeferred (hm.obj D List.mem_cons_self),ih _ ⟨hnd.2,fun D' h'=>(hm.off D' (List.mem_cons_of_mem _ h')).put ho _,fun D' h'=> ?_⟩ (st.put ho _) fun w' s x=>h w' s ((sZ _ ho.nf).trans x)⟩⟩
  rw [World.putObj_heap_other (fun e:D'=D=>hnd.1 (e▸h'))]
  exact hm.obj D' (List.mem_cons_of_mem _ h')
def AIt (P:Program)(G:Glob)(gf:FuncId)(caps:List AV)(xs:List (List AV)):Prop:=
 ∀(n:Nat) (σ:Nat→Loc) (F:Nat→Prop) (vs:List Value) (W:World) (l:Nat) (J:Nat→World→Prop),G.holds W→(∀b,F b→b<W.heap.size)→bJ n σ F W caps vs→
  (∀i W' W'',J i W'→Below W'.heap.size W' W''→J i W'')→
  (∀i W',J i W'→W.heap.size≤W'.heap.size∧G.holds W'∧∀b,F b→W'.heap[b]? = W.heap[b]?)→
  (∀i x W' args,xs[i]? = some x→J i W'→bJ n σ F W' x args→YieldAt (xJ none) 0 P l args.toArray W' fun e W''=>e = .returned (.bool true)∧J (i+1) W'')→
  J 0 W→CallsIn (xJ none) 0 P gf (#[.func (.yield l) #[] #[]]++vs.toArray) W fun e W'=>(∃v,e = .returned v)∧J xs.length W'
def zV (ρ:aJ)(ps:List Tmp)(x:List AV):aJ:=
 match ps,x with
 | p::ps,a::x=>zV (jW ρ p a) ps x
 | _,_=>ρ
def Ll (K:aJ→Nat→ak→Prop)(e:Ex)(ρ:aJ)(n:Nat)(H:ak):Prop:=
 match e with
 | .normal=>K ρ n H
 | _=>False
structure QC (P:Program)(G:Glob)(gv:AV)(ps:Array Tmp)(A B:(Ex→aJ→Nat→ak→Prop)→aJ→Nat→ak→Prop)(Q:Ex→aJ→Nat→ak→Prop)(ρ:aJ)(n:Nat)(H:ak):Prop where
 ex : ∃(gf:FuncId) (caps:List AV) (xs:List (List AV)) (nl:Nat) (Hs:Nat→ak),gv = .fn (.func gf) [] caps∧callable P gf=true∧AIt P G gf caps xs∧n≤nl∧(∀x∈xs,x.length=ps.size)∧
  CJ G (fun _=>false) n ρ n H ρ nl (Hs 0)∧
  (∀i x,xs[i]? = some x→A (Ll (B (Ll fun ρ' n' H'=>zF (CJ G (fun _=>false) n ρ' n' H' ρ nl (Hs (i+1)))))) (zV ρ ps.toList x) nl (Hs i))∧
  Q .normal ρ nl (Hs xs.length)
def aY (P:Program)(G:Glob)(c:Code)(Q:Ex→aJ→Nat→ak→Prop)(ρ:aJ)(n:Nat)(H:ak):Prop:=
 match c with
 | .skip=>Q .normal ρ n H
 | .region id ops draw=>(match draw with
  | false=>NP P G ops.toList ops.toList ρ n H (Q .normal)
  | true=>qN P G id ops (Q .normal) ρ n H)
 | .seq a b=>aY P G a (ab5 (aY P G b) Q) ρ n H
 | .cond c t e=>(match dO ρ c with
  | .v (.bool b)=>E5 b (aY P G t Q ρ n H) (aY P G e Q ρ n H)
  | _=>False)
 | .block id body=>aY P G body (UR id Q) ρ n H
 | .loop body=>KW G body (aY P G body) Q ρ n H
 | .exit id=>Q (.exit id) ρ n H
 | .ret=>Q .ret ρ n H
 | .rangeFunc g ps assign body=>QC P G (dO ρ g) ps (aY P G assign) (aY P G body) Q ρ n H
 | _=>False
def fK (rf:Bool)(N:Nat)(W:Nat→Bool):Code→Bool
 | .region _ ops _=>ops.toList.all fun o=>iG N W o&&mV o&&iC o
 | .seq a b=>fK rf N W a&&fK rf N W b
 | .cond _ a b=>fK rf N W a&&fK rf N W b
 | .block _ b=>fK rf N W b
 | .loop b=>fK rf N W b
 | .skip | .exit _ | .ret=>true
 | .rangeFunc _ ps a b=>rf&&ps.toList.all (Nat.blt · N)&&fK false N (fun _=>true) a&&fK false N (fun _=>true) b
 | _=>false
theorem wZ {rf:Bool}{N:Nat}{W ws:Nat→Bool} : ∀c:Code,fK rf N W c=true→writesIn ws c=true→fK rf N (fun k=>W k&&ws k) c=true:=by
 intro c
 induction c with
 | region id ops d=>
  intro h1 h2
  simp only [fK,writesIn,List.all_eq_true,Bool.and_eq_true]at *
  intro o ho
  obtain⟨⟨a1,a3⟩,a4⟩:=h1 o ho
  have a2:=h2 o ho
  refine⟨⟨?_,a3⟩,a4⟩
  unfold iG at *
  unfold Uw at a2
  cases hd:o.dst with
  | none=>rfl
  | some d=>simp only [hd,Bool.and_eq_true]at a1 a2 ⊢;exact⟨a1.1,a1.2,a2⟩
 | seq a b iha ihb=>intro h1 h2;simp only [fK,writesIn,Bool.and_eq_true]at *;exact⟨iha h1.1 h2.1,ihb h1.2 h2.2⟩
 | cond c a b iha ihb=>intro h1 h2;simp only [fK,writesIn,Bool.and_eq_true]at *;exact⟨iha h1.1 h2.1,ihb h1.2 h2.2⟩
 | block id b ih=>intro h1 h2;simp only [fK,writesIn]at *;exact ih h1 h2
 | loop b ih=>intro h1 h2;simp only [fK,writesIn]at *;exact ih h1 h2
 | skip=>intro _ _;rfl
 | exit id=>intro _ _;rfl
 | ret=>intro _ _;rfl
 | rangeFunc g ps a b _ _=>intro h1 _;exact h1
 | scope b _=>intro h1 _;simp [fK]at h1
 | label l=>intro h1 _;simp [fK]at h1
 | _=>intro h1 h2;simp [writesIn]at h2
structure AtY (G:Glob)(w₀:World)(aK aN:Nat→Prop)(N:Nat)(Lp:List Nat→Prop)(W:Nat→Bool)(aB:aU)(nb:Nat)(iy:Nat→Loc)(Fb:Nat→Prop)(wb:World)(K:aJ→Nat→ak→Prop)(a:Act)(w:World):Prop where
 ex : ∃L ρ cZ n σ F H,Lp L∧Fits N (L.map mark) ρ a∧Same W aB ρ∧St G w₀ aK aN n σ F H w∧Ext nb iy Fb wb n σ F w∧iM n σ F w cZ ρ∧MK G w₀ L σ F H w∧K cZ n H
def AQY (G:Glob)(w₀:World)(aK aN:Nat→Prop)(N:Nat)(Lp:List Nat→Prop)(W:Nat→Bool)(aB:aU)(nb:Nat)(iy:Nat→Loc)(Fb:Nat→Prop)(wb:World)(Q:Ex→aJ→Nat→ak→Prop):Exit→Act→World→Prop
 | .normal,a,w=>AtY G w₀ aK aN N Lp W aB nb iy Fb wb (Q .normal) a w
 | .exit id,a,w=>AtY G w₀ aK aN N Lp W aB nb iy Fb wb (Q (.exit id)) a w
 | .ret,a,w=>AtY G w₀ aK aN N Lp W aB nb iy Fb wb (Q .ret) a w
 | _,_,_=>False
theorem tq {F:Fence}{n:Nat}{P:Program}{c:Code}{Q:Exit→Act→World→Prop}{a:Act}{w:World}(I:Nat→Act→World→Prop)(m:Nat)(h₀:I m a w)
  (round : ∀m a w,I m a w→c.wpIn F n P (Exit.then (fun a' w'=> ∃m',m'<m∧I m' a' w') Q) a w):(Code.loop c).wpIn F n P Q a w:=by
 intro b k cs hro hb hr
 have key : ∀m a w,I m a w→∃e a' w',Q e a' w'∧ArrivesIn (Machine.fenced P F) P (lone (b.atR a (.code c:: .inLoop c::k)) cs w) b k cs e a' w':=by
  intro m
  induction m using Nat.strongRecOn with
  | _ m ih=>
   intro a w hI
   obtain⟨e,a₁,w₁,hq,harr⟩:=round m a w hI b (.inLoop c::k) cs hro hb hr
   cases e with
   | normal=>
    obtain⟨m',hlt,hI₁⟩:=hq
    obtain⟨e₂,a₂,w₂,hq₂,harr₂⟩:=ih m' hlt a₁ w₁ hI₁
    exact⟨e₂,a₂,w₂,hq₂, .of_steps (StepsIn.trans harr (.one (fenced_calm hb hr rfl) stepR_inLoop)) harr₂⟩
   | exit id=>exact⟨_,a₁,w₁,hq, .pass (x:= .inLoop c) rfl (fun _ _=> .inl (by simp)) harr⟩
   | goto l=>exact⟨_,a₁,w₁,hq, .pass (x:= .inLoop c) rfl (fun _ _=> .inl (by simp)) harr⟩
   | ret=>exact⟨_,a₁,w₁,hq, .pass (x:= .inLoop c) rfl (fun _ _=> .inl (by simp)) harr⟩
   | panic ch=>exact⟨_,a₁,w₁,hq, .pass (x:= .inLoop c) rfl (fun _ _=> .inl (by simp)) harr⟩
   | outgrown=>exact⟨_,a₁,w₁,hq, .pass (x:= .inLoop c) rfl (fun _ _=> .inl (by simp)) harr⟩
 obtain⟨e,a',w',hq,harr⟩:=key m a w h₀
 exact⟨e,a',w',hq, .of_steps (.one (fenced_calm hb hr rfl) stepR_loop) harr⟩
section
variable {P:Program}{G:Glob}{N:Nat}
theorem Fits.zV {n:Nat}{σ:Nat→Loc}{F:Nat→Prop}{w:World} : ∀(ps:List Tmp) (x:List AV) (vs:List Value) (cZ:aJ) (ρ:aU) (t:Array Value),(∀p∈ps,p<N)→x.length=ps.length→bJ n σ F w x vs→Fits N [] ρ {tmps:=t,defers:= []} →iM n σ F w cZ ρ→
  ∃ρ',Fits N [] ρ' {tmps:=(ps.zip vs).foldl (fun t (p,v)=>t.setIfInBounds p v) t,defers:= []} ∧iM n σ F w (Ax.zV cZ ps x) ρ':=by
 intro ps
 induction ps with
 | nil=>intro x vs cZ ρ t _ _ _ hf hr;exact⟨ρ,hf,by cases x<;>exact hr⟩
 | cons p ps ih=>
  intro x vs cZ ρ t hp hl r hf hr
  cases x with
  | nil=>simp at hl
  | cons a x=>
   cases vs with
   | nil=>exact r.elim
   | cons v vs=>
    have h1:=hf.put (some p) v (fun t e=>by cases e;exact hp p List.mem_cons_self)
    have h2:=gV (d:=some p) hr (Ext.refl _ _ _ _) r.1
    exact ih x vs (jW cZ p a) (upd ρ p v) (t.setIfInBounds p v) (fun q hq=>hp q (List.mem_cons_of_mem _ hq)) (by simpa using hl) r.2 h1 h2
end
section
variable {P:Program}{G:Glob}{w₀:World}{aK aN:Nat→Prop}{N:Nat}{ds:List Deferred}{W:Nat→Bool}{ops:Array Oper}{aB:aU}
variable {nb:Nat}{iy:Nat→Loc}{Fb:Nat→Prop}{wb:World}
theorem qN.En {r:Option Nat}{id:Nat}{K:aJ→Nat→ak→Prop}{cZ:aJ}{n:Nat}{σ:Nat→Loc}{F:Nat→Prop}{H:ak}{ρ:aU}{a:Act}{w:World}(hm:P.follows .mixedOrders=true)(hok : ∀o∈ops.toList,iG N W o=true∧mV o=true)(hnd : ∀(i:Nat) (o:Oper),ops[i]? = some o→iC o=true)
  (hf:Fits N ds ρ a) (hs:Same W aB ρ) (st:St G w₀ aK aN n σ F H w) (x:Ext nb iy Fb wb n σ F w) (hr:iM n σ F w cZ ρ) (h:qN P G id ops K cZ n H) :
  (Code.region id ops true).wpIn (xJ r) 0 P (RA (DZ G w₀ aK aN N ds W aB nb iy Fb wb K)) a w:=by
 have e:=zD n σ F w
 rcases h.ex with ⟨p,D,hd,hv⟩ | ⟨p,D,ws,ρ',n',H',hd,hws,hle,hun,hv,hk⟩ | ⟨T,ts,ns,p,e',D,ws,A,hd,hws,hle,hun,h0,hstep,hE⟩
 ·simp only [mF,mO,Bool.and_eq_true]at hd
  obtain⟨⟨⟨hsel,uY⟩,hp⟩,hpo⟩:=hd
  exact wpIn_region_any hm (sW (fun⟨_,_,h⟩=>h) hnd _ _ _ _ (jr _ _ _ _ _ _ (pF hsel hok p D (takes p) _ cZ n σ F H ρ a w.drew hp hpo (fun j o _ hl=>by rw [lq]at hl;cases hl) hf hs st.drew (x.trans e) (fun s=>(hr s).mono e) hv ops.size (Nat.le_of_ble_eq_true uY))))
 ·simp only [mF,mO,Bool.and_eq_true]at hd
  obtain⟨⟨⟨hsel,uY⟩,hp⟩,hpo⟩:=hd
  have hok2 : ∀o∈ops.toList,iG N (fun k=>W k&&ws k) o=true∧mV o=true:=fun o ho=>by
   refine⟨?_,(hok o ho).2⟩
   have h1:=(hok o ho).1
   have h2:=List.all_eq_true.1 hws o ho
   unfold iG at h1 ⊢
   cases hd:o.dst with
   | none=>rfl
   | some d=>
    rw [hd]at h1 h2
    simp only [Bool.and_eq_true]at h1 ⊢
    exact⟨h1.1,h1.2,h2⟩
  have hr':iM n σ F w.drew cZ ρ:=fun s=>(hr s).mono e
  refine Go.wpIn_mono (wpIn_region_any hm (sW (fun⟨_,_,h⟩=>h) hnd _ _ _ _ (jr _ _ _ _ _ _ (pF (W:=fun k=>W k&&ws k) (aB:=ρ) (nb:=n) (iy:=σ) (Fb:=F) (wb:=w.drew) hsel hok2 p D (takes p) _ cZ n σ F H ρ a w.drew hp hpo (fun j o _ hl=>by rw [lq]at hl;cases hl) hf (Same.refl _ _) st.drew (Ext.refl _ _ _ _) hr' hv ops.size (Nat.le_of_ble_eq_true uY))))) fun ex a' w' hq=> ?_
  cases ex with
  | normal=>
   obtain⟨Gg,Zp,n₁,σ₁,D5,H₁,Qe,hs₁,Qg,x₁,Qh,Qi⟩:=hq
   obtain⟨σ',F',s',r',l',f'⟩:=Qi.holds w₀ aK aN σ₁ D5 w' Gg Qg fun s _=>Qh s
   have x':Ext n σ F w.drew n' σ' F' w':=⟨hle,fun l hl=>(l' l hl).trans (x₁.s l hl),fun b hb=>⟨f' b (x₁.f b hb).1,(x₁.f b hb).2⟩,x₁.sz⟩
   refine⟨Gg,ρ',n',σ',F',H',Qe,hs.trans fun k hk=>hs₁ k (by simp [hk]),s',(x.trans e).trans x',fun s=> ?_,hk⟩
   cases Jl:ws s with
   | true=>exact r' s Jl
   | false=>
    rw [hun s Jl,hs₁ s (by simp [Jl])]
    exact(hr' s).mono x'
  | exit id=>exact hq.elim
  | ret=>exact hq.elim
  | goto l=>exact hq.elim
  | panic ch=>exact hq.elim
  | outgrown=>exact hq.elim
 ·exact wpIn_region_any hm (sW (fun⟨_,_,h⟩=>h) hnd _ _ _ _ (KU hok hf hs st x hr hd hws hle hun h0 hstep hE))
end
section
variable {P:Program}{G:Glob}{N:Nat}
theorem QD (hm:P.follows .mixedOrders=true) : ∀(c:Code) (rf:Bool) (r:Option Nat) (Lp:List Nat→Prop) (W:Nat→Bool) (Q:Ex→aJ→Nat→ak→Prop) (cZ:aJ) (n:Nat) (H:ak) (ρ aB:aU) (a:Act) (w:World) (σ:Nat→Loc) (F:Nat→Prop) (nb:Nat) (iy:Nat→Loc) (Fb:Nat→Prop) (wb:World) (L:List Nat) (w₀:World) (aK aN:Nat→Prop),
  (rf=true→r=none∧∀D L,Lp L→Lp (D::L))→fK rf N W c=true→Lp L→Fits N (L.map mark) ρ a→Same W aB ρ→St G w₀ aK aN n σ F H w→Ext nb iy Fb wb n σ F w→iM n σ F w cZ ρ→MK G w₀ L σ F H w→aY P G c Q cZ n H→c.wpIn (xJ r) 0 P (AQY G w₀ aK aN N Lp W aB nb iy Fb wb Q) a w:=by
 intro c
 induction c with
 | skip=>intro rf r Lp W Q cZ n H ρ aB a w σ F nb iy Fb wb L w₀ aK aN _ _ hlp hf hs st x hr mk h;exact wpIn_skip ⟨L,ρ,cZ,n,σ,F,H,hlp,hf,hs,st,x,hr,mk,h⟩
 | region id ops draw=>
  intro rf r Lp W Q cZ n H ρ aB a w σ F nb iy Fb wb L w₀ aK aN _ hc hlp hf hs st x hr mk h
  have hok0 : ∀o∈ops.toList,(iG N W o=true∧mV o=true)∧iC o=true:=by simpa only [fK,List.all_eq_true,Bool.and_eq_true]using hc
  have hok:=fun o ho=>(hok0 o ho).1
  have hnd : ∀(i:Nat) (o:Oper),ops[i]? = some o→iC o=true:=fun i o ho=>(hok0 o (by rw [←Array.getElem?_toList]at ho;exact List.mem_of_getElem? ho)).2
  have mono : ∀e a' w',RA (DZ G w (kQ w σ H) F N (L.map mark) W aB n σ F w (Q .normal)) e a' w'→AQY G w₀ aK aN N Lp W aB nb iy Fb wb Q e a' w':=fun e a' w' hq=>by
   cases e with
   | normal=>
    obtain⟨ρ',dQ,n',σ',F',H',hf',hs',st',x',hr',hk⟩:=hq
    exact⟨L,ρ',dQ,n',σ',F',H',hlp,hf',hs',st.back st',x.trans x',hr',mk.step st',hk⟩
   | exit id=>exact hq.elim
   | goto l=>exact hq.elim
   | ret=>exact hq.elim
   | panic ch=>exact hq.elim
   | outgrown=>exact hq.elim
  cases draw with
  | false=>
   refine Go.wpIn_mono (wpIn_region (QB (fun⟨_,_,h⟩=>h) _ (fun i _ o ho=>hnd i o ho) _ _ ?_)) mono
   have hlen:ops.toList.length=ops.size:=by simp
   rw [List.range_eq_range', ←hlen]
   exact zA (K:=Q .normal) (Q:=RA (DZ G w (kQ w σ H) F N (L.map mark) W aB n σ F w (Q .normal))) (fun a' w' h=>h) ops.toList 0 cZ n σ F H ρ a w (fun j=>by rw [Nat.zero_add]) hok hf hs st.start (Ext.refl _ _ _ _) hr h
  | true=>exact Go.wpIn_mono (qN.En hm hok hnd hf hs st.start (Ext.refl _ _ _ _) hr h) mono
 | seq c1 c2 ih1 ih2=>
  intro rf r Lp W Q cZ n H ρ aB a w σ F nb iy Fb wb L w₀ aK aN hrf hc hlp hf hs st x hr mk h
  simp only [fK,Bool.and_eq_true]at hc
  refine wpIn_seq (Go.wpIn_mono (ih1 rf r Lp W _ cZ n H ρ aB a w σ F nb iy Fb wb L w₀ aK aN hrf hc.1 hlp hf hs st x hr mk h) fun e a' w' hq=> ?_)
  cases e with
  | normal=>
   obtain⟨L',ρ',dQ,n',σ',F',H',Gx,hf',hs',st',x',hr',mk',hv⟩:=hq
   exact ih2 rf r Lp W Q dQ n' H' ρ' aB a' w' σ' F' nb iy Fb wb L' w₀ aK aN hrf hc.2 Gx hf' hs' st' x' hr' mk' hv
  | exit id=>exact hq
  | ret=>exact hq
  | goto l=>exact hq
  | panic ch=>exact hq
  | outgrown=>exact hq
 | cond c c1 c2 ih1 ih2=>
  intro rf r Lp W Q cZ n H ρ aB a w σ F nb iy Fb wb L w₀ aK aN hrf hc hlp hf hs st x hr mk h
  simp only [fK,Bool.and_eq_true]at hc
  simp only [aY]at h
  split at h
  ·rename_i b hb
   have rc:=bG hr c
   rw [hb]at rc
   refine wpIn_cond (t:=b) (by rw [hf.eval];exact rc.dH) ?_
   cases b with
   | true=>exact ih1 rf r Lp W Q cZ n H ρ aB a w σ F nb iy Fb wb L w₀ aK aN hrf hc.1 hlp hf hs st x hr mk h
   | false=>exact ih2 rf r Lp W Q cZ n H ρ aB a w σ F nb iy Fb wb L w₀ aK aN hrf hc.2 hlp hf hs st x hr mk h
  ·exact h.elim
 | block id b ih=>
  intro rf r Lp W Q cZ n H ρ aB a w σ F nb iy Fb wb L w₀ aK aN hrf hc hlp hf hs st x hr mk h
  refine wpIn_block (Go.wpIn_mono (ih rf r Lp W _ cZ n H ρ aB a w σ F nb iy Fb wb L w₀ aK aN hrf hc hlp hf hs st x hr mk h) fun e a' w' hq=> ?_)
  cases e with
  | normal=>exact hq
  | exit j=>
   obtain⟨L',ρ',dQ,n',σ',F',H',Gx,hf',hs',st',x',hr',mk',hv⟩:=hq
   simp only [UR]at hv
   simp only [Exit.inBlock]
   by_cases hj:j=id
   ·subst hj
    rw [Nat.beq_refl,cond_true]at hv
    simp only [if_true]
    exact⟨L',ρ',dQ,n',σ',F',H',Gx,hf',hs',st',x',hr',mk',hv⟩
   ·have hb:Nat.beq j id=false:=by
     cases hb:Nat.beq j id with
     | false=>rfl
     | true=>exact absurd (Nat.eq_of_beq_eq_true hb) hj
    rw [hb,cond_false]at hv
    rw [if_neg hj]
    exact⟨L',ρ',dQ,n',σ',F',H',Gx,hf',hs',st',x',hr',mk',hv⟩
  | ret=>exact hq
  | goto l=>exact hq
  | panic ch=>exact hq
  | outgrown=>exact hq
 | loop b ih=>
  intro rf r Lp W Q cZ n H ρ aB a w σ F nb iy Fb wb L w₀ aK aN hrf hc hlp hf hs st x hr mk0 h
  obtain⟨ws,I,nl,hw,hle,Zq,⟨m0,ρ0,H0,hI0,Gi⟩,Jo⟩:=h.ex
  have hc':=wZ b hc hw
  let J:Nat→Act→World→Prop:=fun m a' w'=> ∃L' ρ' dQ σ' F' H',Lp L'∧Fits N (L'.map mark) ρ' a'∧Same (fun k=>W k&&ws k) ρ ρ'∧I m dQ H'∧St G w₀ aK aN nl σ' F' H' w'∧Ext n σ F w nl σ' F' w'∧iM nl σ' F' w' dQ ρ'∧MK G w₀ L' σ' F' H' w'
  have mk : ∀m L' (ρ':aU) (dQ fA:aJ) n' (σ':Nat→Loc) (F':Nat→Prop) H' H₁ a' w',Lp L'→Fits N (L'.map mark) ρ' a'→Same (fun k=>W k&&ws k) ρ ρ'→St G w₀ aK aN n' σ' F' H' w'→Ext n σ F w n' σ' F' w'→iM n' σ' F' w' dQ ρ'→MK G w₀ L' σ' F' H' w'→
    I m fA H₁→CJ G ws n dQ n' H' fA nl H₁→J m a' w':=by
   intro m L' ρ' dQ fA n' σ' F' H' H₁ a' w' Gx hf' hs' st' x' hr' mk' hI Zr
   obtain⟨σ₁,D5,s1,r1,l1,f1⟩:=Zr w' (kQ w' σ' H') F' σ' F' w' ρ' st'.start fun s _=>hr' s
   have x1:Ext n σ F w nl σ₁ D5 w':=⟨hle,fun l hl=>(l1 l hl).trans (x'.s l hl),fun b hb=>⟨f1 b (x'.f b hb).1,(x'.f b hb).2⟩,x'.sz⟩
   refine⟨L',ρ',fA,σ₁,D5,H₁,Gx,hf',hs',hI,st'.back s1,x1,fun s=> ?_,mk'.step s1⟩
   cases hws:ws s with
   | true=>exact r1 s hws
   | false=>
    rw [Zq m fA H₁ hI s hws,hs' s (by simp [hws])]
    exact(hr s).mono x1
  refine tq J m0 (mk m0 L ρ cZ ρ0 n σ F H H0 a w hlp hf (Same.refl _ _) st (Ext.refl _ _ _ _) hr mk0 hI0 Gi) fun m a' w' ⟨L',ρ',dQ,σ',F',H',Gx,hf',hs',hI,st',x',hr',mk'⟩=> ?_
  refine Go.wpIn_mono (ih rf r Lp (fun k=>W k&&ws k) _ dQ nl H' ρ' ρ a' w' σ' F' n σ F w L' w₀ aK aN hrf hc' Gx hf' hs' st' x' hr' mk' (Jo m dQ H' hI)) fun e a'' w'' hq=> ?_
  have up : ∀ {fD},Same (fun k=>W k&&ws k) ρ fD→Same W aB fD:=fun h'=>hs.trans fun k hk=>h' k (by simp [hk])
  cases e with
  | normal=>
   obtain⟨L'',fD,lK,n'',qC,Il,jI,Gy,lu,lC,zG,x'',zH,mk'',hv⟩:=hq
   obtain⟨m',hlt,fA,H₁,hI₁,D7⟩:=hv.holds
   exact⟨m',hlt,mk m' L'' fD lK fA n'' qC Il jI H₁ a'' w'' Gy lu lC zG x'' zH mk'' hI₁ D7⟩
  | exit id=>obtain⟨L'',fD,lK,n'',qC,Il,jI,Gy,lu,lC,zG,x'',zH,mk'',hv⟩:=hq;exact⟨L'',fD,lK,n'',qC,Il,jI,Gy,lu,up lC,zG,x.trans x'',zH,mk'',hv⟩
  | ret=>obtain⟨L'',fD,lK,n'',qC,Il,jI,Gy,lu,lC,zG,x'',zH,mk'',hv⟩:=hq;exact⟨L'',fD,lK,n'',qC,Il,jI,Gy,lu,up lC,zG,x.trans x'',zH,mk'',hv⟩
  | goto l=>exact hq
  | panic ch=>exact hq
  | outgrown=>exact hq
 | exit id=>intro rf r Lp W Q cZ n H ρ aB a w σ F nb iy Fb wb L w₀ aK aN _ _ hlp hf hs st x hr mk h;exact Go.wpIn_exit ⟨L,ρ,cZ,n,σ,F,H,hlp,hf,hs,st,x,hr,mk,h⟩
 | ret=>intro rf r Lp W Q cZ n H ρ aB a w σ F nb iy Fb wb L w₀ aK aN _ _ hlp hf hs st x hr mk h;exact Go.wpIn_ret ⟨L,ρ,cZ,n,σ,F,H,hlp,hf,hs,st,x,hr,mk,h⟩
 | rangeFunc g ps assign body iha ihb=>
  intro rf r Lp W Q cZ n H ρ aB a w σ F nb iy Fb wb L w₀ aK aN hrf hc hlp hf hs st x hr mk h
  obtain⟨gf,caps,xs,nl,Hs,hgv,aef,hit,hle,hxl,Gi,hbody,hdone⟩:=h.ex
  simp only [fK,Bool.and_eq_true,List.all_eq_true]at hc
  obtain⟨⟨⟨aeg,hps⟩,hca⟩,hcb⟩:=hc
  have aeh : ∀p∈ps.toList,p<N:=fun p hp=>Nat.le_of_ble_eq_true (hps p hp)
  obtain⟨rfl,hLp⟩:=hrf aeg
  have rg:=bG hr g
  rw [hgv]at rg
  obtain⟨vs,acr,acs⟩ : ∃vs:List Value,gu ρ g = .func (.func gf) #[] vs.toArray∧bJ n σ F w caps vs:=by
   generalize gu ρ g=v at rg
   cases rg with
   | fn _ _ _ us vs hx hy rx ry=>
    have hu:us = []:=List.eq_nil_of_length_eq_zero hx
    subst hu
    exact⟨vs,rfl, .of hy ry⟩
  refine wpIn_rangeFunc fun fn _=> ?_
  obtain⟨rec,hrec⟩ : ∃rec:LoopState→Option Code→Loop,rec=fun st pe=> {state:=st,pending:=pe,fn,tmps:=a.tmps,params:=ps,assign,body,defers:=w.heap.size}:=⟨_,rfl⟩
  obtain⟨W1,hW1⟩ : ∃W1,(w.alloc (.deferred (some []))).alloc (.loop (rec .ready none))=W1:=⟨_,rfl⟩
  have hL1:W1.heap[w.heap.size+1]? = some (.loop (rec .ready none)):=by
   rw [←hW1];have:=World.alloc_heap_new (w.alloc (.deferred (some []))) (.loop (rec .ready none));rwa [World.size_alloc]at this
  have hD1:W1.heap[w.heap.size]? = some (.deferred (some [])):=by
   rw [←hW1];exact(Below.heap_alloc _ _ _ (by simp)).trans (World.alloc_heap_new w _)
  have hB1:Below w.heap.size w W1:=by
   rw [←hW1];exact(((Below.refl _ w).alloc (Nat.le_refl _) _).alloc (by simp) _)
  have hsz1:W1.heap.size=w.heap.size+2:=by rw [←hW1];simp
  have off1 : ∀k,w.heap.size≤k→k<w.heap.size+2→Off G w σ F H W1 k:=fun k h1 h2=>
   ⟨h1,Nat.le_trans st.glob.1 h1,by omega,fun hf=>by have:=(st.dL k hf).1;omega,fun⟨aT,blk,e1,e2,e3⟩=>by have:=(st.mu aT blk k e1 e2 (e3.back fun y hy=>hB1.block y (st.mu _ _ y e1 e2 (.inl hy)).2.2.1)).2.2.1;omega⟩
  have hev:a.eval g = .func (.func gf) #[] vs.toArray:=by rw [hf.eval];exact acr
  let J:Nat→World→Prop:=fun i W'=> ∃σ' F',St G w (kQ w σ H) F nl σ' F' (Hs i) W'∧Ext n σ F w nl σ' F' W'∧(Off G w σ' F' (Hs i) W' (w.heap.size+1)∧W'.heap[w.heap.size+1]? = some (.loop (rec .ready none)))∧Off G w σ' F' (Hs i) W' w.heap.size∧W'.heap[w.heap.size]? = some (.deferred (some []))
  have st1:St G w (kQ w σ H) F n σ F H W1:=st.start.grow hB1
  have x1:Ext n σ F w n σ F W1:=zU st hB1
  have hJ0:J 0 W1:=by
   obtain⟨σ1,F1,s1,_,l1,f1⟩:=Gi W1 (kQ W1 σ H) F σ F W1 ρ st1.start fun s hs=>by cases hs
   have o1:=(off1 (w.heap.size+1) (by omega) (by omega)).step s1
   have o2:=(off1 w.heap.size (by omega) (by omega)).step s1
   exact⟨σ1,F1,st1.back s1,x1.trans ⟨hle,l1,fun b hb=>⟨f1 b hb,rfl⟩,Nat.le_refl _⟩,⟨o1.1,hL1⟩,o2.1,hD1⟩
  have hcall:=hit n σ F vs W1 (w.heap.size+1) J st1.glob (fun b hb=>(st1.dL b hb).1) (acs.mono x1)
   (fun i W' W'' ⟨σ',F',s',x',⟨o1,h1⟩,o2,h2⟩ hB=>⟨σ',F',s'.grow hB,x'.trans (zU s' hB),⟨o1.grow s' hB,(hB.block _ o1.lt).trans h1⟩,o2.grow s' hB,(hB.block _ o2.lt).trans h2⟩)
   (fun i W' ⟨σ',F',s',x',⟨o1,h1⟩,o2,h2⟩=>⟨by have:=o1.lt;omega,s'.glob,fun b hb=>(x'.f b hb).2.trans (x1.f b hb).2.symm⟩)
   (fun i y W' args hy ⟨σ',F',s',x',⟨o1,h1⟩,o2,h2⟩ ra=>by
    have hyl:y.length=ps.size:=hxl y (List.mem_of_getElem? hy)
    have hal:=ra.len
    have hrun:=run_yield (P:=P) (args:=args.toArray) h1 (by rw [hrec];simp only [List.size_toArray];omega)
    rw [hrec]at hrun
    refine⟨fn,_,assign,body,hrun,roundIn_of_wpIn trivial ?_⟩
    have eF:(ps.zip args.toArray).foldl (fun tmps (x:Tmp×Value)=>tmps.setIfInBounds x.1 x.2) a.tmps=(ps.toList.zip args).foldl (fun tmps (x:Tmp×Value)=>tmps.setIfInBounds x.1 x.2) a.tmps:=by
     rw [←Array.foldl_toList,Array.toList_zip]
    have x0:Ext n σ F W' nl σ' F' W':=⟨hle,x'.s,fun b hb=>⟨(x'.f b hb).1,rfl⟩,Nat.le_refl _⟩
    obtain⟨ρr,hfr,hrr⟩:=Fits.zV (N:=N) ps.toList y args cZ ρ a.tmps aeh (by rw [hyl];simp) (ra.mono x0) ⟨hf.size,hf.get,rfl⟩ fun s=>(hr s).mono x'
    have e2:({tmps:=(ps.toList.zip args).foldl (fun tmps (x:Tmp×Value)=>tmps.setIfInBounds x.1 x.2) a.tmps,defers:= []} : Act) = {tmps:=(ps.zip args.toArray).foldl (fun tmps (x:Tmp×Value)=>tmps.setIfInBounds x.1 x.2) a.tmps,defers:= []}:=by rw [eF]
    rw [e2]at hfr
    refine Go.wpIn_mono (iha false (some (w.heap.size+1)) (fun L=>L = []) (fun _=>true) _ (zV cZ ps.toList y) nl (Hs i) ρr ρr _ W' σ' F' nl σ' F' W' [] W' (kQ W' σ' (Hs i)) F' (fun e=>by cases e) hca rfl hfr (Same.refl _ _) s'.start (Ext.refl _ _ _ _) hrr MK.nil (hbody i y hy)) fun e a₁ w₁ hq=> ?_
    cases e with
    | normal=>
     obtain⟨L1,ρ1,aae,n1,σ1,F1,H1,rfl,hf1,_,t1,y1,hr1,_,hv⟩:=hq
     have q1:=o1.step t1
     have q2:=o2.step t1
     have g1:=q1.2.trans h1
     have g2:=q2.2.trans h2
     refine⟨_,run_beginRound g1 (by rw [hrec]), ?_⟩
     obtain⟨w₂,Lm⟩ : ∃w₂,w₁.putObj (w.heap.size+1) (.loop {rec .ready none with state:= .busy})=w₂:=⟨_,rfl⟩
     rw [Lm]
     have u1:=s'.back t1
     have u2:=u1.put q1.1 (.loop {rec .ready none with state:= .busy})
     have x2:=sZ (n:=n1) (σ:=σ1) (w:=w₁) (.loop {rec .ready none with state:= .busy}) q1.1.nf
     have p1:=q1.1.put q1.1 (.loop {rec .ready none with state:= .busy})
     have p2:=q2.1.put q1.1 (.loop {rec .ready none with state:= .busy})
     have k1:w₂.heap[w.heap.size+1]? = some (.loop {rec .ready none with state:= .busy}):=by rw [←Lm];exact World.putObj_heap_same q1.1.lt
     have k2:w₂.heap[w.heap.size]? = some (.deferred (some [])):=by rw [←Lm,World.putObj_heap_other (by omega)];exact g2
     rw [Lm]at u2 x2 p1 p2
     refine Go.wpIn_mono (ihb false (some (w.heap.size+1)) (fun L=>L = []) (fun _=>true) _ aae n1 H1 ρ1 ρ1 a₁ w₂ σ1 F1 n1 σ1 F1 w₂ [] w₂ (kQ w₂ σ1 H1) F1 (fun e=>by cases e) hcb rfl hf1 (Same.refl _ _) u2.start (Ext.refl _ _ _ _) (fun s=>(hr1 s).mono x2) MK.nil hv) fun e a₃ w₃ hq3=> ?_
     cases e with
     | normal=>
      obtain⟨L3,ρ3,acu,n3,σ3,F3,H3,rfl,hf3,_,t3,y3,hr3,_,hv3⟩:=hq3
      have v1:=p1.step t3
      have v2:=p2.step t3
      have m1:=v1.2.trans k1
      have m2:=v2.2.trans k2
      obtain⟨σ4,F4,s4,_,l4,f4⟩:=hv3.holds w₃ (kQ w₃ σ3 H3) F3 σ3 F3 w₃ ρ3 (u2.back t3).start fun s hs=>by cases hs
      have z1:=v1.1.step s4
      have z2:=v2.1.step s4
      have sz:St G w (kQ w σ H) F nl σ4 F4 (Hs (i+1)) w₃:=(u2.back t3).back s4
      have hend:=run_endRound (P:=P) none m1
      refine⟨_,_,hend,rfl,σ4,F4,sz.put z1.1 _, ?_,⟨z1.1.put z1.1 _, ?_⟩,z2.1.put z1.1 _, ?_⟩
      ·have xA:Ext n σ F w n3 σ3 F3 w₃:=(x'.trans y1).trans (x2.trans y3)
       have xB:Ext n σ F w nl σ4 F4 w₃:=⟨hle,fun l hl=>(l4 l hl).trans (xA.s l hl),fun b hb=>⟨f4 b (xA.f b hb).1,(xA.f b hb).2⟩,xA.sz⟩
       exact xB.trans (sZ _ z1.1.nf)
      ·rw [World.putObj_heap_same z1.1.lt]
       simp only [hrec,Option.isNone_none,if_true]
      ·rw [World.putObj_heap_other (by omega)];exact m2
     | exit id=>obtain⟨L3,ρ3,acu,n3,σ3,F3,H3,_,_,_,_,_,_,_,hv3⟩:=hq3;exact hv3.elim
     | ret=>obtain⟨L3,ρ3,acu,n3,σ3,F3,H3,_,_,_,_,_,_,_,hv3⟩:=hq3;exact hv3.elim
     | goto l=>exact hq3.elim
     | panic ch=>exact hq3.elim
     | outgrown=>exact hq3.elim
    | exit id=>obtain⟨L1,ρ1,aae,n1,σ1,F1,H1,_,_,_,_,_,_,_,hv⟩:=hq;exact hv.elim
    | ret=>obtain⟨L1,ρ1,aae,n1,σ1,F1,H1,_,_,_,_,_,_,_,hv⟩:=hq;exact hv.elim
    | goto l=>exact hq.elim
    | panic ch=>exact hq.elim
    | outgrown=>exact hq.elim) hJ0
  refine⟨w.heap.size+1,[mark w.heap.size],W1,{target:= .fn (.func gf) vs.toArray,args:= #[.func (.yield (w.heap.size+1)) #[] #[]]},W1,gf, #[.func (.yield (w.heap.size+1)) #[] #[]]++vs.toArray,W1, ?_, ?_,fun _ _=>trivial, ?_,fun h=>(by cases h), ?_⟩
  ·rw [←hW1,hrec];exact run_enterLoop_outer _ _ _ _ _
  ·simp only [resolve,hev]
   simp [go_sem]
  ·simp only [invoke]
   exact rQ aef
  refine hcall.mono ?_
  rintro e W' ⟨⟨v,rfl⟩,σ',F',s',x',⟨o1,h1⟩,o2,h2⟩
  refine⟨none,W'.putObj (w.heap.size+1) (.loop {rec .ready none with state:= .exhausted}), ?_, ?_⟩
  ·have:=run_endLoop (P:=P) h1 (by rw [hrec];simp)
   rw [this,hrec]
  ·have xp:=sZ (n:=nl) (σ:=σ') (w:=W') (.loop {rec .ready none with state:= .exhausted}) o1.nf
   have sp:=s'.put o1 (.loop {rec .ready none with state:= .exhausted})
   refine⟨w.heap.size::L,ρ,cZ,nl,σ',F',Hs xs.length,hLp _ _ hlp,⟨hf.size,hf.get, ?_⟩,hs,st.back sp,(x.trans x').trans xp,fun s=>(hr s).mono (x'.trans xp), ?_,hdone⟩
   ·show [mark w.heap.size]++a.defers=_
    rw [hf.defers];rfl
   ·have mk2:=(mk.step s')
    have hw0:=st.gI.size
    refine⟨List.nodup_cons.2 ⟨fun hm=> ?_,mk.nodup⟩,fun D hD=> ?_,fun D hD=> ?_⟩
    ·have:=(mk.off _ hm).lt;omega
    ·rcases List.mem_cons.1 hD with rfl | hD
     ·exact(Off.mk (by omega) o2.nb o2.lt o2.nf o2.nm:Off G w₀ σ' F' (Hs xs.length) W' w.heap.size).put o1 _
     ·exact(mk2.off D hD).put o1 _
    ·rcases List.mem_cons.1 hD with rfl | hD
     ·rw [World.putObj_heap_other (by omega)];exact h2
     ·have:=(mk.off D hD).lt
      rw [World.putObj_heap_other (by omega)];exact mk2.obj D hD
 | _=>intro rf r Lp W Q cZ n H ρ aB a w σ F nb iy Fb wb L w₀ aK aN _ hc;simp [fK]at hc
end
section
variable {P:Program}{G:Glob}{n:Nat}{H:ak}
theorem V8 {f:FuncId}{fn:Func}{c:Code}{args:List AV}{R:AV→Nat→ak→Prop}(hf:P.funcs[f]? = some fn)(hb:fn.body=some c)(hm:P.follows .mixedOrders=true)
  (hok:(Nat.ble args.length fn.ntmps&&fK true fn.ntmps (fun _=>true) c)=true) (h:aY P G c (ab6 P G n fn R) (ql args) n H):bD P G f args n H R:=by
 intro w σ F vs st r
 simp only [Bool.and_eq_true]at hok
 have hN:=Nat.le_of_ble_eq_true hok.1
 have hl:=r.len
 refine(callsIn_wide (n:=0)).1 (callsIn_of_wp_marks hf hb trivial ?_)
 have hfit:Fits fn.ntmps ([].map mark) (iP vs.toArray) {tmps:=vs.toArray++Array.replicate (fn.ntmps-vs.toArray.size) undef,defers:= []}:=by
  refine⟨by simp;omega,fun t=> ?_,rfl⟩
  simp only [iP,rV]
  rw [Array.getD_eq_getD_getElem?,List.getD_eq_getElem?_getD,Array.getElem?_append]
  by_cases ht:t<vs.toArray.size
  ·simp only [if_pos ht,List.getElem?_toArray]
  ·simp only [ht,if_false]
   have ht':vs.length≤t:=by simpa using ht
   rw [List.getElem?_eq_none ht']
   rw [Array.getElem?_replicate]
   split<;>rfl
 refine Go.wpIn_mono (QD hm c true none (fun _=>True) (fun _=>true) _ (ql args) n H _ (iP vs.toArray) _ w σ F n σ F w [] w (kQ w σ H) F (fun _=>⟨rfl,fun _ _ _=>trivial⟩) hok.2 trivial hfit (Same.refl _ _) st (Ext.refl _ _ _ _) (fun s=>by
  have:=Gj r s
  simpa [iP,ql]using this) MK.nil h) fun e a' w' hq=> ?_
 have res : ∀ {L':List Nat} {ρ':aU} {dQ:aJ} {n':Nat} {σ':Nat→Loc} {F':Nat→Prop} {H':ak},Fits fn.ntmps (L'.map mark) ρ' a'→St G w (kQ w σ H) F n' σ' F' H' w'→Ext n σ F w n' σ' F' w'→iM n' σ' F' w' dQ ρ'→MK G w L' σ' F' H' w'→
   (D8 P fn.results.toList dQ H' fun vs=>BG G n R (Qk vs) n' H')→
   LeavesInM (xJ none) 0 P fn a'.tmps (fun e w'=> ∃v,e = .returned v∧∃a n' σ' F' H',R a n' H'∧St G w (kQ w σ H) F n' σ' F' H' w'∧Ext n σ F w n' σ' F' w'∧aZ n' σ' F' w' a v) a'.defers .returning w':=by
  intro L' ρ' dQ n' σ' F' H' hf' st' x' hr' mk' hv
  rw [hf'.defers]
  refine Gw L' w' mk' st' fun w'' s2 x2=> ?_
  obtain⟨vs,hrun,hk⟩:=yX hf'.get _ _ (zI s2.hrep (fun s=>(hr' s).mono x2) _ _ (fun vs=> ∃a n' σ' F' H',R a n' H'∧St G w (kQ w σ H) F n' σ' F' H' w''∧Ext n σ F w n' σ' F' w''∧aZ n' σ' F' w'' a (bH vs)) hv fun ars vs he hl=>by
   obtain⟨a1,n1,H1,hR,hn,hco⟩:=he.ex
   obtain⟨σ1,F1,s1,r1,l1,f1⟩:=hco _ _ _ _ _ _ _ s2 (Gl hl)
   have x3:=x'.trans x2
   exact⟨a1,n1,σ1,F1,H1,hR,s1,⟨hn,fun l hl=>(l1 l hl).trans (x3.s l hl),fun b hb=>⟨f1 b (x3.f b hb).1,(x3.f b hb).2⟩,x3.sz⟩,r1⟩)
  refine⟨bH vs, ?_,bH vs,rfl,hk⟩
  rw [nY,Sem.run_bind,Array.mapM_eq_mapM_toList,Sem.run_map]
  rw [hrun]
  simp only [Result.andThen_ok,Sem.run_pure]
  congr 1
  match vs with
  | []=>rfl
  | [v]=>rfl
  | v::u::r=>simp [bH]
 cases e with
 | normal=>obtain⟨L',ρ',dQ,n',σ',F',H',_,hf',_,st',x',hr',mk',hv⟩:=hq;exact res hf' st' x' hr' mk' hv
 | ret=>obtain⟨L',ρ',dQ,n',σ',F',H',_,hf',_,st',x',hr',mk',hv⟩:=hq;exact res hf' st' x' hr' mk' hv
 | exit id=>obtain⟨L',ρ',dQ,n',σ',F',H',_,hf',_,st',x',hr',mk',hv⟩:=hq;exact hv.elim
 | goto l=>exact hq.elim
 | panic ch=>exact hq.elim
 | outgrown=>exact hq.elim
end
structure aaf (P:Program)(l:Nat)(args:Array Value)(w:World)(K:Value→World→Prop):Prop where
 runs:YieldAt (xJ none) 0 P l args w fun e w'=> ∃v,e = .returned v∧K v w'
def NV (P:Program)(o:Oper)(ρ:aU)(w:World)(K:Value→World→Prop):Prop:=
 match o.op with
 | .call c=>(match c.callee with
  | .value f=>(match gu ρ f with
   | .func (.yield l) first _=>aaf P l (first.toList++c.args.toList.map (gu ρ)).toArray w K
   | _=>Bg P false o ρ w K)
  | _=>Bg P false o ρ w K)
 | _=>Bg P false o ρ w K
def Eo (P:Program)(all:List Oper)(o:Oper)(ρ:aU)(w:World)(K:aU→Value→World→Prop)(iW:aU→Prop):Prop:=
 match o.guard with
 | none=>NV P o ρ w fun v w'=>K ρ v w'
 | some (g,want)=>(match qQ all g with
  | some s=>(match ρ s with
   | .bool t=>E5 t
     (bif want then NV P o (upd ρ s (.bool true)) w fun v w'=>K (upd ρ s (.bool true)) v w' else iW (upd ρ s (.bool true)))
     (bif want then iW (upd ρ s (.bool false))else NV P o (upd ρ s (.bool false)) w fun v w'=>K (upd ρ s (.bool false)) v w')
   | _=>iW ρ)
  | none=>iW ρ)
def Gz (P:Program)(all:List Oper)(l:List Oper)(ρ:aU)(w:World)(K:aU→World→Prop):Prop:=
 match l with
 | []=>K ρ w
 | o::rest=>Eo P all o ρ w (fun ρ' v w'=>Gz P all rest (dK ρ' o.dst v) w' K) fun ρ'=>Gz P all rest (dK ρ' o.dst undef) w K
section
variable {P:Program}
theorem V9 {o:Oper}{ρ:aU}{a:Act}{w:World}{K:Value→World→Prop}{next:Act→World→Prop}{Q:Exit→Act→World→Prop}(hd:iC o=true)(he:a.eval=gu ρ)(h:NV P o ρ w K)(hk : ∀v w',K v w'→next (a.put o.dst v) w'):o.wpIn (xJ none) 0 P a w next Q:=by
 have plain:Bg P false o ρ w K→o.wpIn (xJ none) 0 P a w next Q:=fun h=>Em (Q:=Q) hd (fun _ _ h=>h) ((jk h).wp he hk)
 unfold NV at h
 split at h
 ·rename_i c ho
  split at h
  ·rename_i f hc
   split at h
   ·rename_i l first cap hf
    obtain⟨fn,tmps,assign,body,hy,hR⟩:=h.runs
    refine⟨fun _ _=>trivial, ?_⟩
    have e:o.semAt (xJ none).round a.eval=execOp a.eval o:=Oper.semAt_plain (xJ none) _ o (zT hd)
    rw [e,he]
    have ea:(first.toList++c.args.toList.map (gu ρ)).toArray=first++c.args.map (gu ρ):=by apply Array.ext';simp
    rw [ea]at hy
    have hrun:(execOp (gu ρ) o).run P w = .ok (.round l fn tmps assign body) w:=by
     simp only [execOp,ho,resolve,hc,hf]
     simp [go_sem,Deferred.ofValue,invoke,hy]
    rw [hrun]
    exact⟨fun h=>(by cases h),RoundIn.mono hR fun e w' ⟨v,hv,k⟩=>by subst hv;exact hk _ _ k⟩
   ·exact plain h
  ·exact plain h
 ·exact plain h
theorem BI {N:Nat}{ds:List Deferred}{ρ:aU}{a:Act}{ops:Array Oper}{o:Oper}{w:World}{K:aU→Value→World→Prop}{iW:aU→Prop}
  (hf:Fits N ds ρ a) (h:Eo P ops.toList o ρ w K iW) :
  (Region.wanted o (yielded ops a.tmps)=true∧NV P o ρ w fun v w'=>K ρ v w')∨
  (Region.wanted o (yielded ops a.tmps)=false∧iW ρ):=by
 unfold Eo at h
 unfold Region.wanted
 split at h
 ·rename_i hg;rw [hg];exact .inl ⟨rfl,h⟩
 ·rename_i g want hg
  rw [hg]
  simp only [qR hf g]
  split at h
  ·rename_i s hs
   simp only [hs]
   cases hv:ρ s with
   | bool t=>
    have hu:upd ρ s (.bool t)=ρ:=Fe hv
    rw [hv]at h
    cases t<;>cases want<;>simp only [E5,cond_true,cond_false]at h<;>rw [hu]at h
    ·exact .inl ⟨rfl,h⟩
    ·exact .inr ⟨rfl,h⟩
    ·exact .inr ⟨rfl,h⟩
    ·exact .inl ⟨rfl,h⟩
   | _=>rw [hv]at h;exact .inr ⟨rfl,h⟩
  ·rename_i hs;simp only [hs];exact .inr ⟨rfl,h⟩
theorem GH {N:Nat}{ds:List Deferred}{W:Nat→Bool}{ops:Array Oper}{Q:Exit→Act→World→Prop}{K:aU→World→Prop}{aB:aU}
  (hK : ∀ρ' a' w',Fits N ds ρ' a'→Same W aB ρ'→K ρ' w'→Q .normal a' w') :
  ∀(l:List Oper) (k:Nat) (ρ:aU) (a:Act) (w:World),(∀j,l[j]? = ops.toList[k+j]?)→(∀o∈l,iG N W o=true∧iC o=true)→Fits N ds ρ a→Same W aB ρ→
   Gz P ops.toList l ρ w K→wpOpsIn (xJ none) 0 P ops Q (List.range' k l.length) a w:=by
 intro l
 induction l with
 | nil=>intro k ρ a w _ _ hf hs h;exact hK _ _ _ hf hs h
 | cons o rest ih=>
  intro k ρ a w hl hok hf hs h
  have ho:ops[k]? = some o:=by
   have:=hl 0
   simp only [List.getElem?_cons_zero,Nat.add_zero]at this
   rw [←Array.getElem?_toList];exact this.symm
  obtain⟨ho1,ho2⟩:=hok o (by simp)
  have step : ∀(v:Value) (w':World),Gz P ops.toList rest (dK ρ o.dst v) w' K→wpOpsIn (xJ none) 0 P ops Q (List.range' (k+1) rest.length) (a.put o.dst v) w':=fun v w' hv=>
   ih (k+1) _ _ _ (fun j=>by have:=hl (j+1);simp only [List.getElem?_cons_succ]at this;rw [this];congr 1;omega) (fun o' ho'=>hok o' (by simp [ho']))
    (hf.put o.dst v (dA ho1)) (hs.dK ho1) hv
  simp only [List.length_cons,List.range'_succ]
  simp only [wpOpsIn,ho]
  rcases BI hf h with ⟨hw,hv⟩ | ⟨hw,hv⟩
  ·simp only [hw,if_true]
   exact V9 ho2 hf.eval hv step
  ·simp only [hw,Bool.false_eq_true,if_false]
   exact⟨fun _ _=>trivial,step undef w hv⟩
def vY (P:Program)(c:Code)(Q:Ex→aU→World→Prop)(ρ:aU)(w:World):Prop:=
 match c with
 | .skip=>Q .normal ρ w
 | .region id ops draw=>(match draw with
  | false=>Gz P ops.toList ops.toList ρ w (Q .normal)
  | true=>qL P id ops (Q .normal) ρ w)
 | .seq a b=>vY P a (abU (vY P b) Q) ρ w
 | .cond c t e=>(match gu ρ c with
  | .bool b=>E5 b (vY P t Q ρ w) (vY P e Q ρ w)
  | _=>False)
 | .block id body=>vY P body (Ux id Q) ρ w
 | .loop body=>Pm body (vY P body) Q ρ w
 | .exit id=>Q (.exit id) ρ w
 | .ret=>Q .ret ρ w
 | _=>False
theorem qL.En {id:Nat}{N:Nat}{ds:List Deferred}{W:Nat→Bool}{ops:Array Oper}{K:aU→World→Prop}{ρ aB:aU}{a:Act}{w:World}{r:Option Nat}
  (hm:P.follows .mixedOrders=true) (hok : ∀o∈ops.toList,iG N W o=true) (hnd : ∀(i:Nat) (o:Oper),ops[i]? = some o→iC o=true) (hf:Fits N ds ρ a) (hs:Same W aB ρ) (h:qL P id ops K ρ w) :
  (Code.region id ops true).wpIn (xJ r) 0 P (RQ N ds W aB K) a w:=by
 obtain⟨p,wP,S,hd,he,hS,hv⟩:=h.ex
 simp only [mO,Bool.and_eq_true]at hd
 obtain⟨⟨hsel,uY⟩,hp⟩:=hd
 exact wpIn_region_any hm (sW (fun⟨_,_,h⟩=>h) hnd _ _ _ _ (qU _ _ _ _ (Fg hsel hok w.drew p S he _ ρ a w.drew hp (fun j o _ hl=>by rw [lq]at hl;cases hl) hf hs hS hv ops.size (Nat.le_of_ble_eq_true uY))))
theorem QE (hm:P.follows .mixedOrders=true){N:Nat} : ∀(c:Code) (W:Nat→Bool) (Q:Ex→aU→World→Prop) (ρ aB:aU) (a:Act) (w:World),
  fK false N W c=true→Fits N [] ρ a→Same W aB ρ→vY P c Q ρ w→c.wpIn (xJ none) 0 P (CQ N [] W aB Q) a w:=by
 intro c
 induction c with
 | skip=>intro W Q ρ aB a w _ hf hs h;exact wpIn_skip ⟨ρ,hf,hs,h⟩
 | region id ops draw=>
  intro W Q ρ aB a w hc hf hs h
  have hok0 : ∀o∈ops.toList,(iG N W o=true∧mV o=true)∧iC o=true:=by simpa only [fK,List.all_eq_true,Bool.and_eq_true]using hc
  have hok : ∀o∈ops.toList,iG N W o=true:=fun o ho=>(hok0 o ho).1.1
  have hnd : ∀(i:Nat) (o:Oper),ops[i]? = some o→iC o=true:=fun i o ho=>(hok0 o (by rw [←Array.getElem?_toList]at ho;exact List.mem_of_getElem? ho)).2
  have mono : ∀e a w,RQ N [] W aB (Q .normal) e a w→CQ N [] W aB Q e a w:=fun e a w hq=>by cases e<;>first | exact hq | exact hq.elim
  cases draw with
  | false=>
   refine Go.wpIn_mono (wpIn_region ?_) mono
   have hlen:ops.toList.length=ops.size:=by simp
   rw [List.range_eq_range', ←hlen]
   exact GH (K:=Q .normal) (Q:=RQ N [] W aB (Q .normal)) (fun ρ' a' w' hf' hs' hk=>⟨ρ',hf',hs',hk⟩) ops.toList 0 ρ a w (fun j=>by rw [Nat.zero_add]) (fun o ho=>⟨hok o ho,(hok0 o ho).2⟩) hf hs h
  | true=>exact Go.wpIn_mono (qL.En hm hok hnd hf hs h) mono
 | seq x y Y4 ihy=>
  intro W Q ρ aB a w hc hf hs h
  simp only [fK,Bool.and_eq_true]at hc
  refine wpIn_seq (Go.wpIn_mono (Y4 W _ ρ aB a w hc.1 hf hs h) fun e a' w' hq=> ?_)
  cases e with
  | normal=>
   obtain⟨ρ',hf',hs',hv⟩:=hq
   exact ihy W Q ρ' aB a' w' hc.2 hf' hs' hv
  | exit id=>exact hq
  | ret=>exact hq
  | goto l=>exact hq
  | panic ch=>exact hq
  | outgrown=>exact hq
 | cond c x y Y4 ihy=>
  intro W Q ρ aB a w hc hf hs h
  simp only [fK,Bool.and_eq_true]at hc
  simp only [vY]at h
  split at h
  ·rename_i b hb
   refine wpIn_cond (t:=b) (by rw [hf.eval];exact hb) ?_
   cases b with
   | true=>exact Y4 W Q ρ aB a w hc.1 hf hs h
   | false=>exact ihy W Q ρ aB a w hc.2 hf hs h
  ·exact h.elim
 | block id b ih=>
  intro W Q ρ aB a w hc hf hs h
  refine wpIn_block (Go.wpIn_mono (ih W _ ρ aB a w hc hf hs h) fun e a' w' hq=> ?_)
  cases e with
  | normal=>exact hq
  | exit j=>
   obtain⟨ρ',hf',hs',hv⟩:=hq
   simp only [Ux]at hv
   simp only [Exit.inBlock]
   by_cases hj:j=id
   ·subst hj
    rw [Nat.beq_refl,cond_true]at hv
    simp only [if_true]
    exact⟨ρ',hf',hs',hv⟩
   ·have hb:Nat.beq j id=false:=by
     cases hb:Nat.beq j id with
     | false=>rfl
     | true=>exact absurd (Nat.eq_of_beq_eq_true hb) hj
    rw [hb,cond_false]at hv
    rw [if_neg hj]
    exact⟨ρ',hf',hs',hv⟩
  | ret=>exact hq
  | goto l=>exact hq
  | panic ch=>exact hq
  | outgrown=>exact hq
 | loop b ih=>
  intro W Q ρ aB a w hc hf hs h
  obtain⟨ws,I,n,hw,h₀,hr⟩:=h.ex
  have hc':=wZ b hc hw
  refine tq (fun n a' w'=> ∃ρ',I n ρ' w'∧Fits N [] ρ' a'∧Same (fun k=>W k&&ws k) ρ ρ') n ⟨ρ,h₀,hf,Same.refl _ _⟩ fun n a' w' ⟨ρ',hI,hf',hs'⟩=> ?_
  have hsw:Same ws ρ ρ':=fun k hk=>hs' k (by simp [hk])
  refine Go.wpIn_mono (ih (fun k=>W k&&ws k) _ ρ' ρ a' w' hc' hf' hs' (hr n ρ' w' hI hsw)) fun e a'' w'' hq=> ?_
  have up : ∀ {fD},Same (fun k=>W k&&ws k) ρ fD→Same W aB fD:=fun h'=>hs.trans fun k hk=>h' k (by simp [hk])
  cases e with
  | normal=>
   obtain⟨fD,lu,lC,⟨m,hlt,hI'⟩⟩:=hq
   exact⟨m,hlt,fD,hI',lu,lC⟩
  | exit id=>obtain⟨fD,lu,lC,hv⟩:=hq;exact⟨fD,lu,up lC,hv⟩
  | ret=>obtain⟨fD,lu,lC,hv⟩:=hq;exact⟨fD,lu,up lC,hv⟩
  | goto l=>exact hq
  | panic ch=>exact hq
  | outgrown=>exact hq
 | exit id=>intro W Q ρ aB a w _ hf hs h;exact Go.wpIn_exit ⟨ρ,hf,hs,h⟩
 | ret=>intro W Q ρ aB a w _ hf hs h;exact Go.wpIn_ret ⟨ρ,hf,hs,h⟩
 | _=>intro W Q ρ aB a w hc;simp [fK]at hc
def aej (K:World→Prop)(e:Ex)(_:aU)(w:World):Prop:=
 match e with
 | .normal=>kN (K w)
 | .ret=>kN (K w)
 | .exit _=>False
theorem GK {f:FuncId}{fn:Func}{c:Code}{args:Array Value}{w:World}{K:World→Prop}
  (hf:P.funcs[f]? = some fn) (hb:fn.body=some c) (hm:P.follows .mixedOrders=true) (hN:args.size≤fn.ntmps) (hres:fn.results = #[]) (hok:fK false fn.ntmps (fun _=>true) c=true)
  (h:vY P c (aej K) (iP args) w):CallsIn (xJ none) 0 P f args w fun e w'=>(∃v,e = .returned v)∧K w':=by
 refine callsIn_of_wp hf hb trivial ?_
 have hfit:Fits fn.ntmps [] (iP args) {tmps:=args++Array.replicate (fn.ntmps-args.size) undef,defers:= []}:=by
  refine⟨by simp;omega,fun t=> ?_,rfl⟩
  simp only [iP,rV]
  rw [Array.getD_eq_getD_getElem?,List.getD_eq_getElem?_getD,Array.getElem?_append]
  by_cases ht:t<args.size
  ·simp [ht]
  ·simp only [ht,if_false,Array.getElem?_toList]
   rw [Array.getElem?_eq_none (Nat.le_of_not_lt ht)]
   by_cases h2:t-args.size<fn.ntmps-args.size
   ·simp [h2]
   ·simp [h2]
 refine Go.wpIn_mono (QE hm c (fun _=>true) _ _ _ _ w hok hfit (Same.refl _ _) h) fun e a' w' hq=> ?_
 have res : ∀ {ρ':aU},Fits fn.ntmps [] ρ' a'→K w'→a'.defers = []∧∃v,(results fn a'.tmps).run P w' = .ok v w'∧(∃u,Ending.returned v = .returned u)∧K w':=by
  intro ρ' hf' hk
  refine⟨hf'.defers, .tuple #[], ?_,⟨_,rfl⟩,hk⟩
  rw [nY,hres]
  simp
 cases e with
 | normal=>obtain⟨ρ',hf',_,hv⟩:=hq;exact res hf' hv.holds
 | ret=>obtain⟨ρ',hf',_,hv⟩:=hq;exact res hf' hv.holds
 | exit id=>obtain⟨ρ',hf',_,hv⟩:=hq;exact hv.elim
 | goto l=>exact hq.elim
 | panic ch=>exact hq.elim
 | outgrown=>exact hq.elim
end
theorem dV.down {n:Nat}{σ:Nat→Loc}{F:Nat→Prop}{w:World}{a:FV}{v:Value}(h:aZ n σ F w a.up v):dV F w a v:=by
 cases a with
 | top=>exact .top v
 | v x=>cases h;exact .v _
 | lst sz l=>cases h with | lst h=>exact h
 | fp cs o=>cases h with | fp h=>exact h
 | fm M=>cases h with | fm h=>exact h
theorem Wh {G:Glob}{n:Nat}{H:ak}{R:AV→Nat→ak→Prop}{f:Fn}(ls:List (Nat×TypeId×List FV))(k:R (.fn f [] (ls.map fun p=> .fp p.2.2 0)) 0 [])
  (hl : ∀p∈ls,look H p.1=some (.var p.2.1 (p.2.2.map FV.up))):BG G 0 R (.fn f [] (ls.map fun p=> .ptr p.1 0)) n H:=by
 refine⟨_,0,[],k,Nat.le_refl _,fun w₀ aK aN σ F w v st ra=> ?_⟩
 have hsub : ∀b,(F b∨∃p∈ls,(σ p.1).b=some b)→b<w.heap.size∧(aN b∨w₀.heap.size≤b∨aK b):=fun b hb=>by
  rcases hb with hb | ⟨p,hp,hb⟩
  ·exact st.dL b hb
  ·obtain⟨_,_,h3,h4⟩:=st.mu _ _ b (hl p hp) rfl (.inl hb)
   exact⟨h3,h4.elim (fun h=> .inr (.inr h)) fun h=> .inr (.inl h)⟩
 refine⟨σ,fun b=>F b∨∃p∈ls,(σ p.1).b=some b,⟨st.glob,st.gI,hsub,(fun _ _ h=>by cases h),(fun _ _ _ h=>by cases h),(fun _ _ _ _ _ h=>by cases h),(fun _ _ h=>by cases h)⟩, ?_,fun _ h=>absurd h (Nat.not_lt_zero _),fun b hb=> .inl hb⟩
 cases ra with
 | fn _ _ _ us vs hx hy rx ry=>
  refine .fn f [] _ us vs hx (by simpa using hy) (fun j a v h=>by simp at h) fun j a v h1 h2=> ?_
  rw [List.getElem?_map]at h1
  cases hp:ls[j]? with
  | none=>rw [hp]at h1;cases h1
  | some p=>
   rw [hp]at h1
   injection h1 with h1
   subst h1
   have hm:=List.mem_of_getElem? hp
   have r:=ry j (.ptr p.1 0) v (by rw [List.getElem?_map,hp];rfl) h2
   cases r with
   | ptr _ _ b hlt hb=>
    obtain⟨g,xs,hg,hblk,hr,hone⟩:=st.blk _ _ (hl p hm)
    rw [hb]at hg
    injection hg with hg
    subst hg
    have hlen:=hr.len
    rw [List.length_map]at hlen
    refine .fp (.fp p.2.2 0 b 0 (.inr ⟨p,hm,hb⟩) (fun j hj=> ?_) fun j a v h1 h3=> ?_)
    ·have hj':j<xs.length:=by omega
     exact⟨xs[j],by rw [Nat.zero_add,hblk.cell,List.getElem?_eq_getElem hj'],hone _ (List.getElem_mem hj')⟩
    ·rw [Nat.zero_add,hblk.cell]at h3
     exact(dV.down (hr.at j a.up v (by rw [List.getElem?_map,h1];rfl) h3)).mono fun b hb=>⟨.inl hb,rfl⟩
theorem bD.up {P:Program}{f:FuncId}{args:List AV}{n:Nat}{H:ak}{R:AV→Nat→ak→Prop}(h:bD P ⟨0,fun _=>none,fun _=>none⟩ f args n H R)(G:Glob):bD P G f args n H R:=by
 intro w σ F vs st r
 have st0:St ⟨0,fun _=>none,fun _=>none⟩ w (kQ w σ H) F n σ F H w:=
  ⟨⟨Nat.zero_le _,(fun _ _ h=>by cases h),fun _ _ h=>by cases h⟩,st.gI,st.dL,st.lab,fun aT b g h1 h2 h3=>⟨(st.mu aT b g h1 h2 h3).1,Nat.zero_le _,(st.mu aT b g h1 h2 h3).2.2⟩,st.inj,st.blk⟩
 refine(h w σ F vs st0 r).mono fun v w' ⟨a,n',σ',F',H',hR,s,x,ra⟩=>⟨a,n',σ',F',H',hR, ?_,x,ra⟩
 have hnb:=st.glob.1
 refine⟨Glob.gI st.glob s.gI.size fun b hb=>s.gI.block b (by omega) fun⟨aT,blk,h1,h2,h3⟩=>by have:=(st.mu aT blk b h1 h2 h3).2.1;omega,s.gI,s.dL,s.lab,fun aT b g h1 h2 h3=> ?_,s.inj,s.blk⟩
 obtain⟨a1,a2,a3,a4⟩:=s.mu aT b g h1 h2 h3
 refine⟨a1, ?_,a3,a4⟩
 rcases a4 with ⟨qF,blk',e1,e2,e3⟩ | h4
 ·exact(st.mu qF blk' g e1 e2 e3).2.1
 ·omega
section
variable {P:Program}{G:Glob}
theorem aag {gv:AV}{ps:Array Tmp}{A B:(Ex→aJ→Nat→ak→Prop)→aJ→Nat→ak→Prop}{Q:Ex→aJ→Nat→ak→Prop}{ρ:aJ}{n:Nat}{H:ak}
  {gf:FuncId} {caps:List AV} {xs:List (List AV)} (hit:AIt P G gf caps xs) (nl:Nat) (Hs:Nat→ak) (θ:List (Nat×Src)) (Z:List Nat) (hg:gv = .fn (.func gf) [] caps) (hc:callable P gf=true) (hle:Nat.ble n nl=true) (hx : ∀x∈xs,x.length=ps.size)
  (hw:Gm n nl θ Z (Hs 0)=true) (hH:Jp H θ Z n (Hs 0))
  (hbody : ∀i x,xs[i]? = some x→A (Ll (B (Ll fun ρ' n' H'=>zF (CJ G (fun _=>false) n ρ' n' H' ρ nl (Hs (i+1)))))) (zV ρ ps.toList x) nl (Hs i))
  (hdone:Q .normal ρ nl (Hs xs.length)):QC P G gv ps A B Q ρ n H:=
 ⟨⟨gf,caps,xs,nl,Hs,hg,hc,hit,Nat.le_of_ble_eq_true hle,hx,zM (ws:= []) (sl:= []) θ Z hw hH trivial,hbody,hdone⟩⟩
theorem aah {ρ ρ':aJ}{nb nl n':Nat}{H' H₁:ak}(θ:List (Nat×Src))(Z:List Nat)(hw:Gm nb nl θ Z H₁=true)(hH:Jp H' θ Z nb H₁):zF (CJ G (fun _=>false) nb ρ' n' H' ρ nl H₁):=
 ⟨zM (ws:= []) (sl:= []) θ Z hw hH trivial⟩
theorem jw {n n1:Nat}{H1:ak}{a:AV}{K:AV→Nat→ak→Prop}(a':AV)(k:spine (Gp n H1) fun H0=>K a' n H0)(hwf:Gm n n [] [] (Gp n H1)=true)(hH:Jp H1 [] [] n (Gp n H1))(hc:co H1 [] [] n a' a):BG G n K a n1 H1:=
 aV a' n _ [] [] (by rw [eU]at k;exact k) hwf hH hc
end
end Go.Proofs.YtocckceefcmeaaaGreatDoor.Ax
