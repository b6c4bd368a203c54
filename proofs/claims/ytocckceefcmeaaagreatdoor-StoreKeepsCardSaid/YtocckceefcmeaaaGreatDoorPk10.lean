/- Joined parts of the proof. Calls of functions that change memory of the caller's: the labels lent come back changed -/
import Derived.Test.YtocckceefcmeaaaGreatDoorPk8
import Derived.RangeFuncLeaves
import Derived.RangeFuncCalls
import Derived.RangeFuncSeq
import Derived.OrdersIn
import Derived.OwnWalkIn
import Derived.Test.YtocckceefcmeaaaGreatDoorPk9
set_option linter.unusedVariables false
set_option linter.unusedSimpArgs false
set_option maxRecDepth 100000
set_option maxHeartbeats 16000000
namespace Go.Proofs.YtocckceefcmeaaaGreatDoor.Ax
open Go Go.RowKit Go.Proofs.YtocckceefcmeaaaGreatDoor.Vc
mutual
def Vo (f:Nat→Nat):AV→AV
 | .ptr e o=> .ptr (f e) o
 | .ep e i o=> .ep (f e) i o
 | .own e=> .own (f e)
 | .sub e o k=> .sub (f e) o k
 | .mp e=> .mp (f e)
 | .fn g xs ys=> .fn g (Vp f xs) (Vp f ys)
 | .agg cs=> .agg (Vp f cs)
 | .bG cs=> .bG (Vp f cs)
 | .top=> .top
 | .v x=> .v x
 | .lst sz l=> .lst sz l
 | .fp cs o=> .fp cs o
 | .fm M=> .fm M
def Vp (f:Nat→Nat):List AV→List AV
 | []=> []
 | a::r=>Vo f a::Vp f r
end
def rnB (f:Nat→Nat):dM→dM
 | .var t cs=> .var t (Vp f cs)
 | .tree t sz l (some (i,j,e))=> .tree t sz l (some (i,j,f e))
 | b=>b
def X8 (f:Nat→Nat):aj→aj
 | []=> []
 | p::r=>(f p.1,rnB f p.2)::X8 f r
theorem DT (f:Nat→Nat) : ∀l:List AV,Vp f l=l.map (Vo f):=by
 intro l
 induction l with
 | nil=>rfl
 | cons a r ih=>simp [Vp,ih]
theorem Vq (f:Nat→Nat)(b:dM):(rnB f b).own=b.own:=by
 cases b with
 | tree t sz l h=>cases h<;>rfl
 | _=>rfl
theorem Vr {f:Nat→Nat}{b:dM}{w:World}{L:Loc}{g:Nat}(h:gZ w L (rnB f b) g):gZ w L b g:=by
 cases b with
 | tree t sz l o=>cases o<;>exact h
 | _=>exact h
section
variable {n m:Nat}{σ σ':Nat→Loc}{F:Nat→Prop}{w:World}{f:Nat→Nat}
theorem I8 (hs : ∀k,k<m→f k<n∧σ' (f k)=σ k){a:AV}{v:Value}(r:aX m σ F w a v):aX n σ' F w (Vo f a) v:=by
 induction r with
 | top x=>exact .top x
 | v x=>exact .v x
 | lst h=>exact .lst h
 | fp h=>exact .fp h
 | fm h=>exact .fm h
 | ptr l o b hl hb=>exact .ptr _ o b (hs l hl).1 (by rw [(hs l hl).2];exact hb)
 | ep l i o b hl hb=>rw [←(hs l hl).2];exact .ep _ i o b (hs l hl).1 (by rw [(hs l hl).2];exact hb)
 | own l hl=>rw [←(hs l hl).2];exact .own _ (hs l hl).1
 | iO l oa hl hn hc=>exact .iO _ oa (hs l hl).1 (by rw [(hs l hl).2];exact hn) (by rw [(hs l hl).2];exact hc)
 | sub l o k oa c hl hk hc hnil ho=>exact .sub _ o k oa c (hs l hl).1 (by rw [(hs l hl).2];exact hk) hc hnil (by rw [(hs l hl).2];exact ho)
 | mp l b hl hb=>exact .mp _ b (hs l hl).1 (by rw [(hs l hl).2];exact hb)
 | fn g xs ys us vs hx hy _ _ ih1 ih2=>
  simp only [Vo,DT]
  refine .fn g _ _ us vs (by simp [hx]) (by simp [hy]) (fun j a v h1 h2=> ?_) (fun j a v h1 h2=> ?_)
  ·rw [List.getElem?_map]at h1
   cases hx:xs[j]? with
   | none=>rw [hx]at h1;cases h1
   | some x=>rw [hx]at h1;injection h1 with h1;rw [←h1];exact ih1 j x v hx h2
  ·rw [List.getElem?_map]at h1
   cases hy:ys[j]? with
   | none=>rw [hy]at h1;cases h1
   | some y=>rw [hy]at h1;injection h1 with h1;rw [←h1];exact ih2 j y v hy h2
 | agg xs us hx _ ih=>
  simp only [Vo,DT]
  refine .agg _ us (by simp [hx]) (fun j a v h1 h2=> ?_)
  rw [List.getElem?_map]at h1
  cases hx:xs[j]? with
  | none=>rw [hx]at h1;cases h1
  | some x=>rw [hx]at h1;injection h1 with h1;rw [←h1];exact ih j x v hx h2
 | bG xs us hx _ ih=>
  simp only [Vo,DT]
  refine .bG _ us (by simp [hx]) (fun j a v h1 h2=> ?_)
  rw [List.getElem?_map]at h1
  cases hx:xs[j]? with
  | none=>rw [hx]at h1;cases h1
  | some x=>rw [hx]at h1;injection h1 with h1;rw [←h1];exact ih j x v hx h2
theorem Vs (hs : ∀k,k<m→f k<n∧σ' (f k)=σ k){l:List AV}{vs:List Value}(r:bI m σ F w l vs):bI n σ' F w (Vp f l) vs:=by
 rw [DT]
 refine .of (by simp [r.len]) fun j a v h1 h2=> ?_
 rw [List.getElem?_map]at h1
 cases hx:l[j]? with
 | none=>rw [hx]at h1;cases h1
 | some x=>rw [hx]at h1;injection h1 with h1;rw [←h1];exact I8 hs (r.at j x v hx h2)
theorem Vt (hs : ∀k,k<m→f k<n∧σ' (f k)=σ k){L:Loc}{b:dM}(r:jT m σ F w L b):jT n σ' F w L (rnB f b):=by
 cases b with
 | var t cs=>obtain⟨g,vs,h1,h2,h3,h4⟩:=r;exact⟨g,vs,h1,h2,Vs hs h3,h4⟩
 | tree t sz l h=>
  cases h with
  | none=>obtain⟨h1,h2,xs,h3,h4,h5,_⟩:=r;exact⟨h1,h2,xs,h3,h4,h5,fun _ _ _ h=>by cases h⟩
  | some p=>
   obtain⟨i,j,e⟩:=p
   obtain⟨h1,h2,xs,h3,h4,h5,h6⟩:=r
   refine⟨h1,h2,xs,h3,h4,h5,fun i' j' e' h=> ?_⟩
   injection h with h
   injection h with e1 h
   injection h with e2 e3
   subst e1;subst e2;subst e3
   obtain⟨a1,a2,a3,a4,v,a5,a6⟩:=h6 _ _ _ rfl
   exact⟨(hs e a1).1,a2,a3,a4,v,a5,I8 hs a6⟩
 | _=>exact r
theorem zn : ∀ {H:aj} {k:Nat} {b:dM},look (X8 f H) k=some b→∃j c,k=f j∧c∈H.map (·.2)∧(j,c)∈H∧b=rnB f c:=by
 intro H
 induction H with
 | nil=>intro k b h;cases h
 | cons p r ih=>
  intro k b h
  obtain⟨x,c⟩:=p
  simp only [X8]at h
  rw [aV]at h
  split at h
  ·rename_i e
   injection h with h
   exact⟨x,c,e.symm,by simp,by simp,h.symm⟩
  ·obtain⟨j,d,h1,h2,h3,h4⟩:=ih h
   exact⟨j,d,h1,by simp at h2 ⊢;exact .inr h2,by simp [h3],h4⟩
end
def once:aj→Bool
 | []=>true
 | p::r=>(match look r p.1 with | some _=>false | none=>true)&&once r
theorem uY : ∀ {H:aj} {k:Nat} {b:dM},once H=true→(k,b)∈H→look H k=some b:=by
 intro H
 induction H with
 | nil=>intro k b _ h;cases h
 | cons p r ih=>
  intro k b ho h
  obtain⟨x,c⟩:=p
  simp only [once,Bool.and_eq_true]at ho
  rw [aV]
  rcases List.mem_cons.1 h with e | e
  ·injection e with e1 e2
   subst e1;subst e2
   rw [if_pos rfl]
  ·have:=ih ho.2 e
   split
   ·rename_i e'
    subst e'
    rw [this]at ho
    cases ho.1
   ·exact this
def Vu (L:List Nat)(H:aj):aj:=
 match L with
 | []=>H
 | l::r=>Vu r (Iu H l)
theorem oK : ∀ {L:List Nat} {H:aj} {k:Nat} {b:dM},look (Vu L H) k=some b→k∉L∧look H k=some b:=by
 intro L
 induction L with
 | nil=>intro H k b h;exact⟨by simp,h⟩
 | cons l r ih=>
  intro H k b h
  obtain⟨h1,h2⟩:=ih h
  obtain⟨h3,h4⟩:=gX h2
  exact⟨by simp [h1,h3],h4⟩
def jI (i:Nat)(L:List Nat):List (Nat×Src):=
 match L with
 | []=> []
 | l::r=>(i, .lab l)::jI (i+1) r
theorem PY : ∀ {L:List Nat} {i k l:Nat},L[k]? = some l→tr (jI i L) (i+k)=some (.lab l):=by
 intro L
 induction L with
 | nil=>intro i k l h;simp at h
 | cons x r ih=>
  intro i k l h
  cases k with
  | zero=>
   simp only [List.getElem?_cons_zero,Option.some.injEq]at h
   subst h
   simp [jI,tr]
  | succ k=>
   simp only [List.getElem?_cons_succ]at h
   have:=ih (i:=i+1) h
   simp only [jI,tr]
   have e:Nat.beq i (i+(k+1))=false:=by
    cases hb:Nat.beq i (i+(k+1))with
    | false=>rfl
    | true=>have:=Nat.eq_of_beq_eq_true hb;omega
   rw [e,cond_false,show i+(k+1)=i+1+k by omega]
   exact this
def Hg (L:List Nat)(n k:Nat):Nat:=
 match L,k with
 | [],k=>n+k
 | l::_,0=>l
 | _::r,k+1=>Hg r n k
theorem Zu : ∀ {L:List Nat} {n k l:Nat},L[k]? = some l→Hg L n k=l:=by
 intro L
 induction L with
 | nil=>intro n k l h;simp at h
 | cons x r ih=>
  intro n k l h
  cases k with
  | zero=>simp only [List.getElem?_cons_zero,Option.some.injEq]at h;exact h
  | succ k=>exact ih (by simpa using h)
theorem Zv : ∀ {L:List Nat} {n k:Nat},L.length≤k→Hg L n k=n+(k-L.length):=by
 intro L
 induction L with
 | nil=>intro n k _;simp [Hg]
 | cons x r ih=>
  intro n k h
  cases k with
  | zero=>simp at h
  | succ k=>
   simp only [List.length_cons]at h ⊢
   show Hg r n k=_
   rw [ih (by omega)]
   congr 1
   omega
def hasAll (H:aj):Nat→Bool
 | 0=>true
 | k+1=>(match look H k with | some _=>true | none=>false)&&hasAll H k
theorem FW {H:aj} : ∀ {n k:Nat},hasAll H n=true→k<n→∃b,look H k=some b:=by
 intro n
 induction n with
 | zero=>intro k _ h;omega
 | succ n ih=>
  intro k h hk
  simp only [hasAll,Bool.and_eq_true]at h
  by_cases e:k=n
  ·subst e
   cases hl:look H k with
   | none=>rw [hl]at h;cases h.1
   | some b=>exact⟨b,rfl⟩
  ·exact ih h.2 (by omega)
structure Once (H:aj):Prop where
 ok:once H=true
section
variable {P:Program}{G:Glob}{n:Nat}{H:aj}
theorem Vw {f:FuncId}{args args':List AV}{H0:aj}{R:AV→Nat→aj→Prop}{K:AV→Nat→aj→Prop}(L:List Nat)(Z:List Nat)(hc:callable P f=true)(h:bC P G f args' L.length H0 R)
  (hwf:(FM 0 L.length (jI 0 L) Z H0&&hasAll H0 L.length)=true) (hH:IU H (jI 0 L) Z 0 H0) (ha:J5 H (jI 0 L) Z 0 args' args)
  (k : ∀a m H',R a m H'→once H'=true∧K (Vo (Hg L n) a) (n+(m-L.length)) (X8 (Hg L n) H'++Aq Z (Vu L H))):qj P G f args n H K:=by
 simp only [Bool.and_eq_true]at hwf
 obtain⟨hwf,hall⟩:=hwf
 have hwf':=hwf
 simp only [FM,Bool.and_eq_true]at hwf'
 obtain⟨⟨_,hT⟩,hwH⟩:=hwf'
 refine⟨hc,fun w σ F vs st hr=> ?_⟩
 have s1:=y7 (H':=H0) (θ:=jI 0 L) (Z:=Z) (nb:=0) (n':=L.length) st hwf hH
 have r1:=jV (n':=L.length) (Ap:=uS H0) st hT (Nat.zero_le _) args' args vs ha hr
 have Zw : ∀j,(hj:j<L.length)→tr (jI 0 L) j=some (.lab L[j]):=fun j hj=>by
  have:=PY (i:=0) (List.getElem?_eq_getElem hj)
  rwa [Nat.zero_add]at this
 have σ1 : ∀j,(hj:j<L.length)→y5 (jI 0 L) σ (uS H0) j=σ L[j]:=fun j hj=>by unfold y5;rw [Zw j hj]
 have inH : ∀j,(hj:j<L.length)→∃b b',look H L[j]=some b∧look H0 j=some b'∧Tv H (jI 0 L) Z 0 b' b:=fun j hj=>by
  obtain⟨b',hb'⟩:=FW hall hj
  rcases oJ hH hb' with ⟨e,b,hs,hk,hb⟩ | ⟨ht,_⟩
  ·unfold mD at hs
   rw [Zw j hj]at hs
   injection hs with hs
   subst hs
   exact⟨b,b',hk,hb',hb⟩
  ·rw [Zw j hj]at ht;cases ht
 have adK : ∀ {j b'},look H0 j=some b'→j<L.length:=fun h=>(rF hwH h).1
 refine(h w _ _ vs s1.start r1).mono fun v w' ⟨a,m,σ',F',H',hR,s,x,ra⟩=> ?_
 obtain⟨hon,hK⟩:=k a m H' hR
 have hmu : ∀b,jU w (y5 (jI 0 L) σ (uS H0)) H0 b→∃j, ∃hj:j<L.length, ∃c,look H L[j]=some c∧c.own=true∧gZ w (σ L[j]) c b:=fun b ⟨j,c,e,ho,hg⟩=>by
  have hj:=adK e
  obtain⟨b0,b',h1,h2,h3⟩:=inH j hj
  rw [h2]at e
  injection e with e
  subst e
  exact⟨j,hj,b0,h1,by rw [←xk h3];exact ho,by rw [σ1 j hj]at hg;exact xq h3 hg⟩
 have hm:L.length≤m:=x.le
 let σn:Nat→Loc:=fun l=>if l<n then σ l else σ' (l-n+L.length)
 have inN : ∀j,(hj:j<L.length)→L[j]<n:=fun j hj=>by obtain⟨b,_,h1,_⟩:=inH j hj;exact st.lab _ b h1
 have ho : ∀k,k<n→σn k=σ k:=fun k hk=>if_pos hk
 have hs : ∀k,k<m→Hg L n k<n+(m-L.length)∧σn (Hg L n k)=σ' k:=fun k hk=>by
  by_cases hkl:k<L.length
  ·rw [Zu (List.getElem?_eq_getElem hkl)]
   have:=inN k hkl
   refine⟨by omega, ?_⟩
   rw [ho _ this,x.s k hkl,σ1 k hkl]
  ·rw [Zv (by omega)]
   refine⟨by omega, ?_⟩
   show (if n+(k-L.length)<n then _ else _)=_
   rw [if_neg (by omega)]
   congr 1
   omega
 have hF : ∀b,F b→F' b∧w'.heap[b]? = w.heap[b]? :=fun b hb=>x.f b (.inl hb)
 have hE:Ext n σ F w (n+(m-L.length)) σn F' w':=⟨by omega,ho,hF,x.sz⟩
 have PZ : ∀k b g,k∉L→look H k=some b→b.own=true→gZ w (σ k) b g→¬jU w (y5 (jI 0 L) σ (uS H0)) H0 g:=fun k b g X9 hk hm hg Zx=>by
  obtain⟨j,hj,c,h1,h2,h3⟩:=hmu g Zx
  have:=st.inj k L[j] b c g hk h1 hm h2 hg h3
  exact X9 (by rw [this];exact List.getElem_mem hj)
 have old : ∀k b g,look (Aq Z (Vu L H)) k=some b→b.own=true→gZ w (σ k) b g→k∉L∧look H k=some b∧¬F' g∧G.nb≤g∧g<w.heap.size∧jU w σ H g:=by
  intro k b g hk hm hg
  rcases mG hk with ⟨h1,h2⟩ | ⟨_,t,sz,l,_,rfl⟩
  ·obtain⟨X9,h1⟩:=oK h1
   obtain⟨m1,m2,m3,m4⟩:=st.mu k b g h1 hm hg
   refine⟨X9,h1,fun hf=> ?_,m2,m3,⟨k,b,h1,hm,hg⟩⟩
   rcases(s.dG g hf).2 with e | e | e
   ·rcases e with e | ⟨k',t,sz,l,hz,hk',hg'⟩
    ·exact m1 e
    ·have:=st.inj k k' b _ g h1 hk' hm rfl hg (.inl hg')
     subst this
     rw [h1]at hk'
     injection hk' with hk'
     exact h2 hz t sz l hk'
   ·omega
   ·exact PZ k b g X9 h1 hm hg e
  ·cases hm
 have new : ∀k b g,look (X8 (Hg L n) H') k=some b→b.own=true→gZ w' (σn k) b g→∃j c,k=Hg L n j∧look H' j=some c∧c.own=true∧gZ w' (σ' j) c g∧¬F' g∧G.nb≤g∧g<w'.heap.size∧(jU w (y5 (jI 0 L) σ (uS H0)) H0 g∨w.heap.size≤g):=by
  intro k b g hk hm hg
  obtain⟨j,c,rfl,_,hj,rfl⟩:=zn hk
  have hj:=uY hon hj
  rw [Vq]at hm
  rw [(hs j (s.lab j c hj)).2]at hg
  have hg:=Vr hg
  obtain⟨m1,m2,m3,m4⟩:=s.mu j c g hj hm hg
  exact⟨j,c,rfl,hj,hm,hg,m1,m2,m3,m4⟩
 have bk : ∀ {k b g},look (Aq Z (Vu L H)) k=some b→b.own=true→gZ w' (σ k) b g→gZ w (σ k) b g:=fun hk hm hg=>hg.back fun y hy=>(let ⟨o1,o2,_,_,o5,_⟩:=old _ _ y hk hm (.inl hy);s.fJ.block y o5 (PZ _ _ y o1 o2 hm (.inl hy)))
 have rJ : ∀k b,look (Aq Z (Vu L H)) k=some b→k<n:=fun k b hk=>by
  rcases mG hk with ⟨h1,_⟩ | ⟨_,t,sz,l,h1,_⟩
  ·exact st.lab k _ (oK h1).2
  ·exact st.lab k _ (oK h1).2
 have cross : ∀k k' b b' g,look (X8 (Hg L n) H') k=some b→look (Aq Z (Vu L H)) k'=some b'→b.own=true→b'.own=true→gZ w' (σn k) b g→gZ w (σ k') b' g→False:=by
  intro k k' b b' g hk hk' hm hm' hg hg'
  obtain⟨j,c,e1,h1,h2,h3,_,_,_,h4⟩:=new k b g hk hm hg
  obtain⟨o1,o2,_,_,o5,_⟩:=old k' b' g hk' hm' hg'
  rcases h4 with h4 | h4
  ·exact PZ k' b' g o1 o2 hm' hg' h4
  ·omega
 have hst:St G w (jU w σ H) F (n+(m-L.length)) σn F' (X8 (Hg L n) H'++Aq Z (Vu L H)) w':=by
  refine⟨s.glob,⟨s.fJ.os,s.fJ.tape,s.fJ.output,x.sz,fun b hb hn=>s.fJ.block b hb fun Zx=>hn ?_⟩,fun b hb=>⟨(s.dG b hb).1, ?_⟩,fun k b hk=> ?_,fun k b g hk hm hg=> ?_,fun k k' b b' g hk hk' hm hm' hg hg'=> ?_,fun k b hk=> ?_⟩
  ·obtain⟨j,hj,c,h1,h2,h3⟩:=hmu b Zx
   exact⟨L[j],c,h1,h2,h3⟩
  ·rcases(s.dG b hb).2 with e | e | e
   ·rcases e with e | ⟨k',t,sz,l,hz,hk',hg'⟩
    ·exact .inl e
    ·exact .inr (.inr ⟨k',_,hk',rfl, .inl hg'⟩)
   ·exact .inr (.inl e)
   ·obtain⟨j,hj,c,h1,h2,h3⟩:=hmu b e
    exact .inr (.inr ⟨L[j],c,h1,h2,h3⟩)
  ·rcases bJ hk with hk | ⟨_,hk⟩
   ·obtain⟨j,c,rfl,_,hj,_⟩:=zn hk
    exact(hs j (s.lab j c (uY hon hj))).1
   ·have:=rJ k b hk;omega
  ·rcases bJ hk with hk | ⟨_,hk⟩
   ·obtain⟨j,c,_,_,_,_,m1,m2,m3,m4⟩:=new k b g hk hm hg
    refine⟨m1,m2,m3,m4.elim (fun h=> ?_) .inr⟩
    obtain⟨j,hj,c,h1,h2,h3⟩:=hmu g h
    exact .inl ⟨L[j],c,h1,h2,h3⟩
   ·rw [ho k (rJ k b hk)]at hg
    obtain⟨_,_,m1,m2,m3,m4⟩:=old k b g hk hm (bk hk hm hg)
    exact⟨m1,m2,Nat.lt_of_lt_of_le m3 x.sz, .inl m4⟩
  ·rcases bJ hk with hk | ⟨_,hk⟩
   ·rcases bJ hk' with hk' | ⟨_,hk'⟩
    ·obtain⟨j,c,e1,h1,h2,h3,_⟩:=new k b g hk hm hg
     obtain⟨j',c',e1',h1',h2',h3',_⟩:=new k' b' g hk' hm' hg'
     have:=s.inj j j' c c' g h1 h1' h2 h2' h3 h3'
     rw [e1,e1',this]
    ·rw [ho k' (rJ k' b' hk')]at hg'
     exact(cross k k' b b' g hk hk' hm hm' hg (bk hk' hm' hg')).elim
   ·rcases bJ hk' with hk' | ⟨_,hk'⟩
    ·rw [ho k (rJ k b hk)]at hg
     exact(cross k' k b' b g hk' hk hm' hm hg' (bk hk hm hg)).elim
    ·rw [ho k (rJ k b hk)]at hg
     rw [ho k' (rJ k' b' hk')]at hg'
     have h5:=old k b g hk hm (bk hk hm hg)
     have h6:=old k' b' g hk' hm' (bk hk' hm' hg')
     exact st.inj k k' b b' g h5.2.1 h6.2.1 hm hm' (bk hk hm hg) (bk hk' hm' hg')
  ·rcases bJ hk with hk | ⟨_,hk⟩
   ·obtain⟨j,c,rfl,_,hj,rfl⟩:=zn hk
    have hj:=uY hon hj
    rw [(hs j (s.lab j c hj)).2]
    exact Vt hs (s.blk j c hj)
   ·rw [ho k (rJ k b hk)]
    rcases mG hk with ⟨h1,_⟩ | ⟨hz,t,sz,l,h1,rfl⟩
    ·obtain⟨X9,h1⟩:=oK h1
     exact(st.blk k b h1).mono hE fun hm g hg=>s.fJ.block g (st.mu k b g h1 hm hg).2.2.1 (PZ k b g X9 h1 hm hg)
    ·obtain⟨X9,h1⟩:=oK h1
     have hb:=(st.blk k _ h1).mono hE fun hm g hg=>s.fJ.block g (st.mu k _ g h1 rfl hg).2.2.1 (PZ k _ g X9 h1 rfl hg)
     exact jv hb (fun _ h=>h) fun g hg=>(x.f g (.inr ⟨k,t,sz,l,hz,h1,hg⟩)).1
 exact⟨Vo (Hg L n) a,n+(m-L.length),σn,F',_,hK,hst,hE,I8 hs ra⟩
theorem aG {f:FuncId}{args args':List AV}{H0:aj}{R:AV→Nat→aj→Prop}{K:AV→Nat→aj→Prop}(L:List Nat)(Z:List Nat)(hc:callable P f=true)(h:bC P G f args' L.length H0 R)
  (hwf:(FM 0 L.length (jI 0 L) Z H0&&hasAll H0 L.length)=true) (hH:IU H (jI 0 L) Z 0 H0) (ha:J5 H (jI 0 L) Z 0 args' args)
  (k : ∀a m H',R a m H'→once H'=true∧frc (n+(m-L.length)) (X8 (Hg L n) H'++Aq Z (Vu L H)) fun n' jm=>K (Vo (Hg L n) a) n' jm):qj P G f args n H K:=
 Vw L Z hc h hwf hH ha fun a m H' hR=>by have:=k a m H' hR;rwa [PI]at this
end
def wP (r:Option Nat):Fence:= {fn:=fun _=>True,depth:=none,alive:=false,round:=r}
theorem FX {r:Option Nat}{n:Nat}{P:Program}{f:FuncId}{args:Array Value}{w:World}{R:Ending→World→Prop}(h:Calls P f args w R):CallsIn (wP r) n P f args w R:=(callsIn_wide (n:=n)).2 h
theorem I9 {r:Option Nat}{n:Nat}{P:Program}{row:String}{args:Array Value}{w:World}{R:Value→World→Prop}(h:Rows P row args w R):RowsIn (wP r) n P row args w R:=
 fun c cs _=>let ⟨v,w',hr,s⟩:=h c cs;⟨v,w',hr,(stepsIn_wide (P:=P)).2 s⟩
def gK (o:Oper):Bool:=match o.op with | .defer _=>false | _=>true
theorem zo {o:Oper}(h:gK o=true) : ∀c,o.op≠ .defer c:=fun c e=>by unfold gK at h;rw [e]at h;cases h
section
variable {P:Program}{r:Option Nat}{n:Nat}{ops:Array Oper}{Q:Exit→Act→World→Prop}
theorem DU {o:Oper}{a:Act}{w:World}{next next':Act→World→Prop}(hd:gK o=true)(hn : ∀a w,next a w→next' a w)(h:o.wp P a w next Q):o.wpIn (wP r) n P a w next' Q:=by
 refine⟨fun _ _=>trivial, ?_⟩
 have e:o.semAt (wP r).round a.eval=execOp a.eval o:=Oper.semAt_plain (wP r) _ o (zo hd)
 rw [e]
 unfold Oper.wp at h
 generalize (execOp a.eval o).run P w=res at *
 cases res with
 | ok x w'=>
  cases x with
  | value v=>exact hn _ _ h
  | skip=>exact hn _ _ h
  | defer d=>exact hn _ _ h
  | enter f args=>
   refine⟨(fun hh=>by cases hh),FX (Calls.mono h fun e w'' he=> ?_)⟩
   cases e with
   | returned v=>exact hn _ _ he
   | panicked ch=>exact he
   | outgrown=>exact he
  | row row args=>exact⟨(fun hh=>by cases hh),I9 (Rows.mono h fun v w'' he=>hn _ _ he)⟩
  | round l f tmps ars bo=>exact h.elim
  | _=>exact h.elim
 | halt x w'=>
  cases x with
  | panic v=>exact h
  | _=>exact h.elim
theorem P5 (hq : ¬LetsOut Q) : ∀(l:List Nat),(∀i∈l, ∀o,ops[i]? = some o→gK o=true)→∀a w,wpOps P ops Q l a w→wpOpsIn (wP r) n P ops Q l a w:=by
 intro l
 induction l with
 | nil=>intro _ a w h;exact h
 | cons i rest ih=>
  intro hd a w h
  have ih:=ih fun j hj=>hd j (List.mem_cons_of_mem _ hj)
  unfold wpOps at h
  unfold wpOpsIn
  cases ho:ops[i]? with
  | none=>rw [ho]at h;exact ih a w h
  | some o=>
   simp only [ho]at h ⊢
   split
   ·rename_i hw
    rw [if_pos hw]at h
    exact DU (hd i List.mem_cons_self o ho) ih (h.resolve_right fun hh=>hq hh.2)
   ·rename_i hw
    rw [if_neg hw]at h
    exact⟨fun _ _=>trivial,ih _ _ h⟩
theorem Vx (hq : ¬LetsOut Q){i:Nat}(hd : ∀(i:Nat) (o:Oper),ops[i]? = some o→gK o=true){a:Act}{w:World}{K K':Act→World→Prop}(hn : ∀a w,K a w→K' a w)(h:wpOp P ops Q i K a w):wpOpIn (wP r) n P ops Q i K' a w:=by
 unfold Go.wpOp at h
 unfold Go.wpOpIn
 cases ho:ops[i]? with
 | none=>simp only [ho]at h ⊢;exact hn _ _ h
 | some o=>
  simp only [ho]at h ⊢
  split
  ·rename_i hw
   rw [if_pos hw]at h
   exact DU (hd i o ho) hn (h.resolve_right fun hh=>hq hh.2)
  ·rename_i hw
   rw [if_neg hw]at h
   exact⟨fun _ _=>trivial,hn _ _ h⟩
theorem rP (hq : ¬LetsOut Q){md:Region.Mode}(hd : ∀(i:Nat) (o:Oper),ops[i]? = some o→gK o=true) : ∀(fuel:Nat) (listed:Array Bool) (a:Act) (w:World),wpAny P md ops Q fuel listed a w→wpAnyIn (wP r) n P md ops Q fuel listed a w:=by
 intro fuel
 induction fuel with
 | zero=>intro listed a w h;exact h
 | succ fuel ih=>intro listed a w h;exact⟨h.1,fun i hi=>Vx hq hd (fun a w=>ih _ a w) (h.2 i hi)⟩
end
structure Off (G:Glob)(w₀:World)(σ:Nat→Loc)(F:Nat→Prop)(H:aj)(w:World)(k:Nat):Prop where
 new:w₀.heap.size≤k
 nb:G.nb≤k
 lt:k<w.heap.size
 nf : ¬F k
 nm : ¬jU w σ H k
section
variable {G:Glob}{w₀:World}{aJ aN:Nat→Prop}{n n':Nat}{σ σ':Nat→Loc}{F F':Nat→Prop}{H H':aj}{w w':World}{k:Nat}
theorem Off.step (h:Off G w₀ σ F H w k)(s:St G w (jU w σ H) F n' σ' F' H' w'):Off G w₀ σ' F' H' w' k∧w'.heap[k]? = w.heap[k]? :=by
 refine⟨⟨h.new,h.nb,Nat.lt_of_lt_of_le h.lt s.fJ.size,fun hf=> ?_,fun⟨aP,blk,h1,h2,h3⟩=> ?_⟩,s.fJ.block k h.lt h.nm⟩
 ·have hl:=h.lt
  rcases(s.dG k hf).2 with e | e | e
  ·exact h.nf e
  ·omega
  ·exact h.nm e
 ·have hl:=h.lt
  rcases(s.mu aP blk k h1 h2 h3).2.2.2 with e | e
  ·exact h.nm e
  ·omega
theorem rQ (o:Obj)(nf : ¬F k):Ext n σ F w n σ F (w.putObj k o):=
 ⟨Nat.le_refl _,fun _ _=>rfl,fun b hb=>⟨hb,World.putObj_heap_other fun e=>nf (e▸hb)⟩,Nat.le_of_eq World.putObj_size.symm⟩
theorem St.put (st:St G w₀ aJ aN n σ F H w)(h:Off G w₀ σ F H w k)(o:Obj):St G w₀ aJ aN n σ F H (w.putObj k o):=by
 have hs:(w.putObj k o).heap.size=w.heap.size:=World.putObj_size
 have hb : ∀b,b≠k→(w.putObj k o).heap[b]? = w.heap[b]? :=fun b hb=>World.putObj_heap_other hb
 have hk:=h.nb
 have hn:=h.new
 have bk : ∀ {aP b g},look H aP=some b→b.own=true→gZ (w.putObj k o) (σ aP) b g→gZ w (σ aP) b g:=fun h1 hm hg=>hg.back fun y hy=>hb y fun e=>h.nm ⟨_,_,h1,hm, .inl (e▸hy)⟩
 refine⟨Glob.fJ st.glob (Nat.le_of_eq hs.symm) fun b hb'=>hb b (by omega),⟨st.fJ.os,st.fJ.tape,st.fJ.output,by rw [hs];exact st.fJ.size,fun b h1 h2=>(hb b (by omega)).trans (st.fJ.block b h1 h2)⟩,fun b hb'=>⟨by rw [hs];exact(st.dG b hb').1,(st.dG b hb').2⟩,st.lab,fun aP b g h1 h2 h3=> ?_,fun e e' b b' g h1 h2 m1 m2 g1 g2=>st.inj e e' b b' g h1 h2 m1 m2 (bk h1 m1 g1) (bk h2 m2 g2),fun aP b h1=> ?_⟩
 ·obtain⟨a1,a2,a3,a4⟩:=st.mu aP b g h1 h2 (bk h1 h2 h3)
  exact⟨a1,a2,by rw [hs];exact a3,a4⟩
 ·exact(st.blk aP b h1).mono (rQ o h.nf) fun hm g hg=>hb g fun e=>h.nm ⟨aP,b,h1,hm,e▸hg⟩
theorem Off.put (h:Off G w₀ σ F H w k){l:Nat}{w₁:World}(hl:Off G w₁ σ F H w l)(o:Obj):Off G w₀ σ F H (w.putObj l o) k:=
 ⟨h.new,h.nb,by rw [World.putObj_size];exact h.lt,h.nf,fun⟨e,b,h1,h2,h3⟩=>h.nm ⟨e,b,h1,h2,h3.back fun y hy=>World.putObj_heap_other fun e'=>by subst e';exact hl.nm ⟨e,b,h1,h2, .inl hy⟩⟩⟩
theorem zq (st:St G w₀ aJ aN n σ F H w)(hB:Below w.heap.size w w'):Ext n σ F w n σ F w':=⟨Nat.le_refl _,fun _ _=>rfl,fun b hb=>⟨hb,hB.block b (st.dG b hb).1⟩,hB.size⟩
theorem St.grow (st:St G w₀ aJ aN n σ F H w)(hB:Below w.heap.size w w'):St G w₀ aJ aN n σ F H w':=by
 have h0:=st.fJ.size
 have bk : ∀ {aP b g},look H aP=some b→b.own=true→gZ w' (σ aP) b g→gZ w (σ aP) b g:=fun h1 hm hg=>hg.back fun y hy=>hB.block y (st.mu _ _ y h1 hm (.inl hy)).2.2.1
 refine⟨Glob.fJ st.glob hB.size fun b hb=>hB.block b (Nat.lt_of_lt_of_le hb st.glob.1),⟨hB.os.trans st.fJ.os,hB.tape.trans st.fJ.tape,hB.output.trans st.fJ.output,Nat.le_trans h0 hB.size,fun b h1 h2=>(hB.block b (by omega)).trans (st.fJ.block b h1 h2)⟩,fun b hb=>⟨Nat.lt_of_lt_of_le (st.dG b hb).1 hB.size,(st.dG b hb).2⟩,st.lab,fun aP b g h1 h2 h3=> ?_,fun e e' b b' g h1 h2 m1 m2 g1 g2=>st.inj e e' b b' g h1 h2 m1 m2 (bk h1 m1 g1) (bk h2 m2 g2),fun aP b h1=> ?_⟩
 ·obtain⟨a1,a2,a3,a4⟩:=st.mu aP b g h1 h2 (bk h1 h2 h3)
  exact⟨a1,a2,Nat.lt_of_lt_of_le a3 hB.size,a4⟩
 ·exact(st.blk aP b h1).mono (zq st hB) fun hm g hg=>hB.block g (st.mu aP b g h1 hm hg).2.2.1
theorem Off.grow (h:Off G w₀ σ F H w k)(st:St G w₀ aJ aN n σ F H w)(hB:Below w.heap.size w w'):Off G w₀ σ F H w' k:=
 ⟨h.new,h.nb,Nat.lt_of_lt_of_le h.lt hB.size,h.nf,fun⟨e,b,h1,h2,h3⟩=>h.nm ⟨e,b,h1,h2,h3.back fun y hy=>hB.block y (st.mu _ _ y h1 h2 (.inl hy)).2.2.1⟩⟩
end
def mark (D:Nat):Deferred:= {target:= .collected D,args:= #[]}
structure MK (G:Glob)(w₀:World)(L:List Nat)(σ:Nat→Loc)(F:Nat→Prop)(H:aj)(w:World):Prop where
 nodup:L.Nodup
 off : ∀D∈L,Off G w₀ σ F H w D
 obj : ∀D∈L,w.heap[D]? = some (.deferred (some []))
theorem MK.nil {G:Glob}{w₀:World}{σ:Nat→Loc}{F:Nat→Prop}{H:aj}{w:World} : MK G w₀ [] σ F H w:=⟨List.nodup_nil,fun _ h=>(by cases h),fun _ h=>(by cases h)⟩
theorem MK.step {G:Glob}{w₀:World}{L:List Nat}{n':Nat}{σ σ':Nat→Loc}{F F':Nat→Prop}{H H':aj}{w w':World}(h:MK G w₀ L σ F H w)(s:St G w (jU w σ H) F n' σ' F' H' w'):MK G w₀ L σ' F' H' w':=
 ⟨h.nodup,fun D hD=>((h.off D hD).step s).1,fun D hD=>((h.off D hD).step s).2.trans (h.obj D hD)⟩
theorem FY {P:Program}{fn:Func}{tmps:Array Value}{R:Ending→World→Prop}{G:Glob}{w₀:World}{aJ aN:Nat→Prop}{n:Nat}{σ:Nat→Loc}{F:Nat→Prop}{H:aj} :
  ∀(L:List Nat) (w:World),MK G w₀ L σ F H w→St G w₀ aJ aN n σ F H w→(∀w',St G w₀ aJ aN n σ F H w'→Ext n σ F w n σ F w'→LeavesIn (wP none) 0 P fn tmps R [] .returning w')→LeavesInM (wP none) 0 P fn tmps R (L.map mark) .returning w:=by
 intro L
 induction L with
 | nil=>intro w _ st h;exact h w st (Ext.refl _ _ _ _)
 | cons D L ih=>
  intro w hm st h
  have ho:=hm.off D List.mem_cons_self
  have hnd:=List.nodup_cons.1 hm.nodup
  refine⟨(by simp), .inl ⟨D,_,rfl,run_takeDeferred (hm.obj D List.mem_cons_self),ih _ ⟨hnd.2,fun D' h'=>(hm.off D' (List.mem_cons_of_mem _ h')).put ho _,fun D' h'=> ?_⟩ (st.put ho _) fun w' s x=>h w' s ((rQ _ ho.nf).trans x)⟩⟩
  rw [World.putObj_heap_other (fun e:D'=D=>hnd.1 (e▸h'))]
  exact hm.obj D' (List.mem_cons_of_mem _ h')
def AIt (P:Program)(G:Glob)(gf:FuncId)(caps:List AV)(xs:List (List AV)):Prop:=
 ∀(n:Nat) (σ:Nat→Loc) (F:Nat→Prop) (vs:List Value) (W:World) (l:Nat) (J:Nat→World→Prop),G.holds W→(∀b,F b→b<W.heap.size)→bI n σ F W caps vs→
  (∀i W' W'',J i W'→Below W'.heap.size W' W''→J i W'')→
  (∀i W',J i W'→W.heap.size≤W'.heap.size∧G.holds W'∧∀b,F b→W'.heap[b]? = W.heap[b]?)→
  (∀i x W' args,xs[i]? = some x→J i W'→bI n σ F W' x args→YieldAt (wP none) 0 P l args.toArray W' fun e W''=>e = .returned (.bool true)∧J (i+1) W'')→
  J 0 W→CallsIn (wP none) 0 P gf (#[.func (.yield l) #[] #[]]++vs.toArray) W fun e W'=>(∃v,e = .returned v)∧J xs.length W'
def zx (ρ:aH)(ps:List Tmp)(x:List AV):aH:=
 match ps,x with
 | p::ps,a::x=>zx (jF ρ p a) ps x
 | _,_=>ρ
def Kt (K:aH→Nat→aj→Prop)(e:Ex)(ρ:aH)(n:Nat)(H:aj):Prop:=
 match e with
 | .normal=>K ρ n H
 | _=>False
structure P6 (P:Program)(G:Glob)(gv:AV)(ps:Array Tmp)(A B:(Ex→aH→Nat→aj→Prop)→aH→Nat→aj→Prop)(Q:Ex→aH→Nat→aj→Prop)(ρ:aH)(n:Nat)(H:aj):Prop where
 ex : ∃(gf:FuncId) (caps:List AV) (xs:List (List AV)) (nl:Nat) (Hs:Nat→aj),gv = .fn (.func gf) [] caps∧callable P gf=true∧AIt P G gf caps xs∧n≤nl∧(∀x∈xs,x.length=ps.size)∧
  BJ G (fun _=>false) n ρ n H ρ nl (Hs 0)∧
  (∀i x,xs[i]? = some x→A (Kt (B (Kt fun ρ' n' H'=>yV (BJ G (fun _=>false) n ρ' n' H' ρ nl (Hs (i+1)))))) (zx ρ ps.toList x) nl (Hs i))∧
  Q .normal ρ nl (Hs xs.length)
def aY (P:Program)(G:Glob)(c:Code)(Q:Ex→aH→Nat→aj→Prop)(ρ:aH)(n:Nat)(H:aj):Prop:=
 match c with
 | .skip=>Q .normal ρ n H
 | .region id ops draw=>(match draw with
  | false=>MV P G ops.toList ops.toList ρ n H (Q .normal)
  | true=>ql P G id ops (Q .normal) ρ n H)
 | .seq a b=>aY P G a (abz (aY P G b) Q) ρ n H
 | .cond c t e=>(match dI ρ c with
  | .v (.bool b)=>Ez b (aY P G t Q ρ n H) (aY P G e Q ρ n H)
  | _=>False)
 | .block id body=>aY P G body (Ui id Q) ρ n H
 | .loop body=>J4 G body (aY P G body) Q ρ n H
 | .exit id=>Q (.exit id) ρ n H
 | .ret=>Q .ret ρ n H
 | .rangeFunc g ps assign body=>P6 P G (dI ρ g) ps (aY P G assign) (aY P G body) Q ρ n H
 | _=>False
def eX (rf:Bool)(N:Nat)(W:Nat→Bool):Code→Bool
 | .region _ ops _=>ops.toList.all fun o=>gV N W o&&lN o&&gK o
 | .seq a b=>eX rf N W a&&eX rf N W b
 | .cond _ a b=>eX rf N W a&&eX rf N W b
 | .block _ b=>eX rf N W b
 | .loop b=>eX rf N W b
 | .skip | .exit _ | .ret=>true
 | .rangeFunc _ ps a b=>rf&&ps.toList.all (Nat.blt · N)&&eX false N (fun _=>true) a&&eX false N (fun _=>true) b
 | _=>false
theorem wu {rf:Bool}{N:Nat}{W ws:Nat→Bool} : ∀c:Code,eX rf N W c=true→writesIn ws c=true→eX rf N (fun k=>W k&&ws k) c=true:=by
 intro c
 induction c with
 | region id ops d=>
  intro h1 h2
  simp only [eX,writesIn,List.all_eq_true,Bool.and_eq_true]at *
  intro o ho
  obtain⟨⟨a1,a3⟩,a4⟩:=h1 o ho
  have a2:=h2 o ho
  refine⟨⟨?_,a3⟩,a4⟩
  unfold gV at *
  unfold TJ at a2
  cases hd:o.dst with
  | none=>rfl
  | some d=>simp only [hd,Bool.and_eq_true]at a1 a2 ⊢;exact⟨a1.1,a1.2,a2⟩
 | seq a b iha ihb=>intro h1 h2;simp only [eX,writesIn,Bool.and_eq_true]at *;exact⟨iha h1.1 h2.1,ihb h1.2 h2.2⟩
 | cond c a b iha ihb=>intro h1 h2;simp only [eX,writesIn,Bool.and_eq_true]at *;exact⟨iha h1.1 h2.1,ihb h1.2 h2.2⟩
 | block id b ih=>intro h1 h2;simp only [eX,writesIn]at *;exact ih h1 h2
 | loop b ih=>intro h1 h2;simp only [eX,writesIn]at *;exact ih h1 h2
 | skip=>intro _ _;rfl
 | exit id=>intro _ _;rfl
 | ret=>intro _ _;rfl
 | rangeFunc g ps a b _ _=>intro h1 _;exact h1
 | scope b _=>intro h1 _;simp [eX]at h1
 | label l=>intro h1 _;simp [eX]at h1
 | _=>intro h1 h2;simp [writesIn]at h2
structure AtY (G:Glob)(w₀:World)(aJ aN:Nat→Prop)(N:Nat)(Lp:List Nat→Prop)(W:Nat→Bool)(aA:aS)(nb:Nat)(gJ:Nat→Loc)(Fb:Nat→Prop)(wb:World)(K:aH→Nat→aj→Prop)(a:Act)(w:World):Prop where
 ex : ∃L ρ cu n σ F H,Lp L∧Fits N (L.map mark) ρ a∧Same W aA ρ∧St G w₀ aJ aN n σ F H w∧Ext nb gJ Fb wb n σ F w∧ig n σ F w cu ρ∧MK G w₀ L σ F H w∧K cu n H
def AQY (G:Glob)(w₀:World)(aJ aN:Nat→Prop)(N:Nat)(Lp:List Nat→Prop)(W:Nat→Bool)(aA:aS)(nb:Nat)(gJ:Nat→Loc)(Fb:Nat→Prop)(wb:World)(Q:Ex→aH→Nat→aj→Prop):Exit→Act→World→Prop
 | .normal,a,w=>AtY G w₀ aJ aN N Lp W aA nb gJ Fb wb (Q .normal) a w
 | .exit id,a,w=>AtY G w₀ aJ aN N Lp W aA nb gJ Fb wb (Q (.exit id)) a w
 | .ret,a,w=>AtY G w₀ aJ aN N Lp W aA nb gJ Fb wb (Q .ret) a w
 | _,_,_=>False
theorem rU {F:Fence}{n:Nat}{P:Program}{c:Code}{Q:Exit→Act→World→Prop}{a:Act}{w:World}(I:Nat→Act→World→Prop)(m:Nat)(h₀:I m a w)
  (round : ∀m a w,I m a w→c.wpIn F n P (Exit.then (fun a' w'=> ∃m',m'<m∧I m' a' w') Q) a w):(Code.loop c).wpIn F n P Q a w:=by
 intro b k cs hro hb hr
 have key : ∀m a w,I m a w→∃e a' w',Q e a' w'∧ArrivesIn (Machine.fenced P F) P (lone (b.atR a (.code c:: .inLoop c::k)) cs w) b k cs e a' w':=by
  intro m
  induction m using Nat.strongRecOn with
  | _ m ih=>
   intro a w hI
   obtain⟨e,a₁,w₁,hq,harr⟩:=round m a w hI b (.inLoop c::k) cs hro hb hr
   cases e with
   | normal=>
    obtain⟨m',hlt,hI₁⟩:=hq
    obtain⟨e₂,a₂,w₂,hq₂,harr₂⟩:=ih m' hlt a₁ w₁ hI₁
    exact⟨e₂,a₂,w₂,hq₂, .of_steps (StepsIn.trans harr (.one (fenced_calm hb hr rfl) stepR_inLoop)) harr₂⟩
   | exit id=>exact⟨_,a₁,w₁,hq, .pass (x:= .inLoop c) rfl (fun _ _=> .inl (by simp)) harr⟩
   | goto l=>exact⟨_,a₁,w₁,hq, .pass (x:= .inLoop c) rfl (fun _ _=> .inl (by simp)) harr⟩
   | ret=>exact⟨_,a₁,w₁,hq, .pass (x:= .inLoop c) rfl (fun _ _=> .inl (by simp)) harr⟩
   | panic ch=>exact⟨_,a₁,w₁,hq, .pass (x:= .inLoop c) rfl (fun _ _=> .inl (by simp)) harr⟩
   | outgrown=>exact⟨_,a₁,w₁,hq, .pass (x:= .inLoop c) rfl (fun _ _=> .inl (by simp)) harr⟩
 obtain⟨e,a',w',hq,harr⟩:=key m a w h₀
 exact⟨e,a',w',hq, .of_steps (.one (fenced_calm hb hr rfl) stepR_loop) harr⟩
section
variable {P:Program}{G:Glob}{N:Nat}
theorem Fits.zx {n:Nat}{σ:Nat→Loc}{F:Nat→Prop}{w:World} : ∀(ps:List Tmp) (x:List AV) (vs:List Value) (cu:aH) (ρ:aS) (t:Array Value),(∀p∈ps,p<N)→x.length=ps.length→bI n σ F w x vs→Fits N [] ρ {tmps:=t,defers:= []} →ig n σ F w cu ρ→
  ∃ρ',Fits N [] ρ' {tmps:=(ps.zip vs).foldl (fun t (p,v)=>t.setIfInBounds p v) t,defers:= []} ∧ig n σ F w (Ax.zx cu ps x) ρ':=by
 intro ps
 induction ps with
 | nil=>intro x vs cu ρ t _ _ _ hf hr;exact⟨ρ,hf,by cases x<;>exact hr⟩
 | cons p ps ih=>
  intro x vs cu ρ t hp hl r hf hr
  cases x with
  | nil=>simp at hl
  | cons a x=>
   cases vs with
   | nil=>exact r.elim
   | cons v vs=>
    have h1:=hf.put (some p) v (fun t e=>by cases e;exact hp p List.mem_cons_self)
    have h2:=fU (d:=some p) hr (Ext.refl _ _ _ _) r.1
    exact ih x vs (jF cu p a) (upd ρ p v) (t.setIfInBounds p v) (fun q hq=>hp q (List.mem_cons_of_mem _ hq)) (by simpa using hl) r.2 h1 h2
end
section
variable {P:Program}{G:Glob}{w₀:World}{aJ aN:Nat→Prop}{N:Nat}{ds:List Deferred}{W:Nat→Bool}{ops:Array Oper}{aA:aS}
variable {nb:Nat}{gJ:Nat→Loc}{Fb:Nat→Prop}{wb:World}
theorem ql.DV {r:Option Nat}{id:Nat}{K:aH→Nat→aj→Prop}{cu:aH}{n:Nat}{σ:Nat→Loc}{F:Nat→Prop}{H:aj}{ρ:aS}{a:Act}{w:World}(hm:P.follows .mixedOrders=true)(hok : ∀o∈ops.toList,gV N W o=true∧lN o=true)(hnd : ∀(i:Nat) (o:Oper),ops[i]? = some o→gK o=true)
  (hf:Fits N ds ρ a) (hs:Same W aA ρ) (st:St G w₀ aJ aN n σ F H w) (x:Ext nb gJ Fb wb n σ F w) (hr:ig n σ F w cu ρ) (h:ql P G id ops K cu n H) :
  (Code.region id ops true).wpIn (wP r) 0 P (RA (Du G w₀ aJ aN N ds W aA nb gJ Fb wb K)) a w:=by
 have e:=yU n σ F w
 rcases h.ex with ⟨p,D,hd,hv⟩ | ⟨p,D,ws,ρ',n',H',hd,hws,hle,hun,hv,hk⟩ | ⟨T,ts,ns,p,e',D,ws,A,hd,hws,hle,hun,h0,hstep,hE⟩
 ·simp only [lF,lJ,Bool.and_eq_true]at hd
  obtain⟨⟨⟨hsel,uw⟩,hp⟩,hpo⟩:=hd
  exact wpIn_region_any hm (rP (fun⟨_,_,h⟩=>h) hnd _ _ _ _ (iZ _ _ _ _ _ _ (oI hsel hok p D (takes p) _ cu n σ F H ρ a w.drew hp hpo (fun j o _ hl=>by rw [kE]at hl;cases hl) hf hs st.drew (x.trans e) (fun s=>(hr s).mono e) hv ops.size (Nat.le_of_ble_eq_true uw))))
 ·simp only [lF,lJ,Bool.and_eq_true]at hd
  obtain⟨⟨⟨hsel,uw⟩,hp⟩,hpo⟩:=hd
  have hok2 : ∀o∈ops.toList,gV N (fun k=>W k&&ws k) o=true∧lN o=true:=fun o ho=>by
   refine⟨?_,(hok o ho).2⟩
   have h1:=(hok o ho).1
   have h2:=List.all_eq_true.1 hws o ho
   unfold gV at h1 ⊢
   cases hd:o.dst with
   | none=>rfl
   | some d=>
    rw [hd]at h1 h2
    simp only [Bool.and_eq_true]at h1 ⊢
    exact⟨h1.1,h1.2,h2⟩
  have hr':ig n σ F w.drew cu ρ:=fun s=>(hr s).mono e
  refine Go.wpIn_mono (wpIn_region_any hm (rP (fun⟨_,_,h⟩=>h) hnd _ _ _ _ (iZ _ _ _ _ _ _ (oI (W:=fun k=>W k&&ws k) (aA:=ρ) (nb:=n) (gJ:=σ) (Fb:=F) (wb:=w.drew) hsel hok2 p D (takes p) _ cu n σ F H ρ a w.drew hp hpo (fun j o _ hl=>by rw [kE]at hl;cases hl) hf (Same.refl _ _) st.drew (Ext.refl _ _ _ _) hr' hv ops.size (Nat.le_of_ble_eq_true uw))))) fun ex a' w' hq=> ?_
  cases ex with
  | normal=>
   obtain⟨FD,YT,n₁,σ₁,Dv,H₁,Pq,hs₁,Pv,x₁,Px,Py⟩:=hq
   obtain⟨σ',F',s',r',l',f'⟩:=Py.holds w₀ aJ aN σ₁ Dv w' FD Pv fun s _=>Px s
   have x':Ext n σ F w.drew n' σ' F' w':=⟨hle,fun l hl=>(l' l hl).trans (x₁.s l hl),fun b hb=>⟨f' b (x₁.f b hb).1,(x₁.f b hb).2⟩,x₁.sz⟩
   refine⟨FD,ρ',n',σ',F',H',Pq,hs.trans fun k hk=>hs₁ k (by simp [hk]),s',(x.trans e).trans x',fun s=> ?_,hk⟩
   cases IK:ws s with
   | true=>exact r' s IK
   | false=>
    rw [hun s IK,hs₁ s (by simp [IK])]
    exact(hr' s).mono x'
  | exit id=>exact hq.elim
  | ret=>exact hq.elim
  | goto l=>exact hq.elim
  | panic ch=>exact hq.elim
  | outgrown=>exact hq.elim
 ·exact wpIn_region_any hm (rP (fun⟨_,_,h⟩=>h) hnd _ _ _ _ (J3 hok hf hs st x hr hd hws hle hun h0 hstep hE))
end
section
variable {P:Program}{G:Glob}{N:Nat}
theorem P7 (hm:P.follows .mixedOrders=true) : ∀(c:Code) (rf:Bool) (r:Option Nat) (Lp:List Nat→Prop) (W:Nat→Bool) (Q:Ex→aH→Nat→aj→Prop) (cu:aH) (n:Nat) (H:aj) (ρ aA:aS) (a:Act) (w:World) (σ:Nat→Loc) (F:Nat→Prop) (nb:Nat) (gJ:Nat→Loc) (Fb:Nat→Prop) (wb:World) (L:List Nat) (w₀:World) (aJ aN:Nat→Prop),
  (rf=true→r=none∧∀D L,Lp L→Lp (D::L))→eX rf N W c=true→Lp L→Fits N (L.map mark) ρ a→Same W aA ρ→St G w₀ aJ aN n σ F H w→Ext nb gJ Fb wb n σ F w→ig n σ F w cu ρ→MK G w₀ L σ F H w→aY P G c Q cu n H→c.wpIn (wP r) 0 P (AQY G w₀ aJ aN N Lp W aA nb gJ Fb wb Q) a w:=by
 intro c
 induction c with
 | skip=>intro rf r Lp W Q cu n H ρ aA a w σ F nb gJ Fb wb L w₀ aJ aN _ _ hlp hf hs st x hr mk h;exact wpIn_skip ⟨L,ρ,cu,n,σ,F,H,hlp,hf,hs,st,x,hr,mk,h⟩
 | region id ops draw=>
  intro rf r Lp W Q cu n H ρ aA a w σ F nb gJ Fb wb L w₀ aJ aN _ hc hlp hf hs st x hr mk h
  have hok0 : ∀o∈ops.toList,(gV N W o=true∧lN o=true)∧gK o=true:=by simpa only [eX,List.all_eq_true,Bool.and_eq_true]using hc
  have hok:=fun o ho=>(hok0 o ho).1
  have hnd : ∀(i:Nat) (o:Oper),ops[i]? = some o→gK o=true:=fun i o ho=>(hok0 o (by rw [←Array.getElem?_toList]at ho;exact List.mem_of_getElem? ho)).2
  have mono : ∀e a' w',RA (Du G w (jU w σ H) F N (L.map mark) W aA n σ F w (Q .normal)) e a' w'→AQY G w₀ aJ aN N Lp W aA nb gJ Fb wb Q e a' w':=fun e a' w' hq=>by
   cases e with
   | normal=>
    obtain⟨ρ',dK,n',σ',F',H',hf',hs',st',x',hr',hk⟩:=hq
    exact⟨L,ρ',dK,n',σ',F',H',hlp,hf',hs',st.back st',x.trans x',hr',mk.step st',hk⟩
   | exit id=>exact hq.elim
   | goto l=>exact hq.elim
   | ret=>exact hq.elim
   | panic ch=>exact hq.elim
   | outgrown=>exact hq.elim
  cases draw with
  | false=>
   refine Go.wpIn_mono (wpIn_region (P5 (fun⟨_,_,h⟩=>h) _ (fun i _ o ho=>hnd i o ho) _ _ ?_)) mono
   have hlen:ops.toList.length=ops.size:=by simp
   rw [List.range_eq_range', ←hlen]
   exact yR (K:=Q .normal) (Q:=RA (Du G w (jU w σ H) F N (L.map mark) W aA n σ F w (Q .normal))) (fun a' w' h=>h) ops.toList 0 cu n σ F H ρ a w (fun j=>by rw [Nat.zero_add]) hok hf hs st.start (Ext.refl _ _ _ _) hr h
  | true=>exact Go.wpIn_mono (ql.DV hm hok hnd hf hs st.start (Ext.refl _ _ _ _) hr h) mono
 | seq c1 c2 ih1 ih2=>
  intro rf r Lp W Q cu n H ρ aA a w σ F nb gJ Fb wb L w₀ aJ aN hrf hc hlp hf hs st x hr mk h
  simp only [eX,Bool.and_eq_true]at hc
  refine wpIn_seq (Go.wpIn_mono (ih1 rf r Lp W _ cu n H ρ aA a w σ F nb gJ Fb wb L w₀ aJ aN hrf hc.1 hlp hf hs st x hr mk h) fun e a' w' hq=> ?_)
  cases e with
  | normal=>
   obtain⟨L',ρ',dK,n',σ',F',H',FZ,hf',hs',st',x',hr',mk',hv⟩:=hq
   exact ih2 rf r Lp W Q dK n' H' ρ' aA a' w' σ' F' nb gJ Fb wb L' w₀ aJ aN hrf hc.2 FZ hf' hs' st' x' hr' mk' hv
  | exit id=>exact hq
  | ret=>exact hq
  | goto l=>exact hq
  | panic ch=>exact hq
  | outgrown=>exact hq
 | cond c c1 c2 ih1 ih2=>
  intro rf r Lp W Q cu n H ρ aA a w σ F nb gJ Fb wb L w₀ aJ aN hrf hc hlp hf hs st x hr mk h
  simp only [eX,Bool.and_eq_true]at hc
  simp only [aY]at h
  split at h
  ·rename_i b hb
   have rc:=bF hr c
   rw [hb]at rc
   refine wpIn_cond (t:=b) (by rw [hf.eval];exact rc.dA) ?_
   cases b with
   | true=>exact ih1 rf r Lp W Q cu n H ρ aA a w σ F nb gJ Fb wb L w₀ aJ aN hrf hc.1 hlp hf hs st x hr mk h
   | false=>exact ih2 rf r Lp W Q cu n H ρ aA a w σ F nb gJ Fb wb L w₀ aJ aN hrf hc.2 hlp hf hs st x hr mk h
  ·exact h.elim
 | block id b ih=>
  intro rf r Lp W Q cu n H ρ aA a w σ F nb gJ Fb wb L w₀ aJ aN hrf hc hlp hf hs st x hr mk h
  refine wpIn_block (Go.wpIn_mono (ih rf r Lp W _ cu n H ρ aA a w σ F nb gJ Fb wb L w₀ aJ aN hrf hc hlp hf hs st x hr mk h) fun e a' w' hq=> ?_)
  cases e with
  | normal=>exact hq
  | exit j=>
   obtain⟨L',ρ',dK,n',σ',F',H',FZ,hf',hs',st',x',hr',mk',hv⟩:=hq
   simp only [Ui]at hv
   simp only [Exit.inBlock]
   by_cases hj:j=id
   ·subst hj
    rw [Nat.beq_refl,cond_true]at hv
    simp only [if_true]
    exact⟨L',ρ',dK,n',σ',F',H',FZ,hf',hs',st',x',hr',mk',hv⟩
   ·have hb:Nat.beq j id=false:=by
     cases hb:Nat.beq j id with
     | false=>rfl
     | true=>exact absurd (Nat.eq_of_beq_eq_true hb) hj
    rw [hb,cond_false]at hv
    rw [if_neg hj]
    exact⟨L',ρ',dK,n',σ',F',H',FZ,hf',hs',st',x',hr',mk',hv⟩
  | ret=>exact hq
  | goto l=>exact hq
  | panic ch=>exact hq
  | outgrown=>exact hq
 | loop b ih=>
  intro rf r Lp W Q cu n H ρ aA a w σ F nb gJ Fb wb L w₀ aJ aN hrf hc hlp hf hs st x hr mk0 h
  obtain⟨ws,I,nl,hw,hle,YU,⟨m0,ρ0,H0,hI0,FH⟩,IQ⟩:=h.ex
  have hc':=wu b hc hw
  let J:Nat→Act→World→Prop:=fun m a' w'=> ∃L' ρ' dK σ' F' H',Lp L'∧Fits N (L'.map mark) ρ' a'∧Same (fun k=>W k&&ws k) ρ ρ'∧I m dK H'∧St G w₀ aJ aN nl σ' F' H' w'∧Ext n σ F w nl σ' F' w'∧ig nl σ' F' w' dK ρ'∧MK G w₀ L' σ' F' H' w'
  have mk : ∀m L' (ρ':aS) (dK dX:aH) n' (σ':Nat→Loc) (F':Nat→Prop) H' H₁ a' w',Lp L'→Fits N (L'.map mark) ρ' a'→Same (fun k=>W k&&ws k) ρ ρ'→St G w₀ aJ aN n' σ' F' H' w'→Ext n σ F w n' σ' F' w'→ig n' σ' F' w' dK ρ'→MK G w₀ L' σ' F' H' w'→
    I m dX H₁→BJ G ws n dK n' H' dX nl H₁→J m a' w':=by
   intro m L' ρ' dK dX n' σ' F' H' H₁ a' w' FZ hf' hs' st' x' hr' mk' hI YV
   obtain⟨σ₁,Dv,s1,r1,l1,f1⟩:=YV w' (jU w' σ' H') F' σ' F' w' ρ' st'.start fun s _=>hr' s
   have x1:Ext n σ F w nl σ₁ Dv w':=⟨hle,fun l hl=>(l1 l hl).trans (x'.s l hl),fun b hb=>⟨f1 b (x'.f b hb).1,(x'.f b hb).2⟩,x'.sz⟩
   refine⟨L',ρ',dX,σ₁,Dv,H₁,FZ,hf',hs',hI,st'.back s1,x1,fun s=> ?_,mk'.step s1⟩
   cases hws:ws s with
   | true=>exact r1 s hws
   | false=>
    rw [YU m dX H₁ hI s hws,hs' s (by simp [hws])]
    exact(hr s).mono x1
  refine rU J m0 (mk m0 L ρ cu ρ0 n σ F H H0 a w hlp hf (Same.refl _ _) st (Ext.refl _ _ _ _) hr mk0 hI0 FH) fun m a' w' ⟨L',ρ',dK,σ',F',H',FZ,hf',hs',hI,st',x',hr',mk'⟩=> ?_
  refine Go.wpIn_mono (ih rf r Lp (fun k=>W k&&ws k) _ dK nl H' ρ' ρ a' w' σ' F' n σ F w L' w₀ aJ aN hrf hc' FZ hf' hs' st' x' hr' mk' (IQ m dK H' hI)) fun e a'' w'' hq=> ?_
  have up : ∀ {dZ},Same (fun k=>W k&&ws k) ρ dZ→Same W aA dZ:=fun h'=>hs.trans fun k hk=>h' k (by simp [hk])
  cases e with
  | normal=>
   obtain⟨L'',dZ,kP,n'',pU,He,jm,F5,kF,kG,yX,x'',yY,mk'',hv⟩:=hq
   obtain⟨m',hlt,dX,H₁,hI₁,Dx⟩:=hv.holds
   exact⟨m',hlt,mk m' L'' dZ kP dX n'' pU He jm H₁ a'' w'' F5 kF kG yX x'' yY mk'' hI₁ Dx⟩
  | exit id=>obtain⟨L'',dZ,kP,n'',pU,He,jm,F5,kF,kG,yX,x'',yY,mk'',hv⟩:=hq;exact⟨L'',dZ,kP,n'',pU,He,jm,F5,kF,up kG,yX,x.trans x'',yY,mk'',hv⟩
  | ret=>obtain⟨L'',dZ,kP,n'',pU,He,jm,F5,kF,kG,yX,x'',yY,mk'',hv⟩:=hq;exact⟨L'',dZ,kP,n'',pU,He,jm,F5,kF,up kG,yX,x.trans x'',yY,mk'',hv⟩
  | goto l=>exact hq
  | panic ch=>exact hq
  | outgrown=>exact hq
 | exit id=>intro rf r Lp W Q cu n H ρ aA a w σ F nb gJ Fb wb L w₀ aJ aN _ _ hlp hf hs st x hr mk h;exact Go.wpIn_exit ⟨L,ρ,cu,n,σ,F,H,hlp,hf,hs,st,x,hr,mk,h⟩
 | ret=>intro rf r Lp W Q cu n H ρ aA a w σ F nb gJ Fb wb L w₀ aJ aN _ _ hlp hf hs st x hr mk h;exact Go.wpIn_ret ⟨L,ρ,cu,n,σ,F,H,hlp,hf,hs,st,x,hr,mk,h⟩
 | rangeFunc g ps assign body iha ihb=>
  intro rf r Lp W Q cu n H ρ aA a w σ F nb gJ Fb wb L w₀ aJ aN hrf hc hlp hf hs st x hr mk h
  obtain⟨gf,caps,xs,nl,Hs,hgv,adN,hit,hle,hxl,FH,hbody,hdone⟩:=h.ex
  simp only [eX,Bool.and_eq_true,List.all_eq_true]at hc
  obtain⟨⟨⟨adO,hps⟩,hca⟩,hcb⟩:=hc
  have adP : ∀p∈ps.toList,p<N:=fun p hp=>Nat.le_of_ble_eq_true (hps p hp)
  obtain⟨rfl,hLp⟩:=hrf adO
  have rg:=bF hr g
  rw [hgv]at rg
  obtain⟨vs,abQ,abR⟩ : ∃vs:List Value,fE ρ g = .func (.func gf) #[] vs.toArray∧bI n σ F w caps vs:=by
   generalize fE ρ g=v at rg
   cases rg with
   | fn _ _ _ us vs hx hy rx ry=>
    have hu:us = []:=List.eq_nil_of_length_eq_zero hx
    subst hu
    exact⟨vs,rfl, .of hy ry⟩
  refine wpIn_rangeFunc fun fn _=> ?_
  obtain⟨rec,hrec⟩ : ∃rec:LoopState→Option Code→Loop,rec=fun st pe=> {state:=st,pending:=pe,fn,tmps:=a.tmps,params:=ps,assign,body,defers:=w.heap.size}:=⟨_,rfl⟩
  obtain⟨W1,hW1⟩ : ∃W1,(w.alloc (.deferred (some []))).alloc (.loop (rec .ready none))=W1:=⟨_,rfl⟩
  have hL1:W1.heap[w.heap.size+1]? = some (.loop (rec .ready none)):=by
   rw [←hW1];have:=World.alloc_heap_new (w.alloc (.deferred (some []))) (.loop (rec .ready none));rwa [World.size_alloc]at this
  have hD1:W1.heap[w.heap.size]? = some (.deferred (some [])):=by
   rw [←hW1];exact(Below.heap_alloc _ _ _ (by simp)).trans (World.alloc_heap_new w _)
  have hB1:Below w.heap.size w W1:=by
   rw [←hW1];exact(((Below.refl _ w).alloc (Nat.le_refl _) _).alloc (by simp) _)
  have hsz1:W1.heap.size=w.heap.size+2:=by rw [←hW1];simp
  have off1 : ∀k,w.heap.size≤k→k<w.heap.size+2→Off G w σ F H W1 k:=fun k h1 h2=>
   ⟨h1,Nat.le_trans st.glob.1 h1,by omega,fun hf=>by have:=(st.dG k hf).1;omega,fun⟨aP,blk,e1,e2,e3⟩=>by have:=(st.mu aP blk k e1 e2 (e3.back fun y hy=>hB1.block y (st.mu _ _ y e1 e2 (.inl hy)).2.2.1)).2.2.1;omega⟩
  have hev:a.eval g = .func (.func gf) #[] vs.toArray:=by rw [hf.eval];exact abQ
  let J:Nat→World→Prop:=fun i W'=> ∃σ' F',St G w (jU w σ H) F nl σ' F' (Hs i) W'∧Ext n σ F w nl σ' F' W'∧(Off G w σ' F' (Hs i) W' (w.heap.size+1)∧W'.heap[w.heap.size+1]? = some (.loop (rec .ready none)))∧Off G w σ' F' (Hs i) W' w.heap.size∧W'.heap[w.heap.size]? = some (.deferred (some []))
  have st1:St G w (jU w σ H) F n σ F H W1:=st.start.grow hB1
  have x1:Ext n σ F w n σ F W1:=zq st hB1
  have hJ0:J 0 W1:=by
   obtain⟨σ1,F1,s1,_,l1,f1⟩:=FH W1 (jU W1 σ H) F σ F W1 ρ st1.start fun s hs=>by cases hs
   have o1:=(off1 (w.heap.size+1) (by omega) (by omega)).step s1
   have o2:=(off1 w.heap.size (by omega) (by omega)).step s1
   exact⟨σ1,F1,st1.back s1,x1.trans ⟨hle,l1,fun b hb=>⟨f1 b hb,rfl⟩,Nat.le_refl _⟩,⟨o1.1,hL1⟩,o2.1,hD1⟩
  have hcall:=hit n σ F vs W1 (w.heap.size+1) J st1.glob (fun b hb=>(st1.dG b hb).1) (abR.mono x1)
   (fun i W' W'' ⟨σ',F',s',x',⟨o1,h1⟩,o2,h2⟩ hB=>⟨σ',F',s'.grow hB,x'.trans (zq s' hB),⟨o1.grow s' hB,(hB.block _ o1.lt).trans h1⟩,o2.grow s' hB,(hB.block _ o2.lt).trans h2⟩)
   (fun i W' ⟨σ',F',s',x',⟨o1,h1⟩,o2,h2⟩=>⟨by have:=o1.lt;omega,s'.glob,fun b hb=>(x'.f b hb).2.trans (x1.f b hb).2.symm⟩)
   (fun i y W' args hy ⟨σ',F',s',x',⟨o1,h1⟩,o2,h2⟩ ra=>by
    have hyl:y.length=ps.size:=hxl y (List.mem_of_getElem? hy)
    have hal:=ra.len
    have hrun:=run_yield (P:=P) (args:=args.toArray) h1 (by rw [hrec];simp only [List.size_toArray];omega)
    rw [hrec]at hrun
    refine⟨fn,_,assign,body,hrun,roundIn_of_wpIn trivial ?_⟩
    have eF:(ps.zip args.toArray).foldl (fun tmps (x:Tmp×Value)=>tmps.setIfInBounds x.1 x.2) a.tmps=(ps.toList.zip args).foldl (fun tmps (x:Tmp×Value)=>tmps.setIfInBounds x.1 x.2) a.tmps:=by
     rw [←Array.foldl_toList,Array.toList_zip]
    have x0:Ext n σ F W' nl σ' F' W':=⟨hle,x'.s,fun b hb=>⟨(x'.f b hb).1,rfl⟩,Nat.le_refl _⟩
    obtain⟨ρr,hfr,hrr⟩:=Fits.zx (N:=N) ps.toList y args cu ρ a.tmps adP (by rw [hyl];simp) (ra.mono x0) ⟨hf.size,hf.get,rfl⟩ fun s=>(hr s).mono x'
    have e2:({tmps:=(ps.toList.zip args).foldl (fun tmps (x:Tmp×Value)=>tmps.setIfInBounds x.1 x.2) a.tmps,defers:= []} : Act) = {tmps:=(ps.zip args.toArray).foldl (fun tmps (x:Tmp×Value)=>tmps.setIfInBounds x.1 x.2) a.tmps,defers:= []}:=by rw [eF]
    rw [e2]at hfr
    refine Go.wpIn_mono (iha false (some (w.heap.size+1)) (fun L=>L = []) (fun _=>true) _ (zx cu ps.toList y) nl (Hs i) ρr ρr _ W' σ' F' nl σ' F' W' [] W' (jU W' σ' (Hs i)) F' (fun e=>by cases e) hca rfl hfr (Same.refl _ _) s'.start (Ext.refl _ _ _ _) hrr MK.nil (hbody i y hy)) fun e a₁ w₁ hq=> ?_
    cases e with
    | normal=>
     obtain⟨L1,ρ1,Zy,n1,σ1,F1,H1,rfl,hf1,_,t1,y1,hr1,_,hv⟩:=hq
     have q1:=o1.step t1
     have q2:=o2.step t1
     have g1:=q1.2.trans h1
     have g2:=q2.2.trans h2
     refine⟨_,run_beginRound g1 (by rw [hrec]), ?_⟩
     obtain⟨w₂,Ku⟩ : ∃w₂,w₁.putObj (w.heap.size+1) (.loop {rec .ready none with state:= .busy})=w₂:=⟨_,rfl⟩
     rw [Ku]
     have u1:=s'.back t1
     have u2:=u1.put q1.1 (.loop {rec .ready none with state:= .busy})
     have x2:=rQ (n:=n1) (σ:=σ1) (w:=w₁) (.loop {rec .ready none with state:= .busy}) q1.1.nf
     have p1:=q1.1.put q1.1 (.loop {rec .ready none with state:= .busy})
     have p2:=q2.1.put q1.1 (.loop {rec .ready none with state:= .busy})
     have k1:w₂.heap[w.heap.size+1]? = some (.loop {rec .ready none with state:= .busy}):=by rw [←Ku];exact World.putObj_heap_same q1.1.lt
     have k2:w₂.heap[w.heap.size]? = some (.deferred (some [])):=by rw [←Ku,World.putObj_heap_other (by omega)];exact g2
     rw [Ku]at u2 x2 p1 p2
     refine Go.wpIn_mono (ihb false (some (w.heap.size+1)) (fun L=>L = []) (fun _=>true) _ Zy n1 H1 ρ1 ρ1 a₁ w₂ σ1 F1 n1 σ1 F1 w₂ [] w₂ (jU w₂ σ1 H1) F1 (fun e=>by cases e) hcb rfl hf1 (Same.refl _ _) u2.start (Ext.refl _ _ _ _) (fun s=>(hr1 s).mono x2) MK.nil hv) fun e a₃ w₃ hq3=> ?_
     cases e with
     | normal=>
      obtain⟨L3,ρ3,abS,n3,σ3,F3,H3,rfl,hf3,_,t3,y3,hr3,_,hv3⟩:=hq3
      have v1:=p1.step t3
      have v2:=p2.step t3
      have m1:=v1.2.trans k1
      have m2:=v2.2.trans k2
      obtain⟨σ4,F4,s4,_,l4,f4⟩:=hv3.holds w₃ (jU w₃ σ3 H3) F3 σ3 F3 w₃ ρ3 (u2.back t3).start fun s hs=>by cases hs
      have z1:=v1.1.step s4
      have z2:=v2.1.step s4
      have sz:St G w (jU w σ H) F nl σ4 F4 (Hs (i+1)) w₃:=(u2.back t3).back s4
      have hend:=run_endRound (P:=P) none m1
      refine⟨_,_,hend,rfl,σ4,F4,sz.put z1.1 _, ?_,⟨z1.1.put z1.1 _, ?_⟩,z2.1.put z1.1 _, ?_⟩
      ·have xA:Ext n σ F w n3 σ3 F3 w₃:=(x'.trans y1).trans (x2.trans y3)
       have xB:Ext n σ F w nl σ4 F4 w₃:=⟨hle,fun l hl=>(l4 l hl).trans (xA.s l hl),fun b hb=>⟨f4 b (xA.f b hb).1,(xA.f b hb).2⟩,xA.sz⟩
       exact xB.trans (rQ _ z1.1.nf)
      ·rw [World.putObj_heap_same z1.1.lt]
       simp only [hrec,Option.isNone_none,if_true]
      ·rw [World.putObj_heap_other (by omega)];exact m2
     | exit id=>obtain⟨L3,ρ3,abS,n3,σ3,F3,H3,_,_,_,_,_,_,_,hv3⟩:=hq3;exact hv3.elim
     | ret=>obtain⟨L3,ρ3,abS,n3,σ3,F3,H3,_,_,_,_,_,_,_,hv3⟩:=hq3;exact hv3.elim
     | goto l=>exact hq3.elim
     | panic ch=>exact hq3.elim
     | outgrown=>exact hq3.elim
    | exit id=>obtain⟨L1,ρ1,Zy,n1,σ1,F1,H1,_,_,_,_,_,_,_,hv⟩:=hq;exact hv.elim
    | ret=>obtain⟨L1,ρ1,Zy,n1,σ1,F1,H1,_,_,_,_,_,_,_,hv⟩:=hq;exact hv.elim
    | goto l=>exact hq.elim
    | panic ch=>exact hq.elim
    | outgrown=>exact hq.elim) hJ0
  refine⟨w.heap.size+1,[mark w.heap.size],W1,{target:= .fn (.func gf) vs.toArray,args:= #[.func (.yield (w.heap.size+1)) #[] #[]]},W1,gf, #[.func (.yield (w.heap.size+1)) #[] #[]]++vs.toArray,W1, ?_, ?_,fun _ _=>trivial, ?_,fun h=>(by cases h), ?_⟩
  ·rw [←hW1,hrec];exact run_enterLoop_outer _ _ _ _ _
  ·simp only [resolve,hev]
   simp [go_sem]
  ·simp only [invoke]
   exact qO adN
  refine hcall.mono ?_
  rintro e W' ⟨⟨v,rfl⟩,σ',F',s',x',⟨o1,h1⟩,o2,h2⟩
  refine⟨none,W'.putObj (w.heap.size+1) (.loop {rec .ready none with state:= .exhausted}), ?_, ?_⟩
  ·have:=run_endLoop (P:=P) h1 (by rw [hrec];simp)
   rw [this,hrec]
  ·have xp:=rQ (n:=nl) (σ:=σ') (w:=W') (.loop {rec .ready none with state:= .exhausted}) o1.nf
   have sp:=s'.put o1 (.loop {rec .ready none with state:= .exhausted})
   refine⟨w.heap.size::L,ρ,cu,nl,σ',F',Hs xs.length,hLp _ _ hlp,⟨hf.size,hf.get, ?_⟩,hs,st.back sp,(x.trans x').trans xp,fun s=>(hr s).mono (x'.trans xp), ?_,hdone⟩
   ·show [mark w.heap.size]++a.defers=_
    rw [hf.defers];rfl
   ·have mk2:=(mk.step s')
    have hw0:=st.fJ.size
    refine⟨List.nodup_cons.2 ⟨fun hm=> ?_,mk.nodup⟩,fun D hD=> ?_,fun D hD=> ?_⟩
    ·have:=(mk.off _ hm).lt;omega
    ·rcases List.mem_cons.1 hD with rfl | hD
     ·exact(Off.mk (by omega) o2.nb o2.lt o2.nf o2.nm:Off G w₀ σ' F' (Hs xs.length) W' w.heap.size).put o1 _
     ·exact(mk2.off D hD).put o1 _
    ·rcases List.mem_cons.1 hD with rfl | hD
     ·rw [World.putObj_heap_other (by omega)];exact h2
     ·have:=(mk.off D hD).lt
      rw [World.putObj_heap_other (by omega)];exact mk2.obj D hD
 | _=>intro rf r Lp W Q cu n H ρ aA a w σ F nb gJ Fb wb L w₀ aJ aN _ hc;simp [eX]at hc
end
section
variable {P:Program}{G:Glob}{n:Nat}{H:aj}
theorem Vy {f:FuncId}{fn:Func}{c:Code}{args:List AV}{R:AV→Nat→aj→Prop}(hf:P.funcs[f]? = some fn)(hb:fn.body=some c)(hm:P.follows .mixedOrders=true)
  (hok:(Nat.ble args.length fn.ntmps&&eX true fn.ntmps (fun _=>true) c)=true) (h:aY P G c (abA P G n fn R) (pz args) n H):bC P G f args n H R:=by
 intro w σ F vs st r
 simp only [Bool.and_eq_true]at hok
 have hN:=Nat.le_of_ble_eq_true hok.1
 have hl:=r.len
 refine(callsIn_wide (n:=0)).1 (callsIn_of_wp_marks hf hb trivial ?_)
 have hfit:Fits fn.ntmps ([].map mark) (iw vs.toArray) {tmps:=vs.toArray++Array.replicate (fn.ntmps-vs.toArray.size) undef,defers:= []}:=by
  refine⟨by simp;omega,fun t=> ?_,rfl⟩
  simp only [iw,qQ]
  rw [Array.getD_eq_getD_getElem?,List.getD_eq_getElem?_getD,Array.getElem?_append]
  by_cases ht:t<vs.toArray.size
  ·simp only [if_pos ht,List.getElem?_toArray]
  ·simp only [ht,if_false]
   have ht':vs.length≤t:=by simpa using ht
   rw [List.getElem?_eq_none ht']
   rw [Array.getElem?_replicate]
   split<;>rfl
 refine Go.wpIn_mono (P7 hm c true none (fun _=>True) (fun _=>true) _ (pz args) n H _ (iw vs.toArray) _ w σ F n σ F w [] w (jU w σ H) F (fun _=>⟨rfl,fun _ _ _=>trivial⟩) hok.2 trivial hfit (Same.refl _ _) st (Ext.refl _ _ _ _) (fun s=>by
  have:=FI r s
  simpa [iw,pz]using this) MK.nil h) fun e a' w' hq=> ?_
 have res : ∀ {L':List Nat} {ρ':aS} {dK:aH} {n':Nat} {σ':Nat→Loc} {F':Nat→Prop} {H':aj},Fits fn.ntmps (L'.map mark) ρ' a'→St G w (jU w σ H) F n' σ' F' H' w'→Ext n σ F w n' σ' F' w'→ig n' σ' F' w' dK ρ'→MK G w L' σ' F' H' w'→
   (Dy P fn.results.toList dK H' fun vs=>AP G n R (PD vs) n' H')→
   LeavesInM (wP none) 0 P fn a'.tmps (fun e w'=> ∃v,e = .returned v∧∃a n' σ' F' H',R a n' H'∧St G w (jU w σ H) F n' σ' F' H' w'∧Ext n σ F w n' σ' F' w'∧aX n' σ' F' w' a v) a'.defers .returning w':=by
  intro L' ρ' dK n' σ' F' H' hf' st' x' hr' mk' hv
  rw [hf'.defers]
  refine FY L' w' mk' st' fun w'' s2 x2=> ?_
  obtain⟨vs,hrun,hk⟩:=yA hf'.get _ _ (yZ s2.hrep (fun s=>(hr' s).mono x2) _ _ (fun vs=> ∃a n' σ' F' H',R a n' H'∧St G w (jU w σ H) F n' σ' F' H' w''∧Ext n σ F w n' σ' F' w''∧aX n' σ' F' w'' a (bG vs)) hv fun ars vs he hl=>by
   obtain⟨a1,n1,H1,hR,hn,hco⟩:=he.ex
   obtain⟨σ1,F1,s1,r1,l1,f1⟩:=hco _ _ _ _ _ _ _ s2 (FK hl)
   have x3:=x'.trans x2
   exact⟨a1,n1,σ1,F1,H1,hR,s1,⟨hn,fun l hl=>(l1 l hl).trans (x3.s l hl),fun b hb=>⟨f1 b (x3.f b hb).1,(x3.f b hb).2⟩,x3.sz⟩,r1⟩)
  refine⟨bG vs, ?_,bG vs,rfl,hk⟩
  rw [mY,Sem.run_bind,Array.mapM_eq_mapM_toList,Sem.run_map]
  rw [hrun]
  simp only [Result.andThen_ok,Sem.run_pure]
  congr 1
  match vs with
  | []=>rfl
  | [v]=>rfl
  | v::u::r=>simp [bG]
 cases e with
 | normal=>obtain⟨L',ρ',dK,n',σ',F',H',_,hf',_,st',x',hr',mk',hv⟩:=hq;exact res hf' st' x' hr' mk' hv
 | ret=>obtain⟨L',ρ',dK,n',σ',F',H',_,hf',_,st',x',hr',mk',hv⟩:=hq;exact res hf' st' x' hr' mk' hv
 | exit id=>obtain⟨L',ρ',dK,n',σ',F',H',_,hf',_,st',x',hr',mk',hv⟩:=hq;exact hv.elim
 | goto l=>exact hq.elim
 | panic ch=>exact hq.elim
 | outgrown=>exact hq.elim
end
structure Zz (P:Program)(l:Nat)(args:Array Value)(w:World)(K:Value→World→Prop):Prop where
 runs:YieldAt (wP none) 0 P l args w fun e w'=> ∃v,e = .returned v∧K v w'
def Nb (P:Program)(o:Oper)(ρ:aS)(w:World)(K:Value→World→Prop):Prop:=
 match o.op with
 | .call c=>(match c.callee with
  | .value f=>(match fE ρ f with
   | .func (.yield l) first _=>Zz P l (first.toList++c.args.toList.map (fE ρ)).toArray w K
   | _=>Am P false o ρ w K)
  | _=>Am P false o ρ w K)
 | _=>Am P false o ρ w K
def DW (P:Program)(all:List Oper)(o:Oper)(ρ:aS)(w:World)(K:aS→Value→World→Prop)(iI:aS→Prop):Prop:=
 match o.guard with
 | none=>Nb P o ρ w fun v w'=>K ρ v w'
 | some (g,want)=>(match qp all g with
  | some s=>(match ρ s with
   | .bool t=>Ez t
     (bif want then Nb P o (upd ρ s (.bool true)) w fun v w'=>K (upd ρ s (.bool true)) v w' else iI (upd ρ s (.bool true)))
     (bif want then iI (upd ρ s (.bool false))else Nb P o (upd ρ s (.bool false)) w fun v w'=>K (upd ρ s (.bool false)) v w')
   | _=>iI ρ)
  | none=>iI ρ)
def F6 (P:Program)(all:List Oper)(l:List Oper)(ρ:aS)(w:World)(K:aS→World→Prop):Prop:=
 match l with
 | []=>K ρ w
 | o::rest=>DW P all o ρ w (fun ρ' v w'=>F6 P all rest (dF ρ' o.dst v) w' K) fun ρ'=>F6 P all rest (dF ρ' o.dst undef) w K
section
variable {P:Program}
theorem Vz {o:Oper}{ρ:aS}{a:Act}{w:World}{K:Value→World→Prop}{next:Act→World→Prop}{Q:Exit→Act→World→Prop}(hd:gK o=true)(he:a.eval=fE ρ)(h:Nb P o ρ w K)(hk : ∀v w',K v w'→next (a.put o.dst v) w'):o.wpIn (wP none) 0 P a w next Q:=by
 have plain:Am P false o ρ w K→o.wpIn (wP none) 0 P a w next Q:=fun h=>DU (Q:=Q) hd (fun _ _ h=>h) ((iR h).wp he hk)
 unfold Nb at h
 split at h
 ·rename_i c ho
  split at h
  ·rename_i f hc
   split at h
   ·rename_i l first cap hf
    obtain⟨fn,tmps,assign,body,hy,hR⟩:=h.runs
    refine⟨fun _ _=>trivial, ?_⟩
    have e:o.semAt (wP none).round a.eval=execOp a.eval o:=Oper.semAt_plain (wP none) _ o (zo hd)
    rw [e,he]
    have ea:(first.toList++c.args.toList.map (fE ρ)).toArray=first++c.args.map (fE ρ):=by apply Array.ext';simp
    rw [ea]at hy
    have hrun:(execOp (fE ρ) o).run P w = .ok (.round l fn tmps assign body) w:=by
     simp only [execOp,ho,resolve,hc,hf]
     simp [go_sem,Deferred.ofValue,invoke,hy]
    rw [hrun]
    exact⟨fun h=>(by cases h),RoundIn.mono hR fun e w' ⟨v,hv,k⟩=>by subst hv;exact hk _ _ k⟩
   ·exact plain h
  ·exact plain h
 ·exact plain h
theorem AX {N:Nat}{ds:List Deferred}{ρ:aS}{a:Act}{ops:Array Oper}{o:Oper}{w:World}{K:aS→Value→World→Prop}{iI:aS→Prop}
  (hf:Fits N ds ρ a) (h:DW P ops.toList o ρ w K iI) :
  (Region.wanted o (yielded ops a.tmps)=true∧Nb P o ρ w fun v w'=>K ρ v w')∨
  (Region.wanted o (yielded ops a.tmps)=false∧iI ρ):=by
 unfold DW at h
 unfold Region.wanted
 split at h
 ·rename_i hg;rw [hg];exact .inl ⟨rfl,h⟩
 ·rename_i g want hg
  rw [hg]
  simp only [qw hf g]
  split at h
  ·rename_i s hs
   simp only [hs]
   cases hv:ρ s with
   | bool t=>
    have hu:upd ρ s (.bool t)=ρ:=EF hv
    rw [hv]at h
    cases t<;>cases want<;>simp only [Ez,cond_true,cond_false]at h<;>rw [hu]at h
    ·exact .inl ⟨rfl,h⟩
    ·exact .inr ⟨rfl,h⟩
    ·exact .inr ⟨rfl,h⟩
    ·exact .inl ⟨rfl,h⟩
   | _=>rw [hv]at h;exact .inr ⟨rfl,h⟩
  ·rename_i hs;simp only [hs];exact .inr ⟨rfl,h⟩
theorem F7 {N:Nat}{ds:List Deferred}{W:Nat→Bool}{ops:Array Oper}{Q:Exit→Act→World→Prop}{K:aS→World→Prop}{aA:aS}
  (hK : ∀ρ' a' w',Fits N ds ρ' a'→Same W aA ρ'→K ρ' w'→Q .normal a' w') :
  ∀(l:List Oper) (k:Nat) (ρ:aS) (a:Act) (w:World),(∀j,l[j]? = ops.toList[k+j]?)→(∀o∈l,gV N W o=true∧gK o=true)→Fits N ds ρ a→Same W aA ρ→
   F6 P ops.toList l ρ w K→wpOpsIn (wP none) 0 P ops Q (List.range' k l.length) a w:=by
 intro l
 induction l with
 | nil=>intro k ρ a w _ _ hf hs h;exact hK _ _ _ hf hs h
 | cons o rest ih=>
  intro k ρ a w hl hok hf hs h
  have ho:ops[k]? = some o:=by
   have:=hl 0
   simp only [List.getElem?_cons_zero,Nat.add_zero]at this
   rw [←Array.getElem?_toList];exact this.symm
  obtain⟨ho1,ho2⟩:=hok o (by simp)
  have step : ∀(v:Value) (w':World),F6 P ops.toList rest (dF ρ o.dst v) w' K→wpOpsIn (wP none) 0 P ops Q (List.range' (k+1) rest.length) (a.put o.dst v) w':=fun v w' hv=>
   ih (k+1) _ _ _ (fun j=>by have:=hl (j+1);simp only [List.getElem?_cons_succ]at this;rw [this];congr 1;omega) (fun o' ho'=>hok o' (by simp [ho']))
    (hf.put o.dst v (dh ho1)) (hs.dF ho1) hv
  simp only [List.length_cons,List.range'_succ]
  simp only [wpOpsIn,ho]
  rcases AX hf h with ⟨hw,hv⟩ | ⟨hw,hv⟩
  ·simp only [hw,if_true]
   exact Vz ho2 hf.eval hv step
  ·simp only [hw,Bool.false_eq_true,if_false]
   exact⟨fun _ _=>trivial,step undef w hv⟩
def vY (P:Program)(c:Code)(Q:Ex→aS→World→Prop)(ρ:aS)(w:World):Prop:=
 match c with
 | .skip=>Q .normal ρ w
 | .region id ops draw=>(match draw with
  | false=>F6 P ops.toList ops.toList ρ w (Q .normal)
  | true=>qh P id ops (Q .normal) ρ w)
 | .seq a b=>vY P a (abo (vY P b) Q) ρ w
 | .cond c t e=>(match fE ρ c with
  | .bool b=>Ez b (vY P t Q ρ w) (vY P e Q ρ w)
  | _=>False)
 | .block id body=>vY P body (TK id Q) ρ w
 | .loop body=>OD body (vY P body) Q ρ w
 | .exit id=>Q (.exit id) ρ w
 | .ret=>Q .ret ρ w
 | _=>False
theorem qh.DV {id:Nat}{N:Nat}{ds:List Deferred}{W:Nat→Bool}{ops:Array Oper}{K:aS→World→Prop}{ρ aA:aS}{a:Act}{w:World}{r:Option Nat}
  (hm:P.follows .mixedOrders=true) (hok : ∀o∈ops.toList,gV N W o=true) (hnd : ∀(i:Nat) (o:Oper),ops[i]? = some o→gK o=true) (hf:Fits N ds ρ a) (hs:Same W aA ρ) (h:qh P id ops K ρ w) :
  (Code.region id ops true).wpIn (wP r) 0 P (RQ N ds W aA K) a w:=by
 obtain⟨p,vP,S,hd,he,hS,hv⟩:=h.ex
 simp only [lJ,Bool.and_eq_true]at hd
 obtain⟨⟨hsel,uw⟩,hp⟩:=hd
 exact wpIn_region_any hm (rP (fun⟨_,_,h⟩=>h) hnd _ _ _ _ (qx _ _ _ _ (EG hsel hok w.drew p S he _ ρ a w.drew hp (fun j o _ hl=>by rw [kE]at hl;cases hl) hf hs hS hv ops.size (Nat.le_of_ble_eq_true uw))))
theorem P8 (hm:P.follows .mixedOrders=true){N:Nat} : ∀(c:Code) (W:Nat→Bool) (Q:Ex→aS→World→Prop) (ρ aA:aS) (a:Act) (w:World),
  eX false N W c=true→Fits N [] ρ a→Same W aA ρ→vY P c Q ρ w→c.wpIn (wP none) 0 P (CQ N [] W aA Q) a w:=by
 intro c
 induction c with
 | skip=>intro W Q ρ aA a w _ hf hs h;exact wpIn_skip ⟨ρ,hf,hs,h⟩
 | region id ops draw=>
  intro W Q ρ aA a w hc hf hs h
  have hok0 : ∀o∈ops.toList,(gV N W o=true∧lN o=true)∧gK o=true:=by simpa only [eX,List.all_eq_true,Bool.and_eq_true]using hc
  have hok : ∀o∈ops.toList,gV N W o=true:=fun o ho=>(hok0 o ho).1.1
  have hnd : ∀(i:Nat) (o:Oper),ops[i]? = some o→gK o=true:=fun i o ho=>(hok0 o (by rw [←Array.getElem?_toList]at ho;exact List.mem_of_getElem? ho)).2
  have mono : ∀e a w,RQ N [] W aA (Q .normal) e a w→CQ N [] W aA Q e a w:=fun e a w hq=>by cases e<;>first | exact hq | exact hq.elim
  cases draw with
  | false=>
   refine Go.wpIn_mono (wpIn_region ?_) mono
   have hlen:ops.toList.length=ops.size:=by simp
   rw [List.range_eq_range', ←hlen]
   exact F7 (K:=Q .normal) (Q:=RQ N [] W aA (Q .normal)) (fun ρ' a' w' hf' hs' hk=>⟨ρ',hf',hs',hk⟩) ops.toList 0 ρ a w (fun j=>by rw [Nat.zero_add]) (fun o ho=>⟨hok o ho,(hok0 o ho).2⟩) hf hs h
  | true=>exact Go.wpIn_mono (qh.DV hm hok hnd hf hs h) mono
 | seq x y Yy ihy=>
  intro W Q ρ aA a w hc hf hs h
  simp only [eX,Bool.and_eq_true]at hc
  refine wpIn_seq (Go.wpIn_mono (Yy W _ ρ aA a w hc.1 hf hs h) fun e a' w' hq=> ?_)
  cases e with
  | normal=>
   obtain⟨ρ',hf',hs',hv⟩:=hq
   exact ihy W Q ρ' aA a' w' hc.2 hf' hs' hv
  | exit id=>exact hq
  | ret=>exact hq
  | goto l=>exact hq
  | panic ch=>exact hq
  | outgrown=>exact hq
 | cond c x y Yy ihy=>
  intro W Q ρ aA a w hc hf hs h
  simp only [eX,Bool.and_eq_true]at hc
  simp only [vY]at h
  split at h
  ·rename_i b hb
   refine wpIn_cond (t:=b) (by rw [hf.eval];exact hb) ?_
   cases b with
   | true=>exact Yy W Q ρ aA a w hc.1 hf hs h
   | false=>exact ihy W Q ρ aA a w hc.2 hf hs h
  ·exact h.elim
 | block id b ih=>
  intro W Q ρ aA a w hc hf hs h
  refine wpIn_block (Go.wpIn_mono (ih W _ ρ aA a w hc hf hs h) fun e a' w' hq=> ?_)
  cases e with
  | normal=>exact hq
  | exit j=>
   obtain⟨ρ',hf',hs',hv⟩:=hq
   simp only [TK]at hv
   simp only [Exit.inBlock]
   by_cases hj:j=id
   ·subst hj
    rw [Nat.beq_refl,cond_true]at hv
    simp only [if_true]
    exact⟨ρ',hf',hs',hv⟩
   ·have hb:Nat.beq j id=false:=by
     cases hb:Nat.beq j id with
     | false=>rfl
     | true=>exact absurd (Nat.eq_of_beq_eq_true hb) hj
    rw [hb,cond_false]at hv
    rw [if_neg hj]
    exact⟨ρ',hf',hs',hv⟩
  | ret=>exact hq
  | goto l=>exact hq
  | panic ch=>exact hq
  | outgrown=>exact hq
 | loop b ih=>
  intro W Q ρ aA a w hc hf hs h
  obtain⟨ws,I,n,hw,h₀,hr⟩:=h.ex
  have hc':=wu b hc hw
  refine rU (fun n a' w'=> ∃ρ',I n ρ' w'∧Fits N [] ρ' a'∧Same (fun k=>W k&&ws k) ρ ρ') n ⟨ρ,h₀,hf,Same.refl _ _⟩ fun n a' w' ⟨ρ',hI,hf',hs'⟩=> ?_
  have hsw:Same ws ρ ρ':=fun k hk=>hs' k (by simp [hk])
  refine Go.wpIn_mono (ih (fun k=>W k&&ws k) _ ρ' ρ a' w' hc' hf' hs' (hr n ρ' w' hI hsw)) fun e a'' w'' hq=> ?_
  have up : ∀ {dZ},Same (fun k=>W k&&ws k) ρ dZ→Same W aA dZ:=fun h'=>hs.trans fun k hk=>h' k (by simp [hk])
  cases e with
  | normal=>
   obtain⟨dZ,kF,kG,⟨m,hlt,hI'⟩⟩:=hq
   exact⟨m,hlt,dZ,hI',kF,kG⟩
  | exit id=>obtain⟨dZ,kF,kG,hv⟩:=hq;exact⟨dZ,kF,up kG,hv⟩
  | ret=>obtain⟨dZ,kF,kG,hv⟩:=hq;exact⟨dZ,kF,up kG,hv⟩
  | goto l=>exact hq
  | panic ch=>exact hq
  | outgrown=>exact hq
 | exit id=>intro W Q ρ aA a w _ hf hs h;exact Go.wpIn_exit ⟨ρ,hf,hs,h⟩
 | ret=>intro W Q ρ aA a w _ hf hs h;exact Go.wpIn_ret ⟨ρ,hf,hs,h⟩
 | _=>intro W Q ρ aA a w hc;simp [eX]at hc
def adR (K:World→Prop)(e:Ex)(_:aS)(w:World):Prop:=
 match e with
 | .normal=>jS (K w)
 | .ret=>jS (K w)
 | .exit _=>False
theorem F8 {f:FuncId}{fn:Func}{c:Code}{args:Array Value}{w:World}{K:World→Prop}
  (hf:P.funcs[f]? = some fn) (hb:fn.body=some c) (hm:P.follows .mixedOrders=true) (hN:args.size≤fn.ntmps) (hres:fn.results = #[]) (hok:eX false fn.ntmps (fun _=>true) c=true)
  (h:vY P c (adR K) (iw args) w):CallsIn (wP none) 0 P f args w fun e w'=>(∃v,e = .returned v)∧K w':=by
 refine callsIn_of_wp hf hb trivial ?_
 have hfit:Fits fn.ntmps [] (iw args) {tmps:=args++Array.replicate (fn.ntmps-args.size) undef,defers:= []}:=by
  refine⟨by simp;omega,fun t=> ?_,rfl⟩
  simp only [iw,qQ]
  rw [Array.getD_eq_getD_getElem?,List.getD_eq_getElem?_getD,Array.getElem?_append]
  by_cases ht:t<args.size
  ·simp [ht]
  ·simp only [ht,if_false,Array.getElem?_toList]
   rw [Array.getElem?_eq_none (Nat.le_of_not_lt ht)]
   by_cases h2:t-args.size<fn.ntmps-args.size
   ·simp [h2]
   ·simp [h2]
 refine Go.wpIn_mono (P8 hm c (fun _=>true) _ _ _ _ w hok hfit (Same.refl _ _) h) fun e a' w' hq=> ?_
 have res : ∀ {ρ':aS},Fits fn.ntmps [] ρ' a'→K w'→a'.defers = []∧∃v,(results fn a'.tmps).run P w' = .ok v w'∧(∃u,Ending.returned v = .returned u)∧K w':=by
  intro ρ' hf' hk
  refine⟨hf'.defers, .tuple #[], ?_,⟨_,rfl⟩,hk⟩
  rw [mY,hres]
  simp
 cases e with
 | normal=>obtain⟨ρ',hf',_,hv⟩:=hq;exact res hf' hv.holds
 | ret=>obtain⟨ρ',hf',_,hv⟩:=hq;exact res hf' hv.holds
 | exit id=>obtain⟨ρ',hf',_,hv⟩:=hq;exact hv.elim
 | goto l=>exact hq.elim
 | panic ch=>exact hq.elim
 | outgrown=>exact hq.elim
end
theorem dN.down {n:Nat}{σ:Nat→Loc}{F:Nat→Prop}{w:World}{a:FV}{v:Value}(h:aX n σ F w a.up v):dN F w a v:=by
 cases a with
 | top=>exact .top v
 | v x=>cases h;exact .v _
 | lst sz l=>cases h with | lst h=>exact h
 | fp cs o=>cases h with | fp h=>exact h
 | fm M=>cases h with | fm h=>exact h
theorem VA {G:Glob}{n:Nat}{H:aj}{R:AV→Nat→aj→Prop}{f:Fn}(ls:List (Nat×TypeId×List FV))(k:R (.fn f [] (ls.map fun p=> .fp p.2.2 0)) 0 [])
  (hl : ∀p∈ls,look H p.1=some (.var p.2.1 (p.2.2.map FV.up))):AP G 0 R (.fn f [] (ls.map fun p=> .ptr p.1 0)) n H:=by
 refine⟨_,0,[],k,Nat.le_refl _,fun w₀ aJ aN σ F w v st ra=> ?_⟩
 have hsub : ∀b,(F b∨∃p∈ls,(σ p.1).b=some b)→b<w.heap.size∧(aN b∨w₀.heap.size≤b∨aJ b):=fun b hb=>by
  rcases hb with hb | ⟨p,hp,hb⟩
  ·exact st.dG b hb
  ·obtain⟨_,_,h3,h4⟩:=st.mu _ _ b (hl p hp) rfl (.inl hb)
   exact⟨h3,h4.elim (fun h=> .inr (.inr h)) fun h=> .inr (.inl h)⟩
 refine⟨σ,fun b=>F b∨∃p∈ls,(σ p.1).b=some b,⟨st.glob,st.fJ,hsub,(fun _ _ h=>by cases h),(fun _ _ _ h=>by cases h),(fun _ _ _ _ _ h=>by cases h),(fun _ _ h=>by cases h)⟩, ?_,fun _ h=>absurd h (Nat.not_lt_zero _),fun b hb=> .inl hb⟩
 cases ra with
 | fn _ _ _ us vs hx hy rx ry=>
  refine .fn f [] _ us vs hx (by simpa using hy) (fun j a v h=>by simp at h) fun j a v h1 h2=> ?_
  rw [List.getElem?_map]at h1
  cases hp:ls[j]? with
  | none=>rw [hp]at h1;cases h1
  | some p=>
   rw [hp]at h1
   injection h1 with h1
   subst h1
   have hm:=List.mem_of_getElem? hp
   have r:=ry j (.ptr p.1 0) v (by rw [List.getElem?_map,hp];rfl) h2
   cases r with
   | ptr _ _ b hlt hb=>
    obtain⟨g,xs,hg,hblk,hr,hone⟩:=st.blk _ _ (hl p hm)
    rw [hb]at hg
    injection hg with hg
    subst hg
    have hlen:=hr.len
    rw [List.length_map]at hlen
    refine .fp (.fp p.2.2 0 b 0 (.inr ⟨p,hm,hb⟩) (fun j hj=> ?_) fun j a v h1 h3=> ?_)
    ·have hj':j<xs.length:=by omega
     exact⟨xs[j],by rw [Nat.zero_add,hblk.cell,List.getElem?_eq_getElem hj'],hone _ (List.getElem_mem hj')⟩
    ·rw [Nat.zero_add,hblk.cell]at h3
     exact(dN.down (hr.at j a.up v (by rw [List.getElem?_map,h1];rfl) h3)).mono fun b hb=>⟨.inl hb,rfl⟩
theorem bC.up {P:Program}{f:FuncId}{args:List AV}{n:Nat}{H:aj}{R:AV→Nat→aj→Prop}(h:bC P ⟨0,fun _=>none,fun _=>none⟩ f args n H R)(G:Glob):bC P G f args n H R:=by
 intro w σ F vs st r
 have st0:St ⟨0,fun _=>none,fun _=>none⟩ w (jU w σ H) F n σ F H w:=
  ⟨⟨Nat.zero_le _,(fun _ _ h=>by cases h),fun _ _ h=>by cases h⟩,st.fJ,st.dG,st.lab,fun aP b g h1 h2 h3=>⟨(st.mu aP b g h1 h2 h3).1,Nat.zero_le _,(st.mu aP b g h1 h2 h3).2.2⟩,st.inj,st.blk⟩
 refine(h w σ F vs st0 r).mono fun v w' ⟨a,n',σ',F',H',hR,s,x,ra⟩=>⟨a,n',σ',F',H',hR, ?_,x,ra⟩
 have hnb:=st.glob.1
 refine⟨Glob.fJ st.glob s.fJ.size fun b hb=>s.fJ.block b (by omega) fun⟨aP,blk,h1,h2,h3⟩=>by have:=(st.mu aP blk b h1 h2 h3).2.1;omega,s.fJ,s.dG,s.lab,fun aP b g h1 h2 h3=> ?_,s.inj,s.blk⟩
 obtain⟨a1,a2,a3,a4⟩:=s.mu aP b g h1 h2 h3
 refine⟨a1, ?_,a3,a4⟩
 rcases a4 with ⟨pW,blk',e1,e2,e3⟩ | h4
 ·exact(st.mu pW blk' g e1 e2 e3).2.1
 ·omega
section
variable {P:Program}{G:Glob}
theorem ZA {gv:AV}{ps:Array Tmp}{A B:(Ex→aH→Nat→aj→Prop)→aH→Nat→aj→Prop}{Q:Ex→aH→Nat→aj→Prop}{ρ:aH}{n:Nat}{H:aj}
  {gf:FuncId} {caps:List AV} {xs:List (List AV)} (hit:AIt P G gf caps xs) (nl:Nat) (Hs:Nat→aj) (θ:List (Nat×Src)) (Z:List Nat) (hg:gv = .fn (.func gf) [] caps) (hc:callable P gf=true) (hle:Nat.ble n nl=true) (hx : ∀x∈xs,x.length=ps.size)
  (hw:FM n nl θ Z (Hs 0)=true) (hH:IU H θ Z n (Hs 0))
  (hbody : ∀i x,xs[i]? = some x→A (Kt (B (Kt fun ρ' n' H'=>yV (BJ G (fun _=>false) n ρ' n' H' ρ nl (Hs (i+1)))))) (zx ρ ps.toList x) nl (Hs i))
  (hdone:Q .normal ρ nl (Hs xs.length)):P6 P G gv ps A B Q ρ n H:=
 ⟨⟨gf,caps,xs,nl,Hs,hg,hc,hit,Nat.le_of_ble_eq_true hle,hx,y9 (ws:= []) (sl:= []) θ Z hw hH trivial,hbody,hdone⟩⟩
theorem ZB {ρ ρ':aH}{nb nl n':Nat}{H' H₁:aj}(θ:List (Nat×Src))(Z:List Nat)(hw:FM nb nl θ Z H₁=true)(hH:IU H' θ Z nb H₁):yV (BJ G (fun _=>false) nb ρ' n' H' ρ nl H₁):=
 ⟨y9 (ws:= []) (sl:= []) θ Z hw hH trivial⟩
theorem jd {n n1:Nat}{H1:aj}{a:AV}{K:AV→Nat→aj→Prop}(a':AV)(k:spine (FP n H1) fun H0=>K a' n H0)(hwf:FM n n [] [] (FP n H1)=true)(hH:IU H1 [] [] n (FP n H1))(hc:co H1 [] [] n a' a):AP G n K a n1 H1:=
 aU a' n _ [] [] (by rw [dU]at k;exact k) hwf hH hc
end
end Go.Proofs.YtocckceefcmeaaaGreatDoor.Ax
