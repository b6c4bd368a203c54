/- Joined parts of the proof. Contracts proved over plain values, for walks over abstract ones -/
import Derived.Test.YtocckceefcmeaaaGreatDoorPk3
set_option linter.unusedVariables false
set_option linter.unusedSimpArgs false
set_option maxRecDepth 100000
set_option maxHeartbeats 16000000
namespace Go.Proofs.YtocckceefcmeaaaGreatDoor.Ax
open RowKit Vc
theorem afN (a b:ByteArray):wP a b=true↔a=b:=by
 unfold wP
 rw [<-MapKept.bytes_beq a b]
 have:(a==b)=(a.toList==b.toList):=by
  rw [Go.ByteArray.toList_eq,Go.ByteArray.toList_eq]
  obtain⟨⟨x⟩⟩:=a
  obtain⟨⟨y⟩⟩:=b
  show ((⟨x⟩:Array UInt8)==⟨y⟩)=(x==y)
  simp
 rw [this]
theorem XG (a b:ByteArray):wP a b=decide (a=b):=by
 rw [Bool.eq_iff_iff,afN];simp
theorem Ut {n:Nat}{σ:Nat->Loc}{F:Nat->Prop}{w:World} : ∀ {l vs:List Value},ng n σ F w (l.map .v) vs->vs=l:=by
 intro l
 induction l with
 | nil=>intro vs r;cases vs with
  | nil=>rfl
  | cons _ _=>exact r.elim
 | cons x l ih=>intro vs r;cases vs with
  | nil=>exact r.elim
  | cons v vs=>rw [r.1.nV,ih r.2]
theorem ln:(∀ {α β:Type} (f:α->β) (l:List α),(l.map f).length=l.length)∧(∀ {α:Type} (a b:List α),(a++b).length=a.length+b.length)∧(∀ {α:Type} (x:α) (l:List α),(x::l).length=l.length+1)∧(∀ {α:Type},([]:List α).length=0)∧(∀ {α:Type} (n:Nat) (l:List α),(l.take n).length=min n l.length)∧(∀ {α:Type} (n:Nat) (l:List α),(l.drop n).length=l.length-n)∧(∀ {α:Type} (l:List α) (i:Nat) (x:α),(l.set i x).length=l.length)∧(∀ {α:Type} (n:Nat) (x:α),(List.replicate n x).length=n):=
 ⟨fun _ _=>ah _,fun _ _=>ak,fun _ _=>bg,dQ,fun _ _=>aK,fun _ _=>aX,fun _ _ _=>bC,fun _ _=>dL⟩
theorem bl:(∀a b:ByteArray,wP a b=decide (a=b))∧(∀ {α:Type} (a b:α),(bif true then a else b)=a)∧(∀ {α:Type} (a b:α),(bif false then a else b)=b)∧(∀b:Bool,((!b)=true)=(b=false))∧(∀b:Bool,((!b)=false)=(b=true))∧(∀(p:Prop) [Decidable p],(decide p=true)=p)∧(∀(p:Prop) [Decidable p],(decide p=false) = ¬p)∧(∀a b:Int,((a==b)=true)=(a=b))∧(∀a b:Int,((a != b)=true) = ¬(a=b))∧(∀a b:Int,((a==b)=false) = ¬(a=b))∧(∀a b:Int,((a != b)=false)=(a=b))∧(∀a b:Bool,((a==b)=true)=(a=b))∧(∀a b:Bool,((a != b)=true) = ¬(a=b))∧(∀a b:Bool,((a==b)=false) = ¬(a=b))∧(∀a b:Bool,((a != b)=false)=(a=b))∧((!true)=false)∧((!false)=true)∧((false=true)=False)∧((true=false)=False)∧(∀(p:Prop),(¬¬p)=p)∧(∀a b:Int,(a>b)=(b<a))∧(∀a b:Int,(a≥b)=(b<=a))∧(∀a b:Int,(¬a<b)=(b<=a))∧(∀a b:Int,(¬a<=b)=(b<a)):=
 ⟨XG,by simp⟩
section
variable {P:Program}{G:Glob}
theorem Fa {f:FuncId}{l:List Value}{x:Value}(h : ∀w,G.holds w->y8 P f l.toArray w fun v w'=>v=x∧Below w.heap.size w w'):mX P G f (l.map .v) 0 [] (Is (.v x)):=by
 intro w σ F vs st r
 rw [Ut r]
 refine(h w st.glob).mono fun v w' ⟨e,hB⟩=> ?_
 subst e
 have hE:Ext 0 σ F w 0 σ F w':=⟨ay _,fun _ _=>rfl,fun b hb=>⟨hb,hB.block b (st.oC b hb).1⟩,hB.size⟩
 exact⟨_,0,σ,F,[],⟨rfl,rfl,rfl⟩,⟨Glob.qg st.glob hB.size fun b hb=>hB.block b (aV hb st.glob.1),(yT.rW hB).mono fun _ _ h=>h.elim,fun b hb=>⟨aV (st.oC b hb).1 hB.size, .inl hb⟩,
  (fun lV b h=>by cases h),(fun lV b g h=>by cases h),(fun lV zh b b' g h=>by cases h),(fun lV b h=>by cases h)⟩,hE, .v _⟩
theorem lM {l qU:Nat}(h:l<=4194304)(h2:Nat.ble (4194304*qU) 140737488355328=true):l*qU<=140737488355328∧l<=maxLen:=
 ⟨dN (aU _ h) (aN h2),by unfold maxLen;omega⟩
theorem lU.in {k:IntKind}{x:Int}{K:Int->Prop}(h:k.wrap x=x)(c:K x):lU k x K:=⟨by rw [h];exact c⟩
theorem lU.i64 {x:Int}{K:Int->Prop}(h : -9223372036854775808<=x∧x<=9223372036854775807)(c:K x):lU .i64 x K:= .in (IntWalk.i64_in _ h) c
theorem ni.mk' {x:Int}{n:Nat}{K:Nat->Prop}(i:Nat)(e:x=i)(h:i<n)(c:K i):ni x n K:=⟨i,e,h,c⟩
theorem tJ.mk' {x y:Int}{n:Nat}{K:Nat->Nat->Prop}(i j:Nat)(e1:x=i)(e2:y=j)(h1:i<=j)(h2:j<=n)(c:K i j):tJ x y n K:=⟨i,j,e1,e2,h1,h2,c⟩
theorem mG.map {α:Type}{enc:α->List FV}{xs:List α}{i:Nat}{K:List FV->Prop}(h:i<xs.length)(c:K (enc xs[i])):mG (xs.map enc) i K:=⟨_,by rw [aP,aj h];rfl,c⟩
theorem mG.at {l:List (List FV)}{i:Nat}{row:List FV}{K:List FV->Prop}(h:l[i]? = some row)(c:K row):mG l i K:=⟨row,h,c⟩
theorem mG.lS {α:Type}{enc:α->List FV}{xs:List α}{i:Nat}{a:α}{K:List FV->Prop}(h:xs[i]? = some a)(c:K (enc a)):mG (xs.map enc) i K:=⟨_,by rw [aP,h];rfl,c⟩
theorem mG.set {l:List (List FV)}{i:Nat}{row:List FV}{K:List FV->Prop}(h:i<l.length)(c:K row):mG (l.set i row) i K:=⟨row,dD h,c⟩
theorem NR.mk' {x y:Int}{qU:Nat}{K:Nat->Prop}(n:Nat)(e1:x=n)(e2:y=n)(h:qU*n<=140737488355328∧n<=maxLen)(c:K n):NR x y qU K:=⟨n,n,e1,e2,ay _,h.1,h.2,c⟩
theorem NR.cap {x y:Int}{qU:Nat}{K:Nat->Prop}(n m:Nat)(e1:x=n)(e2:y=m)(hnm:n<=m)(h:qU*m<=140737488355328∧m<=maxLen)(c:K n):NR x y qU K:=⟨n,m,e1,e2,hnm,h.1,h.2,c⟩
theorem nZ {id:Nat}{ops:Array Oper}{K:lK->Nat->lF->Prop}{ρ:lK}{n:Nat}{H:lF}(pl:Nat->Plan)(D:List Nat)(hp:vI ops (pl id)=true)(h:aD P G ops.toList D (pl id) ρ n H K):yV P G id ops K ρ n H:=⟨.inl ⟨pl id,D,hp,h⟩⟩
theorem Uu {id:Nat}{ops:Array Oper}{K:lK->Nat->lF->Prop}{ρ:lK}{n:Nat}{H:lF}(pl:Nat->Plan)(D:List Nat)(ws:List (Nat×Nat))(nl:Nat)(sl:List (Nat×AV))(H':lF)(hp:vI ops (pl id)=true)
  (hw:((ops.toList.all fun o=>match o.dst with|some d=>vS ws d|none=>true)&&Nat.ble n nl&&(sl.map (·.1)).all (vS ws))=true)
  (h:aD P G ops.toList D (pl id) ρ n H fun oZ O5 qm=>Lh (Hw G (vS ws) n oZ O5 qm (E5 sl ws ρ) nl H')) (k:K (E5 sl ws ρ) nl H'):yV P G id ops K ρ n H:=by
 simp only [au]at hw
 refine⟨.inr (.inl ⟨pl id,D,vS ws,E5 sl ws ρ,nl,H',hp,hw.1.1,aN hw.1.2,fun s hs=> ?_,h,k⟩)⟩
 unfold E5
 cases hl:Aa sl s with
 | none=>simp only [hs,cond_false]
 | some a=>
  have:=bQ.1 hw.2 s (Hy hl)
  rw [hs]at this
  cases this
theorem ad5 {ws:List (Nat×Nat)}{sl:List (Nat×AV)}{ρ oZ:lK}{nb O5 nl:Nat}{qm H':lF}(θ:List (Nat×Src))(Z:List Nat)(hwf:JX nb nl θ Z H'=true)(hH:Nq qm θ Z nb H')(hs:coS qm θ Z nb sl oZ):Lh (Hw G (vS ws) nb oZ O5 qm (E5 sl ws ρ) nl H'):=⟨E8 θ Z hwf hH hs⟩
theorem zx {X:Type}{body:Code}{B:(Ex->lK->Nat->lF->Prop)->lK->Nat->lF->Prop}{Q:Ex->lK->Nat->lF->Prop}{ρ:lK}{n:Nat}{H:lF}
  (ws:List (Nat×Nat)) (ks:List Nat) (sl:X->List (Nat×AV)) (J:X->Prop) (μ:X->Nat) (zH:X)
  (hw:(writesIn (vS ws) body&&Nat.ble n n&&ks.all (vS ws))=true) (hsl : ∀x,(sl x).map (·.1)=ks) (hwf:JX n n [] [] H=true) (hJ:J zH) (hH:Nq H [] [] n H) (hs:coS H [] [] n (sl zH) ρ)
  (hr : ∀x,J x->B (Oj (fun o7 n'' rM=>ET (∃m',m'<μ x∧∃oZ qm,LI ws sl (fun _=>H) J μ ρ m' oZ qm∧Hw G (vS ws) n o7 n'' rM oZ n qm)) Q) (E5 (sl x) ws ρ) n H) :
  Pq G body B Q ρ n H:=mO ws n ks sl (fun _=>H) J μ [] [] zH hw hsl hwf hJ hH hs hr
end
mutual
def Xa (n:Nat):AV->AV
 | .ptr e o=> .ptr (n+e) o
 | .ep e i o=> .ep (n+e) i o
 | .own e=> .own (n+e)
 | .sub e o k=> .sub (n+e) o k
 | .full e k=> .full (n+e) k
 | .mp e=> .mp (n+e)
 | .fn f xs ys=> .fn f (XH n xs) (XH n ys)
 | .agg cs=> .agg (XH n cs)
 | .mW cs=> .mW (XH n cs)
 | .top=> .top
 | .v x=> .v x
 | .lst sz l=> .lst sz l
 | .fp cs o=> .fp cs o
 | .fm M=> .fm M
def XH (n:Nat):List AV->List AV
 | []=> []
 | a::r=>Xa n a::XH n r
end
def shB (n:Nat):oN->oN
 | .var t cs=> .var t (XH n cs)
 | .tree t sz l (some (i,j,e))=> .tree t sz l (some (i,j,n+e))
 | b=>b
def shH (n:Nat):lF->lF
 | []=> []
 | p::r=>(n+p.1,shB n p.2)::shH n r
theorem Jd (n:Nat) : ∀l:List AV,XH n l=l.map (Xa n):=by
 intro l
 induction l with
 | nil=>rfl
 | cons a r ih=>simp [XH,ih]
theorem XI (n:Nat)(b:oN):(shB n b).own=b.own:=by
 cases b with
 | tree t sz l h=>cases h<;>rfl
 | _=>rfl
theorem XJ {n:Nat}{b:oN}{w:World}{L:Loc}{g:Nat}(h:qo w L (shB n b) g):qo w L b g:=by
 cases b with
 | tree t sz l o=>cases o<;>exact h
 | _=>exact h
section
variable {n m:Nat}{σ σ':Nat->Loc}{F:Nat->Prop}{w:World}
theorem Oq (hs : ∀k,k<m->σ' (n+k)=σ k){a:AV}{v:Value}(r:mF m σ F w a v):mF (n+m) σ' F w (Xa n a) v:=by
 induction r with
 | top x=>exact .top x
 | v x=>exact .v x
 | lst h=>exact .lst h
 | fp h=>exact .fp h
 | fm h=>exact .fm h
 | ptr l o b hl hb=>exact .ptr _ o b (by omega) (by rw [hs l hl];exact hb)
 | ep l i o b hl hb=>rw [<-hs l hl];exact .ep _ i o b (by omega) (by rw [hs l hl];exact hb)
 | own l hl=>rw [<-hs l hl];exact .own _ (by omega)
 | qP l oa hl hn hc=>exact .qP _ oa (by omega) (by rw [hs l hl];exact hn) (by rw [hs l hl];exact hc)
 | sub l o k oa c hl hk hc hnil ho=>exact .sub _ o k oa c (by omega) (by rw [hs l hl];exact hk) hc hnil (by rw [hs l hl];exact ho)
 | full l k oa hl hk ho=>exact .full _ k oa (by omega) (by rw [hs l hl];exact hk) (by rw [hs l hl];exact ho)
 | mp l b hl hb=>exact .mp _ b (by omega) (by rw [hs l hl];exact hb)
 | fn f xs ys us vs hx hy _ _ ih1 ih2=>
  simp only [Xa,Jd]
  refine .fn f _ _ us vs (by simp [hx]) (by simp [hy]) (fun j a v h1 h2=> ?_) (fun j a v h1 h2=> ?_)
  ·rw [aP]at h1
   cases hx:xs[j]? with
   | none=>rw [hx]at h1;cases h1
   | some x=>rw [hx]at h1;injection h1 with h1;rw [<-h1];exact ih1 j x v hx h2
  ·rw [aP]at h1
   cases hy:ys[j]? with
   | none=>rw [hy]at h1;cases h1
   | some y=>rw [hy]at h1;injection h1 with h1;rw [<-h1];exact ih2 j y v hy h2
 | agg xs us hx _ ih=>
  simp only [Xa,Jd]
  refine .agg _ us (by simp [hx]) (fun j a v h1 h2=> ?_)
  rw [aP]at h1
  cases hx:xs[j]? with
  | none=>rw [hx]at h1;cases h1
  | some x=>rw [hx]at h1;injection h1 with h1;rw [<-h1];exact ih j x v hx h2
 | mW xs us hx _ ih=>
  simp only [Xa,Jd]
  refine .mW _ us (by simp [hx]) (fun j a v h1 h2=> ?_)
  rw [aP]at h1
  cases hx:xs[j]? with
  | none=>rw [hx]at h1;cases h1
  | some x=>rw [hx]at h1;injection h1 with h1;rw [<-h1];exact ih j x v hx h2
theorem XK (hs : ∀k,k<m->σ' (n+k)=σ k){l:List AV}{vs:List Value}(r:ng m σ F w l vs):ng (n+m) σ' F w (XH n l) vs:=by
 rw [Jd]
 refine .of (by simp [r.len]) fun j a v h1 h2=> ?_
 rw [aP]at h1
 cases hx:l[j]? with
 | none=>rw [hx]at h1;cases h1
 | some x=>rw [hx]at h1;injection h1 with h1;rw [<-h1];exact Oq hs (r.at j x v hx h2)
theorem XL (hs : ∀k,k<m->σ' (n+k)=σ k){L:Loc}{b:oN}(r:uo m σ F w L b):uo (n+m) σ' F w L (shB n b):=by
 cases b with
 | var t cs=>obtain⟨g,vs,h1,h2,h3,h4⟩:=r;exact⟨g,vs,h1,h2,XK hs h3,h4⟩
 | tree t sz l h=>
  cases h with
  | none=>obtain⟨h1,h2,xs,h3,h4,h5,_⟩:=r;exact⟨h1,h2,xs,h3,h4,h5,fun _ _ _ h=>by cases h⟩
  | some p=>
   obtain⟨i,j,e⟩:=p
   obtain⟨h1,h2,xs,h3,h4,h5,h6⟩:=r
   refine⟨h1,h2,xs,h3,h4,h5,fun i' j' e' h=> ?_⟩
   injection h with h
   injection h with e1 h
   injection h with e2 e3
   subst e1;subst e2;subst e3
   obtain⟨a1,a2,a3,a4,v,a5,a6⟩:=h6 _ _ _ rfl
   exact⟨by omega,a2,a3,a4,v,a5,Oq hs a6⟩
 | _=>exact r
theorem Fe : ∀ {H:lF} {k:Nat} {b:oN},look (shH n H) k=some b->∃j c,k=n+j∧look H j=some c∧b=shB n c:=by
 intro H
 induction H with
 | nil=>intro k b h;cases h
 | cons p r ih=>
  intro k b h
  obtain⟨x,c⟩:=p
  simp only [shH]at h
  rw [l9]at h
  split at h
  ·rename_i e
   injection h with h
   exact⟨x,c,e.symm,by rw [l9,if_pos rfl],h.symm⟩
  ·rename_i e
   obtain⟨j,d,h1,h2,h3⟩:=ih h
   exact⟨j,d,h1,by rw [l9,if_neg (by omega)];exact h2,h3⟩
theorem wI {Z:List Nat} : ∀ {H:lF} {k:Nat} {b:oN},look (DT Z H) k=some b->(look H k=some b∧(uT Z k=true->∀t sz l,b≠ .rows t sz l))∨(uT Z k=true∧∃t sz l,look H k=some (.rows t sz l)∧b = .fz sz l):=by
 intro H
 induction H with
 | nil=>intro k b h;cases h
 | cons p r ih=>
  intro k b h
  obtain⟨x,c⟩:=p
  rw [l9]
  have other:(∀t sz l,c≠ .rows t sz l)->DT Z ((x,c)::r)=(x,c)::DT Z r:=fun hne=>by
   cases c<;>first|rfl|exact absurd rfl (hne _ _ _)
  by_cases hc : ∃t sz l,c = .rows t sz l
  ·obtain⟨t,sz,l,rfl⟩:=hc
   simp only [DT]at h
   cases hz:uT Z x with
   | true=>
    rw [hz,cond_true,l9]at h
    split at h
    ·rename_i e
     subst e
     injection h with h
     rw [if_pos rfl]
     exact .inr ⟨hz,t,sz,l,rfl,h.symm⟩
    ·rename_i e;rw [if_neg e];exact ih h
   | false=>
    rw [hz,cond_false,l9]at h
    split at h
    ·rename_i e
     subst e
     injection h with h
     rw [if_pos rfl]
     exact .inl ⟨by rw [h],fun hm=>by rw [hz]at hm;cases hm⟩
    ·rename_i e;rw [if_neg e];exact ih h
  ·have hne : ∀t sz l,c≠ .rows t sz l:=fun t sz l e=>hc ⟨t,sz,l,e⟩
   rw [other hne,l9]at h
   split at h
   ·rename_i e
    subst e
    injection h with h
    rw [if_pos rfl]
    exact .inl ⟨by rw [h],fun _ t sz l e=>hne t sz l (h.trans e)⟩
   ·rename_i e;rw [if_neg e];exact ih h
end
section
variable {P:Program}{G:Glob}{n:Nat}{H:lF}
theorem XM {f:FuncId}{args args':List AV}{R:AV->Nat->lF->Prop}{K:AV->Nat->lF->Prop}(Z:List Nat)(hc:callable P f=true)(h:mX P G f args' 0 [] R)(ha:Np H [] Z 0 args' args)
  (k : ∀a m H',R a m H'->K (Xa n a) (n+m) (shH n H'++DT Z H)):um P G f args n H K:=by
 refine⟨hc,fun w σ F vs st hr=> ?_⟩
 have s1:=EZ (H':= []) (θ:= []) (Z:=Z) (nb:=0) (n':=0) st rfl trivial
 have r1:=uy (n':=0) (Gq:=BO []) st rfl (ay 0) args' args vs ha hr
 refine(h w _ _ vs s1.start r1).mono fun v w' ⟨a,m,σ',F',H',hR,s,x,ra⟩=> ?_
 have hM : ∀b, ¬uj w (EY [] σ (BO [])) [] b:=fun b ⟨k,c,e,_⟩=>by cases e
 let σn:Nat->Loc:=fun l=>if l<n then σ l else σ' (l-n)
 have hs : ∀k,k<m->σn (n+k)=σ' k:=fun k _=>by show (if n+k<n then _ else _)=_;rw [if_neg (by omega)];congr 1;omega
 have ho : ∀k,k<n->σn k=σ k:=fun k hk=>if_pos hk
 have hF : ∀b,F b->F' b∧w'.heap[b]? = w.heap[b]? :=fun b hb=>⟨(x.f b (.inl hb)).1,s.qg.block b (st.oC b hb).1 (hM b)⟩
 have hE:Ext n σ F w (n+m) σn F' w':=⟨by omega,ho,hF,x.sz⟩
 have old : ∀k b g,look (DT Z H) k=some b->b.own=true->qo w (σ k) b g->look H k=some b∧¬F' g∧G.nb<=g∧g<w.heap.size∧uj w σ H g:=by
  intro k b g hk hm hg
  rcases wI hk with ⟨h1,h2⟩|⟨_,t,sz,l,_,rfl⟩
  ·obtain⟨m1,m2,m3,m4⟩:=st.mu k b g h1 hm hg
   refine⟨h1,fun hf=> ?_,m2,m3,⟨k,b,h1,hm,hg⟩⟩
   rcases(s.oC g hf).2 with e|e|e
   ·rcases e with e|⟨k',t,sz,l,hz,hk',hg'⟩
    ·exact m1 e
    ·have:=st.inj k k' b _ g h1 hk' hm rfl hg (.inl hg')
     subst this
     rw [h1]at hk'
     injection hk' with hk'
     exact h2 hz t sz l hk'
   ·omega
   ·exact hM g e
  ·cases hm
 have new : ∀k b g,look (shH n H') k=some b->b.own=true->qo w' (σn k) b g->∃j c,k=n+j∧look H' j=some c∧c.own=true∧qo w' (σ' j) c g∧¬F' g∧G.nb<=g∧g<w'.heap.size∧w.heap.size<=g:=by
  intro k b g hk hm hg
  obtain⟨j,c,rfl,hj,rfl⟩:=Fe hk
  rw [XI]at hm
  rw [hs j (s.lab j c hj)]at hg
  have hg:=XJ hg
  obtain⟨m1,m2,m3,m4⟩:=s.mu j c g hj hm hg
  exact⟨j,c,rfl,hj,hm,hg,m1,m2,m3,m4.resolve_left (hM g)⟩
 have bk : ∀ {k b g},look (DT Z H) k=some b->b.own=true->qo w' (σ k) b g->qo w (σ k) b g:=fun hk hm hg=>hg.back fun y hy=>s.qg.block y (old _ _ y hk hm (.inl hy)).2.2.2.1 (hM y)
 have Ad : ∀k b,look (DT Z H) k=some b->k<n:=fun k b hk=>by
  rcases wI hk with ⟨h1,_⟩|⟨_,t,sz,l,h1,_⟩
  ·exact st.lab k _ h1
  ·exact st.lab k _ h1
 have hst:St G w (uj w σ H) F (n+m) σn F' (shH n H'++DT Z H) w':=by
  refine⟨s.glob,⟨s.qg.os,s.qg.tape,s.qg.output,x.sz,fun b hb _=>s.qg.block b hb (hM b)⟩,fun b hb=>⟨(s.oC b hb).1, ?_⟩,fun k b hk=> ?_,fun k b g hk hm hg=> ?_,fun k k' b b' g hk hk' hm hm' hg hg'=> ?_,fun k b hk=> ?_⟩
  ·rcases(s.oC b hb).2 with e|e|e
   ·rcases e with e|⟨k',t,sz,l,hz,hk',hg'⟩
    ·exact .inl e
    ·exact .inr (.inr ⟨k',_,hk',rfl, .inl hg'⟩)
   ·exact .inr (.inl e)
   ·exact(hM b e).elim
  ·rcases ny hk with hk|⟨_,hk⟩
   ·obtain⟨j,c,rfl,hj,_⟩:=Fe hk
    have:=s.lab j c hj
    omega
   ·have:=Ad k b hk;omega
  ·rcases ny hk with hk|⟨_,hk⟩
   ·obtain⟨j,c,_,_,_,_,m1,m2,m3,m4⟩:=new k b g hk hm hg
    exact⟨m1,m2,m3, .inr m4⟩
   ·rw [ho k (Ad k b hk)]at hg
    obtain⟨_,m1,m2,m3,m4⟩:=old k b g hk hm (bk hk hm hg)
    exact⟨m1,m2,aV m3 x.sz, .inl m4⟩
  ·rcases ny hk with hk|⟨_,hk⟩
   ·obtain⟨j,c,e1,h1,h2,h3,_,_,_,h4⟩:=new k b g hk hm hg
    rcases ny hk' with hk'|⟨_,hk'⟩
    ·obtain⟨j',c',e1',h1',h2',h3',_⟩:=new k' b' g hk' hm' hg'
     have:=s.inj j j' c c' g h1 h1' h2 h2' h3 h3'
     omega
    ·rw [ho k' (Ad k' b' hk')]at hg'
     have:=(old k' b' g hk' hm' (bk hk' hm' hg')).2.2.2.1
     omega
   ·rw [ho k (Ad k b hk)]at hg
    have h5:=old k b g hk hm (bk hk hm hg)
    rcases ny hk' with hk'|⟨_,hk'⟩
    ·obtain⟨j',c',e1',h1',h2',h3',_,_,_,h4'⟩:=new k' b' g hk' hm' hg'
     have:=h5.2.2.2.1
     omega
    ·rw [ho k' (Ad k' b' hk')]at hg'
     have h6:=old k' b' g hk' hm' (bk hk' hm' hg')
     exact st.inj k k' b b' g h5.1 h6.1 hm hm' (bk hk hm hg) (bk hk' hm' hg')
  ·rcases ny hk with hk|⟨_,hk⟩
   ·obtain⟨j,c,rfl,hj,rfl⟩:=Fe hk
    rw [hs j (s.lab j c hj)]
    exact XL hs (s.blk j c hj)
   ·rw [ho k (Ad k b hk)]
    rcases wI hk with ⟨h1,_⟩|⟨hz,t,sz,l,h1,rfl⟩
    ·exact(st.blk k b h1).mono hE fun hm g hg=>s.qg.block g (st.mu k b g h1 hm hg).2.2.1 (hM g)
    ·have hb:=(st.blk k _ h1).mono hE fun hm g hg=>s.qg.block g (st.mu k _ g h1 rfl hg).2.2.1 (hM g)
     exact sN hb (fun _ h=>h) fun g hg=>(x.f g (.inr ⟨k,t,sz,l,hz,h1,hg⟩)).1
 exact⟨Xa n a,n+m,σn,F',_,k a m H' hR,hst,hE,Oq hs ra⟩
theorem oJ {f:FuncId}{args args':List AV}{R:AV->Nat->lF->Prop}{K:AV->Nat->lF->Prop}(Z:List Nat)(hc:callable P f=true)(h:mX P G f args' 0 [] R)(ha:Np H [] Z 0 args' args)
  (k : ∀a m H',R a m H'->frc (n+m) (shH n H'++DT Z H) fun n' rM=>K (Xa n a) n' rM):um P G f args n H K:=XM Z hc h ha fun a m H' hR=>by have:=k a m H' hR;rwa [Us]at this
theorem Rk {α:Type}{F:Nat->Prop}{w:World}{sz:Nat}{enc:α->List FV}{c:α->List Value}(he : ∀x,enc x=(c x).map .v) : ∀ {l:List α} {xs:List Value},pz F w sz (l.map enc) xs->xs=recs c l:=by
 intro l
 induction l with
 | nil=>intro xs r;have:=r.2.1;simp at this;rw [this];rfl
 | cons x l ih=>
  intro xs r
  have hx:(enc x).length=sz:=r.1 _ (by simp)
  have hcx:(c x).length=sz:=by rw [<-hx,he];simp
  have hlen:=r.2.1
  simp only [gy,bg,ah]at hlen
  rw [bK,dA]at hlen
  have e1:xs.take sz=c x:=by
   apply jv
   intro j
   rw [bH]
   by_cases hj:j<sz
   ·rw [if_pos hj]
    have h1:(enc x)[j]? = some (.v (c x)[j]):=by rw [he,aP,aj (by omega)];rfl
    have h2:xs[j]? = some xs[j]:=aj (by omega)
    have:=r.2.2.2 0 j (enc x) _ xs[j] (by simp) h1 (by rw [dY,aS];exact h2)
    have key : ∀ {a b:Value},oL F w (.v a) b->b=a:=fun h=>by cases h;rfl
    rw [h2,aj (by omega),key this]
   ·rw [if_neg hj,eX (by omega)]
  have e2:xs.drop sz=recs c l:=by
   refine ih ⟨fun row hr=>r.1 row (by simp at hr ⊢;right;exact hr),by rw [aX,ah];omega,fun v hv=>r.2.2.1 v (ig hv),fun i j row a v hi hj hv=> ?_⟩
   rw [cZ]at hv
   refine r.2.2.2 (i+1) j row a v (by simpa using hi) hj ?_
   rw [bK,dA,show i*sz+sz+j=sz+(i*sz+j) by omega]
   exact hv
  have e3:recs c (x::l)=c x++recs c l:=rfl
  rw [e3, <-e1, <-e2,eY]
theorem oV {f:FuncId}{args:List AV}{K:AV->Nat->lF->Prop}(hc:callable P f=true)(h:mX P G f args n H K):um P G f args n H K:=⟨hc,h⟩
def LC (n:Nat):lF->lF
 | []=> []
 | p::r=>bif Nat.blt p.1 n then p::LC n r else LC n r
def wJ (T sz:Nat)(l:List (List FV))(a:AV)(n:Nat)(H:lF):Prop:=a = .own 0∧n=1∧H = [(0, .rows T sz l)]
theorem mX.DT {f:FuncId}{args:List AV}{T sz:Nat}{l:List (List FV)}(h:mX P G f args 0 [] (wJ T sz l)):mX P G f args 0 [] (Is (.lst sz l)):=by
 intro w σ F vs st r
 refine(h w σ F vs st r).mono fun v w' ⟨a,m,σ',F',H',⟨e1,e2,e3⟩,s,x,ra⟩=> ?_
 subst e1;subst e2;subst e3
 obtain⟨a',n',rM,hR,_,hE⟩:=(lW (G:=G) (nb:=0) (n:=1) (a:= .own 0) (H:= [(0, .rows T sz l)]) (R:=Is (.lst sz l)) (.lst sz l) 0 [] [] [0] ⟨rfl,rfl,rfl⟩ rfl trivial ⟨rfl,rfl,rfl⟩).ex
 obtain⟨yL,Nk,s2,r2,_,h4⟩:=hE w (uj w σ []) F σ' F' w' v s ra
 exact⟨a',n',yL,Nk,rM,hR,s2,⟨aB _,fun _ h=>absurd h (gQ _),fun b hb=>⟨h4 b (x.f b hb).1,(x.f b hb).2⟩,x.sz⟩,r2⟩
end
theorem nI {P:Program}{G:Glob}{n m:Nat}{H H0:lF}{f:FuncId}{args args':List AV}{r:AV}{K:AV->Nat->lF->Prop}(Z:List Nat)(hc:callable P f=true)(h:mX P G f args' 0 [] fun a n H=>a=r∧n=m∧H=H0)(ha:Np H [] Z 0 args' args)(k:frc (n+m) (shH n H0++DT Z H) fun n' rM=>K (Xa n r) n' rM):um P G f args n H K:=oJ Z hc h ha fun _ _ _ ⟨e1,e2,e3⟩=>by subst e1 e2 e3;exact k
theorem sD {α β:Type}{f:α->β}{l:List α}{i:Nat}(h:i<l.length):i<(l.map f).length:=by rw [ah];exact h
theorem Je {x y:Int}(h:x=y):Value.int .i64 x=Value.int .i64 y:=by rw [h]
end Go.Proofs.YtocckceefcmeaaaGreatDoor.Ax
