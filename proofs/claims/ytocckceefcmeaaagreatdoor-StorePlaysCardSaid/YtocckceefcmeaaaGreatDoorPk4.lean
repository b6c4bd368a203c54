/- Joined parts of the proof. Contracts proved over plain values, for walks over abstract ones -/
import Derived.Test.YtocckceefcmeaaaGreatDoorPk3
set_option linter.unusedVariables false
set_option linter.unusedSimpArgs false
set_option maxRecDepth 100000
set_option maxHeartbeats 16000000
namespace Go.Proofs.YtocckceefcmeaaaGreatDoor.Ax
open RowKit Vc
theorem akT (a b:ByteArray):yL a b=true↔a=b:=by
 unfold yL
 rw [<-MapKept.bytes_beq a b]
 have:(a==b)=(a.toList==b.toList):=by
  rw [Go.ByteArray.toList_eq,Go.ByteArray.toList_eq]
  obtain⟨⟨x⟩⟩:=a
  obtain⟨⟨y⟩⟩:=b
  show ((⟨x⟩:Array UInt8)==⟨y⟩)=(x==y)
  simp
 rw [this]
theorem abf (a b:ByteArray):yL a b=decide (a=b):=by
 rw [Bool.eq_iff_iff,akT];simp
theorem Ye {n:Nat}{σ:Nat->Loc}{F:Nat->Prop}{w:World} : ∀ {l vs:List Value},nX n σ F w (l.map .v) vs->vs=l:=by
 intro l
 induction l with
 | nil=>intro vs r;cases vs with
  | nil=>rfl
  | cons _ _=>exact r.elim
 | cons x l ih=>intro vs r;cases vs with
  | nil=>exact r.elim
  | cons v vs=>rw [r.1.oJ,ih r.2]
theorem ln:(∀ {α β:Type} (f:α->β) (l:List α),(l.map f).length=l.length)∧(∀ {α:Type} (a b:List α),(a++b).length=a.length+b.length)∧(∀ {α:Type} (x:α) (l:List α),(x::l).length=l.length+1)∧(∀ {α:Type},([]:List α).length=0)∧(∀ {α:Type} (n:Nat) (l:List α),(l.take n).length=min n l.length)∧(∀ {α:Type} (n:Nat) (l:List α),(l.drop n).length=l.length-n)∧(∀ {α:Type} (l:List α) (i:Nat) (x:α),(l.set i x).length=l.length)∧(∀ {α:Type} (n:Nat) (x:α),(List.replicate n x).length=n):=
 ⟨fun _ _=>ah _,fun _ _=>ak,fun _ _=>bC,fK,fun _ _=>aK,fun _ _=>aS,fun _ _ _=>bV,fun _ _=>cu⟩
theorem bl:(∀a b:ByteArray,yL a b=decide (a=b))∧(∀ {α:Type} (a b:α),(bif true then a else b)=a)∧(∀ {α:Type} (a b:α),(bif false then a else b)=b)∧(∀b:Bool,((!b)=true)=(b=false))∧(∀b:Bool,((!b)=false)=(b=true))∧(∀(p:Prop) [Decidable p],(decide p=true)=p)∧(∀(p:Prop) [Decidable p],(decide p=false) = ¬p)∧(∀a b:Int,((a==b)=true)=(a=b))∧(∀a b:Int,((a != b)=true) = ¬(a=b))∧(∀a b:Int,((a==b)=false) = ¬(a=b))∧(∀a b:Int,((a != b)=false)=(a=b))∧(∀a b:Bool,((a==b)=true)=(a=b))∧(∀a b:Bool,((a != b)=true) = ¬(a=b))∧(∀a b:Bool,((a==b)=false) = ¬(a=b))∧(∀a b:Bool,((a != b)=false)=(a=b))∧((!true)=false)∧((!false)=true)∧((false=true)=False)∧((true=false)=False)∧(∀(p:Prop),(¬¬p)=p)∧(∀a b:Int,(a>b)=(b<a))∧(∀a b:Int,(a≥b)=(b<=a))∧(∀a b:Int,(¬a<b)=(b<=a))∧(∀a b:Int,(¬a<=b)=(b<a)):=
 ⟨abf,by simp⟩
section
variable {P:Program}{G:Glob}
theorem BH {f:FuncId}{l:List Value}{x:Value}(h : ∀w,G.holds w->zC P f l.toArray w fun v w'=>v=x∧Below w.heap.size w w'):mQ P G f (l.map .v) 0 [] (Is (.v x)):=by
 intro w σ F vs st r
 rw [Ye r]
 refine(h w st.glob).mono fun v w' ⟨e,hB⟩=> ?_
 subst e
 have hE:Ext 0 σ F w 0 σ F w':=⟨aA _,fun _ _=>rfl,fun b hb=>⟨hb,hB.block b (st.oW b hb).1⟩,hB.size⟩
 exact⟨_,0,σ,F,[],⟨rfl,rfl,rfl⟩,⟨Glob.qM st.glob hB.size fun b hb=>hB.block b (bg hb st.glob.1),(AZ.uH hB).mono fun _ _ h=>h.elim,fun b hb=>⟨bg (st.oW b hb).1 hB.size, .inl hb⟩,
  (fun mV b h=>by cases h),(fun mV b g h=>by cases h),(fun mV Bq b b' g h=>by cases h),(fun mV b h=>by cases h)⟩,hE, .v _⟩
theorem lS {l qY:Nat}(h:l<=4194304)(h2:Nat.ble (4194304*qY) 140737488355328=true):l*qY<=140737488355328∧l<=maxLen:=
 ⟨dM (aX _ h) (aP h2),by unfold maxLen;omega⟩
theorem lV.in {k:IntKind}{x:Int}{K:Int->Prop}(h:k.wrap x=x)(c:K x):lV k x K:=⟨by rw [h];exact c⟩
theorem lV.i64 {x:Int}{K:Int->Prop}(h : -9223372036854775808<=x∧x<=9223372036854775807)(c:K x):lV .i64 x K:= .in (IntWalk.i64_in _ h) c
theorem mZ.mk' {x:Int}{n:Nat}{K:Nat->Prop}(i:Nat)(e:x=i)(h:i<n)(c:K i):mZ x n K:=⟨i,e,h,c⟩
theorem sN.mk' {x y:Int}{n:Nat}{K:Nat->Nat->Prop}(i j:Nat)(e1:x=i)(e2:y=j)(h1:i<=j)(h2:j<=n)(c:K i j):sN x y n K:=⟨i,j,e1,e2,h1,h2,c⟩
theorem mD.map {α:Type}{enc:α->List FV}{xs:List α}{i:Nat}{K:List FV->Prop}(h:i<xs.length)(c:K (enc xs[i])):mD (xs.map enc) i K:=⟨_,by rw [aU,aj h];rfl,c⟩
theorem mD.at {l:List (List FV)}{i:Nat}{row:List FV}{K:List FV->Prop}(h:l[i]? = some row)(c:K row):mD l i K:=⟨row,h,c⟩
theorem mD.lT {α:Type}{enc:α->List FV}{xs:List α}{i:Nat}{a:α}{K:List FV->Prop}(h:xs[i]? = some a)(c:K (enc a)):mD (xs.map enc) i K:=⟨_,by rw [aU,h];rfl,c⟩
theorem mD.set {l:List (List FV)}{i:Nat}{row:List FV}{K:List FV->Prop}(h:i<l.length)(c:K row):mD (l.set i row) i K:=⟨row,fC h,c⟩
theorem KG.mk' {x y:Int}{qY:Nat}{K:Nat->Prop}(n:Nat)(e1:x=n)(e2:y=n)(h:qY*n<=140737488355328∧n<=maxLen)(c:K n):KG x y qY K:=⟨n,n,e1,e2,aA _,h.1,h.2,c⟩
theorem KG.cap {x y:Int}{qY:Nat}{K:Nat->Prop}(n m:Nat)(e1:x=n)(e2:y=m)(hnm:n<=m)(h:qY*m<=140737488355328∧m<=maxLen)(c:K n):KG x y qY K:=⟨n,m,e1,e2,hnm,h.1,h.2,c⟩
theorem mP {id:Nat}{ops:Array Oper}{K:l9->Nat->lM->Prop}{ρ:l9}{n:Nat}{H:lM}(pl:Nat->Plan)(D:List Nat)(hp:xJ ops (pl id)=true)(h:aD P G ops.toList D (pl id) ρ n H K):zI P G id ops K ρ n H:=⟨.inl ⟨pl id,D,hp,h⟩⟩
theorem xY {id:Nat}{ops:Array Oper}{K:l9->Nat->lM->Prop}{ρ:l9}{n:Nat}{H:lM}(pl:Nat->Plan)(D:List Nat)(ws:List (Nat×Nat))(nl:Nat)(sl:List (Nat×AV))(H':lM)(hp:xJ ops (pl id)=true)
  (hw:((ops.toList.all fun o=>match o.dst with|some d=>uG ws d|none=>true)&&Nat.ble n nl&&(sl.map (·.1)).all (uG ws))=true)
  (h:aD P G ops.toList D (pl id) ρ n H fun pV Uc qW=>MR (J5 G (uG ws) n pV Uc qW (CV sl ws ρ) nl H')) (k:K (CV sl ws ρ) nl H'):zI P G id ops K ρ n H:=by
 simp only [aB]at hw
 refine⟨.inr (.inl ⟨pl id,D,uG ws,CV sl ws ρ,nl,H',hp,hw.1.1,aP hw.1.2,fun s hs=> ?_,h,k⟩)⟩
 unfold CV
 cases hl:A8 sl s with
 | none=>simp only [hs,cond_false]
 | some a=>
  have:=bP.1 hw.2 s (Ey hl)
  rw [hs]at this
  cases this
theorem nH {ws:List (Nat×Nat)}{sl:List (Nat×AV)}{ρ pV:l9}{nb Uc nl:Nat}{qW H':lM}(θ:List (Nat×Src))(Z:List Nat)(hwf:OA nb nl θ Z H'=true)(hH:QY qW θ Z nb H')(hs:coS qW θ Z nb sl pV):MR (J5 G (uG ws) nb pV Uc qW (CV sl ws ρ) nl H'):=⟨IJ θ Z hwf hH hs⟩
def PK (Xf:List (Nat×List (Nat×AV)×lM))(ws:List (Nat×Nat))(ρ:l9)(n:Nat)(k:Nat):NS:=
 match Xf[k]? with
 | some s=>⟨CV s.2.1 ws ρ,s.1,s.2.2⟩
 | none=>⟨ρ,n,[]⟩
def Yf (P:Program)(G:Glob)(all:List Oper)(ws:List (Nat×Nat))(nb:Nat)(A:Nat->NS)(k:Nat):List (Nat×Nat)->Prop
 | []=>True
 | s::r=>Iq P G all (uG ws) nb A k s∧Yf P G all ws nb A k r
def Yg (P:Program)(G:Glob)(all:List Oper)(ws:List (Nat×Nat))(nb:Nat)(A:Nat->NS):Nat->List Nd->Prop
 | _,[]=>True
 | k,nd::r=>Yf P G all ws nb A k nd.succ∧Yg P G all ws nb A (k+1) r
def Yh (P:Program)(G:Glob)(all:List Oper)(D:List Nat)(p:Plan)(Hh:lM)(A:Nat->NS)(K:l9->Nat->lM->Prop):Nat->List Nd->Prop
 | _,[]=>True
 | k,nd::r=>(match nd.succ with | []=>aD P G all D p (A k).ρ (A k).n ((A k).H++Hh) K|_::_=>True)∧Yh P G all D p Hh A K (k+1) r
theorem PL {P:Program}{all:List Oper}{ws:List (Nat×Nat)}{nb:Nat}{A:Nat->NS}{k:Nat} : ∀ {l:List (Nat×Nat)},Yf P G all ws nb A k l->∀s∈l,Iq P G all (uG ws) nb A k s
 | _::_,h,_, .head _=>h.1
 | _::_,h,_, .tail _ hm=>PL h.2 _ hm
theorem Yi {P:Program}{all:List Oper}{ws:List (Nat×Nat)}{nb:Nat}{A:Nat->NS} : ∀ {l:List Nd} {b:Nat},Yg P G all ws nb A b l->∀k nd,l[k]? = some nd->∀s∈nd.succ,Iq P G all (uG ws) nb A (b+k) s:=by
 intro l
 induction l with
 | nil=>intro b _ k nd h;cases h
 | cons x r ih=>
  intro b h k nd hk
  cases k with
  | zero=>cases hk;exact PL h.1
  | succ k=>
   have:=ih h.2 k nd hk
   rwa [show b+1+k=b+(k+1) by omega]at this
theorem Yj {P:Program}{all:List Oper}{D:List Nat}{p:Plan}{Hh:lM}{A:Nat->NS}{K:l9->Nat->lM->Prop} : ∀ {l:List Nd} {b:Nat},Yh P G all D p Hh A K b l->∀k nd,l[k]? = some nd->nd.succ = []->aD P G all D p (A (b+k)).ρ (A (b+k)).n ((A (b+k)).H++Hh) K:=by
 intro l
 induction l with
 | nil=>intro b _ k nd h;cases h
 | cons x r ih=>
  intro b h k nd hk hn
  cases k with
  | zero=>
   cases hk
   have:=h.1
   rw [hn]at this
   exact this
  | succ k=>
   have:=ih h.2 k nd hk hn
   rwa [show b+1+k=b+(k+1) by omega]at this
theorem af0 {id:Nat}{ops:Array Oper}{K:l9->Nat->lM->Prop}{ρ:l9}{n:Nat}{H:lM}(T ts:List Nat)(ns:List Nd)(p:Plan)(e:Nat)(D:List Nat)(ws:List (Nat×Nat))(Xf:List (Nat×List (Nat×AV)×lM))(hp:Ah ops T ts ns p e=true)
  (hw:((ops.toList.all fun o=>match o.dst with|some d=>uG ws d|none=>true)&&Xf.all fun s=>Nat.ble n s.1&&(s.2.1.map (·.1)).all (uG ws))=true)
  (h0:X0 P G ops.toList (uJ D H) H ts ρ fun ρ'=>MR (J5 G (uG ws) n ρ' n (vV D H) (PK Xf ws ρ n 0).ρ (PK Xf ws ρ n 0).n (PK Xf ws ρ n 0).H))
  (hs:Yg P G ops.toList ws n (PK Xf ws ρ n) 0 ns) (he:Yh P G ops.toList D p (uJ D H) (PK Xf ws ρ n) K 0 ns):zI P G id ops K ρ n H:=by
 simp only [aB]at hw
 have hall : ∀(k:Nat) (s:Nat×List (Nat×AV)×lM),Xf[k]? = some s->n<=s.1∧(s.2.1.map (·.1)).all (uG ws)=true:=fun k s h=>by
  have:=bP.1 hw.2 s (aZ h)
  simp only [aB]at this
  exact⟨aP this.1,this.2⟩
 refine⟨.inr (.inr ⟨T,ts,ns,p,e,D,uG ws,PK Xf ws ρ n,hp,hw.1,fun j=> ?_,fun j s hsw=> ?_,h0,fun k nd hk s hm=> ?_,fun k nd hk hn=> ?_⟩)⟩
 ·unfold PK
  cases h:Xf[j]? with
  | none=>exact aA _
  | some s=>exact(hall j s h).1
 ·unfold PK
  cases h:Xf[j]? with
  | none=>rfl
  | some x=>
   show CV x.2.1 ws ρ s=ρ s
   unfold CV
   cases hl:A8 x.2.1 s with
   | none=>simp only [hsw,cond_false]
   | some a=>
    have:=bP.1 (hall j x h).2 s (Ey hl)
    rw [hsw]at this
    cases this
 ·have:=Yi hs k nd hk s hm
  rwa [aV]at this
 ·have:=Yj he k nd hk hn
  rwa [aV]at this
theorem uj {X:Type}{body:Code}{B:(Ex->l9->Nat->lM->Prop)->l9->Nat->lM->Prop}{Q:Ex->l9->Nat->lM->Prop}{ρ:l9}{n:Nat}{H:lM}
  (ws:List (Nat×Nat)) (ks:List Nat) (sl:X->List (Nat×AV)) (J:X->Prop) (μ:X->Nat) (BP:X)
  (hw:(writesIn (uG ws) body&&Nat.ble n n&&ks.all (uG ws))=true) (hsl : ∀x,(sl x).map (·.1)=ks) (hwf:OA n n [] [] H=true) (hJ:J BP) (hH:QY H [] [] n H) (hs:coS H [] [] n (sl BP) ρ)
  (hr : ∀x,J x->B (Sz (fun qc n'' um=>Iz (∃m',m'<μ x∧∃pV qW,LI ws sl (fun _=>H) J μ ρ m' pV qW∧J5 G (uG ws) n qc n'' um pV n qW)) Q) (CV (sl x) ws ρ) n H) :
  Un G body B Q ρ n H:=mO ws n ks sl (fun _=>H) J μ [] [] BP hw hsl hwf hJ hH hs hr
end
mutual
def shA (n:Nat):AV->AV
 | .ptr e o=> .ptr (n+e) o
 | .ep e i o=> .ep (n+e) i o
 | .own e=> .own (n+e)
 | .sub e o k=> .sub (n+e) o k
 | .mp e=> .mp (n+e)
 | .fn f xs ys=> .fn f (shL n xs) (shL n ys)
 | .agg cs=> .agg (shL n cs)
 | .nN cs=> .nN (shL n cs)
 | .top=> .top
 | .v x=> .v x
 | .lst sz l=> .lst sz l
 | .fp cs o=> .fp cs o
 | .fm M=> .fm M
def shL (n:Nat):List AV->List AV
 | []=> []
 | a::r=>shA n a::shL n r
end
def shB (n:Nat):oZ->oZ
 | .var t cs=> .var t (shL n cs)
 | .tree t sz l (some (i,j,e))=> .tree t sz l (some (i,j,n+e))
 | b=>b
def shH (n:Nat):lM->lM
 | []=> []
 | p::r=>(n+p.1,shB n p.2)::shH n r
theorem Nb (n:Nat) : ∀l:List AV,shL n l=l.map (shA n):=by
 intro l
 induction l with
 | nil=>rfl
 | cons a r ih=>simp [shL,ih]
theorem abh (n:Nat)(b:oZ):(shB n b).own=b.own:=by
 cases b with
 | tree t sz l h=>cases h<;>rfl
 | _=>rfl
theorem abj {n:Nat}{b:oZ}{w:World}{L:Loc}{g:Nat}(h:rY w L (shB n b) g):rY w L b g:=by
 cases b with
 | tree t sz l o=>cases o<;>exact h
 | _=>exact h
section
variable {n m:Nat}{σ σ':Nat->Loc}{F:Nat->Prop}{w:World}
theorem SE (hs : ∀k,k<m->σ' (n+k)=σ k){a:AV}{v:Value}(r:nI m σ F w a v):nI (n+m) σ' F w (shA n a) v:=by
 induction r with
 | top x=>exact .top x
 | v x=>exact .v x
 | lst h=>exact .lst h
 | fp h=>exact .fp h
 | fm h=>exact .fm h
 | ptr l o b hl hb=>exact .ptr _ o b (by omega) (by rw [hs l hl];exact hb)
 | ep l i o b hl hb=>rw [<-hs l hl];exact .ep _ i o b (by omega) (by rw [hs l hl];exact hb)
 | own l hl=>rw [<-hs l hl];exact .own _ (by omega)
 | tC l oa hl hn hc=>exact .tC _ oa (by omega) (by rw [hs l hl];exact hn) (by rw [hs l hl];exact hc)
 | sub l o k oa c hl hk hc hnil ho=>exact .sub _ o k oa c (by omega) (by rw [hs l hl];exact hk) hc hnil (by rw [hs l hl];exact ho)
 | mp l b hl hb=>exact .mp _ b (by omega) (by rw [hs l hl];exact hb)
 | fn f xs ys us vs hx hy _ _ ih1 ih2=>
  simp only [shA,Nb]
  refine .fn f _ _ us vs (by simp [hx]) (by simp [hy]) (fun j a v h1 h2=> ?_) (fun j a v h1 h2=> ?_)
  ·rw [aU]at h1
   cases hx:xs[j]? with
   | none=>rw [hx]at h1;cases h1
   | some x=>rw [hx]at h1;injection h1 with h1;rw [<-h1];exact ih1 j x v hx h2
  ·rw [aU]at h1
   cases hy:ys[j]? with
   | none=>rw [hy]at h1;cases h1
   | some y=>rw [hy]at h1;injection h1 with h1;rw [<-h1];exact ih2 j y v hy h2
 | agg xs us hx _ ih=>
  simp only [shA,Nb]
  refine .agg _ us (by simp [hx]) (fun j a v h1 h2=> ?_)
  rw [aU]at h1
  cases hx:xs[j]? with
  | none=>rw [hx]at h1;cases h1
  | some x=>rw [hx]at h1;injection h1 with h1;rw [<-h1];exact ih j x v hx h2
 | nN xs us hx _ ih=>
  simp only [shA,Nb]
  refine .nN _ us (by simp [hx]) (fun j a v h1 h2=> ?_)
  rw [aU]at h1
  cases hx:xs[j]? with
  | none=>rw [hx]at h1;cases h1
  | some x=>rw [hx]at h1;injection h1 with h1;rw [<-h1];exact ih j x v hx h2
theorem abk (hs : ∀k,k<m->σ' (n+k)=σ k){l:List AV}{vs:List Value}(r:nX m σ F w l vs):nX (n+m) σ' F w (shL n l) vs:=by
 rw [Nb]
 refine .of (by simp [r.len]) fun j a v h1 h2=> ?_
 rw [aU]at h1
 cases hx:l[j]? with
 | none=>rw [hx]at h1;cases h1
 | some x=>rw [hx]at h1;injection h1 with h1;rw [<-h1];exact SE hs (r.at j x v hx h2)
theorem abl (hs : ∀k,k<m->σ' (n+k)=σ k){L:Loc}{b:oZ}(r:vU m σ F w L b):vU (n+m) σ' F w L (shB n b):=by
 cases b with
 | var t cs=>obtain⟨g,vs,h1,h2,h3,h4⟩:=r;exact⟨g,vs,h1,h2,abk hs h3,h4⟩
 | tree t sz l h=>
  cases h with
  | none=>obtain⟨h1,h2,xs,h3,h4,h5,_⟩:=r;exact⟨h1,h2,xs,h3,h4,h5,fun _ _ _ h=>by cases h⟩
  | some p=>
   obtain⟨i,j,e⟩:=p
   obtain⟨h1,h2,xs,h3,h4,h5,h6⟩:=r
   refine⟨h1,h2,xs,h3,h4,h5,fun i' j' e' h=> ?_⟩
   injection h with h
   injection h with e1 h
   injection h with e2 e3
   subst e1;subst e2;subst e3
   obtain⟨a1,a2,a3,a4,v,a5,a6⟩:=h6 _ _ _ rfl
   exact⟨by omega,a2,a3,a4,v,a5,SE hs a6⟩
 | _=>exact r
theorem IK : ∀ {H:lM} {k:Nat} {b:oZ},look (shH n H) k=some b->∃j c,k=n+j∧look H j=some c∧b=shB n c:=by
 intro H
 induction H with
 | nil=>intro k b h;cases h
 | cons p r ih=>
  intro k b h
  obtain⟨x,c⟩:=p
  simp only [shH]at h
  rw [nG]at h
  split at h
  ·rename_i e
   injection h with h
   exact⟨x,c,e.symm,by rw [nG,if_pos rfl],h.symm⟩
  ·rename_i e
   obtain⟨j,d,h1,h2,h3⟩:=ih h
   exact⟨j,d,h1,by rw [nG,if_neg (by omega)];exact h2,h3⟩
theorem yG {Z:List Nat} : ∀ {H:lM} {k:Nat} {b:oZ},look (Fv Z H) k=some b->(look H k=some b∧(wX Z k=true->∀t sz l,b≠ .rows t sz l))∨(wX Z k=true∧∃t sz l,look H k=some (.rows t sz l)∧b = .fz sz l):=by
 intro H
 induction H with
 | nil=>intro k b h;cases h
 | cons p r ih=>
  intro k b h
  obtain⟨x,c⟩:=p
  rw [nG]
  have other:(∀t sz l,c≠ .rows t sz l)->Fv Z ((x,c)::r)=(x,c)::Fv Z r:=fun hne=>by
   cases c<;>first|rfl|exact absurd rfl (hne _ _ _)
  by_cases hc : ∃t sz l,c = .rows t sz l
  ·obtain⟨t,sz,l,rfl⟩:=hc
   simp only [Fv]at h
   cases hz:wX Z x with
   | true=>
    rw [hz,cond_true,nG]at h
    split at h
    ·rename_i e
     subst e
     injection h with h
     rw [if_pos rfl]
     exact .inr ⟨hz,t,sz,l,rfl,h.symm⟩
    ·rename_i e;rw [if_neg e];exact ih h
   | false=>
    rw [hz,cond_false,nG]at h
    split at h
    ·rename_i e
     subst e
     injection h with h
     rw [if_pos rfl]
     exact .inl ⟨by rw [h],fun hm=>by rw [hz]at hm;cases hm⟩
    ·rename_i e;rw [if_neg e];exact ih h
  ·have hne : ∀t sz l,c≠ .rows t sz l:=fun t sz l e=>hc ⟨t,sz,l,e⟩
   rw [other hne,nG]at h
   split at h
   ·rename_i e
    subst e
    injection h with h
    rw [if_pos rfl]
    exact .inl ⟨by rw [h],fun _ t sz l e=>hne t sz l (h.trans e)⟩
   ·rename_i e;rw [if_neg e];exact ih h
end
section
variable {P:Program}{G:Glob}{n:Nat}{H:lM}
theorem abm {f:FuncId}{args args':List AV}{R:AV->Nat->lM->Prop}{K:AV->Nat->lM->Prop}(Z:List Nat)(hc:callable P f=true)(h:mQ P G f args' 0 [] R)(ha:QX H [] Z 0 args' args)
  (k : ∀a m H',R a m H'->K (shA n a) (n+m) (shH n H'++Fv Z H)):zi P G f args n H K:=by
 refine⟨hc,fun w σ F vs st hr=> ?_⟩
 have s1:=II (H':= []) (θ:= []) (Z:=Z) (nb:=0) (n':=0) st rfl trivial
 have r1:=vW (n':=0) (JV:=Ew []) st rfl (aA 0) args' args vs ha hr
 refine(h w _ _ vs s1.start r1).mono fun v w' ⟨a,m,σ',F',H',hR,s,x,ra⟩=> ?_
 have hM : ∀b, ¬wL w (IG [] σ (Ew [])) [] b:=fun b ⟨k,c,e,_⟩=>by cases e
 let σn:Nat->Loc:=fun l=>if l<n then σ l else σ' (l-n)
 have hs : ∀k,k<m->σn (n+k)=σ' k:=fun k _=>by show (if n+k<n then _ else _)=_;rw [if_neg (by omega)];congr 1;omega
 have ho : ∀k,k<n->σn k=σ k:=fun k hk=>if_pos hk
 have hF : ∀b,F b->F' b∧w'.heap[b]? = w.heap[b]? :=fun b hb=>⟨(x.f b (.inl hb)).1,s.qM.block b (st.oW b hb).1 (hM b)⟩
 have hE:Ext n σ F w (n+m) σn F' w':=⟨by omega,ho,hF,x.sz⟩
 have old : ∀k b g,look (Fv Z H) k=some b->b.own=true->rY w (σ k) b g->look H k=some b∧¬F' g∧G.nb<=g∧g<w.heap.size∧wL w σ H g:=by
  intro k b g hk hm hg
  rcases yG hk with ⟨h1,h2⟩|⟨_,t,sz,l,_,rfl⟩
  ·obtain⟨m1,m2,m3,m4⟩:=st.mu k b g h1 hm hg
   refine⟨h1,fun hf=> ?_,m2,m3,⟨k,b,h1,hm,hg⟩⟩
   rcases(s.oW g hf).2 with e|e|e
   ·rcases e with e|⟨k',t,sz,l,hz,hk',hg'⟩
    ·exact m1 e
    ·have:=st.inj k k' b _ g h1 hk' hm rfl hg (.inl hg')
     subst this
     rw [h1]at hk'
     injection hk' with hk'
     exact h2 hz t sz l hk'
   ·omega
   ·exact hM g e
  ·cases hm
 have new : ∀k b g,look (shH n H') k=some b->b.own=true->rY w' (σn k) b g->∃j c,k=n+j∧look H' j=some c∧c.own=true∧rY w' (σ' j) c g∧¬F' g∧G.nb<=g∧g<w'.heap.size∧w.heap.size<=g:=by
  intro k b g hk hm hg
  obtain⟨j,c,rfl,hj,rfl⟩:=IK hk
  rw [abh]at hm
  rw [hs j (s.lab j c hj)]at hg
  have hg:=abj hg
  obtain⟨m1,m2,m3,m4⟩:=s.mu j c g hj hm hg
  exact⟨j,c,rfl,hj,hm,hg,m1,m2,m3,m4.resolve_left (hM g)⟩
 have bk : ∀ {k b g},look (Fv Z H) k=some b->b.own=true->rY w' (σ k) b g->rY w (σ k) b g:=fun hk hm hg=>hg.back fun y hy=>s.qM.block y (old _ _ y hk hm (.inl hy)).2.2.2.1 (hM y)
 have CX : ∀k b,look (Fv Z H) k=some b->k<n:=fun k b hk=>by
  rcases yG hk with ⟨h1,_⟩|⟨_,t,sz,l,h1,_⟩
  ·exact st.lab k _ h1
  ·exact st.lab k _ h1
 have hst:St G w (wL w σ H) F (n+m) σn F' (shH n H'++Fv Z H) w':=by
  refine⟨s.glob,⟨s.qM.os,s.qM.tape,s.qM.output,x.sz,fun b hb _=>s.qM.block b hb (hM b)⟩,fun b hb=>⟨(s.oW b hb).1, ?_⟩,fun k b hk=> ?_,fun k b g hk hm hg=> ?_,fun k k' b b' g hk hk' hm hm' hg hg'=> ?_,fun k b hk=> ?_⟩
  ·rcases(s.oW b hb).2 with e|e|e
   ·rcases e with e|⟨k',t,sz,l,hz,hk',hg'⟩
    ·exact .inl e
    ·exact .inr (.inr ⟨k',_,hk',rfl, .inl hg'⟩)
   ·exact .inr (.inl e)
   ·exact(hM b e).elim
  ·rcases nY hk with hk|⟨_,hk⟩
   ·obtain⟨j,c,rfl,hj,_⟩:=IK hk
    have:=s.lab j c hj
    omega
   ·have:=CX k b hk;omega
  ·rcases nY hk with hk|⟨_,hk⟩
   ·obtain⟨j,c,_,_,_,_,m1,m2,m3,m4⟩:=new k b g hk hm hg
    exact⟨m1,m2,m3, .inr m4⟩
   ·rw [ho k (CX k b hk)]at hg
    obtain⟨_,m1,m2,m3,m4⟩:=old k b g hk hm (bk hk hm hg)
    exact⟨m1,m2,bg m3 x.sz, .inl m4⟩
  ·rcases nY hk with hk|⟨_,hk⟩
   ·obtain⟨j,c,e1,h1,h2,h3,_,_,_,h4⟩:=new k b g hk hm hg
    rcases nY hk' with hk'|⟨_,hk'⟩
    ·obtain⟨j',c',e1',h1',h2',h3',_⟩:=new k' b' g hk' hm' hg'
     have:=s.inj j j' c c' g h1 h1' h2 h2' h3 h3'
     omega
    ·rw [ho k' (CX k' b' hk')]at hg'
     have:=(old k' b' g hk' hm' (bk hk' hm' hg')).2.2.2.1
     omega
   ·rw [ho k (CX k b hk)]at hg
    have h5:=old k b g hk hm (bk hk hm hg)
    rcases nY hk' with hk'|⟨_,hk'⟩
    ·obtain⟨j',c',e1',h1',h2',h3',_,_,_,h4'⟩:=new k' b' g hk' hm' hg'
     have:=h5.2.2.2.1
     omega
    ·rw [ho k' (CX k' b' hk')]at hg'
     have h6:=old k' b' g hk' hm' (bk hk' hm' hg')
     exact st.inj k k' b b' g h5.1 h6.1 hm hm' (bk hk hm hg) (bk hk' hm' hg')
  ·rcases nY hk with hk|⟨_,hk⟩
   ·obtain⟨j,c,rfl,hj,rfl⟩:=IK hk
    rw [hs j (s.lab j c hj)]
    exact abl hs (s.blk j c hj)
   ·rw [ho k (CX k b hk)]
    rcases yG hk with ⟨h1,_⟩|⟨hz,t,sz,l,h1,rfl⟩
    ·exact(st.blk k b h1).mono hE fun hm g hg=>s.qM.block g (st.mu k b g h1 hm hg).2.2.1 (hM g)
    ·have hb:=(st.blk k _ h1).mono hE fun hm g hg=>s.qM.block g (st.mu k _ g h1 rfl hg).2.2.1 (hM g)
     exact uS hb (fun _ h=>h) fun g hg=>(x.f g (.inr ⟨k,t,sz,l,hz,h1,hg⟩)).1
 exact⟨shA n a,n+m,σn,F',_,k a m H' hR,hst,hE,SE hs ra⟩
theorem nO {f:FuncId}{args args':List AV}{R:AV->Nat->lM->Prop}{K:AV->Nat->lM->Prop}(Z:List Nat)(hc:callable P f=true)(h:mQ P G f args' 0 [] R)(ha:QX H [] Z 0 args' args)
  (k : ∀a m H',R a m H'->frc (n+m) (shH n H'++Fv Z H) fun n' um=>K (shA n a) n' um):zi P G f args n H K:=abm Z hc h ha fun a m H' hR=>by have:=k a m H' hR;rwa [Yd]at this
theorem V3 {α:Type}{F:Nat->Prop}{w:World}{sz:Nat}{enc:α->List FV}{c:α->List Value}(he : ∀x,enc x=(c x).map .v) : ∀ {l:List α} {xs:List Value},qA F w sz (l.map enc) xs->xs=recs c l:=by
 intro l
 induction l with
 | nil=>intro xs r;have:=r.2.1;simp at this;rw [this];rfl
 | cons x l ih=>
  intro xs r
  have hx:(enc x).length=sz:=r.1 _ (by simp)
  have hcx:(c x).length=sz:=by rw [<-hx,he];simp
  have hlen:=r.2.1
  simp only [gG,bC,ah]at hlen
  rw [bJ,dF]at hlen
  have e1:xs.take sz=c x:=by
   apply jM
   intro j
   rw [bQ]
   by_cases hj:j<sz
   ·rw [if_pos hj]
    have h1:(enc x)[j]? = some (.v (c x)[j]):=by rw [he,aU,aj (by omega)];rfl
    have h2:xs[j]? = some xs[j]:=aj (by omega)
    have:=r.2.2.2 0 j (enc x) _ xs[j] (by simp) h1 (by rw [fJ,aV];exact h2)
    have key : ∀ {a b:Value},pJ F w (.v a) b->b=a:=fun h=>by cases h;rfl
    rw [h2,aj (by omega),key this]
   ·rw [if_neg hj,fG (by omega)]
  have e2:xs.drop sz=recs c l:=by
   refine ih ⟨fun row hr=>r.1 row (by simp at hr ⊢;right;exact hr),by rw [aS,ah];omega,fun v hv=>r.2.2.1 v (ig hv),fun i j row a v hi hj hv=> ?_⟩
   rw [dA]at hv
   refine r.2.2.2 (i+1) j row a v (by simpa using hi) hj ?_
   rw [bJ,dF,show i*sz+sz+j=sz+(i*sz+j) by omega]
   exact hv
  have e3:recs c (x::l)=c x++recs c l:=rfl
  rw [e3, <-e1, <-e2,gy]
theorem pR {f:FuncId}{args:List AV}{K:AV->Nat->lM->Prop}(hc:callable P f=true)(h:mQ P G f args n H K):zi P G f args n H K:=⟨hc,h⟩
def PN (n:Nat):lM->lM
 | []=> []
 | p::r=>bif Nat.blt p.1 n then p::PN n r else PN n r
def sW (T sz:Nat)(l:List (List FV))(a:AV)(n:Nat)(H:lM):Prop:=a = .own 0∧n=1∧H = [(0, .rows T sz l)]
theorem mQ.Fv {f:FuncId}{args:List AV}{T sz:Nat}{l:List (List FV)}(h:mQ P G f args 0 [] (sW T sz l)):mQ P G f args 0 [] (Is (.lst sz l)):=by
 intro w σ F vs st r
 refine(h w σ F vs st r).mono fun v w' ⟨a,m,σ',F',H',⟨e1,e2,e3⟩,s,x,ra⟩=> ?_
 subst e1;subst e2;subst e3
 obtain⟨a',n',um,hR,_,hE⟩:=(lX (G:=G) (nb:=0) (n:=1) (a:= .own 0) (H:= [(0, .rows T sz l)]) (R:=Is (.lst sz l)) (.lst sz l) 0 [] [] [0] ⟨rfl,rfl,rfl⟩ rfl trivial ⟨rfl,rfl,rfl⟩).ex
 obtain⟨AO,QV,s2,r2,_,h4⟩:=hE w (wL w σ []) F σ' F' w' v s ra
 exact⟨a',n',AO,QV,um,hR,s2,⟨au _,fun _ h=>absurd h (gI _),fun b hb=>⟨h4 b (x.f b hb).1,(x.f b hb).2⟩,x.sz⟩,r2⟩
end
theorem mY {P:Program}{G:Glob}{n m:Nat}{H H0:lM}{f:FuncId}{args args':List AV}{r:AV}{K:AV->Nat->lM->Prop}(Z:List Nat)(hc:callable P f=true)(h:mQ P G f args' 0 [] fun a n H=>a=r∧n=m∧H=H0)(ha:QX H [] Z 0 args' args)(k:frc (n+m) (shH n H0++Fv Z H) fun n' um=>K (shA n r) n' um):zi P G f args n H K:=nO Z hc h ha fun _ _ _ ⟨e1,e2,e3⟩=>by subst e1 e2 e3;exact k
theorem pU {α β:Type}{f:α->β}{l:List α}{i:Nat}(h:i<l.length):i<(l.map f).length:=by rw [ah];exact h
theorem Ak {x y:Int}(h:x=y):Value.int .i64 x=Value.int .i64 y:=by rw [h]
end Go.Proofs.YtocckceefcmeaaaGreatDoor.Ax
