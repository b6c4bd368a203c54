/- Joined parts of the proof. The frames of the store, in plain Lean: sectors, heads, what a list of sectors holds -/
import Derived.Test.YtnandbihiceihaaGreatDoorNk12
import Derived.Test.YtnandbihiceihaaGreatDoorNk11
import Derived.Test.YtnandbihiceihaaGreatDoorNk10
import Derived.Test.YtnandbihiceihaaGreatDoorNk9
import Derived.Test.YtnandbihiceihaaGreatDoorProg
set_option linter.unusedVariables false
set_option linter.unusedSimpArgs false
set_option maxRecDepth 100000
set_option maxHeartbeats 16000000
namespace Go.Proofs.YtnandbihiceihaaGreatDoor.Cl
open RowKit Vc Ax Go.Proofs.Tryz
abbrev bt (n:Nat):UInt8:=UInt8.ofNat n
def be (k n:Nat):By:=(List.range k).map fun j=>bt (n/2^(8*(k-1-j)))
theorem pI (k n:Nat):(be k n).length=k:=by simp [be]
theorem TI (k n:Nat):be (k+1) n=be k (n/256)++ [bt n]:=by
 unfold be
 rw [gI,bK]
 congr 1
 ·refine iU fun j hj=> ?_
  have hj:=jA.1 hj
  rw [Nat.div_div_eq_div_mul,show 8*(k+1-1-j)=8*(k-1-j)+8 by omega,Nat.pow_add,fQ]
 ·simp
def XR (b:By):Nat:=b.foldl (fun n c=>n*256+c.toNat) 0
theorem O4 (b:By)(c:UInt8):XR (b++ [c])=XR b*256+c.toNat:=by simp [XR]
theorem Bh (n:Nat):(bt n).toNat=n%256:=aaA
theorem O5 : ∀(k n:Nat),n<256^k->XR (be k n)=n:=by
 intro k
 induction k with
 | zero=>
  intro n h
  have:n=0:=aaU
  subst this;rfl
 | succ k ih=>
  intro n h
  rw [iY]at h
  rw [TI,O4,ih _ aad,Bh]
  omega
def hd (g f i n:Nat):By:=be 4 g++be 2 f++ [bt i,bt n]
theorem uS (g f i n:Nat):(hd g f i n).length=8:=by simp [hd,pI]
def hw (g f i n:Nat)(d:By):Nat:=(hsh 101 [hd g f i n,d]).toNat
def sec (g f i n:Nat)(d:By):By:=hd g f i n++be 8 (hw g f i n d)++d
theorem zI (g f i n:Nat)(d:By):(sec g f i n d).length=16+d.length:=by
 unfold sec;rw [aG,aG,uS,pI]
theorem GV (g f i n:Nat)(d:By):(sec g f i n d).drop 16=d:=by
 unfold sec;rw [iw (by rw [aG,uS,pI])]
theorem O6 (g f i n:Nat)(d:By):(sec g f i n d).take 8=hd g f i n:=by
 unfold sec;rw [bg,iT (uS _ _ _ _)]
def hG (s:By):Nat:=XR (s.take 4)
def hF (s:By):Nat:=XR ((s.drop 4).take 2)
def hI (s:By):Nat:=(s.getD 6 0).toNat
def hN (s:By):Nat:=(s.getD 7 0).toNat
theorem O7 {g f i n:Nat}(d:By)(h:g<4294967296):hG (sec g f i n d)=g:=by
 have e:(sec g f i n d).take 4=be 4 g:=by
  have:=congrArg (List.take 4) (O6 g f i n d)
  rw [jC,show min 4 8=4 from rfl]at this
  rw [this];unfold hd;rw [bg,iT (pI _ _)]
 unfold hG;rw [e];exact O5 4 g h
theorem O8 {g f i n:Nat}(d:By)(h:f<65536):hF (sec g f i n d)=f:=by
 have e:((sec g f i n d).drop 4).take 2=be 2 f:=by
  unfold sec hd
  rw [bg,bg,bg,iw (pI _ _),iT (pI _ _)]
 unfold hF;rw [e];exact O5 2 f h
theorem O9 (g f i n:Nat)(d:By):(sec g f i n d)[6]? = some (bt i)∧(sec g f i n d)[7]? = some (bt n):=by
 have e : ∀k,k<2->(sec g f i n d)[6+k]? = [bt i,bt n][k]? :=fun k hk=>by
  unfold sec hd
  have hl:(be 4 g++be 2 f).length=6:=by rw [aG,pI,pI]
  rw [bg (be 4 g++be 2 f),bg (be 4 g++be 2 f),bY aad,hl,Nat.add_sub_cancel_left,bg,cO (by simpa using hk)]
 exact⟨e 0 aah,e 1 aah⟩
theorem Pe {g f i n:Nat}(d:By)(h:i<256):hI (sec g f i n d)=i:=by
 unfold hI
 rw [aV,(O9 g f i n d).1,jm,Bh];omega
theorem Pg {g f i n:Nat}(d:By)(h:n<256):hN (sec g f i n d)=n:=by
 unfold hN
 rw [aV,(O9 g f i n d).2,jm,Bh];omega
def rOk (s:By):Bool:=decide (s.length=64)&&(decide (0<hG s)&&(decide (hI s<hN s)&&decide (s=sec (hG s) (hF s) (hI s) (hN s) (s.drop 16))))
def dat (b:By):By:=num (b.length:Int)++b
def nS (b:By):Nat:=((dat b).length+47)/48
def pad (b:By):By:=dat b++List.replicate (nS b*48 -(dat b).length) 0
def prt (b:By)(i:Nat):By:=((pad b).drop (i*48)).take 48
def yJ (g f:Nat)(b:By)(i:Nat):List By:=(List.range i).map fun j=>sec g f j (nS b) (prt b j)
def secs (g f:Nat)(b:By):List By:=yJ g f b (nS b)
def Bj (g f:Int)(b:By):Int:=if g<1∨4294967295<g∨f<0∨65535<f then 3 else if 255<nS b then 4 else 0
def zh (g f:Int)(b:By):List By:=if Bj g f b=0 then secs g.toNat f.toNat b else []
theorem TJ (b:By):0<(dat b).length:=by
 unfold dat;rw [aG];have:=(zG (b.length:Int)).1;omega
theorem Jf (b:By):0<nS b:=by unfold nS;have:=TJ b;omega
theorem zJ (b:By):(pad b).length=nS b*48:=by
 unfold pad nS;rw [aG,bF];omega
theorem zK {b:By}{i:Nat}(h:i<nS b):(prt b i).length=48:=by
 unfold prt;rw [aU,bD,zJ];omega
theorem xJ (g f:Nat)(b:By)(i:Nat):(yJ g f b i).length=i:=by simp [yJ]
theorem Dt (g f:Nat)(b:By)(i:Nat):yJ g f b (i+1)=yJ g f b i++ [sec g f i (nS b) (prt b i)]:=by simp [yJ,gI]
theorem Ph {g f:Nat}{b:By}{i j:Nat}(h:j<i):(yJ g f b i)[j]? = some (sec g f j (nS b) (prt b j)):=by
 simp [yJ,h]
theorem uo (g f:Nat)(b:By):(secs g f b).length=nS b:=xJ _ _ _ _
theorem GY {g f:Nat}{b s:By}(h:s∈secs g f b):s.length=64:=by
 simp only [secs,yJ,dH,jA]at h
 obtain⟨j,hj,rfl⟩:=h
 rw [zI,zK hj]
theorem Pj (b:By) : ∀i,i<=nS b->(List.range i).flatMap (prt b)=(pad b).take (i*48):=by
 intro i
 induction i with
 | zero=>intro _;simp
 | succ i ih=>
  intro h
  rw [gI,List.flatMap_append,ih aad,List.flatMap_singleton,aX,cu,List.take_add]
  rfl
theorem LU (g f:Nat)(b:By)(i:Nat):(yJ g f b i).flatMap (·.drop 16)=(List.range i).flatMap (prt b):=by
 unfold yJ
 rw [List.flatMap_map]
 simp only [GV]
theorem Du (g f:Nat)(b:By):(secs g f b).flatMap (·.drop 16)=pad b:=by
 unfold secs
 rw [LU,Pj b _ (ay _), <-zJ,fD]
def Xc (l:List By)(g f:Nat)(b:By):Prop:=Bj g f b=0∧l=secs g f b
theorem U8 {g f:Int}{b:By}(h:Bj g f b=0):1<=g∧g<=4294967295∧0<=f∧f<=65535∧nS b<=255:=by
 unfold Bj at h
 split at h
 ·simp at h
 ·split at h
  ·simp at h
  ·omega
theorem TK {g f i n:Nat}{d:By}(hg:0<g)(hg2:g<4294967296)(hf:f<65536)(hi:i<n)(hn:n<256)(hd:d.length=48):rOk (sec g f i n d)=true:=by
 unfold rOk
 rw [O7 d hg2,O8 d hf,Pe d aad,Pg d hn,GV,zI,hd]
 simp [hg,hi]
theorem Xc.at {l:List By}{g f:Nat}{b:By}(h:Xc l g f b){i:Nat}(hi:i<l.length):l[i]=sec g f i (nS b) (prt b i)∧rOk l[i]=true∧hG l[i]=g∧hF l[i]=f∧hI l[i]=i∧hN l[i]=nS b:=by
 obtain⟨h0,rfl⟩:=h
 have hs:=U8 h0
 rw [uo]at hi
 have e:(secs g f b)[i]'(by rw [uo];exact hi)=sec g f i (nS b) (prt b i):=by
  have:=Ph (g:=g) (f:=f) (b:=b) hi
  rw [aB (by rw [xJ];exact hi)]at this
  injection this
 rw [e]
 exact⟨rfl,TK aad aad aad hi aad (zK hi),O7 _ aad,O8 _ aad,Pe _ aad,Pg _ aad⟩
theorem Xc.len {l:List By}{g f:Nat}{b:By}(h:Xc l g f b):l.length=nS b∧0<nS b∧nS b<=255:=by
 obtain⟨h0,rfl⟩:=h
 exact⟨uo _ _ _,Jf b,(U8 h0).2.2.2.2⟩
theorem TL {a b:By}{x y:By}(ha:I64 (a.length:Int))(hb:I64 (b.length:Int))(h:dat a++x=dat b++y):a=b:=by
 have h1:=EJ ha (a++x)
 have h2:=EJ hb (b++y)
 rw [<-bg]at h1 h2
 unfold dat at h
 rw [h,h2]at h1
 injection h1 with e1 e2
 have e1:b.length=a.length:=aad
 rw [e1,bg,bg]at h
 exact(List.append_inj (List.append_cancel_left h) e1.symm).1
theorem Xc.inj {l:List By}{g f g' f':Nat}{b b':By}(h:Xc l g f b)(h':Xc l g' f' b'):g=g'∧f=f'∧b=b':=by
 obtain⟨hl,hp,hq⟩:=h.len
 obtain⟨_,_,hq'⟩:=h'.len
 obtain⟨_,_,a1,a2,_⟩:=h.at (i:=0) aad
 obtain⟨_,_,b1,b2,_⟩:=h'.at (i:=0) aad
 refine⟨a1.symm.trans b1,a2.symm.trans b2, ?_⟩
 have e1:=Du g f b
 have e2:=Du g' f' b'
 rw [<-h.2]at e1
 rw [<-h'.2,e1]at e2
 have bl : ∀x:By,nS x<=255->I64 (x.length:Int):=fun x hx=>by
  unfold nS dat at hx;rw [aG]at hx;unfold I64;omega
 exact TL (bl b hq) (bl b' hq') e2
structure Ev where
 client:By
 seq:Int
 kind:Int
 time:Int
 id:By
 name:By
 other:By
 ver:Int
 arm:Int
 val:Int
abbrev sF (s:By):FV:= .v (.string ⟨s.toArray⟩)
abbrev iF (n:Int):FV:= .v (.int .i64 n)
def EY (e:Ev):List FV:= [sF e.client,iF e.seq,iF e.kind,iF e.time,sF e.id,sF e.name,sF e.other,iF e.ver,iF e.arm,iF e.val]
def evA (e:Ev):AV:= .agg ((EY e).map FV.up)
abbrev el (l:List Ev):AV:= .lst 10 (l.map EY)
structure Ev.ok (e:Ev):Prop where
 seq:I64 e.seq
 kind:I64 e.kind
 time:I64 e.time
 ver:I64 e.ver
 arm:I64 e.arm
 val:I64 e.val
 client:e.client.length<=140737488355328
 id:e.id.length<=140737488355328
 name:e.name.length<=140737488355328
 other:e.other.length<=140737488355328
end Go.Proofs.YtnandbihiceihaaGreatDoor.Cl
namespace Go.Proofs.YtnandbihiceihaaGreatDoor.Ax
open RowKit Vc Go.Proofs.Tryz
def Gh (n:Nat)(H:jI)(n':Nat)(H':jI):Prop:=
 ∀(G:Glob) (jL:World) (jO jQ:Nat->Prop) (σ:Nat->Loc) (F:Nat->Prop) (w:World),St G jL jO jQ n σ F H w->∃σ' F',St G jL jO jQ n' σ' F' H' w∧Ext n σ F w n' σ' F' w
theorem Gh.refl (n:Nat)(H:jI):Gh n H n H:=fun _ _ _ _ σ F w st=>⟨σ,F,st, .refl _ _ _ _⟩
theorem Gh.trans {n n' n'':Nat}{H H' oN:jI}(h:Gh n H n' H')(k:Gh n' H' n'' oN):Gh n H n'' oN:=fun G jL jO jQ σ F w st=>by
 obtain⟨σ1,F1,s1,x1⟩:=h G jL jO jQ σ F w st
 obtain⟨σ2,F2,s2,x2⟩:=k G jL jO jQ σ1 F1 w s1
 exact⟨σ2,F2,s2,x1.trans x2⟩
section
variable {G:Glob}{jL:World}{jO jQ:Nat->Prop}{n:Nat}{σ:Nat->Loc}{F:Nat->Prop}{H:jI}{w:World}
theorem St.JY (st:St G jL jO jQ n σ F H w){n':Nat}{σ':Nat->Loc}{F':Nat->Prop}{H':jI}(hn:n<=n')(hσ : ∀k,k<n->σ' k=σ k)(hF : ∀b,F b->F' b)
  (hF' : ∀b,F' b->F b∨∃e c,look H e=some c∧c.own=true∧oW w (σ e) c b) (hlab : ∀k b,look H' k=some b->k<n')
  (aaD : ∀k b g,look H' k=some b->b.own=true->oW w (σ' k) b g->¬F' g∧∃e c,look H e=some c∧c.own=true∧oW w (σ e) c g)
  (hinj : ∀k k' b b' g,look H' k=some b->look H' k'=some b'->b.own=true->b'.own=true->oW w (σ' k) b g->oW w (σ' k') b' g->k=k')
  (hblk:Ext n σ F w n' σ' F' w->∀k b,look H' k=some b->qW n' σ' F' w (σ' k) b):St G jL jO jQ n' σ' F' H' w∧Ext n σ F w n' σ' F' w:=by
 have hE:Ext n σ F w n' σ' F' w:=⟨hn,hσ,fun b hb=>⟨hF b hb,rfl⟩,ay _⟩
 refine⟨⟨st.glob,st.nN,fun b hb=> ?_,hlab,fun k b g h1 h2 h3=> ?_,hinj,hblk hE⟩,hE⟩
 ·rcases hF' b hb with h|⟨e,c,h1,h2,h3⟩
  ·exact st.lI b h
  ·obtain⟨_,_,m3,m4⟩:=st.mu e c b h1 h2 h3
   exact⟨m3,m4.elim (fun h=> .inr (.inr h)) fun h=> .inr (.inl h)⟩
 ·obtain⟨nf,e,c,h4,h5,h6⟩:=aaD k b g h1 h2 h3
  obtain⟨_,m2,m3,m4⟩:=st.mu e c g h4 h5 h6
  exact⟨nf,m2,m3,m4⟩
theorem St.Pm (st:St G jL jO jQ n σ F H w){F':Nat->Prop}{jT:Nat}{blk blk':mD}(hk:look H jT=some blk)(hm:blk.own=true)(hF : ∀b,F b->F' b)(hF' : ∀b,F' b->F b∨(oW w (σ jT) blk b∧∀g,oW w (σ jT) blk' g->g≠b))
  (ho : ∀g,oW w (σ jT) blk' g->oW w (σ jT) blk g) (hB:Ext n σ F w n σ F' w->qW n σ F' w (σ jT) blk'):St G jL jO jQ n σ F' (setH H jT blk') w∧Ext n σ F w n σ F' w:=by
 refine st.JY (ay _) (fun _ _=>rfl) hF (fun b hb=>(hF' b hb).imp id fun h=>⟨jT,blk,hk,hm,h.1⟩) (fun k b h=> ?_) (fun k b g h h1 h2=> ?_) (fun k k' b b' g h h' m m' g1 g2=> ?_) fun hE k b h=> ?_
 ·rw [lg hk]at h
  split at h
  ·rename_i e;subst e;exact st.lab _ _ hk
  ·exact st.lab k b h
 ·rw [lg hk]at h
  split at h
  ·rename_i e
   subst e
   injection h with h
   subst h
   refine⟨fun hf=> ?_,_,_,hk,hm,ho g h2⟩
   rcases hF' g hf with hf|hf
   ·exact(st.mu _ _ g hk hm (ho g h2)).1 hf
   ·exact hf.2 g h2 rfl
  ·rename_i e
   refine⟨fun hf=> ?_,k,b,h,h1,h2⟩
   rcases hF' g hf with hf|hf
   ·exact(st.mu _ _ g h h1 h2).1 hf
   ·exact e (st.inj k jT b blk g h hk h1 hm h2 hf.1)
 ·have key : ∀k b,look (setH H jT blk') k=some b->b.own=true->oW w (σ k) b g->∃c,look H k=some c∧c.own=true∧oW w (σ k) c g:=by
   intro k b h0 m g1
   rw [lg hk]at h0
   split at h0
   ·rename_i e;subst e;injection h0 with h0;subst h0;exact⟨_,hk,hm,ho g g1⟩
   ·exact⟨_,h0,m,g1⟩
  obtain⟨c,a1,a2,a3⟩:=key k b h m g1
  obtain⟨c',b1,b2,b3⟩:=key k' b' h' m' g2
  exact st.inj k k' c c' g a1 b1 a2 b2 a3 b3
 ·rw [lg hk]at h
  split at h
  ·rename_i e;subst e;injection h with h;subst h;exact hB hE
  ·exact(st.blk k b h).mono hE fun _ _ _=>rfl
def Jg (T s:Nat):FV->TV
 | .v (.slice none 0 0)=> .n T s []
 | x=> .f x
def TV.fz:TV->FV
 | .f x=>x
 | .n _ s l=> .lst s l
theorem Bl (T s:Nat)(x:FV):(x = .v (.slice none 0 0)∧Jg T s x = .n T s [])∨Jg T s x = .f x:=by
 unfold Jg
 split
 ·exact .inl ⟨rfl,rfl⟩
 ·exact .inr rfl
theorem rU {α β:Type}{f:α->β}{l:List (List α)}{i j:Nat}{row:List β}{b:β}(h:(l.map fun r=>r.map f)[i]? = some row)(k:row[j]? = some b) : ∃r a,l[i]? = some r∧r[j]? = some a∧f a=b:=by
 rw [aI]at h
 cases hr:l[i]? with
 | none=>rw [hr]at h;cases h
 | some r=>
  rw [hr]at h
  injection h with h
  subst h
  rw [aI]at k
  cases ha:r[j]? with
  | none=>rw [ha]at k;cases k
  | some a=>rw [ha]at k;injection k with k;exact⟨r,a,rfl,ha,k⟩
theorem GZ {α β:Type}{f:α->β}{l:List (List α)}{sz:Nat}(h : ∀row∈l,row.length=sz) : ∀row∈l.map fun r=>r.map f,row.length=sz:=fun row hr=>by
 obtain⟨r,h1,rfl⟩:=dH.1 hr
 rw [au];exact h r h1
theorem Gh.tree {jT t sz:Nat}{l:List (List FV)}(T s:Nat)(hk:look H jT=some (.rows t sz l)):Gh n H n (setH H jT (.tree t sz (l.map fun r=>r.map (Jg T s)) none)):=by
 intro G jL jO jQ σ F w st
 obtain⟨h1,h2,xs,hO,hR⟩:=st.blk _ _ hk
 have noN : ∀i j g, ¬Fz w (σ jT) sz (l.map fun r=>r.map (Jg T s)) i j g:=by
  rintro i j g ⟨b,row,t',s',r,m,c,n1,n2,n3,n4,n5⟩
  obtain⟨r0,a,e1,e2,e3⟩:=rU n2 n3
  rcases Bl T s a with ⟨rfl,_⟩|e
  ·have hrl:=hR.1 r0 (aO e1)
   have hil:=(aF.1 e1).1
   have hjl:=(aF.1 e2).1
   have hlt:i*sz+j<xs.length:=by
    have:(i+1)*sz<=l.length*sz:=aP _ hil
    rw [aX,cu]at this
    rw [hR.2.1];omega
   have hx:=aB hlt
   obtain⟨b',hb',hc⟩:=rY hO e1 hrl e2 hR.2.1 hx
   rw [n1]at hb'
   injection hb' with hb'
   subst hb'
   have hf:=hR.2.2.2 i j r0 _ _ e1 e2 hx
   rw [hc]at n4
   injection n4 with n4
   rw [n4]at hf
   cases hf
  ·rw [e]at e3;cases e3
 have ho : ∀g,oW w (σ jT) (.tree t sz (l.map fun r=>r.map (Jg T s)) none) g->(σ jT).b=some g:=fun g h=>h.elim id fun⟨i,j,h⟩=>(noN i j g h).elim
 obtain⟨s1,x1⟩:=st.Pm (F':=F) (blk':= .tree t sz (l.map fun r=>r.map (Jg T s)) none) hk rfl (fun _ h=>h) (fun _ h=> .inl h) (fun g h=> .inl (ho g h)) fun hE=>by
  refine⟨h1,by rw [au];exact h2,xs,by rw [au];exact hO,⟨GZ hR.1,by rw [au];exact hR.2.1,hR.2.2.1,fun i j row a v hi hj hv=> ?_⟩,⟨fun i j i' j' g h=>(noN i j g h).elim,fun i j g h=>(noN i j g h).elim⟩,fun _ _ _ h=>by cases h⟩
  obtain⟨r0,a0,e1,e2,rfl⟩:=rU hi hj
  have hf:=hR.2.2.2 i j r0 a0 v e1 e2 hv
  rcases Bl T s a0 with ⟨rfl,e⟩|e
  ·rw [e]
   cases hf
   exact⟨none,0,rfl, .inl ⟨rfl,rfl⟩⟩
  ·rw [e];exact hf
 exact⟨σ,F,s1,x1⟩
theorem Io {jT t sz:Nat}{l:List (List TV)}{c i j t' s':Nat}{r:List (List FV)}{row:List TV}{xs:List Value}{g m cc:Nat}(hO:Vc.Own w 0 t sz (σ jT).oa l.length c xs)(hT:KW F w sz l xs)(hi:l[i]? = some row)(hj:row[j]? = some (.n t' s' r))(hv:xs[i*sz+j]? = some (.slice (some ⟨g,0,none⟩) m cc))(hc:0<cc) :
  Fz w (σ jT) sz l i j g:=by
 obtain⟨b,hb,hcell⟩:=rY hO hi (hT.1 row (aO hi)) hj hT.2.1 hv
 exact⟨b,row,t',s',r,m,cc,hb,hi,hj,hcell,hc⟩
theorem Pn {t sz c:Nat}{oa:Option Addr}{m:Nat}{ys:List Value}(hO:Vc.Own w 0 t sz oa m c ys)(hc:0<c) : ∃g,oa=some ⟨g,0,none⟩:=by
 rcases hO.2 with ⟨hv,_⟩|⟨g',cap,cur,hv,_⟩
 ·injection hv with _ _ e;omega
 ·injection hv with e _ _;exact⟨g',e⟩
theorem Gh.freeze {jT t sz:Nat}{l:List (List TV)}(hk:look H jT=some (.tree t sz l none)):Gh n H n (setH H jT (.rows t sz (l.map fun r=>r.map TV.fz))):=by
 intro G jL jO jQ σ F w st
 obtain⟨h1,h2,xs,hO,hT,hS,_⟩:=st.blk _ _ hk
 obtain⟨s1,x1⟩:=st.Pm (F':=fun b=>F b∨Nst w (σ jT) (.tree t sz l none) b) (blk':= .rows t sz (l.map fun r=>r.map TV.fz)) hk rfl (fun _ h=> .inl h)
  (fun b h=>h.imp id fun h=>⟨.inr h,fun g hg e=>by
   subst e
   obtain⟨i,j,h⟩:=h
   exact hS.2 i j g h (hg.flat rfl)⟩) (fun g h=> .inl (h.flat rfl)) fun hE=>by
  refine⟨h1,by rw [au];exact h2,xs,by rw [au];exact hO,GZ hT.1,by rw [au];exact hT.2.1,hT.2.2.1,fun i j row a v hi hj hv=> ?_⟩
  obtain⟨r0,a0,e1,e2,rfl⟩:=rU hi hj
  have hf:=hT.2.2.2 i j r0 a0 v e1 e2 hv
  cases a0 with
  | f x=>exact lN.mono hE.f hf
  | n t' s' r=>
   obtain⟨oa,c,rfl,hf⟩:=hf
   rcases hf with ⟨rfl,rfl⟩|⟨ys,hc,ZO,hR'⟩
   ·exact uM s' oa
   ·refine FQ ZO hR' (fun b hb=> .inl hb) fun g hg=> .inr ⟨i,j, ?_⟩
    subst hg
    exact Io hO hT e1 e2 hv hc
 exact⟨σ,_,s1,x1⟩
theorem G5 {α:Type}{l:List (List α)}{i j i2 j2:Nat}{row rC:List α}{x y:α}(hi:l[i]? = some row)(hj:j<row.length)(h:(l.set i (row.set j x))[i2]? = some rC)(k:rC[j2]? = some y) :
  (i2=i∧j2=j∧y=x)∨(¬(i2=i∧j2=j)∧∃r,l[i2]? = some r∧r[j2]? = some y):=by
 have hil:=(aF.1 hi).1
 by_cases e:i2=i
 ·subst e
  rw [bV hil]at h
  injection h with h
  subst h
  by_cases e2:j2=j
  ·subst e2
   rw [bV hj]at k
   injection k with k
   exact .inl ⟨rfl,rfl,k.symm⟩
  ·rw [fV (fun h=>e2 h.symm)]at k
   exact .inr ⟨fun h=>e2 h.2,row,hi,k⟩
 ·rw [fV (fun h=>e h.symm)]at h
  exact .inr ⟨fun h=>e h.1,rC,h,k⟩
theorem Po {α:Type}{l:List (List α)}{i j sz:Nat}{row:List α}{x:α}(hi:l[i]? = some row)(h : ∀r∈l,r.length=sz) : ∀r∈l.set i (row.set j x),r.length=sz:=fun r hr=>by
 rcases eY hr with hr|rfl
 ·exact h r hr
 ·rw [bC];exact h row (aO hi)
theorem Gh.unfold {jT t sz i j T s:Nat}{l:List (List TV)}{row:List TV}{r:List (List FV)}(hk:look H jT=some (.tree t sz l none))(hi:l[i]? = some row)(hj:row[j]? = some (.n T s r)) :
  Gh n H (n+1) ((n, .rows T s r)::setH H jT (.tree t sz (l.set i (row.set j (.f .top))) (some (i,j,n)))):=by
 intro G jL jO jQ σ F w st
 obtain⟨h1,h2,xs,hO,hT,hS,_⟩:=st.blk _ _ hk
 have hrl:=hT.1 row (aO hi)
 have hil:=(aF.1 hi).1
 have hjl:=(aF.1 hj).1
 have hlt:i*sz+j<xs.length:=by
  have:(i+1)*sz<=l.length*sz:=aP _ hil
  rw [aX,cu]at this
  rw [hT.2.1];omega
 have hx:=aB hlt
 obtain⟨oa,c,ev,hf⟩:=hT.2.2.2 i j row _ _ hi hj hx
 have hell:=st.lab _ _ hk
 have hloc : ∃L:Loc,L.n=r.length∧L.sz=s∧(∀σ',qW (n+1) σ' F w L (.rows T s r))∧(∀g,L.b=some g->Fz w (σ jT) sz l i j g)∧
   ∀σ',σ' n=L->jX (n+1) σ' F w (.own n) xs[i*sz+j]:=by
  rcases hf with ⟨rfl,rfl⟩|⟨ys,hc,ZO,hR'⟩
  ·refine⟨⟨none,0,0,s⟩,rfl,rfl,fun σ'=>⟨rfl,rfl,[],Vc.Own.nil _ _ _ _,mY.nil s⟩,(fun g h=>by cases h),fun σ' hσ=> ?_⟩
   rw [ev]
   exact .oP n oa aad (by rw [hσ]) (by rw [hσ])
  ·obtain⟨g,rfl⟩:=Pn ZO hc
   refine⟨⟨some g,r.length,c,s⟩,rfl,rfl,fun σ'=>⟨rfl,rfl,ys,ZO,hR'⟩,(fun g' h=> ?_),fun σ' hσ=> ?_⟩
   ·injection h with h
    subst h
    rw [ev]at hx
    exact Io hO hT hi hj hx hc
   ·rw [ev]
    have:=jX.own (n:=n+1) (σ:=σ') (F:=F) (w:=w) n aad
    rw [hσ]at this
    exact this
 obtain⟨L,_,_,hB,hN,hA⟩:=hloc
 have nat : ∀i2 j2 g,Fz w (σ jT) sz (l.set i (row.set j (.f .top))) i2 j2 g->Fz w (σ jT) sz l i2 j2 g∧¬(i2=i∧j2=j):=by
  rintro i2 j2 g ⟨b,rC,t',s',r2,m,c,n1,n2,n3,n4,n5⟩
  rcases G5 hi hjl n2 n3 with ⟨_,_,e⟩|⟨hne,r3,e1,e2⟩
  ·cases e
  ·exact⟨⟨b,r3,t',s',r2,m,c,n1,e1,e2,n4,n5⟩,hne⟩
 have TM : ∀g,oW w (σ jT) (.tree t sz (l.set i (row.set j (.f .top))) (some (i,j,n))) g->oW w (σ jT) (.tree t sz l none) g∧¬Fz w (σ jT) sz l i j g:=by
  rintro g (h|⟨i2,j2,h⟩)
  ·exact⟨.inl h,fun hn=>hS.2 i j g hn h⟩
  ·obtain⟨h0,hne⟩:=nat i2 j2 g h
   exact⟨.inr ⟨i2,j2,h0⟩,fun hn=>hne (hS.1 _ _ _ _ g h0 hn)⟩
 have hlook : ∀ {k b},look ((n, .rows T s r)::setH H jT (.tree t sz (l.set i (row.set j (.f .top))) (some (i,j,n)))) k=some b->
   (k=n∧b = .rows T s r)∨(k≠n∧k=jT∧b = .tree t sz (l.set i (row.set j (.f .top))) (some (i,j,n)))∨(k≠n∧k≠jT∧look H k=some b):=by
  intro k b h
  rw [jY]at h
  split at h
  ·rename_i e;injection h with h;exact .inl ⟨e.symm,h.symm⟩
  ·rename_i e
   rw [lg hk]at h
   split at h
   ·rename_i e2;injection h with h;exact .inr (.inl ⟨fun h=>e h.symm,e2,h.symm⟩)
   ·rename_i e2;exact .inr (.inr ⟨fun h=>e h.symm,e2,h⟩)
 obtain⟨s1,x1⟩:=st.JY (n':=n+1) (σ':=sS σ n L) (F':=F) (H':=(n, .rows T s r)::setH H jT (.tree t sz (l.set i (row.set j (.f .top))) (some (i,j,n)))) aad (fun k hk=>lC aad) (fun _ h=>h) (fun _ h=> .inl h)
  (fun k b h=>by
   rcases hlook h with ⟨e,_⟩|⟨_,e,_⟩|⟨_,_,h⟩
   ·omega
   ·omega
   ·have:=st.lab k b h;omega)
  (fun k b g h m ho=>by
   rcases hlook h with ⟨e,rfl⟩|⟨e0,e,rfl⟩|⟨e0,e,h⟩
   ·subst e
    rw [kH]at ho
    have h3:=hN g (ho.flat rfl)
    have h4:oW w (σ jT) (.tree t sz l none) g:= .inr ⟨i,j,h3⟩
    exact⟨(st.mu _ _ g hk rfl h4).1,_,_,hk,rfl,h4⟩
   ·subst e
    rw [lC e0]at ho
    have h4:=(TM g ho).1
    exact⟨(st.mu _ _ g hk rfl h4).1,_,_,hk,rfl,h4⟩
   ·rw [lC e0]at ho
    exact⟨(st.mu _ _ g h m ho).1,_,_,h,m,ho⟩)
  (fun k k' b b' g h h' m m' ho ho'=>by
   have cross : ∀ {k b},look ((n, .rows T s r)::setH H jT (.tree t sz (l.set i (row.set j (.f .top))) (some (i,j,n)))) k=some b->b.own=true->oW w (sS σ n L k) b g->L.b=some g->k=n:=by
    intro k b h m ho hL
    have h3:=hN g hL
    rcases hlook h with ⟨e,_⟩|⟨e0,e,rfl⟩|⟨e0,e,h⟩
    ·exact e
    ·subst e
     rw [lC e0]at ho
     exact((TM g ho).2 h3).elim
    ·rw [lC e0]at ho
     exact(e (st.inj k jT b _ g h hk m rfl ho (.inr ⟨i,j,h3⟩))).elim
   rcases hlook h with ⟨e,rfl⟩|⟨e0,e,rfl⟩|⟨e0,e,h0⟩
   ·subst e
    rw [kH]at ho
    exact(cross h' m' ho' (ho.flat rfl)).symm
   ·rcases hlook h' with ⟨e',rfl⟩|⟨e0',e',rfl⟩|⟨e0',e',h0'⟩
    ·subst e'
     rw [kH]at ho'
     exact cross h m ho (ho'.flat rfl)
    ·rw [e,e']
    ·subst e
     rw [lC e0]at ho
     rw [lC e0']at ho'
     exact st.inj _ _ _ _ g hk h0' rfl m' (TM g ho).1 ho'
   ·rcases hlook h' with ⟨e',rfl⟩|⟨e0',e',rfl⟩|⟨e0',e',h0'⟩
    ·subst e'
     rw [kH]at ho'
     exact cross h m ho (ho'.flat rfl)
    ·subst e'
     rw [lC e0]at ho
     rw [lC e0']at ho'
     exact st.inj _ _ _ _ g h0 hk m rfl ho (TM g ho').1
    ·rw [lC e0]at ho
     rw [lC e0']at ho'
     exact st.inj _ _ _ _ g h0 h0' m m' ho ho')
  (fun hE k b h=>by
   rcases hlook h with ⟨e,rfl⟩|⟨e0,e,rfl⟩|⟨e0,e,h⟩
   ·subst e;rw [kH];exact hB _
   ·subst e
    rw [lC e0]
    refine⟨h1,by rw [bC];exact h2,xs,by rw [bC];exact hO,⟨Po hi hT.1,by rw [bC];exact hT.2.1,hT.2.2.1,fun i2 j2 rC a v n1 n2 n3=> ?_⟩,⟨fun a b c d g x y=>hS.1 a b c d g (nat _ _ _ x).1 (nat _ _ _ y).1,fun a b g x=>hS.2 a b g (nat _ _ _ x).1⟩,fun i2 j2 e2 he=> ?_⟩
    ·rcases G5 hi hjl n1 n2 with ⟨_,_,e⟩|⟨_,r3,e1,e2⟩
     ·subst e;exact lN.top v
     ·exact hT.2.2.2 i2 j2 r3 a v e1 e2 n3
    ·injection he with he
     injection he with Yg he
     injection he with VH Yh
     subst Yg;subst VH;subst Yh
     exact⟨by omega,by rw [bC];exact hil,by omega,⟨_,bV hil,bV hjl⟩,_,hx,hA _ (kH _ _ _)⟩
   ·rw [lC e0]
    exact(st.blk k b h).mono hE fun _ _ _=>rfl)
 exact⟨_,F,s1,x1⟩
end
end Go.Proofs.YtnandbihiceihaaGreatDoor.Ax
namespace Go.Proofs.YtnandbihiceihaaGreatDoor.Cl
open RowKit Vc Ax Go.Proofs.Tryz
attribute [local irreducible] loadVar storeVar Instr.indexAt Instr.index Instr.sliceAt Instr.makeSlice Instr.lookup Instr.mapUpdate Instr.range Instr.next Instr.entry Instr.makeMap Builtin.append_ Builtin.copy_ Builtin.len_ Builtin.min_ Builtin.max_ Builtin.cap_ Builtin.delete_ Builtin.clear_ convert binOp eqGuard Op.unary Calls
theorem xE {α:Type}{sz:Nat}{enc:α->List FV}{c:α->List Value}(he : ∀x,enc x=(c x).map .v)(hk : ∀a,(c a).length=sz)(h1 : ∀a, ∀v∈c a,v.oneCell'=true)(F:Nat->Prop)(w:World)(l:List α):mY F w sz (l.map enc) (recs c l):=by
 refine⟨fun row hr=> ?_, ?_,fun v hv=> ?_,fun i j row a v hi hj hv=> ?_⟩
 ·obtain⟨x,_,rfl⟩:=dH.1 hr
  rw [he,au,hk]
 ·rw [Na hk,au]
 ·obtain⟨x,_,hx⟩:=List.mem_flatMap.1 hv
  exact h1 x v hx
 ·rw [aI]at hi
  cases hx:l[i]? with
  | none=>rw [hx]at hi;cases hi
  | some x=>
   rw [hx]at hi
   injection hi with hi
   subst hi
   rw [he,aI]at hj
   cases hy:(c x)[j]? with
   | none=>rw [hy]at hj;cases hj
   | some y=>
    rw [hy]at hj
    injection hj with hj
    subst hj
    rw [WJ hk hx hy]at hv
    injection hv with hv
    subst hv
    exact .v _
theorem uq {P:Program}{G:Glob}{f:FuncId}{args:List AV}{α:Type}{sz E:Nat}{enc:α->List FV}{c:α->List Value}(he : ∀x,enc x=(c x).map .v)(hk : ∀a,(c a).length=sz)(h1 : ∀a, ∀v∈c a,v.oneCell'=true){l:List α}
  (h : ∀(w:World) (F:Nat->Prop) (σ:Nat->Ax.Loc) (vs:List Value),(∀b,F b->b<w.heap.size)->kD 0 σ F w args vs->uD P f vs.toArray w fun v w'=> ∃oa cp,v = .slice oa l.length cp∧Vc.Own w' w.heap.size E sz oa l.length cp (recs c l)∧Below w.heap.size w w') :
  kQ P G f args 0 [] (wo E sz (l.map enc)):=by
 intro w σ F vs st r
 refine(h w F σ vs (fun b hb=>(st.lI b hb).1) r).mono fun v w' ⟨oa,cp,e,hO,hB⟩=> ?_
 subst e
 have hO0:Vc.Own w' 0 E sz oa l.length cp (recs c l):=⟨hO.1,hO.2.imp id fun⟨g,cap,cur,h1,_,h2⟩=>⟨g,cap,cur,h1,aK _,h2⟩⟩
 have hR:=xE he hk h1 F w' l
 obtain⟨s2,x2⟩:=st.new (w':=w') (uH.nY hB) ⟨oa.map (·.block),l.length,cp,sz⟩ (fun g hg=>by
   cases oa with
   | none=>cases hg
   | some a=>exact hO.ge g hg) (.rows E sz (l.map enc)) (uO hO0 (by rw [au]) hR)
 exact⟨_,1,_,F,_,⟨rfl,rfl,rfl⟩,s2,x2,yx hO0⟩
theorem Bo (b:By):recs (fun a:UInt8=> [Value.int .u8 (a.toNat:Int)]) b=kV b:=OI _ b
theorem Pq (x:Nat):Dg.qo x 8=be 8 x:=by
 have e : ∀k,Dg.sW x k=bt (x/2^(8*k)):=fun k=>by
  unfold Dg.sW
  apply UInt8.toNat_inj.1
  simp
 simp only [Dg.qo,e]
 rfl
theorem G6 (G:Glob)(b:By)(x:Nat)(hl:b.length<=1000000)(hx:x<18446744073709551616):kQ Tryz.prog G 125 [bs b,uv x] 0 [] (wo 5 1 ((b++be 8 x).map pR)):=by
 refine uq (E:=5) (c:=fun a:UInt8=> [Value.int .u8 (a.toNat:Int)]) (fun _=>rfl) (fun _=>rfl) (fun _ v hv=>by simp at hv;subst hv;rfl) fun w F σ vs hF r=> ?_
 match vs,r with
 | [u,y],⟨ru,ry,_⟩=>
  rw [ry.kR]
  cases ru with
  | lst hu=>
   obtain⟨oa,c,rfl,hc,hn,hr⟩:=yI hu hF
   refine(I9 oa b.length c b x w rfl hl hc hn hx hr).mono fun v w' ⟨lV,c',e,hO,hB⟩=> ?_
   rw [Pq]at hO
   refine⟨lV,c', ?_, ?_,hB⟩
   ·rw [e,aG,pI]
   ·rw [Bo,aG,pI];exact hO
end Go.Proofs.YtnandbihiceihaaGreatDoor.Cl
namespace Go.Proofs.YtnandbihiceihaaGreatDoor.Ax
open RowKit Vc Go.Proofs.Tryz
structure Pv (p:Prop):Prop where
 go:p
theorem Px (p:Prop):Pv p=p:=propext ⟨fun h=>h.go,fun h=>⟨h⟩⟩
def pre:List Nat->Plan->Plan
 | [],p=>p
 | i::r,p=> .take i (pre r p)
section
variable {P:Program}{G:Glob}{all:List Oper}{D:List Nat}{p:Plan}{n:Nat}{H:jI}{K:jM->Nat->jI->Prop}
theorem Dv : ∀(ts:List Nat) (ρ:jM),aD P G all D (pre ts p) ρ n H K=Qn P G all (pU D H) H ts ρ (fun ρ'=>aD P G all D p ρ' n H K)
 | [],ρ=>rfl
 | i::ts,ρ=>by
  simp only [pre,aD,Qn]
  cases all[i]? with
  | none=>rfl
  | some o=>simp only [Dv ts]
theorem Xd {ρ:jM}(ts:List Nat)(h:Qn P G all (pU D H) H ts ρ (fun ρ'=>Pv (aD P G all D p ρ' n H K))):aD P G all D (pre ts p) ρ n H K:=by
 rw [Dv]
 have e:(fun ρ'=>Pv (aD P G all D p ρ' n H K))=fun ρ'=>aD P G all D p ρ' n H K:=funext fun ρ'=>Px _
 rw [e]at h
 exact h
theorem LV (ρ:jM)(s:Nat):qc ρ s (ρ s)=ρ:=by
 funext k
 unfold qc
 cases h:Nat.beq k s with
 | true=>rw [aj h];simp
 | false=>simp
theorem TN {ρ:jM}(s:Nat){t:Bool}(hr:ρ s = .v (.bool t))(h1:t=true->aD P G all D p (qc ρ s (.v (.bool true))) n H K)(h2:t=false->aD P G all D p (qc ρ s (.v (.bool false))) n H K):aD P G all D p ρ n H K:=by
 have e:=LV ρ s
 rw [hr]at e
 cases t with
 | true=>have:=h1 rfl;rw [e]at this;exact this
 | false=>have:=h2 rfl;rw [e]at this;exact this
end
end Go.Proofs.YtnandbihiceihaaGreatDoor.Ax
namespace Go.Proofs.YtnandbihiceihaaGreatDoor.Cl
open RowKit Vc Ax Go.Proofs.Tryz
attribute [local irreducible] loadVar storeVar Instr.indexAt Instr.index Instr.sliceAt Instr.makeSlice Instr.lookup Instr.mapUpdate Instr.range Instr.next Instr.entry Instr.makeMap Builtin.append_ Builtin.copy_ Builtin.len_ Builtin.min_ Builtin.max_ Builtin.cap_ Builtin.delete_ Builtin.clear_ convert binOp eqGuard Op.unary Calls
theorem YW:(2:Int)^min (Int.toNat 1) IntKind.u64.bits=2:=aah
theorem aaF (b more:By)(hb:b.length+more.length<=4000000):kQ Tryz.prog GC 192 [bs b,bs more] 0 [] (wo 5 1 ((b++more).map pR)):=by
 refine jJ func192 rfl mixed aac ?_
 conv=>whnf
 (repeat' ((first|refine And.intro ?_ ?_|(apply jH<;>intro h<;>try simp only [bl]at h)|refine Rh ?_|fail)<;>conv=>whnf))
 refine pW.cap (nV:=1) 0 (b.length+more.length) rfl (by rw [au,au];omega) (aK _) aaQ ?_
 conv=>whnf
 (repeat' ((first|refine And.intro ?_ ?_|(apply jH<;>intro h<;>try simp only [bl]at h)|refine Rh ?_|fail)<;>conv=>whnf))
 rw [bK]
 exact sD (.own 0) 1 _ [(0, .lab 2)] [] ⟨rfl,rfl,rfl⟩ rfl aae aae
theorem YX:(2:Int)^min (Int.toNat 7) IntKind.u64.bits=128:=aah
theorem YZ:(2:Int)^min (Int.toNat 63) IntKind.u64.bits=9223372036854775808:=aah
def GI (f u:Nat)(out:By):Prop:=u<2*128^f∧f<=9∧out.length+f=9
theorem GI.next {f u:Nat}{out:By}(h:GI f u out)(hu:128<=u) : ∃g,f=g+1∧GI g (u/128) (out++ [UInt8.ofNat (128+u%128)])∧out++grp f u=(out++ [UInt8.ofNat (128+u%128)])++grp g (u/128):=by
 obtain⟨h1,h2,h3⟩:=h
 cases f with
 | zero=>simp at h1;omega
 | succ g=>
  refine⟨g,rfl,⟨?_,by omega,by simp;omega⟩, ?_⟩
  ·rw [wG]at h1;omega
  ·rw [show grp (g+1) u=UInt8.ofNat (128+u%128)::grp g (u/128) by unfold grp;rw [if_neg aad];cases g<;>rfl];simp
theorem G7 {f u:Nat}(h:u<128):grp f u = [UInt8.ofNat u]:=by cases f with
 | zero=>rfl
 | succ f=>unfold grp;rw [if_pos h]
theorem GI.start {n:Int}(hn:I64 n):GI 9 (zu n) []∧ []++grp 9 (zu n)=num n:=by
 have hz:=OM hn
 have e:(128:Nat)^9=9223372036854775808:=aah
 exact⟨⟨by rw [e];omega,ay _,rfl⟩,rfl⟩
structure GX where
 f:Nat
 u:Nat
 out:By
theorem xK (out:By)(c:UInt8):(out++ [c]).map pR=out.map pR++ [[FV.v (.int .u8 (c.toNat:Int))]]:=by rw [bK];rfl
theorem TP (n:Int)(hn:I64 n):kQ Tryz.prog GC 193 [iv n] 0 [] (wo 5 1 ((num n).map pR)):=by
 have hz:=OM hn
 have Y0:kJ .xor .u64 (IntKind.u64.wrap (IntKind.u64.wrap n*2^min (Int.toNat 1) IntKind.u64.bits)) (IntKind.u64.wrap (n.fdiv (2^min (Int.toNat 63) IntKind.u64.bits)))=(zu n:Int):=by
  rw [YW,YZ];exact TB n hn
 refine jJ func193 rfl mixed aac ?_
 refine kP.to rfl ?_
 conv=>whnf
 (repeat' ((first|refine And.intro ?_ ?_|(apply jH<;>intro h<;>try simp only [bl]at h)|refine Rh ?_|fail)<;>conv=>whnf))
 refine kP.to rfl ?_
 conv=>whnf
 (repeat' ((first|refine And.intro ?_ ?_|(apply jH<;>intro h<;>try simp only [bl]at h)|refine Rh ?_|fail)<;>conv=>whnf))
 refine kP.to rfl ?_
 refine qm RD 1 [3,4] (fun x:GX=> [(3,uv x.u),(4, .own 0)]) (fun x=> [(0, .rows 5 1 (x.out.map pR))]) (fun x=>GI x.f x.u x.out∧x.out++grp x.f x.u=num n) (fun x=>x.f) [(0, .nil)] [] ⟨9,zu n,[]⟩ aac (fun _=>rfl) rfl (GI.start hn) ⟨rfl,trivial⟩ ⟨congrArg (Value.int .u64) Y0,trivial,trivial⟩ ?_
 rintro⟨f,u,out⟩ ⟨hg,hout⟩
 have hlen:=hg.2.2
 apply jH<;>intro h
 ·have hu:128<=u:=aap
  obtain⟨g,rfl,hg2,ho2⟩:=hg.next hu
  refine kP.to rfl ?_
  conv=>whnf
  (repeat' ((first|refine And.intro ?_ ?_|(apply jH<;>intro h<;>try simp only [bl]at h)|refine Rh ?_|fail)<;>conv=>whnf))
  refine oI ⟨g,u/128,out++ [UInt8.ofNat (128+u%128)]⟩ [(0, .lab 2)] [] rfl (gu g) ⟨hg2,by rw [<-ho2];exact hout⟩ ?_ ?_
  ·refine⟨⟨rfl,rfl, ?_⟩,trivial⟩
   rw [xK, <-OU]
  ·refine⟨congrArg (Value.int .u64) (by rw [YX];exact YQ u), ?_⟩
   trivial
 ·have hu:u<128:=aap
  refine kP.to (Dq hu) ?_
  conv=>whnf
  (repeat' ((first|refine And.intro ?_ ?_|(apply jH<;>intro h<;>try simp only [bl]at h)|refine Rh ?_|fail)<;>conv=>whnf))
  refine sD (.own 0) 1 _ [(0, .lab 2)] [] ⟨rfl,rfl,rfl⟩ rfl ⟨⟨rfl,rfl, ?_⟩,trivial⟩ aae
  rw [<-hout,G7 hu,xK]
theorem aaG (b:By)(n:Int)(hn:I64 n)(hb:b.length<=3999990):kQ Tryz.prog GC 124 [bs b,iv n] 0 [] (wo 5 1 ((b++num n).map pR)):=by
 have hl:=(zG n).2
 refine jJ func124 rfl mixed aac ?_
 refine nI [] aac (TP n hn) aae ?_
 refine nI [0] aac (aaF b (num n) aad) aae ?_
 exact sD (.own 0) 1 _ [(0, .lab 1)] [] ⟨rfl,rfl,rfl⟩ rfl aae aae
theorem Py {u:Nat}(hu:u<18446744073709551616):IntKind.u8.wrap (kJ .and .u64 (u:Int) 127)=((u%128:Nat):Int):=by
 have e:(127:Int)=((127:Nat):Int):=rfl
 rw [e,OQ u 127 hu aah,WW,JU aad]
theorem TQ {u:Nat} : kJ .or .u8 ((u%128:Nat):Int) 128=((UInt8.ofNat (128+u%128)).toNat:Int):=by
 have e2:(128:Int)=((128:Nat):Int):=rfl
 rw [e2,OT _ _ aad aad,U6 aad,toNat_ofNat aad]
 congr 1
 omega
theorem GI.u64 {f u:Nat}{out:By}(h:GI f u out):u<18446744073709551616:=by
 have e:(128:Nat)^9=9223372036854775808:=aah
 have:=Nat.pow_le_pow_right (show 0<128 by decide) h.2.1
 have:=h.1
 omega
theorem Xe (n:Int)(hn:I64 n):(n<0->kJ .xor .u64 (bif IntKind.u64.signed then -1 else IntKind.u64.max) (IntKind.u64.wrap (IntKind.u64.wrap n*2^min (Int.toNat 1) IntKind.u64.bits))=(zu n:Int))∧(¬n<0->IntKind.u64.wrap (IntKind.u64.wrap n*2^min (Int.toNat 1) IntKind.u64.bits)=(zu n:Int)):=by
 have e:IntKind.u64.bits=64:=rfl
 have s:IntKind.u64.signed=false:=rfl
 have hm:IntKind.u64.max=((18446744073709551615:Nat):Int):=aah
 rw [YW]
 unfold I64 at hn
 unfold zu
 constructor
 ·intro h
  have e1:IntKind.u64.wrap (IntKind.u64.wrap n*2)=((18446744073709551616 -(-2*n).toNat:Nat):Int):=by
   simp only [IntKind.wrap,e,s,dJ,aS,if_false];omega
  rw [if_pos h,e1,s,cond_false,hm,Bf _ _ aad aad,Nat.xor_comm,GU aad]
  omega
 ·intro h
  rw [if_neg h]
  simp only [IntKind.wrap,e,s,dJ,aS,if_false];omega
theorem Y1 (b:By)(n:Int)(hn:I64 n)(hb:b.length<=3999990):kQ Tryz.prog GC 298 [bs b,iv n] 0 [] (wo 5 1 ((b++num n).map pR)):=by
 have hd:=Xe n hn
 refine jJ func298 rfl mixed aac ?_
 conv=>whnf
 (repeat' ((first|refine And.intro ?_ ?_|(apply jH<;>intro h<;>try simp only [bl]at h)|refine Rh ?_|fail)<;>conv=>whnf))
 refine kP.to rfl ?_
 refine jS.mk aah ?_
 refine kP.to rfl ?_
 apply jH<;>intro h
 all_goals
  have hu0:=(by simp at h;first|exact hd.1 aad|exact hd.2 aad)
  refine qm Sl 2 [0,5] (fun x:GX=> [(0, .own 1),(5,uv x.u)]) (fun x=> [(1, .rows 5 1 ((b++x.out).map pR))]) (fun x=>GI x.f x.u x.out∧x.out++grp x.f x.u=num n) (fun x=>x.f) [(1, .lab 0)] [] ⟨9,zu n,[]⟩ aac (fun _=>rfl) rfl (GI.start hn) ⟨⟨rfl,rfl,by rw [fM]⟩,trivial⟩ ⟨rfl,congrArg (Value.int .u64) hu0,trivial⟩ ?_
  rintro⟨f,u,out⟩ ⟨hg,hout⟩
  have hlen:=hg.2.2
  have h64:=hg.u64
  apply jH<;>intro h
  ·have hu:128<=u:=aap
   obtain⟨g,rfl,hg2,ho2⟩:=hg.next hu
   refine kP.to (Py h64) ?_
   conv=>whnf
   (repeat' ((first|refine And.intro ?_ ?_|(apply jH<;>intro h<;>try simp only [bl]at h)|refine Rh ?_|fail)<;>conv=>whnf))
   refine oI ⟨g,u/128,out++ [UInt8.ofNat (128+u%128)]⟩ [(1, .lab 3)] [] rfl (gu g) ⟨hg2,by rw [<-ho2];exact hout⟩ ?_ ?_
   ·refine⟨⟨rfl,rfl, ?_⟩,trivial⟩
    rw [<-bg,xK, <-TQ]
   ·refine⟨rfl,congrArg (Value.int .u64) (by rw [YX];exact YQ u),trivial⟩
  ·have hu:u<128:=aap
   refine kP.to (Dq hu) ?_
   conv=>whnf
   (repeat' ((first|refine And.intro ?_ ?_|(apply jH<;>intro h<;>try simp only [bl]at h)|refine Rh ?_|fail)<;>conv=>whnf))
   refine sD (.own 0) 1 _ [(0, .lab 3)] [] ⟨rfl,rfl,rfl⟩ rfl ⟨⟨rfl,rfl, ?_⟩,trivial⟩ aae
   rw [<-hout,G7 hu, <-bg,xK]
structure LX where
 k:Nat
 p:Int
 out:By
theorem drop_cons {l:Li}{k:Nat}(h:k<l.length):l.drop k=l[k]::l.drop (k+1):=cZ h
def Pz (l:Li)(i k:Nat):Prop:=i<=k∧k<=l.length∧l.drop i=List.replicate (k-i) (l.getD i 0)++l.drop k
theorem Pz.next {l:Li}{i k:Nat}(h:Pz l i k)(hk:k<l.length)(e:l[k]=l.getD i 0):Pz l i (k+1):=by
 obtain⟨h1,h2,h3⟩:=h
 refine⟨by omega,hk, ?_⟩
 rw [h3,drop_cons hk,e,show k+1-i=(k-i)+1 by omega,iO]
 simp
theorem Pz.fin {l:Li}{i k:Nat}(h:Pz l i k)(hi:i<l.length)(e : ∀hk:k<l.length,l[k]≠l.getD i 0):i<k∧b2 (l.drop i)=num (l.getD i 0)++(num ((k-i:Nat):Int)++b2 (l.drop k)):=by
 obtain⟨h1,h2,h3⟩:=h
 have hlt:i<k:=by
  rcases gB i k with h|h
  ·exact h
  ·have:k=i:=aad
   subst this
   exact absurd (by rw [aV,aB hi];rfl) (e hi)
 refine⟨hlt, ?_⟩
 obtain⟨m,hm⟩ : ∃m,k-i=m+1:=⟨k-i-1,by omega⟩
 rw [h3,hm]
 unfold b2
 rw [WX _ m _ (by
  rcases gB k l.length with h|h
  ·rw [drop_cons h];intro e2;exact e h (by simpa [aB h]using e2)
  ·rw [List.drop_eq_nil_of_le h];simp)]
 simp [enP]
structure KX where
 k:Nat
 m:Int
end Go.Proofs.YtnandbihiceihaaGreatDoor.Cl
