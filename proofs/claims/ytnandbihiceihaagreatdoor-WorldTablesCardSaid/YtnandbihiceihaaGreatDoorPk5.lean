/- Joined parts of the proof. The soundness of the operations that only read -/
import Derived.Laws.Runes
import Derived.Test.YtnandbihiceihaaGreatDoorPk4
set_option linter.unusedVariables false
set_option linter.unusedSimpArgs false
set_option maxRecDepth 100000
set_option maxHeartbeats 16000000
namespace Go.Proofs.YtnandbihiceihaaGreatDoor.Ax
open RowKit Vc
def wC (n:Nat)(σ:Nat->Loc)(F:Nat->Prop)(w:World)(H:lI):Prop:= ∀mD blk,look H mD=some blk->uS n σ F w (σ mD) blk
structure uq (σ:Nat->Loc)(F:Nat->Prop)(H:lI)(w u:World):Prop where
 f : ∀b,F b->u.heap[b]? = w.heap[b]?
 h : ∀mD blk g,look H mD=some blk->blk.own=true->qO w (σ mD) blk g->u.heap[g]? = w.heap[g]?
theorem uq.refl (σ:Nat->Loc)(F:Nat->Prop)(H:lI)(w:World):uq σ F H w w:=⟨fun _ _=>rfl,fun _ _ _ _ _ _=>rfl⟩
theorem oJ {q:Bool}{u:World}{K:Value->World->Prop}{v:Value}(h:K v u):wr q u K v u:=by
 cases q with
 | false=>exact h
 | true=>exact⟨rfl,h⟩
theorem mM.nY {n:Nat}{σ:Nat->Loc}{F:Nat->Prop}{w:World}{x v:Value}(h:mM n σ F w (.v x) v):v=x:=by cases h;rfl
theorem tC {n:Nat}{σ:Nat->Loc}{F:Nat->Prop}{w:World}(v:Value):mM n σ F w (Np v) v:=by
 have key : ∀(cs:List Value),mZ n σ F w (cs.map .v) cs:=fun cs=> .of abb fun j a v h1 h2=>by
  rw [aJ,h2]at h1
  simp only [bD,aI]at h1
  rw [<-h1];exact .v _
 cases v with
 | agg cs=>have:=(key cs.toList).agg;rw [iH]at this;exact this
 | tuple cs=>have:=(key cs.toList).og;rw [iH]at this;exact this
 | _=>exact .v _
def Ans (n:Nat)(σ:Nat->Loc)(F:Nat->Prop)(w:World)(K:AV->Prop)(S:World->Prop)(X:World->Bool->(Value->World->Prop)->Prop):Prop:=
 ∃a v,K a∧mM n σ F w a v∧∀u q (Kv:Value->World->Prop),S u->Kv v u->X u q Kv
section
variable {P:Program}{n:Nat}{σ:Nat->Loc}{F:Nat->Prop}{w:World}{H:lI}{nZ:lV}{ρ:mG}{K:AV->Prop}{S:World->Prop}
theorem ni (hr : ∀s,mM n σ F w (nZ s) (ρ s))(x:Operand):mM n σ F w (oW nZ x) (qC ρ x):=by
 cases x with
 | tmp t=>exact hr t
 | const v=>exact tC v
 | global g=>exact .v _
 | func f=>exact .v _
theorem uw (hr : ∀s,mM n σ F w (nZ s) (ρ s))(xs:List Operand):mZ n σ F w (xs.map (oW nZ)) (xs.map (qC ρ)):=by
 induction xs with
 | nil=>trivial
 | cons x r ih=>exact⟨ni hr x,ih⟩
theorem Ju (hr : ∀s,mM n σ F w (nZ s) (ρ s))(xs:List (Nat×Operand)):mZ n σ F w (xs.map fun p=>oW nZ p.2) (xs.map fun p=>qC ρ p.2):=by
 induction xs with
 | nil=>trivial
 | cons x r ih=>exact⟨ni hr x.2,ih⟩
theorem AX {op:BinOp}{k:IntKind}{a b:Int}(h:Xh op k a b K):Ans n σ F w K S fun u _ Kv=>Qz op k a b u Kv:=by
 cases op<;>simp only [Xh]at h
 case add=>exact⟨_,_,h.ex, .v _,fun u q Kv _ hk=>hk⟩
 case sub=>exact⟨_,_,h.ex, .v _,fun u q Kv _ hk=>hk⟩
 case mul=>exact⟨_,_,h.ex, .v _,fun u q Kv _ hk=>hk⟩
 case quo=>exact⟨_,_,h.go.ex, .v _,fun u q Kv _ hk=>⟨h.req,hk⟩⟩
 case rem=>exact⟨_,_,h.go, .v _,fun u q Kv _ hk=>⟨h.req,hk⟩⟩
 case shl=>exact⟨_,_,h.go.ex, .v _,fun u q Kv _ hk=>⟨h.req,hk⟩⟩
 case shr=>exact⟨_,_,h.go, .v _,fun u q Kv _ hk=>⟨h.req,hk⟩⟩
 all_goals exact⟨_,_,h, .v _,fun u q Kv _ hk=>hk⟩
theorem Rf {op:BinOp}{a b:ByteArray}(h:aeO op a b K):Ans n σ F w K S fun u _ Kv=>aaS op a b u Kv:=by
 cases op<;>simp only [aeO]at h
 case add=>exact⟨_,_,h.go, .v _,fun u q Kv _ hk=>⟨h.req,hk⟩⟩
 all_goals first|exact h.elim|exact⟨_,_,h, .v _,fun u q Kv _ hk=>hk⟩
theorem Gx : ∀ {xs:List AV} {us vs:List Value},valsOf xs=some us->mZ n σ F w xs vs->vs=us:=by
 intro xs
 induction xs with
 | nil=>intro us vs h r;cases vs with
  | nil=>simp only [valsOf,aI]at h;exact h
  | cons _ _=>exact r.elim
 | cons x xs ih=>intro us vs h r;cases vs with
  | nil=>exact r.elim
  | cons v vs=>
   cases x<;>simp only [valsOf]at h<;>try cases h
   split at h
   ·rename_i l hl
    injection h with h
    rw [<-h,ih hl r.2,r.1.nY]
   ·cases h
theorem Xn {P:Program}{w:World}{K:Value->World->Prop}{k:IntKind}{n:Int}(c:K (.int k (nV .xor k (bif k.signed then -1 else k.max) n)) w):nM P (Op.unary .xor (.int k n)) w K:=by
 have e:(bif k.signed then(-1:Int)else k.max)=if k.signed then -1 else k.max:=by cases k.signed<;>rfl
 rw [e]at c
 refine oQ ?_ c
 simp [Op.unary,Op.intBits,nV]
theorem Vz {op:UnOp}{a:AV}{va:Value}(h:aUn op a K)(ra:mM n σ F w a va):Ans n σ F w K S fun u q Kv=>vUn P q op va u Kv:=by
 unfold aUn at h
 split at h
 ·rw [ra.nY];exact⟨_,_,h, .v _,fun u q Kv _ hv=>hv⟩
 ·rw [ra.nY];exact⟨_,_,h.ex, .v _,fun u q Kv _ hv=>hv⟩
 ·rename_i k n
  rw [ra.nY];exact⟨_,_,h, .v _,fun u q Kv _ hv=>Xn (oJ hv)⟩
 ·cases h
theorem mZ.aa8 {as:List AV}{vs:List Value}{o:Nat}{a:AV}(r:mZ n σ F w as vs)(h:as[o]? = some a) : ∃v,vs[o]? = some v∧mM n σ F w a v:=by
 have hl:=r.len
 have ho:=(aB.1 h).1
 exact⟨vs[o],ah aai,r.at o a _ h (ah aai)⟩
theorem KU {t:TypeId}{cs:List AV}{f:Nat}{vs:List Value}(h:QS P t cs f K)(r:mZ n σ F w cs vs):Ans n σ F w K S fun u _ Kv=>Dz P t vs.toArray f u Kv:=by
 unfold QS at h
 split at h
 ·rename_i fs hu
  split at h
  ·rename_i fd hf
   split at h
   ·rename_i i ha hi
    cases hb:Nat.ble (fd.offset+i.size) cs.length with
    | false=>rw [hb]at h;exact h.elim
    | true=>
     rw [hb,cond_true,rY]at h
     exact⟨_,_,h,((r.drop fd.offset).take i.size).agg,fun u q Kv _ hv=>by simp only [Dz,hu,hf,ha,hi,nU];exact hv⟩
   ·rename_i i ha hi
    split at h
    ·rename_i a hg
     rw [qY]at h
     obtain⟨v,h1,h2⟩:=r.aa8 hg
     exact⟨_,v,h,h2,fun u q Kv _ hv=>by simp only [Dz,hu,hf,ha,hi,h1];exact hv⟩
    ·cases h
   ·cases h
  ·cases h
 ·cases h
theorem AY {t:TypeId}{f d:Nat}(h:aeS P t f=some d)(a:Addr)(u:World)(Kv:Value->World->Prop)(k:Kv (.pointer (some (a.add d))) u):vI P t a f u Kv:=by
 unfold aeS at h
 split at h
 ·rename_i fs hu
  split at h
  ·rename_i fd hf
   split at h
   ·rename_i i hi
    cases hz:Nat.beq i.size 0 with
    | true=>rw [hz]at h;cases h
    | false=>
     rw [hz,cond_false]at h
     injection h with h
     subst h
     simp only [vI,hu,hf,hi,hz,cond_false];exact k
   ·cases h
  ·cases h
 ·cases h
theorem Jv {a:AV}{v:Value}(r:mM n σ F w a v)(hne:a≠ .top):mZ n σ F w (cellsOf a) v.cells.toList:=by
 cases r with
 | agg xs us hx rx=>exact .of (by simpa [Value.cells,cellsOf]using hx) (by simpa [Value.cells,cellsOf]using rx)
 | v _=>
  cases v with
  | agg cs=>
   refine .of (by simp [Value.cells,cellsOf]) fun j a v h1 h2=> ?_
   simp only [Value.cells]at h2
   simp only [cellsOf,aJ]at h1
   rw [h2]at h1
   simp only [bD,aI]at h1
   rw [<-h1];exact .v _
  | _=>exact⟨.v _,trivial⟩
 | top x=>exact(hne rfl).elim
 | lst h=>
  obtain⟨oa,m,c,rfl⟩ : ∃oa m c,v = .slice oa m c:=by cases h;exact⟨_,_,_,rfl⟩
  exact⟨.lst h,trivial⟩
 | fp h=>
  obtain⟨p,rfl⟩ : ∃p,v = .pointer p:=by cases h;exact⟨_,rfl⟩
  exact⟨.fp h,trivial⟩
 | fm h=>
  obtain⟨p,rfl⟩ : ∃p,v = .map p:=by cases h;exact⟨_,rfl⟩
  exact⟨.fm h,trivial⟩
 | ptr l o b hl hb=>exact⟨.ptr l o b hl hb,trivial⟩
 | ep l i o b hl hb=>exact⟨.ep l i o b hl hb,trivial⟩
 | own l hl=>exact⟨.own l hl,trivial⟩
 | rH l oa hl hn hc=>exact⟨.rH l oa hl hn hc,trivial⟩
 | sub l o k oa c hl hk hc hnil ho=>exact⟨.sub l o k oa c hl hk hc hnil ho,trivial⟩
 | full l k oa hl hk ho=>exact⟨.full l k oa hl hk ho,trivial⟩
 | mp l b hl hb=>exact⟨.mp l b hl hb,trivial⟩
 | fn f xs ys us vs hx hy rx ry=>exact⟨.fn f xs ys us vs hx hy rx ry,trivial⟩
 | og xs us hx rx=>exact⟨.og xs us hx rx,trivial⟩
theorem NQ : ∀ {vs:List AV} {us:List Value} {as:List AV} {bs:List Value} {off:Nat},mZ n σ F w vs us->mZ n σ F w as bs->mZ n σ F w (BO as off vs) (uh bs off us):=by
 intro vs
 induction vs with
 | nil=>intro us as bs off h k;cases us with
  | nil=>rw [BP];exact k
  | cons _ _=>exact h.elim
 | cons v vs ih=>intro us as bs off h k;cases us with
  | nil=>exact h.elim
  | cons u us=>rw [zT];exact ih h.2 (k.set off h.1)
theorem zU (l:List Value):mZ n σ F w (l.map .v) l:= .of abb fun j a v h1 h2=>by
 rw [aJ,h2]at h1
 simp only [bD,aI]at h1
 rw [<-h1];exact .v _
theorem Jw (place:Nat->Option (Nat×Nat)) : ∀ {ks:List Nat} {ps:List AV} {us:List Value} {cells:List AV} {bs:List Value} {l:List AV},mZ n σ F w ps us->mZ n σ F w cells bs->
  Gs place cells (ks.zip ps)=some l->∃m,yO place bs (ks.zip us)=some m∧mZ n σ F w l m:=by
 intro ks
 induction ks with
 | nil=>intro ps us cells bs l _ hc h;simp only [List.zip_nil_left,Gs,aI]at h;subst h;exact⟨bs,rfl,hc⟩
 | cons k ks ih=>
  intro ps us cells bs l hp hc h
  cases ps with
  | nil=>cases us with
   | nil=>simp only [List.zip_nil_right,Gs,aI]at h;subst h;exact⟨bs,rfl,hc⟩
   | cons _ _=>exact hp.elim
  | cons p ps=>cases us with
   | nil=>exact hp.elim
   | cons u us=>
    simp only [iR,Gs]at h
    split at h
    ·cases h
    ·rename_i off size hpl
     cases hb:(QU p&&Nat.beq (cellsOf p).length size&&Nat.ble (off+(cellsOf p).length) cells.length)with
     | false=>rw [hb]at h;cases h
     | true=>
      rw [hb,cond_true]at h
      simp only [ak]at hb
      have hcr:=Jv hp.1 (fun e=>by rw [e]at hb;simp [QU]at hb)
      obtain⟨m,h1,h2⟩:=ih hp.2 (NQ hcr hc) h
      refine⟨m, ?_,h2⟩
      simp only [iR,yO,hpl]
      rw [hcr.len,hc.len,hb.1.2,hb.2,Bool.and_self,cond_true]
      exact h1
theorem KW {t:TypeId}{ks:List Nat}{as:List AV}{vs:List Value}(h:QV P t (ks.zip as) K)(r:mZ n σ F w as vs):Ans n σ F w K S fun u _ Kv=>DC P t (ks.zip vs) u Kv:=by
 unfold QV at h
 split at h
 ·rename_i z fs hz hu
  split at h
  ·rename_i pl hpl
   split at h
   ·rename_i l hl
    rw [rY]at h
    obtain⟨m,h1,h2⟩:=Jw _ r (zU z.cells.toList) hl
    exact⟨_,_,h,h2.agg,fun u q Kv _ hv=>by simp only [DC,hz,hu,hpl,h1,nU];exact hv⟩
   ·cases h
  ·cases h
 ·rename_i z m e hz hu
  split at h
  ·rename_i i hi
   split at h
   ·rename_i l hl
    rw [rY]at h
    obtain⟨m,h1,h2⟩:=Jw _ r (zU z.cells.toList) hl
    exact⟨_,_,h,h2.agg,fun u q Kv _ hv=>by simp only [DC,hz,hu,hi,h1,nU];exact hv⟩
   ·cases h
  ·cases h
 ·cases h
theorem uy {t:TypeId}{cs:List AV}{vs:List Value}{b base o:Nat}(h:Gt P t cs o K)(r:mZ n σ F w cs vs)(hc : ∀u,S u->∀j v,vs[j]? = some v->u.cell? ⟨b,base+j,none⟩=some v) :
  Ans n σ F w K S fun u q Kv=>nM P (loadVar t ⟨b,base+o,none⟩) u (wr q u Kv):=by
 unfold Gt at h
 split at h
 ·rename_i k ha hs
  split at h
  ·rename_i a hg
   rw [qY]at h
   obtain⟨v,h1,h2⟩:=r.aa8 hg
   exact⟨_,v,h,h2,fun u q Kv hu hv=>oZ ha (hc u hu o v h1) (oJ hv)⟩
  ·cases h
 ·rename_i k ha hs
  cases hb:Nat.ble (o+k) cs.length with
  | false=>rw [hb]at h;exact h.elim
  | true=>
   rw [hb,cond_true,rY]at h
   have hl:=r.len
   have hle:=aF hb
   have hlen:((vs.drop o).take k).length=k:=aev
   refine⟨_,_,h,((r.drop o).take k).agg,fun u q Kv hu hv=>Gn ha (by rw [hlen];exact hs) (fun j v hj=> ?_) (oJ hv)⟩
   rw [add0,fF]
   refine hc u hu (o+j) v ?_
   rw [bH]at hj
   split at hj
   ·simpa using hj
   ·cases hj
 ·cases h
theorem Gy {u:World}{b base:Nat} : ∀(m:Nat),(∀j,j<m->∃v,u.cell? ⟨b,base+j,none⟩=some v∧v.oneCell'=true)->∃vs:List Value,vs.length=m∧∀j v,vs[j]? = some v->u.cell? ⟨b,base+j,none⟩=some v∧v.oneCell'=true:=by
 intro m
 induction m with
 | zero=>intro _;exact⟨[],rfl,fun j v h=>by simp at h⟩
 | succ m ih=>
  intro h
  obtain⟨vs,h1,h2⟩:=ih fun j hj=>h j aai
  obtain⟨v,h3⟩:=h m aai
  refine⟨vs++ [v],by simp [h1],fun j x hj=> ?_⟩
  by_cases hjm:j<vs.length
  ·rw [eP hjm]at hj;exact h2 j x hj
  ·rw [dS aai]at hj
   have hj0:j-vs.length=0:=by
    have:=(aB.1 hj).1
    simp at this;omega
   rw [hj0]at hj
   simp only [bZ,aI]at hj
   have:j=m:=aai
   rw [this, <-hj];exact h3
theorem NR {cs:List FV}{o:Nat}{x:Value}(h:oV F w (.fp cs o) x) : ∃b off vs,x = .pointer (some ⟨b,off+o,none⟩)∧F b∧mZ n σ F w (cs.map FV.up) vs∧(∀v∈vs,v.oneCell'=true)∧∀j v,vs[j]? = some v->w.cell? ⟨b,off+j,none⟩=some v:=by
 cases h with
 | fp _ _ b off hb hex hrep=>
  obtain⟨vs,h1,h2⟩:=Gy cs.length hex
  refine⟨b,off,vs,rfl,hb, .of (by simp [h1]) fun j a v ha hv=> ?_,fun v hv=> ?_,fun j v hj=>(h2 j v hj).1⟩
  ·rw [aJ]at ha
   cases hc:cs[j]? with
   | none=>rw [hc]at ha;cases ha
   | some c=>
    rw [hc]at ha
    simp only [bD,aI]at ha
    rw [<-ha]
    exact(hrep j c v hc (h2 j v hv).1).up
  ·obtain⟨j,hj⟩:=cu.1 hv
   exact(h2 j v hj).2
theorem AZ {L:Loc}{H:lI}{mD:Nat}{t sz:Nat}{l:List (List FV)}{i:Nat}{row:List FV}(hL:L=σ mD)(hk:look H mD=some (.rows t sz l))(hH:wC n σ F w H)(hi:l[i]? = some row) :
  ∃g vs,L.b=some g∧mZ n σ F w (row.map FV.up) vs∧∀j v,vs[j]? = some v->w.cell? ⟨g,i*sz+j,none⟩=some v:=by
 subst hL
 obtain⟨h1,h2,xs,hO,hR⟩:=hH _ _ hk
 have hil:=(aB.1 hi).1
 obtain⟨g,cur,hg,_,hB,hle,_,hcl,htk⟩:=hO.blk aai
 have hb:(σ mD).b=some g:=by
  unfold Loc.oa at hg
  cases hx:(σ mD).b with
  | none=>rw [hx]at hg;cases hg
  | some g'=>rw [hx]at hg;simp at hg;rw [hg]
 have hrl:row.length=sz:=hR.1 row (aU hi)
 have hi1:i*sz+sz<=l.length*sz:=by
  have:(i+1)*sz<=l.length*sz:=bg _ hil
  rw [bK,dY]at this;exact this
 refine⟨g,(xs.drop (i*sz)).take sz,hb, .of ?_ fun j a v ha hv=> ?_,fun j v hv=> ?_⟩
 ·have:=hR.2.1
  simp [hrl];omega
 ·rw [aJ]at ha
  cases hc:row[j]? with
  | none=>rw [hc]at ha;cases ha
  | some c=>
   rw [hc]at ha
   simp only [bD,aI]at ha
   rw [<-ha]
   rw [bH]at hv
   split at hv
   ·exact(hR.2.2.2 i j row c v hi hc (by simpa using hv)).up
   ·cases hv
 ·rw [bH]at hv
  split at hv
  ·rw [dO]at hv
   rw [hB.cell]
   have hlt:=(aB.1 hv).1
   rw [<-htk]at hv
   rw [bH]at hv
   split at hv
   ·exact hv
   ·cases hv
  ·cases hv
theorem zV {sz:Nat}{l:List (List FV)}{oa:Option Addr}{m c i:Nat}{row:List FV}(h:oV F w (.lst sz l) (.slice oa m c))(hi:l[i]? = some row) :
  ∃b o vs,oa=some ⟨b,o,none⟩∧F b∧m=l.length∧mZ n σ F w (row.map FV.up) vs∧oV F w (.fp row 0) (.pointer (some ⟨b,o+i*sz,none⟩))∧∀j v,vs[j]? = some v->w.cell? ⟨b,o+i*sz+j,none⟩=some v:=by
 cases h with
 | lst _ _ _ _ _ b o hn hc hnil ho hsz hex hrep=>
  have hil:=(aB.1 hi).1
  obtain⟨e,hF⟩:=ho aai
  have hrl:=hsz row (aU hi)
  have hfp:oV F w (.fp row 0) (.pointer (some ⟨b,o+i*sz,none⟩)):= .fp row 0 b (o+i*sz) hF (fun j hj=>by rw [fF];exact hex i j aai aai) (fun j a v h1 h2=>hrep i j row a v hi h1 (by rw [fF]at h2;exact h2))
  obtain⟨b',off,vs,e1,_,r,_,hcl⟩:=NR (n:=n) (σ:=σ) hfp
  injection e1 with e1;injection e1 with e1;injection e1 with e1 e2
  subst e1
  have e2:o+i*sz=off:=e2
  subst e2
  exact⟨b,o,vs,e,hF,hn,r,hfp,hcl⟩
theorem uq.cell {u:World}{b:Nat}(h:uq σ F H w u)(hb:F b)(o:Nat):u.cell? ⟨b,o,none⟩=w.cell? ⟨b,o,none⟩:=qG (h.f b hb) o
theorem uq.Jy {u:World}{g mD:Nat}{blk:oI}(h:uq σ F H w u)(hk:look H mD=some blk)(ho:blk.own=true)(hg:(σ mD).b=some g)(o:Nat):u.cell? ⟨g,o,none⟩=w.cell? ⟨g,o,none⟩:=qG (h.h mD blk g hk ho (.inl hg)) o
theorem Ey {t:TypeId}{a:AV}{va:Value}(h:Tz P H t a K)(ra:mM n σ F w a va)(hH:wC n σ F w H) : ∃p,va = .pointer (some p)∧Ans n σ F w K (uq σ F H w) fun u q Kv=>nM P (loadVar t p) u (wr q u Kv):=by
 unfold Tz at h
 split at h
 ·rename_i l o
  cases ra with
  | ptr _ _ b hl hb=>
   refine⟨_,rfl, ?_⟩
   split at h
   ·rename_i T cs hk
    obtain⟨g,vs,h1,h2,h3,_⟩:=hH _ _ hk
    rw [hb]at h1
    injection h1 with h1
    subst h1
    have:=uy (S:=uq σ F H w) (b:=b) (base:=0) h h3 fun u hu j v hj=>by rw [hu.Jy hk rfl hb,h2.cell,aO];exact hj
    simpa only [aO]using this
   ·cases h
 ·rename_i l i o
  cases ra with
  | ep _ _ _ b hl hb=>
   refine⟨_,rfl, ?_⟩
   split at h
   ·rename_i T sz m hk
    obtain⟨row,hrow,h⟩:=h.ex
    obtain⟨g,vs,h1,h2,h3⟩:=AZ rfl hk hH hrow
    rw [hb]at h1
    injection h1 with h1
    subst h1
    have e:(σ l).sz=sz:=(hH _ _ hk).1
    rw [e]
    exact uy (S:=uq σ F H w) h h2 fun u hu j v hj=>by rw [hu.Jy hk rfl hb];exact h3 j v hj
   ·rename_i sz m hk
    obtain⟨row,hrow,h⟩:=h.ex
    obtain⟨e,e2,hf,h0⟩:=hH _ _ hk
    obtain⟨b',o',vs,e3,hF,_,r,_,hcl⟩:=zV (n:=n) (σ:=σ) hf hrow
    have ho:=h0 _ _ e3
    subst ho
    have eb:b'=b:=by
     unfold Loc.oa at e3
     rw [hb]at e3
     simp at e3
     exact e3.symm
    subst eb
    rw [e]
    simp only [aO]at hcl
    exact uy (S:=uq σ F H w) h r fun u hu j v hj=>by rw [hu.cell hF];exact hcl j v hj
   ·rename_i T sz m hh hk
    obtain⟨q1,q2,xs,q3,q4,q5,q6⟩:=hH _ _ hk
    rw [q1]
    split at h
    ·rename_i k ha hs
     by_cases he : ∃e,hh=some (i,o,e)
     ·obtain⟨e,he⟩:=he
      obtain⟨a1,a2,a3,⟨row,a4,a5⟩,v,a6,a7⟩:=q6 i o e he
      obtain⟨b',hb',hc⟩:=vU q3 a4 (q4.1 row (aU a4)) a5 q4.2.1 a6
      rw [hb]at hb'
      injection hb' with hb'
      subst hb'
      exact⟨_,v,h.hole e he,a7,fun u q Kv hu hv=>oZ ha (by rw [hu.Jy hk rfl hb];exact hc) (oJ hv)⟩
     ·obtain⟨row,hrow,h⟩:=(h.other fun e he'=>he ⟨e,he'⟩).ex
      have hil:=(aB.1 hrow).1
      have hrl:=q4.1 row (aU hrow)
      have hi1:i*sz+sz<=m.length*sz:=by
       have:(i+1)*sz<=m.length*sz:=bg _ hil
       rw [bK,dY]at this;exact this
      have hr:mZ n σ F w (row.map TV.up) ((xs.drop (i*sz)).take sz):= .of (by have:=q4.2.1;simp [hrl];omega) fun j a v h1 h2=>by
       rw [aJ]at h1
       rw [bH]at h2
       split at h2
       ·rw [dO]at h2
        cases hc:row[j]? with
        | none=>rw [hc]at h1;cases h1
        | some c=>
         rw [hc]at h1
         simp only [bD,aI]at h1
         rw [<-h1]
         have:=q4.2.2.2 i j row c v hrow hc h2
         cases c with
         | f x=>exact oV.up this
         | n _ _ _=>exact .top v
       ·cases h2
      refine uy (S:=uq σ F H w) h hr fun u hu j v' hj=> ?_
      rw [hu.Jy hk rfl hb]
      rw [bH]at hj
      split at hj
      ·rename_i hjs
       rw [dO]at hj
       obtain⟨b'',aa9,hc'⟩:=vU (a:=row[j]'aai) q3 hrow hrl (ah _) q4.2.1 hj
       rw [hb]at aa9
       injection aa9 with aa9
       rw [aa9];exact hc'
      ·cases hj
    ·cases h
   ·cases h
 ·rename_i cs o
  cases ra with
  | fp hf=>
   obtain⟨b,off,vs,rfl,hF,r,_,hcl⟩:=NR (n:=n) (σ:=σ) hf
   exact⟨_,rfl,uy (S:=uq σ F H w) h r fun u hu j v hj=>by rw [hu.cell hF];exact hcl j v hj⟩
 ·cases h
theorem VA {s:AV}{v:Value}{sz:Nat}{l:List (List FV)}(h:rowsOf H s=some (sz,l))(r:mM n σ F w s v)(hH:wC n σ F w H) :
  ∃oa m c,v = .slice oa m c∧m=l.length∧∀i row,l[i]? = some row->∃b o vs,oa=some ⟨b,o,none⟩∧mZ n σ F w (row.map FV.up) vs∧∀u,uq σ F H w u->∀j v,vs[j]? = some v->u.cell? ⟨b,o+i*sz+j,none⟩=some v:=by
 have ofl : ∀ {oa:Option Addr} {m c:Nat} {l:List (List FV)},oV F w (.lst sz l) (.slice oa m c)->∀i row,l[i]? = some row->∃b o vs,oa=some ⟨b,o,none⟩∧mZ n σ F w (row.map FV.up) vs∧∀u,uq σ F H w u->∀j v,vs[j]? = some v->u.cell? ⟨b,o+i*sz+j,none⟩=some v:=by
  intro oa m c l hf i row hi
  obtain⟨b,o,vs,e,hF,_,hr,_,hc⟩:=zV (n:=n) (σ:=σ) hf hi
  exact⟨b,o,vs,e,hr,fun u hu j v hj=>by rw [hu.cell hF];exact hc j v hj⟩
 unfold rowsOf at h
 split at h
 ·simp only [aI,fG]at h
  obtain⟨rfl,rfl⟩:=h
  cases r with
  | lst hf=>
   obtain⟨oa,m,c,rfl⟩ : ∃oa m c,v = .slice oa m c:=by cases hf;exact⟨_,_,_,rfl⟩
   exact⟨oa,m,c,rfl,by cases hf;assumption,ofl hf⟩
 ·split at h
  ·rename_i l' T sz' m hk
   simp only [aI,fG]at h
   obtain⟨rfl,rfl⟩:=h
   have hq:=hH _ _ hk
   cases r with
   | rH _ oa hl hn hc=>
    have:m = []:=aK (by rw [<-hq.2.1,hn])
    subst this
    exact⟨_,_,_,rfl,rfl,fun i row hi=>by simp at hi⟩
   | own _ hl=>
    refine⟨_,_,_,rfl,hq.2.1,fun i row hi=> ?_⟩
    obtain⟨g,vs,e,hr,hc⟩:=AZ rfl hk hH hi
    exact⟨g,0,vs,by unfold Loc.oa;rw [e];rfl,hr,fun u hu j v hj=>by rw [hu.Jy hk rfl e,aO];exact hc j v hj⟩
  ·rename_i l' sz' m hk
   simp only [aI,fG]at h
   obtain⟨rfl,rfl⟩:=h
   have hq:=hH _ _ hk
   cases r with
   | rH _ oa hl hn hc=>
    have:m = []:=aK (by rw [<-hq.2.1,hn])
    subst this
    exact⟨_,_,_,rfl,rfl,fun i row hi=>by simp at hi⟩
   | own _ hl=>exact⟨_,_,_,rfl,hq.2.1,ofl hq.2.2.1⟩
  ·cases h
 ·split at h
  ·rename_i l' o k _ T sz' m hk
   simp only [aI,fG]at h
   obtain⟨rfl,rfl⟩:=h
   have hq:=hH _ _ hk
   cases r with
   | sub _ _ _ oa c hl hkk hc hnil ho=>
    rw [hq.2.1]at hkk
    refine⟨_,_,_,rfl,by rw [aN,bU];omega,fun i row hi=> ?_⟩
    have hil:=(aB.1 hi).1
    rw [aN]at hil
    obtain⟨b,e1,e2⟩:=ho aai
    rw [bH,if_pos aai,dO]at hi
    obtain⟨g,vs,e,hr,hcl⟩:=AZ rfl hk hH hi
    rw [e]at e1
    injection e1 with e1
    subst e1
    refine⟨g,o*sz',vs,by rw [e2,hq.1],hr,fun u hu j v hj=> ?_⟩
    rw [hu.Jy hk rfl e, <-bK];exact hcl j v hj
  ·rename_i l' o k _ sz' m hk
   simp only [aI,fG]at h
   obtain⟨rfl,rfl⟩:=h
   have hq:=hH _ _ hk
   cases r with
   | sub _ _ _ oa c hl hkk hc hnil ho=>
    rw [hq.2.1]at hkk
    refine⟨_,_,_,rfl,by rw [aN,bU];omega,fun i row hi=> ?_⟩
    have hil:=(aB.1 hi).1
    rw [aN]at hil
    obtain⟨b,e1,e2⟩:=ho aai
    rw [bH,if_pos aai,dO]at hi
    obtain⟨b',o',vs,e,hr,hcl⟩:=ofl hq.2.2.1 _ _ hi
    have h0:=hq.2.2.2 _ _ e
    subst h0
    unfold Loc.oa at e
    rw [e1]at e
    simp only [bD,aI,Addr.mk.injEq]at e
    obtain⟨rfl,_⟩:=e
    refine⟨b,o*sz',vs,by rw [e2,hq.1],hr,fun u hu j v hj=> ?_⟩
    have:=hcl u hu j v hj
    rw [aO,bK]at this;exact this
  ·cases h
 ·cases h
theorem NT {Hr:lI}{src dst:TypeId}{a:AV}{va:Value}(h:Xj P Hr src dst a K)(ra:mM n σ F w a va)(hHr:wC n σ F w Hr)(hS : ∀u,S u->uq σ F Hr w u):Ans n σ F w K S fun u q Kv=>Ap P q src dst va u Kv:=by
 unfold Xj at h
 split at h
 ·rename_i h1 h2
  rw [ra.nY];exact⟨_,_,h.ex, .v _,fun u q Kv _ hv=>by simp only [Ap,h1,h2];exact hv⟩
 ·rename_i h1 h2
  rw [ra.nY];exact⟨_,_,h, .v _,fun u q Kv _ hv=>by simp only [Ap,h1,h2];exact hv⟩
 ·rename_i d k n h1 h2
  rw [ra.nY]
  refine⟨_,_,h, .v _,fun u q Kv _ hv=> ?_⟩
  simp only [Ap,h1,h2]
  exact oQ (run_convert_int_string u src dst k n (by rw [h1];rfl) h2) (oJ hv)
 ·rename_i e a h1 h2
  split at h
  ·rename_i h3
   split at h
   ·rw [ra.nY]
    refine⟨_,_,h, .v _,fun u q Kv _ hv=> ?_⟩
    simp only [Ap,h1,h2]
    exact Xa (l:= []) h1 h3 h2 rfl (.inl rfl) (oJ hv)
   ·split at h
    ·rename_i sz l hl
     cases hz:Nat.beq sz 1 with
     | false=>rw [hz]at h;exact h.elim
     | true=>
     rw [hz,cond_true]at h
     have hz:=aA hz
     subst hz
     obtain⟨s,rfl,hk⟩:=h.ex
     obtain⟨oa,m,c,rfl,hm,hc⟩:=VA hl ra hHr
     refine⟨_,_,hk, .v _,fun u q Kv hu hv=> ?_⟩
     simp only [Ap,h1,h2]
     rw [aj]at hm
     subst hm
     have one : ∀i x,s[i]? = some x->∃b o,oa=some ⟨b,o,none⟩∧u.cell? ⟨b,o+i*1,none⟩=some (.int .u8 (x.toNat:Int)):=by
      intro i x hi
      obtain⟨b,o,vs,e,hr,hcl⟩:=hc i (wJ x) (by rw [aJ,hi];rfl)
      obtain⟨v,rfl⟩ : ∃v,vs = [v]:=by
       have:=hr.len
       match vs,this with
       | [v],_=>exact⟨v,rfl⟩
      have hv:v = .int .u8 (x.toNat:Int):=(show mM n σ F w (.v (.int .u8 (x.toNat:Int))) v from hr.1).nY
      subst hv
      exact⟨b,o,e,by have:=hcl u (hS u hu) 0 _ rfl;simpa using this⟩
     cases oa with
     | none=>
      have hs:s = []:=by
       cases s with
       | nil=>rfl
       | cons x r=>obtain⟨b,o,e,_⟩:=one 0 x rfl;cases e
      subst hs
      exact Xa (l:= []) h1 h3 h2 rfl (.inl rfl) (oJ hv)
     | some ad=>
      refine oQ (run_convert_bytes_back (P:=P) u src dst _ ad c s h1 h3 h2 fun j hj=> ?_) (oJ hv)
      obtain⟨b,o,e1,e2⟩:=one j s[j] (ah hj)
      injection e1 with e1
      subst e1
      rw [add0]
      rw [dZ]at e2
      exact e2
    ·cases h
  ·cases h
 ·cases h
end
section
variable {P:Program}{n:Nat}{σ:Nat->Loc}{F:Nat->Prop}{w:World}{H:lI}{nZ:lV}{ρ:mG}{K:AV->Prop}{S:World->Prop}
theorem uK {L:Loc}{g:Nat}(h:L.oa=some ⟨g,0,none⟩):L.b=some g:=by
 unfold Loc.oa at h
 cases hx:L.b with
 | none=>rw [hx]at h;cases h
 | some g'=>rw [hx]at h;simp at h;rw [h]
theorem KY {mD t sz:Nat}{l:List (List FV)}(hk:look H mD=some (.rows t sz l))(hH:wC n σ F w H)(h0:0<l.length) : ∃g,(σ mD).b=some g∧(σ mD).oa=some ⟨g,0,none⟩:=by
 obtain⟨h1,h2,xs,hO,hR⟩:=hH _ _ hk
 obtain⟨g,cur,hg,_⟩:=hO.blk h0
 exact⟨g,uK hg,hg⟩
theorem Xo {mD sz:Nat}{l:List (List FV)}(hk:look H mD=some (.fz sz l))(hH:wC n σ F w H)(h0:0<l.length) : ∃g,(σ mD).b=some g∧(σ mD).oa=some ⟨g,0,none⟩:=by
 obtain⟨h1,h2,hf,h3⟩:=hH _ _ hk
 obtain⟨row,hrow⟩ : ∃row,l[0]? = some row:=⟨l[0],ah h0⟩
 obtain⟨b,o,vs,e,_⟩:=zV (n:=n) (σ:=σ) hf hrow
 have:=h3 b o e
 subst this
 exact⟨b,uK e,e⟩
theorem zW {mD t sz:Nat}{l:List (List FV)}(hk:look H mD=some (.rows t sz l))(hH:wC n σ F w H):(σ mD).sz=sz∧(σ mD).n=l.length:=⟨(hH _ _ hk).1,(hH _ _ hk).2.1⟩
theorem DT {mD sz:Nat}{l:List (List FV)}(hk:look H mD=some (.fz sz l))(hH:wC n σ F w H):(σ mD).sz=sz∧(σ mD).n=l.length:=⟨(hH _ _ hk).1,(hH _ _ hk).2.1⟩
theorem DU {t:TypeId}{x i:AV}{vx vi:Value}(h:AP P H t x i K)(rx:mM n σ F w x vx)(ri:mM n σ F w i vi)(hH:wC n σ F w H):Ans n σ F w K S fun u q Kv=>nM P (Instr.indexAt t vx vi) u (wr q u Kv):=by
 unfold AP at h
 split at h
 ·rename_i ki ix
  rw [ri.nY]
  split at h
  ·rename_i e hu
   split at h
   ·rename_i sz hs
    have aeU : ∀ {l:Nat} {m:List (List FV)},mM n σ F w (.own l) vx->(σ l).sz=sz->(σ l).n=m.length->(0<m.length->∃g,(σ l).b=some g∧(σ l).oa=some ⟨g,0,none⟩)->mJ ix m.length (fun j=>K (.ep l j 0))->
      Ans n σ F w K S fun u q Kv=>nM P (Instr.indexAt t vx (.int ki ix)) u (wr q u Kv):=by
     intro l m rx e1 e2 h3 h4
     obtain⟨j,ej,hj,hk⟩:=h4.ex
     obtain⟨g,hg,hoa⟩:=h3 aai
     cases rx with
     | rH _ oa hl hn hc=>omega
     | own _ hl=>
      rw [hoa]
      refine⟨_,_,hk, .ep l j 0 g hl hg,fun u q Kv _ hv=>NG j hu hs ej aai (oJ ?_)⟩
      rw [e1]at hv
      rw [aO]
      exact hv
    have aic : ∀ {l o m:Nat},mM n σ F w (.sub l o m) vx->(σ l).sz=sz->mJ ix m (fun j=>K (.ep l (o+j) 0))->
      Ans n σ F w K S fun u q Kv=>nM P (Instr.indexAt t vx (.int ki ix)) u (wr q u Kv):=by
     intro l o m rx e1 h4
     obtain⟨j,ej,hj,hk⟩:=h4.ex
     cases rx with
     | sub _ _ _ oa c hl hkk hc hnil ho=>
      obtain⟨g,hg,hoa⟩:=ho aai
      rw [hoa]
      refine⟨_,_,hk, .ep l (o+j) 0 g hl hg,fun u q Kv _ hv=>NG j hu hs ej hj (oJ ?_)⟩
      rw [e1]at hv ⊢
      rw [bK]at hv
      exact hv
    split at h
    ·rename_i sz' l
     cases hb:Nat.beq sz sz' with
     | false=>rw [hb]at h;exact h.elim
     | true=>
      rw [hb,cond_true]at h
      have:=aA hb
      subst this
      obtain⟨j,ej,hj,hk⟩:=h.ex
      obtain⟨row,hrow,hk⟩:=hk.ex
      cases rx with
      | lst hf=>
       obtain⟨oa,m,c,rfl⟩ : ∃oa m c,vx = .slice oa m c:=by cases hf;exact⟨_,_,_,rfl⟩
       obtain⟨b,o,vs,rfl,hF,hm,_,hfp,_⟩:=zV (n:=n) (σ:=σ) hf hrow
       exact⟨_,_,hk, .fp hfp,fun u q Kv _ hv=>NG j hu hs ej aai (oJ hv)⟩
    ·rename_i l
     split at h
     ·rename_i T sz' m hk
      cases hb:Nat.beq sz sz' with
      | false=>rw [hb]at h;exact h.elim
      | true=>
       rw [hb,cond_true]at h
       have:=aA hb
       subst this
       exact aeU rx (zW hk hH).1 (zW hk hH).2 (KY hk hH) h
     ·rename_i sz' m hk
      cases hb:Nat.beq sz sz' with
      | false=>rw [hb]at h;exact h.elim
      | true=>
       rw [hb,cond_true]at h
       have:=aA hb
       subst this
       exact aeU rx (DT hk hH).1 (DT hk hH).2 (Xo hk hH) h
     ·rename_i T sz' m h0 hk
      cases hb:Nat.beq sz sz' with
      | false=>rw [hb]at h;exact h.elim
      | true=>
       rw [hb,cond_true]at h
       have:=aA hb
       subst this
       obtain⟨q1,q2,xs,hO,_⟩:=hH _ _ hk
       exact aeU (m:=m.map fun _=> []) rx q1 (by rw [aj];exact q2) (fun h0=>by
        rw [aj]at h0
        obtain⟨g,cur,hg,_⟩:=hO.blk h0
        exact⟨g,uK hg,hg⟩) (by rw [aj];exact h)
     ·cases h
    ·rename_i l o m
     split at h
     ·rename_i T sz' m' hk
      cases hb:Nat.beq sz sz' with
      | false=>rw [hb]at h;exact h.elim
      | true=>
       rw [hb,cond_true]at h
       have:=aA hb
       subst this
       exact aic rx (zW hk hH).1 h
     ·rename_i sz' m' hk
      cases hb:Nat.beq sz sz' with
      | false=>rw [hb]at h;exact h.elim
      | true=>
       rw [hb,cond_true]at h
       have:=aA hb
       subst this
       exact aic rx (DT hk hH).1 h
     ·cases h
    ·cases h
   ·cases h
  ·rename_i m e hu
   split at h
   ·rename_i sz hs
    split at h
    ·obtain⟨j,ej,hj,hk⟩:=h.ex
     cases rx with
     | ptr _ _ b hl hb=>exact⟨_,_,hk, .ptr _ _ b hl hb,fun u q Kv _ hv=>KI j hu hs ej hj (oJ hv)⟩
    ·obtain⟨j,ej,hj,hk⟩:=h.ex
     cases rx with
     | ep _ _ _ b hl hb=>exact⟨_,_,hk, .ep _ _ _ b hl hb,fun u q Kv _ hv=>KI j hu hs ej hj (oJ (by rw [fF];exact hv))⟩
    ·obtain⟨j,ej,hj,hk⟩:=h.ex
     cases rx with
     | fp hf=>
      cases hf with
      | fp _ _ b off hb hex hrep=>exact⟨_,_,hk, .fp (.fp _ _ b off hb hex hrep),fun u q Kv _ hv=>KI j hu hs ej hj (oJ (by rw [fF];exact hv))⟩
    ·cases h
   ·cases h
  ·cases h
 ·cases h
theorem Jz {u:World}{Kv:Value->World->Prop}{t e:TypeId}{m j sz:Nat}{k:IntKind}{ix:Int}{l:List Value}{v:Value}(hm:ix=j)(hu:P.underlying t=some (.array m e))(hs:szB P e=some sz)(h:j<m)
  (hp:(part e l.toArray (j*sz)).run P u = .ok v u) (hk:Kv v u):nM P (Instr.index t (.agg l.toArray) (.int k ix)) u Kv:=by
 refine oQ ?_ hk
 subst hm
 have h1:(0:Int)<=j∧(j:Int)<m:=⟨by omega,by omega⟩
 unfold Instr.index
 simp only [asIntOf,Sem.run_bind,Sem.run_pure,Result.andThen_ok,l7 hu]
 simp only [if_pos h1,Sem.run_bind,qx hs,Result.andThen_ok,dK]
 exact hp
theorem KZ {t:TypeId}{x i:AV}{vx vi:Value}(h:QW P t x i K)(rx:mM n σ F w x vx)(ri:mM n σ F w i vi):Ans n σ F w K S fun u q Kv=>nM P (Instr.index t vx vi) u (wr q u Kv):=by
 unfold QW at h
 split at h
 ·rename_i ki ix
  rw [ri.nY]
  split at h
  ·rename_i s hu
   rw [rx.nY]
   obtain⟨j,ej,hj,hk⟩:=h.ex
   refine⟨_,_,hk, .v _,fun u q Kv _ hv=>DR j ej hu hj (oJ ?_)⟩
   have e:s.data.toList.getD j 0=s[j]:=by
    rw [aT,bF]
    have:s.data[j]? = some s[j]:=jX hj
    rw [this];rfl
   rw [e]at hv
   exact hv
  ·rename_i m e cs hu
   obtain⟨j,ej,hj,hk⟩:=h.ex
   obtain⟨us,rfl,r⟩:=mZ.Ew rx
   split at hk
   ·rename_i sz hs
    unfold Gt at hk
    split at hk
    ·rename_i k ha _
     split at hk
     ·rename_i a hg
      rw [qY]at hk
      obtain⟨v,h1,h2⟩:=r.aa8 hg
      refine⟨_,v,hk,h2,fun u q Kv _ hv=>Jz ej hu hs hj ?_ (oJ hv)⟩
      unfold part
      rw [Sem.run_bind,rO ha]
      simp [h1]
     ·exact hk.elim
    ·rename_i k ha hs'
     cases hb:Nat.ble (j*sz+k) cs.length with
     | false=>rw [hb]at hk;exact hk.elim
     | true=>
      rw [hb,cond_true,rY]at hk
      refine⟨_,_,hk,((r.drop (j*sz)).take k).agg,fun u q Kv _ hv=>Jz ej hu hs hj ?_ (oJ hv)⟩
      obtain⟨i,hi,hik⟩:=pU hs'
      simp only [part,Sem.run_bind,Sem.run_pure,Result.andThen_ok,rO ha,if_true,sizeOf,rZ hi]
      congr 2
      apply jg
      simp [hik]
    ·exact hk.elim
   ·exact hk.elim
  ·cases h
 ·cases h
theorem Rh {t ty:TypeId}{a:AV}{va:Value}(h:aeT P H t a K)(ra:mM n σ F w a va)(hH:wC n σ F w H):Ans n σ F w K S fun u q Kv=>DF P q t ty va u Kv:=by
 unfold aeT at h
 split at h
 ·rename_i s hu;rw [ra.nY];exact⟨_,_,h, .v _,fun u q Kv _ hv=>by simp only [DF,hu];exact hv⟩
 ·rename_i e sz l hu
  cases ra with
  | lst hf=>cases hf with
   | lst _ _ oa m c b o hn hc hnil ho hsz hex hrep=>exact⟨_,_,h, .v _,fun u q Kv _ hv=>by simp only [DF,hu,hn];exact hv⟩
 ·rename_i e l hu
  cases ra with
  | rH _ oa hl hn hc=>
   split at h
   ·rename_i T sz m hk
    have e:=(zW hk hH).2
    rw [hn]at e
    exact⟨_,_,h, .v _,fun u q Kv _ hv=>by simp only [DF,hu];rw [<-e]at hv;exact hv⟩
   ·rename_i sz m hk
    have e:=(DT hk hH).2
    rw [hn]at e
    exact⟨_,_,h, .v _,fun u q Kv _ hv=>by simp only [DF,hu];rw [<-e]at hv;exact hv⟩
   ·cases h
  | own _ hl=>
   split at h
   ·rename_i T sz m hk
    have e:=(zW hk hH).2
    exact⟨_,_,h, .v _,fun u q Kv _ hv=>by simp only [DF,hu,e];exact hv⟩
   ·rename_i sz m hk
    have e:=(DT hk hH).2
    exact⟨_,_,h, .v _,fun u q Kv _ hv=>by simp only [DF,hu,e];exact hv⟩
   ·cases h
 ·rename_i e l o m hu
  cases ra with
  | sub _ _ _ oa c hl hk hc hnil ho=>exact⟨_,_,h, .v _,fun u q Kv _ hv=>by simp only [DF,hu];exact hv⟩
 ·rename_i e x m c hu;rw [ra.nY];exact⟨_,_,h, .v _,fun u q Kv _ hv=>by simp only [DF,hu];exact hv⟩
 ·rename_i m e hu;exact⟨_,_,h, .v _,fun u q Kv _ hv=>by simp only [DF,hu];exact hv⟩
 ·cases h
def yB (oa:Option Addr)(i sz m:Nat):Option Addr:=if m=i then oa else oa.map (·.add (i*sz))
theorem zf {u:World}{t E:TypeId}{sz l c:Nat}{oa:Option Addr}{lo hi mx:Option Value}{i j m:Nat}(ht:P.underlying t=some (.slice E))(hs:szB P E=some sz)
  (hlo:(lo=none∧i=0)∨∃k,lo=some (.int k (i:Int))) (hhi:(hi=none∧j=l∧mx=none)∨∃k,hi=some (.int k (j:Int))) (hmx:(mx=none∧m=c)∨∃k,mx=some (.int k (m:Int)))
  (hij:i<=j) (hjm:j<=m) (hmc:m<=c):(Instr.sliceAt t (.slice oa l c) lo hi mx).run P u = .ok (.slice (yB oa i sz m) (j-i) (m-i)) u:=by
 have h1:(0:Int)<=i∧(i:Int)<=j:=⟨by omega,by omega⟩
 have h2:(0:Int)<=j∧(j:Int)<=m:=⟨by omega,by omega⟩
 have h3:(0:Int)<=m∧(m:Int)<=c:=⟨by omega,by omega⟩
 unfold Instr.sliceAt
 rw [Sem.run_bind,l7 ht]
 simp only [Result.andThen_ok]
 unfold Instr.slice
 rw [Sem.run_bind,l7 ht]
 rcases hmx with ⟨rfl,rfl⟩|⟨km,rfl⟩
 ·rcases hhi with ⟨rfl,rfl,_⟩|⟨kh,rfl⟩
  ·rcases hlo with ⟨rfl,rfl⟩|⟨kl,rfl⟩<;>simp [Instr.sliceBounds,Instr.sliceBound,asIntOf,hij,hjm,qx hs,yB]
  ·rcases hlo with ⟨rfl,rfl⟩|⟨kl,rfl⟩<;>simp [Instr.sliceBounds,Instr.sliceBound,asIntOf,hij,hjm,qx hs,yB]
 ·rcases hhi with ⟨rfl,rfl,h⟩|⟨kh,rfl⟩
  ·cases h
  ·rcases hlo with ⟨rfl,rfl⟩|⟨kl,rfl⟩<;>simp [Instr.sliceBounds,Instr.sliceBound,asIntOf,hij,hjm,hmc,qx hs,yB]
theorem JA {oa:Option Addr}{i sz m c:Nat}(hmc:m<=c)(hnil:oa=none->c=0)(h:yB oa i sz m=none):m-i=0:=by
 unfold yB at h
 split at h
 ·omega
 ·have:=hnil aaE
  omega
theorem oV.part {sz m c i j:Nat}{l:List (List FV)}{oa:Option Addr}{n':Nat}(h:oV F w (.lst sz l) (.slice oa n' c))(hij:i<=j)(hjn:j<=l.length)(hjm:j<=m)(hmc:m<=c) :
  oV F w (.lst sz ((l.take j).drop i)) (.slice (yB oa i sz m) (j-i) (m-i)):=by
 cases h with
 | lst _ _ _ _ _ b o hn hc hnil ho hsz hex hrep=>
  subst hn
  refine .lst sz _ _ _ _ b (o+i*sz) aev aai (JA hmc hnil) (fun hlt=> ?_) (fun row hr=>hsz row (bQ (dM hr))) (fun k x hk hx=> ?_) (fun k x row a v h1 h2 h3=> ?_)
  ·obtain⟨e,hF⟩:=ho aai
   refine⟨?_,hF⟩
   unfold yB
   rw [if_neg aai,e]
   simp [add0]
  ·have:=hex (i+k) x aai hx
   rw [bK]at this
   rw [show o+i*sz+(k*sz+x)=o+(i*sz+k*sz+x) by omega]
   exact this
  ·have h1':l[i+k]? = some row:=by
    rw [dO,bH]at h1
    split at h1
    ·exact h1
    ·cases h1
   refine hrep (i+k) x row a v h1' h2 ?_
   rw [bK,show o+(i*sz+k*sz+x)=o+i*sz+(k*sz+x) by omega]
   exact h3
theorem La {lo:Option AV}{WB:Option Value}{d:Int}{K:Int->Prop}(h:BQ lo d K)(r:(lo=none∧WB=none)∨∃a v,lo=some a∧WB=some v∧mM n σ F w a v) :
  ∃x,K x∧((lo=none∧WB=none∧x=d)∨∃k a,lo=some a∧WB=some (.int k x)):=by
 unfold BQ at h
 split at h
 ·rcases r with ⟨_,e⟩|⟨a,v,e,_⟩
  ·exact⟨d,h, .inl ⟨rfl,e,rfl⟩⟩
  ·cases e
 ·rename_i k x
  rcases r with ⟨e,_⟩|⟨a,v,e,e2,ra⟩
  ·cases e
  ·injection e with e
   rw [<-e]at ra
   rw [ra.nY]at e2
   exact⟨x,h, .inr ⟨k,_,rfl,e2⟩⟩
 ·cases h
theorem aeV {mx:Option AV}{Xp:Option Value}{b:Int}{m:Nat}{K:Prop}(h:QX mx b m K)(r:(mx=none∧Xp=none)∨∃a v,mx=some a∧Xp=some v∧mM n σ F w a v) :
  K∧((mx=none∧Xp=none)∨∃k z,mx=some (.v (.int k z))∧Xp=some (.int k z)∧b<=z∧z<=m):=by
 unfold QX at h
 split at h
 ·rcases r with ⟨_,e⟩|⟨a,v,e,_⟩
  ·exact⟨h, .inl ⟨rfl,e⟩⟩
  ·cases e
 ·rename_i k z
  rcases r with ⟨e,_⟩|⟨a,v,e,e2,ra⟩
  ·cases e
  ·injection e with e
   rw [<-e]at ra
   rw [ra.nY]at e2
   exact⟨h.go, .inr ⟨k,z,rfl,e2,h.req.1,h.req.2⟩⟩
 ·cases h
abbrev Ri (n:Nat)(σ:Nat->Loc)(F:Nat->Prop)(w:World)(a:Option AV)(v:Option Value):Prop:=(a=none∧v=none)∨∃x y,a=some x∧v=some y∧mM n σ F w x y
theorem BR {t E:TypeId}{sz l c:Nat}{oa:Option Addr}{lo hi mx:Option AV}{WB vhi Xp:Option Value}{K:Nat->Nat->Prop}(ht:P.underlying t=some (.slice E))(hs:szB P E=some sz)(hlc:l<=c)
  (h:BQ lo 0 fun a=>BQ hi (l:Int) fun b=>QX mx b l (uo a b l K)) (r1:Ri n σ F w lo WB) (r2:Ri n σ F w hi vhi) (r3:Ri n σ F w mx Xp) (hmx:mx≠none->hi≠none) :
  ∃i j m,K i j∧i<=j∧j<=l∧j<=m∧m<=c∧(lo=none->i=0)∧(hi=none->j=l)∧(mx=none->m=c)∧(∀k z,mx=some (.v (.int k z))->z=(m:Int))∧∀u,(Instr.sliceAt t (.slice oa l c) WB vhi Xp).run P u = .ok (.slice (yB oa i sz m) (j-i) (m-i)) u:=by
 obtain⟨x,h,c1⟩:=La h r1
 obtain⟨y,h,c2⟩:=La h r2
 obtain⟨h,c3⟩:=aeV h r3
 obtain⟨i,j,rfl,rfl,hij,hjl,hk⟩:=h.ex
 have d1:(WB=none∧i=0)∨∃k,WB=some (.int k (i:Int)):=by
  rcases c1 with ⟨_,e,e2⟩|⟨k,a,_,e⟩
  ·exact .inl ⟨e,by omega⟩
  ·exact .inr ⟨k,e⟩
 have e1:lo=none->i=0:=by
  intro e
  rcases c1 with ⟨_,_,e2⟩|⟨k,a,e3,_⟩
  ·omega
  ·rw [e]at e3;cases e3
 have e2:hi=none->j=l:=by
  intro e
  rcases c2 with ⟨_,_,e2⟩|⟨k,a,e3,_⟩
  ·omega
  ·rw [e]at e3;cases e3
 rcases c3 with ⟨rfl,rfl⟩|⟨k3,z,rfl,rfl,hz1,hz2⟩
 ·refine⟨i,j,c,hk,hij,hjl,by omega,au _,e1,e2,fun _=>rfl,(fun k z e=>by cases e),fun u=>zf ht hs d1 ?_ (.inl ⟨rfl,rfl⟩) hij aai (au _)⟩
  rcases c2 with ⟨_,e,e3⟩|⟨k,a,_,e⟩
  ·exact .inl ⟨e,by omega,rfl⟩
  ·exact .inr ⟨k,e⟩
 ·obtain⟨m,rfl⟩ : ∃m:Nat,z=m:=⟨z.toNat,by omega⟩
  refine⟨i,j,m,hk,hij,hjl,by omega,by omega,e1,e2,(fun e=>by cases e),(fun k z e=>by injection e with e;injection e with e;injection e with _ e;exact e.symm),fun u=>zf ht hs d1 ?_ (.inr ⟨k3,rfl⟩) hij aai aai⟩
  rcases c2 with ⟨e,_,_⟩|⟨k,a,_,e⟩
  ·exact absurd e (hmx abb)
  ·exact .inr ⟨k,e⟩
theorem aeW {lo hi:Option AV}{i j:Nat}{l:List (List FV)}(h1:lo=none->i=0)(h2:hi=none->j=l.length):cut lo hi i j l=(l.take j).drop i:=by
 unfold cut
 split
 ·rw [h1 rfl,h2 rfl];simp
 ·rw [h1 rfl];simp
 ·rw [h2 rfl];simp
 ·rfl
theorem TB {mD i j m c:Nat}{oa:Option Addr}{o n':Nat}(hl:mD<n)(ho:o+n'<=(σ mD).n)(hnil:oa=none->c=0)(hoa:0<n'->∃b,(σ mD).b=some b∧oa=some ⟨b,o*(σ mD).sz,none⟩)
  (hij:i<=j) (hjn:j<=n') (hjm:j<=m) (hmc:m<=c):mM n σ F w (.sub mD (o+i) (j-i)) (.slice (yB oa i (σ mD).sz m) (j-i) (m-i)):=by
 refine .sub mD (o+i) (j-i) _ _ hl aai aai (JA hmc hnil) fun hlt=> ?_
 obtain⟨b,h1,h2⟩:=hoa aai
 refine⟨b,h1, ?_⟩
 unfold yB
 rw [if_neg aai,h2]
 simp [add0,bK]
theorem akF (L:Loc):yB L.oa 0 L.sz L.c=L.oa:=by
 unfold yB
 split
 ·rfl
 ·cases L.oa with
  | none=>rfl
  | some a=>simp [Addr.add]
theorem Lc {t:TypeId}{x:AV}{lo hi mx:Option AV}{vx:Value}{WB vhi Xp:Option Value}(h:QZ P H t x lo hi mx K)(hmx:mx≠none->hi≠none)(rx:mM n σ F w x vx)(r1:Ri n σ F w lo WB)(r2:Ri n σ F w hi vhi)(r3:Ri n σ F w mx Xp)(hH:wC n σ F w H) :
  Ans n σ F w K S fun u q Kv=>nM P (Instr.sliceAt t vx WB vhi Xp) u (wr q u Kv):=by
 unfold QZ at h
 split at h
 ·rename_i hu
  split at h
  ·rename_i s
   rw [rx.nY]
   obtain⟨a,h,c1⟩:=La h r1
   obtain⟨b,h,c2⟩:=La h r2
   obtain⟨i,j,rfl,rfl,hij,hjl,hk⟩:=h.ex
   have e3:Xp=none:=by
    rcases r3 with ⟨_,e⟩|⟨_,_,e,_⟩
    ·exact e
    ·cases e
   subst e3
   refine⟨_,_,hk, .v _,fun u q Kv _ hv=> ?_⟩
   have h1:(0:Int)<=i∧(i:Int)<=j:=⟨by omega,by omega⟩
   have h2:(0:Int)<=j∧(j:Int)<=s.size:=⟨by omega,by omega⟩
   refine oQ ?_ (oJ hv)
   unfold Instr.sliceAt
   rw [Sem.run_bind,l7 hu]
   simp only [Result.andThen_ok]
   unfold Instr.slice
   rw [Sem.run_bind,l7 hu]
   rcases c1 with ⟨_,rfl,e1⟩|⟨k1,_,_,rfl⟩
   ·have e1:i=0:=aai
    subst e1
    rcases c2 with ⟨_,rfl,e2⟩|⟨k2,_,_,rfl⟩
    ·have e2:j=s.size:=aai
     subst e2
     simp [Instr.sliceBounds]
    ·simp [Instr.sliceBounds,Instr.sliceBound,asIntOf,hij,hjl]
   ·rcases c2 with ⟨_,rfl,e2⟩|⟨k2,_,_,rfl⟩
    ·have e2:j=s.size:=aai
     subst e2
     simp [Instr.sliceBounds,Instr.sliceBound,asIntOf,hij]
    ·simp [Instr.sliceBounds,Instr.sliceBound,asIntOf,hij,hjl]
  ·cases h
 ·rename_i e hu
  split at h
  ·rename_i sz hs
   split at h
   ·rename_i sz' l
    cases hb:Nat.beq sz sz' with
    | false=>rw [hb]at h;exact h.elim
    | true=>
     rw [hb,cond_true]at h
     have:=aA hb
     subst this
     cases rx with
     | lst hf=>
      obtain⟨oa,n',c,rfl,hn,hc⟩ : ∃oa m c,vx = .slice oa m c∧m=l.length∧m<=c:=by cases hf with|lst _ _ oa m c b o hn hc hnil ho hsz hex hrep=>exact⟨oa,m,c,rfl,hn,hc⟩
      subst hn
      obtain⟨i,j,m,hk,hij,hjl,hjm,hmc,e1,e2,e3,e4,hr⟩:=BR (oa:=oa) hu hs hc h r1 r2 r3 hmx
      rw [aeW e1 e2]at hk
      exact⟨_,_,hk, .lst (hf.part hij hjl hjm hmc),fun u q Kv _ hv=>oQ (hr u) (oJ hv)⟩
   ·rename_i l
    split at h
    ·rename_i m' hm
     have hsn:(σ l).sz=sz∧(σ l).n=m'∧m'<=(σ l).c∧((σ l).oa=none->(σ l).c=0)∧(0<m'->∃b,(σ l).b=some b∧(σ l).oa=some ⟨b,0,none⟩):=by
      unfold aa6 at hm
      split at hm
      ·rename_i T sz' mm hk
       cases hb:Nat.beq sz sz' with
       | false=>rw [hb]at hm;cases hm
       | true=>
        rw [hb,cond_true]at hm
        injection hm with hm
        have:=aA hb
        subst this;subst hm
        obtain⟨q1,q2,xs,hO,hR⟩:=hH _ _ hk
        refine⟨q1,q2, ?_, ?_,KY hk hH⟩
        ·rcases hO.2 with ⟨hv,h0⟩|⟨g,cap,cur,hv,_,_,hle,_⟩
         ·omega
         ·injection hv with _ _ ec;omega
        ·intro en
         rcases hO.2 with ⟨hv,h0⟩|⟨g,cap,cur,hv,_,_,hle,_⟩
         ·injection hv with _ _ ec
         ·injection hv with eo _ _;rw [en]at eo;cases eo
      ·rename_i sz' mm hk
       cases hb:Nat.beq sz sz' with
       | false=>rw [hb]at hm;cases hm
       | true=>
        rw [hb,cond_true]at hm
        injection hm with hm
        have:=aA hb
        subst this;subst hm
        obtain⟨q1,q2,hf,_⟩:=hH _ _ hk
        refine⟨q1,q2, ?_, ?_,Xo hk hH⟩
        ·cases hf with|lst _ _ _ _ _ b o hn hc hnil ho hsz hex hrep=>omega
        ·cases hf with|lst _ _ _ _ _ b o hn hc hnil ho hsz hex hrep=>exact hnil
      ·cases hm
     obtain⟨q1,q2,q3,q4,q5⟩:=hsn
     cases rx with
     | rH _ oa hl hn hc=>
      rw [hn]at q2
      subst q2
      obtain⟨i,j,m,hk,hij,hjl,hjm,hmc,e1,e2,e3,e4,hr⟩:=BR (oa:=oa) (l:=0) (c:=0) hu hs (au _) h r1 r2 r3 hmx
      have z1:i=0:=aai
      have z2:j=0:=aai
      have z3:m=0:=aai
      subst z1;subst z2;subst z3
      have hv0:Value.slice (yB oa 0 sz 0) (0-0) (0-0) = .slice oa 0 0:=by unfold yB;rw [if_pos rfl]
      rw [hv0]at hr
      split at hk
      ·exact⟨_,_,hk.go, .full l 0 oa hl (aH _) (fun h=>absurd h aai),fun u q Kv _ hv=>oQ (hr u) (oJ hv)⟩
      ·unfold QY at hk
       split at hk
       ·exact⟨_,_,hk, .rH l oa hl hn hc,fun u q Kv _ hv=>oQ (hr u) (oJ hv)⟩
       ·exact⟨_,_,hk, .sub l 0 _ oa 0 hl aai aai (fun _=>rfl) (fun h=>absurd h aai),fun u q Kv _ hv=>oQ (hr u) (oJ hv)⟩
     | own _ hl=>
      rw [q2]
      obtain⟨i,j,m,hk,hij,hjl,hjm,hmc,e1,e2,e3,e4,hr⟩:=BR (oa:=(σ l).oa) hu hs q3 h r1 r2 r3 hmx
      have hsub:mM n σ F w (.sub l i (j-i)) (.slice (yB (σ l).oa i sz m) (j-i) (m-i)):=by
       have:=TB (n:=n) (σ:=σ) (F:=F) (w:=w) (n':=m') (o:=0) (i:=i) (j:=j) (m:=m) (c:=(σ l).c) (oa:=(σ l).oa) hl aai q4 (fun h0=>by obtain⟨b,x1,x2⟩:=q5 h0;exact⟨b,x1,by rw [x2,fU]⟩) hij hjl hjm hmc
       rw [aO,q1]at this
       exact this
      split at hk
      ·rename_i k z
       have hz:=hk.req
       have hm:=e4 _ _ rfl
       have hi:=e1 rfl
       subst hi
       have akG:m=j:=aai
       subst akG
       refine⟨_,_,hk.go, .full l m _ hl aai (fun h0=> ?_),fun u q Kv _ hv=>oQ (hr u) (oJ (by rw [jK];exact hv))⟩
       obtain⟨b,x1,x2⟩:=q5 aai
       refine⟨b,x1, ?_⟩
       unfold yB
       rw [if_neg aai,x2]
       simp [add0]
      ·unfold QY at hk
       split at hk
       ·have:=e1 rfl;subst this
        have:=e2 rfl;subst this
        have:=e3 rfl;subst this
        refine⟨_,_,hk, .own l hl,fun u q Kv _ hv=>oQ (hr u) (oJ ?_)⟩
        rw [<-q1,akF,jK,jK, <-q2]
        exact hv
       ·exact⟨_,_,hk,hsub,fun u q Kv _ hv=>oQ (hr u) (oJ hv)⟩
    ·cases h
   ·rename_i l o n'
    split at h
    ·rename_i m' hm
     have q1:(σ l).sz=sz:=by
      unfold aa6 at hm
      split at hm
      ·rename_i T sz' mm hk
       cases hb:Nat.beq sz sz' with
       | false=>rw [hb]at hm;cases hm
       | true=>rw [aA hb];exact(hH _ _ hk).1
      ·rename_i sz' mm hk
       cases hb:Nat.beq sz sz' with
       | false=>rw [hb]at hm;cases hm
       | true=>rw [aA hb];exact(hH _ _ hk).1
      ·cases hm
     cases rx with
     | sub _ _ _ oa c hl hkk hc hnil ho=>
      obtain⟨i,j,m,hk,hij,hjl,hjm,hmc,e1,e2,e3,e4,hr⟩:=BR (oa:=oa) hu hs hc h r1 r2 r3 hmx
      have:=TB (n:=n) (σ:=σ) (F:=F) (w:=w) (n':=n') (o:=o) (i:=i) (j:=j) (m:=m) (c:=c) (oa:=oa) hl hkk hnil ho hij hjl hjm hmc
      rw [q1]at this
      exact⟨_,_,hk,this,fun u q Kv _ hv=>oQ (hr u) (oJ hv)⟩
    ·cases h
   ·rw [rx.nY]
    obtain⟨i,j,m,hk,hij,hjl,hjm,hmc,e1,e2,e3,e4,hr⟩:=BR (oa:=none) (l:=0) (c:=0) (K:=fun _ _=>K (.v (.slice none 0 0))) hu hs (au _) h r1 r2 r3 hmx
    have z1:i=0:=aai
    have z2:j=0:=aai
    have z3:m=0:=aai
    subst z1;subst z2;subst z3
    exact⟨_,_,hk, .v _,fun u q Kv _ hv=>oQ (hr u) (oJ hv)⟩
   ·cases h
  ·cases h
 ·cases h
theorem Fz {op:BinOp}{b:Bool}(h:Ai op b K) : ∃c,(op = .eql∧c=b∨op = .neq∧c = !b)∧K (.v (.bool c)):=by
 unfold Ai at h
 split at h
 ·exact⟨_, .inl ⟨rfl,rfl⟩,h⟩
 ·exact⟨_, .inr ⟨rfl,rfl⟩,h⟩
 ·cases h
theorem FB {op:BinOp}{t:TypeId}{x y:Operand}{va vb:Value}{b c:Bool}(u:World)(hc:op = .eql∧c=b∨op = .neq∧c = !b)(hg : ∀o:BinOp,o = .eql∨o = .neq->(eqGuard o t x y va vb).run P u = .ok () u)
  (hb1:binOp .eql t va vb=(do pure (.bool (<-Op.equal t va vb)))) (hb2:binOp .neq t va vb=(do pure (.bool (!(<-Op.equal t va vb))))) (he:(Op.equal t va vb).run P u = .ok b u) :
  (do eqGuard op t x y va vb;binOp op t va vb:Sem Value).run P u = .ok (.bool c) u:=by
 rcases hc with ⟨rfl,rfl⟩|⟨rfl,rfl⟩
 ·rw [Sem.run_bind,hg _ (.inl rfl),Result.andThen_ok,hb1,Sem.run_bind,he];rfl
 ·rw [Sem.run_bind,hg _ (.inr rfl),Result.andThen_ok,hb2,Sem.run_bind,he];rfl
theorem BU (t:TypeId)(va vb:Value) : ∃d,Op.equal t va vb=Op.equalIn (d+1) t va vb:=by
 obtain⟨d,hd⟩ : ∃d,Op.maxDepth=d+1:=⟨Op.maxDepth-1,by decide⟩
 exact⟨d,by unfold Op.equal;rw [hd]⟩
theorem NU {u:World}{t e:TypeId}{oa:Option Addr}{k c:Nat}(hu:P.underlying t=some (.slice e)):(Op.equal t (.slice oa k c) (.slice none 0 0)).run P u = .ok oa.isNone u:=by
 obtain⟨d,hd⟩:=BU t (.slice oa k c) (.slice none 0 0)
 rw [hd]
 unfold Op.equalIn
 rw [Sem.run_bind,l7 hu]
 cases oa<;>rfl
theorem VB {u:World}{t e:TypeId}{oa:Option Addr}(hu:P.underlying t=some (.pointer e)):(Op.equal t (.pointer oa) (.pointer none)).run P u = .ok oa.isNone u:=by
 obtain⟨d,hd⟩:=BU t (.pointer oa) (.pointer none)
 rw [hd]
 unfold Op.equalIn
 rw [Sem.run_bind,l7 hu]
 cases oa<;>rfl
theorem VD {u:World}{t k e:TypeId}{oa:Option Nat}(hu:P.underlying t=some (.map k e)):(Op.equal t (.map oa) (.map none)).run P u = .ok oa.isNone u:=by
 obtain⟨d,hd⟩:=BU t (.map oa) (.map none)
 rw [hd]
 unfold Op.equalIn
 rw [Sem.run_bind,l7 hu]
 cases oa<;>rfl
theorem Xq {a:AV}{va:Value}{k:Nat}(h:aeP H a=some k)(ra:mM n σ F w a va)(hH:wC n σ F w H) : ∃oa m c,va = .slice oa m c∧(0<k->oa.isNone=false):=by
 unfold aeP at h
 split at h
 ·injection h with h
  subst h
  cases ra with
  | lst hf=>cases hf with
   | lst _ _ oa m c b o hn hc hnil ho hsz hex hrep=>exact⟨oa,m,c,rfl,fun h0=>by rw [(ho aai).1];rfl⟩
 ·split at h
  ·rename_i l T sz m hk
   injection h with h
   subst h
   cases ra with
   | own _ hl=>exact⟨_,_,_,rfl,fun h0=>by obtain⟨g,_,e⟩:=KY hk hH h0;rw [e];rfl⟩
   | rH _ oa hl hn hc=>exact⟨_,_,_,rfl,fun h0=>by have:=(zW hk hH).2;omega⟩
  ·rename_i l sz m hk
   injection h with h
   subst h
   cases ra with
   | own _ hl=>exact⟨_,_,_,rfl,fun h0=>by obtain⟨g,_,e⟩:=Xo hk hH h0;rw [e];rfl⟩
   | rH _ oa hl hn hc=>exact⟨_,_,_,rfl,fun h0=>by have:=(DT hk hH).2;omega⟩
  ·cases h
 ·injection h with h
  subst h
  cases ra with
  | sub _ _ _ oa c hl hk hc hnil ho=>exact⟨_,_,_,rfl,fun h0=>by obtain⟨b,_,e⟩:=ho h0;rw [e];rfl⟩
 ·cases h
theorem FC {t:TypeId}{x y:Operand}{va vb:Value}(u:World)(h:(∀l,va≠ .agg l)∧va≠ .nilIface)(o:BinOp)(_:o = .eql∨o = .neq):(eqGuard o t x y va vb).run P u = .ok () u:=by
 unfold eqGuard
 cases o<;>cases va<;>first|rfl|exact(h.1 _ rfl).elim|exact(h.2 rfl).elim|(cases vb<;>rfl)
theorem Rj {op:BinOp}{t:TypeId}{x y:Operand}{a b:AV}{va vb:Value}(h:aeQ P H op t a b K)(ra:mM n σ F w a va)(rb:mM n σ F w b vb)(hH:wC n σ F w H) :
  Ans n σ F w K S fun u q Kv=>Dy P q op t x y va vb u Kv:=by
 unfold aeQ at h
 split at h
 ·rename_i e hu
  rw [rb.nY]
  have fin : ∀ {oa:Option Addr} {m c:Nat},va = .slice oa m c->Ai op oa.isNone K->Ans n σ F w K S fun u q Kv=>Dy P q op t x y va (.slice none 0 0) u Kv:=by
   intro oa m c ev hk
   subst ev
   obtain⟨cc,hc,hk⟩:=Fz hk
   exact⟨_,_,hk, .v _,fun u q Kv _ hv=>oQ (FB u hc (FC u ⟨(fun l e=>by cases e),(fun e=>by cases e)⟩) rfl rfl (NU hu)) (oJ hv)⟩
  split at h
  ·exact fin ra.nY h
  ·split at h
   ·rename_i k hk
    obtain⟨oa,m,c,ev,hz⟩:=Xq hk ra hH
    exact fin ev (h.ex _ hz)
   ·cases h
 ·rename_i e hu
  rw [rb.nY]
  have fin : ∀ {oa:Option Addr},va = .pointer oa->Ai op oa.isNone K->Ans n σ F w K S fun u q Kv=>Dy P q op t x y va (.pointer none) u Kv:=by
   intro oa ev hk
   subst ev
   obtain⟨cc,hc,hk⟩:=Fz hk
   exact⟨_,_,hk, .v _,fun u q Kv _ hv=>oQ (FB u hc (FC u ⟨(fun l e=>by cases e),(fun e=>by cases e)⟩) rfl rfl (VB hu)) (oJ hv)⟩
  split at h
  ·exact fin ra.nY h
  ·cases hp:ah9 a with
   | false=>rw [hp]at h;exact h.elim
   | true=>
    rw [hp,cond_true]at h
    have : ∃p,va = .pointer (some p):=by
     cases ra with
     | ptr l o b hl hb=>exact⟨_,rfl⟩
     | ep l i o b hl hb=>exact⟨_,rfl⟩
     | fp hf=>cases hf;exact⟨_,rfl⟩
     | _=>cases hp
    obtain⟨p,ev⟩:=this
    exact fin ev h
 ·rename_i e1 e2 hu
  rw [rb.nY]
  have fin : ∀ {oa:Option Nat},va = .map oa->Ai op oa.isNone K->Ans n σ F w K S fun u q Kv=>Dy P q op t x y va (.map none) u Kv:=by
   intro oa ev hk
   subst ev
   obtain⟨cc,hc,hk⟩:=Fz hk
   exact⟨_,_,hk, .v _,fun u q Kv _ hv=>oQ (FB u hc (FC u ⟨(fun l e=>by cases e),(fun e=>by cases e)⟩) rfl rfl (VD hu)) (oJ hv)⟩
  split at h
  ·exact fin ra.nY h
  ·cases ra with|mp _ b hl hb=>exact fin rfl h
  ·cases ra with|fm hf=>cases hf with|fm _ b _ _=>exact fin rfl h
  ·cases h
 ·rename_i e1 e2 e3 hu
  rw [rb.nY]
  have fin : ∀ {bb:Bool},((∀l,va≠ .agg l)∧va≠ .nilIface)->binOp .eql t va .nilFunc=(do pure (.bool (<-Op.equal t va .nilFunc)))->binOp .neq t va .nilFunc=(do pure (.bool (!(<-Op.equal t va .nilFunc))))->(∀u,(Op.equal t va .nilFunc).run P u = .ok bb u)->(∀u q Kv,nM P (do eqGuard op t x y va .nilFunc;binOp op t va .nilFunc) u (wr q u Kv)->Dy P q op t x y va .nilFunc u Kv)->Ai op bb K->Ans n σ F w K S fun u q Kv=>Dy P q op t x y va .nilFunc u Kv:=by
   intro bb h1 h2 h3 h4 h5 hk
   obtain⟨cc,hc,hk⟩:=Fz hk
   exact⟨_,_,hk, .v _,fun u q Kv _ hv=>h5 u q Kv (oQ (FB u hc (FC u h1) h2 h3 (h4 u)) (oJ hv))⟩
  have aea : ∀(u:World) (f:Fn) (p r:Array Value),(Op.equal t (.func f p r) .nilFunc).run P u = .ok false u:=fun u f p r=>by
   obtain⟨d,hd⟩:=BU t (.func f p r) .nilFunc
   rw [hd]
   unfold Op.equalIn
   rw [Sem.run_bind,l7 hu]
   rfl
  split at h
  ·cases ra with
   | fn f xs ys us vs hx hy rx ry=>exact fin ⟨(fun l e=>by cases e),(fun e=>by cases e)⟩ rfl rfl (fun u=>aea u _ _ _) (fun u q Kv h=>h) h
  ·have ev:=ra.nY
   subst ev
   exact fin ⟨(fun l e=>by cases e),(fun e=>by cases e)⟩ rfl rfl (fun u=>aea u _ _ _) (fun u q Kv h=>h) h
  ·have ev:=ra.nY
   subst ev
   refine fin ⟨(fun l e=>by cases e),(fun e=>by cases e)⟩ rfl rfl (fun u=> ?_) (fun u q Kv h=>h) h
   obtain⟨d,hd⟩:=BU t .nilFunc .nilFunc
   rw [hd]
   unfold Op.equalIn
   rw [Sem.run_bind,l7 hu]
   rfl
  ·cases h
 ·cases h
theorem Rk {op:BinOp}{t:TypeId}{x y:Operand}{a b:AV}{va vb:Value}(h:aeR P H op t a b K)(ra:mM n σ F w a va)(rb:mM n σ F w b vb)(hH:wC n σ F w H) :
  Ans n σ F w K S fun u q Kv=>Dy P q op t x y va vb u Kv:=by
 unfold aeR at h
 split at h
 ·rename_i k m k' n'
  rw [ra.nY,rb.nY]
  split at h
  ·obtain⟨a,v,h1,h2,h3⟩:=AX (n:=n) (σ:=σ) (F:=F) (w:=w) (S:=S) h;exact⟨a,v,h1,h2,h3⟩
  ·obtain⟨a,v,h1,h2,h3⟩:=AX (n:=n) (σ:=σ) (F:=F) (w:=w) (S:=S) h;exact⟨a,v,h1,h2,h3⟩
  ·rename_i op' h1 h2
   cases hk:decide (k=k')with
   | false=>rw [hk]at h;exact h.elim
   | true=>
    rw [hk,cond_true]at h
    obtain⟨a,v,g1,g2,g3⟩:=AX (n:=n) (σ:=σ) (F:=F) (w:=w) (S:=S) h
    refine⟨a,v,g1,g2,fun u q Kv hs hv=> ?_⟩
    have:=g3 u q Kv hs hv
    cases op<;>first|exact(h1 rfl).elim|exact(h2 rfl).elim|(simp only [Dy,hk,cond_true];exact this)
 ·rw [ra.nY,rb.nY]
  obtain⟨a,v,g1,g2,g3⟩:=Rf (n:=n) (σ:=σ) (F:=F) (w:=w) (S:=S) h
  exact⟨a,v,g1,g2,g3⟩
 ·rename_i m n'
  rw [ra.nY,rb.nY]
  split at h
  ·split at h
   ·rename_i hu
    exact⟨_,_,h, .v _,fun u q Kv _ hv=>by simp only [Dy,hu];exact hv⟩
   ·cases h
  ·split at h
   ·rename_i hu
    exact⟨_,_,h, .v _,fun u q Kv _ hv=>by simp only [Dy,hu];exact hv⟩
   ·cases h
  ·cases h
 ·rename_i xs ys
  obtain⟨us',rfl,rx⟩:=mZ.Ew ra
  obtain⟨vs',rfl,ry⟩:=mZ.Ew rb
  split at h
  ·rename_i us vs hus hvs
   have e1:=Gx hus rx
   have e2:=Gx hvs ry
   subst e1;subst e2
   split at h
   ·rename_i b hb
    split at h
    ·exact⟨_,_,h.go, .v _,fun u q Kv _ hv=>aeL h.g h.p h.u hb (oJ hv)⟩
    ·exact⟨_,_,h.go, .v _,fun u q Kv _ hv=>aeK h.g h.p h.u hb (oJ hv)⟩
    ·cases h
   ·cases h
  ·cases h
 ·exact Rj h ra rb hH
theorem Xr {k:IntKind}{u:World} : ∀ {r:List AV} {x m:Int} {vs:List Value},minL x r=some m->mZ n σ F w r vs->(vs.foldlM Builtin.min2 (.int k x)).run P u = .ok (.int k m) u:=by
 intro r
 induction r with
 | nil=>intro x m vs h rr;cases vs with
  | nil=>injection h with h;subst h;rfl
  | cons _ _=>exact rr.elim
 | cons a r ih=>intro x m vs h rr;cases vs with
  | nil=>exact rr.elim
  | cons v vs=>
   unfold minL at h
   split at h
   ·rename_i e;cases e
   ·rename_i q y r' e
    injection e with e1 e2
    subst e1;subst e2
    have e1:=rr.1.nY
    subst e1
    have e:Builtin.min2 (.int k x) (.int q y)=pure (.int k (if y<x then y else x)):=rfl
    rw [kQ,Sem.run_bind,e,Sem.run_pure,Result.andThen_ok,Kz]
    exact ih h rr.2
   ·cases h
theorem Ld {b:Builtin}{ts:List TypeId}{ty:TypeId}{as:List AV}{vs:List Value}(h:Q7 P H b ts as K)(r:mZ n σ F w as vs)(hH:wC n σ F w H):Ans n σ F w K S fun u q Kv=>Az P q b ts ty vs u Kv:=by
 unfold Q7 at h
 split at h
 ·rename_i t a
  obtain⟨v,rfl,ra⟩ : ∃v,vs = [v]∧mM n σ F w a v:=by
   match vs,r with
   | [v],r=>exact⟨v,rfl,r.1⟩
  obtain⟨a',v',h1,h2,h3⟩:=Rh (S:=S) (ty:=ty) h ra hH
  exact⟨a',v',h1,h2,h3⟩
 rotate_left 4
 ·rename_i k x k1 y k2 z rr
  split at h
  ·rename_i m hm
   obtain⟨v1,v2,v3,vr,rfl,r1,r2,r3,r4⟩ : ∃v1 v2 v3 vr,vs=v1::v2::v3::vr∧mM n σ F w _ v1∧mM n σ F w _ v2∧mM n σ F w _ v3∧mZ n σ F w rr vr:=by
    match vs,r with
    | v1::v2::v3::vr,r=>exact⟨v1,v2,v3,vr,rfl,r.1,r.2.1,r.2.2.1,r.2.2.2⟩
   have e1:=r1.nY
   have e2:=r2.nY
   have e3:=r3.nY
   subst e1;subst e2;subst e3
   refine⟨_,_,h, .v _,fun u q Kv _ hv=> ?_⟩
   show nM P (Builtin.min_ ts.toArray ty (Value.int k x::Value.int k1 y::Value.int k2 z::vr).toArray) u (wr q u Kv)
   have hrun:(Builtin.min_ ts.toArray ty (Value.int k x::Value.int k1 y::Value.int k2 z::vr).toArray).run P u = .ok (.int k m) u:=by
    have e : ∀(k q:IntKind) (x y:Int),Builtin.min2 (.int k x) (.int q y)=pure (.int k (if y<x then y else x)):=fun _ _ _ _=>rfl
    unfold Builtin.min_
    dsimp only
    rw [kQ,Sem.run_bind,e,Sem.run_pure,Result.andThen_ok,Kz,kQ,Sem.run_bind,e,Sem.run_pure,Result.andThen_ok,Kz]
    exact Xr hm r4
   refine oQ hrun ?_
   cases q
   ·exact hv
   ·exact nO.mk rfl hv
  ·cases h
 all_goals first
  | exact h.elim
  | (
   obtain⟨v1,v2,rfl,r1,r2⟩ : ∃v1 v2,vs = [v1,v2]∧mM n σ F w _ v1∧mM n σ F w _ v2:=by
    match vs,r with
    | [v1,v2],r=>exact⟨v1,v2,rfl,r.1,r.2.1⟩
   have e1:=r1.nY
   have e2:=r2.nY
   subst e1;subst e2
   refine⟨_,_,h, .v _,fun u q Kv _ hv=> ?_⟩
   exact hv)
theorem Rl (hr : ∀s,mM n σ F w (nZ s) (ρ s))(x:Option Operand):Ri n σ F w (x.map (oW nZ)) (x.map (qC ρ)):=by
 cases x with
 | none=>exact .inl ⟨rfl,rfl⟩
 | some x=>exact .inr ⟨_,_,rfl,rfl,ni hr x⟩
theorem aeX (x:FV)(v:Value)(h:oV F w x v):mM n σ F w x.val v:=by
 cases x with
 | v y=>cases h;exact tC _
 | _=>exact h.up
theorem wI.upL {xs:List FV}{vs:List Value}(r:wI F w xs vs):mZ n σ F w (xs.map FV.up) vs:=by
 induction xs generalizing vs with
 | nil=>cases vs with
  | nil=>trivial
  | cons _ _=>cases r.1
 | cons x xs ih=>cases vs with
  | nil=>cases r.1
  | cons v vs=>exact⟨(r.2 0 x v rfl rfl).up,ih ⟨by have:=r.1;simpa using this,fun j a u h1 h2=>r.2 (j+1) a u h1 h2⟩⟩
theorem Jb {Hr:lI}{t:TypeId}{m k:AV}{ok:Bool}{vm vk:Value}(h:KO P Hr t m k ok K)(rm:mM n σ F w m vm)(rk:mM n σ F w k vk)(hHr:wC n σ F w Hr)(hS : ∀u,S u->uq σ F Hr w u) :
  Ans n σ F w K S fun u q Kv=>nM P (Instr.lookup t vm vk ok) u (wr q u Kv):=by
 unfold KO at h
 split at h
 ·rename_i l s
  rw [rk.nY]
  cases rm with
  | mp _ b hl hb=>
   split at h
   ·rename_i kt et M hu hk
    split at h
    ·rename_i z hkt hz
     obtain⟨g,hg,hM⟩:=hHr _ _ hk
     rw [hb]at hg
     injection hg with hg
     subst hg
     cases ok with
     | true=>
      refine⟨_, .tuple #[(M s).getD z, .bool (M s).isSome],h.ex, ?_,fun u q Kv hu' hv=>BM hu hkt hz (hM.heap ((hS u hu').h l _ b hk rfl (.inl hb))) (oJ hv)⟩
      exact mZ.og (as:= [Np ((M s).getD z), .v (.bool (M s).isSome)]) (vs:= [(M s).getD z, .bool (M s).isSome]) ⟨tC _, .v _,trivial⟩
     | false=>
      exact⟨_,_,h.ex,tC _,fun u q Kv hu' hv=>zS hu hkt hz (hM.heap ((hS u hu').h l _ b hk rfl (.inl hb))) (oJ hv)⟩
    ·cases h
   ·rename_i kt et M hu hk
    split at h
    ·rename_i z hkt hz
     obtain⟨g,hg,hf⟩:=hHr _ _ hk
     rw [hb]at hg
     injection hg with hg
     subst hg
     cases hf with
     | fm _ _ hF hM=>
      cases ok with
      | true=>
       refine⟨_, .tuple #[(M s).getD z, .bool (M s).isSome],h.ex, ?_,fun u q Kv hu' hv=>BM hu hkt hz (hM.heap ((hS u hu').f b hF)) (oJ hv)⟩
       exact mZ.og (as:= [Np ((M s).getD z), .v (.bool (M s).isSome)]) (vs:= [(M s).getD z, .bool (M s).isSome]) ⟨tC _, .v _,trivial⟩
      | false=>
       exact⟨_,_,h.ex,tC _,fun u q Kv hu' hv=>zS hu hkt hz (hM.heap ((hS u hu').f b hF)) (oJ hv)⟩
    ·cases h
   ·rename_i kt et M hu hk
    split at h
    ·rename_i z hkt hz
     obtain⟨g,hg,V,hM,hV⟩:=hHr _ _ hk
     rw [hb]at hg
     injection hg with hg
     subst hg
     have NV:=hV s
     have key : ∃a b,(match ok with|true=>K (.og [a, .v (.bool b)])|false=>K a)∧mM n σ F w a ((V s).getD z)∧b=(V s).isSome:=by
      cases hMi:M s with
      | none=>
       rw [hMi]at NV
       cases hVv:V s with
       | none=>exact⟨_,_,h.no hMi,tC _,rfl⟩
       | some v=>rw [hVv]at NV;exact NV.elim
      | some x=>
       rw [hMi]at NV
       cases hVv:V s with
       | none=>rw [hVv]at NV;exact NV.elim
       | some v=>rw [hVv]at NV;obtain⟨vs,e,r⟩:=NV;exact⟨_,_,h.yes x hMi,by show mM n σ F w _ v;rw [e];exact r.upL.agg,rfl⟩
     obtain⟨a,bb,hK,ha,rfl⟩:=key
     cases ok with
     | true=>
      refine⟨_, .tuple #[(V s).getD z, .bool (V s).isSome],hK, ?_,fun u q Kv hu' hv=>BM hu hkt hz (hM.heap ((hS u hu').h l _ b hk rfl (.inl hb))) (oJ hv)⟩
      exact mZ.og (as:= [a, .v (.bool (V s).isSome)]) (vs:= [(V s).getD z, .bool (V s).isSome]) ⟨ha, .v _,trivial⟩
     | false=>
      exact⟨_,_,hK,ha,fun u q Kv hu' hv=>zS hu hkt hz (hM.heap ((hS u hu').h l _ b hk rfl (.inl hb))) (oJ hv)⟩
    ·cases h
   ·cases h
 ·rename_i M s
  rw [rk.nY]
  split at h
  ·rename_i kt et hu
   split at h
   ·rename_i z hkt hz
    cases rm with
    | fm hf=>cases hf with
     | fm _ b hF hM=>
      cases ok with
      | true=>
       refine⟨_, .tuple #[(M s).getD z, .bool (M s).isSome],h.ex, ?_,fun u q Kv hu' hv=>BM hu hkt hz (hM.heap ((hS u hu').f b hF)) (oJ hv)⟩
       exact mZ.og (as:= [Np ((M s).getD z), .v (.bool (M s).isSome)]) (vs:= [(M s).getD z, .bool (M s).isSome]) ⟨tC _, .v _,trivial⟩
      | false=>
       exact⟨_,_,h.ex,tC _,fun u q Kv hu' hv=>zS hu hkt hz (hM.heap ((hS u hu').f b hF)) (oJ hv)⟩
   ·cases h
  ·cases h
 ·rename_i l i
  rw [rk.nY]
  cases rm with
  | mp _ b hl hb=>
   split at h
   ·rename_i kt et M hu hk
    split at h
    ·rename_i z hkt hz
     obtain⟨g,hg,V,hM,hV⟩:=hHr _ _ hk
     rw [hb]at hg
     injection hg with hg
     subst hg
     have NV:=hV i
     have key : ∃a b,(match ok with|true=>K (.og [a, .v (.bool b)])|false=>K a)∧mM n σ F w a ((V i).getD z)∧b=(V i).isSome:=by
      cases hMi:M i with
      | none=>
       rw [hMi]at NV
       cases hVv:V i with
       | none=>exact⟨_,_,h.no hMi,tC _,rfl⟩
       | some v=>rw [hVv]at NV;exact NV.elim
      | some x=>
       rw [hMi]at NV
       cases hVv:V i with
       | none=>rw [hVv]at NV;exact NV.elim
       | some v=>rw [hVv]at NV;exact⟨_,_,h.yes x hMi,aeX x v NV,rfl⟩
     obtain⟨a,bb,hK,ha,rfl⟩:=key
     cases ok with
     | true=>
      refine⟨_, .tuple #[(V i).getD z, .bool (V i).isSome],hK, ?_,fun u q Kv hu' hv=>Xf hu hkt hz (hM.heap ((hS u hu').h l _ b hk rfl (.inl hb))) (oJ hv)⟩
      exact mZ.og (as:= [a, .v (.bool (V i).isSome)]) (vs:= [(V i).getD z, .bool (V i).isSome]) ⟨ha, .v _,trivial⟩
     | false=>
      exact⟨_,_,hK,ha,fun u q Kv hu' hv=>Vt hu hkt hz (hM.heap ((hS u hu').h l _ b hk rfl (.inl hb))) (oJ hv)⟩
    ·cases h
   ·cases h
 ·cases h
def wV (o:Oper):Bool:=match o.op with | .slice _ _ _ hi mx=> !mx.isSome||hi.isSome|_=>true
theorem Gz {Hr:lI}{o:Oper}(h:aQ P Hr H o nZ K)(hi:wV o=true)(hHr:wC n σ F w Hr)(hH:wC n σ F w H)(hr : ∀s,mM n σ F w (nZ s) (ρ s)):Ans n σ F w K (uq σ F Hr w) fun u q Kv=>F9 P q o ρ u Kv:=by
 unfold aQ at h
 unfold F9
 cases ho:o.op<;>simp only [ho]at h ⊢ <;>try exact h.elim
 case move x=>rw [qY]at h;exact⟨_,_,h,ni hr x,fun u q Kv _ hv=>by simp only [force_eq];exact hv⟩
 case assign x=>rw [qY]at h;exact⟨_,_,h,ni hr x,fun u q Kv _ hv=>by simp only [force_eq];exact hv⟩
 case pick c a b=>
  have rc:=ni hr c
  have ra:=ni hr a
  have rb:=ni hr b
  split at h
  ·rename_i t hc
   rw [hc]at rc
   rw [rc.nY]
   split at h
   ·rename_i x y ha hb
    rw [ha]at ra;rw [hb]at rb
    rw [ra.nY,rb.nY]
    exact⟨_,_,h, .v _,fun u q Kv _ hv=>hv⟩
   ·cases t with
    | true=>
     refine⟨_,_,h,ra,fun u q Kv _ hv=> ?_⟩
     dsimp only
     split
     ·rename_i x y e1 e2;rw [e1]at hv;exact hv
     ·exact hv
    | false=>
     refine⟨_,_,h,rb,fun u q Kv _ hv=> ?_⟩
     dsimp only
     split
     ·rename_i x y e1 e2;rw [e2]at hv;exact hv
     ·exact hv
  ·cases h
 case build t parts=>
  rw [rY]at h
  obtain⟨a,v,h1,h2,h3⟩:=KW (S:=uq σ F Hr w) h (Ju hr parts.toList)
  exact⟨a,v,h1,h2,fun u q Kv hu hv=>by simp only [nU];exact h3 u q Kv hu hv⟩
 case load t a=>
  obtain⟨p,hp,a',v,h1,h2,h3⟩:=Ey h (ni hr a) hHr
  rw [hp]
  exact⟨a',v,h1,h2,h3⟩
 case nilCheck x=>
  have rx:=ni hr x
  split at h
  ·rename_i l o' hx
   rw [hx]at rx
   have : ∃p,qC ρ x = .pointer (some p):=by generalize qC ρ x=z at rx;cases rx;exact⟨_,rfl⟩
   obtain⟨p,hp⟩:=this
   rw [hp]at rx ⊢
   exact⟨_,_,h,rx,fun u q Kv _ hv=>hv⟩
  ·rename_i l i o' hx
   rw [hx]at rx
   have : ∃p,qC ρ x = .pointer (some p):=by generalize qC ρ x=z at rx;cases rx;exact⟨_,rfl⟩
   obtain⟨p,hp⟩:=this
   rw [hp]at rx ⊢
   exact⟨_,_,h,rx,fun u q Kv _ hv=>hv⟩
  ·rename_i cs o' hx
   rw [hx]at rx
   have : ∃p,qC ρ x = .pointer (some p):=by generalize qC ρ x=z at rx;cases rx with|fp hf=>cases hf;exact⟨_,rfl⟩
   obtain⟨p,hp⟩:=this
   rw [hp]at rx ⊢
   exact⟨_,_,h,rx,fun u q Kv _ hv=>hv⟩
  ·cases h
 case binOp op t x y yt=>
  rw [qY,qY]at h
  exact Rk h (ni hr x) (ni hr y) hH
 case unOp op t x=>
  rw [qY]at h
  exact Vz h (ni hr x)
 case convert src dst x=>
  rw [qY]at h
  exact NT h (ni hr x) hHr (fun u hu=>hu)
 case lookup t m k ok=>
  rw [qY,qY]at h
  obtain⟨a,v,h1,h2,h3⟩:=Jb (S:=uq σ F Hr w) h (ni hr m) (ni hr k) hHr (fun u hu=>hu)
  exact⟨a,v,h1,h2,fun u q Kv hu hv=>by simp only [force_eq];exact h3 u q Kv hu hv⟩
 case makeFunc fn first captured=>
  rw [rY,rY]at h
  have r1:=uw hr first.toList
  have r2:=uw hr captured.toList
  exact⟨_,_,h, .fn fn _ _ _ _ r1.len r2.len r1.at r2.at,fun u q Kv _ hv=>by simp only [vJ,nU];exact hv⟩
 case slice t x lo hi' mx=>
  simp only [qY,aeN]at h
  have hm:mx.map (oW nZ)≠none->hi'.map (oW nZ)≠none:=by
   intro e e2
   simp only [wV,ho]at hi
   cases mx with
   | none=>exact e rfl
   | some m=>cases hi' with
    | none=>simp at hi
    | some y=>cases e2
  obtain⟨a,v,h1,h2,h3⟩:=Lc (S:=uq σ F Hr w) h hm (ni hr x) (Rl hr lo) (Rl hr hi') (Rl hr mx) hH
  exact⟨a,v,h1,h2,fun u q Kv hu hv=>by simp only [force_eq,Dx];exact h3 u q Kv hu hv⟩
 case fieldAddr t x f=>
  have rx:=ni hr x
  unfold Gq at h
  split at h
  ·rename_i d l o' hd hx
   rw [hx]at rx
   generalize qC ρ x=z at rx ⊢
   cases rx with
   | ptr _ _ b hl hb=>exact⟨_,_,h, .ptr _ _ b hl hb,fun u q Kv _ hv=>AY hd _ u Kv (by rw [add0];exact hv)⟩
  ·rename_i d l i o' hd hx
   rw [hx]at rx
   generalize qC ρ x=z at rx ⊢
   cases rx with
   | ep _ _ _ b hl hb=>exact⟨_,_,h, .ep _ _ _ b hl hb,fun u q Kv _ hv=>AY hd _ u Kv (by rw [add0,fF];exact hv)⟩
  ·rename_i d cs o' hd hx
   rw [hx]at rx
   generalize qC ρ x=z at rx ⊢
   cases rx with
   | fp hf=>cases hf with
    | fp _ _ b off hb hex hrep=>exact⟨_,_,h, .fp (.fp _ _ b off hb hex hrep),fun u q Kv _ hv=>AY hd _ u Kv (by rw [add0,fF];exact hv)⟩
  ·cases h
 case field t x f=>
  have rx:=ni hr x
  split at h
  ·rename_i cs hx
   rw [hx]at rx
   obtain⟨us,e,r⟩:=mZ.Ew rx
   rw [e]
   exact KU h r
  ·cases h
 case indexAddr t x i=>
  rw [qY,qY]at h
  obtain⟨a,v,h1,h2,h3⟩:=DU (S:=uq σ F Hr w) h (ni hr x) (ni hr i) hH
  exact⟨a,v,h1,h2,fun u q Kv hu hv=>by simp only [force_eq];exact h3 u q Kv hu hv⟩
 case index t x i=>
  rw [qY,qY]at h
  obtain⟨a,v,h1,h2,h3⟩:=KZ (S:=uq σ F Hr w) h (ni hr x) (ni hr i)
  exact⟨a,v,h1,h2,fun u q Kv hu hv=>by simp only [force_eq];exact h3 u q Kv hu hv⟩
 case extract t i=>
  have rt:=ni hr t
  split at h
  ·rename_i vs hx
   rw [hx]at rt
   split at h
   ·rename_i a ha
    rw [qY]at h
    generalize qC ρ t=z at rt ⊢
    cases rt with
    | og _ us hl rx=>
     have r:mZ n σ F w vs us:= .of hl rx
     obtain⟨v,h1,h2⟩:=r.aa8 ha
     exact⟨_,v,h,h2,fun u q Kv _ hv=>by simp only [h1];exact hv⟩
   ·cases h
  ·cases h
 case call c=>
  obtain⟨callee,args,ats⟩:=c
  cases callee with
  | builtin b=>
   simp only at h
   rw [rY]at h
   obtain⟨a,v,h1,h2,h3⟩:=Ld (S:=uq σ F Hr w) (ty:=o.type) h (uw hr args.toList) hH
   exact⟨a,v,h1,h2,fun u q Kv hu hv=>by simp only [Eo,vJ,nU];exact h3 u q Kv hu hv⟩
  | _=>exact h.elim
end
end Go.Proofs.YtnandbihiceihaaGreatDoor.Ax
