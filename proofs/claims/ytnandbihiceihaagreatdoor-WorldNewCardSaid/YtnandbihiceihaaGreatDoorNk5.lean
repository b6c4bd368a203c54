/- Joined parts of the proof. The soundness of the operations that only read -/
import Derived.Laws.Runes
import Derived.Test.YtnandbihiceihaaGreatDoorNk4
set_option linter.unusedVariables false
set_option linter.unusedSimpArgs false
set_option maxRecDepth 100000
set_option maxHeartbeats 16000000
namespace Go.Proofs.YtnandbihiceihaaGreatDoor.Ax
open RowKit Vc
def qZ (n:Nat)(σ:Nat->Loc)(F:Nat->Prop)(w:World)(H:jI):Prop:= ∀jT blk,look H jT=some blk->qW n σ F w (σ jT) blk
structure qh (σ:Nat->Loc)(F:Nat->Prop)(H:jI)(w u:World):Prop where
 f : ∀b,F b->u.heap[b]? = w.heap[b]?
 h : ∀jT blk g,look H jT=some blk->blk.own=true->oW w (σ jT) blk g->u.heap[g]? = w.heap[g]?
theorem qh.refl (σ:Nat->Loc)(F:Nat->Prop)(H:jI)(w:World):qh σ F H w w:=⟨fun _ _=>rfl,fun _ _ _ _ _ _=>rfl⟩
theorem lu {q:Bool}{u:World}{K:Value->World->Prop}{v:Value}(h:K v u):wr q u K v u:=by
 cases q with
 | false=>exact h
 | true=>exact⟨rfl,h⟩
theorem jX.kR {n:Nat}{σ:Nat->Loc}{F:Nat->Prop}{w:World}{x v:Value}(h:jX n σ F w (.v x) v):v=x:=by cases h;rfl
theorem pF {n:Nat}{σ:Nat->Loc}{F:Nat->Prop}{w:World}(v:Value):jX n σ F w (FB v) v:=by
 have key : ∀(cs:List Value),kD n σ F w (cs.map .v) cs:=fun cs=> .of aaA fun j a v h1 h2=>by
  rw [aI,h2]at h1
  simp only [bn,aA]at h1
  rw [<-h1];exact .v _
 cases v with
 | agg cs=>have:=(key cs.toList).agg;rw [fP]at this;exact this
 | tuple cs=>have:=(key cs.toList).kZ;rw [fP]at this;exact this
 | _=>exact .v _
def Ans (n:Nat)(σ:Nat->Loc)(F:Nat->Prop)(w:World)(K:AV->Prop)(S:World->Prop)(X:World->Bool->(Value->World->Prop)->Prop):Prop:=
 ∃a v,K a∧jX n σ F w a v∧∀u q (Kv:Value->World->Prop),S u->Kv v u->X u q Kv
section
variable {P:Program}{n:Nat}{σ:Nat->Loc}{F:Nat->Prop}{w:World}{H:jI}{kS:jM}{ρ:jU}{K:AV->Prop}{S:World->Prop}
theorem kC (hr : ∀s,jX n σ F w (kS s) (ρ s))(x:Operand):jX n σ F w (lK kS x) (mQ ρ x):=by
 cases x with
 | tmp t=>exact hr t
 | const v=>exact pF v
 | global g=>exact .v _
 | func f=>exact .v _
theorem qj (hr : ∀s,jX n σ F w (kS s) (ρ s))(xs:List Operand):kD n σ F w (xs.map (lK kS)) (xs.map (mQ ρ)):=by
 induction xs with
 | nil=>trivial
 | cons x r ih=>exact⟨kC hr x,ih⟩
theorem CW (hr : ∀s,jX n σ F w (kS s) (ρ s))(xs:List (Nat×Operand)):kD n σ F w (xs.map fun p=>lK kS p.2) (xs.map fun p=>mQ ρ p.2):=by
 induction xs with
 | nil=>trivial
 | cons x r ih=>exact⟨kC hr x.2,ih⟩
theorem vV {op:BinOp}{k:IntKind}{a b:Int}(h:Np op k a b K):Ans n σ F w K S fun u _ Kv=>H8 op k a b u Kv:=by
 cases op<;>simp only [Np]at h
 case add=>exact⟨_,_,h.ex, .v _,fun u q Kv _ hk=>hk⟩
 case sub=>exact⟨_,_,h.ex, .v _,fun u q Kv _ hk=>hk⟩
 case mul=>exact⟨_,_,h.ex, .v _,fun u q Kv _ hk=>hk⟩
 case quo=>exact⟨_,_,h.go.ex, .v _,fun u q Kv _ hk=>⟨h.req,hk⟩⟩
 case rem=>exact⟨_,_,h.go, .v _,fun u q Kv _ hk=>⟨h.req,hk⟩⟩
 case shl=>exact⟨_,_,h.go.ex, .v _,fun u q Kv _ hk=>⟨h.req,hk⟩⟩
 case shr=>exact⟨_,_,h.go, .v _,fun u q Kv _ hk=>⟨h.req,hk⟩⟩
 all_goals exact⟨_,_,h, .v _,fun u q Kv _ hk=>hk⟩
theorem IJ {op:BinOp}{a b:ByteArray}(h:Vw op a b K):Ans n σ F w K S fun u _ Kv=>Qv op a b u Kv:=by
 cases op<;>simp only [Vw]at h
 case add=>exact⟨_,_,h.go, .v _,fun u q Kv _ hk=>⟨h.req,hk⟩⟩
 all_goals first|exact h.elim|exact⟨_,_,h, .v _,fun u q Kv _ hk=>hk⟩
theorem Af : ∀ {xs:List AV} {us vs:List Value},valsOf xs=some us->kD n σ F w xs vs->vs=us:=by
 intro xs
 induction xs with
 | nil=>intro us vs h r;cases vs with
  | nil=>simp only [valsOf,aA]at h;exact h
  | cons _ _=>exact r.elim
 | cons x xs ih=>intro us vs h r;cases vs with
  | nil=>exact r.elim
  | cons v vs=>
   cases x<;>simp only [valsOf]at h<;>try cases h
   split at h
   ·rename_i l hl
    injection h with h
    rw [<-h,ih hl r.2,r.1.kR]
   ·cases h
theorem Nw {P:Program}{w:World}{K:Value->World->Prop}{k:IntKind}{n:Int}(c:K (.int k (kJ .xor k (bif k.signed then -1 else k.max) n)) w):kG P (Op.unary .xor (.int k n)) w K:=by
 have e:(bif k.signed then(-1:Int)else k.max)=if k.signed then -1 else k.max:=by cases k.signed<;>rfl
 rw [e]at c
 refine lJ ?_ c
 simp [Op.unary,Op.intBits,kJ]
theorem KY {op:UnOp}{a:AV}{va:Value}(h:ZY op a K)(ra:jX n σ F w a va):Ans n σ F w K S fun u q Kv=>ZB P q op va u Kv:=by
 unfold ZY at h
 split at h
 ·rw [ra.kR];exact⟨_,_,h, .v _,fun u q Kv _ hv=>hv⟩
 ·rw [ra.kR];exact⟨_,_,h.ex, .v _,fun u q Kv _ hv=>hv⟩
 ·rename_i k n
  rw [ra.kR];exact⟨_,_,h, .v _,fun u q Kv _ hv=>Nw (lu hv)⟩
 ·cases h
theorem kD.QK {as:List AV}{vs:List Value}{o:Nat}{a:AV}(r:kD n σ F w as vs)(h:as[o]? = some a) : ∃v,vs[o]? = some v∧jX n σ F w a v:=by
 have hl:=r.len
 have ho:=(aF.1 h).1
 exact⟨vs[o],aB aad,r.at o a _ h (aB aad)⟩
theorem DT {t:TypeId}{cs:List AV}{f:Nat}{vs:List Value}(h:Ir P t cs f K)(r:kD n σ F w cs vs):Ans n σ F w K S fun u _ Kv=>xR P t vs.toArray f u Kv:=by
 unfold Ir at h
 split at h
 ·rename_i fs hu
  split at h
  ·rename_i fd hf
   split at h
   ·rename_i i ha hi
    cases hb:Nat.ble (fd.offset+i.size) cs.length with
    | false=>rw [hb]at h;exact h.elim
    | true=>
     rw [hb,cond_true,oJ]at h
     exact⟨_,_,h,((r.drop fd.offset).take i.size).agg,fun u q Kv _ hv=>by simp only [xR,hu,hf,ha,hi,kK];exact hv⟩
   ·rename_i i ha hi
    split at h
    ·rename_i a hg
     rw [nO]at h
     obtain⟨v,h1,h2⟩:=r.QK hg
     exact⟨_,v,h,h2,fun u q Kv _ hv=>by simp only [xR,hu,hf,ha,hi,h1];exact hv⟩
    ·cases h
   ·cases h
  ·cases h
 ·cases h
theorem vW {t:TypeId}{f d:Nat}(h:VA P t f=some d)(a:Addr)(u:World)(Kv:Value->World->Prop)(k:Kv (.pointer (some (a.add d))) u):qI P t a f u Kv:=by
 unfold VA at h
 split at h
 ·rename_i fs hu
  split at h
  ·rename_i fd hf
   split at h
   ·rename_i i hi
    cases hz:Nat.beq i.size 0 with
    | true=>rw [hz]at h;cases h
    | false=>
     rw [hz,cond_false]at h
     injection h with h
     subst h
     simp only [qI,hu,hf,hi,hz,cond_false];exact k
   ·cases h
  ·cases h
 ·cases h
theorem CX {a:AV}{v:Value}(r:jX n σ F w a v)(hne:a≠ .top):kD n σ F w (cellsOf a) v.cells.toList:=by
 cases r with
 | agg xs us hx rx=>exact .of (by simpa [Value.cells,cellsOf]using hx) (by simpa [Value.cells,cellsOf]using rx)
 | v _=>
  cases v with
  | agg cs=>
   refine .of (by simp [Value.cells,cellsOf]) fun j a v h1 h2=> ?_
   simp only [Value.cells]at h2
   simp only [cellsOf,aI]at h1
   rw [h2]at h1
   simp only [bn,aA]at h1
   rw [<-h1];exact .v _
  | _=>exact⟨.v _,trivial⟩
 | top x=>exact(hne rfl).elim
 | lst h=>
  obtain⟨oa,m,c,rfl⟩ : ∃oa m c,v = .slice oa m c:=by cases h;exact⟨_,_,_,rfl⟩
  exact⟨.lst h,trivial⟩
 | fp h=>
  obtain⟨p,rfl⟩ : ∃p,v = .pointer p:=by cases h;exact⟨_,rfl⟩
  exact⟨.fp h,trivial⟩
 | fm h=>
  obtain⟨p,rfl⟩ : ∃p,v = .map p:=by cases h;exact⟨_,rfl⟩
  exact⟨.fm h,trivial⟩
 | ptr l o b hl hb=>exact⟨.ptr l o b hl hb,trivial⟩
 | ep l i o b hl hb=>exact⟨.ep l i o b hl hb,trivial⟩
 | own l hl=>exact⟨.own l hl,trivial⟩
 | oP l oa hl hn hc=>exact⟨.oP l oa hl hn hc,trivial⟩
 | sub l o k oa c hl hk hc hnil ho=>exact⟨.sub l o k oa c hl hk hc hnil ho,trivial⟩
 | full l k oa hl hk ho=>exact⟨.full l k oa hl hk ho,trivial⟩
 | mp l b hl hb=>exact⟨.mp l b hl hb,trivial⟩
 | fn f xs ys us vs hx hy rx ry=>exact⟨.fn f xs ys us vs hx hy rx ry,trivial⟩
 | kZ xs us hx rx=>exact⟨.kZ xs us hx rx,trivial⟩
theorem FH : ∀ {vs:List AV} {us:List Value} {as:List AV} {bs:List Value} {off:Nat},kD n σ F w vs us->kD n σ F w as bs->kD n σ F w (wV as off vs) (qw bs off us):=by
 intro vs
 induction vs with
 | nil=>intro us as bs off h k;cases us with
  | nil=>rw [wX];exact k
  | cons _ _=>exact h.elim
 | cons v vs ih=>intro us as bs off h k;cases us with
  | nil=>exact h.elim
  | cons u us=>rw [uI];exact ih h.2 (k.set off h.1)
theorem yg (l:List Value):kD n σ F w (l.map .v) l:= .of aaA fun j a v h1 h2=>by
 rw [aI,h2]at h1
 simp only [bn,aA]at h1
 rw [<-h1];exact .v _
theorem CY (place:Nat->Option (Nat×Nat)) : ∀ {ks:List Nat} {ps:List AV} {us:List Value} {cells:List AV} {bs:List Value} {l:List AV},kD n σ F w ps us->kD n σ F w cells bs->
  Aa place cells (ks.zip ps)=some l->∃m,tu place bs (ks.zip us)=some m∧kD n σ F w l m:=by
 intro ks
 induction ks with
 | nil=>intro ps us cells bs l _ hc h;simp only [List.zip_nil_left,Aa,aA]at h;subst h;exact⟨bs,rfl,hc⟩
 | cons k ks ih=>
  intro ps us cells bs l hp hc h
  cases ps with
  | nil=>cases us with
   | nil=>simp only [List.zip_nil_right,Aa,aA]at h;subst h;exact⟨bs,rfl,hc⟩
   | cons _ _=>exact hp.elim
  | cons p ps=>cases us with
   | nil=>exact hp.elim
   | cons u us=>
    simp only [gy,Aa]at h
    split at h
    ·cases h
    ·rename_i off size hpl
     cases hb:(Iu p&&Nat.beq (cellsOf p).length size&&Nat.ble (off+(cellsOf p).length) cells.length)with
     | false=>rw [hb]at h;cases h
     | true=>
      rw [hb,cond_true]at h
      simp only [ah]at hb
      have hcr:=CX hp.1 (fun e=>by rw [e]at hb;simp [Iu]at hb)
      obtain⟨m,h1,h2⟩:=ih hp.2 (FH hcr hc) h
      refine⟨m, ?_,h2⟩
      simp only [gy,tu,hpl]
      rw [hcr.len,hc.len,hb.1.2,hb.2,Bool.and_self,cond_true]
      exact h1
theorem DU {t:TypeId}{ks:List Nat}{as:List AV}{vs:List Value}(h:Iw P t (ks.zip as) K)(r:kD n σ F w as vs):Ans n σ F w K S fun u _ Kv=>xU P t (ks.zip vs) u Kv:=by
 unfold Iw at h
 split at h
 ·rename_i z fs hz hu
  split at h
  ·rename_i pl hpl
   split at h
   ·rename_i l hl
    rw [oJ]at h
    obtain⟨m,h1,h2⟩:=CY _ r (yg z.cells.toList) hl
    exact⟨_,_,h,h2.agg,fun u q Kv _ hv=>by simp only [xU,hz,hu,hpl,h1,kK];exact hv⟩
   ·cases h
  ·cases h
 ·rename_i z m e hz hu
  split at h
  ·rename_i i hi
   split at h
   ·rename_i l hl
    rw [oJ]at h
    obtain⟨m,h1,h2⟩:=CY _ r (yg z.cells.toList) hl
    exact⟨_,_,h,h2.agg,fun u q Kv _ hv=>by simp only [xU,hz,hu,hi,h1,kK];exact hv⟩
   ·cases h
  ·cases h
 ·cases h
theorem ql {t:TypeId}{cs:List AV}{vs:List Value}{b base o:Nat}(h:Ac P t cs o K)(r:kD n σ F w cs vs)(hc : ∀u,S u->∀j v,vs[j]? = some v->u.cell? ⟨b,base+j,none⟩=some v) :
  Ans n σ F w K S fun u q Kv=>kG P (loadVar t ⟨b,base+o,none⟩) u (wr q u Kv):=by
 unfold Ac at h
 split at h
 ·rename_i k ha hs
  split at h
  ·rename_i a hg
   rw [nO]at h
   obtain⟨v,h1,h2⟩:=r.QK hg
   exact⟨_,v,h,h2,fun u q Kv hu hv=>lH ha (hc u hu o v h1) (lu hv)⟩
  ·cases h
 ·rename_i k ha hs
  cases hb:Nat.ble (o+k) cs.length with
  | false=>rw [hb]at h;exact h.elim
  | true=>
   rw [hb,cond_true,oJ]at h
   have hl:=r.len
   have hle:=ak hb
   have hlen:((vs.drop o).take k).length=k:=aaT
   refine⟨_,_,h,((r.drop o).take k).agg,fun u q Kv hu hv=>Fe ha (by rw [hlen];exact hs) (fun j v hj=> ?_) (lu hv)⟩
   rw [add0,dS]
   refine hc u hu (o+j) v ?_
   rw [aW]at hj
   split at hj
   ·simpa using hj
   ·cases hj
 ·cases h
theorem Ag {u:World}{b base:Nat} : ∀(m:Nat),(∀j,j<m->∃v,u.cell? ⟨b,base+j,none⟩=some v∧v.oneCell'=true)->∃vs:List Value,vs.length=m∧∀j v,vs[j]? = some v->u.cell? ⟨b,base+j,none⟩=some v∧v.oneCell'=true:=by
 intro m
 induction m with
 | zero=>intro _;exact⟨[],rfl,fun j v h=>by simp at h⟩
 | succ m ih=>
  intro h
  obtain⟨vs,h1,h2⟩:=ih fun j hj=>h j aad
  obtain⟨v,h3⟩:=h m aad
  refine⟨vs++ [v],by simp [h1],fun j x hj=> ?_⟩
  by_cases hjm:j<vs.length
  ·rw [cO hjm]at hj;exact h2 j x hj
  ·rw [bY aad]at hj
   have hj0:j-vs.length=0:=by
    have:=(aF.1 hj).1
    simp at this;omega
   rw [hj0]at hj
   simp only [bJ,aA]at hj
   have:j=m:=aad
   rw [this, <-hj];exact h3
theorem FI {cs:List FV}{o:Nat}{x:Value}(h:lN F w (.fp cs o) x) : ∃b off vs,x = .pointer (some ⟨b,off+o,none⟩)∧F b∧kD n σ F w (cs.map FV.up) vs∧(∀v∈vs,v.oneCell'=true)∧∀j v,vs[j]? = some v->w.cell? ⟨b,off+j,none⟩=some v:=by
 cases h with
 | fp _ _ b off hb hex hrep=>
  obtain⟨vs,h1,h2⟩:=Ag cs.length hex
  refine⟨b,off,vs,rfl,hb, .of (by simp [h1]) fun j a v ha hv=> ?_,fun v hv=> ?_,fun j v hj=>(h2 j v hj).1⟩
  ·rw [aI]at ha
   cases hc:cs[j]? with
   | none=>rw [hc]at ha;cases ha
   | some c=>
    rw [hc]at ha
    simp only [bn,aA]at ha
    rw [<-ha]
    exact(hrep j c v hc (h2 j v hv).1).up
  ·obtain⟨j,hj⟩:=bI.1 hv
   exact(h2 j v hj).2
theorem vX {L:Loc}{H:jI}{jT:Nat}{t sz:Nat}{l:List (List FV)}{i:Nat}{row:List FV}(hL:L=σ jT)(hk:look H jT=some (.rows t sz l))(hH:qZ n σ F w H)(hi:l[i]? = some row) :
  ∃g vs,L.b=some g∧kD n σ F w (row.map FV.up) vs∧∀j v,vs[j]? = some v->w.cell? ⟨g,i*sz+j,none⟩=some v:=by
 subst hL
 obtain⟨h1,h2,xs,hO,hR⟩:=hH _ _ hk
 have hil:=(aF.1 hi).1
 obtain⟨g,cur,hg,_,hB,hle,_,hcl,htk⟩:=hO.blk aad
 have hb:(σ jT).b=some g:=by
  unfold Loc.oa at hg
  cases hx:(σ jT).b with
  | none=>rw [hx]at hg;cases hg
  | some g'=>rw [hx]at hg;simp at hg;rw [hg]
 have hrl:row.length=sz:=hR.1 row (aO hi)
 have hi1:i*sz+sz<=l.length*sz:=by
  have:(i+1)*sz<=l.length*sz:=aP _ hil
  rw [aX,cu]at this;exact this
 refine⟨g,(xs.drop (i*sz)).take sz,hb, .of ?_ fun j a v ha hv=> ?_,fun j v hv=> ?_⟩
 ·have:=hR.2.1
  simp [hrl];omega
 ·rw [aI]at ha
  cases hc:row[j]? with
  | none=>rw [hc]at ha;cases ha
  | some c=>
   rw [hc]at ha
   simp only [bn,aA]at ha
   rw [<-ha]
   rw [aW]at hv
   split at hv
   ·exact(hR.2.2.2 i j row c v hi hc (by simpa using hv)).up
   ·cases hv
 ·rw [aW]at hv
  split at hv
  ·rw [bT]at hv
   rw [hB.cell]
   have hlt:=(aF.1 hv).1
   rw [<-htk]at hv
   rw [aW]at hv
   split at hv
   ·exact hv
   ·cases hv
  ·cases hv
theorem uJ {sz:Nat}{l:List (List FV)}{oa:Option Addr}{m c i:Nat}{row:List FV}(h:lN F w (.lst sz l) (.slice oa m c))(hi:l[i]? = some row) :
  ∃b o vs,oa=some ⟨b,o,none⟩∧F b∧m=l.length∧kD n σ F w (row.map FV.up) vs∧lN F w (.fp row 0) (.pointer (some ⟨b,o+i*sz,none⟩))∧∀j v,vs[j]? = some v->w.cell? ⟨b,o+i*sz+j,none⟩=some v:=by
 cases h with
 | lst _ _ _ _ _ b o hn hc hnil ho hsz hex hrep=>
  have hil:=(aF.1 hi).1
  obtain⟨e,hF⟩:=ho aad
  have hrl:=hsz row (aO hi)
  have hfp:lN F w (.fp row 0) (.pointer (some ⟨b,o+i*sz,none⟩)):= .fp row 0 b (o+i*sz) hF (fun j hj=>by rw [dS];exact hex i j aad aad) (fun j a v h1 h2=>hrep i j row a v hi h1 (by rw [dS]at h2;exact h2))
  obtain⟨b',off,vs,e1,_,r,_,hcl⟩:=FI (n:=n) (σ:=σ) hfp
  injection e1 with e1;injection e1 with e1;injection e1 with e1 e2
  subst e1
  have e2:o+i*sz=off:=e2
  subst e2
  exact⟨b,o,vs,e,hF,hn,r,hfp,hcl⟩
theorem qh.cell {u:World}{b:Nat}(h:qh σ F H w u)(hb:F b)(o:Nat):u.cell? ⟨b,o,none⟩=w.cell? ⟨b,o,none⟩:=oC (h.f b hb) o
theorem qh.CZ {u:World}{g jT:Nat}{blk:mD}(h:qh σ F H w u)(hk:look H jT=some blk)(ho:blk.own=true)(hg:(σ jT).b=some g)(o:Nat):u.cell? ⟨g,o,none⟩=w.cell? ⟨g,o,none⟩:=oC (h.h jT blk g hk ho (.inl hg)) o
theorem yR {t:TypeId}{a:AV}{va:Value}(h:JA P H t a K)(ra:jX n σ F w a va)(hH:qZ n σ F w H) : ∃p,va = .pointer (some p)∧Ans n σ F w K (qh σ F H w) fun u q Kv=>kG P (loadVar t p) u (wr q u Kv):=by
 unfold JA at h
 split at h
 ·rename_i l o
  cases ra with
  | ptr _ _ b hl hb=>
   refine⟨_,rfl, ?_⟩
   split at h
   ·rename_i T cs hk
    obtain⟨g,vs,h1,h2,h3,_⟩:=hH _ _ hk
    rw [hb]at h1
    injection h1 with h1
    subst h1
    have:=ql (S:=qh σ F H w) (b:=b) (base:=0) h h3 fun u hu j v hj=>by rw [hu.CZ hk rfl hb,h2.cell,aJ];exact hj
    simpa only [aJ]using this
   ·cases h
 ·rename_i l i o
  cases ra with
  | ep _ _ _ b hl hb=>
   refine⟨_,rfl, ?_⟩
   split at h
   ·rename_i T sz m hk
    obtain⟨row,hrow,h⟩:=h.ex
    obtain⟨g,vs,h1,h2,h3⟩:=vX rfl hk hH hrow
    rw [hb]at h1
    injection h1 with h1
    subst h1
    have e:(σ l).sz=sz:=(hH _ _ hk).1
    rw [e]
    exact ql (S:=qh σ F H w) h h2 fun u hu j v hj=>by rw [hu.CZ hk rfl hb];exact h3 j v hj
   ·rename_i sz m hk
    obtain⟨row,hrow,h⟩:=h.ex
    obtain⟨e,e2,hf,h0⟩:=hH _ _ hk
    obtain⟨b',o',vs,e3,hF,_,r,_,hcl⟩:=uJ (n:=n) (σ:=σ) hf hrow
    have ho:=h0 _ _ e3
    subst ho
    have eb:b'=b:=by
     unfold Loc.oa at e3
     rw [hb]at e3
     simp at e3
     exact e3.symm
    subst eb
    rw [e]
    simp only [aJ]at hcl
    exact ql (S:=qh σ F H w) h r fun u hu j v hj=>by rw [hu.cell hF];exact hcl j v hj
   ·rename_i T sz m hh hk
    obtain⟨q1,q2,xs,q3,q4,q5,q6⟩:=hH _ _ hk
    rw [q1]
    split at h
    ·rename_i k ha hs
     by_cases he : ∃e,hh=some (i,o,e)
     ·obtain⟨e,he⟩:=he
      obtain⟨a1,a2,a3,⟨row,a4,a5⟩,v,a6,a7⟩:=q6 i o e he
      obtain⟨b',hb',hc⟩:=rY q3 a4 (q4.1 row (aO a4)) a5 q4.2.1 a6
      rw [hb]at hb'
      injection hb' with hb'
      subst hb'
      exact⟨_,v,h.hole e he,a7,fun u q Kv hu hv=>lH ha (by rw [hu.CZ hk rfl hb];exact hc) (lu hv)⟩
     ·obtain⟨row,hrow,h⟩:=(h.other fun e he'=>he ⟨e,he'⟩).ex
      have hil:=(aF.1 hrow).1
      have hrl:=q4.1 row (aO hrow)
      have hi1:i*sz+sz<=m.length*sz:=by
       have:(i+1)*sz<=m.length*sz:=aP _ hil
       rw [aX,cu]at this;exact this
      have hr:kD n σ F w (row.map TV.up) ((xs.drop (i*sz)).take sz):= .of (by have:=q4.2.1;simp [hrl];omega) fun j a v h1 h2=>by
       rw [aI]at h1
       rw [aW]at h2
       split at h2
       ·rw [bT]at h2
        cases hc:row[j]? with
        | none=>rw [hc]at h1;cases h1
        | some c=>
         rw [hc]at h1
         simp only [bn,aA]at h1
         rw [<-h1]
         have:=q4.2.2.2 i j row c v hrow hc h2
         cases c with
         | f x=>exact lN.up this
         | n _ _ _=>exact .top v
       ·cases h2
      refine ql (S:=qh σ F H w) h hr fun u hu j v' hj=> ?_
      rw [hu.CZ hk rfl hb]
      rw [aW]at hj
      split at hj
      ·rename_i hjs
       rw [bT]at hj
       obtain⟨b'',QL,hc'⟩:=rY (a:=row[j]'aad) q3 hrow hrl (aB _) q4.2.1 hj
       rw [hb]at QL
       injection QL with QL
       rw [QL];exact hc'
      ·cases hj
    ·cases h
   ·cases h
 ·rename_i cs o
  cases ra with
  | fp hf=>
   obtain⟨b,off,vs,rfl,hF,r,_,hcl⟩:=FI (n:=n) (σ:=σ) hf
   exact⟨_,rfl,ql (S:=qh σ F H w) h r fun u hu j v hj=>by rw [hu.cell hF];exact hcl j v hj⟩
 ·cases h
theorem KZ {s:AV}{v:Value}{sz:Nat}{l:List (List FV)}(h:rowsOf H s=some (sz,l))(r:jX n σ F w s v)(hH:qZ n σ F w H) :
  ∃oa m c,v = .slice oa m c∧m=l.length∧∀i row,l[i]? = some row->∃b o vs,oa=some ⟨b,o,none⟩∧kD n σ F w (row.map FV.up) vs∧∀u,qh σ F H w u->∀j v,vs[j]? = some v->u.cell? ⟨b,o+i*sz+j,none⟩=some v:=by
 have Z7 : ∀ {oa:Option Addr} {m c:Nat} {l:List (List FV)},lN F w (.lst sz l) (.slice oa m c)->∀i row,l[i]? = some row->∃b o vs,oa=some ⟨b,o,none⟩∧kD n σ F w (row.map FV.up) vs∧∀u,qh σ F H w u->∀j v,vs[j]? = some v->u.cell? ⟨b,o+i*sz+j,none⟩=some v:=by
  intro oa m c l hf i row hi
  obtain⟨b,o,vs,e,hF,_,hr,_,hc⟩:=uJ (n:=n) (σ:=σ) hf hi
  exact⟨b,o,vs,e,hr,fun u hu j v hj=>by rw [hu.cell hF];exact hc j v hj⟩
 unfold rowsOf at h
 split at h
 ·simp only [aA,dF]at h
  obtain⟨rfl,rfl⟩:=h
  cases r with
  | lst hf=>
   obtain⟨oa,m,c,rfl⟩ : ∃oa m c,v = .slice oa m c:=by cases hf;exact⟨_,_,_,rfl⟩
   exact⟨oa,m,c,rfl,by cases hf;assumption,Z7 hf⟩
 ·split at h
  ·rename_i l' T sz' m hk
   simp only [aA,dF]at h
   obtain⟨rfl,rfl⟩:=h
   have hq:=hH _ _ hk
   cases r with
   | oP _ oa hl hn hc=>
    have:m = []:=aH (by rw [<-hq.2.1,hn])
    subst this
    exact⟨_,_,_,rfl,rfl,fun i row hi=>by simp at hi⟩
   | own _ hl=>
    refine⟨_,_,_,rfl,hq.2.1,fun i row hi=> ?_⟩
    obtain⟨g,vs,e,hr,hc⟩:=vX rfl hk hH hi
    exact⟨g,0,vs,by unfold Loc.oa;rw [e];rfl,hr,fun u hu j v hj=>by rw [hu.CZ hk rfl e,aJ];exact hc j v hj⟩
  ·rename_i l' sz' m hk
   simp only [aA,dF]at h
   obtain⟨rfl,rfl⟩:=h
   have hq:=hH _ _ hk
   cases r with
   | oP _ oa hl hn hc=>
    have:m = []:=aH (by rw [<-hq.2.1,hn])
    subst this
    exact⟨_,_,_,rfl,rfl,fun i row hi=>by simp at hi⟩
   | own _ hl=>exact⟨_,_,_,rfl,hq.2.1,Z7 hq.2.2.1⟩
  ·cases h
 ·split at h
  ·rename_i l' o k _ T sz' m hk
   simp only [aA,dF]at h
   obtain⟨rfl,rfl⟩:=h
   have hq:=hH _ _ hk
   cases r with
   | sub _ _ _ oa c hl hkk hc hnil ho=>
    rw [hq.2.1]at hkk
    refine⟨_,_,_,rfl,by rw [aU,bD];omega,fun i row hi=> ?_⟩
    have hil:=(aF.1 hi).1
    rw [aU]at hil
    obtain⟨b,e1,e2⟩:=ho aad
    rw [aW,if_pos aad,bT]at hi
    obtain⟨g,vs,e,hr,hcl⟩:=vX rfl hk hH hi
    rw [e]at e1
    injection e1 with e1
    subst e1
    refine⟨g,o*sz',vs,by rw [e2,hq.1],hr,fun u hu j v hj=> ?_⟩
    rw [hu.CZ hk rfl e, <-aX];exact hcl j v hj
  ·rename_i l' o k _ sz' m hk
   simp only [aA,dF]at h
   obtain⟨rfl,rfl⟩:=h
   have hq:=hH _ _ hk
   cases r with
   | sub _ _ _ oa c hl hkk hc hnil ho=>
    rw [hq.2.1]at hkk
    refine⟨_,_,_,rfl,by rw [aU,bD];omega,fun i row hi=> ?_⟩
    have hil:=(aF.1 hi).1
    rw [aU]at hil
    obtain⟨b,e1,e2⟩:=ho aad
    rw [aW,if_pos aad,bT]at hi
    obtain⟨b',o',vs,e,hr,hcl⟩:=Z7 hq.2.2.1 _ _ hi
    have h0:=hq.2.2.2 _ _ e
    subst h0
    unfold Loc.oa at e
    rw [e1]at e
    simp only [bn,aA,Addr.mk.injEq]at e
    obtain⟨rfl,_⟩:=e
    refine⟨b,o*sz',vs,by rw [e2,hq.1],hr,fun u hu j v hj=> ?_⟩
    have:=hcl u hu j v hj
    rw [aJ,aX]at this;exact this
  ·cases h
 ·cases h
theorem FK {Hr:jI}{src dst:TypeId}{a:AV}{va:Value}(h:Nr P Hr src dst a K)(ra:jX n σ F w a va)(Qm:qZ n σ F w Hr)(hS : ∀u,S u->qh σ F Hr w u):Ans n σ F w K S fun u q Kv=>vw P q src dst va u Kv:=by
 unfold Nr at h
 split at h
 ·rename_i h1 h2
  rw [ra.kR];exact⟨_,_,h.ex, .v _,fun u q Kv _ hv=>by simp only [vw,h1,h2];exact hv⟩
 ·rename_i h1 h2
  rw [ra.kR];exact⟨_,_,h, .v _,fun u q Kv _ hv=>by simp only [vw,h1,h2];exact hv⟩
 ·rename_i d k n h1 h2
  rw [ra.kR]
  refine⟨_,_,h, .v _,fun u q Kv _ hv=> ?_⟩
  simp only [vw,h1,h2]
  exact lJ (run_convert_int_string u src dst k n (by rw [h1];rfl) h2) (lu hv)
 ·rename_i e a h1 h2
  split at h
  ·rename_i h3
   split at h
   ·rw [ra.kR]
    refine⟨_,_,h, .v _,fun u q Kv _ hv=> ?_⟩
    simp only [vw,h1,h2]
    exact MZ (l:= []) h1 h3 h2 rfl (.inl rfl) (lu hv)
   ·split at h
    ·rename_i sz l hl
     cases hz:Nat.beq sz 1 with
     | false=>rw [hz]at h;exact h.elim
     | true=>
     rw [hz,cond_true]at h
     have hz:=aj hz
     subst hz
     obtain⟨s,rfl,hk⟩:=h.ex
     obtain⟨oa,m,c,rfl,hm,hc⟩:=KZ hl ra Qm
     refine⟨_,_,hk, .v _,fun u q Kv hu hv=> ?_⟩
     simp only [vw,h1,h2]
     rw [au]at hm
     subst hm
     have one : ∀i x,s[i]? = some x->∃b o,oa=some ⟨b,o,none⟩∧u.cell? ⟨b,o+i*1,none⟩=some (.int .u8 (x.toNat:Int)):=by
      intro i x hi
      obtain⟨b,o,vs,e,hr,hcl⟩:=hc i (pR x) (by rw [aI,hi];rfl)
      obtain⟨v,rfl⟩ : ∃v,vs = [v]:=by
       have:=hr.len
       match vs,this with
       | [v],_=>exact⟨v,rfl⟩
      have hv:v = .int .u8 (x.toNat:Int):=(show jX n σ F w (.v (.int .u8 (x.toNat:Int))) v from hr.1).kR
      subst hv
      exact⟨b,o,e,by have:=hcl u (hS u hu) 0 _ rfl;simpa using this⟩
     cases oa with
     | none=>
      have hs:s = []:=by
       cases s with
       | nil=>rfl
       | cons x r=>obtain⟨b,o,e,_⟩:=one 0 x rfl;cases e
      subst hs
      exact MZ (l:= []) h1 h3 h2 rfl (.inl rfl) (lu hv)
     | some ad=>
      refine lJ (run_convert_bytes_back (P:=P) u src dst _ ad c s h1 h3 h2 fun j hj=> ?_) (lu hv)
      obtain⟨b,o,e1,e2⟩:=one j s[j] (aB hj)
      injection e1 with e1
      subst e1
      rw [add0]
      rw [dG]at e2
      exact e2
    ·cases h
  ·cases h
 ·cases h
end
section
variable {P:Program}{n:Nat}{σ:Nat->Loc}{F:Nat->Prop}{w:World}{H:jI}{kS:jM}{ρ:jU}{K:AV->Prop}{S:World->Prop}
theorem qN {L:Loc}{g:Nat}(h:L.oa=some ⟨g,0,none⟩):L.b=some g:=by
 unfold Loc.oa at h
 cases hx:L.b with
 | none=>rw [hx]at h;cases h
 | some g'=>rw [hx]at h;simp at h;rw [h]
theorem DV {jT t sz:Nat}{l:List (List FV)}(hk:look H jT=some (.rows t sz l))(hH:qZ n σ F w H)(h0:0<l.length) : ∃g,(σ jT).b=some g∧(σ jT).oa=some ⟨g,0,none⟩:=by
 obtain⟨h1,h2,xs,hO,hR⟩:=hH _ _ hk
 obtain⟨g,cur,hg,_⟩:=hO.blk h0
 exact⟨g,qN hg,hg⟩
theorem Ny {jT sz:Nat}{l:List (List FV)}(hk:look H jT=some (.fz sz l))(hH:qZ n σ F w H)(h0:0<l.length) : ∃g,(σ jT).b=some g∧(σ jT).oa=some ⟨g,0,none⟩:=by
 obtain⟨h1,h2,hf,h3⟩:=hH _ _ hk
 obtain⟨row,hrow⟩ : ∃row,l[0]? = some row:=⟨l[0],aB h0⟩
 obtain⟨b,o,vs,e,_⟩:=uJ (n:=n) (σ:=σ) hf hrow
 have:=h3 b o e
 subst this
 exact⟨b,qN e,e⟩
theorem uK {jT t sz:Nat}{l:List (List FV)}(hk:look H jT=some (.rows t sz l))(hH:qZ n σ F w H):(σ jT).sz=sz∧(σ jT).n=l.length:=⟨(hH _ _ hk).1,(hH _ _ hk).2.1⟩
theorem yh {jT sz:Nat}{l:List (List FV)}(hk:look H jT=some (.fz sz l))(hH:qZ n σ F w H):(σ jT).sz=sz∧(σ jT).n=l.length:=⟨(hH _ _ hk).1,(hH _ _ hk).2.1⟩
theorem yj {t:TypeId}{x i:AV}{vx vi:Value}(h:vT P H t x i K)(rx:jX n σ F w x vx)(ri:jX n σ F w i vi)(hH:qZ n σ F w H):Ans n σ F w K S fun u q Kv=>kG P (Instr.indexAt t vx vi) u (wr q u Kv):=by
 unfold vT at h
 split at h
 ·rename_i ki ix
  rw [ri.kR]
  split at h
  ·rename_i e hu
   split at h
   ·rename_i sz hs
    have VD : ∀ {l:Nat} {m:List (List FV)},jX n σ F w (.own l) vx->(σ l).sz=sz->(σ l).n=m.length->(0<m.length->∃g,(σ l).b=some g∧(σ l).oa=some ⟨g,0,none⟩)->nG ix m.length (fun j=>K (.ep l j 0))->
      Ans n σ F w K S fun u q Kv=>kG P (Instr.indexAt t vx (.int ki ix)) u (wr q u Kv):=by
     intro l m rx e1 e2 h3 h4
     obtain⟨j,ej,hj,hk⟩:=h4.ex
     obtain⟨g,hg,hoa⟩:=h3 aad
     cases rx with
     | oP _ oa hl hn hc=>omega
     | own _ hl=>
      rw [hoa]
      refine⟨_,_,hk, .ep l j 0 g hl hg,fun u q Kv _ hv=>Fg j hu hs ej aad (lu ?_)⟩
      rw [e1]at hv
      rw [aJ]
      exact hv
    have Ye : ∀ {l o m:Nat},jX n σ F w (.sub l o m) vx->(σ l).sz=sz->nG ix m (fun j=>K (.ep l (o+j) 0))->
      Ans n σ F w K S fun u q Kv=>kG P (Instr.indexAt t vx (.int ki ix)) u (wr q u Kv):=by
     intro l o m rx e1 h4
     obtain⟨j,ej,hj,hk⟩:=h4.ex
     cases rx with
     | sub _ _ _ oa c hl hkk hc hnil ho=>
      obtain⟨g,hg,hoa⟩:=ho aad
      rw [hoa]
      refine⟨_,_,hk, .ep l (o+j) 0 g hl hg,fun u q Kv _ hv=>Fg j hu hs ej hj (lu ?_)⟩
      rw [e1]at hv ⊢
      rw [aX]at hv
      exact hv
    split at h
    ·rename_i sz' l
     cases hb:Nat.beq sz sz' with
     | false=>rw [hb]at h;exact h.elim
     | true=>
      rw [hb,cond_true]at h
      have:=aj hb
      subst this
      obtain⟨j,ej,hj,hk⟩:=h.ex
      obtain⟨row,hrow,hk⟩:=hk.ex
      cases rx with
      | lst hf=>
       obtain⟨oa,m,c,rfl⟩ : ∃oa m c,vx = .slice oa m c:=by cases hf;exact⟨_,_,_,rfl⟩
       obtain⟨b,o,vs,rfl,hF,hm,_,hfp,_⟩:=uJ (n:=n) (σ:=σ) hf hrow
       exact⟨_,_,hk, .fp hfp,fun u q Kv _ hv=>Fg j hu hs ej aad (lu hv)⟩
    ·rename_i l
     split at h
     ·rename_i T sz' m hk
      cases hb:Nat.beq sz sz' with
      | false=>rw [hb]at h;exact h.elim
      | true=>
       rw [hb,cond_true]at h
       have:=aj hb
       subst this
       exact VD rx (uK hk hH).1 (uK hk hH).2 (DV hk hH) h
     ·rename_i sz' m hk
      cases hb:Nat.beq sz sz' with
      | false=>rw [hb]at h;exact h.elim
      | true=>
       rw [hb,cond_true]at h
       have:=aj hb
       subst this
       exact VD rx (yh hk hH).1 (yh hk hH).2 (Ny hk hH) h
     ·rename_i T sz' m h0 hk
      cases hb:Nat.beq sz sz' with
      | false=>rw [hb]at h;exact h.elim
      | true=>
       rw [hb,cond_true]at h
       have:=aj hb
       subst this
       obtain⟨q1,q2,xs,hO,_⟩:=hH _ _ hk
       exact VD (m:=m.map fun _=> []) rx q1 (by rw [au];exact q2) (fun h0=>by
        rw [au]at h0
        obtain⟨g,cur,hg,_⟩:=hO.blk h0
        exact⟨g,qN hg,hg⟩) (by rw [au];exact h)
     ·cases h
    ·rename_i l o m
     split at h
     ·rename_i T sz' m' hk
      cases hb:Nat.beq sz sz' with
      | false=>rw [hb]at h;exact h.elim
      | true=>
       rw [hb,cond_true]at h
       have:=aj hb
       subst this
       exact Ye rx (uK hk hH).1 h
     ·rename_i sz' m' hk
      cases hb:Nat.beq sz sz' with
      | false=>rw [hb]at h;exact h.elim
      | true=>
       rw [hb,cond_true]at h
       have:=aj hb
       subst this
       exact Ye rx (yh hk hH).1 h
     ·cases h
    ·cases h
   ·cases h
  ·rename_i m e hu
   split at h
   ·rename_i sz hs
    split at h
    ·obtain⟨j,ej,hj,hk⟩:=h.ex
     cases rx with
     | ptr _ _ b hl hb=>exact⟨_,_,hk, .ptr _ _ b hl hb,fun u q Kv _ hv=>DJ j hu hs ej hj (lu hv)⟩
    ·obtain⟨j,ej,hj,hk⟩:=h.ex
     cases rx with
     | ep _ _ _ b hl hb=>exact⟨_,_,hk, .ep _ _ _ b hl hb,fun u q Kv _ hv=>DJ j hu hs ej hj (lu (by rw [dS];exact hv))⟩
    ·obtain⟨j,ej,hj,hk⟩:=h.ex
     cases rx with
     | fp hf=>
      cases hf with
      | fp _ _ b off hb hex hrep=>exact⟨_,_,hk, .fp (.fp _ _ b off hb hex hrep),fun u q Kv _ hv=>DJ j hu hs ej hj (lu (by rw [dS];exact hv))⟩
    ·cases h
   ·cases h
  ·cases h
 ·cases h
theorem C9 {u:World}{Kv:Value->World->Prop}{t e:TypeId}{m j sz:Nat}{k:IntKind}{ix:Int}{l:List Value}{v:Value}(hm:ix=j)(hu:P.underlying t=some (.array m e))(hs:szB P e=some sz)(h:j<m)
  (hp:(part e l.toArray (j*sz)).run P u = .ok v u) (hk:Kv v u):kG P (Instr.index t (.agg l.toArray) (.int k ix)) u Kv:=by
 refine lJ ?_ hk
 subst hm
 have h1:(0:Int)<=j∧(j:Int)<m:=⟨by omega,by omega⟩
 unfold Instr.index
 simp only [asIntOf,Sem.run_bind,Sem.run_pure,Result.andThen_ok,jR hu]
 simp only [if_pos h1,Sem.run_bind,mM hs,Result.andThen_ok,dA]
 exact hp
theorem DW {t:TypeId}{x i:AV}{vx vi:Value}(h:Iy P t x i K)(rx:jX n σ F w x vx)(ri:jX n σ F w i vi):Ans n σ F w K S fun u q Kv=>kG P (Instr.index t vx vi) u (wr q u Kv):=by
 unfold Iy at h
 split at h
 ·rename_i ki ix
  rw [ri.kR]
  split at h
  ·rename_i s hu
   rw [rx.kR]
   obtain⟨j,ej,hj,hk⟩:=h.ex
   refine⟨_,_,hk, .v _,fun u q Kv _ hv=>yc j ej hu hj (lu ?_)⟩
   have e:s.data.toList.getD j 0=s[j]:=by
    rw [aV,aT]
    have:s.data[j]? = some s[j]:=jd hj
    rw [this];rfl
   rw [e]at hv
   exact hv
  ·rename_i m e cs hu
   obtain⟨j,ej,hj,hk⟩:=h.ex
   obtain⟨us,rfl,r⟩:=kD.yQ rx
   split at hk
   ·rename_i sz hs
    unfold Ac at hk
    split at hk
    ·rename_i k ha _
     split at hk
     ·rename_i a hg
      rw [nO]at hk
      obtain⟨v,h1,h2⟩:=r.QK hg
      refine⟨_,v,hk,h2,fun u q Kv _ hv=>C9 ej hu hs hj ?_ (lu hv)⟩
      unfold part
      rw [Sem.run_bind,ou ha]
      simp [h1]
     ·exact hk.elim
    ·rename_i k ha hs'
     cases hb:Nat.ble (j*sz+k) cs.length with
     | false=>rw [hb]at hk;exact hk.elim
     | true=>
      rw [hb,cond_true,oJ]at hk
      refine⟨_,_,hk,((r.drop (j*sz)).take k).agg,fun u q Kv _ hv=>C9 ej hu hs hj ?_ (lu hv)⟩
      obtain⟨i,hi,hik⟩:=lY hs'
      simp only [part,Sem.run_bind,Sem.run_pure,Result.andThen_ok,ou ha,if_true,sizeOf,oK hi]
      congr 2
      apply gU
      simp [hik]
    ·exact hk.elim
   ·exact hk.elim
  ·cases h
 ·cases h
theorem IK {t ty:TypeId}{a:AV}{va:Value}(h:VB P H t a K)(ra:jX n σ F w a va)(hH:qZ n σ F w H):Ans n σ F w K S fun u q Kv=>xW P q t ty va u Kv:=by
 unfold VB at h
 split at h
 ·rename_i s hu;rw [ra.kR];exact⟨_,_,h, .v _,fun u q Kv _ hv=>by simp only [xW,hu];exact hv⟩
 ·rename_i e sz l hu
  cases ra with
  | lst hf=>cases hf with
   | lst _ _ oa m c b o hn hc hnil ho hsz hex hrep=>exact⟨_,_,h, .v _,fun u q Kv _ hv=>by simp only [xW,hu,hn];exact hv⟩
 ·rename_i e l hu
  cases ra with
  | oP _ oa hl hn hc=>
   split at h
   ·rename_i T sz m hk
    have e:=(uK hk hH).2
    rw [hn]at e
    exact⟨_,_,h, .v _,fun u q Kv _ hv=>by simp only [xW,hu];rw [<-e]at hv;exact hv⟩
   ·rename_i sz m hk
    have e:=(yh hk hH).2
    rw [hn]at e
    exact⟨_,_,h, .v _,fun u q Kv _ hv=>by simp only [xW,hu];rw [<-e]at hv;exact hv⟩
   ·cases h
  | own _ hl=>
   split at h
   ·rename_i T sz m hk
    have e:=(uK hk hH).2
    exact⟨_,_,h, .v _,fun u q Kv _ hv=>by simp only [xW,hu,e];exact hv⟩
   ·rename_i sz m hk
    have e:=(yh hk hH).2
    exact⟨_,_,h, .v _,fun u q Kv _ hv=>by simp only [xW,hu,e];exact hv⟩
   ·cases h
 ·rename_i e l o m hu
  cases ra with
  | sub _ _ _ oa c hl hk hc hnil ho=>exact⟨_,_,h, .v _,fun u q Kv _ hv=>by simp only [xW,hu];exact hv⟩
 ·rename_i e x m c hu;rw [ra.kR];exact⟨_,_,h, .v _,fun u q Kv _ hv=>by simp only [xW,hu];exact hv⟩
 ·rename_i m e hu;exact⟨_,_,h, .v _,fun u q Kv _ hv=>by simp only [xW,hu];exact hv⟩
 ·cases h
def sQ (oa:Option Addr)(i sz m:Nat):Option Addr:=if m=i then oa else oa.map (·.add (i*sz))
theorem tZ {u:World}{t E:TypeId}{sz l c:Nat}{oa:Option Addr}{lo hi mx:Option Value}{i j m:Nat}(ht:P.underlying t=some (.slice E))(hs:szB P E=some sz)
  (hlo:(lo=none∧i=0)∨∃k,lo=some (.int k (i:Int))) (hhi:(hi=none∧j=l∧mx=none)∨∃k,hi=some (.int k (j:Int))) (hmx:(mx=none∧m=c)∨∃k,mx=some (.int k (m:Int)))
  (hij:i<=j) (hjm:j<=m) (hmc:m<=c):(Instr.sliceAt t (.slice oa l c) lo hi mx).run P u = .ok (.slice (sQ oa i sz m) (j-i) (m-i)) u:=by
 have h1:(0:Int)<=i∧(i:Int)<=j:=⟨by omega,by omega⟩
 have h2:(0:Int)<=j∧(j:Int)<=m:=⟨by omega,by omega⟩
 have h3:(0:Int)<=m∧(m:Int)<=c:=⟨by omega,by omega⟩
 unfold Instr.sliceAt
 rw [Sem.run_bind,jR ht]
 simp only [Result.andThen_ok]
 unfold Instr.slice
 rw [Sem.run_bind,jR ht]
 rcases hmx with ⟨rfl,rfl⟩|⟨km,rfl⟩
 ·rcases hhi with ⟨rfl,rfl,_⟩|⟨kh,rfl⟩
  ·rcases hlo with ⟨rfl,rfl⟩|⟨kl,rfl⟩<;>simp [Instr.sliceBounds,Instr.sliceBound,asIntOf,hij,hjm,mM hs,sQ]
  ·rcases hlo with ⟨rfl,rfl⟩|⟨kl,rfl⟩<;>simp [Instr.sliceBounds,Instr.sliceBound,asIntOf,hij,hjm,mM hs,sQ]
 ·rcases hhi with ⟨rfl,rfl,h⟩|⟨kh,rfl⟩
  ·cases h
  ·rcases hlo with ⟨rfl,rfl⟩|⟨kl,rfl⟩<;>simp [Instr.sliceBounds,Instr.sliceBound,asIntOf,hij,hjm,hmc,mM hs,sQ]
theorem Dc {oa:Option Addr}{i sz m c:Nat}(hmc:m<=c)(hnil:oa=none->c=0)(h:sQ oa i sz m=none):m-i=0:=by
 unfold sQ at h
 split at h
 ·omega
 ·have:=hnil aaU
  omega
theorem lN.part {sz m c i j:Nat}{l:List (List FV)}{oa:Option Addr}{n':Nat}(h:lN F w (.lst sz l) (.slice oa n' c))(hij:i<=j)(hjn:j<=l.length)(hjm:j<=m)(hmc:m<=c) :
  lN F w (.lst sz ((l.take j).drop i)) (.slice (sQ oa i sz m) (j-i) (m-i)):=by
 cases h with
 | lst _ _ _ _ _ b o hn hc hnil ho hsz hex hrep=>
  subst hn
  refine .lst sz _ _ _ _ b (o+i*sz) aaT aad (Dc hmc hnil) (fun hlt=> ?_) (fun row hr=>hsz row (dM (fZ hr))) (fun k x hk hx=> ?_) (fun k x row a v h1 h2 h3=> ?_)
  ·obtain⟨e,hF⟩:=ho aad
   refine⟨?_,hF⟩
   unfold sQ
   rw [if_neg aad,e]
   simp [add0]
  ·have:=hex (i+k) x aad hx
   rw [aX]at this
   rw [show o+i*sz+(k*sz+x)=o+(i*sz+k*sz+x) by omega]
   exact this
  ·have h1':l[i+k]? = some row:=by
    rw [bT,aW]at h1
    split at h1
    ·exact h1
    ·cases h1
   refine hrep (i+k) x row a v h1' h2 ?_
   rw [aX,show o+(i*sz+k*sz+x)=o+i*sz+(k*sz+x) by omega]
   exact h3
theorem DY {lo:Option AV}{MB:Option Value}{d:Int}{K:Int->Prop}(h:wY lo d K)(r:(lo=none∧MB=none)∨∃a v,lo=some a∧MB=some v∧jX n σ F w a v) :
  ∃x,K x∧((lo=none∧MB=none∧x=d)∨∃k a,lo=some a∧MB=some (.int k x)):=by
 unfold wY at h
 split at h
 ·rcases r with ⟨_,e⟩|⟨a,v,e,_⟩
  ·exact⟨d,h, .inl ⟨rfl,e,rfl⟩⟩
  ·cases e
 ·rename_i k x
  rcases r with ⟨e,_⟩|⟨a,v,e,e2,ra⟩
  ·cases e
  ·injection e with e
   rw [<-e]at ra
   rw [ra.kR]at e2
   exact⟨x,h, .inr ⟨k,_,rfl,e2⟩⟩
 ·cases h
theorem VE {mx:Option AV}{Nz:Option Value}{b:Int}{m:Nat}{K:Prop}(h:Iz mx b m K)(r:(mx=none∧Nz=none)∨∃a v,mx=some a∧Nz=some v∧jX n σ F w a v) :
  K∧((mx=none∧Nz=none)∨∃k z,mx=some (.v (.int k z))∧Nz=some (.int k z)∧b<=z∧z<=m):=by
 unfold Iz at h
 split at h
 ·rcases r with ⟨_,e⟩|⟨a,v,e,_⟩
  ·exact⟨h, .inl ⟨rfl,e⟩⟩
  ·cases e
 ·rename_i k z
  rcases r with ⟨e,_⟩|⟨a,v,e,e2,ra⟩
  ·cases e
  ·injection e with e
   rw [<-e]at ra
   rw [ra.kR]at e2
   exact⟨h.go, .inr ⟨k,z,rfl,e2,h.req.1,h.req.2⟩⟩
 ·cases h
abbrev IL (n:Nat)(σ:Nat->Loc)(F:Nat->Prop)(w:World)(a:Option AV)(v:Option Value):Prop:=(a=none∧v=none)∨∃x y,a=some x∧v=some y∧jX n σ F w x y
theorem wZ {t E:TypeId}{sz l c:Nat}{oa:Option Addr}{lo hi mx:Option AV}{MB Yf Nz:Option Value}{K:Nat->Nat->Prop}(ht:P.underlying t=some (.slice E))(hs:szB P E=some sz)(hlc:l<=c)
  (h:wY lo 0 fun a=>wY hi (l:Int) fun b=>Iz mx b l (pO a b l K)) (r1:IL n σ F w lo MB) (r2:IL n σ F w hi Yf) (r3:IL n σ F w mx Nz) (hmx:mx≠none->hi≠none) :
  ∃i j m,K i j∧i<=j∧j<=l∧j<=m∧m<=c∧(lo=none->i=0)∧(hi=none->j=l)∧(mx=none->m=c)∧(∀k z,mx=some (.v (.int k z))->z=(m:Int))∧∀u,(Instr.sliceAt t (.slice oa l c) MB Yf Nz).run P u = .ok (.slice (sQ oa i sz m) (j-i) (m-i)) u:=by
 obtain⟨x,h,c1⟩:=DY h r1
 obtain⟨y,h,c2⟩:=DY h r2
 obtain⟨h,c3⟩:=VE h r3
 obtain⟨i,j,rfl,rfl,hij,hjl,hk⟩:=h.ex
 have d1:(MB=none∧i=0)∨∃k,MB=some (.int k (i:Int)):=by
  rcases c1 with ⟨_,e,e2⟩|⟨k,a,_,e⟩
  ·exact .inl ⟨e,by omega⟩
  ·exact .inr ⟨k,e⟩
 have e1:lo=none->i=0:=by
  intro e
  rcases c1 with ⟨_,_,e2⟩|⟨k,a,e3,_⟩
  ·omega
  ·rw [e]at e3;cases e3
 have e2:hi=none->j=l:=by
  intro e
  rcases c2 with ⟨_,_,e2⟩|⟨k,a,e3,_⟩
  ·omega
  ·rw [e]at e3;cases e3
 rcases c3 with ⟨rfl,rfl⟩|⟨k3,z,rfl,rfl,hz1,hz2⟩
 ·refine⟨i,j,c,hk,hij,hjl,by omega,ay _,e1,e2,fun _=>rfl,(fun k z e=>by cases e),fun u=>tZ ht hs d1 ?_ (.inl ⟨rfl,rfl⟩) hij aad (ay _)⟩
  rcases c2 with ⟨_,e,e3⟩|⟨k,a,_,e⟩
  ·exact .inl ⟨e,by omega,rfl⟩
  ·exact .inr ⟨k,e⟩
 ·obtain⟨m,rfl⟩ : ∃m:Nat,z=m:=⟨z.toNat,by omega⟩
  refine⟨i,j,m,hk,hij,hjl,by omega,by omega,e1,e2,(fun e=>by cases e),(fun k z e=>by injection e with e;injection e with e;injection e with _ e;exact e.symm),fun u=>tZ ht hs d1 ?_ (.inr ⟨k3,rfl⟩) hij aad aad⟩
  rcases c2 with ⟨e,_,_⟩|⟨k,a,_,e⟩
  ·exact absurd e (hmx aaA)
  ·exact .inr ⟨k,e⟩
theorem VF {lo hi:Option AV}{i j:Nat}{l:List (List FV)}(h1:lo=none->i=0)(h2:hi=none->j=l.length):cut lo hi i j l=(l.take j).drop i:=by
 unfold cut
 split
 ·rw [h1 rfl,h2 rfl];simp
 ·rw [h1 rfl];simp
 ·rw [h2 rfl];simp
 ·rfl
theorem JC {jT i j m c:Nat}{oa:Option Addr}{o n':Nat}(hl:jT<n)(ho:o+n'<=(σ jT).n)(hnil:oa=none->c=0)(hoa:0<n'->∃b,(σ jT).b=some b∧oa=some ⟨b,o*(σ jT).sz,none⟩)
  (hij:i<=j) (hjn:j<=n') (hjm:j<=m) (hmc:m<=c):jX n σ F w (.sub jT (o+i) (j-i)) (.slice (sQ oa i (σ jT).sz m) (j-i) (m-i)):=by
 refine .sub jT (o+i) (j-i) _ _ hl aad aad (Dc hmc hnil) fun hlt=> ?_
 obtain⟨b,h1,h2⟩:=hoa aad
 refine⟨b,h1, ?_⟩
 unfold sQ
 rw [if_neg aad,h2]
 simp [add0,aX]
theorem Z8 (L:Loc):sQ L.oa 0 L.sz L.c=L.oa:=by
 unfold sQ
 split
 ·rfl
 ·cases L.oa with
  | none=>rfl
  | some a=>simp [Addr.add]
theorem DZ {t:TypeId}{x:AV}{lo hi mx:Option AV}{vx:Value}{MB Yf Nz:Option Value}(h:IC P H t x lo hi mx K)(hmx:mx≠none->hi≠none)(rx:jX n σ F w x vx)(r1:IL n σ F w lo MB)(r2:IL n σ F w hi Yf)(r3:IL n σ F w mx Nz)(hH:qZ n σ F w H) :
  Ans n σ F w K S fun u q Kv=>kG P (Instr.sliceAt t vx MB Yf Nz) u (wr q u Kv):=by
 unfold IC at h
 split at h
 ·rename_i hu
  split at h
  ·rename_i s
   rw [rx.kR]
   obtain⟨a,h,c1⟩:=DY h r1
   obtain⟨b,h,c2⟩:=DY h r2
   obtain⟨i,j,rfl,rfl,hij,hjl,hk⟩:=h.ex
   have e3:Nz=none:=by
    rcases r3 with ⟨_,e⟩|⟨_,_,e,_⟩
    ·exact e
    ·cases e
   subst e3
   refine⟨_,_,hk, .v _,fun u q Kv _ hv=> ?_⟩
   have h1:(0:Int)<=i∧(i:Int)<=j:=⟨by omega,by omega⟩
   have h2:(0:Int)<=j∧(j:Int)<=s.size:=⟨by omega,by omega⟩
   refine lJ ?_ (lu hv)
   unfold Instr.sliceAt
   rw [Sem.run_bind,jR hu]
   simp only [Result.andThen_ok]
   unfold Instr.slice
   rw [Sem.run_bind,jR hu]
   rcases c1 with ⟨_,rfl,e1⟩|⟨k1,_,_,rfl⟩
   ·have e1:i=0:=aad
    subst e1
    rcases c2 with ⟨_,rfl,e2⟩|⟨k2,_,_,rfl⟩
    ·have e2:j=s.size:=aad
     subst e2
     simp [Instr.sliceBounds]
    ·simp [Instr.sliceBounds,Instr.sliceBound,asIntOf,hij,hjl]
   ·rcases c2 with ⟨_,rfl,e2⟩|⟨k2,_,_,rfl⟩
    ·have e2:j=s.size:=aad
     subst e2
     simp [Instr.sliceBounds,Instr.sliceBound,asIntOf,hij]
    ·simp [Instr.sliceBounds,Instr.sliceBound,asIntOf,hij,hjl]
  ·cases h
 ·rename_i e hu
  split at h
  ·rename_i sz hs
   split at h
   ·rename_i sz' l
    cases hb:Nat.beq sz sz' with
    | false=>rw [hb]at h;exact h.elim
    | true=>
     rw [hb,cond_true]at h
     have:=aj hb
     subst this
     cases rx with
     | lst hf=>
      obtain⟨oa,n',c,rfl,hn,hc⟩ : ∃oa m c,vx = .slice oa m c∧m=l.length∧m<=c:=by cases hf with|lst _ _ oa m c b o hn hc hnil ho hsz hex hrep=>exact⟨oa,m,c,rfl,hn,hc⟩
      subst hn
      obtain⟨i,j,m,hk,hij,hjl,hjm,hmc,e1,e2,e3,e4,hr⟩:=wZ (oa:=oa) hu hs hc h r1 r2 r3 hmx
      rw [VF e1 e2]at hk
      exact⟨_,_,hk, .lst (hf.part hij hjl hjm hmc),fun u q Kv _ hv=>lJ (hr u) (lu hv)⟩
   ·rename_i l
    split at h
    ·rename_i m' hm
     have hsn:(σ l).sz=sz∧(σ l).n=m'∧m'<=(σ l).c∧((σ l).oa=none->(σ l).c=0)∧(0<m'->∃b,(σ l).b=some b∧(σ l).oa=some ⟨b,0,none⟩):=by
      unfold QI at hm
      split at hm
      ·rename_i T sz' mm hk
       cases hb:Nat.beq sz sz' with
       | false=>rw [hb]at hm;cases hm
       | true=>
        rw [hb,cond_true]at hm
        injection hm with hm
        have:=aj hb
        subst this;subst hm
        obtain⟨q1,q2,xs,hO,hR⟩:=hH _ _ hk
        refine⟨q1,q2, ?_, ?_,DV hk hH⟩
        ·rcases hO.2 with ⟨hv,h0⟩|⟨g,cap,cur,hv,_,_,hle,_⟩
         ·omega
         ·injection hv with _ _ ec;omega
        ·intro en
         rcases hO.2 with ⟨hv,h0⟩|⟨g,cap,cur,hv,_,_,hle,_⟩
         ·injection hv with _ _ ec
         ·injection hv with eo _ _;rw [en]at eo;cases eo
      ·rename_i sz' mm hk
       cases hb:Nat.beq sz sz' with
       | false=>rw [hb]at hm;cases hm
       | true=>
        rw [hb,cond_true]at hm
        injection hm with hm
        have:=aj hb
        subst this;subst hm
        obtain⟨q1,q2,hf,_⟩:=hH _ _ hk
        refine⟨q1,q2, ?_, ?_,Ny hk hH⟩
        ·cases hf with|lst _ _ _ _ _ b o hn hc hnil ho hsz hex hrep=>omega
        ·cases hf with|lst _ _ _ _ _ b o hn hc hnil ho hsz hex hrep=>exact hnil
      ·cases hm
     obtain⟨q1,q2,q3,q4,q5⟩:=hsn
     cases rx with
     | oP _ oa hl hn hc=>
      rw [hn]at q2
      subst q2
      obtain⟨i,j,m,hk,hij,hjl,hjm,hmc,e1,e2,e3,e4,hr⟩:=wZ (oa:=oa) (l:=0) (c:=0) hu hs (ay _) h r1 r2 r3 hmx
      have z1:i=0:=aad
      have z2:j=0:=aad
      have z3:m=0:=aad
      subst z1;subst z2;subst z3
      have hv0:Value.slice (sQ oa 0 sz 0) (0-0) (0-0) = .slice oa 0 0:=by unfold sQ;rw [if_pos rfl]
      rw [hv0]at hr
      split at hk
      ·exact⟨_,_,hk.go, .full l 0 oa hl (aK _) (fun h=>absurd h aad),fun u q Kv _ hv=>lJ (hr u) (lu hv)⟩
      ·unfold IB at hk
       split at hk
       ·exact⟨_,_,hk, .oP l oa hl hn hc,fun u q Kv _ hv=>lJ (hr u) (lu hv)⟩
       ·exact⟨_,_,hk, .sub l 0 _ oa 0 hl aad aad (fun _=>rfl) (fun h=>absurd h aad),fun u q Kv _ hv=>lJ (hr u) (lu hv)⟩
     | own _ hl=>
      rw [q2]
      obtain⟨i,j,m,hk,hij,hjl,hjm,hmc,e1,e2,e3,e4,hr⟩:=wZ (oa:=(σ l).oa) hu hs q3 h r1 r2 r3 hmx
      have hsub:jX n σ F w (.sub l i (j-i)) (.slice (sQ (σ l).oa i sz m) (j-i) (m-i)):=by
       have:=JC (n:=n) (σ:=σ) (F:=F) (w:=w) (n':=m') (o:=0) (i:=i) (j:=j) (m:=m) (c:=(σ l).c) (oa:=(σ l).oa) hl aad q4 (fun h0=>by obtain⟨b,x1,x2⟩:=q5 h0;exact⟨b,x1,by rw [x2,eG]⟩) hij hjl hjm hmc
       rw [aJ,q1]at this
       exact this
      split at hk
      ·rename_i k z
       have hz:=hk.req
       have hm:=e4 _ _ rfl
       have hi:=e1 rfl
       subst hi
       have Z9:m=j:=aad
       subst Z9
       refine⟨_,_,hk.go, .full l m _ hl aad (fun h0=> ?_),fun u q Kv _ hv=>lJ (hr u) (lu (by rw [iW];exact hv))⟩
       obtain⟨b,x1,x2⟩:=q5 aad
       refine⟨b,x1, ?_⟩
       unfold sQ
       rw [if_neg aad,x2]
       simp [add0]
      ·unfold IB at hk
       split at hk
       ·have:=e1 rfl;subst this
        have:=e2 rfl;subst this
        have:=e3 rfl;subst this
        refine⟨_,_,hk, .own l hl,fun u q Kv _ hv=>lJ (hr u) (lu ?_)⟩
        rw [<-q1,Z8,iW,iW, <-q2]
        exact hv
       ·exact⟨_,_,hk,hsub,fun u q Kv _ hv=>lJ (hr u) (lu hv)⟩
    ·cases h
   ·rename_i l o n'
    split at h
    ·rename_i m' hm
     have q1:(σ l).sz=sz:=by
      unfold QI at hm
      split at hm
      ·rename_i T sz' mm hk
       cases hb:Nat.beq sz sz' with
       | false=>rw [hb]at hm;cases hm
       | true=>rw [aj hb];exact(hH _ _ hk).1
      ·rename_i sz' mm hk
       cases hb:Nat.beq sz sz' with
       | false=>rw [hb]at hm;cases hm
       | true=>rw [aj hb];exact(hH _ _ hk).1
      ·cases hm
     cases rx with
     | sub _ _ _ oa c hl hkk hc hnil ho=>
      obtain⟨i,j,m,hk,hij,hjl,hjm,hmc,e1,e2,e3,e4,hr⟩:=wZ (oa:=oa) hu hs hc h r1 r2 r3 hmx
      have:=JC (n:=n) (σ:=σ) (F:=F) (w:=w) (n':=n') (o:=o) (i:=i) (j:=j) (m:=m) (c:=c) (oa:=oa) hl hkk hnil ho hij hjl hjm hmc
      rw [q1]at this
      exact⟨_,_,hk,this,fun u q Kv _ hv=>lJ (hr u) (lu hv)⟩
    ·cases h
   ·rw [rx.kR]
    obtain⟨i,j,m,hk,hij,hjl,hjm,hmc,e1,e2,e3,e4,hr⟩:=wZ (oa:=none) (l:=0) (c:=0) (K:=fun _ _=>K (.v (.slice none 0 0))) hu hs (ay _) h r1 r2 r3 hmx
    have z1:i=0:=aad
    have z2:j=0:=aad
    have z3:m=0:=aad
    subst z1;subst z2;subst z3
    exact⟨_,_,hk, .v _,fun u q Kv _ hv=>lJ (hr u) (lu hv)⟩
   ·cases h
  ·cases h
 ·cases h
theorem zq {op:BinOp}{b:Bool}(h:uZ op b K) : ∃c,(op = .eql∧c=b∨op = .neq∧c = !b)∧K (.v (.bool c)):=by
 unfold uZ at h
 split at h
 ·exact⟨_, .inl ⟨rfl,rfl⟩,h⟩
 ·exact⟨_, .inr ⟨rfl,rfl⟩,h⟩
 ·cases h
theorem zx {op:BinOp}{t:TypeId}{x y:Operand}{va vb:Value}{b c:Bool}(u:World)(hc:op = .eql∧c=b∨op = .neq∧c = !b)(hg : ∀o:BinOp,o = .eql∨o = .neq->(eqGuard o t x y va vb).run P u = .ok () u)
  (hb1:binOp .eql t va vb=(do pure (.bool (<-Op.equal t va vb)))) (hb2:binOp .neq t va vb=(do pure (.bool (!(<-Op.equal t va vb))))) (he:(Op.equal t va vb).run P u = .ok b u) :
  (do eqGuard op t x y va vb;binOp op t va vb:Sem Value).run P u = .ok (.bool c) u:=by
 rcases hc with ⟨rfl,rfl⟩|⟨rfl,rfl⟩
 ·rw [Sem.run_bind,hg _ (.inl rfl),Result.andThen_ok,hb1,Sem.run_bind,he];rfl
 ·rw [Sem.run_bind,hg _ (.inr rfl),Result.andThen_ok,hb2,Sem.run_bind,he];rfl
theorem xg (t:TypeId)(va vb:Value) : ∃d,Op.equal t va vb=Op.equalIn (d+1) t va vb:=by
 obtain⟨d,hd⟩ : ∃d,Op.maxDepth=d+1:=⟨Op.maxDepth-1,by decide⟩
 exact⟨d,by unfold Op.equal;rw [hd]⟩
theorem FM {u:World}{t e:TypeId}{oa:Option Addr}{k c:Nat}(hu:P.underlying t=some (.slice e)):(Op.equal t (.slice oa k c) (.slice none 0 0)).run P u = .ok oa.isNone u:=by
 obtain⟨d,hd⟩:=xg t (.slice oa k c) (.slice none 0 0)
 rw [hd]
 unfold Op.equalIn
 rw [Sem.run_bind,jR hu]
 cases oa<;>rfl
theorem La {u:World}{t e:TypeId}{oa:Option Addr}(hu:P.underlying t=some (.pointer e)):(Op.equal t (.pointer oa) (.pointer none)).run P u = .ok oa.isNone u:=by
 obtain⟨d,hd⟩:=xg t (.pointer oa) (.pointer none)
 rw [hd]
 unfold Op.equalIn
 rw [Sem.run_bind,jR hu]
 cases oa<;>rfl
theorem Lc {u:World}{t k e:TypeId}{oa:Option Nat}(hu:P.underlying t=some (.map k e)):(Op.equal t (.map oa) (.map none)).run P u = .ok oa.isNone u:=by
 obtain⟨d,hd⟩:=xg t (.map oa) (.map none)
 rw [hd]
 unfold Op.equalIn
 rw [Sem.run_bind,jR hu]
 cases oa<;>rfl
theorem NC {a:AV}{va:Value}{k:Nat}(h:Vx H a=some k)(ra:jX n σ F w a va)(hH:qZ n σ F w H) : ∃oa m c,va = .slice oa m c∧(0<k->oa.isNone=false):=by
 unfold Vx at h
 split at h
 ·injection h with h
  subst h
  cases ra with
  | lst hf=>cases hf with
   | lst _ _ oa m c b o hn hc hnil ho hsz hex hrep=>exact⟨oa,m,c,rfl,fun h0=>by rw [(ho aad).1];rfl⟩
 ·split at h
  ·rename_i l T sz m hk
   injection h with h
   subst h
   cases ra with
   | own _ hl=>exact⟨_,_,_,rfl,fun h0=>by obtain⟨g,_,e⟩:=DV hk hH h0;rw [e];rfl⟩
   | oP _ oa hl hn hc=>exact⟨_,_,_,rfl,fun h0=>by have:=(uK hk hH).2;omega⟩
  ·rename_i l sz m hk
   injection h with h
   subst h
   cases ra with
   | own _ hl=>exact⟨_,_,_,rfl,fun h0=>by obtain⟨g,_,e⟩:=Ny hk hH h0;rw [e];rfl⟩
   | oP _ oa hl hn hc=>exact⟨_,_,_,rfl,fun h0=>by have:=(yh hk hH).2;omega⟩
  ·cases h
 ·injection h with h
  subst h
  cases ra with
  | sub _ _ _ oa c hl hk hc hnil ho=>exact⟨_,_,_,rfl,fun h0=>by obtain⟨b,_,e⟩:=ho h0;rw [e];rfl⟩
 ·cases h
theorem zy {t:TypeId}{x y:Operand}{va vb:Value}(u:World)(h:(∀l,va≠ .agg l)∧va≠ .nilIface)(o:BinOp)(_:o = .eql∨o = .neq):(eqGuard o t x y va vb).run P u = .ok () u:=by
 unfold eqGuard
 cases o<;>cases va<;>first|rfl|exact(h.1 _ rfl).elim|exact(h.2 rfl).elim|(cases vb<;>rfl)
theorem IQ {op:BinOp}{t:TypeId}{x y:Operand}{a b:AV}{va vb:Value}(h:Vy P H op t a b K)(ra:jX n σ F w a va)(rb:jX n σ F w b vb)(hH:qZ n σ F w H) :
  Ans n σ F w K S fun u q Kv=>xQ P q op t x y va vb u Kv:=by
 unfold Vy at h
 split at h
 ·rename_i e hu
  rw [rb.kR]
  have fin : ∀ {oa:Option Addr} {m c:Nat},va = .slice oa m c->uZ op oa.isNone K->Ans n σ F w K S fun u q Kv=>xQ P q op t x y va (.slice none 0 0) u Kv:=by
   intro oa m c ev hk
   subst ev
   obtain⟨cc,hc,hk⟩:=zq hk
   exact⟨_,_,hk, .v _,fun u q Kv _ hv=>lJ (zx u hc (zy u ⟨(fun l e=>by cases e),(fun e=>by cases e)⟩) rfl rfl (FM hu)) (lu hv)⟩
  split at h
  ·exact fin ra.kR h
  ·split at h
   ·rename_i k hk
    obtain⟨oa,m,c,ev,hz⟩:=NC hk ra hH
    exact fin ev (h.ex _ hz)
   ·cases h
 ·rename_i e hu
  rw [rb.kR]
  have fin : ∀ {oa:Option Addr},va = .pointer oa->uZ op oa.isNone K->Ans n σ F w K S fun u q Kv=>xQ P q op t x y va (.pointer none) u Kv:=by
   intro oa ev hk
   subst ev
   obtain⟨cc,hc,hk⟩:=zq hk
   exact⟨_,_,hk, .v _,fun u q Kv _ hv=>lJ (zx u hc (zy u ⟨(fun l e=>by cases e),(fun e=>by cases e)⟩) rfl rfl (La hu)) (lu hv)⟩
  split at h
  ·exact fin ra.kR h
  ·cases hp:Yb a with
   | false=>rw [hp]at h;exact h.elim
   | true=>
    rw [hp,cond_true]at h
    have : ∃p,va = .pointer (some p):=by
     cases ra with
     | ptr l o b hl hb=>exact⟨_,rfl⟩
     | ep l i o b hl hb=>exact⟨_,rfl⟩
     | fp hf=>cases hf;exact⟨_,rfl⟩
     | _=>cases hp
    obtain⟨p,ev⟩:=this
    exact fin ev h
 ·rename_i e1 e2 hu
  rw [rb.kR]
  have fin : ∀ {oa:Option Nat},va = .map oa->uZ op oa.isNone K->Ans n σ F w K S fun u q Kv=>xQ P q op t x y va (.map none) u Kv:=by
   intro oa ev hk
   subst ev
   obtain⟨cc,hc,hk⟩:=zq hk
   exact⟨_,_,hk, .v _,fun u q Kv _ hv=>lJ (zx u hc (zy u ⟨(fun l e=>by cases e),(fun e=>by cases e)⟩) rfl rfl (Lc hu)) (lu hv)⟩
  split at h
  ·exact fin ra.kR h
  ·cases ra with|mp _ b hl hb=>exact fin rfl h
  ·cases ra with|fm hf=>cases hf with|fm _ b _ _=>exact fin rfl h
  ·cases h
 ·rename_i e1 e2 e3 hu
  rw [rb.kR]
  have fin : ∀ {bb:Bool},((∀l,va≠ .agg l)∧va≠ .nilIface)->binOp .eql t va .nilFunc=(do pure (.bool (<-Op.equal t va .nilFunc)))->binOp .neq t va .nilFunc=(do pure (.bool (!(<-Op.equal t va .nilFunc))))->(∀u,(Op.equal t va .nilFunc).run P u = .ok bb u)->(∀u q Kv,kG P (do eqGuard op t x y va .nilFunc;binOp op t va .nilFunc) u (wr q u Kv)->xQ P q op t x y va .nilFunc u Kv)->uZ op bb K->Ans n σ F w K S fun u q Kv=>xQ P q op t x y va .nilFunc u Kv:=by
   intro bb h1 h2 h3 h4 h5 hk
   obtain⟨cc,hc,hk⟩:=zq hk
   exact⟨_,_,hk, .v _,fun u q Kv _ hv=>h5 u q Kv (lJ (zx u hc (zy u h1) h2 h3 (h4 u)) (lu hv))⟩
  have UW : ∀(u:World) (f:Fn) (p r:Array Value),(Op.equal t (.func f p r) .nilFunc).run P u = .ok false u:=fun u f p r=>by
   obtain⟨d,hd⟩:=xg t (.func f p r) .nilFunc
   rw [hd]
   unfold Op.equalIn
   rw [Sem.run_bind,jR hu]
   rfl
  split at h
  ·cases ra with
   | fn f xs ys us vs hx hy rx ry=>exact fin ⟨(fun l e=>by cases e),(fun e=>by cases e)⟩ rfl rfl (fun u=>UW u _ _ _) (fun u q Kv h=>h) h
  ·have ev:=ra.kR
   subst ev
   exact fin ⟨(fun l e=>by cases e),(fun e=>by cases e)⟩ rfl rfl (fun u=>UW u _ _ _) (fun u q Kv h=>h) h
  ·have ev:=ra.kR
   subst ev
   refine fin ⟨(fun l e=>by cases e),(fun e=>by cases e)⟩ rfl rfl (fun u=> ?_) (fun u q Kv h=>h) h
   obtain⟨d,hd⟩:=xg t .nilFunc .nilFunc
   rw [hd]
   unfold Op.equalIn
   rw [Sem.run_bind,jR hu]
   rfl
  ·cases h
 ·cases h
theorem IU {op:BinOp}{t:TypeId}{x y:Operand}{a b:AV}{va vb:Value}(h:Vz P H op t a b K)(ra:jX n σ F w a va)(rb:jX n σ F w b vb)(hH:qZ n σ F w H) :
  Ans n σ F w K S fun u q Kv=>xQ P q op t x y va vb u Kv:=by
 unfold Vz at h
 split at h
 ·rename_i k m k' n'
  rw [ra.kR,rb.kR]
  split at h
  ·obtain⟨a,v,h1,h2,h3⟩:=vV (n:=n) (σ:=σ) (F:=F) (w:=w) (S:=S) h;exact⟨a,v,h1,h2,h3⟩
  ·obtain⟨a,v,h1,h2,h3⟩:=vV (n:=n) (σ:=σ) (F:=F) (w:=w) (S:=S) h;exact⟨a,v,h1,h2,h3⟩
  ·rename_i op' h1 h2
   cases hk:decide (k=k')with
   | false=>rw [hk]at h;exact h.elim
   | true=>
    rw [hk,cond_true]at h
    obtain⟨a,v,g1,g2,g3⟩:=vV (n:=n) (σ:=σ) (F:=F) (w:=w) (S:=S) h
    refine⟨a,v,g1,g2,fun u q Kv hs hv=> ?_⟩
    have:=g3 u q Kv hs hv
    cases op<;>first|exact(h1 rfl).elim|exact(h2 rfl).elim|(simp only [xQ,hk,cond_true];exact this)
 ·rw [ra.kR,rb.kR]
  obtain⟨a,v,g1,g2,g3⟩:=IJ (n:=n) (σ:=σ) (F:=F) (w:=w) (S:=S) h
  exact⟨a,v,g1,g2,g3⟩
 ·rename_i m n'
  rw [ra.kR,rb.kR]
  split at h
  ·split at h
   ·rename_i hu
    exact⟨_,_,h, .v _,fun u q Kv _ hv=>by simp only [xQ,hu];exact hv⟩
   ·cases h
  ·split at h
   ·rename_i hu
    exact⟨_,_,h, .v _,fun u q Kv _ hv=>by simp only [xQ,hu];exact hv⟩
   ·cases h
  ·cases h
 ·rename_i xs ys
  obtain⟨us',rfl,rx⟩:=kD.yQ ra
  obtain⟨vs',rfl,ry⟩:=kD.yQ rb
  split at h
  ·rename_i us vs hus hvs
   have e1:=Af hus rx
   have e2:=Af hvs ry
   subst e1;subst e2
   split at h
   ·rename_i b hb
    split at h
    ·exact⟨_,_,h.go, .v _,fun u q Kv _ hv=>Vs h.g h.p h.u hb (lu hv)⟩
    ·exact⟨_,_,h.go, .v _,fun u q Kv _ hv=>Vr h.g h.p h.u hb (lu hv)⟩
    ·cases h
   ·cases h
  ·cases h
 ·exact IQ h ra rb hH
theorem ND {k:IntKind}{u:World} : ∀ {r:List AV} {x m:Int} {vs:List Value},minL x r=some m->kD n σ F w r vs->(vs.foldlM Builtin.min2 (.int k x)).run P u = .ok (.int k m) u:=by
 intro r
 induction r with
 | nil=>intro x m vs h rr;cases vs with
  | nil=>injection h with h;subst h;rfl
  | cons _ _=>exact rr.elim
 | cons a r ih=>intro x m vs h rr;cases vs with
  | nil=>exact rr.elim
  | cons v vs=>
   unfold minL at h
   split at h
   ·rename_i e;cases e
   ·rename_i q y r' e
    injection e with e1 e2
    subst e1;subst e2
    have e1:=rr.1.kR
    subst e1
    have e:Builtin.min2 (.int k x) (.int q y)=pure (.int k (if y<x then y else x)):=rfl
    rw [jl,Sem.run_bind,e,Sem.run_pure,Result.andThen_ok,Dy]
    exact ih h rr.2
   ·cases h
theorem D5 {b:Builtin}{ts:List TypeId}{ty:TypeId}{as:List AV}{vs:List Value}(h:IE P H b ts as K)(r:kD n σ F w as vs)(hH:qZ n σ F w H):Ans n σ F w K S fun u q Kv=>vJ P q b ts ty vs u Kv:=by
 unfold IE at h
 split at h
 ·rename_i t a
  obtain⟨v,rfl,ra⟩ : ∃v,vs = [v]∧jX n σ F w a v:=by
   match vs,r with
   | [v],r=>exact⟨v,rfl,r.1⟩
  obtain⟨a',v',h1,h2,h3⟩:=IK (S:=S) (ty:=ty) h ra hH
  exact⟨a',v',h1,h2,h3⟩
 rotate_left 4
 ·rename_i k x k1 y k2 z rr
  split at h
  ·rename_i m hm
   obtain⟨v1,v2,v3,vr,rfl,r1,r2,r3,r4⟩ : ∃v1 v2 v3 vr,vs=v1::v2::v3::vr∧jX n σ F w _ v1∧jX n σ F w _ v2∧jX n σ F w _ v3∧kD n σ F w rr vr:=by
    match vs,r with
    | v1::v2::v3::vr,r=>exact⟨v1,v2,v3,vr,rfl,r.1,r.2.1,r.2.2.1,r.2.2.2⟩
   have e1:=r1.kR
   have e2:=r2.kR
   have e3:=r3.kR
   subst e1;subst e2;subst e3
   refine⟨_,_,h, .v _,fun u q Kv _ hv=> ?_⟩
   show kG P (Builtin.min_ ts.toArray ty (Value.int k x::Value.int k1 y::Value.int k2 z::vr).toArray) u (wr q u Kv)
   have hrun:(Builtin.min_ ts.toArray ty (Value.int k x::Value.int k1 y::Value.int k2 z::vr).toArray).run P u = .ok (.int k m) u:=by
    have e : ∀(k q:IntKind) (x y:Int),Builtin.min2 (.int k x) (.int q y)=pure (.int k (if y<x then y else x)):=fun _ _ _ _=>rfl
    unfold Builtin.min_
    dsimp only
    rw [jl,Sem.run_bind,e,Sem.run_pure,Result.andThen_ok,Dy,jl,Sem.run_bind,e,Sem.run_pure,Result.andThen_ok,Dy]
    exact ND hm r4
   refine lJ hrun ?_
   cases q
   ·exact hv
   ·exact kY.mk rfl hv
  ·cases h
 all_goals first
  | exact h.elim
  | (
   obtain⟨v1,v2,rfl,r1,r2⟩ : ∃v1 v2,vs = [v1,v2]∧jX n σ F w _ v1∧jX n σ F w _ v2:=by
    match vs,r with
    | [v1,v2],r=>exact⟨v1,v2,rfl,r.1,r.2.1⟩
   have e1:=r1.kR
   have e2:=r2.kR
   subst e1;subst e2
   refine⟨_,_,h, .v _,fun u q Kv _ hv=> ?_⟩
   exact hv)
theorem IV (hr : ∀s,jX n σ F w (kS s) (ρ s))(x:Option Operand):IL n σ F w (x.map (lK kS)) (x.map (mQ ρ)):=by
 cases x with
 | none=>exact .inl ⟨rfl,rfl⟩
 | some x=>exact .inr ⟨_,_,rfl,rfl,kC hr x⟩
theorem VG (x:FV)(v:Value)(h:lN F w x v):jX n σ F w x.val v:=by
 cases x with
 | v y=>cases h;exact pF _
 | _=>exact h.up
theorem rE.upL {xs:List FV}{vs:List Value}(r:rE F w xs vs):kD n σ F w (xs.map FV.up) vs:=by
 induction xs generalizing vs with
 | nil=>cases vs with
  | nil=>trivial
  | cons _ _=>cases r.1
 | cons x xs ih=>cases vs with
  | nil=>cases r.1
  | cons v vs=>exact⟨(r.2 0 x v rfl rfl).up,ih ⟨by have:=r.1;simpa using this,fun j a u h1 h2=>r.2 (j+1) a u h1 h2⟩⟩
theorem BP {Hr:jI}{t:TypeId}{m k:AV}{ok:Bool}{vm vk:Value}(h:DL P Hr t m k ok K)(rm:jX n σ F w m vm)(rk:jX n σ F w k vk)(Qm:qZ n σ F w Hr)(hS : ∀u,S u->qh σ F Hr w u) :
  Ans n σ F w K S fun u q Kv=>kG P (Instr.lookup t vm vk ok) u (wr q u Kv):=by
 unfold DL at h
 split at h
 ·rename_i l s
  rw [rk.kR]
  cases rm with
  | mp _ b hl hb=>
   split at h
   ·rename_i kt et M hu hk
    split at h
    ·rename_i z hkt hz
     obtain⟨g,hg,hM⟩:=Qm _ _ hk
     rw [hb]at hg
     injection hg with hg
     subst hg
     cases ok with
     | true=>
      refine⟨_, .tuple #[(M s).getD z, .bool (M s).isSome],h.ex, ?_,fun u q Kv hu' hv=>wR hu hkt hz (hM.heap ((hS u hu').h l _ b hk rfl (.inl hb))) (lu hv)⟩
      exact kD.kZ (as:= [FB ((M s).getD z), .v (.bool (M s).isSome)]) (vs:= [(M s).getD z, .bool (M s).isSome]) ⟨pF _, .v _,trivial⟩
     | false=>
      exact⟨_,_,h.ex,pF _,fun u q Kv hu' hv=>uG hu hkt hz (hM.heap ((hS u hu').h l _ b hk rfl (.inl hb))) (lu hv)⟩
    ·cases h
   ·rename_i kt et M hu hk
    split at h
    ·rename_i z hkt hz
     obtain⟨g,hg,hf⟩:=Qm _ _ hk
     rw [hb]at hg
     injection hg with hg
     subst hg
     cases hf with
     | fm _ _ hF hM=>
      cases ok with
      | true=>
       refine⟨_, .tuple #[(M s).getD z, .bool (M s).isSome],h.ex, ?_,fun u q Kv hu' hv=>wR hu hkt hz (hM.heap ((hS u hu').f b hF)) (lu hv)⟩
       exact kD.kZ (as:= [FB ((M s).getD z), .v (.bool (M s).isSome)]) (vs:= [(M s).getD z, .bool (M s).isSome]) ⟨pF _, .v _,trivial⟩
      | false=>
       exact⟨_,_,h.ex,pF _,fun u q Kv hu' hv=>uG hu hkt hz (hM.heap ((hS u hu').f b hF)) (lu hv)⟩
    ·cases h
   ·rename_i kt et M hu hk
    split at h
    ·rename_i z hkt hz
     obtain⟨g,hg,V,hM,hV⟩:=Qm _ _ hk
     rw [hb]at hg
     injection hg with hg
     subst hg
     have FN:=hV s
     have key : ∃a b,(match ok with|true=>K (.kZ [a, .v (.bool b)])|false=>K a)∧jX n σ F w a ((V s).getD z)∧b=(V s).isSome:=by
      cases QM:M s with
      | none=>
       rw [QM]at FN
       cases hVv:V s with
       | none=>exact⟨_,_,h.no QM,pF _,rfl⟩
       | some v=>rw [hVv]at FN;exact FN.elim
      | some x=>
       rw [QM]at FN
       cases hVv:V s with
       | none=>rw [hVv]at FN;exact FN.elim
       | some v=>rw [hVv]at FN;obtain⟨vs,e,r⟩:=FN;exact⟨_,_,h.yes x QM,by show jX n σ F w _ v;rw [e];exact r.upL.agg,rfl⟩
     obtain⟨a,bb,hK,ha,rfl⟩:=key
     cases ok with
     | true=>
      refine⟨_, .tuple #[(V s).getD z, .bool (V s).isSome],hK, ?_,fun u q Kv hu' hv=>wR hu hkt hz (hM.heap ((hS u hu').h l _ b hk rfl (.inl hb))) (lu hv)⟩
      exact kD.kZ (as:= [a, .v (.bool (V s).isSome)]) (vs:= [(V s).getD z, .bool (V s).isSome]) ⟨ha, .v _,trivial⟩
     | false=>
      exact⟨_,_,hK,ha,fun u q Kv hu' hv=>uG hu hkt hz (hM.heap ((hS u hu').h l _ b hk rfl (.inl hb))) (lu hv)⟩
    ·cases h
   ·cases h
 ·rename_i M s
  rw [rk.kR]
  split at h
  ·rename_i kt et hu
   split at h
   ·rename_i z hkt hz
    cases rm with
    | fm hf=>cases hf with
     | fm _ b hF hM=>
      cases ok with
      | true=>
       refine⟨_, .tuple #[(M s).getD z, .bool (M s).isSome],h.ex, ?_,fun u q Kv hu' hv=>wR hu hkt hz (hM.heap ((hS u hu').f b hF)) (lu hv)⟩
       exact kD.kZ (as:= [FB ((M s).getD z), .v (.bool (M s).isSome)]) (vs:= [(M s).getD z, .bool (M s).isSome]) ⟨pF _, .v _,trivial⟩
      | false=>
       exact⟨_,_,h.ex,pF _,fun u q Kv hu' hv=>uG hu hkt hz (hM.heap ((hS u hu').f b hF)) (lu hv)⟩
   ·cases h
  ·cases h
 ·rename_i l i
  rw [rk.kR]
  cases rm with
  | mp _ b hl hb=>
   split at h
   ·rename_i kt et M hu hk
    split at h
    ·rename_i z hkt hz
     obtain⟨g,hg,V,hM,hV⟩:=Qm _ _ hk
     rw [hb]at hg
     injection hg with hg
     subst hg
     have FN:=hV i
     have key : ∃a b,(match ok with|true=>K (.kZ [a, .v (.bool b)])|false=>K a)∧jX n σ F w a ((V i).getD z)∧b=(V i).isSome:=by
      cases QM:M i with
      | none=>
       rw [QM]at FN
       cases hVv:V i with
       | none=>exact⟨_,_,h.no QM,pF _,rfl⟩
       | some v=>rw [hVv]at FN;exact FN.elim
      | some x=>
       rw [QM]at FN
       cases hVv:V i with
       | none=>rw [hVv]at FN;exact FN.elim
       | some v=>rw [hVv]at FN;exact⟨_,_,h.yes x QM,VG x v FN,rfl⟩
     obtain⟨a,bb,hK,ha,rfl⟩:=key
     cases ok with
     | true=>
      refine⟨_, .tuple #[(V i).getD z, .bool (V i).isSome],hK, ?_,fun u q Kv hu' hv=>Nk hu hkt hz (hM.heap ((hS u hu').h l _ b hk rfl (.inl hb))) (lu hv)⟩
      exact kD.kZ (as:= [a, .v (.bool (V i).isSome)]) (vs:= [(V i).getD z, .bool (V i).isSome]) ⟨ha, .v _,trivial⟩
     | false=>
      exact⟨_,_,hK,ha,fun u q Kv hu' hv=>KO hu hkt hz (hM.heap ((hS u hu').h l _ b hk rfl (.inl hb))) (lu hv)⟩
    ·cases h
   ·cases h
 ·cases h
def rP (o:Oper):Bool:=match o.op with | .slice _ _ _ hi mx=> !mx.isSome||hi.isSome|_=>true
theorem Ah {Hr:jI}{o:Oper}(h:aQ P Hr H o kS K)(hi:rP o=true)(Qm:qZ n σ F w Hr)(hH:qZ n σ F w H)(hr : ∀s,jX n σ F w (kS s) (ρ s)):Ans n σ F w K (qh σ F Hr w) fun u q Kv=>zO P q o ρ u Kv:=by
 unfold aQ at h
 unfold zO
 cases ho:o.op<;>simp only [ho]at h ⊢ <;>try exact h.elim
 case move x=>rw [nO]at h;exact⟨_,_,h,kC hr x,fun u q Kv _ hv=>by simp only [force_eq];exact hv⟩
 case assign x=>rw [nO]at h;exact⟨_,_,h,kC hr x,fun u q Kv _ hv=>by simp only [force_eq];exact hv⟩
 case pick c a b=>
  have rc:=kC hr c
  have ra:=kC hr a
  have rb:=kC hr b
  split at h
  ·rename_i t hc
   rw [hc]at rc
   rw [rc.kR]
   split at h
   ·rename_i x y ha hb
    rw [ha]at ra;rw [hb]at rb
    rw [ra.kR,rb.kR]
    exact⟨_,_,h, .v _,fun u q Kv _ hv=>hv⟩
   ·cases t with
    | true=>
     refine⟨_,_,h,ra,fun u q Kv _ hv=> ?_⟩
     dsimp only
     split
     ·rename_i x y e1 e2;rw [e1]at hv;exact hv
     ·exact hv
    | false=>
     refine⟨_,_,h,rb,fun u q Kv _ hv=> ?_⟩
     dsimp only
     split
     ·rename_i x y e1 e2;rw [e2]at hv;exact hv
     ·exact hv
  ·cases h
 case build t parts=>
  rw [oJ]at h
  obtain⟨a,v,h1,h2,h3⟩:=DU (S:=qh σ F Hr w) h (CW hr parts.toList)
  exact⟨a,v,h1,h2,fun u q Kv hu hv=>by simp only [kK];exact h3 u q Kv hu hv⟩
 case load t a=>
  obtain⟨p,hp,a',v,h1,h2,h3⟩:=yR h (kC hr a) Qm
  rw [hp]
  exact⟨a',v,h1,h2,h3⟩
 case nilCheck x=>
  have rx:=kC hr x
  split at h
  ·rename_i l o' hx
   rw [hx]at rx
   have : ∃p,mQ ρ x = .pointer (some p):=by generalize mQ ρ x=z at rx;cases rx;exact⟨_,rfl⟩
   obtain⟨p,hp⟩:=this
   rw [hp]at rx ⊢
   exact⟨_,_,h,rx,fun u q Kv _ hv=>hv⟩
  ·rename_i l i o' hx
   rw [hx]at rx
   have : ∃p,mQ ρ x = .pointer (some p):=by generalize mQ ρ x=z at rx;cases rx;exact⟨_,rfl⟩
   obtain⟨p,hp⟩:=this
   rw [hp]at rx ⊢
   exact⟨_,_,h,rx,fun u q Kv _ hv=>hv⟩
  ·rename_i cs o' hx
   rw [hx]at rx
   have : ∃p,mQ ρ x = .pointer (some p):=by generalize mQ ρ x=z at rx;cases rx with|fp hf=>cases hf;exact⟨_,rfl⟩
   obtain⟨p,hp⟩:=this
   rw [hp]at rx ⊢
   exact⟨_,_,h,rx,fun u q Kv _ hv=>hv⟩
  ·cases h
 case binOp op t x y yt=>
  rw [nO,nO]at h
  exact IU h (kC hr x) (kC hr y) hH
 case unOp op t x=>
  rw [nO]at h
  exact KY h (kC hr x)
 case convert src dst x=>
  rw [nO]at h
  exact FK h (kC hr x) Qm (fun u hu=>hu)
 case lookup t m k ok=>
  rw [nO,nO]at h
  obtain⟨a,v,h1,h2,h3⟩:=BP (S:=qh σ F Hr w) h (kC hr m) (kC hr k) Qm (fun u hu=>hu)
  exact⟨a,v,h1,h2,fun u q Kv hu hv=>by simp only [force_eq];exact h3 u q Kv hu hv⟩
 case makeFunc fn first captured=>
  rw [oJ,oJ]at h
  have r1:=qj hr first.toList
  have r2:=qj hr captured.toList
  exact⟨_,_,h, .fn fn _ _ _ _ r1.len r2.len r1.at r2.at,fun u q Kv _ hv=>by simp only [qJ,kK];exact hv⟩
 case slice t x lo hi' mx=>
  simp only [nO,Vu]at h
  have hm:mx.map (lK kS)≠none->hi'.map (lK kS)≠none:=by
   intro e e2
   simp only [rP,ho]at hi
   cases mx with
   | none=>exact e rfl
   | some m=>cases hi' with
    | none=>simp at hi
    | some y=>cases e2
  obtain⟨a,v,h1,h2,h3⟩:=DZ (S:=qh σ F Hr w) h hm (kC hr x) (IV hr lo) (IV hr hi') (IV hr mx) hH
  exact⟨a,v,h1,h2,fun u q Kv hu hv=>by simp only [force_eq,xO];exact h3 u q Kv hu hv⟩
 case fieldAddr t x f=>
  have rx:=kC hr x
  unfold zZ at h
  split at h
  ·rename_i d l o' hd hx
   rw [hx]at rx
   generalize mQ ρ x=z at rx ⊢
   cases rx with
   | ptr _ _ b hl hb=>exact⟨_,_,h, .ptr _ _ b hl hb,fun u q Kv _ hv=>vW hd _ u Kv (by rw [add0];exact hv)⟩
  ·rename_i d l i o' hd hx
   rw [hx]at rx
   generalize mQ ρ x=z at rx ⊢
   cases rx with
   | ep _ _ _ b hl hb=>exact⟨_,_,h, .ep _ _ _ b hl hb,fun u q Kv _ hv=>vW hd _ u Kv (by rw [add0,dS];exact hv)⟩
  ·rename_i d cs o' hd hx
   rw [hx]at rx
   generalize mQ ρ x=z at rx ⊢
   cases rx with
   | fp hf=>cases hf with
    | fp _ _ b off hb hex hrep=>exact⟨_,_,h, .fp (.fp _ _ b off hb hex hrep),fun u q Kv _ hv=>vW hd _ u Kv (by rw [add0,dS];exact hv)⟩
  ·cases h
 case field t x f=>
  have rx:=kC hr x
  split at h
  ·rename_i cs hx
   rw [hx]at rx
   obtain⟨us,e,r⟩:=kD.yQ rx
   rw [e]
   exact DT h r
  ·cases h
 case indexAddr t x i=>
  rw [nO,nO]at h
  obtain⟨a,v,h1,h2,h3⟩:=yj (S:=qh σ F Hr w) h (kC hr x) (kC hr i) hH
  exact⟨a,v,h1,h2,fun u q Kv hu hv=>by simp only [force_eq];exact h3 u q Kv hu hv⟩
 case index t x i=>
  rw [nO,nO]at h
  obtain⟨a,v,h1,h2,h3⟩:=DW (S:=qh σ F Hr w) h (kC hr x) (kC hr i)
  exact⟨a,v,h1,h2,fun u q Kv hu hv=>by simp only [force_eq];exact h3 u q Kv hu hv⟩
 case extract t i=>
  have rt:=kC hr t
  split at h
  ·rename_i vs hx
   rw [hx]at rt
   split at h
   ·rename_i a ha
    rw [nO]at h
    generalize mQ ρ t=z at rt ⊢
    cases rt with
    | kZ _ us hl rx=>
     have r:kD n σ F w vs us:= .of hl rx
     obtain⟨v,h1,h2⟩:=r.QK ha
     exact⟨_,v,h,h2,fun u q Kv _ hv=>by simp only [h1];exact hv⟩
   ·cases h
  ·cases h
 case call c=>
  obtain⟨callee,args,ats⟩:=c
  cases callee with
  | builtin b=>
   simp only at h
   rw [oJ]at h
   obtain⟨a,v,h1,h2,h3⟩:=D5 (S:=qh σ F Hr w) (ty:=o.type) h (qj hr args.toList) hH
   exact⟨a,v,h1,h2,fun u q Kv hu hv=>by simp only [yM,qJ,kK];exact h3 u q Kv hu hv⟩
  | _=>exact h.elim
end
end Go.Proofs.YtnandbihiceihaaGreatDoor.Ax
