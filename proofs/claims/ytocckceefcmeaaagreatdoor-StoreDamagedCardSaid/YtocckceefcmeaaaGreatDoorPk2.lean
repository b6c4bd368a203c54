/- Joined parts of the proof. Abstract values: what a value stands for (numbers and texts themselves, memory that changes no more as lists of rows, me -/
import Derived.Test.YtocckceefcmeaaaGreatDoorPk1
import Derived.Laws.Runes
set_option linter.unusedVariables false
set_option linter.unusedSimpArgs false
set_option maxRecDepth 100000
set_option maxHeartbeats 16000000
namespace Go.Proofs.YtocckceefcmeaaaGreatDoor.Ax
open RowKit Vc
inductive FV where
 | top
 | v (x:Value)
 | lst (sz:Nat) (l:List (List FV))
 | fp (cs:List FV) (o:Nat)
 | fm (M:ByteArray->Option Value)
inductive AV where
 | top
 | v (x:Value)
 | lst (sz:Nat) (l:List (List FV))
 | fp (cs:List FV) (o:Nat)
 | fm (M:ByteArray->Option Value)
 | ptr (lV o:Nat)
 | ep (lV i o:Nat)
 | own (lV:Nat)
 | sub (lV o n:Nat)
 | full (lV k:Nat)
 | mp (lV:Nat)
 | fn (f:Fn) (first captured:List AV)
 | agg (cs:List AV)
 | mW (vs:List AV)
inductive TV where
 | f (a:FV)
 | n (t sz:Nat) (l:List (List FV))
inductive oN where
 | var (t:TypeId) (cs:List AV)
 | rows (t:TypeId) (sz:Nat) (l:List (List FV))
 | fz (sz:Nat) (l:List (List FV))
 | map (M:ByteArray->Option Value)
 | QV (M:ByteArray->Option Value)
 | zf (M:Int->Option FV)
 | itr (s:ByteArray) (p:Nat)
 | tree (t:TypeId) (sz:Nat) (l:List (List TV)) (h:Option (Nat×Nat×Nat))
def oN.own:oN->Bool
 | .fz _ _=>false
 | .QV _=>false
 | _=>true
abbrev lF:=List (Nat×oN)
def look (H:lF)(l:Nat):Option oN:=
 match H with
 | []=>none
 | p::r=>bif Nat.beq p.1 l then some p.2 else look r l
structure Loc where
 b:Option Nat
 n:Nat
 c:Nat
 sz:Nat
def Loc.oa (L:Loc):Option Addr:=L.b.map fun g=>⟨g,0,none⟩
inductive oL (F:Nat->Prop)(w:World):FV->Value->Prop
 | top (x:Value):oL F w .top x
 | v (x:Value):oL F w (.v x) x
 | lst (sz:Nat) (l:List (List FV)) (oa:Option Addr) (n c b o:Nat) (hn:n=l.length) (hc:n<=c) (hnil:oa=none->c=0) (ho:0<n->oa=some ⟨b,o,none⟩∧F b)
   (hsz : ∀row∈l,row.length=sz) (hex : ∀i j,i<n->j<sz->∃v,w.cell? ⟨b,o+(i*sz+j),none⟩=some v∧v.oneCell'=true)
   (hrep : ∀i j row a v,l[i]? = some row->row[j]? = some a->w.cell? ⟨b,o+(i*sz+j),none⟩=some v->oL F w a v):oL F w (.lst sz l) (.slice oa n c)
 | fp (cs:List FV) (o b off:Nat) (hb:F b) (hex : ∀j,j<cs.length->∃v,w.cell? ⟨b,off+j,none⟩=some v∧v.oneCell'=true)
   (hrep : ∀j a v,cs[j]? = some a->w.cell? ⟨b,off+j,none⟩=some v->oL F w a v):oL F w (.fp cs o) (.pointer (some ⟨b,off+o,none⟩))
 | fm (M:ByteArray->Option Value) (b:Nat) (hb:F b) (hM:rF w b M):oL F w (.fm M) (.map (some b))
theorem qO {w w':World}{b:Nat}(h:w'.heap[b]? = w.heap[b]?)(o:Nat):w'.cell? ⟨b,o,none⟩=w.cell? ⟨b,o,none⟩:=by
 unfold World.cell?
 rw [h]
theorem oL.mono {F F':Nat->Prop}{w w':World}(h : ∀b,F b->F' b∧w'.heap[b]? = w.heap[b]?){a:FV}{v:Value}(r:oL F w a v):oL F' w' a v:=by
 induction r with
 | top x=>exact .top x
 | v x=>exact .v x
 | lst sz l oa n c b o hn hc hnil ho hsz hex hrep ih=>
  rcases bP n with h0|h0
  ·subst h0
   have hl:l = []:=aF hn.symm
   subst hl
   exact .lst sz [] oa 0 c b o rfl hc hnil (fun h=>absurd h (iV 0)) hsz (fun i j hi=>absurd hi (gQ i)) (fun i j row a v hi=>by simp at hi)
  ·have hb:=(ho h0).2
   have e:=qO (h b hb).2
   exact .lst sz l oa n c b o hn hc hnil (fun _=>⟨(ho h0).1,(h b hb).1⟩) hsz (fun i j hi hj=>by rw [e];exact hex i j hi hj)
    (fun i j row a v h1 h2 h3=>ih i j row a v h1 h2 (by rw [e]at h3;exact h3))
 | fp cs o b off hb hex hrep ih=>
  have e:=qO (h b hb).2
  exact .fp cs o b off (h b hb).1 (fun j hj=>by rw [e];exact hex j hj) (fun j a v h1 h2=>ih j a v h1 (by rw [e]at h2;exact h2))
 | fm M b hb hM=>exact .fm M b (h b hb).1 (hM.heap (h b hb).2)
inductive mF (n:Nat)(σ:Nat->Loc)(F:Nat->Prop)(w:World):AV->Value->Prop
 | top (x:Value):mF n σ F w .top x
 | v (x:Value):mF n σ F w (.v x) x
 | lst {sz:Nat} {l:List (List FV)} {x:Value} (h:oL F w (.lst sz l) x):mF n σ F w (.lst sz l) x
 | fp {cs:List FV} {o:Nat} {x:Value} (h:oL F w (.fp cs o) x):mF n σ F w (.fp cs o) x
 | fm {M:ByteArray->Option Value} {x:Value} (h:oL F w (.fm M) x):mF n σ F w (.fm M) x
 | ptr (lV o b:Nat) (hl:lV<n) (hb:(σ lV).b=some b):mF n σ F w (.ptr lV o) (.pointer (some ⟨b,o,none⟩))
 | ep (lV i o b:Nat) (hl:lV<n) (hb:(σ lV).b=some b):mF n σ F w (.ep lV i o) (.pointer (some ⟨b,i*(σ lV).sz+o,none⟩))
 | own (lV:Nat) (hl:lV<n):mF n σ F w (.own lV) (.slice (σ lV).oa (σ lV).n (σ lV).c)
 | qP (lV:Nat) (oa:Option Addr) (hl:lV<n) (hn:(σ lV).n=0) (hc:(σ lV).c=0):mF n σ F w (.own lV) (.slice oa 0 0)
 | sub (lV o k:Nat) (oa:Option Addr) (c:Nat) (hl:lV<n) (hk:o+k<=(σ lV).n) (hc:k<=c) (hnil:oa=none->c=0) (ho:0<k->∃b,(σ lV).b=some b∧oa=some ⟨b,o*(σ lV).sz,none⟩):mF n σ F w (.sub lV o k) (.slice oa k c)
 | full (lV k:Nat) (oa:Option Addr) (hl:lV<n) (hk:k<=(σ lV).n) (ho:0<k->∃b,(σ lV).b=some b∧oa=some ⟨b,0,none⟩):mF n σ F w (.full lV k) (.slice oa k k)
 | mp (lV b:Nat) (hl:lV<n) (hb:(σ lV).b=some b):mF n σ F w (.mp lV) (.map (some b))
 | fn (f:Fn) (xs ys:List AV) (us vs:List Value) (hx:us.length=xs.length) (hy:vs.length=ys.length)
   (rx : ∀(j:Nat) a v,xs[j]? = some a->us[j]? = some v->mF n σ F w a v) (ry : ∀(j:Nat) a v,ys[j]? = some a->vs[j]? = some v->mF n σ F w a v):mF n σ F w (.fn f xs ys) (.func f us.toArray vs.toArray)
 | agg (xs:List AV) (us:List Value) (hx:us.length=xs.length) (rx : ∀(j:Nat) a v,xs[j]? = some a->us[j]? = some v->mF n σ F w a v):mF n σ F w (.agg xs) (.agg us.toArray)
 | mW (xs:List AV) (us:List Value) (hx:us.length=xs.length) (rx : ∀(j:Nat) a v,xs[j]? = some a->us[j]? = some v->mF n σ F w a v):mF n σ F w (.mW xs) (.tuple us.toArray)
structure Ext (n:Nat)(σ:Nat->Loc)(F:Nat->Prop)(w:World)(n':Nat)(σ':Nat->Loc)(F':Nat->Prop)(w':World):Prop where
 le:n<=n'
 s : ∀lV,lV<n->σ' lV=σ lV
 f : ∀b,F b->F' b∧w'.heap[b]? = w.heap[b]?
 sz:w.heap.size<=w'.heap.size
theorem Ext.refl (n:Nat)(σ:Nat->Loc)(F:Nat->Prop)(w:World):Ext n σ F w n σ F w:=⟨ay _,fun _ _=>rfl,fun _ h=>⟨h,rfl⟩,ay _⟩
theorem Ext.trans {n n' n'':Nat}{σ σ' yL:Nat->Loc}{F F' Nk:Nat->Prop}{w w' w'':World}(h:Ext n σ F w n' σ' F' w')(k:Ext n' σ' F' w' n'' yL Nk w''):Ext n σ F w n'' yL Nk w'':=
 ⟨dN h.le k.le,fun l hl=>(k.s l (aV hl h.le)).trans (h.s l hl),fun b hb=>⟨(k.f b (h.f b hb).1).1,(k.f b (h.f b hb).1).2.trans (h.f b hb).2⟩,dN h.sz k.sz⟩
theorem mF.mono {n n':Nat}{σ σ':Nat->Loc}{F F':Nat->Prop}{w w':World}(e:Ext n σ F w n' σ' F' w'){a:AV}{v:Value}(r:mF n σ F w a v):mF n' σ' F' w' a v:=by
 induction r with
 | top x=>exact .top x
 | v x=>exact .v x
 | lst h=>exact .lst (h.mono e.f)
 | fp h=>exact .fp (h.mono e.f)
 | fm h=>exact .fm (h.mono e.f)
 | ptr l o b hl hb=>exact .ptr l o b (aV hl e.le) (by rw [e.s l hl];exact hb)
 | ep l i o b hl hb=>rw [<-e.s l hl];exact .ep l i o b (aV hl e.le) (by rw [e.s l hl];exact hb)
 | own l hl=>rw [<-e.s l hl];exact .own l (aV hl e.le)
 | qP l oa hl hn hc=>exact .qP l oa (aV hl e.le) (by rw [e.s l hl];exact hn) (by rw [e.s l hl];exact hc)
 | sub l o k oa c hl hk hc hnil ho=>exact .sub l o k oa c (aV hl e.le) (by rw [e.s l hl];exact hk) hc hnil (by rw [e.s l hl];exact ho)
 | full l k oa hl hk ho=>exact .full l k oa (aV hl e.le) (by rw [e.s l hl];exact hk) (by rw [e.s l hl];exact ho)
 | mp l b hl hb=>exact .mp l b (aV hl e.le) (by rw [e.s l hl];exact hb)
 | fn f xs ys us vs hx hy _ _ ih1 ih2=>exact .fn f xs ys us vs hx hy ih1 ih2
 | agg xs us hx _ ih=>exact .agg xs us hx ih
 | mW xs us hx _ ih=>exact .mW xs us hx ih
def ng (n:Nat)(σ:Nat->Loc)(F:Nat->Prop)(w:World):List AV->List Value->Prop
 | [],[]=>True
 | a::as,v::vs=>mF n σ F w a v∧ng n σ F w as vs
 | _,_=>False
section
variable {n:Nat}{σ:Nat->Loc}{F:Nat->Prop}{w:World}
theorem ng.len : ∀ {as:List AV} {vs:List Value},ng n σ F w as vs->vs.length=as.length:=by
 intro as
 induction as with
 | nil=>intro vs h;cases vs with
  | nil=>rfl
  | cons _ _=>exact h.elim
 | cons a as ih=>intro vs h;cases vs with
  | nil=>exact h.elim
  | cons v vs=>simp [ih h.2]
theorem ng.at : ∀ {as:List AV} {vs:List Value},ng n σ F w as vs->∀(j:Nat) a v,as[j]? = some a->vs[j]? = some v->mF n σ F w a v:=by
 intro as
 induction as with
 | nil=>intro vs h j a v h1;simp at h1
 | cons a as ih=>intro vs h;cases vs with
  | nil=>exact h.elim
  | cons v vs=>
   intro j x y h1 h2
   cases j with
   | zero=>simp only [bY,aI]at h1 h2;subst h1;subst h2;exact h.1
   | succ j=>exact ih h.2 j x y (by simpa using h1) (by simpa using h2)
theorem ng.of : ∀ {as:List AV} {vs:List Value},vs.length=as.length->(∀(j:Nat) a v,as[j]? = some a->vs[j]? = some v->mF n σ F w a v)->ng n σ F w as vs:=by
 intro as
 induction as with
 | nil=>intro vs h _;cases vs with
  | nil=>trivial
  | cons _ _=>simp at h
 | cons a as ih=>intro vs h k;cases vs with
  | nil=>simp at h
  | cons v vs=>exact⟨k 0 a v rfl rfl,ih (by simpa using h) fun j x y h1 h2=>k (j+1) x y (by simpa using h1) (by simpa using h2)⟩
theorem ng.mono {n':Nat}{σ':Nat->Loc}{F':Nat->Prop}{w':World}(e:Ext n σ F w n' σ' F' w'){as:List AV}{vs:List Value}(h:ng n σ F w as vs):ng n' σ' F' w' as vs:=
 .of h.len fun j a v h1 h2=>(h.at j a v h1 h2).mono e
theorem ng.Ew {as:List AV}{v:Value}(h:mF n σ F w (.agg as) v) : ∃vs,v = .agg vs.toArray∧ng n σ F w as vs:=by
 cases h with
 | agg _ us hx rx=>exact⟨us,rfl, .of hx rx⟩
theorem ng.agg {as:List AV}{vs:List Value}(h:ng n σ F w as vs):mF n σ F w (.agg as) (.agg vs.toArray):= .agg as vs h.len h.at
theorem ng.mW {as:List AV}{vs:List Value}(h:ng n σ F w as vs):mF n σ F w (.mW as) (.tuple vs.toArray):= .mW as vs h.len h.at
theorem ng.append {as bs:List AV}{vs us:List Value}(h:ng n σ F w as vs)(k:ng n σ F w bs us):ng n σ F w (as++bs) (vs++us):=by
 induction as generalizing vs with
 | nil=>cases vs with
  | nil=>exact k
  | cons _ _=>exact h.elim
 | cons a as ih=>cases vs with
  | nil=>exact h.elim
  | cons v vs=>exact⟨h.1,ih h.2⟩
theorem ng.drop {as:List AV}{vs:List Value}(h:ng n σ F w as vs)(k:Nat):ng n σ F w (as.drop k) (vs.drop k):=
 .of (by simp [h.len]) fun j a v h1 h2=>h.at (k+j) a v (by simpa using h1) (by simpa using h2)
theorem ng.take {as:List AV}{vs:List Value}(h:ng n σ F w as vs)(k:Nat):ng n σ F w (as.take k) (vs.take k):=
 .of (by simp [h.len]) fun j a v h1 h2=>h.at j a v (by rw [bH]at h1;split at h1;exact h1;cases h1) (by rw [bH]at h2;split at h2;exact h2;cases h2)
theorem ng.set {as:List AV}{vs:List Value}(h:ng n σ F w as vs)(k:Nat){a:AV}{v:Value}(r:mF n σ F w a v):ng n σ F w (as.set k a) (vs.set k v):=
 .of (by simp [h.len]) fun j x y h1 h2=>by
  have hl:=h.len
  rw [jr]at h1 h2
  by_cases e:k=j
  ·subst e
   simp only [if_true]at h1 h2
   by_cases hk:k<as.length
   ·rw [if_pos hk]at h1;rw [if_pos (by omega)]at h2
    injection h1 with h1;injection h2 with h2
    rw [<-h1, <-h2];exact r
   ·rw [if_neg hk]at h1;cases h1
  ·rw [if_neg e]at h1 h2;exact h.at j x y h1 h2
end
def FV.up:FV->AV
 | .top=> .top
 | .v x=> .v x
 | .lst sz l=> .lst sz l
 | .fp cs o=> .fp cs o
 | .fm M=> .fm M
theorem oL.up {n:Nat}{σ:Nat->Loc}{F:Nat->Prop}{w:World}{a:FV}{v:Value}(h:oL F w a v):mF n σ F w a.up v:=by
 cases a with
 | top=>exact .top v
 | v x=>cases h;exact .v _
 | lst sz l=>exact .lst h
 | fp cs o=>exact .fp h
 | fm M=>exact .fm h
def pz (F:Nat->Prop)(w:World)(sz:Nat)(l:List (List FV))(xs:List Value):Prop:=
 (∀row∈l,row.length=sz)∧xs.length=l.length*sz∧(∀v∈xs,v.oneCell'=true)∧∀i j row a v,l[i]? = some row->row[j]? = some a->xs[i*sz+j]? = some v->oL F w a v
def Xt (F:Nat->Prop)(w:World)(g:Nat)(M:Int->Option FV):Prop:= ∃V,rQ w g V∧∀k,match M k,V k with|some a,some v=>oL F w a v|none,none=>True|_,_=>False
theorem Xt.mono {F F':Nat->Prop}{w w':World}{g:Nat}{M:Int->Option FV}(h:Xt F w g M)(hf : ∀b,F b->F' b∧w'.heap[b]? = w.heap[b]?)(hb:w'.heap[g]? = w.heap[g]?):Xt F' w' g M:=by
 obtain⟨V,h1,h2⟩:=h
 refine⟨V,h1.heap hb,fun k=> ?_⟩
 have:=h2 k
 split at this
 ·exact this.mono hf
 ·trivial
 ·exact this.elim
def IB (w:World)(L:Loc)(sz:Nat)(l:List (List TV))(i j g:Nat):Prop:=
 ∃b row t' sz' r m c,L.b=some b∧l[i]? = some row∧row[j]? = some (.n t' sz' r)∧w.cell? ⟨b,i*sz+j,none⟩=some (.slice (some ⟨g,0,none⟩) m c)∧0<c
def Nst (w:World)(L:Loc):oN->Nat->Prop
 | .tree _ sz l _,g=> ∃i j,IB w L sz l i j g
 | _,_=>False
def qo (w:World)(L:Loc)(blk:oN)(g:Nat):Prop:=L.b=some g∨Nst w L blk g
def oN.flat:oN->Bool
 | .tree _ _ _ _=>false
 | _=>true
theorem qo.flat {w:World}{L:Loc}{blk:oN}{g:Nat}(hf:blk.flat=true)(h:qo w L blk g):L.b=some g:=by
 rcases h with h|h
 ·exact h
 ·cases blk<;>first|exact h.elim|cases hf
theorem IB.back {w w':World}{L:Loc}{sz:Nat}{l:List (List TV)}{i j g:Nat}(hb : ∀b,L.b=some b->w'.heap[b]? = w.heap[b]?)(h:IB w' L sz l i j g):IB w L sz l i j g:=by
 obtain⟨b,row,t',sz',r,m,c,h1,h2,h3,h4,h5⟩:=h
 exact⟨b,row,t',sz',r,m,c,h1,h2,h3,by rw [<-qO (hb b h1)];exact h4,h5⟩
theorem qo.back {w w':World}{L:Loc}{blk:oN}{g:Nat}(hb : ∀b,L.b=some b->w'.heap[b]? = w.heap[b]?)(h:qo w' L blk g):qo w L blk g:=by
 rcases h with h|h
 ·exact .inl h
 ·cases blk<;>first|exact h.elim|skip
  obtain⟨i,j,h⟩:=h
  exact .inr ⟨i,j,h.back hb⟩
def afv (F:Nat->Prop)(w:World):TV->Value->Prop
 | .f x,v=>oL F w x v
 | .n t sz l,v=> ∃oa c,v = .slice oa l.length c∧((c=0∧l = [])∨∃ys,0<c∧Own w 0 t sz oa l.length c ys∧pz F w sz l ys)
def QW (F:Nat->Prop)(w:World)(sz:Nat)(l:List (List TV))(xs:List Value):Prop:=
 (∀row∈l,row.length=sz)∧xs.length=l.length*sz∧(∀v∈xs,v.oneCell'=true)∧∀i j row a v,l[i]? = some row->row[j]? = some a->xs[i*sz+j]? = some v->afv F w a v
def Sep (w:World)(L:Loc)(sz:Nat)(l:List (List TV)):Prop:=
 (∀i j i' j' g,IB w L sz l i j g->IB w L sz l i' j' g->i=i'∧j=j')∧∀i j g,IB w L sz l i j g->L.b≠some g
def uo (n:Nat)(σ:Nat->Loc)(F:Nat->Prop)(w:World)(L:Loc):oN->Prop
 | .var t cs=> ∃g vs,L.b=some g∧qX w g vs t∧ng n σ F w cs vs∧∀v∈vs,v.oneCell'=true
 | .rows t sz l=>L.sz=sz∧L.n=l.length∧∃xs,Own w 0 t sz L.oa l.length L.c xs∧pz F w sz l xs
 | .fz sz l=>L.sz=sz∧L.n=l.length∧oL F w (.lst sz l) (.slice L.oa L.n L.c)∧∀b o,L.oa=some ⟨b,o,none⟩->o=0
 | .map M=> ∃g,L.b=some g∧rF w g M
 | .QV M=> ∃g,L.b=some g∧oL F w (.fm M) (.map (some g))
 | .zf M=> ∃g,L.b=some g∧Xt F w g M
 | .itr s p=> ∃g,L.b=some g∧w.heap[g]? = some (.stringIter s p)
 | .tree t sz l h=>L.sz=sz∧L.n=l.length∧∃xs,Own w 0 t sz L.oa l.length L.c xs∧QW F w sz l xs∧Sep w L sz l∧
  ∀i j e,h=some (i,j,e)->e<n∧i<l.length∧j<sz∧(∃row,l[i]? = some row∧row[j]? = some (.f .top))∧∃v,xs[i*sz+j]? = some v∧mF n σ F w (.own e) v
structure Glob where
 nb:Nat
 val:Nat->Option (List Value)
 eqs:Nat->Option Obj
def Glob.holds (G:Glob)(w:World):Prop:=G.nb<=w.heap.size∧(∀g cs,G.val g=some cs->g<G.nb∧∀j v,cs[j]? = some v->w.cell? ⟨g,j,none⟩=some v)∧∀g o,G.eqs g=some o->g<G.nb∧w.heap[g]? = some o
structure yT (M:Nat->Prop)(w w':World):Prop where
 os:w'.os=w.os
 tape:w'.tape=w.tape
 output:w'.output=w.output
 size:w.heap.size<=w'.heap.size
 block : ∀k,k<w.heap.size->¬M k->w'.heap[k]? = w.heap[k]?
theorem yT.refl (M:Nat->Prop)(w:World):yT M w w:=⟨rfl,rfl,rfl,ay _,fun _ _ _=>rfl⟩
theorem yT.trans {M M':Nat->Prop}{u v w:World}(h:yT M u v)(k:yT M' v w)(hM : ∀b,M' b->M b∨u.heap.size<=b):yT M u w:=
 ⟨k.os.trans h.os,k.tape.trans h.tape,k.output.trans h.output,dN h.size k.size,fun b hb hn=>
  (k.block b (aV hb h.size) fun hm=>(hM b hm).elim hn fun hge=>by omega).trans (h.block b hb hn)⟩
theorem yT.below {w w':World}{M:Nat->Prop}{B:Nat}(h:yT M w w')(hM : ∀b,M b->B<=b)(hB:B<=w.heap.size):Below B w w':=
 ⟨h.os,h.tape,h.output,h.size,fun k hk=>h.block k (by omega) fun hm=>by have:=hM k hm;omega⟩
theorem yT.rW {w w':World}(h:Below w.heap.size w w'):yT (fun _=>False) w w':=⟨h.os,h.tape,h.output,h.size,fun k hk _=>h.block k hk⟩
theorem yT.abg {w w':World}{g:Nat}(h:Only g w w'):yT (fun b=>b=g) w w':=⟨h.os,h.tape,h.output,jq h.size.symm,fun k _ hn=>h.block k hn⟩
theorem yT.mono {M M':Nat->Prop}{w w':World}(h:yT M w w')(hM : ∀b,b<w.heap.size->M b->M' b):yT M' w w':=⟨h.os,h.tape,h.output,h.size,fun k hk hn=>h.block k hk fun hm=>hn (hM k hk hm)⟩
theorem Glob.qg {G:Glob}{w w':World}(h:G.holds w)(hs:w.heap.size<=w'.heap.size)(hb : ∀b,b<G.nb->w'.heap[b]? = w.heap[b]?):G.holds w':=
 ⟨dN h.1 hs,fun g cs hg=>⟨(h.2.1 g cs hg).1,fun j v hj=>by rw [qO (hb g (h.2.1 g cs hg).1)];exact(h.2.1 g cs hg).2 j v hj⟩,fun g o ho=>⟨(h.2.2 g o ho).1,by rw [hb g (h.2.2 g o ho).1];exact(h.2.2 g o ho).2⟩⟩
structure St (G:Glob)(lJ:World)(lN lQ:Nat->Prop)(n:Nat)(σ:Nat->Loc)(F:Nat->Prop)(H:lF)(w:World):Prop where
 glob:G.holds w
 qg:yT lN lJ w
 oC : ∀b,F b->b<w.heap.size∧(lQ b∨lJ.heap.size<=b∨lN b)
 lab : ∀lV blk,look H lV=some blk->lV<n
 mu : ∀lV blk g,look H lV=some blk->blk.own=true->qo w (σ lV) blk g->¬F g∧G.nb<=g∧g<w.heap.size∧(lN g∨lJ.heap.size<=g)
 inj : ∀lV zh blk blk' g,look H lV=some blk->look H zh=some blk'->blk.own=true->blk'.own=true->qo w (σ lV) blk g->qo w (σ zh) blk' g->lV=zh
 blk : ∀lV blk,look H lV=some blk->uo n σ F w (σ lV) blk
def uj (w:World)(σ:Nat->Loc)(H:lF)(g:Nat):Prop:= ∃lV blk,look H lV=some blk∧blk.own=true∧qo w (σ lV) blk g
theorem pz.mono {F F':Nat->Prop}{w w':World}(h : ∀b,F b->F' b∧w'.heap[b]? = w.heap[b]?){sz:Nat}{l:List (List FV)}{xs:List Value}(r:pz F w sz l xs):pz F' w' sz l xs:=
 ⟨r.1,r.2.1,r.2.2.1,fun i j row a v h1 h2 h3=>(r.2.2.2 i j row a v h1 h2 h3).mono h⟩
theorem zQ {w w':World}{t sz:Nat}{oa:Option Addr}{n c:Nat}{xs:List Value}(h:Own w 0 t sz oa n c xs)(hs:w.heap.size<=w'.heap.size)(hb : ∀g,oa.map (·.block)=some g->w'.heap[g]? = w.heap[g]?):Own w' 0 t sz oa n c xs:=by
 refine⟨h.1, ?_⟩
 rcases h.2 with h2|⟨g,cap,cur,hv,hg,hh,h3⟩
 ·exact .inl h2
 ·injection hv with e1 e2 e3
  subst e1;subst e3
  exact .inr ⟨g,c,cur,rfl,hg,by rw [hb g rfl];exact hh,h3⟩
theorem uQ {w:World}{t sz c i j:Nat}{L:Loc}{α:Type}{l:List (List α)}{row:List α}{a:α}{xs:List Value}{v:Value}(h:Own w 0 t sz L.oa l.length c xs)(hi:l[i]? = some row)(hr:row.length=sz)(hj:row[j]? = some a)(hx:xs.length=l.length*sz)(hv:xs[i*sz+j]? = some v) :
  ∃b,L.b=some b∧w.cell? ⟨b,i*sz+j,none⟩=some v:=by
 have hil:=(aG.1 hi).1
 have hjl:=(aG.1 hj).1
 obtain⟨g,cur,hg,_,hB,hle,_,hcl,htk⟩:=h.blk (by omega)
 have hb:L.b=some g:=by
  unfold Loc.oa at hg
  cases hx:L.b with
  | none=>rw [hx]at hg;cases hg
  | some g'=>rw [hx]at hg;simp at hg;rw [hg]
 refine⟨g,hb, ?_⟩
 have hlt:i*sz+j<l.length*sz:=by
  have:(i+1)*sz<=l.length*sz:=aU _ hil
  rw [bK,dA]at this;omega
 rw [hB.cell, <-hv, <-htk,bH,if_pos hlt]
theorem QW.mono {F F':Nat->Prop}{w:World}{sz:Nat}{l:List (List TV)}{xs:List Value}(h : ∀b,F b->F' b∧w.heap[b]? = w.heap[b]?)(r:QW F w sz l xs):QW F' w sz l xs:=
 ⟨r.1,r.2.1,r.2.2.1,fun i j row a v hi hj hv=>by
  have hT:=r.2.2.2 i j row a v hi hj hv
  cases a with
  | f x=>exact oL.mono h hT
  | n t' sz' q=>
   obtain⟨oa,c,rfl,hT⟩:=hT
   exact⟨oa,c,rfl,hT.imp id fun⟨ys,hc,hO,hR⟩=>⟨ys,hc,hO,pz.mono h hR⟩⟩⟩
theorem uo.mono {n n':Nat}{σ σ':Nat->Loc}{F F':Nat->Prop}{w w':World}(e:Ext n σ F w n' σ' F' w'){L:Loc}{blk:oN}(h:uo n σ F w L blk)(hb:blk.own=true->∀g,qo w L blk g->w'.heap[g]? = w.heap[g]?):uo n' σ' F' w' L blk:=by
 cases blk with
 | var t cs=>
  obtain⟨g,vs,h1,h2,h3,h4⟩:=h
  exact⟨g,vs,h1,(hb rfl g (.inl h1)).trans h2,h3.mono e,h4⟩
 | rows t sz l=>
  obtain⟨h1,h2,xs,h3,h4⟩:=h
  exact⟨h1,h2,xs,zQ h3 e.sz (fun g hg=>hb rfl g (.inl (by cases hL:L.b<;>simp_all [Loc.oa]))),h4.mono e.f⟩
 | fz sz l=>exact⟨h.1,h.2.1,h.2.2.1.mono e.f,h.2.2.2⟩
 | map M=>
  obtain⟨g,h1,h2⟩:=h
  exact⟨g,h1,h2.heap (hb rfl g (.inl h1))⟩
 | QV M=>
  obtain⟨g,h1,h2⟩:=h
  exact⟨g,h1,h2.mono e.f⟩
 | zf M=>
  obtain⟨g,h1,h2⟩:=h
  exact⟨g,h1,h2.mono e.f (hb rfl g (.inl h1))⟩
 | itr s p=>
  obtain⟨g,h1,h2⟩:=h
  exact⟨g,h1,(hb rfl g (.inl h1)).trans h2⟩
 | tree t sz l h=>
  obtain⟨h1,h2,xs,h3,h4,h5,h6⟩:=h
  have hbk : ∀b,L.b=some b->w'.heap[b]? = w.heap[b]? :=fun b hL=>hb rfl b (.inl hL)
  refine⟨h1,h2,xs,zQ h3 e.sz (fun g hg=>hb rfl g (.inl (by cases hL:L.b<;>simp_all [Loc.oa]))),⟨h4.1,h4.2.1,h4.2.2.1,fun i j row a v hi hj hv=> ?_⟩,⟨fun i j i' j' g a b=>h5.1 i j i' j' g (a.back hbk) (b.back hbk),fun i j g a=>h5.2 i j g (a.back hbk)⟩,fun i j k hk=> ?_⟩
  ·have hT:=h4.2.2.2 i j row a v hi hj hv
   cases a with
   | f x=>exact hT.mono e.f
   | n t' sz' r=>
    obtain⟨oa,c,rfl,hT⟩:=hT
    refine⟨oa,c,rfl,hT.imp id fun⟨ys,hc,hO,hR⟩=>⟨ys,hc,zQ hO e.sz (fun g hg=>hb rfl g (.inr ⟨i,j, ?_⟩)),hR.mono e.f⟩⟩
    obtain⟨b,hLb,hcell⟩:=uQ h3 hi (h4.1 row (aT hi)) hj h4.2.1 hv
    refine⟨b,row,t',sz',r,r.length,c,hLb,hi,hj, ?_,hc⟩
    rw [hcell]
    rcases hO.2 with ⟨hs,_⟩|⟨g',cap,cur,hs,_⟩
    ·injection hs with e1 _ _;rw [e1]at hg;cases hg
    ·injection hs with e1 _ _;rw [e1]at hg ⊢;injection hg with hg;have hg:g'=g:=hg;rw [hg]
  ·obtain⟨a1,a2,a3,a4,v,a5,a6⟩:=h6 i j k hk
   exact⟨aV a1 e.le,a2,a3,a4,v,a5,a6.mono e⟩
abbrev lK:=Nat->AV
def tH (ρ:lK)(d:Nat)(v:AV):lK:=fun n=>bif Nat.beq n d then v else ρ n
def pG (ρ:lK)(d:Option Nat)(v:AV):lK:=match d with|some d=>tH ρ d v|none=>ρ
def Nl (v:Value):AV:=
 match v with
 | .agg cs=> .agg (cs.toList.map .v)
 | .tuple cs=> .mW (cs.toList.map .v)
 | v=> .v v
def oI (ρ:lK)(x:Operand):AV:=
 match x with
 | .tmp t=>ρ t
 | .const v=>Nl v
 | .global g=> .v (.pointer (some ⟨g,0,none⟩))
 | .func f=> .v (.func (.func f) #[] #[])
def af (a:AV)(k:AV->Prop):Prop:=
 match a with
 | .top=>k .top
 | .v x=>force x fun x=>k (.v x)
 | .lst sz l=>k (.lst sz l)
 | .fp cs o=>k (.fp cs o)
 | .fm M=>k (.fm M)
 | .ptr l o=>k (.ptr l o)
 | .ep l i o=>k (.ep l i o)
 | .own l=>k (.own l)
 | .sub l o n=>k (.sub l o n)
 | .full l o=>k (.full l o)
 | .mp l=>k (.mp l)
 | .fn f x y=>k (.fn f x y)
 | .agg cs=>k (.agg cs)
 | .mW vs=>k (.mW vs)
theorem qC (a:AV)(k:AV->Prop):af a k=k a:=by cases a<;>simp [af,force_eq]
def Kz (l:List AV)(k:List AV->Prop):Prop:=
 match l with
 | []=>k []
 | a::r=>af a fun a'=>Kz r fun r'=>k (a'::r')
theorem rG (l:List AV) : ∀k:List AV->Prop,Kz l k=k l:=by
 induction l with
 | nil=>intro k;rfl
 | cons x r ih=>intro k;simp only [Kz,qC,ih]
def spine {α:Type}(l:List α)(k:List α->Prop):Prop:=
 match l with
 | []=>k []
 | a::r=>spine r fun r'=>k (a::r')
theorem oU {α:Type}(l:List α) : ∀k:List α->Prop,spine l k=k l:=by
 induction l with
 | nil=>intro k;rfl
 | cons x r ih=>intro k;simp only [spine,ih]
def afO (a:Option AV)(k:Option AV->Prop):Prop:=
 match a with
 | some a=>af a fun a'=>k (some a')
 | none=>k none
theorem abh (a:Option AV)(k:Option AV->Prop):afO a k=k a:=by cases a<;>simp [afO,qC]
structure lU (k:IntKind)(x:Int)(K:Int->Prop):Prop where
 ex:K (k.wrap x)
structure ni (x:Int)(n:Nat)(K:Nat->Prop):Prop where
 ex : ∃i:Nat,x=i∧i<n∧K i
structure tJ (x y:Int)(n:Nat)(K:Nat->Nat->Prop):Prop where
 ex : ∃i j:Nat,x=i∧y=j∧i<=j∧j<=n∧K i j
structure mG (l:List (List FV))(i:Nat)(K:List FV->Prop):Prop where
 ex : ∃row,l[i]? = some row∧K row
structure ARt (l:List (List TV))(i:Nat)(K:List TV->Prop):Prop where
 ex : ∃row,l[i]? = some row∧K row
structure ATs (p K:Prop):Prop where
 is:p
 go:K
structure ATn (m:List (List TV))(i o:Nat)(K:List TV->Prop):Prop where
 ex : ∃row a,m[i]? = some row∧row[o]? = some (.f a)∧K row
structure NR (x y:Int)(qU:Nat)(K:Nat->Prop):Prop where
 ex : ∃n m:Nat,x=n∧y=m∧n<=m∧qU*m<=140737488355328∧m<=maxLen∧K n
def oh (c:UInt8):List FV:= [.v (.int .u8 (c.toNat:Int))]
structure BA (l:List (List FV))(K:ByteArray->Prop):Prop where
 ex : ∃s:List UInt8,l=s.map oh∧K ⟨s.toArray⟩
structure ALk (M:ByteArray->Option Value)(s:ByteArray)(z:Value)(K:Value->Bool->Prop):Prop where
 ex:K ((M s).getD z) (M s).isSome
def FV.val:FV->AV
 | .v y=>Nl y
 | x=>x.up
structure ALi (M:Int->Option FV)(k:Int)(z:Value)(K:AV->Bool->Prop):Prop where
 no:M k=none->K (Nl z) false
 yes : ∀x,M k=some x->K x.val true
def TG (op:BinOp)(k:IntKind)(a b:Int)(K:AV->Prop):Prop:=
 match op with
 | .add=>lU k (a+b) fun n=>K (.v (.int k n))
 | .sub=>lU k (a-b) fun n=>K (.v (.int k n))
 | .mul=>lU k (a*b) fun n=>K (.v (.int k n))
 | .quo=>lG (b≠0) (lU k (a.tdiv b) fun n=>K (.v (.int k n)))
 | .rem=>lG (b≠0) (K (.v (.int k (a.tmod b))))
 | .and=>K (.v (.int k (mD .and k a b)))
 | .or=>K (.v (.int k (mD .or k a b)))
 | .xor=>K (.v (.int k (mD .xor k a b)))
 | .andNot=>K (.v (.int k (mD .andNot k a b)))
 | .shl=>lG (0<=b) (lU k (a*2^min b.toNat k.bits) fun n=>K (.v (.int k n)))
 | .shr=>lG (0<=b) (K (.v (.int k (a.fdiv (2^min b.toNat k.bits)))))
 | .eql=>K (.v (.bool (a==b)))
 | .neq=>K (.v (.bool (a != b)))
 | .lss=>K (.v (.bool (decide (a<b))))
 | .leq=>K (.v (.bool (decide (a<=b))))
 | .gtr=>K (.v (.bool (decide (a>b))))
 | .geq=>K (.v (.bool (decide (a≥b))))
def abj (op:BinOp)(a b:ByteArray)(K:AV->Prop):Prop:=
 match op with
 | .add=>lG (((a.size+b.size:Nat):Int)<=IntKind.i64.max) (K (.v (.string (a++b))))
 | .eql=>K (.v (.bool (wP a b)))
 | .neq=>K (.v (.bool (!wP a b)))
 | .lss=>K (.v (.bool (J4 a b)))
 | .leq=>K (.v (.bool (J4 a b||wP a b)))
 | .gtr=>K (.v (.bool (!(J4 a b||wP a b))))
 | .geq=>K (.v (.bool (!J4 a b)))
 | _=>False
def valsOf:List AV->Option (List Value)
 | []=>some []
 | .v x::r=>(match valsOf r with|some l=>some (x::l)|none=>none)
 | _=>none
structure tY (P:Program)(t:TypeId)(K:Prop):Prop where
 g:P.eqGuardType P.depth t=false
 p:P.stoodInHeld t=false
 u:P.underlying t=some (.struct (P.fieldsOf t))
 go:K
structure afy (n:Nat)(K:Bool->Prop):Prop where
 ex : ∀b:Bool,(0<n->b=false)->K b
def yM (op:BinOp)(b:Bool)(K:AV->Prop):Prop:=
 match op with
 | .eql=>K (.v (.bool b))
 | .neq=>K (.v (.bool (!b)))
 | _=>False
def abk (H:lF)(a:AV):Option Nat:=
 match a with
 | .lst _ l=>some l.length
 | .own l=>(match look H l with
  | some (.rows _ _ m)=>some m.length
  | some (.fz _ m)=>some m.length
  | _=>none)
 | .sub _ _ n=>some n
 | _=>none
def adV (a:AV):Bool:=match a with | .ptr _ _=>true | .ep _ _ _=>true | .fp _ _=>true|_=>false
def abl (P:Program)(H:lF)(op:BinOp)(t:TypeId)(a b:AV)(K:AV->Prop):Prop:=
 match P.underlying t,b with
 | some (.slice _), .v (.slice none 0 0)=>(match a with
  | .v (.slice none 0 0)=>yM op true K
  | a=>(match abk H a with
   | some n=>afy n fun b=>yM op b K
   | none=>False))
 | some (.pointer _), .v (.pointer none)=>(match a with
  | .v (.pointer none)=>yM op true K
  | a=>bif adV a then yM op false K else False)
 | some (.map _ _), .v (.map none)=>(match a with
  | .v (.map none)=>yM op true K
  | .mp _=>yM op false K
  | .fm _=>yM op false K
  | _=>False)
 | some (.func _ _ _), .v .nilFunc=>(match a with
  | .fn _ _ _=>yM op false K
  | .v (.func _ _ _)=>yM op false K
  | .v .nilFunc=>yM op true K
  | _=>False)
 | _,_=>False
def abm (P:Program)(H:lF)(op:BinOp)(t:TypeId)(a b:AV)(K:AV->Prop):Prop:=
 match a,b with
 | .v (.int k m), .v (.int k' n)=>(match op with
  | .shl=>TG .shl k m n K
  | .shr=>TG .shr k m n K
  | op=>bif decide (k=k')then TG op k m n K else False)
 | .v (.string m), .v (.string n)=>abj op m n K
 | .v (.bool m), .v (.bool n)=>(match op with
  | .eql=>(match P.underlying t with|some .bool=>K (.v (.bool (m==n)))|_=>False)
  | .neq=>(match P.underlying t with|some .bool=>K (.v (.bool (!(m==n))))|_=>False)
  | _=>False)
 | .agg xs, .agg ys=>(match valsOf xs,valsOf ys with
  | some us,some vs=>(match eqF P us vs (P.fieldsOf t).toList with
   | some b=>(match op with
    | .eql=>tY P t (K (.v (.bool b)))
    | .neq=>tY P t (K (.v (.bool (!b))))
    | _=>False)
   | none=>False)
  | _,_=>False)
 | a,b=>abl P H op t a b K
def aUn (op:UnOp)(a:AV)(K:AV->Prop):Prop:=
 match op,a with
 | .not, .v (.bool b)=>K (.v (.bool (!b)))
 | .neg, .v (.int k n)=>lU k (0-n) fun n=>K (.v (.int k n))
 | .xor, .v (.int k n)=>K (.v (.int k (mD .xor k (bif k.signed then -1 else k.max) n)))
 | _,_=>False
def NT (P:Program)(t:TypeId)(cs:List AV)(f:Nat)(K:AV->Prop):Prop:=
 match P.underlying t with
 | some (.struct fs)=>(match fs.toList[f]? with
  | some fd=>(match xH P fd.type,P.info? fd.type with
   | some true,some i=>bif Nat.ble (fd.offset+i.size) cs.length then Kz ((cs.drop fd.offset).take i.size) fun l=>K (.agg l)else False
   | some false,some _=>(match cs[fd.offset]? with
    | some v=>af v K
    | none=>False)
   | _,_=>False)
  | none=>False)
 | _=>False
def abn (P:Program)(t:TypeId)(f:Nat):Option Nat:=
 match P.underlying t with
 | some (.struct fs)=>(match fs.toList[f]? with
  | some fd=>(match P.info? fd.type with
   | some i=>bif Nat.beq i.size 0 then none else some fd.offset
   | none=>none)
  | none=>none)
 | _=>none
def Ey (P:Program)(t:TypeId)(a:AV)(f:Nat)(K:AV->Prop):Prop:=
 match abn P t f,a with
 | some d, .ptr l o=>K (.ptr l (o+d))
 | some d, .ep l i o=>K (.ep l i (o+d))
 | some d, .fp cs o=>K (.fp cs (o+d))
 | _,_=>False
def cellsOf (a:AV):List AV:=match a with | .agg cs=>cs | .v (.agg cs)=>cs.toList.map .v|a=> [a]
def BD {α:Type}(cells:List α)(off:Nat)(vs:List α):List α:=
 match vs with
 | []=>cells
 | c::r=>BD (cells.set off c) (off+1) r
def NU (a:AV):Bool:=match a with | .top=>false|_=>true
def Ez (place:Nat->Option (Nat×Nat))(cells:List AV)(parts:List (Nat×AV)):Option (List AV):=
 match parts with
 | []=>some cells
 | (i,v)::rest=>(match place i with
  | none=>none
  | some (off,size)=>bif NU v&&Nat.beq (cellsOf v).length size&&Nat.ble (off+(cellsOf v).length) cells.length then Ez place (BD cells off (cellsOf v)) rest else none)
def NV (P:Program)(t:TypeId)(parts:List (Nat×AV))(K:AV->Prop):Prop:=
 match (P.info? t).bind (·.zero),P.underlying t with
 | some z,some (.struct fs)=>(match x9 P fs.toList with
  | some pl=>(match Ez (fun i=>pl[i]?) (z.cells.toList.map .v) parts with
   | some l=>Kz l fun l=>K (.agg l)
   | none=>False)
  | none=>False)
 | some z,some (.array _ e)=>(match P.info? e with
  | some i=>(match Ez (fun j=>some (j*i.size,i.size)) (z.cells.toList.map .v) parts with
   | some l=>Kz l fun l=>K (.agg l)
   | none=>False)
  | none=>False)
 | _,_=>False
def EC (P:Program)(t:TypeId)(cs:List AV)(o:Nat)(K:AV->Prop):Prop:=
 match xH P t,szB P t with
 | some false,some _=>(match cs[o]? with|some a=>af a K|none=>False)
 | some true,some k=>bif Nat.ble (o+k) cs.length then Kz ((cs.drop o).take k) fun l=>K (.agg l)else False
 | _,_=>False
def TI (P:Program)(t:TypeId)(cs:List FV)(o:Nat)(K:AV->Prop):Prop:=EC P t (cs.map FV.up) o K
def TV.up:TV->AV
 | .f x=>x.up
 | .n _ _ _=> .top
structure ATr (h:Option (Nat×Nat×Nat))(i o:Nat)(Kh:Nat->Prop)(K:Prop):Prop where
 hole : ∀e,h=some (i,o,e)->Kh e
 other:(∀e,h≠some (i,o,e))->K
def O9 (P:Program)(H:lF)(t:TypeId)(a:AV)(K:AV->Prop):Prop:=
 match a with
 | .ptr l o=>(match look H l with
  | some (.var _ cs)=>EC P t cs o K
  | _=>False)
 | .ep l i o=>(match look H l with
  | some (.rows _ _ m)=>mG m i fun row=>TI P t row o K
  | some (.fz _ m)=>mG m i fun row=>TI P t row o K
  | some (.tree _ _ m h)=>(match xH P t,szB P t with
   | some false,some _=>ATr h i o (fun e=>K (.own e)) (ARt m i fun row=>EC P t (row.map TV.up) o K)
   | _,_=>False)
  | _=>False)
 | .fp cs o=>TI P t cs o K
 | _=>False
def zi (P:Program)(H:lF)(t:TypeId)(x i:AV)(K:AV->Prop):Prop:=
 match i with
 | .v (.int _ ix)=>(match P.underlying t with
  | some (.slice e)=>(match szB P e with
   | some sz=>(match x with
    | .lst sz' l=>bif Nat.beq sz sz' then ni ix l.length fun j=>mG l j fun row=>K (.fp row 0)else False
    | .own l=>(match look H l with
     | some (.rows _ sz' m)=>bif Nat.beq sz sz' then ni ix m.length fun j=>K (.ep l j 0)else False
     | some (.fz sz' m)=>bif Nat.beq sz sz' then ni ix m.length fun j=>K (.ep l j 0)else False
     | some (.tree _ sz' m _)=>bif Nat.beq sz sz' then ni ix m.length fun j=>K (.ep l j 0)else False
     | _=>False)
    | .sub l o n=>(match look H l with
     | some (.rows _ sz' _)=>bif Nat.beq sz sz' then ni ix n fun j=>K (.ep l (o+j) 0)else False
     | some (.fz sz' _)=>bif Nat.beq sz sz' then ni ix n fun j=>K (.ep l (o+j) 0)else False
     | _=>False)
    | _=>False)
   | none=>False)
  | some (.array n e)=>(match szB P e with
   | some sz=>(match x with
    | .ptr l o=>ni ix n fun j=>K (.ptr l (o+j*sz))
    | .ep l i o=>ni ix n fun j=>K (.ep l i (o+j*sz))
    | .fp cs o=>ni ix n fun j=>K (.fp cs (o+j*sz))
    | _=>False)
   | none=>False)
  | _=>False)
 | _=>False
def NW (P:Program)(t:TypeId)(x i:AV)(K:AV->Prop):Prop:=
 match i with
 | .v (.int _ ix)=>(match P.underlying t,x with
  | some .string, .v (.string s)=>ni ix s.size fun j=>K (.v (.int .u8 ((s.data.toList.getD j 0).toNat:Int)))
  | some (.array n e), .agg cs=>ni ix n fun j=>(match szB P e with
   | some sz=>EC P e cs (j*sz) K
   | none=>False)
  | _,_=>False)
 | _=>False
def rowsOf (H:lF)(a:AV):Option (Nat×List (List FV)):=
 match a with
 | .lst sz l=>some (sz,l)
 | .own l=>(match look H l with
  | some (.rows _ sz m)=>some (sz,m)
  | some (.fz sz m)=>some (sz,m)
  | _=>none)
 | .sub l o n=>(match look H l with
  | some (.rows _ sz m)=>some (sz,(m.drop o).take n)
  | some (.fz sz m)=>some (sz,(m.drop o).take n)
  | _=>none)
 | _=>none
def abo (P:Program)(H:lF)(t:TypeId)(a:AV)(K:AV->Prop):Prop:=
 match P.underlying t,a with
 | some .string, .v (.string s)=>K (.v (.int .i64 s.size))
 | some (.slice _), .lst _ l=>K (.v (.int .i64 l.length))
 | some (.slice _), .own l=>(match look H l with
  | some (.rows _ _ m)=>K (.v (.int .i64 m.length))
  | some (.fz _ m)=>K (.v (.int .i64 m.length))
  | _=>False)
 | some (.slice _), .sub _ _ n=>K (.v (.int .i64 n))
 | some (.slice _), .v (.slice _ n _)=>K (.v (.int .i64 n))
 | some (.array n _),_=>K (.v (.int .i64 n))
 | _,_=>False
def zS (a:Option AV)(d:Int)(K:Int->Prop):Prop:=
 match a with
 | none=>K d
 | some (.v (.int _ n))=>K n
 | _=>False
def NY (m:Option AV)(b:Int)(n:Nat)(K:Prop):Prop:=
 match m with
 | none=>K
 | some (.v (.int _ z))=>lG (b<=z∧z<=(n:Int)) K
 | _=>False
def cut (lo hi:Option AV)(i j:Nat)(l:List (List FV)):List (List FV):=
 match lo,hi with
 | none,none=>l
 | none,some _=>l.take j
 | some _,none=>l.drop i
 | some _,some _=>(l.take j).drop i
def IC (lV:Nat)(lo hi mx:Option AV)(i j:Nat):AV:=
 match lo,hi,mx with
 | none,none,none=> .own lV
 | _,_,_=> .sub lV i (j-i)
def Xu (H:lF)(lV sz:Nat):Option Nat:=
 match look H lV with
 | some (.rows _ sz' m)=>bif Nat.beq sz sz' then some m.length else none
 | some (.fz sz' m)=>bif Nat.beq sz sz' then some m.length else none
 | _=>none
def NZ (P:Program)(H:lF)(t:TypeId)(x:AV)(lo hi mx:Option AV)(K:AV->Prop):Prop:=
 match P.underlying t with
 | some .string=>(match x,mx with
  | .v (.string s),none=>zS lo 0 fun a=>zS hi s.size fun b=>tJ a b s.size fun i j=>K (.v (.string (s.extract i j)))
  | _,_=>False)
 | some (.slice e)=>(match szB P e with
  | some sz=>(match x with
   | .lst sz' l=>bif Nat.beq sz sz' then zS lo 0 fun a=>zS hi l.length fun b=>NY mx b l.length (tJ a b l.length fun i j=>K (.lst sz (cut lo hi i j l)))else False
   | .own l=>(match Xu H l sz with
    | some m=>zS lo 0 fun a=>zS hi m fun b=>NY mx b m (tJ a b m fun i j=>match lo,mx with
     | none,some (.v (.int _ z))=>lG (z=(j:Int)) (K (.full l j))
     | _,_=>K (IC l lo hi mx i j))
    | none=>False)
   | .sub l o n=>(match Xu H l sz with
    | some _=>zS lo 0 fun a=>zS hi n fun b=>NY mx b n (tJ a b n fun i j=>K (.sub l (o+i) (j-i)))
    | none=>False)
   | .v (.slice none 0 0)=>zS lo 0 fun a=>zS hi ((0:Nat):Int) fun b=>NY mx b 0 (tJ a b 0 fun _ _=>K (.v (.slice none 0 0)))
   | _=>False)
  | none=>False)
 | _=>False
def N7 (P:Program)(H:lF)(b:Builtin)(ts:List TypeId)(args:List AV)(K:AV->Prop):Prop:=
 match b,ts,args with
 | .len,[t],[a]=>abo P H t a K
 | .min,_,[.v (.int k x), .v (.int _ y)]=>K (.v (.int k (min x y)))
 | .max,_,[.v (.int k x), .v (.int _ y)]=>K (.v (.int k (max x y)))
 | .min,_,[.v (.string x), .v (.string y)]=>K (.v (.string (Dn x y)))
 | .max,_,[.v (.string x), .v (.string y)]=>K (.v (.string (Dp x y)))
 | _,_,_=>False
def IE (P:Program)(H:lF)(t:TypeId)(m k:AV)(ok:Bool)(K:AV->Prop):Prop:=
 match m,k with
 | .mp l, .v (.string s)=>(match P.underlying t,look H l with
  | some (.map kt et),some (.map M)=>(match P.underlying kt,(P.info? et).bind (·.zero)with
   | some .string,some z=>ALk M s z fun v b=>(match ok with
    | true=>K (.mW [Nl v, .v (.bool b)])
    | false=>K (Nl v))
   | _,_=>False)
  | some (.map kt et),some (.QV M)=>(match P.underlying kt,(P.info? et).bind (·.zero)with
   | some .string,some z=>ALk M s z fun v b=>(match ok with
    | true=>K (.mW [Nl v, .v (.bool b)])
    | false=>K (Nl v))
   | _,_=>False)
  | _,_=>False)
 | .fm M, .v (.string s)=>(match P.underlying t with
  | some (.map kt et)=>(match P.underlying kt,(P.info? et).bind (·.zero)with
   | some .string,some z=>ALk M s z fun v b=>(match ok with
    | true=>K (.mW [Nl v, .v (.bool b)])
    | false=>K (Nl v))
   | _,_=>False)
  | _=>False)
 | .mp l, .v (.int .i64 i)=>(match P.underlying t,look H l with
  | some (.map kt et),some (.zf M)=>(match P.underlying kt,(P.info? et).bind (·.zero)with
   | some (.int .i64),some z=>ALi M i z fun v b=>(match ok with
    | true=>K (.mW [v, .v (.bool b)])
    | false=>K v)
   | _,_=>False)
  | _,_=>False)
 | _,_=>False
def TJ (P:Program)(Hr:lF)(src dst:TypeId)(a:AV)(K:AV->Prop):Prop:=
 match P.underlying src,P.underlying dst,a with
 | some _,some (.int k), .v (.int _ n)=>lU k n fun n=>K (.v (.int k n))
 | some (.string),some .string, .v (.string s)=>K (.v (.string s))
 | some (.int _),some .string, .v (.int k n)=>K (.v (.string (Utf8.encode n)))
 | some (.slice e),some .string,a=>(match P.underlying e with
  | some (.int .u8)=>(match a with
   | .v (.slice none 0 0)=>K (.v (.string ⟨#[]⟩))
   | a=>(match rowsOf Hr a with
    | some (sz,l)=>bif Nat.beq sz 1 then BA l fun s=>K (.v (.string s))else False
    | none=>False))
  | _=>False)
 | _,_,_=>False
def aQ (P:Program)(Hr H:lF)(o:Oper)(ρ:lK)(K:AV->Prop):Prop:=
 match o.op with
 | .move x=>af (oI ρ x) K
 | .assign x=>af (oI ρ x) K
 | .pick c a b=>(match oI ρ c with
  | .v (.bool t)=>(match oI ρ a,oI ρ b with
   | .v (.bool x), .v (.bool y)=>K (.v (.bool (bif t then x else y)))
   | _,_=>Io t (K (oI ρ a)) (K (oI ρ b)))
  | _=>False)
 | .build t parts=>Kz (parts.toList.map fun p=>oI ρ p.2) fun vs=>NV P t ((parts.toList.map (·.1)).zip vs) K
 | .load t a=>O9 P Hr t (oI ρ a) K
 | .nilCheck x=>(match oI ρ x with
  | .ptr l o=>K (.ptr l o)
  | .ep l i o=>K (.ep l i o)
  | .fp cs o=>K (.fp cs o)
  | _=>False)
 | .binOp op t x y _=>af (oI ρ x) fun a=>af (oI ρ y) fun b=>abm P H op t a b K
 | .unOp op _ x=>af (oI ρ x) fun a=>aUn op a K
 | .convert src dst x=>af (oI ρ x) fun a=>TJ P Hr src dst a K
 | .makeFunc fn first captured=>Kz (first.toList.map (oI ρ)) fun a=>Kz (captured.toList.map (oI ρ)) fun b=>K (.fn fn a b)
 | .slice t x lo hi mx=>af (oI ρ x) fun x=>afO (lo.map (oI ρ)) fun lo=>afO (hi.map (oI ρ)) fun hi=>afO (mx.map (oI ρ)) fun mx=>NZ P H t x lo hi mx K
 | .fieldAddr s x f=>Ey P s (oI ρ x) f K
 | .field t x f=>(match oI ρ x with
  | .agg cs=>NT P t cs f K
  | _=>False)
 | .indexAddr t x i=>af (oI ρ x) fun x=>af (oI ρ i) fun i=>zi P H t x i K
 | .index t x i=>af (oI ρ x) fun x=>af (oI ρ i) fun i=>NW P t x i K
 | .lookup t m k ok=>af (oI ρ m) fun m=>af (oI ρ k) fun k=>IE P Hr t m k ok K
 | .extract t i=>(match oI ρ t with
  | .mW vs=>(match vs[i]? with
   | some v=>af v K
   | none=>False)
  | _=>False)
 | .call c=>(match c.callee with
  | .builtin b=>Kz (c.args.toList.map (oI ρ)) fun args=>N7 P H b c.argTypes.toList args K
  | _=>False)
 | _=>False
def setH (H:lF)(l:Nat)(b:oN):lF:=
 match H with
 | []=> []
 | p::r=>bif Nat.beq p.1 l then(l,b)::r else p::setH r l b
def Gv (H:lF)(l:Nat):lF:=
 match H with
 | []=> []
 | p::r=>bif Nat.beq p.1 l then Gv r l else p::Gv r l
def dn (H:lF)(a:AV)(K:FV->lF->Prop):Prop:=
 match a with
 | .v x=>K (.v x) H
 | .lst sz l=>K (.lst sz l) H
 | .fp cs o=>K (.fp cs o) H
 | .own l=>(match look H l with
  | some (.rows _ sz m)=>K (.lst sz m) (setH H l (.fz sz m))
  | some (.fz sz m)=>K (.lst sz m) H
  | _=>False)
 | .fm M=>K (.fm M) H
 | .mp l=>(match look H l with
  | some (.map M)=>K (.fm M) (setH H l (.QV M))
  | some (.QV M)=>K (.fm M) H
  | _=>False)
 | _=>False
def dnL (H:lF)(l:List AV)(K:List FV->lF->Prop):Prop:=
 match l with
 | []=>K [] H
 | a::r=>dn H a fun x H'=>dnL H' r fun r' rM=>K (x::r') rM
def cell1 (a:AV):Bool:=
 match a with
 | .v x=>x.oneCell'
 | .top=>false
 | .agg _=>false
 | .mW _=>false
 | .full _ _=>false
 | _=>true
def all1:List AV->Bool
 | []=>true
 | a::r=>cell1 a&&all1 r
def DF (H:lF)(sz:Nat)(i:Nat)(parts:List (Nat×AV))(K:List (List FV)->lF->Prop):Prop:=
 match parts with
 | []=>K [] H
 | (j,a)::r=>bif Nat.beq i j&&Nat.beq (cellsOf a).length sz&&all1 (cellsOf a)then dnL H (cellsOf a) fun x H'=>DF H' sz (i+1) r fun l rM=>K (x::l) rM else False
def xM (P:Program)(t:TypeId)(m:Nat)(parts:List (Nat×AV))(n:Nat)(H:lF)(K:AV->Nat->lF->Prop):Prop:=
 match P.underlying t with
 | some (.slice e)=>(match P.info? e with
  | some i=>(match i.zero with
   | some z=>bif Nat.beq z.cells.toList.length i.size&&Nat.ble 1 i.size&&Nat.ble (m*i.size) 16777216&&Nat.beq parts.length m&&Nat.ble m maxLen then
     DF H i.size 0 parts fun l H'=>K (.own n) (n+1) ((n, .rows e i.size l)::H')else False
   | none=>False)
  | none=>False)
 | _=>False
def N8 (P:Program)(H:lF)(t:TypeId)(a x:AV)(K:lF->Prop):Prop:=
 match szB P t with
 | some k=>bif Nat.beq (cellsOf x).length k&&all1 (cellsOf x)then(match a with
  | .ptr l o=>(match look H l with
   | some (.var T cs)=>bif Nat.ble (o+k) cs.length then spine (BD cs o (cellsOf x)) fun cs'=>K (setH H l (.var T cs'))else False
   | _=>False)
  | .ep l i o=>(match look H l with
   | some (.tree T sz m h)=>(match h,x with
    | some (i',o',_), .own e'=>ATs (i'=i∧o'=o) (K (setH H l (.tree T sz m (some (i',o',e')))))
    | none, .own e'=>ATn m i o fun row=>K (setH H l (.tree T sz (m.set i (row.set o (.f .top))) (some (i,o,e'))))
    | _,_=>False)
   | some (.rows _ _ _)=>dnL H (cellsOf x) fun x' H'=>(match look H' l with
    | some (.rows T sz m)=>mG m i fun row=>bif Nat.ble (o+k) row.length then spine (BD row o x') fun row'=>K (setH H' l (.rows T sz (m.set i row')))else False
    | _=>False)
   | _=>False)
  | _=>False)else False
 | none=>False
def ED (P:Program)(ts:List TypeId)(args:List AV)(n:Nat)(H:lF)(K:AV->Nat->lF->Prop):Prop:=
 match ts,args with
 | [t,t'],[d,s]=>bif Nat.beq t t' then(match P.underlying t with
  | some (.slice E)=>(match szB P E,pW P E,vG P E with
   | some sz,some qU,some zs=>bif Nat.beq zs.length sz&&Nat.ble 1 sz then
    (match (match s with | .v (.slice none 0 0)=>some (sz,[])|s=>rowsOf H s)with
    | some (sz',m)=>bif Nat.beq sz sz' then(match d with
     | .v (.slice none 0 0)=>lG (m.length*qU<=140737488355328∧m.length<=maxLen) (K (.own n) (n+1) ((n, .rows E sz m)::H))
     | .own l=>(match look H l with
      | some (.rows E' EF r)=>bif Nat.beq E E'&&Nat.beq sz EF then lG ((r.length+m.length)*qU<=140737488355328∧r.length+m.length<=maxLen) (K (.own n) (n+1) ((n, .rows E sz (r++m))::Gv H l))else False
      | _=>False)
     | .full l k=>(match look H l with
      | some (.fz EF r)=>bif Nat.beq sz EF then lG (((k+m.length)*qU<=140737488355328∧k+m.length<=maxLen)∧k<=r.length) (K (.lst sz (r.take k++m)) n H)else False
      | _=>False)
     | _=>False)else False
    | none=>False)else False
   | _,_,_=>False)
  | _=>False)else False
 | _,_=>False
def KA (P:Program)(E:TypeId):Bool:=match (P.info? E).bind (·.zero)with|some (.int .u8 n)=>decide (n=0)|_=>false
def KC (P:Program)(t t':TypeId)(d:AV)(x:ByteArray)(n:Nat)(H:lF)(K:AV->Nat->lF->Prop):Prop:=
 match P.underlying t,P.underlying t',d with
 | some (.slice E),some .string, .own l=>(match szB P E,pW P E with
  | some sz,some qU=>(match look H l with
   | some (.rows E' sz' r)=>bif Nat.beq sz 1&&Nat.beq qU 1&&KA P E&&Nat.beq E E'&&Nat.beq sz sz' then lG (r.length+x.size<=140737488355328∧r.length+x.size<=maxLen) (K (.own n) (n+1) ((n, .rows E sz (r++x.data.toList.map oh))::Gv H l))else False
   | _=>False)
  | _,_=>False)
 | _,_,_=>False
def Xv (P:Program):Nat->Option TypeId
 | 0=>none
 | k+1=>match Xv P k with
  | some u=>some u
  | none=>(match P.underlying k with|some .string=>some k|_=>none)
def tK (m:Nat):ByteArray:=⟨(List.replicate m 0).toArray⟩
def TK (P:Program)(t t':TypeId)(d:AV)(x:Int)(n:Nat)(H:lF)(K:AV->Nat->lF->Prop):Prop:=
 match P.underlying t',Xv P 64 with
 | some (.int _),some u=>NR x x 1 fun m=>KC P t u d (tK m) n H K
 | _,_=>False
def IG (P:Program)(ts:List TypeId)(args:List AV)(n:Nat)(H:lF)(K:AV->Nat->lF->Prop):Prop:=
 match ts,args with
 | [t,t'],[d, .v (.string x)]=>KC P t t' d x n H K
 | [t,t'],[d, .v (.int .i64 x)]=>TK P t t' d x n H K
 | _,_=>ED P ts args n H K
def zk (P:Program)(t:TypeId)(l c:AV)(n:Nat)(H:lF)(K:AV->Nat->lF->Prop):Prop:=
 match l,c with
 | .v (.int _ x), .v (.int _ y)=>(match P.underlying t with
  | some (.slice E)=>(match szB P E,pW P E,vG P E with
   | some sz,some qU,some zs=>bif Nat.beq zs.length sz&&Nat.ble 1 sz&&zs.all (·.oneCell')then
    NR x y qU fun m=>K (.own n) (n+1) ((n, .rows E sz (List.replicate m (zs.map .v)))::H)else False
   | _,_,_=>False)
  | _=>False)
 | _,_=>False
def TL (a:AV):Option Value:=
 match a with
 | .v x=>some x
 | .agg cs=>(match valsOf cs with|some l=>some (.agg l.toArray)|none=>none)
 | _=>none
def wV (P:Program)(H:lF)(t:TypeId)(m k x:AV)(K:lF->Prop):Prop:=
 match m,k with
 | .mp l, .v (.int .i64 i)=>(match P.underlying t,look H l with
  | some (.map kt _),some (.zf _)=>(match P.underlying kt with
   | some (.int .i64)=>dn H (match TL x with|some v=> .v v|none=>x) fun y H'=>(match look H' l with
    | some (.zf M)=>K (setH H' l (.zf fun k'=>if k'=i then some y else M k'))
    | _=>False)
   | _=>False)
  | _,_=>False)
 | _,_=>match m,k,TL x with
 | .mp l, .v (.string s),some v=>(match P.underlying t,look H l with
  | some (.map kt _),some (.map M)=>(match P.underlying kt with
   | some .string=>K (setH H l (.map fun k'=>if k'=s then some v else M k'))
   | _=>False)
  | _,_=>False)
 | _,_,_=>False
def splice (m:List (List FV))(o:Nat)(ys:List (List FV)):List (List FV):=m.take o++ys++m.drop (o+ys.length)
def aaB (H:lF)(d:AV):Option (Nat×Nat×Nat):=
 match d with
 | .own l=>(match look H l with|some (.rows _ _ m)=>some (l,0,m.length)|_=>none)
 | .sub l o k=>some (l,o,k)
 | _=>none
def TM (P:Program)(ts:List TypeId)(args:List AV)(n:Nat)(H:lF)(K:AV->Nat->lF->Prop):Prop:=
 match ts,args with
 | [t,_],[d,s]=>(match P.underlying t with
  | some (.slice E)=>(match szB P E,aaB H d,rowsOf H s with
   | some sz,some (l,o,k),some (sz',xs)=>(match look H l with
    | some (.rows T EF m)=>bif Nat.beq sz 1&&(Nat.beq sz' 1&&Nat.beq EF 1)then K (.v (.int .i64 ((min xs.length k:Nat):Int))) n (setH H l (.rows T 1 (splice m o (xs.take (min xs.length k)))))else False
    | _=>False)
   | _,_,_=>False)
  | _=>False)
 | _,_=>False
def mX (P:Program)(G:Glob)(f:FuncId)(args:List AV)(n:Nat)(H:lF)(R:AV->Nat->lF->Prop):Prop:=
 ∀w σ F vs,St G w (uj w σ H) F n σ F H w->ng n σ F w args vs->
  y8 P f vs.toArray w fun v w'=> ∃a n' σ' F' H',R a n' H'∧St G w (uj w σ H) F n' σ' F' H' w'∧Ext n σ F w n' σ' F' w'∧mF n' σ' F' w' a v
structure um (P:Program)(G:Glob)(f:FuncId)(args:List AV)(n:Nat)(H:lF)(K:AV->Nat->lF->Prop):Prop where
 ok:callable P f=true
 runs:mX P G f args n H K
def afA (P:Program)(t:TypeId):Bool:=match P.underlying t with|some (.map kt _)=>(match P.underlying kt with|some (.int .i64)=>true|_=>false)|_=>false
def II (P:Program)(src dst:TypeId):Bool:=
 match P.underlying src,P.underlying dst with
 | some .string,some (.slice e)=>(match P.underlying e with|some (.int .u8)=>true|_=>false)
 | _,_=>false
def aE (P:Program)(G:Glob)(o:Oper)(ρ:lK)(n:Nat)(H:lF)(K:AV->Nat->lF->Prop):Prop:=
 match o.op with
 | .convert src dst x=>(match II P src dst with
  | true=>(match oI ρ x with
   | .v (.string s)=>K (.lst 1 (s.data.toList.map oh)) n H
   | _=>False)
  | false=>aQ P H H o ρ fun a=>K a n H)
 | .alloc elem=>(match (P.info? elem).bind (·.zero)with
  | some z=>bif all1 (z.cells.toList.map .v)then spine (z.cells.toList.map .v) fun cs=>K (.ptr n 0) (n+1) ((n, .var elem cs)::H)else False
  | none=>False)
 | .box elem x=>bif all1 (cellsOf (oI ρ x))then Kz (cellsOf (oI ρ x)) fun cs=>K (.ptr n 0) (n+1) ((n, .var elem cs)::H)else False
 | .buildSlice t m parts=>Kz (parts.toList.map fun p=>oI ρ p.2) fun vs=>xM P t m ((parts.toList.map (·.1)).zip vs) n H fun a n' H'=>spine H' fun rM=>K a n' rM
 | .store t a x=>af (oI ρ x) fun x=>N8 P H t (oI ρ a) x fun H'=>spine H' fun rM=>K (.v undef) n rM
 | .makeSlice t l c=>af (oI ρ l) fun l=>af (oI ρ c) fun c=>zk P t l c n H K
 | .makeMap t r=>(match r with
  | none=>(match afA P t with
   | true=>K (.mp n) (n+1) ((n, .zf fun _=>none)::H)
   | false=>K (.mp n) (n+1) ((n, .map fun _=>none)::H))
  | some _=>False)
 | .mapUpdate t m k x=>af (oI ρ m) fun m=>af (oI ρ k) fun k=>af (oI ρ x) fun x=>wV P H t m k x fun H'=>spine H' fun rM=>K (.v undef) n rM
 | .insert t m k x=>af (oI ρ m) fun m=>af (oI ρ k) fun k=>af (oI ρ x) fun x=>wV P H t m k x fun H'=>spine H' fun rM=>K (.v undef) n rM
 | .call c=>(match c.callee with
  | .builtin .append=>Kz (c.args.toList.map (oI ρ)) fun args=>IG P c.argTypes.toList args n H fun a n' H'=>spine H' fun rM=>K a n' rM
  | .builtin .copy=>Kz (c.args.toList.map (oI ρ)) fun args=>TM P c.argTypes.toList args n H fun a n' H'=>spine H' fun rM=>K a n' rM
  | .value f=>(match oI ρ f with
   | .v (.func (.func g) first captured)=>Kz (c.args.toList.map (oI ρ)) fun args=>um P G g ((first.toList.map Nl++args)++captured.toList.map Nl) n H K
   | .fn (.func g) first captured=>Kz (c.args.toList.map (oI ρ)) fun args=>um P G g ((first++args)++captured) n H K
   | _=>False)
  | _=>aQ P H H o ρ fun a=>K a n H)
 | _=>aQ P H H o ρ fun a=>K a n H
def uZ (n:Nat)(σ:Nat->Loc)(F:Nat->Prop)(w:World)(H:lF):Prop:= ∀lV blk,look H lV=some blk->uo n σ F w (σ lV) blk
structure tN (σ:Nat->Loc)(F:Nat->Prop)(H:lF)(w u:World):Prop where
 f : ∀b,F b->u.heap[b]? = w.heap[b]?
 h : ∀lV blk g,look H lV=some blk->blk.own=true->qo w (σ lV) blk g->u.heap[g]? = w.heap[g]?
theorem tN.refl (σ:Nat->Loc)(F:Nat->Prop)(H:lF)(w:World):tN σ F H w w:=⟨fun _ _=>rfl,fun _ _ _ _ _ _=>rfl⟩
theorem oH {q:Bool}{u:World}{K:Value->World->Prop}{v:Value}(h:K v u):wr q u K v u:=by
 cases q with
 | false=>exact h
 | true=>exact⟨rfl,h⟩
theorem mF.nV {n:Nat}{σ:Nat->Loc}{F:Nat->Prop}{w:World}{x v:Value}(h:mF n σ F w (.v x) v):v=x:=by cases h;rfl
theorem sW {n:Nat}{σ:Nat->Loc}{F:Nat->Prop}{w:World}(v:Value):mF n σ F w (Nl v) v:=by
 have key : ∀(cs:List Value),ng n σ F w (cs.map .v) cs:=fun cs=> .of (by simp) fun j a v h1 h2=>by
  rw [aP,h2]at h1
  simp only [bM,aI]at h1
  rw [<-h1];exact .v _
 cases v with
 | agg cs=>have:=(key cs.toList).agg;rw [iI]at this;exact this
 | tuple cs=>have:=(key cs.toList).mW;rw [iI]at this;exact this
 | _=>exact .v _
def Ans (n:Nat)(σ:Nat->Loc)(F:Nat->Prop)(w:World)(K:AV->Prop)(S:World->Prop)(X:World->Bool->(Value->World->Prop)->Prop):Prop:=
 ∃a v,K a∧mF n σ F w a v∧∀u q (Kv:Value->World->Prop),S u->Kv v u->X u q Kv
section
variable {P:Program}{n:Nat}{σ:Nat->Loc}{F:Nat->Prop}{w:World}{H:lF}{nK:lK}{ρ:lY}{K:AV->Prop}{S:World->Prop}
theorem mV (hr : ∀s,mF n σ F w (nK s) (ρ s))(x:Operand):mF n σ F w (oI nK x) (pU ρ x):=by
 cases x with
 | tmp t=>exact hr t
 | const v=>exact sW v
 | global g=>exact .v _
 | func f=>exact .v _
theorem uS (hr : ∀s,mF n σ F w (nK s) (ρ s))(xs:List Operand):ng n σ F w (xs.map (oI nK)) (xs.map (pU ρ)):=by
 induction xs with
 | nil=>trivial
 | cons x r ih=>exact⟨mV hr x,ih⟩
theorem G9 (hr : ∀s,mF n σ F w (nK s) (ρ s))(xs:List (Nat×Operand)):ng n σ F w (xs.map fun p=>oI nK p.2) (xs.map fun p=>pU ρ p.2):=by
 induction xs with
 | nil=>trivial
 | cons x r ih=>exact⟨mV hr x.2,ih⟩
theorem zl {op:BinOp}{k:IntKind}{a b:Int}(h:TG op k a b K):Ans n σ F w K S fun u _ Kv=>Ns op k a b u Kv:=by
 cases op<;>simp only [TG]at h
 case add=>exact⟨_,_,h.ex, .v _,fun u q Kv _ hk=>hk⟩
 case sub=>exact⟨_,_,h.ex, .v _,fun u q Kv _ hk=>hk⟩
 case mul=>exact⟨_,_,h.ex, .v _,fun u q Kv _ hk=>hk⟩
 case quo=>exact⟨_,_,h.go.ex, .v _,fun u q Kv _ hk=>⟨h.req,hk⟩⟩
 case rem=>exact⟨_,_,h.go, .v _,fun u q Kv _ hk=>⟨h.req,hk⟩⟩
 case shl=>exact⟨_,_,h.go.ex, .v _,fun u q Kv _ hk=>⟨h.req,hk⟩⟩
 case shr=>exact⟨_,_,h.go, .v _,fun u q Kv _ hk=>⟨h.req,hk⟩⟩
 all_goals exact⟨_,_,h, .v _,fun u q Kv _ hk=>hk⟩
theorem N9 {op:BinOp}{a b:ByteArray}(h:abj op a b K):Ans n σ F w K S fun u _ Kv=>Xg op a b u Kv:=by
 cases op<;>simp only [abj]at h
 case add=>exact⟨_,_,h.go, .v _,fun u q Kv _ hk=>⟨h.req,hk⟩⟩
 all_goals first|exact h.elim|exact⟨_,_,h, .v _,fun u q Kv _ hk=>hk⟩
theorem EG : ∀ {xs:List AV} {us vs:List Value},valsOf xs=some us->ng n σ F w xs vs->vs=us:=by
 intro xs
 induction xs with
 | nil=>intro us vs h r;cases vs with
  | nil=>simp only [valsOf,aI]at h;exact h
  | cons _ _=>exact r.elim
 | cons x xs ih=>intro us vs h r;cases vs with
  | nil=>exact r.elim
  | cons v vs=>
   cases x<;>simp only [valsOf]at h<;>try cases h
   split at h
   ·rename_i l hl
    injection h with h
    rw [<-h,ih hl r.2,r.1.nV]
   ·cases h
theorem TN {P:Program}{w:World}{K:Value->World->Prop}{k:IntKind}{n:Int}(c:K (.int k (mD .xor k (bif k.signed then -1 else k.max) n)) w):nJ P (Op.unary .xor (.int k n)) w K:=by
 have e:(bif k.signed then(-1:Int)else k.max)=if k.signed then -1 else k.max:=by cases k.signed<;>rfl
 rw [e]at c
 refine oP ?_ c
 simp [Op.unary,Op.intBits,mD]
theorem QX {op:UnOp}{a:AV}{va:Value}(h:aUn op a K)(ra:mF n σ F w a va):Ans n σ F w K S fun u q Kv=>vUn P q op va u Kv:=by
 unfold aUn at h
 split at h
 ·rw [ra.nV];exact⟨_,_,h, .v _,fun u q Kv _ hv=>hv⟩
 ·rw [ra.nV];exact⟨_,_,h.ex, .v _,fun u q Kv _ hv=>hv⟩
 ·rename_i k n
  rw [ra.nV];exact⟨_,_,h, .v _,fun u q Kv _ hv=>TN (oH hv)⟩
 ·cases h
theorem ng.Xw {as:List AV}{vs:List Value}{o:Nat}{a:AV}(r:ng n σ F w as vs)(h:as[o]? = some a) : ∃v,vs[o]? = some v∧mF n σ F w a v:=by
 have hl:=r.len
 have ho:=(aG.1 h).1
 exact⟨vs[o],aj (by omega),r.at o a _ h (aj (by omega))⟩
theorem IJ {t:TypeId}{cs:List AV}{f:Nat}{vs:List Value}(h:NT P t cs f K)(r:ng n σ F w cs vs):Ans n σ F w K S fun u _ Kv=>Bc P t vs.toArray f u Kv:=by
 unfold NT at h
 split at h
 ·rename_i fs hu
  split at h
  ·rename_i fd hf
   split at h
   ·rename_i i ha hi
    cases hb:Nat.ble (fd.offset+i.size) cs.length with
    | false=>rw [hb]at h;exact h.elim
    | true=>
     rw [hb,cond_true,rG]at h
     exact⟨_,_,h,((r.drop fd.offset).take i.size).agg,fun u q Kv _ hv=>by simp only [Bc,hu,hf,ha,hi,nO];exact hv⟩
   ·rename_i i ha hi
    split at h
    ·rename_i a hg
     rw [qC]at h
     obtain⟨v,h1,h2⟩:=r.Xw hg
     exact⟨_,v,h,h2,fun u q Kv _ hv=>by simp only [Bc,hu,hf,ha,hi,h1];exact hv⟩
    ·cases h
   ·cases h
  ·cases h
 ·cases h
theorem zn {t:TypeId}{f d:Nat}(h:abn P t f=some d)(a:Addr)(u:World)(Kv:Value->World->Prop)(k:Kv (.pointer (some (a.add d))) u):uM P t a f u Kv:=by
 unfold abn at h
 split at h
 ·rename_i fs hu
  split at h
  ·rename_i fd hf
   split at h
   ·rename_i i hi
    cases hz:Nat.beq i.size 0 with
    | true=>rw [hz]at h;cases h
    | false=>
     rw [hz,cond_false]at h
     injection h with h
     subst h
     simp only [uM,hu,hf,hi,hz,cond_false];exact k
   ·cases h
  ·cases h
 ·cases h
theorem He {a:AV}{v:Value}(r:mF n σ F w a v)(hne:a≠ .top):ng n σ F w (cellsOf a) v.cells.toList:=by
 cases r with
 | agg xs us hx rx=>exact .of (by simpa [Value.cells,cellsOf]using hx) (by simpa [Value.cells,cellsOf]using rx)
 | v _=>
  cases v with
  | agg cs=>
   refine .of (by simp [Value.cells,cellsOf]) fun j a v h1 h2=> ?_
   simp only [Value.cells]at h2
   simp only [cellsOf,aP]at h1
   rw [h2]at h1
   simp only [bM,aI]at h1
   rw [<-h1];exact .v _
  | _=>exact⟨.v _,trivial⟩
 | top x=>exact(hne rfl).elim
 | lst h=>
  obtain⟨oa,m,c,rfl⟩ : ∃oa m c,v = .slice oa m c:=by cases h;exact⟨_,_,_,rfl⟩
  exact⟨.lst h,trivial⟩
 | fp h=>
  obtain⟨p,rfl⟩ : ∃p,v = .pointer p:=by cases h;exact⟨_,rfl⟩
  exact⟨.fp h,trivial⟩
 | fm h=>
  obtain⟨p,rfl⟩ : ∃p,v = .map p:=by cases h;exact⟨_,rfl⟩
  exact⟨.fm h,trivial⟩
 | ptr l o b hl hb=>exact⟨.ptr l o b hl hb,trivial⟩
 | ep l i o b hl hb=>exact⟨.ep l i o b hl hb,trivial⟩
 | own l hl=>exact⟨.own l hl,trivial⟩
 | qP l oa hl hn hc=>exact⟨.qP l oa hl hn hc,trivial⟩
 | sub l o k oa c hl hk hc hnil ho=>exact⟨.sub l o k oa c hl hk hc hnil ho,trivial⟩
 | full l k oa hl hk ho=>exact⟨.full l k oa hl hk ho,trivial⟩
 | mp l b hl hb=>exact⟨.mp l b hl hb,trivial⟩
 | fn f xs ys us vs hx hy rx ry=>exact⟨.fn f xs ys us vs hx hy rx ry,trivial⟩
 | mW xs us hx rx=>exact⟨.mW xs us hx rx,trivial⟩
theorem KD : ∀ {vs:List AV} {us:List Value} {as:List AV} {bs:List Value} {off:Nat},ng n σ F w vs us->ng n σ F w as bs->ng n σ F w (BD as off vs) (tZ bs off us):=by
 intro vs
 induction vs with
 | nil=>intro us as bs off h k;cases us with
  | nil=>exact k
  | cons _ _=>exact h.elim
 | cons v vs ih=>intro us as bs off h k;cases us with
  | nil=>exact h.elim
  | cons u us=>exact ih h.2 (k.set off h.1)
theorem BF (l:List Value):ng n σ F w (l.map .v) l:= .of (by simp) fun j a v h1 h2=>by
 rw [aP,h2]at h1
 simp only [bM,aI]at h1
 rw [<-h1];exact .v _
theorem Hf (place:Nat->Option (Nat×Nat)) : ∀ {ks:List Nat} {ps:List AV} {us:List Value} {cells:List AV} {bs:List Value} {l:List AV},ng n σ F w ps us->ng n σ F w cells bs->
  Ez place cells (ks.zip ps)=some l->∃m,xC place bs (ks.zip us)=some m∧ng n σ F w l m:=by
 intro ks
 induction ks with
 | nil=>intro ps us cells bs l _ hc h;simp only [List.zip_nil_left,Ez,aI]at h;subst h;exact⟨bs,rfl,hc⟩
 | cons k ks ih=>
  intro ps us cells bs l hp hc h
  cases ps with
  | nil=>cases us with
   | nil=>simp only [List.zip_nil_right,Ez,aI]at h;subst h;exact⟨bs,rfl,hc⟩
   | cons _ _=>exact hp.elim
  | cons p ps=>cases us with
   | nil=>exact hp.elim
   | cons u us=>
    simp only [iR,Ez]at h
    split at h
    ·cases h
    ·rename_i off size hpl
     cases hb:(NU p&&Nat.beq (cellsOf p).length size&&Nat.ble (off+(cellsOf p).length) cells.length)with
     | false=>rw [hb]at h;cases h
     | true=>
      rw [hb,cond_true]at h
      simp only [au]at hb
      have hcr:=He hp.1 (fun e=>by rw [e]at hb;simp [NU]at hb)
      obtain⟨m,h1,h2⟩:=ih hp.2 (KD hcr hc) h
      refine⟨m, ?_,h2⟩
      simp only [iR,xC,hpl]
      rw [hcr.len,hc.len,hb.1.2,hb.2,Bool.and_self,cond_true]
      exact h1
theorem IK {t:TypeId}{ks:List Nat}{as:List AV}{vs:List Value}(h:NV P t (ks.zip as) K)(r:ng n σ F w as vs):Ans n σ F w K S fun u _ Kv=>Bd P t (ks.zip vs) u Kv:=by
 unfold NV at h
 split at h
 ·rename_i z fs hz hu
  split at h
  ·rename_i pl hpl
   split at h
   ·rename_i l hl
    rw [rG]at h
    obtain⟨m,h1,h2⟩:=Hf _ r (BF z.cells.toList) hl
    exact⟨_,_,h,h2.agg,fun u q Kv _ hv=>by simp only [Bd,hz,hu,hpl,h1,nO];exact hv⟩
   ·cases h
  ·cases h
 ·rename_i z m e hz hu
  split at h
  ·rename_i i hi
   split at h
   ·rename_i l hl
    rw [rG]at h
    obtain⟨m,h1,h2⟩:=Hf _ r (BF z.cells.toList) hl
    exact⟨_,_,h,h2.agg,fun u q Kv _ hv=>by simp only [Bd,hz,hu,hi,h1,nO];exact hv⟩
   ·cases h
  ·cases h
 ·cases h
theorem tV {t:TypeId}{cs:List AV}{vs:List Value}{b base o:Nat}(h:EC P t cs o K)(r:ng n σ F w cs vs)(hc : ∀u,S u->∀j v,vs[j]? = some v->u.cell? ⟨b,base+j,none⟩=some v) :
  Ans n σ F w K S fun u q Kv=>nJ P (loadVar t ⟨b,base+o,none⟩) u (wr q u Kv):=by
 unfold EC at h
 split at h
 ·rename_i k ha hs
  split at h
  ·rename_i a hg
   rw [qC]at h
   obtain⟨v,h1,h2⟩:=r.Xw hg
   exact⟨_,v,h,h2,fun u q Kv hu hv=>oG ha (hc u hu o v h1) (oH hv)⟩
  ·cases h
 ·rename_i k ha hs
  cases hb:Nat.ble (o+k) cs.length with
  | false=>rw [hb]at h;exact h.elim
  | true=>
   rw [hb,cond_true,rG]at h
   have hl:=r.len
   have hle:=aN hb
   have hlen:((vs.drop o).take k).length=k:=by simp;omega
   refine⟨_,_,h,((r.drop o).take k).agg,fun u q Kv hu hv=>J9 ha (by rw [hlen];exact hs) (fun j v hj=> ?_) (oH hv)⟩
   rw [add0,fG]
   refine hc u hu (o+j) v ?_
   rw [bH]at hj
   split at hj
   ·simpa using hj
   ·cases hj
 ·cases h
theorem EH {u:World}{b base:Nat} : ∀(m:Nat),(∀j,j<m->∃v,u.cell? ⟨b,base+j,none⟩=some v∧v.oneCell'=true)->∃vs:List Value,vs.length=m∧∀j v,vs[j]? = some v->u.cell? ⟨b,base+j,none⟩=some v∧v.oneCell'=true:=by
 intro m
 induction m with
 | zero=>intro _;exact⟨[],rfl,fun j v h=>by simp at h⟩
 | succ m ih=>
  intro h
  obtain⟨vs,h1,h2⟩:=ih fun j hj=>h j (by omega)
  obtain⟨v,h3⟩:=h m (by omega)
  refine⟨vs++ [v],by simp [h1],fun j x hj=> ?_⟩
  by_cases hjm:j<vs.length
  ·rw [dF hjm]at hj;exact h2 j x hj
  ·rw [dB (by omega)]at hj
   have hj0:j-vs.length=0:=by
    have:=(aG.1 hj).1
    simp at this;omega
   rw [hj0]at hj
   simp only [bY,aI]at hj
   have:j=m:=by omega
   rw [this, <-hj];exact h3
theorem KE {cs:List FV}{o:Nat}{x:Value}(h:oL F w (.fp cs o) x) : ∃b off vs,x = .pointer (some ⟨b,off+o,none⟩)∧F b∧ng n σ F w (cs.map FV.up) vs∧(∀v∈vs,v.oneCell'=true)∧∀j v,vs[j]? = some v->w.cell? ⟨b,off+j,none⟩=some v:=by
 cases h with
 | fp _ _ b off hb hex hrep=>
  obtain⟨vs,h1,h2⟩:=EH cs.length hex
  refine⟨b,off,vs,rfl,hb, .of (by simp [h1]) fun j a v ha hv=> ?_,fun v hv=> ?_,fun j v hj=>(h2 j v hj).1⟩
  ·rw [aP]at ha
   cases hc:cs[j]? with
   | none=>rw [hc]at ha;cases ha
   | some c=>
    rw [hc]at ha
    simp only [bM,aI]at ha
    rw [<-ha]
    exact(hrep j c v hc (h2 j v hv).1).up
  ·obtain⟨j,hj⟩:=bW.1 hv
   exact(h2 j v hj).2
theorem zo {L:Loc}{H:lF}{lV:Nat}{t sz:Nat}{l:List (List FV)}{i:Nat}{row:List FV}(hL:L=σ lV)(hk:look H lV=some (.rows t sz l))(hH:uZ n σ F w H)(hi:l[i]? = some row) :
  ∃g vs,L.b=some g∧ng n σ F w (row.map FV.up) vs∧∀j v,vs[j]? = some v->w.cell? ⟨g,i*sz+j,none⟩=some v:=by
 subst hL
 obtain⟨h1,h2,xs,hO,hR⟩:=hH _ _ hk
 have hil:=(aG.1 hi).1
 obtain⟨g,cur,hg,_,hB,hle,_,hcl,htk⟩:=hO.blk (by omega)
 have hb:(σ lV).b=some g:=by
  unfold Loc.oa at hg
  cases hx:(σ lV).b with
  | none=>rw [hx]at hg;cases hg
  | some g'=>rw [hx]at hg;simp at hg;rw [hg]
 have hrl:row.length=sz:=hR.1 row (aT hi)
 have hi1:i*sz+sz<=l.length*sz:=by
  have:(i+1)*sz<=l.length*sz:=aU _ hil
  rw [bK,dA]at this;exact this
 refine⟨g,(xs.drop (i*sz)).take sz,hb, .of ?_ fun j a v ha hv=> ?_,fun j v hv=> ?_⟩
 ·have:=hR.2.1
  simp [hrl];omega
 ·rw [aP]at ha
  cases hc:row[j]? with
  | none=>rw [hc]at ha;cases ha
  | some c=>
   rw [hc]at ha
   simp only [bM,aI]at ha
   rw [<-ha]
   rw [bH]at hv
   split at hv
   ·exact(hR.2.2.2 i j row c v hi hc (by simpa using hv)).up
   ·cases hv
 ·rw [bH]at hv
  split at hv
  ·rw [cZ]at hv
   rw [hB.cell]
   have hlt:=(aG.1 hv).1
   rw [<-htk]at hv
   rw [bH]at hv
   split at hv
   ·exact hv
   ·cases hv
  ·cases hv
theorem yg {sz:Nat}{l:List (List FV)}{oa:Option Addr}{m c i:Nat}{row:List FV}(h:oL F w (.lst sz l) (.slice oa m c))(hi:l[i]? = some row) :
  ∃b o vs,oa=some ⟨b,o,none⟩∧F b∧m=l.length∧ng n σ F w (row.map FV.up) vs∧oL F w (.fp row 0) (.pointer (some ⟨b,o+i*sz,none⟩))∧∀j v,vs[j]? = some v->w.cell? ⟨b,o+i*sz+j,none⟩=some v:=by
 cases h with
 | lst _ _ _ _ _ b o hn hc hnil ho hsz hex hrep=>
  have hil:=(aG.1 hi).1
  obtain⟨e,hF⟩:=ho (by omega)
  have hrl:=hsz row (aT hi)
  have hfp:oL F w (.fp row 0) (.pointer (some ⟨b,o+i*sz,none⟩)):= .fp row 0 b (o+i*sz) hF (fun j hj=>by rw [fG];exact hex i j (by omega) (by omega)) (fun j a v h1 h2=>hrep i j row a v hi h1 (by rw [fG]at h2;exact h2))
  obtain⟨b',off,vs,e1,_,r,_,hcl⟩:=KE (n:=n) (σ:=σ) hfp
  injection e1 with e1;injection e1 with e1;injection e1 with e1 e2
  subst e1
  have e2:o+i*sz=off:=e2
  subst e2
  exact⟨b,o,vs,e,hF,hn,r,hfp,hcl⟩
theorem tN.cell {u:World}{b:Nat}(h:tN σ F H w u)(hb:F b)(o:Nat):u.cell? ⟨b,o,none⟩=w.cell? ⟨b,o,none⟩:=qO (h.f b hb) o
theorem tN.Hg {u:World}{g lV:Nat}{blk:oN}(h:tN σ F H w u)(hk:look H lV=some blk)(ho:blk.own=true)(hg:(σ lV).b=some g)(o:Nat):u.cell? ⟨g,o,none⟩=w.cell? ⟨g,o,none⟩:=qO (h.h lV blk g hk ho (.inl hg)) o
theorem CU {t:TypeId}{a:AV}{va:Value}(h:O9 P H t a K)(ra:mF n σ F w a va)(hH:uZ n σ F w H) : ∃p,va = .pointer (some p)∧Ans n σ F w K (tN σ F H w) fun u q Kv=>nJ P (loadVar t p) u (wr q u Kv):=by
 unfold O9 at h
 split at h
 ·rename_i l o
  cases ra with
  | ptr _ _ b hl hb=>
   refine⟨_,rfl, ?_⟩
   split at h
   ·rename_i T cs hk
    obtain⟨g,vs,h1,h2,h3,_⟩:=hH _ _ hk
    rw [hb]at h1
    injection h1 with h1
    subst h1
    have:=tV (S:=tN σ F H w) (b:=b) (base:=0) h h3 fun u hu j v hj=>by rw [hu.Hg hk rfl hb,h2.cell,aS];exact hj
    simpa only [aS]using this
   ·cases h
 ·rename_i l i o
  cases ra with
  | ep _ _ _ b hl hb=>
   refine⟨_,rfl, ?_⟩
   split at h
   ·rename_i T sz m hk
    obtain⟨row,hrow,h⟩:=h.ex
    obtain⟨g,vs,h1,h2,h3⟩:=zo rfl hk hH hrow
    rw [hb]at h1
    injection h1 with h1
    subst h1
    have e:(σ l).sz=sz:=(hH _ _ hk).1
    rw [e]
    exact tV (S:=tN σ F H w) h h2 fun u hu j v hj=>by rw [hu.Hg hk rfl hb];exact h3 j v hj
   ·rename_i sz m hk
    obtain⟨row,hrow,h⟩:=h.ex
    obtain⟨e,e2,hf,h0⟩:=hH _ _ hk
    obtain⟨b',o',vs,e3,hF,_,r,_,hcl⟩:=yg (n:=n) (σ:=σ) hf hrow
    have ho:=h0 _ _ e3
    subst ho
    have eb:b'=b:=by
     unfold Loc.oa at e3
     rw [hb]at e3
     simp at e3
     exact e3.symm
    subst eb
    rw [e]
    simp only [aS]at hcl
    exact tV (S:=tN σ F H w) h r fun u hu j v hj=>by rw [hu.cell hF];exact hcl j v hj
   ·rename_i T sz m hh hk
    obtain⟨q1,q2,xs,q3,q4,q5,q6⟩:=hH _ _ hk
    rw [q1]
    split at h
    ·rename_i k ha hs
     by_cases he : ∃e,hh=some (i,o,e)
     ·obtain⟨e,he⟩:=he
      obtain⟨a1,a2,a3,⟨row,a4,a5⟩,v,a6,a7⟩:=q6 i o e he
      obtain⟨b',hb',hc⟩:=uQ q3 a4 (q4.1 row (aT a4)) a5 q4.2.1 a6
      rw [hb]at hb'
      injection hb' with hb'
      subst hb'
      exact⟨_,v,h.hole e he,a7,fun u q Kv hu hv=>oG ha (by rw [hu.Hg hk rfl hb];exact hc) (oH hv)⟩
     ·obtain⟨row,hrow,h⟩:=(h.other fun e he'=>he ⟨e,he'⟩).ex
      have hil:=(aG.1 hrow).1
      have hrl:=q4.1 row (aT hrow)
      have hi1:i*sz+sz<=m.length*sz:=by
       have:(i+1)*sz<=m.length*sz:=aU _ hil
       rw [bK,dA]at this;exact this
      have hr:ng n σ F w (row.map TV.up) ((xs.drop (i*sz)).take sz):= .of (by have:=q4.2.1;simp [hrl];omega) fun j a v h1 h2=>by
       rw [aP]at h1
       rw [bH]at h2
       split at h2
       ·rw [cZ]at h2
        cases hc:row[j]? with
        | none=>rw [hc]at h1;cases h1
        | some c=>
         rw [hc]at h1
         simp only [bM,aI]at h1
         rw [<-h1]
         have:=q4.2.2.2 i j row c v hrow hc h2
         cases c with
         | f x=>exact oL.up this
         | n _ _ _=>exact .top v
       ·cases h2
      refine tV (S:=tN σ F H w) h hr fun u hu j v' hj=> ?_
      rw [hu.Hg hk rfl hb]
      rw [bH]at hj
      split at hj
      ·rename_i hjs
       rw [cZ]at hj
       obtain⟨b'',Xx,hc'⟩:=uQ (a:=row[j]'(by omega)) q3 hrow hrl (aj _) q4.2.1 hj
       rw [hb]at Xx
       injection Xx with Xx
       rw [Xx];exact hc'
      ·cases hj
    ·cases h
   ·cases h
 ·rename_i cs o
  cases ra with
  | fp hf=>
   obtain⟨b,off,vs,rfl,hF,r,_,hcl⟩:=KE (n:=n) (σ:=σ) hf
   exact⟨_,rfl,tV (S:=tN σ F H w) h r fun u hu j v hj=>by rw [hu.cell hF];exact hcl j v hj⟩
 ·cases h
theorem QY {s:AV}{v:Value}{sz:Nat}{l:List (List FV)}(h:rowsOf H s=some (sz,l))(r:mF n σ F w s v)(hH:uZ n σ F w H) :
  ∃oa m c,v = .slice oa m c∧m=l.length∧∀i row,l[i]? = some row->∃b o vs,oa=some ⟨b,o,none⟩∧ng n σ F w (row.map FV.up) vs∧∀u,tN σ F H w u->∀j v,vs[j]? = some v->u.cell? ⟨b,o+i*sz+j,none⟩=some v:=by
 have ofl : ∀ {oa:Option Addr} {m c:Nat} {l:List (List FV)},oL F w (.lst sz l) (.slice oa m c)->∀i row,l[i]? = some row->∃b o vs,oa=some ⟨b,o,none⟩∧ng n σ F w (row.map FV.up) vs∧∀u,tN σ F H w u->∀j v,vs[j]? = some v->u.cell? ⟨b,o+i*sz+j,none⟩=some v:=by
  intro oa m c l hf i row hi
  obtain⟨b,o,vs,e,hF,_,hr,_,hc⟩:=yg (n:=n) (σ:=σ) hf hi
  exact⟨b,o,vs,e,hr,fun u hu j v hj=>by rw [hu.cell hF];exact hc j v hj⟩
 unfold rowsOf at h
 split at h
 ·simp only [aI,fJ]at h
  obtain⟨rfl,rfl⟩:=h
  cases r with
  | lst hf=>
   obtain⟨oa,m,c,rfl⟩ : ∃oa m c,v = .slice oa m c:=by cases hf;exact⟨_,_,_,rfl⟩
   exact⟨oa,m,c,rfl,by cases hf;assumption,ofl hf⟩
 ·split at h
  ·rename_i l' T sz' m hk
   simp only [aI,fJ]at h
   obtain⟨rfl,rfl⟩:=h
   have hq:=hH _ _ hk
   cases r with
   | qP _ oa hl hn hc=>
    have:m = []:=aF (by rw [<-hq.2.1,hn])
    subst this
    exact⟨_,_,_,rfl,rfl,fun i row hi=>by simp at hi⟩
   | own _ hl=>
    refine⟨_,_,_,rfl,hq.2.1,fun i row hi=> ?_⟩
    obtain⟨g,vs,e,hr,hc⟩:=zo rfl hk hH hi
    exact⟨g,0,vs,by unfold Loc.oa;rw [e];rfl,hr,fun u hu j v hj=>by rw [hu.Hg hk rfl e,aS];exact hc j v hj⟩
  ·rename_i l' sz' m hk
   simp only [aI,fJ]at h
   obtain⟨rfl,rfl⟩:=h
   have hq:=hH _ _ hk
   cases r with
   | qP _ oa hl hn hc=>
    have:m = []:=aF (by rw [<-hq.2.1,hn])
    subst this
    exact⟨_,_,_,rfl,rfl,fun i row hi=>by simp at hi⟩
   | own _ hl=>exact⟨_,_,_,rfl,hq.2.1,ofl hq.2.2.1⟩
  ·cases h
 ·split at h
  ·rename_i l' o k _ T sz' m hk
   simp only [aI,fJ]at h
   obtain⟨rfl,rfl⟩:=h
   have hq:=hH _ _ hk
   cases r with
   | sub _ _ _ oa c hl hkk hc hnil ho=>
    rw [hq.2.1]at hkk
    refine⟨_,_,_,rfl,by rw [aK,aX];omega,fun i row hi=> ?_⟩
    have hil:=(aG.1 hi).1
    rw [aK]at hil
    obtain⟨b,e1,e2⟩:=ho (by omega)
    rw [bH,if_pos (by omega),cZ]at hi
    obtain⟨g,vs,e,hr,hcl⟩:=zo rfl hk hH hi
    rw [e]at e1
    injection e1 with e1
    subst e1
    refine⟨g,o*sz',vs,by rw [e2,hq.1],hr,fun u hu j v hj=> ?_⟩
    rw [hu.Hg hk rfl e, <-bK];exact hcl j v hj
  ·rename_i l' o k _ sz' m hk
   simp only [aI,fJ]at h
   obtain⟨rfl,rfl⟩:=h
   have hq:=hH _ _ hk
   cases r with
   | sub _ _ _ oa c hl hkk hc hnil ho=>
    rw [hq.2.1]at hkk
    refine⟨_,_,_,rfl,by rw [aK,aX];omega,fun i row hi=> ?_⟩
    have hil:=(aG.1 hi).1
    rw [aK]at hil
    obtain⟨b,e1,e2⟩:=ho (by omega)
    rw [bH,if_pos (by omega),cZ]at hi
    obtain⟨b',o',vs,e,hr,hcl⟩:=ofl hq.2.2.1 _ _ hi
    have h0:=hq.2.2.2 _ _ e
    subst h0
    unfold Loc.oa at e
    rw [e1]at e
    simp only [bM,aI,Addr.mk.injEq]at e
    obtain⟨rfl,_⟩:=e
    refine⟨b,o*sz',vs,by rw [e2,hq.1],hr,fun u hu j v hj=> ?_⟩
    have:=hcl u hu j v hj
    rw [aS,bK]at this;exact this
  ·cases h
 ·cases h
theorem KF {Hr:lF}{src dst:TypeId}{a:AV}{va:Value}(h:TJ P Hr src dst a K)(ra:mF n σ F w a va)(Xy:uZ n σ F w Hr)(hS : ∀u,S u->tN σ F Hr w u):Ans n σ F w K S fun u q Kv=>yR P q src dst va u Kv:=by
 unfold TJ at h
 split at h
 ·rename_i h1 h2
  rw [ra.nV];exact⟨_,_,h.ex, .v _,fun u q Kv _ hv=>by simp only [yR,h1,h2];exact hv⟩
 ·rename_i h1 h2
  rw [ra.nV];exact⟨_,_,h, .v _,fun u q Kv _ hv=>by simp only [yR,h1,h2];exact hv⟩
 ·rename_i d k n h1 h2
  rw [ra.nV]
  refine⟨_,_,h, .v _,fun u q Kv _ hv=> ?_⟩
  simp only [yR,h1,h2]
  exact oP (run_convert_int_string u src dst k n (by rw [h1];rfl) h2) (oH hv)
 ·rename_i e a h1 h2
  split at h
  ·rename_i h3
   split at h
   ·rw [ra.nV]
    refine⟨_,_,h, .v _,fun u q Kv _ hv=> ?_⟩
    simp only [yR,h1,h2]
    exact Tt (l:= []) h1 h3 h2 rfl (.inl rfl) (oH hv)
   ·split at h
    ·rename_i sz l hl
     cases hz:Nat.beq sz 1 with
     | false=>rw [hz]at h;exact h.elim
     | true=>
     rw [hz,cond_true]at h
     have hz:=aA hz
     subst hz
     obtain⟨s,rfl,hk⟩:=h.ex
     obtain⟨oa,m,c,rfl,hm,hc⟩:=QY hl ra Xy
     refine⟨_,_,hk, .v _,fun u q Kv hu hv=> ?_⟩
     simp only [yR,h1,h2]
     rw [ah]at hm
     subst hm
     have one : ∀i x,s[i]? = some x->∃b o,oa=some ⟨b,o,none⟩∧u.cell? ⟨b,o+i*1,none⟩=some (.int .u8 (x.toNat:Int)):=by
      intro i x hi
      obtain⟨b,o,vs,e,hr,hcl⟩:=hc i (oh x) (by rw [aP,hi];rfl)
      obtain⟨v,rfl⟩ : ∃v,vs = [v]:=by
       have:=hr.len
       match vs,this with
       | [v],_=>exact⟨v,rfl⟩
      have hv:v = .int .u8 (x.toNat:Int):=(show mF n σ F w (.v (.int .u8 (x.toNat:Int))) v from hr.1).nV
      subst hv
      exact⟨b,o,e,by have:=hcl u (hS u hu) 0 _ rfl;simpa using this⟩
     cases oa with
     | none=>
      have hs:s = []:=by
       cases s with
       | nil=>rfl
       | cons x r=>obtain⟨b,o,e,_⟩:=one 0 x rfl;cases e
      subst hs
      exact Tt (l:= []) h1 h3 h2 rfl (.inl rfl) (oH hv)
     | some ad=>
      refine oP (run_convert_bytes_back (P:=P) u src dst _ ad c s h1 h3 h2 fun j hj=> ?_) (oH hv)
      obtain⟨b,o,e1,e2⟩:=one j s[j] (aj hj)
      injection e1 with e1
      subst e1
      rw [add0]
      rw [dW]at e2
      exact e2
    ·cases h
  ·cases h
 ·cases h
end
section
variable {P:Program}{n:Nat}{σ:Nat->Loc}{F:Nat->Prop}{w:World}{H:lF}{nK:lK}{ρ:lY}{K:AV->Prop}{S:World->Prop}
theorem vU {L:Loc}{g:Nat}(h:L.oa=some ⟨g,0,none⟩):L.b=some g:=by
 unfold Loc.oa at h
 cases hx:L.b with
 | none=>rw [hx]at h;cases h
 | some g'=>rw [hx]at h;simp at h;rw [h]
theorem IL {lV t sz:Nat}{l:List (List FV)}(hk:look H lV=some (.rows t sz l))(hH:uZ n σ F w H)(h0:0<l.length) : ∃g,(σ lV).b=some g∧(σ lV).oa=some ⟨g,0,none⟩:=by
 obtain⟨h1,h2,xs,hO,hR⟩:=hH _ _ hk
 obtain⟨g,cur,hg,_⟩:=hO.blk h0
 exact⟨g,vU hg,hg⟩
theorem TP {lV sz:Nat}{l:List (List FV)}(hk:look H lV=some (.fz sz l))(hH:uZ n σ F w H)(h0:0<l.length) : ∃g,(σ lV).b=some g∧(σ lV).oa=some ⟨g,0,none⟩:=by
 obtain⟨h1,h2,hf,h3⟩:=hH _ _ hk
 obtain⟨row,hrow⟩ : ∃row,l[0]? = some row:=⟨l[0],aj h0⟩
 obtain⟨b,o,vs,e,_⟩:=yg (n:=n) (σ:=σ) hf hrow
 have:=h3 b o e
 subst this
 exact⟨b,vU e,e⟩
theorem yh {lV t sz:Nat}{l:List (List FV)}(hk:look H lV=some (.rows t sz l))(hH:uZ n σ F w H):(σ lV).sz=sz∧(σ lV).n=l.length:=⟨(hH _ _ hk).1,(hH _ _ hk).2.1⟩
theorem BG {lV sz:Nat}{l:List (List FV)}(hk:look H lV=some (.fz sz l))(hH:uZ n σ F w H):(σ lV).sz=sz∧(σ lV).n=l.length:=⟨(hH _ _ hk).1,(hH _ _ hk).2.1⟩
theorem BH {t:TypeId}{x i:AV}{vx vi:Value}(h:zi P H t x i K)(rx:mF n σ F w x vx)(ri:mF n σ F w i vi)(hH:uZ n σ F w H):Ans n σ F w K S fun u q Kv=>nJ P (Instr.indexAt t vx vi) u (wr q u Kv):=by
 unfold zi at h
 split at h
 ·rename_i ki ix
  rw [ri.nV]
  split at h
  ·rename_i e hu
   split at h
   ·rename_i sz hs
    have abp : ∀ {l:Nat} {m:List (List FV)},mF n σ F w (.own l) vx->(σ l).sz=sz->(σ l).n=m.length->(0<m.length->∃g,(σ l).b=some g∧(σ l).oa=some ⟨g,0,none⟩)->ni ix m.length (fun j=>K (.ep l j 0))->
      Ans n σ F w K S fun u q Kv=>nJ P (Instr.indexAt t vx (.int ki ix)) u (wr q u Kv):=by
     intro l m rx e1 e2 h3 h4
     obtain⟨j,ej,hj,hk⟩:=h4.ex
     obtain⟨g,hg,hoa⟩:=h3 (by omega)
     cases rx with
     | qP _ oa hl hn hc=>omega
     | own _ hl=>
      rw [hoa]
      refine⟨_,_,hk, .ep l j 0 g hl hg,fun u q Kv _ hv=>Ko j hu hs ej (by omega) (oH ?_)⟩
      rw [e1]at hv
      rw [aS]
      exact hv
    have adW : ∀ {l o m:Nat},mF n σ F w (.sub l o m) vx->(σ l).sz=sz->ni ix m (fun j=>K (.ep l (o+j) 0))->
      Ans n σ F w K S fun u q Kv=>nJ P (Instr.indexAt t vx (.int ki ix)) u (wr q u Kv):=by
     intro l o m rx e1 h4
     obtain⟨j,ej,hj,hk⟩:=h4.ex
     cases rx with
     | sub _ _ _ oa c hl hkk hc hnil ho=>
      obtain⟨g,hg,hoa⟩:=ho (by omega)
      rw [hoa]
      refine⟨_,_,hk, .ep l (o+j) 0 g hl hg,fun u q Kv _ hv=>Ko j hu hs ej hj (oH ?_)⟩
      rw [e1]at hv ⊢
      rw [bK]at hv
      exact hv
    split at h
    ·rename_i sz' l
     cases hb:Nat.beq sz sz' with
     | false=>rw [hb]at h;exact h.elim
     | true=>
      rw [hb,cond_true]at h
      have:=aA hb
      subst this
      obtain⟨j,ej,hj,hk⟩:=h.ex
      obtain⟨row,hrow,hk⟩:=hk.ex
      cases rx with
      | lst hf=>
       obtain⟨oa,m,c,rfl⟩ : ∃oa m c,vx = .slice oa m c:=by cases hf;exact⟨_,_,_,rfl⟩
       obtain⟨b,o,vs,rfl,hF,hm,_,hfp,_⟩:=yg (n:=n) (σ:=σ) hf hrow
       exact⟨_,_,hk, .fp hfp,fun u q Kv _ hv=>Ko j hu hs ej (by omega) (oH hv)⟩
    ·rename_i l
     split at h
     ·rename_i T sz' m hk
      cases hb:Nat.beq sz sz' with
      | false=>rw [hb]at h;exact h.elim
      | true=>
       rw [hb,cond_true]at h
       have:=aA hb
       subst this
       exact abp rx (yh hk hH).1 (yh hk hH).2 (IL hk hH) h
     ·rename_i sz' m hk
      cases hb:Nat.beq sz sz' with
      | false=>rw [hb]at h;exact h.elim
      | true=>
       rw [hb,cond_true]at h
       have:=aA hb
       subst this
       exact abp rx (BG hk hH).1 (BG hk hH).2 (TP hk hH) h
     ·rename_i T sz' m h0 hk
      cases hb:Nat.beq sz sz' with
      | false=>rw [hb]at h;exact h.elim
      | true=>
       rw [hb,cond_true]at h
       have:=aA hb
       subst this
       obtain⟨q1,q2,xs,hO,_⟩:=hH _ _ hk
       exact abp (m:=m.map fun _=> []) rx q1 (by rw [ah];exact q2) (fun h0=>by
        rw [ah]at h0
        obtain⟨g,cur,hg,_⟩:=hO.blk h0
        exact⟨g,vU hg,hg⟩) (by rw [ah];exact h)
     ·cases h
    ·rename_i l o m
     split at h
     ·rename_i T sz' m' hk
      cases hb:Nat.beq sz sz' with
      | false=>rw [hb]at h;exact h.elim
      | true=>
       rw [hb,cond_true]at h
       have:=aA hb
       subst this
       exact adW rx (yh hk hH).1 h
     ·rename_i sz' m' hk
      cases hb:Nat.beq sz sz' with
      | false=>rw [hb]at h;exact h.elim
      | true=>
       rw [hb,cond_true]at h
       have:=aA hb
       subst this
       exact adW rx (BG hk hH).1 h
     ·cases h
    ·cases h
   ·cases h
  ·rename_i m e hu
   split at h
   ·rename_i sz hs
    split at h
    ·obtain⟨j,ej,hj,hk⟩:=h.ex
     cases rx with
     | ptr _ _ b hl hb=>exact⟨_,_,hk, .ptr _ _ b hl hb,fun u q Kv _ hv=>Iw j hu hs ej hj (oH hv)⟩
    ·obtain⟨j,ej,hj,hk⟩:=h.ex
     cases rx with
     | ep _ _ _ b hl hb=>exact⟨_,_,hk, .ep _ _ _ b hl hb,fun u q Kv _ hv=>Iw j hu hs ej hj (oH (by rw [fG];exact hv))⟩
    ·obtain⟨j,ej,hj,hk⟩:=h.ex
     cases rx with
     | fp hf=>
      cases hf with
      | fp _ _ b off hb hex hrep=>exact⟨_,_,hk, .fp (.fp _ _ b off hb hex hrep),fun u q Kv _ hv=>Iw j hu hs ej hj (oH (by rw [fG];exact hv))⟩
    ·cases h
   ·cases h
  ·cases h
 ·cases h
theorem Hl {u:World}{Kv:Value->World->Prop}{t e:TypeId}{m j sz:Nat}{k:IntKind}{ix:Int}{l:List Value}{v:Value}(hm:ix=j)(hu:P.underlying t=some (.array m e))(hs:szB P e=some sz)(h:j<m)
  (hp:(part e l.toArray (j*sz)).run P u = .ok v u) (hk:Kv v u):nJ P (Instr.index t (.agg l.toArray) (.int k ix)) u Kv:=by
 refine oP ?_ hk
 subst hm
 have h1:(0:Int)<=j∧(j:Int)<m:=⟨by omega,by omega⟩
 unfold Instr.index
 simp only [asIntOf,Sem.run_bind,Sem.run_pure,Result.andThen_ok,lT hu]
 simp only [if_pos h1,Sem.run_bind,qB hs,Result.andThen_ok,dK]
 exact hp
theorem IQ {t:TypeId}{x i:AV}{vx vi:Value}(h:NW P t x i K)(rx:mF n σ F w x vx)(ri:mF n σ F w i vi):Ans n σ F w K S fun u q Kv=>nJ P (Instr.index t vx vi) u (wr q u Kv):=by
 unfold NW at h
 split at h
 ·rename_i ki ix
  rw [ri.nV]
  split at h
  ·rename_i s hu
   rw [rx.nV]
   obtain⟨j,ej,hj,hk⟩:=h.ex
   refine⟨_,_,hk, .v _,fun u q Kv _ hv=>Bz j ej hu hj (oH ?_)⟩
   have e:s.data.toList.getD j 0=s[j]:=by
    rw [aW,bf]
    have:s.data[j]? = some s[j]:=jU hj
    rw [this];rfl
   rw [e]at hv
   exact hv
  ·rename_i m e cs hu
   obtain⟨j,ej,hj,hk⟩:=h.ex
   obtain⟨us,rfl,r⟩:=ng.Ew rx
   split at hk
   ·rename_i sz hs
    unfold EC at hk
    split at hk
    ·rename_i k ha _
     split at hk
     ·rename_i a hg
      rw [qC]at hk
      obtain⟨v,h1,h2⟩:=r.Xw hg
      refine⟨_,v,hk,h2,fun u q Kv _ hv=>Hl ej hu hs hj ?_ (oH hv)⟩
      unfold part
      rw [Sem.run_bind,qM ha]
      simp [h1]
     ·exact hk.elim
    ·rename_i k ha hs'
     cases hb:Nat.ble (j*sz+k) cs.length with
     | false=>rw [hb]at hk;exact hk.elim
     | true=>
      rw [hb,cond_true,rG]at hk
      refine⟨_,_,hk,((r.drop (j*sz)).take k).agg,fun u q Kv _ hv=>Hl ej hu hs hj ?_ (oH hv)⟩
      obtain⟨i,hi,hik⟩:=pK hs'
      simp only [part,Sem.run_bind,Sem.run_pure,Result.andThen_ok,qM ha,if_true,sizeOf,qY hi]
      congr 2
      apply jc
      simp [hik]
    ·exact hk.elim
   ·exact hk.elim
  ·cases h
 ·cases h
theorem Oa {t ty:TypeId}{a:AV}{va:Value}(h:abo P H t a K)(ra:mF n σ F w a va)(hH:uZ n σ F w H):Ans n σ F w K S fun u q Kv=>Bf P q t ty va u Kv:=by
 unfold abo at h
 split at h
 ·rename_i s hu;rw [ra.nV];exact⟨_,_,h, .v _,fun u q Kv _ hv=>by simp only [Bf,hu];exact hv⟩
 ·rename_i e sz l hu
  cases ra with
  | lst hf=>cases hf with
   | lst _ _ oa m c b o hn hc hnil ho hsz hex hrep=>exact⟨_,_,h, .v _,fun u q Kv _ hv=>by simp only [Bf,hu,hn];exact hv⟩
 ·rename_i e l hu
  cases ra with
  | qP _ oa hl hn hc=>
   split at h
   ·rename_i T sz m hk
    have e:=(yh hk hH).2
    rw [hn]at e
    exact⟨_,_,h, .v _,fun u q Kv _ hv=>by simp only [Bf,hu];rw [<-e]at hv;exact hv⟩
   ·rename_i sz m hk
    have e:=(BG hk hH).2
    rw [hn]at e
    exact⟨_,_,h, .v _,fun u q Kv _ hv=>by simp only [Bf,hu];rw [<-e]at hv;exact hv⟩
   ·cases h
  | own _ hl=>
   split at h
   ·rename_i T sz m hk
    have e:=(yh hk hH).2
    exact⟨_,_,h, .v _,fun u q Kv _ hv=>by simp only [Bf,hu,e];exact hv⟩
   ·rename_i sz m hk
    have e:=(BG hk hH).2
    exact⟨_,_,h, .v _,fun u q Kv _ hv=>by simp only [Bf,hu,e];exact hv⟩
   ·cases h
 ·rename_i e l o m hu
  cases ra with
  | sub _ _ _ oa c hl hk hc hnil ho=>exact⟨_,_,h, .v _,fun u q Kv _ hv=>by simp only [Bf,hu];exact hv⟩
 ·rename_i e x m c hu;rw [ra.nV];exact⟨_,_,h, .v _,fun u q Kv _ hv=>by simp only [Bf,hu];exact hv⟩
 ·rename_i m e hu;exact⟨_,_,h, .v _,fun u q Kv _ hv=>by simp only [Bf,hu];exact hv⟩
 ·cases h
def wW (oa:Option Addr)(i sz m:Nat):Option Addr:=if m=i then oa else oa.map (·.add (i*sz))
theorem xO {u:World}{t E:TypeId}{sz l c:Nat}{oa:Option Addr}{lo hi mx:Option Value}{i j m:Nat}(ht:P.underlying t=some (.slice E))(hs:szB P E=some sz)
  (hlo:(lo=none∧i=0)∨∃k,lo=some (.int k (i:Int))) (hhi:(hi=none∧j=l∧mx=none)∨∃k,hi=some (.int k (j:Int))) (hmx:(mx=none∧m=c)∨∃k,mx=some (.int k (m:Int)))
  (hij:i<=j) (hjm:j<=m) (hmc:m<=c):(Instr.sliceAt t (.slice oa l c) lo hi mx).run P u = .ok (.slice (wW oa i sz m) (j-i) (m-i)) u:=by
 have h1:(0:Int)<=i∧(i:Int)<=j:=⟨by omega,by omega⟩
 have h2:(0:Int)<=j∧(j:Int)<=m:=⟨by omega,by omega⟩
 have h3:(0:Int)<=m∧(m:Int)<=c:=⟨by omega,by omega⟩
 unfold Instr.sliceAt
 rw [Sem.run_bind,lT ht]
 simp only [Result.andThen_ok]
 unfold Instr.slice
 rw [Sem.run_bind,lT ht]
 rcases hmx with ⟨rfl,rfl⟩|⟨km,rfl⟩
 ·rcases hhi with ⟨rfl,rfl,_⟩|⟨kh,rfl⟩
  ·rcases hlo with ⟨rfl,rfl⟩|⟨kl,rfl⟩<;>simp [Instr.sliceBounds,Instr.sliceBound,asIntOf,hij,hjm,qB hs,wW]
  ·rcases hlo with ⟨rfl,rfl⟩|⟨kl,rfl⟩<;>simp [Instr.sliceBounds,Instr.sliceBound,asIntOf,hij,hjm,qB hs,wW]
 ·rcases hhi with ⟨rfl,rfl,h⟩|⟨kh,rfl⟩
  ·cases h
  ·rcases hlo with ⟨rfl,rfl⟩|⟨kl,rfl⟩<;>simp [Instr.sliceBounds,Instr.sliceBound,asIntOf,hij,hjm,hmc,qB hs,wW]
theorem Ho {oa:Option Addr}{i sz m c:Nat}(hmc:m<=c)(hnil:oa=none->c=0)(h:wW oa i sz m=none):m-i=0:=by
 unfold wW at h
 split at h
 ·omega
 ·have:=hnil (by simpa using h)
  omega
theorem oL.part {sz m c i j:Nat}{l:List (List FV)}{oa:Option Addr}{n':Nat}(h:oL F w (.lst sz l) (.slice oa n' c))(hij:i<=j)(hjn:j<=l.length)(hjm:j<=m)(hmc:m<=c) :
  oL F w (.lst sz ((l.take j).drop i)) (.slice (wW oa i sz m) (j-i) (m-i)):=by
 cases h with
 | lst _ _ _ _ _ b o hn hc hnil ho hsz hex hrep=>
  subst hn
  refine .lst sz _ _ _ _ b (o+i*sz) (by simp;omega) (by omega) (Ho hmc hnil) (fun hlt=> ?_) (fun row hr=>hsz row (fA (ig hr))) (fun k x hk hx=> ?_) (fun k x row a v h1 h2 h3=> ?_)
  ·obtain⟨e,hF⟩:=ho (by omega)
   refine⟨?_,hF⟩
   unfold wW
   rw [if_neg (by omega),e]
   simp [add0]
  ·have:=hex (i+k) x (by omega) hx
   rw [bK]at this
   rw [show o+i*sz+(k*sz+x)=o+(i*sz+k*sz+x) by omega]
   exact this
  ·have h1':l[i+k]? = some row:=by
    rw [cZ,bH]at h1
    split at h1
    ·exact h1
    ·cases h1
   refine hrep (i+k) x row a v h1' h2 ?_
   rw [bK,show o+(i*sz+k*sz+x)=o+i*sz+(k*sz+x) by omega]
   exact h3
theorem IU {lo:Option AV}{SI:Option Value}{d:Int}{K:Int->Prop}(h:zS lo d K)(r:(lo=none∧SI=none)∨∃a v,lo=some a∧SI=some v∧mF n σ F w a v) :
  ∃x,K x∧((lo=none∧SI=none∧x=d)∨∃k a,lo=some a∧SI=some (.int k x)):=by
 unfold zS at h
 split at h
 ·rcases r with ⟨_,e⟩|⟨a,v,e,_⟩
  ·exact⟨d,h, .inl ⟨rfl,e,rfl⟩⟩
  ·cases e
 ·rename_i k x
  rcases r with ⟨e,_⟩|⟨a,v,e,e2,ra⟩
  ·cases e
  ·injection e with e
   rw [<-e]at ra
   rw [ra.nV]at e2
   exact⟨x,h, .inr ⟨k,_,rfl,e2⟩⟩
 ·cases h
theorem abq {mx:Option AV}{TQ:Option Value}{b:Int}{m:Nat}{K:Prop}(h:NY mx b m K)(r:(mx=none∧TQ=none)∨∃a v,mx=some a∧TQ=some v∧mF n σ F w a v) :
  K∧((mx=none∧TQ=none)∨∃k z,mx=some (.v (.int k z))∧TQ=some (.int k z)∧b<=z∧z<=m):=by
 unfold NY at h
 split at h
 ·rcases r with ⟨_,e⟩|⟨a,v,e,_⟩
  ·exact⟨h, .inl ⟨rfl,e⟩⟩
  ·cases e
 ·rename_i k z
  rcases r with ⟨e,_⟩|⟨a,v,e,e2,ra⟩
  ·cases e
  ·injection e with e
   rw [<-e]at ra
   rw [ra.nV]at e2
   exact⟨h.go, .inr ⟨k,z,rfl,e2,h.req.1,h.req.2⟩⟩
 ·cases h
abbrev Ob (n:Nat)(σ:Nat->Loc)(F:Nat->Prop)(w:World)(a:Option AV)(v:Option Value):Prop:=(a=none∧v=none)∨∃x y,a=some x∧v=some y∧mF n σ F w x y
theorem zT {t E:TypeId}{sz l c:Nat}{oa:Option Addr}{lo hi mx:Option AV}{SI vhi TQ:Option Value}{K:Nat->Nat->Prop}(ht:P.underlying t=some (.slice E))(hs:szB P E=some sz)(hlc:l<=c)
  (h:zS lo 0 fun a=>zS hi (l:Int) fun b=>NY mx b l (tJ a b l K)) (r1:Ob n σ F w lo SI) (r2:Ob n σ F w hi vhi) (r3:Ob n σ F w mx TQ) (hmx:mx≠none->hi≠none) :
  ∃i j m,K i j∧i<=j∧j<=l∧j<=m∧m<=c∧(lo=none->i=0)∧(hi=none->j=l)∧(mx=none->m=c)∧(∀k z,mx=some (.v (.int k z))->z=(m:Int))∧∀u,(Instr.sliceAt t (.slice oa l c) SI vhi TQ).run P u = .ok (.slice (wW oa i sz m) (j-i) (m-i)) u:=by
 obtain⟨x,h,c1⟩:=IU h r1
 obtain⟨y,h,c2⟩:=IU h r2
 obtain⟨h,c3⟩:=abq h r3
 obtain⟨i,j,rfl,rfl,hij,hjl,hk⟩:=h.ex
 have d1:(SI=none∧i=0)∨∃k,SI=some (.int k (i:Int)):=by
  rcases c1 with ⟨_,e,e2⟩|⟨k,a,_,e⟩
  ·exact .inl ⟨e,by omega⟩
  ·exact .inr ⟨k,e⟩
 have e1:lo=none->i=0:=by
  intro e
  rcases c1 with ⟨_,_,e2⟩|⟨k,a,e3,_⟩
  ·omega
  ·rw [e]at e3;cases e3
 have e2:hi=none->j=l:=by
  intro e
  rcases c2 with ⟨_,_,e2⟩|⟨k,a,e3,_⟩
  ·omega
  ·rw [e]at e3;cases e3
 rcases c3 with ⟨rfl,rfl⟩|⟨k3,z,rfl,rfl,hz1,hz2⟩
 ·refine⟨i,j,c,hk,hij,hjl,by omega,ay _,e1,e2,fun _=>rfl,(fun k z e=>by cases e),fun u=>xO ht hs d1 ?_ (.inl ⟨rfl,rfl⟩) hij (by omega) (ay _)⟩
  rcases c2 with ⟨_,e,e3⟩|⟨k,a,_,e⟩
  ·exact .inl ⟨e,by omega,rfl⟩
  ·exact .inr ⟨k,e⟩
 ·obtain⟨m,rfl⟩ : ∃m:Nat,z=m:=⟨z.toNat,by omega⟩
  refine⟨i,j,m,hk,hij,hjl,by omega,by omega,e1,e2,(fun e=>by cases e),(fun k z e=>by injection e with e;injection e with e;injection e with _ e;exact e.symm),fun u=>xO ht hs d1 ?_ (.inr ⟨k3,rfl⟩) hij (by omega) (by omega)⟩
  rcases c2 with ⟨e,_,_⟩|⟨k,a,_,e⟩
  ·exact absurd e (hmx (by simp))
  ·exact .inr ⟨k,e⟩
theorem abr {lo hi:Option AV}{i j:Nat}{l:List (List FV)}(h1:lo=none->i=0)(h2:hi=none->j=l.length):cut lo hi i j l=(l.take j).drop i:=by
 unfold cut
 split
 ·rw [h1 rfl,h2 rfl];simp
 ·rw [h1 rfl];simp
 ·rw [h2 rfl];simp
 ·rfl
theorem Pe {lV i j m c:Nat}{oa:Option Addr}{o n':Nat}(hl:lV<n)(ho:o+n'<=(σ lV).n)(hnil:oa=none->c=0)(hoa:0<n'->∃b,(σ lV).b=some b∧oa=some ⟨b,o*(σ lV).sz,none⟩)
  (hij:i<=j) (hjn:j<=n') (hjm:j<=m) (hmc:m<=c):mF n σ F w (.sub lV (o+i) (j-i)) (.slice (wW oa i (σ lV).sz m) (j-i) (m-i)):=by
 refine .sub lV (o+i) (j-i) _ _ hl (by omega) (by omega) (Ho hmc hnil) fun hlt=> ?_
 obtain⟨b,h1,h2⟩:=hoa (by omega)
 refine⟨b,h1, ?_⟩
 unfold wW
 rw [if_neg (by omega),h2]
 simp [add0,bK]
theorem afC (L:Loc):wW L.oa 0 L.sz L.c=L.oa:=by
 unfold wW
 split
 ·rfl
 ·cases L.oa with
  | none=>rfl
  | some a=>simp [Addr.add]
theorem IV {t:TypeId}{x:AV}{lo hi mx:Option AV}{vx:Value}{SI vhi TQ:Option Value}(h:NZ P H t x lo hi mx K)(hmx:mx≠none->hi≠none)(rx:mF n σ F w x vx)(r1:Ob n σ F w lo SI)(r2:Ob n σ F w hi vhi)(r3:Ob n σ F w mx TQ)(hH:uZ n σ F w H) :
  Ans n σ F w K S fun u q Kv=>nJ P (Instr.sliceAt t vx SI vhi TQ) u (wr q u Kv):=by
 unfold NZ at h
 split at h
 ·rename_i hu
  split at h
  ·rename_i s
   rw [rx.nV]
   obtain⟨a,h,c1⟩:=IU h r1
   obtain⟨b,h,c2⟩:=IU h r2
   obtain⟨i,j,rfl,rfl,hij,hjl,hk⟩:=h.ex
   have e3:TQ=none:=by
    rcases r3 with ⟨_,e⟩|⟨_,_,e,_⟩
    ·exact e
    ·cases e
   subst e3
   refine⟨_,_,hk, .v _,fun u q Kv _ hv=> ?_⟩
   have h1:(0:Int)<=i∧(i:Int)<=j:=⟨by omega,by omega⟩
   have h2:(0:Int)<=j∧(j:Int)<=s.size:=⟨by omega,by omega⟩
   refine oP ?_ (oH hv)
   unfold Instr.sliceAt
   rw [Sem.run_bind,lT hu]
   simp only [Result.andThen_ok]
   unfold Instr.slice
   rw [Sem.run_bind,lT hu]
   rcases c1 with ⟨_,rfl,e1⟩|⟨k1,_,_,rfl⟩
   ·have e1:i=0:=by omega
    subst e1
    rcases c2 with ⟨_,rfl,e2⟩|⟨k2,_,_,rfl⟩
    ·have e2:j=s.size:=by omega
     subst e2
     simp [Instr.sliceBounds]
    ·simp [Instr.sliceBounds,Instr.sliceBound,asIntOf,hij,hjl]
   ·rcases c2 with ⟨_,rfl,e2⟩|⟨k2,_,_,rfl⟩
    ·have e2:j=s.size:=by omega
     subst e2
     simp [Instr.sliceBounds,Instr.sliceBound,asIntOf,hij]
    ·simp [Instr.sliceBounds,Instr.sliceBound,asIntOf,hij,hjl]
  ·cases h
 ·rename_i e hu
  split at h
  ·rename_i sz hs
   split at h
   ·rename_i sz' l
    cases hb:Nat.beq sz sz' with
    | false=>rw [hb]at h;exact h.elim
    | true=>
     rw [hb,cond_true]at h
     have:=aA hb
     subst this
     cases rx with
     | lst hf=>
      obtain⟨oa,n',c,rfl,hn,hc⟩ : ∃oa m c,vx = .slice oa m c∧m=l.length∧m<=c:=by cases hf with|lst _ _ oa m c b o hn hc hnil ho hsz hex hrep=>exact⟨oa,m,c,rfl,hn,hc⟩
      subst hn
      obtain⟨i,j,m,hk,hij,hjl,hjm,hmc,e1,e2,e3,e4,hr⟩:=zT (oa:=oa) hu hs hc h r1 r2 r3 hmx
      rw [abr e1 e2]at hk
      exact⟨_,_,hk, .lst (hf.part hij hjl hjm hmc),fun u q Kv _ hv=>oP (hr u) (oH hv)⟩
   ·rename_i l
    split at h
    ·rename_i m' hm
     have hsn:(σ l).sz=sz∧(σ l).n=m'∧m'<=(σ l).c∧((σ l).oa=none->(σ l).c=0)∧(0<m'->∃b,(σ l).b=some b∧(σ l).oa=some ⟨b,0,none⟩):=by
      unfold Xu at hm
      split at hm
      ·rename_i T sz' mm hk
       cases hb:Nat.beq sz sz' with
       | false=>rw [hb]at hm;cases hm
       | true=>
        rw [hb,cond_true]at hm
        injection hm with hm
        have:=aA hb
        subst this;subst hm
        obtain⟨q1,q2,xs,hO,hR⟩:=hH _ _ hk
        refine⟨q1,q2, ?_, ?_,IL hk hH⟩
        ·rcases hO.2 with ⟨hv,h0⟩|⟨g,cap,cur,hv,_,_,hle,_⟩
         ·omega
         ·injection hv with _ _ ec;omega
        ·intro en
         rcases hO.2 with ⟨hv,h0⟩|⟨g,cap,cur,hv,_,_,hle,_⟩
         ·injection hv with _ _ ec
         ·injection hv with eo _ _;rw [en]at eo;cases eo
      ·rename_i sz' mm hk
       cases hb:Nat.beq sz sz' with
       | false=>rw [hb]at hm;cases hm
       | true=>
        rw [hb,cond_true]at hm
        injection hm with hm
        have:=aA hb
        subst this;subst hm
        obtain⟨q1,q2,hf,_⟩:=hH _ _ hk
        refine⟨q1,q2, ?_, ?_,TP hk hH⟩
        ·cases hf with|lst _ _ _ _ _ b o hn hc hnil ho hsz hex hrep=>omega
        ·cases hf with|lst _ _ _ _ _ b o hn hc hnil ho hsz hex hrep=>exact hnil
      ·cases hm
     obtain⟨q1,q2,q3,q4,q5⟩:=hsn
     cases rx with
     | qP _ oa hl hn hc=>
      rw [hn]at q2
      subst q2
      obtain⟨i,j,m,hk,hij,hjl,hjm,hmc,e1,e2,e3,e4,hr⟩:=zT (oa:=oa) (l:=0) (c:=0) hu hs (ay _) h r1 r2 r3 hmx
      have z1:i=0:=by omega
      have z2:j=0:=by omega
      have z3:m=0:=by omega
      subst z1;subst z2;subst z3
      have hv0:Value.slice (wW oa 0 sz 0) (0-0) (0-0) = .slice oa 0 0:=by unfold wW;rw [if_pos rfl]
      rw [hv0]at hr
      split at hk
      ·exact⟨_,_,hk.go, .full l 0 oa hl (aB _) (fun h=>absurd h (by omega)),fun u q Kv _ hv=>oP (hr u) (oH hv)⟩
      ·unfold IC at hk
       split at hk
       ·exact⟨_,_,hk, .qP l oa hl hn hc,fun u q Kv _ hv=>oP (hr u) (oH hv)⟩
       ·exact⟨_,_,hk, .sub l 0 _ oa 0 hl (by omega) (by omega) (fun _=>rfl) (fun h=>absurd h (by omega)),fun u q Kv _ hv=>oP (hr u) (oH hv)⟩
     | own _ hl=>
      rw [q2]
      obtain⟨i,j,m,hk,hij,hjl,hjm,hmc,e1,e2,e3,e4,hr⟩:=zT (oa:=(σ l).oa) hu hs q3 h r1 r2 r3 hmx
      have hsub:mF n σ F w (.sub l i (j-i)) (.slice (wW (σ l).oa i sz m) (j-i) (m-i)):=by
       have:=Pe (n:=n) (σ:=σ) (F:=F) (w:=w) (n':=m') (o:=0) (i:=i) (j:=j) (m:=m) (c:=(σ l).c) (oa:=(σ l).oa) hl (by omega) q4 (fun h0=>by obtain⟨b,x1,x2⟩:=q5 h0;exact⟨b,x1,by rw [x2,dY]⟩) hij hjl hjm hmc
       rw [aS,q1]at this
       exact this
      split at hk
      ·rename_i k z
       have hz:=hk.req
       have hm:=e4 _ _ rfl
       have hi:=e1 rfl
       subst hi
       have afD:m=j:=by omega
       subst afD
       refine⟨_,_,hk.go, .full l m _ hl (by omega) (fun h0=> ?_),fun u q Kv _ hv=>oP (hr u) (oH (by rw [je];exact hv))⟩
       obtain⟨b,x1,x2⟩:=q5 (by omega)
       refine⟨b,x1, ?_⟩
       unfold wW
       rw [if_neg (by omega),x2]
       simp [add0]
      ·unfold IC at hk
       split at hk
       ·have:=e1 rfl;subst this
        have:=e2 rfl;subst this
        have:=e3 rfl;subst this
        refine⟨_,_,hk, .own l hl,fun u q Kv _ hv=>oP (hr u) (oH ?_)⟩
        rw [<-q1,afC,je,je, <-q2]
        exact hv
       ·exact⟨_,_,hk,hsub,fun u q Kv _ hv=>oP (hr u) (oH hv)⟩
    ·cases h
   ·rename_i l o n'
    split at h
    ·rename_i m' hm
     have q1:(σ l).sz=sz:=by
      unfold Xu at hm
      split at hm
      ·rename_i T sz' mm hk
       cases hb:Nat.beq sz sz' with
       | false=>rw [hb]at hm;cases hm
       | true=>rw [aA hb];exact(hH _ _ hk).1
      ·rename_i sz' mm hk
       cases hb:Nat.beq sz sz' with
       | false=>rw [hb]at hm;cases hm
       | true=>rw [aA hb];exact(hH _ _ hk).1
      ·cases hm
     cases rx with
     | sub _ _ _ oa c hl hkk hc hnil ho=>
      obtain⟨i,j,m,hk,hij,hjl,hjm,hmc,e1,e2,e3,e4,hr⟩:=zT (oa:=oa) hu hs hc h r1 r2 r3 hmx
      have:=Pe (n:=n) (σ:=σ) (F:=F) (w:=w) (n':=n') (o:=o) (i:=i) (j:=j) (m:=m) (c:=c) (oa:=oa) hl hkk hnil ho hij hjl hjm hmc
      rw [q1]at this
      exact⟨_,_,hk,this,fun u q Kv _ hv=>oP (hr u) (oH hv)⟩
    ·cases h
   ·rw [rx.nV]
    obtain⟨i,j,m,hk,hij,hjl,hjm,hmc,e1,e2,e3,e4,hr⟩:=zT (oa:=none) (l:=0) (c:=0) (K:=fun _ _=>K (.v (.slice none 0 0))) hu hs (ay _) h r1 r2 r3 hmx
    have z1:i=0:=by omega
    have z2:j=0:=by omega
    have z3:m=0:=by omega
    subst z1;subst z2;subst z3
    exact⟨_,_,hk, .v _,fun u q Kv _ hv=>oP (hr u) (oH hv)⟩
   ·cases h
  ·cases h
 ·cases h
theorem DI {op:BinOp}{b:Bool}(h:yM op b K) : ∃c,(op = .eql∧c=b∨op = .neq∧c = !b)∧K (.v (.bool c)):=by
 unfold yM at h
 split at h
 ·exact⟨_, .inl ⟨rfl,rfl⟩,h⟩
 ·exact⟨_, .inr ⟨rfl,rfl⟩,h⟩
 ·cases h
theorem DJ {op:BinOp}{t:TypeId}{x y:Operand}{va vb:Value}{b c:Bool}(u:World)(hc:op = .eql∧c=b∨op = .neq∧c = !b)(hg : ∀o:BinOp,o = .eql∨o = .neq->(eqGuard o t x y va vb).run P u = .ok () u)
  (hb1:binOp .eql t va vb=(do pure (.bool (<-Op.equal t va vb)))) (hb2:binOp .neq t va vb=(do pure (.bool (!(<-Op.equal t va vb))))) (he:(Op.equal t va vb).run P u = .ok b u) :
  (do eqGuard op t x y va vb;binOp op t va vb:Sem Value).run P u = .ok (.bool c) u:=by
 rcases hc with ⟨rfl,rfl⟩|⟨rfl,rfl⟩
 ·rw [Sem.run_bind,hg _ (.inl rfl),Result.andThen_ok,hb1,Sem.run_bind,he];rfl
 ·rw [Sem.run_bind,hg _ (.inr rfl),Result.andThen_ok,hb2,Sem.run_bind,he];rfl
theorem zU (t:TypeId)(va vb:Value) : ∃d,Op.equal t va vb=Op.equalIn (d+1) t va vb:=by
 obtain⟨d,hd⟩ : ∃d,Op.maxDepth=d+1:=⟨Op.maxDepth-1,by decide⟩
 exact⟨d,by unfold Op.equal;rw [hd]⟩
theorem KG {u:World}{t e:TypeId}{oa:Option Addr}{k c:Nat}(hu:P.underlying t=some (.slice e)):(Op.equal t (.slice oa k c) (.slice none 0 0)).run P u = .ok oa.isNone u:=by
 obtain⟨d,hd⟩:=zU t (.slice oa k c) (.slice none 0 0)
 rw [hd]
 unfold Op.equalIn
 rw [Sem.run_bind,lT hu]
 cases oa<;>rfl
theorem QZ {u:World}{t e:TypeId}{oa:Option Addr}(hu:P.underlying t=some (.pointer e)):(Op.equal t (.pointer oa) (.pointer none)).run P u = .ok oa.isNone u:=by
 obtain⟨d,hd⟩:=zU t (.pointer oa) (.pointer none)
 rw [hd]
 unfold Op.equalIn
 rw [Sem.run_bind,lT hu]
 cases oa<;>rfl
theorem Q7 {u:World}{t k e:TypeId}{oa:Option Nat}(hu:P.underlying t=some (.map k e)):(Op.equal t (.map oa) (.map none)).run P u = .ok oa.isNone u:=by
 obtain⟨d,hd⟩:=zU t (.map oa) (.map none)
 rw [hd]
 unfold Op.equalIn
 rw [Sem.run_bind,lT hu]
 cases oa<;>rfl
theorem TT {a:AV}{va:Value}{k:Nat}(h:abk H a=some k)(ra:mF n σ F w a va)(hH:uZ n σ F w H) : ∃oa m c,va = .slice oa m c∧(0<k->oa.isNone=false):=by
 unfold abk at h
 split at h
 ·injection h with h
  subst h
  cases ra with
  | lst hf=>cases hf with
   | lst _ _ oa m c b o hn hc hnil ho hsz hex hrep=>exact⟨oa,m,c,rfl,fun h0=>by rw [(ho (by omega)).1];rfl⟩
 ·split at h
  ·rename_i l T sz m hk
   injection h with h
   subst h
   cases ra with
   | own _ hl=>exact⟨_,_,_,rfl,fun h0=>by obtain⟨g,_,e⟩:=IL hk hH h0;rw [e];rfl⟩
   | qP _ oa hl hn hc=>exact⟨_,_,_,rfl,fun h0=>by have:=(yh hk hH).2;omega⟩
  ·rename_i l sz m hk
   injection h with h
   subst h
   cases ra with
   | own _ hl=>exact⟨_,_,_,rfl,fun h0=>by obtain⟨g,_,e⟩:=TP hk hH h0;rw [e];rfl⟩
   | qP _ oa hl hn hc=>exact⟨_,_,_,rfl,fun h0=>by have:=(BG hk hH).2;omega⟩
  ·cases h
 ·injection h with h
  subst h
  cases ra with
  | sub _ _ _ oa c hl hk hc hnil ho=>exact⟨_,_,_,rfl,fun h0=>by obtain⟨b,_,e⟩:=ho h0;rw [e];rfl⟩
 ·cases h
theorem DK {t:TypeId}{x y:Operand}{va vb:Value}(u:World)(h:(∀l,va≠ .agg l)∧va≠ .nilIface)(o:BinOp)(_:o = .eql∨o = .neq):(eqGuard o t x y va vb).run P u = .ok () u:=by
 unfold eqGuard
 cases o<;>cases va<;>first|rfl|exact(h.1 _ rfl).elim|exact(h.2 rfl).elim|(cases vb<;>rfl)
theorem Oc {op:BinOp}{t:TypeId}{x y:Operand}{a b:AV}{va vb:Value}(h:abl P H op t a b K)(ra:mF n σ F w a va)(rb:mF n σ F w b vb)(hH:uZ n σ F w H) :
  Ans n σ F w K S fun u q Kv=>Ba P q op t x y va vb u Kv:=by
 unfold abl at h
 split at h
 ·rename_i e hu
  rw [rb.nV]
  have fin : ∀ {oa:Option Addr} {m c:Nat},va = .slice oa m c->yM op oa.isNone K->Ans n σ F w K S fun u q Kv=>Ba P q op t x y va (.slice none 0 0) u Kv:=by
   intro oa m c ev hk
   subst ev
   obtain⟨cc,hc,hk⟩:=DI hk
   exact⟨_,_,hk, .v _,fun u q Kv _ hv=>oP (DJ u hc (DK u ⟨(fun l e=>by cases e),(fun e=>by cases e)⟩) rfl rfl (KG hu)) (oH hv)⟩
  split at h
  ·exact fin ra.nV h
  ·split at h
   ·rename_i k hk
    obtain⟨oa,m,c,ev,hz⟩:=TT hk ra hH
    exact fin ev (h.ex _ hz)
   ·cases h
 ·rename_i e hu
  rw [rb.nV]
  have fin : ∀ {oa:Option Addr},va = .pointer oa->yM op oa.isNone K->Ans n σ F w K S fun u q Kv=>Ba P q op t x y va (.pointer none) u Kv:=by
   intro oa ev hk
   subst ev
   obtain⟨cc,hc,hk⟩:=DI hk
   exact⟨_,_,hk, .v _,fun u q Kv _ hv=>oP (DJ u hc (DK u ⟨(fun l e=>by cases e),(fun e=>by cases e)⟩) rfl rfl (QZ hu)) (oH hv)⟩
  split at h
  ·exact fin ra.nV h
  ·cases hp:adV a with
   | false=>rw [hp]at h;exact h.elim
   | true=>
    rw [hp,cond_true]at h
    have : ∃p,va = .pointer (some p):=by
     cases ra with
     | ptr l o b hl hb=>exact⟨_,rfl⟩
     | ep l i o b hl hb=>exact⟨_,rfl⟩
     | fp hf=>cases hf;exact⟨_,rfl⟩
     | _=>cases hp
    obtain⟨p,ev⟩:=this
    exact fin ev h
 ·rename_i e1 e2 hu
  rw [rb.nV]
  have fin : ∀ {oa:Option Nat},va = .map oa->yM op oa.isNone K->Ans n σ F w K S fun u q Kv=>Ba P q op t x y va (.map none) u Kv:=by
   intro oa ev hk
   subst ev
   obtain⟨cc,hc,hk⟩:=DI hk
   exact⟨_,_,hk, .v _,fun u q Kv _ hv=>oP (DJ u hc (DK u ⟨(fun l e=>by cases e),(fun e=>by cases e)⟩) rfl rfl (Q7 hu)) (oH hv)⟩
  split at h
  ·exact fin ra.nV h
  ·cases ra with|mp _ b hl hb=>exact fin rfl h
  ·cases ra with|fm hf=>cases hf with|fm _ b _ _=>exact fin rfl h
  ·cases h
 ·rename_i e1 e2 e3 hu
  rw [rb.nV]
  have fin : ∀ {bb:Bool},((∀l,va≠ .agg l)∧va≠ .nilIface)->binOp .eql t va .nilFunc=(do pure (.bool (<-Op.equal t va .nilFunc)))->binOp .neq t va .nilFunc=(do pure (.bool (!(<-Op.equal t va .nilFunc))))->(∀u,(Op.equal t va .nilFunc).run P u = .ok bb u)->(∀u q Kv,nJ P (do eqGuard op t x y va .nilFunc;binOp op t va .nilFunc) u (wr q u Kv)->Ba P q op t x y va .nilFunc u Kv)->yM op bb K->Ans n σ F w K S fun u q Kv=>Ba P q op t x y va .nilFunc u Kv:=by
   intro bb h1 h2 h3 h4 h5 hk
   obtain⟨cc,hc,hk⟩:=DI hk
   exact⟨_,_,hk, .v _,fun u q Kv _ hv=>h5 u q Kv (oP (DJ u hc (DK u h1) h2 h3 (h4 u)) (oH hv))⟩
  have aaC : ∀(u:World) (f:Fn) (p r:Array Value),(Op.equal t (.func f p r) .nilFunc).run P u = .ok false u:=fun u f p r=>by
   obtain⟨d,hd⟩:=zU t (.func f p r) .nilFunc
   rw [hd]
   unfold Op.equalIn
   rw [Sem.run_bind,lT hu]
   rfl
  split at h
  ·cases ra with
   | fn f xs ys us vs hx hy rx ry=>exact fin ⟨(fun l e=>by cases e),(fun e=>by cases e)⟩ rfl rfl (fun u=>aaC u _ _ _) (fun u q Kv h=>h) h
  ·have ev:=ra.nV
   subst ev
   exact fin ⟨(fun l e=>by cases e),(fun e=>by cases e)⟩ rfl rfl (fun u=>aaC u _ _ _) (fun u q Kv h=>h) h
  ·have ev:=ra.nV
   subst ev
   refine fin ⟨(fun l e=>by cases e),(fun e=>by cases e)⟩ rfl rfl (fun u=> ?_) (fun u q Kv h=>h) h
   obtain⟨d,hd⟩:=zU t .nilFunc .nilFunc
   rw [hd]
   unfold Op.equalIn
   rw [Sem.run_bind,lT hu]
   rfl
  ·cases h
 ·cases h
theorem Oe {op:BinOp}{t:TypeId}{x y:Operand}{a b:AV}{va vb:Value}(h:abm P H op t a b K)(ra:mF n σ F w a va)(rb:mF n σ F w b vb)(hH:uZ n σ F w H) :
  Ans n σ F w K S fun u q Kv=>Ba P q op t x y va vb u Kv:=by
 unfold abm at h
 split at h
 ·rename_i k m k' n'
  rw [ra.nV,rb.nV]
  split at h
  ·obtain⟨a,v,h1,h2,h3⟩:=zl (n:=n) (σ:=σ) (F:=F) (w:=w) (S:=S) h;exact⟨a,v,h1,h2,h3⟩
  ·obtain⟨a,v,h1,h2,h3⟩:=zl (n:=n) (σ:=σ) (F:=F) (w:=w) (S:=S) h;exact⟨a,v,h1,h2,h3⟩
  ·rename_i op' h1 h2
   cases hk:decide (k=k')with
   | false=>rw [hk]at h;exact h.elim
   | true=>
    rw [hk,cond_true]at h
    obtain⟨a,v,g1,g2,g3⟩:=zl (n:=n) (σ:=σ) (F:=F) (w:=w) (S:=S) h
    refine⟨a,v,g1,g2,fun u q Kv hs hv=> ?_⟩
    have:=g3 u q Kv hs hv
    cases op<;>first|exact(h1 rfl).elim|exact(h2 rfl).elim|(simp only [Ba,hk,cond_true];exact this)
 ·rw [ra.nV,rb.nV]
  obtain⟨a,v,g1,g2,g3⟩:=N9 (n:=n) (σ:=σ) (F:=F) (w:=w) (S:=S) h
  exact⟨a,v,g1,g2,g3⟩
 ·rename_i m n'
  rw [ra.nV,rb.nV]
  split at h
  ·split at h
   ·rename_i hu
    exact⟨_,_,h, .v _,fun u q Kv _ hv=>by simp only [Ba,hu];exact hv⟩
   ·cases h
  ·split at h
   ·rename_i hu
    exact⟨_,_,h, .v _,fun u q Kv _ hv=>by simp only [Ba,hu];exact hv⟩
   ·cases h
  ·cases h
 ·rename_i xs ys
  obtain⟨us',rfl,rx⟩:=ng.Ew ra
  obtain⟨vs',rfl,ry⟩:=ng.Ew rb
  split at h
  ·rename_i us vs hus hvs
   have e1:=EG hus rx
   have e2:=EG hvs ry
   subst e1;subst e2
   split at h
   ·rename_i b hb
    split at h
    ·exact⟨_,_,h.go, .v _,fun u q Kv _ hv=>abf h.g h.p h.u hb (oH hv)⟩
    ·exact⟨_,_,h.go, .v _,fun u q Kv _ hv=>abe h.g h.p h.u hb (oH hv)⟩
    ·cases h
   ·cases h
  ·cases h
 ·exact Oc h ra rb hH
theorem IW {b:Builtin}{ts:List TypeId}{ty:TypeId}{as:List AV}{vs:List Value}(h:N7 P H b ts as K)(r:ng n σ F w as vs)(hH:uZ n σ F w H):Ans n σ F w K S fun u q Kv=>Bg P q b ts ty vs u Kv:=by
 unfold N7 at h
 split at h
 ·rename_i t a
  obtain⟨v,rfl,ra⟩ : ∃v,vs = [v]∧mF n σ F w a v:=by
   match vs,r with
   | [v],r=>exact⟨v,rfl,r.1⟩
  obtain⟨a',v',h1,h2,h3⟩:=Oa (S:=S) (ty:=ty) h ra hH
  exact⟨a',v',h1,h2,h3⟩
 all_goals first
  | exact h.elim
  | (
   obtain⟨v1,v2,rfl,r1,r2⟩ : ∃v1 v2,vs = [v1,v2]∧mF n σ F w _ v1∧mF n σ F w _ v2:=by
    match vs,r with
    | [v1,v2],r=>exact⟨v1,v2,rfl,r.1,r.2.1⟩
   have e1:=r1.nV
   have e2:=r2.nV
   subst e1;subst e2
   refine⟨_,_,h, .v _,fun u q Kv _ hv=> ?_⟩
   exact hv)
theorem Og (hr : ∀s,mF n σ F w (nK s) (ρ s))(x:Option Operand):Ob n σ F w (x.map (oI nK)) (x.map (pU ρ)):=by
 cases x with
 | none=>exact .inl ⟨rfl,rfl⟩
 | some x=>exact .inr ⟨_,_,rfl,rfl,mV hr x⟩
theorem abt (x:FV)(v:Value)(h:oL F w x v):mF n σ F w x.val v:=by
 cases x with
 | v y=>cases h;exact sW _
 | _=>exact h.up
theorem Gw {Hr:lF}{t:TypeId}{m k:AV}{ok:Bool}{vm vk:Value}(h:IE P Hr t m k ok K)(rm:mF n σ F w m vm)(rk:mF n σ F w k vk)(Xy:uZ n σ F w Hr)(hS : ∀u,S u->tN σ F Hr w u) :
  Ans n σ F w K S fun u q Kv=>nJ P (Instr.lookup t vm vk ok) u (wr q u Kv):=by
 unfold IE at h
 split at h
 ·rename_i l s
  rw [rk.nV]
  cases rm with
  | mp _ b hl hb=>
   split at h
   ·rename_i kt et M hu hk
    split at h
    ·rename_i z hkt hz
     obtain⟨g,hg,hM⟩:=Xy _ _ hk
     rw [hb]at hg
     injection hg with hg
     subst hg
     cases ok with
     | true=>
      refine⟨_, .tuple #[(M s).getD z, .bool (M s).isSome],h.ex, ?_,fun u q Kv hu' hv=>Eu hu hkt hz (hM.heap ((hS u hu').h l _ b hk rfl (.inl hb))) (oH hv)⟩
      exact ng.mW (as:= [Nl ((M s).getD z), .v (.bool (M s).isSome)]) (vs:= [(M s).getD z, .bool (M s).isSome]) ⟨sW _, .v _,trivial⟩
     | false=>
      exact⟨_,_,h.ex,sW _,fun u q Kv hu' hv=>Bv hu hkt hz (hM.heap ((hS u hu').h l _ b hk rfl (.inl hb))) (oH hv)⟩
    ·cases h
   ·rename_i kt et M hu hk
    split at h
    ·rename_i z hkt hz
     obtain⟨g,hg,hf⟩:=Xy _ _ hk
     rw [hb]at hg
     injection hg with hg
     subst hg
     cases hf with
     | fm _ _ hF hM=>
      cases ok with
      | true=>
       refine⟨_, .tuple #[(M s).getD z, .bool (M s).isSome],h.ex, ?_,fun u q Kv hu' hv=>Eu hu hkt hz (hM.heap ((hS u hu').f b hF)) (oH hv)⟩
       exact ng.mW (as:= [Nl ((M s).getD z), .v (.bool (M s).isSome)]) (vs:= [(M s).getD z, .bool (M s).isSome]) ⟨sW _, .v _,trivial⟩
      | false=>
       exact⟨_,_,h.ex,sW _,fun u q Kv hu' hv=>Bv hu hkt hz (hM.heap ((hS u hu').f b hF)) (oH hv)⟩
    ·cases h
   ·cases h
 ·rename_i M s
  rw [rk.nV]
  split at h
  ·rename_i kt et hu
   split at h
   ·rename_i z hkt hz
    cases rm with
    | fm hf=>cases hf with
     | fm _ b hF hM=>
      cases ok with
      | true=>
       refine⟨_, .tuple #[(M s).getD z, .bool (M s).isSome],h.ex, ?_,fun u q Kv hu' hv=>Eu hu hkt hz (hM.heap ((hS u hu').f b hF)) (oH hv)⟩
       exact ng.mW (as:= [Nl ((M s).getD z), .v (.bool (M s).isSome)]) (vs:= [(M s).getD z, .bool (M s).isSome]) ⟨sW _, .v _,trivial⟩
      | false=>
       exact⟨_,_,h.ex,sW _,fun u q Kv hu' hv=>Bv hu hkt hz (hM.heap ((hS u hu').f b hF)) (oH hv)⟩
   ·cases h
  ·cases h
 ·rename_i l i
  rw [rk.nV]
  cases rm with
  | mp _ b hl hb=>
   split at h
   ·rename_i kt et M hu hk
    split at h
    ·rename_i z hkt hz
     obtain⟨g,hg,V,hM,hV⟩:=Xy _ _ hk
     rw [hb]at hg
     injection hg with hg
     subst hg
     have hVi:=hV i
     have key : ∃a b,(match ok with|true=>K (.mW [a, .v (.bool b)])|false=>K a)∧mF n σ F w a ((V i).getD z)∧b=(V i).isSome:=by
      cases hMi:M i with
      | none=>
       rw [hMi]at hVi
       cases hVv:V i with
       | none=>exact⟨_,_,h.no hMi,sW _,rfl⟩
       | some v=>rw [hVv]at hVi;exact hVi.elim
      | some x=>
       rw [hMi]at hVi
       cases hVv:V i with
       | none=>rw [hVv]at hVi;exact hVi.elim
       | some v=>rw [hVv]at hVi;exact⟨_,_,h.yes x hMi,abt x v hVi,rfl⟩
     obtain⟨a,bb,hK,ha,rfl⟩:=key
     cases ok with
     | true=>
      refine⟨_, .tuple #[(V i).getD z, .bool (V i).isSome],hK, ?_,fun u q Kv hu' hv=>TF hu hkt hz (hM.heap ((hS u hu').h l _ b hk rfl (.inl hb))) (oH hv)⟩
      exact ng.mW (as:= [a, .v (.bool (V i).isSome)]) (vs:= [(V i).getD z, .bool (V i).isSome]) ⟨ha, .v _,trivial⟩
     | false=>
      exact⟨_,_,hK,ha,fun u q Kv hu' hv=>QO hu hkt hz (hM.heap ((hS u hu').h l _ b hk rfl (.inl hb))) (oH hv)⟩
    ·cases h
   ·cases h
 ·cases h
def vV (o:Oper):Bool:=match o.op with | .slice _ _ _ hi mx=> !mx.isSome||hi.isSome|_=>true
theorem EI {Hr:lF}{o:Oper}(h:aQ P Hr H o nK K)(hi:vV o=true)(Xy:uZ n σ F w Hr)(hH:uZ n σ F w H)(hr : ∀s,mF n σ F w (nK s) (ρ s)):Ans n σ F w K (tN σ F Hr w) fun u q Kv=>Gp P q o ρ u Kv:=by
 unfold aQ at h
 unfold Gp
 cases ho:o.op<;>simp only [ho]at h ⊢ <;>try exact h.elim
 case move x=>rw [qC]at h;exact⟨_,_,h,mV hr x,fun u q Kv _ hv=>by simp only [force_eq];exact hv⟩
 case assign x=>rw [qC]at h;exact⟨_,_,h,mV hr x,fun u q Kv _ hv=>by simp only [force_eq];exact hv⟩
 case pick c a b=>
  have rc:=mV hr c
  have ra:=mV hr a
  have rb:=mV hr b
  split at h
  ·rename_i t hc
   rw [hc]at rc
   rw [rc.nV]
   split at h
   ·rename_i x y ha hb
    rw [ha]at ra;rw [hb]at rb
    rw [ra.nV,rb.nV]
    exact⟨_,_,h, .v _,fun u q Kv _ hv=>hv⟩
   ·cases t with
    | true=>
     refine⟨_,_,h,ra,fun u q Kv _ hv=> ?_⟩
     dsimp only
     split
     ·rename_i x y e1 e2;rw [e1]at hv;exact hv
     ·exact hv
    | false=>
     refine⟨_,_,h,rb,fun u q Kv _ hv=> ?_⟩
     dsimp only
     split
     ·rename_i x y e1 e2;rw [e2]at hv;exact hv
     ·exact hv
  ·cases h
 case build t parts=>
  rw [rG]at h
  obtain⟨a,v,h1,h2,h3⟩:=IK (S:=tN σ F Hr w) h (G9 hr parts.toList)
  exact⟨a,v,h1,h2,fun u q Kv hu hv=>by simp only [nO];exact h3 u q Kv hu hv⟩
 case load t a=>
  obtain⟨p,hp,a',v,h1,h2,h3⟩:=CU h (mV hr a) Xy
  rw [hp]
  exact⟨a',v,h1,h2,h3⟩
 case nilCheck x=>
  have rx:=mV hr x
  split at h
  ·rename_i l o' hx
   rw [hx]at rx
   have : ∃p,pU ρ x = .pointer (some p):=by generalize pU ρ x=z at rx;cases rx;exact⟨_,rfl⟩
   obtain⟨p,hp⟩:=this
   rw [hp]at rx ⊢
   exact⟨_,_,h,rx,fun u q Kv _ hv=>hv⟩
  ·rename_i l i o' hx
   rw [hx]at rx
   have : ∃p,pU ρ x = .pointer (some p):=by generalize pU ρ x=z at rx;cases rx;exact⟨_,rfl⟩
   obtain⟨p,hp⟩:=this
   rw [hp]at rx ⊢
   exact⟨_,_,h,rx,fun u q Kv _ hv=>hv⟩
  ·rename_i cs o' hx
   rw [hx]at rx
   have : ∃p,pU ρ x = .pointer (some p):=by generalize pU ρ x=z at rx;cases rx with|fp hf=>cases hf;exact⟨_,rfl⟩
   obtain⟨p,hp⟩:=this
   rw [hp]at rx ⊢
   exact⟨_,_,h,rx,fun u q Kv _ hv=>hv⟩
  ·cases h
 case binOp op t x y yt=>
  rw [qC,qC]at h
  exact Oe h (mV hr x) (mV hr y) hH
 case unOp op t x=>
  rw [qC]at h
  exact QX h (mV hr x)
 case convert src dst x=>
  rw [qC]at h
  exact KF h (mV hr x) Xy (fun u hu=>hu)
 case lookup t m k ok=>
  rw [qC,qC]at h
  obtain⟨a,v,h1,h2,h3⟩:=Gw (S:=tN σ F Hr w) h (mV hr m) (mV hr k) Xy (fun u hu=>hu)
  exact⟨a,v,h1,h2,fun u q Kv hu hv=>by simp only [force_eq];exact h3 u q Kv hu hv⟩
 case makeFunc fn first captured=>
  rw [rG,rG]at h
  have r1:=uS hr first.toList
  have r2:=uS hr captured.toList
  exact⟨_,_,h, .fn fn _ _ _ _ r1.len r2.len r1.at r2.at,fun u q Kv _ hv=>by simp only [vF,nO];exact hv⟩
 case slice t x lo hi' mx=>
  simp only [qC,abh]at h
  have hm:mx.map (oI nK)≠none->hi'.map (oI nK)≠none:=by
   intro e e2
   simp only [vV,ho]at hi
   cases mx with
   | none=>exact e rfl
   | some m=>cases hi' with
    | none=>simp at hi
    | some y=>cases e2
  obtain⟨a,v,h1,h2,h3⟩:=IV (S:=tN σ F Hr w) h hm (mV hr x) (Og hr lo) (Og hr hi') (Og hr mx) hH
  exact⟨a,v,h1,h2,fun u q Kv hu hv=>by simp only [force_eq,A8];exact h3 u q Kv hu hv⟩
 case fieldAddr t x f=>
  have rx:=mV hr x
  unfold Ey at h
  split at h
  ·rename_i d l o' hd hx
   rw [hx]at rx
   generalize pU ρ x=z at rx ⊢
   cases rx with
   | ptr _ _ b hl hb=>exact⟨_,_,h, .ptr _ _ b hl hb,fun u q Kv _ hv=>zn hd _ u Kv (by rw [add0];exact hv)⟩
  ·rename_i d l i o' hd hx
   rw [hx]at rx
   generalize pU ρ x=z at rx ⊢
   cases rx with
   | ep _ _ _ b hl hb=>exact⟨_,_,h, .ep _ _ _ b hl hb,fun u q Kv _ hv=>zn hd _ u Kv (by rw [add0,fG];exact hv)⟩
  ·rename_i d cs o' hd hx
   rw [hx]at rx
   generalize pU ρ x=z at rx ⊢
   cases rx with
   | fp hf=>cases hf with
    | fp _ _ b off hb hex hrep=>exact⟨_,_,h, .fp (.fp _ _ b off hb hex hrep),fun u q Kv _ hv=>zn hd _ u Kv (by rw [add0,fG];exact hv)⟩
  ·cases h
 case field t x f=>
  have rx:=mV hr x
  split at h
  ·rename_i cs hx
   rw [hx]at rx
   obtain⟨us,e,r⟩:=ng.Ew rx
   rw [e]
   exact IJ h r
  ·cases h
 case indexAddr t x i=>
  rw [qC,qC]at h
  obtain⟨a,v,h1,h2,h3⟩:=BH (S:=tN σ F Hr w) h (mV hr x) (mV hr i) hH
  exact⟨a,v,h1,h2,fun u q Kv hu hv=>by simp only [force_eq];exact h3 u q Kv hu hv⟩
 case index t x i=>
  rw [qC,qC]at h
  obtain⟨a,v,h1,h2,h3⟩:=IQ (S:=tN σ F Hr w) h (mV hr x) (mV hr i)
  exact⟨a,v,h1,h2,fun u q Kv hu hv=>by simp only [force_eq];exact h3 u q Kv hu hv⟩
 case extract t i=>
  have rt:=mV hr t
  split at h
  ·rename_i vs hx
   rw [hx]at rt
   split at h
   ·rename_i a ha
    rw [qC]at h
    generalize pU ρ t=z at rt ⊢
    cases rt with
    | mW _ us hl rx=>
     have r:ng n σ F w vs us:= .of hl rx
     obtain⟨v,h1,h2⟩:=r.Xw ha
     exact⟨_,v,h,h2,fun u q Kv _ hv=>by simp only [h1];exact hv⟩
   ·cases h
  ·cases h
 case call c=>
  obtain⟨callee,args,ats⟩:=c
  cases callee with
  | builtin b=>
   simp only at h
   rw [rG]at h
   obtain⟨a,v,h1,h2,h3⟩:=IW (S:=tN σ F Hr w) (ty:=o.type) h (uS hr args.toList) hH
   exact⟨a,v,h1,h2,fun u q Kv hu hv=>by simp only [Eh,vF,nO];exact h3 u q Kv hu hv⟩
  | _=>exact h.elim
end
def wX (σ:Nat->Loc)(n:Nat)(L:Loc):Nat->Loc:=fun k=>if k=n then L else σ k
theorem nH (σ:Nat->Loc)(n:Nat)(L:Loc):wX σ n L n=L:=if_pos rfl
theorem oz {σ:Nat->Loc}{n k:Nat}{L:Loc}(h:k≠n):wX σ n L k=σ k:=if_neg h
theorem l9 {H:lF}{n k:Nat}{b:oN} : look ((n,b)::H) k=if n=k then some b else look H k:=by
 simp only [look]
 by_cases h:n=k
 ·subst h;rw [iC,cond_true,if_pos rfl]
 ·have:Nat.beq n k=false:=by
   cases hb:Nat.beq n k with
   | false=>rfl
   | true=>exact absurd (aA hb) h
  rw [this,cond_false,if_neg h]
theorem nU {H:lF}{lV k:Nat}{b b':oN}(h:look H lV=some b):look (setH H lV b') k=if k=lV then some b' else look H k:=by
 induction H with
 | nil=>cases h
 | cons p r ih=>
  obtain⟨x,bx⟩:=p
  rw [l9]at h
  by_cases hx:x=lV
  ·subst hx
   have e:setH ((x,bx)::r) x b'=(x,b')::r:=by simp only [setH,iC,cond_true]
   rw [e,l9,l9]
   by_cases hk:x=k
   ·rw [if_pos hk,if_pos hk.symm]
   ·rw [if_neg hk,if_neg (fun e=>hk e.symm),if_neg hk]
  ·rw [if_neg hx]at h
   have hb:Nat.beq x lV=false:=by
    cases hb:Nat.beq x lV with
    | false=>rfl
    | true=>exact absurd (aA hb) hx
   have e:setH ((x,bx)::r) lV b'=(x,bx)::setH r lV b':=by simp only [setH,hb,cond_false]
   rw [e,l9,l9,ih h]
   by_cases hk:x=k
   ·subst hk;rw [if_pos rfl,if_neg hx,if_pos rfl]
   ·rw [if_neg hk,if_neg hk]
theorem pO {H:lF}{lV k:Nat}{b:oN}(h:look (Gv H lV) k=some b):k≠lV∧look H k=some b:=by
 induction H with
 | nil=>cases h
 | cons p r ih=>
  obtain⟨x,bx⟩:=p
  by_cases hx:x=lV
  ·subst hx
   have e:Gv ((x,bx)::r) x=Gv r x:=by simp only [Gv,iC,cond_true]
   rw [e]at h
   obtain⟨h1,h2⟩:=ih h
   refine⟨h1, ?_⟩
   rw [l9,if_neg (fun e=>h1 e.symm)]
   exact h2
  ·have hb:Nat.beq x lV=false:=by
    cases hb:Nat.beq x lV with
    | false=>rfl
    | true=>exact absurd (aA hb) hx
   have e:Gv ((x,bx)::r) lV=(x,bx)::Gv r lV:=by simp only [Gv,hb,cond_false]
   rw [e,l9]at h
   by_cases hk:x=k
   ·subst hk
    rw [if_pos rfl]at h
    exact⟨hx,by rw [l9,if_pos rfl];exact h⟩
   ·rw [if_neg hk]at h
    obtain⟨h1,h2⟩:=ih h
    exact⟨h1,by rw [l9,if_neg hk];exact h2⟩
def KH (G:Glob)(lJ:World)(lN lQ:Nat->Prop)(n:Nat)(σ:Nat->Loc)(F:Nat->Prop)(w:World)(K:AV->Nat->lF->Prop)(v:Value)(w':World):Prop:=
 ∃a n' σ' F' H',K a n' H'∧St G lJ lN lQ n' σ' F' H' w'∧Ext n σ F w n' σ' F' w'∧mF n' σ' F' w' a v
section
variable {P:Program}{G:Glob}{lJ:World}{lN lQ:Nat->Prop}{n:Nat}{σ:Nat->Loc}{F:Nat->Prop}{H:lF}{w:World}
theorem St.hrep (st:St G lJ lN lQ n σ F H w):uZ n σ F w H:=st.blk
theorem St.more (st:St G lJ lN lQ n σ F H w){w':World}(hB:yT (fun _=>False) w w')(X:Nat->Prop)(hX : ∀g,X g->w.heap.size<=g∧g<w'.heap.size) :
  St G lJ lN lQ n σ (fun b=>F b∨X b) H w'∧Ext n σ F w n σ (fun b=>F b∨X b) w':=by
 have hE:Ext n σ F w n σ (fun b=>F b∨X b) w':=⟨ay _,fun _ _=>rfl,fun b hb=>⟨.inl hb,hB.block b (st.oC b hb).1 id⟩,hB.size⟩
 have hnb:=st.glob.1
 have hw0:=st.qg.size
 have bk : ∀ {lV b g},look H lV=some b->b.own=true->qo w' (σ lV) b g->qo w (σ lV) b g:=fun h hm hg=>hg.back fun k hk=>hB.block k (st.mu _ _ k h hm (.inl hk)).2.2.1 id
 refine⟨⟨Glob.qg st.glob hB.size fun b hb=>hB.block b (by omega) id,st.qg.trans hB (fun _ h=>h.elim),fun b hb=> ?_,st.lab,fun lV b g' h hm hg=> ?_,fun lV zh b b' g' h h' hm hm' hg hg'=>st.inj lV zh b b' g' h h' hm hm' (bk h hm hg) (bk h' hm' hg'),fun lV b h=>(st.blk lV b h).mono hE fun hk k hx=>hB.block k (st.mu _ _ k h hk hx).2.2.1 id⟩,hE⟩
 ·rcases hb with hb|hb
  ·exact⟨aV (st.oC b hb).1 hB.size,(st.oC b hb).2⟩
  ·have:=hX b hb
   exact⟨this.2, .inr (.inl (by omega))⟩
 ·have hg:=bk h hm hg
  obtain⟨q1,q2,q3,q4⟩:=st.mu lV b g' h hm hg
  exact⟨fun hf=>hf.elim q1 fun e=>by have:=(hX g' e).1;omega,q2,aV q3 hB.size,q4⟩
theorem St.new (st:St G lJ lN lQ n σ F H w){w':World}(hB:yT (fun _=>False) w w')(L:Loc)(hL : ∀g,L.b=some g->w.heap.size<=g∧g<w'.heap.size)(blk:oN)(hblk:uo (n+1) (wX σ n L) F w' L blk)(hfl:blk.flat=true:=by rfl) :
  St G lJ lN lQ (n+1) (wX σ n L) F ((n,blk)::H) w'∧Ext n σ F w (n+1) (wX σ n L) F w':=by
 have hE:Ext n σ F w (n+1) (wX σ n L) F w':=⟨by omega,fun k hk=>oz (by omega),fun b hb=>⟨hb,hB.block b (st.oC b hb).1 id⟩,hB.size⟩
 have hnb:=st.glob.1
 have hw0:=st.qg.size
 have bk : ∀ {lV b g},look H lV=some b->b.own=true->qo w' (σ lV) b g->qo w (σ lV) b g:=fun h hm hg=>hg.back fun k hk=>hB.block k (st.mu _ _ k h hm (.inl hk)).2.2.1 id
 refine⟨⟨Glob.qg st.glob hB.size fun b hb=>hB.block b (by omega) id,st.qg.trans hB (fun _ h=>h.elim),fun b hb=>⟨aV (st.oC b hb).1 hB.size,(st.oC b hb).2⟩,fun lV b h=> ?_,fun lV b g h hm hg=> ?_,fun lV zh b b' g h h' hm hm' hg hg'=> ?_,fun lV b h=> ?_⟩,hE⟩
 ·rw [l9]at h
  split at h
  ·omega
  ·have:=st.lab lV b h;omega
 ·rw [l9]at h
  split at h
  ·rename_i e
   subst e
   injection h with h
   subst h
   rw [nH]at hg
   obtain⟨h1,h2⟩:=hL g (hg.flat hfl)
   exact⟨fun hf=>by have:=(st.oC g hf).1;omega,by omega,h2, .inr (by omega)⟩
  ·have hl:=st.lab lV b h
   rw [oz (by omega)]at hg
   have hg:=bk h hm hg
   obtain⟨h1,h2,h3,h4⟩:=st.mu lV b g h hm hg
   exact⟨h1,h2,aV h3 hB.size,h4⟩
 ·rw [l9]at h h'
  split at h
  ·rename_i e
   split at h'
   ·rename_i e';omega
   ·have hl:=st.lab zh b' h'
    injection h with h
    subst h
    rw [<-e,nH]at hg
    rw [oz (by omega)]at hg'
    have:=(hL g (hg.flat hfl)).1
    have:=(st.mu zh b' g h' hm' (bk h' hm' hg')).2.2.1
    omega
  ·have hl:=st.lab lV b h
   rw [oz (by omega)]at hg
   split at h'
   ·rename_i e'
    injection h' with h'
    subst h'
    rw [<-e',nH]at hg'
    have:=(hL g (hg'.flat hfl)).1
    have:=(st.mu lV b g h hm (bk h hm hg)).2.2.1
    omega
   ·have hl':=st.lab zh b' h'
    rw [oz (by omega)]at hg'
    exact st.inj lV zh b b' g h h' hm hm' (bk h hm hg) (bk h' hm' hg')
 ·rw [l9]at h
  split at h
  ·rename_i e
   subst e
   injection h with h
   subst h
   rw [nH]
   exact hblk
  ·have hl:=st.lab lV b h
   rw [oz (by omega)]
   exact(st.blk lV b h).mono hE fun hm g hg=>hB.block g (st.mu lV b g h hm hg).2.2.1 id
theorem St.write (st:St G lJ lN lQ n σ F H w){w':World}{lV g:Nat}{blk:oN}(hk:look H lV=some blk)(hm:blk.own=true)(hg:(σ lV).b=some g)(hO:Only g w w')(blk':oN)(hblk:uo n σ F w (σ lV) blk->Ext n σ F w n σ F w'->uo n σ F w' (σ lV) blk')(hfl : ∀g',qo w' (σ lV) blk' g'->qo w (σ lV) blk g':=by exact fun _ h=> .inl (h.flat rfl)) :
  St G lJ lN lQ n σ F (setH H lV blk') w'∧Ext n σ F w n σ F w':=by
 obtain⟨m1,m2,m3,m4⟩:=st.mu lV blk g hk hm (.inl hg)
 have bk : ∀ {k b g'},k≠lV->look H k=some b->b.own=true->qo w' (σ k) b g'->qo w (σ k) b g':=fun hne h hm' hg'=>hg'.back fun x hx=>hO.block x fun e=>by
  subst e
  exact hne (st.inj _ lV _ blk x h hk hm' hm (.inl hx) (.inl hg))
 have hE:Ext n σ F w n σ F w':=⟨ay _,fun _ _=>rfl,fun b hb=>⟨hb,hO.block b fun e=>m1 (e▸hb)⟩,jq hO.size.symm⟩
 refine⟨⟨Glob.qg st.glob (jq hO.size.symm) fun b hb=>hO.block b (by omega),st.qg.trans (yT.abg hO) (fun b hb=>by subst hb;exact m4),fun b hb=>⟨by rw [hO.size];exact(st.oC b hb).1,(st.oC b hb).2⟩,fun k b h=> ?_,fun k b g' h hm' hg'=> ?_,fun k k' b b' g' h h' hm1 hm2 hg1 hg2=> ?_,fun k b h=> ?_⟩,hE⟩
 ·rw [nU hk]at h
  split at h
  ·rename_i e;subst e;exact st.lab _ _ hk
  ·exact st.lab k b h
 ·rw [nU hk]at h
  rw [hO.size]
  split at h
  ·rename_i e;subst e;injection h with h;subst h;exact st.mu _ _ g' hk hm (hfl g' hg')
  ·rename_i e;exact st.mu k b g' h hm' (bk e h hm' hg')
 ·rw [nU hk]at h h'
  have e1 : ∃c,look H k=some c∧c.own=true∧qo w (σ k) c g':=by
   split at h
   ·rename_i e;subst e;injection h with h;subst h;exact⟨_,hk,hm,hfl g' hg1⟩
   ·rename_i e;exact⟨_,h,hm1,bk e h hm1 hg1⟩
  have e2 : ∃c,look H k'=some c∧c.own=true∧qo w (σ k') c g':=by
   split at h'
   ·rename_i e;subst e;injection h' with h';subst h';exact⟨_,hk,hm,hfl g' hg2⟩
   ·rename_i e;exact⟨_,h',hm2,bk e h' hm2 hg2⟩
  obtain⟨c1,x1,y1,z1⟩:=e1
  obtain⟨c2,x2,y2,z2⟩:=e2
  exact st.inj k k' c1 c2 g' x1 x2 y1 y2 z1 z2
 ·rw [nU hk]at h
  split at h
  ·rename_i e
   subst e
   injection h with h
   subst h
   exact hblk (st.blk _ _ hk) hE
  ·rename_i e
   refine(st.blk k b h).mono hE fun hm' g' hg'=>hO.block g' fun e2=> ?_
   subst e2
   exact e (st.inj k lV b blk g' h hk hm' hm hg' (.inl hg))
theorem St.drop (st:St G lJ lN lQ n σ F H w)(lV:Nat):St G lJ lN lQ n σ F (Gv H lV) w:=
 ⟨st.glob,st.qg,st.oC,fun k b h=>st.lab k b (pO h).2,fun k b g h=>st.mu k b g (pO h).2,fun k k' b b' g h h'=>st.inj k k' b b' g (pO h).2 (pO h').2,fun k b h=>st.blk k b (pO h).2⟩
theorem sN {L:Loc}{F':Nat->Prop}{t sz:Nat}{l:List (List FV)}(h:uo n σ F w L (.rows t sz l))(hF : ∀b,F b->F' b)(hg : ∀g,L.b=some g->F' g):uo n σ F' w L (.fz sz l):=by
 obtain⟨h1,h2,xs,hO,hR⟩:=h
 have hm : ∀b,F b->F' b∧w.heap[b]? = w.heap[b]? :=fun b hb=>⟨hF b hb,rfl⟩
 refine⟨h1,h2, ?_, ?_⟩
 ·rw [h2]
  have hc:l.length<=L.c∧(L.oa=none->L.c=0):=by
   rcases hO.2 with ⟨hv,h0⟩|⟨g,cap,cur,hv,_,_,hle,_⟩
   ·injection hv with _ _ ec;exact⟨by omega,fun _=>ec⟩
   ·injection hv with eo _ ec;exact⟨by omega,fun en=>by rw [en]at eo;cases eo⟩
  rcases bP l.length with h0|h0
  ·have hl:l = []:=aF h0
   subst hl
   exact .lst sz [] _ _ _ 0 0 rfl hc.1 hc.2 (fun h=>absurd h (iV 0)) (by simp) (fun i j hi=>absurd hi (gQ i)) (fun i j row a v hi=>by simp at hi)
  ·obtain⟨g,cur,hoa,_,hB,hle,_,hcl,htk⟩:=hO.blk h0
   have hcell : ∀k,k<l.length*sz->w.cell? ⟨g,0+k,none⟩=xs[k]? :=fun k hk=>by
    rw [aS,hB.cell, <-htk,bH,if_pos hk]
   have hlt : ∀i j,i<l.length->j<sz->i*sz+j<l.length*sz:=fun i j hi hj=>by
    have:(i+1)*sz<=l.length*sz:=aU _ hi
    rw [bK,dA]at this;omega
   refine .lst sz l _ _ _ g 0 rfl hc.1 hc.2 (fun _=>⟨hoa,hg g (vU hoa)⟩) hR.1 (fun i j hi hj=> ?_) (fun i j row a v hi hj hv=> ?_)
   ·have hk:=hlt i j hi hj
    rw [hcell _ hk]
    have hxl:=hR.2.1
    exact⟨xs[i*sz+j],aj (by omega),hR.2.2.1 _ (bD _)⟩
   ·have hil:=(aG.1 hi).1
    have hjl:=(aG.1 hj).1
    rw [hR.1 row (aT hi)]at hjl
    rw [hcell _ (hlt i j hil hjl)]at hv
    exact(hR.2.2.2 i j row a v hi hj hv).mono hm
 ·intro b o e
  unfold Loc.oa at e
  cases hb:L.b with
  | none=>rw [hb]at e;cases e
  | some g=>rw [hb]at e;simp only [bM,aI]at e;injection e with _ e;exact e.symm
theorem St.freeze (st:St G lJ lN lQ n σ F H w){lV t sz:Nat}{l:List (List FV)}(hk:look H lV=some (.rows t sz l)) :
  St G lJ lN lQ n σ (fun b=>F b∨(σ lV).b=some b) (setH H lV (.fz sz l)) w∧Ext n σ F w n σ (fun b=>F b∨(σ lV).b=some b) w:=by
 have hE:Ext n σ F w n σ (fun b=>F b∨(σ lV).b=some b) w:=⟨ay _,fun _ _=>rfl,fun b hb=>⟨.inl hb,rfl⟩,ay _⟩
 refine⟨⟨st.glob,st.qg,fun b hb=> ?_,fun k b h=> ?_,fun k b g' h hm' hg'=> ?_,fun k k' b b' g' h h' hm1 hm2 hg1 hg2=> ?_,fun k b h=> ?_⟩,hE⟩
 ·rcases hb with hb|hb
  ·exact st.oC b hb
  ·obtain⟨_,_,h3,h4⟩:=st.mu lV _ b hk rfl (.inl hb)
   exact⟨h3,h4.elim (fun h=> .inr (.inr h)) fun h=> .inr (.inl h)⟩
 ·rw [nU hk]at h
  split at h
  ·rename_i e;subst e;exact st.lab _ _ hk
  ·exact st.lab k b h
 ·rw [nU hk]at h
  split at h
  ·injection h with h;subst h;cases hm'
  ·rename_i e
   obtain⟨h1,h2⟩:=st.mu k b g' h hm' hg'
   refine⟨fun hf=>hf.elim h1 fun hf=>e (st.inj k lV b _ g' h hk hm' rfl hg' (.inl hf)),h2⟩
 ·rw [nU hk]at h h'
  split at h
  ·injection h with h;subst h;cases hm1
  ·split at h'
   ·injection h' with h';subst h';cases hm2
   ·exact st.inj k k' b b' g' h h' hm1 hm2 hg1 hg2
 ·rw [nU hk]at h
  split at h
  ·rename_i e
   subst e
   injection h with h
   subst h
   exact sN (st.blk _ _ hk) (fun b hb=> .inl hb) fun g hg=> .inr hg
  ·exact(st.blk k b h).mono hE fun _ _ _=>rfl
theorem St.Xz (st:St G lJ lN lQ n σ F H w){lV:Nat}{M:ByteArray->Option Value}(hk:look H lV=some (.map M)) :
  St G lJ lN lQ n σ (fun b=>F b∨(σ lV).b=some b) (setH H lV (.QV M)) w∧Ext n σ F w n σ (fun b=>F b∨(σ lV).b=some b) w:=by
 have hE:Ext n σ F w n σ (fun b=>F b∨(σ lV).b=some b) w:=⟨ay _,fun _ _=>rfl,fun b hb=>⟨.inl hb,rfl⟩,ay _⟩
 refine⟨⟨st.glob,st.qg,fun b hb=> ?_,fun k b h=> ?_,fun k b g' h hm' hg'=> ?_,fun k k' b b' g' h h' hm1 hm2 hg1 hg2=> ?_,fun k b h=> ?_⟩,hE⟩
 ·rcases hb with hb|hb
  ·exact st.oC b hb
  ·obtain⟨_,_,h3,h4⟩:=st.mu lV _ b hk rfl (.inl hb)
   exact⟨h3,h4.elim (fun h=> .inr (.inr h)) fun h=> .inr (.inl h)⟩
 ·rw [nU hk]at h
  split at h
  ·rename_i e;subst e;exact st.lab _ _ hk
  ·exact st.lab k b h
 ·rw [nU hk]at h
  split at h
  ·injection h with h;subst h;cases hm'
  ·rename_i e
   obtain⟨h1,h2⟩:=st.mu k b g' h hm' hg'
   refine⟨fun hf=>hf.elim h1 fun hf=>e (st.inj k lV b _ g' h hk hm' rfl hg' (.inl hf)),h2⟩
 ·rw [nU hk]at h h'
  split at h
  ·injection h with h;subst h;cases hm1
  ·split at h'
   ·injection h' with h';subst h';cases hm2
   ·exact st.inj k k' b b' g' h h' hm1 hm2 hg1 hg2
 ·rw [nU hk]at h
  split at h
  ·rename_i e
   subst e
   injection h with h
   subst h
   obtain⟨g,hg,hM⟩:=st.blk _ _ hk
   exact⟨g,hg, .fm M g (.inr hg) hM⟩
  ·exact(st.blk k b h).mono hE fun _ _ _=>rfl
def yU (F:Nat->Prop)(w:World)(xs:List FV)(vs:List Value):Prop:=vs.length=xs.length∧∀(j:Nat) a v,xs[j]? = some a->vs[j]? = some v->oL F w a v
theorem yU.mono {F F':Nat->Prop}{w w':World}(h : ∀b,F b->F' b∧w'.heap[b]? = w.heap[b]?){xs:List FV}{vs:List Value}(r:yU F w xs vs):yU F' w' xs vs:=⟨r.1,fun j a v h1 h2=>(r.2 j a v h1 h2).mono h⟩
theorem yU.cons {x:FV}{v:Value}{xs:List FV}{vs:List Value}(h:oL F w x v)(r:yU F w xs vs):yU F w (x::xs) (v::vs):=⟨by simp [r.1],fun j a u h1 h2=>by
 cases j with
 | zero=>simp only [bY,aI]at h1 h2;rw [<-h1, <-h2];exact h
 | succ j=>exact r.2 j a u (by simpa using h1) (by simpa using h2)⟩
theorem yj (sz:Nat)(oa:Option Addr):oL F w (.lst sz []) (.slice oa 0 0):=
 .lst sz [] oa 0 0 0 0 rfl (ay _) (fun _=>rfl) (fun h=>absurd h (iV 0)) (by simp) (fun i j hi=>absurd hi (gQ i)) (fun i j row a v hi=>by simp at hi)
theorem KJ {a:AV}{v:Value}{K:FV->lF->Prop}(h:dn H a K)(st:St G lJ lN lQ n σ F H w)(ra:mF n σ F w a v) :
  ∃x H' F',K x H'∧St G lJ lN lQ n σ F' H' w∧Ext n σ F w n σ F' w∧oL F' w x v:=by
 unfold dn at h
 split at h
 ·rw [ra.nV];exact⟨_,_,F,h,st, .refl _ _ _ _, .v _⟩
 ·cases ra with|lst hf=>exact⟨_,_,F,h,st, .refl _ _ _ _,hf⟩
 ·cases ra with|fp hf=>exact⟨_,_,F,h,st, .refl _ _ _ _,hf⟩
 ·split at h
  ·rename_i t sz m hk
   obtain⟨s1,e1⟩:=st.freeze hk
   have hb:=s1.blk _ (.fz sz m) (by rw [nU hk,if_pos rfl])
   cases ra with
   | qP _ oa hl hn hc=>
    have e:=hb.2.1
    rw [hn]at e
    have:m = []:=aF e.symm
    subst this
    exact⟨_,_,_,h,s1,e1,yj sz oa⟩
   | own _ hl=>exact⟨_,_,_,h,s1,e1,hb.2.2.1⟩
  ·rename_i sz m hk
   have hb:=st.blk _ _ hk
   cases ra with
   | qP _ oa hl hn hc=>
    have e:=hb.2.1
    rw [hn]at e
    have:m = []:=aF e.symm
    subst this
    exact⟨_,_,F,h,st, .refl _ _ _ _,yj sz oa⟩
   | own _ hl=>exact⟨_,_,F,h,st, .refl _ _ _ _,hb.2.2.1⟩
  ·cases h
 ·cases ra with|fm hf=>exact⟨_,_,F,h,st, .refl _ _ _ _,hf⟩
 ·split at h
  ·rename_i M hk
   obtain⟨s1,e1⟩:=st.Xz hk
   obtain⟨g,hg,hf⟩:=s1.blk _ (.QV M) (by rw [nU hk,if_pos rfl])
   cases ra with
   | mp _ b hl hb=>
    rw [hb]at hg
    injection hg with hg
    subst hg
    exact⟨_,_,_,h,s1,e1,hf⟩
  ·rename_i M hk
   obtain⟨g,hg,hf⟩:=st.blk _ _ hk
   cases ra with
   | mp _ b hl hb=>
    rw [hb]at hg
    injection hg with hg
    subst hg
    exact⟨_,_,F,h,st, .refl _ _ _ _,hf⟩
  ·cases h
 ·cases h
theorem Hq : ∀ {as:List AV} {vs:List Value} {H:lF} {F:Nat->Prop} {K:List FV->lF->Prop},dnL H as K->St G lJ lN lQ n σ F H w->ng n σ F w as vs->
  ∃xs H' F',K xs H'∧St G lJ lN lQ n σ F' H' w∧Ext n σ F w n σ F' w∧yU F' w xs vs:=by
 intro as
 induction as with
 | nil=>intro vs H F K h st r;cases vs with
  | nil=>exact⟨[],H,F,h,st, .refl _ _ _ _,rfl,fun j a v h1=>by simp at h1⟩
  | cons _ _=>exact r.elim
 | cons a as ih=>intro vs H F K h st r;cases vs with
  | nil=>exact r.elim
  | cons v vs=>
   obtain⟨x,H1,F1,h1,s1,e1,r1⟩:=KJ h st r.1
   obtain⟨xs,H2,F2,h2,s2,e2,r2⟩:=ih h1 s1 (r.2.mono e1)
   exact⟨x::xs,H2,F2,h2,s2,e1.trans e2, .cons (r1.mono e2.f) r2⟩
theorem pz.nil (sz:Nat):pz F w sz [] []:=⟨by simp,by simp,by simp,fun i j row a v h=>by simp at h⟩
theorem pz.cons {sz:Nat}{row:List FV}{l:List (List FV)}{vs xs:List Value}(hr:yU F w row vs)(hl:vs.length=sz)(h1 : ∀v∈vs,v.oneCell'=true)(r:pz F w sz l xs):pz F w sz (row::l) (vs++xs):=by
 refine⟨fun x hx=> ?_,by rw [ak,r.2.1,hl,bg,bK];omega,fun v hv=> ?_,fun i j row' a v hi hj hv=> ?_⟩
 ·rcases bF.1 hx with rfl|hx
  ·rw [<-hr.1];exact hl
  ·exact r.1 x hx
 ·rcases cu.1 hv with hv|hv
  ·exact h1 v hv
  ·exact r.2.2.1 v hv
 ·cases i with
  | zero=>
   simp only [bY,aI]at hi
   subst hi
   have hjl:=(aG.1 hj).1
   rw [dY,aS,dF (by rw [hr.1];exact hjl)]at hv
   exact hr.2 j a v hj hv
  | succ i=>
   have hi':l[i]? = some row':=by simpa using hi
   rw [dB (by rw [hl,bK];omega),hl]at hv
   rw [show (i+1)*sz+j-sz=i*sz+j by rw [bK];omega]at hv
   exact r.2.2.2 i j row' a v hi' hj hv
theorem EJ : ∀ {as:List AV} {vs:List Value},all1 as=true->ng n σ F w as vs->∀v∈vs,v.oneCell'=true:=by
 intro as
 induction as with
 | nil=>intro vs _ r v hv;cases vs with
  | nil=>cases hv
  | cons _ _=>exact r.elim
 | cons a as ih=>intro vs h r v hv;cases vs with
  | nil=>exact r.elim
  | cons u vs=>
   simp only [all1,au]at h
   rcases bF.1 hv with rfl|hv
   ·have hc:=h.1
    have ra:=r.1
    have key : ∀ {a:AV} {v:Value},cell1 a=true->mF n σ F w a v->v.oneCell'=true:=fun {a v} hc ra=>by
     cases ra with
     | v x=>exact hc
     | top x=>cases hc
     | agg _ _ _ _=>cases hc
     | mW _ _ _ _=>cases hc
     | lst hf=>cases hf;rfl
     | fp hf=>cases hf;rfl
     | fm hf=>cases hf;rfl
     | _=>rfl
    exact key hc ra
   ·exact ih h.2 r.2 v hv
theorem zq {a:AV}{v:Value}(r:mF n σ F w a v)(h:all1 (cellsOf a)=true):ng n σ F w (cellsOf a) v.cells.toList:=
 He r fun e=>by rw [e]at h;simp [cellsOf,all1,cell1]at h
theorem Gx {sz:Nat} : ∀ {ks:List Nat} {as:List AV} {us:List Value} {i:Nat} {H:lF} {F:Nat->Prop} {K:List (List FV)->lF->Prop},DF H sz i (ks.zip as) K->ks.length=as.length->St G lJ lN lQ n σ F H w->ng n σ F w as us->
  ∃l H' F',K l H'∧St G lJ lN lQ n σ F' H' w∧Ext n σ F w n σ F' w∧l.length=as.length∧ks=List.range' i as.length∧(∀u∈us,u.cells.toList.length=sz)∧pz F' w sz l (us.flatMap fun u=>u.cells.toList):=by
 intro ks
 induction ks with
 | nil=>
  intro as us i H F K h hl st r
  cases as with
  | cons _ _=>simp at hl
  | nil=>cases us with
   | cons _ _=>exact r.elim
   | nil=>exact⟨[],H,F,h,st, .refl _ _ _ _,rfl,rfl,by simp,pz.nil sz⟩
 | cons k ks ih=>
  intro as us i H F K h hl st r
  cases as with
  | nil=>simp at hl
  | cons a as=>cases us with
   | nil=>exact r.elim
   | cons u us=>
    simp only [iR,DF]at h
    cases hb:(Nat.beq i k&&Nat.beq (cellsOf a).length sz&&all1 (cellsOf a))with
    | false=>rw [hb]at h;exact h.elim
    | true=>
     rw [hb,cond_true]at h
     simp only [au]at hb
     have e1:=aA hb.1.1
     have e2:=aA hb.1.2
     subst e1
     have rc:=zq r.1 hb.2
     obtain⟨x,H1,F1,h1,s1,x1,r1⟩:=Hq h st rc
     obtain⟨l,H2,F2,h2,s2,x2,l2,k2,c2,r2⟩:=ih h1 (by simpa using hl) s1 (r.2.mono x1)
     refine⟨x::l,H2,F2,h2,s2,x1.trans x2,by simp [l2],by rw [k2];rfl, ?_, ?_⟩
     ·intro v hv
      rcases bF.1 hv with rfl|hv
      ·rw [rc.len];exact e2
      ·exact c2 v hv
     ·rw [gI]
      exact .cons (r1.mono x2.f) (by rw [rc.len];exact e2) (EJ hb.2 rc) r2
theorem TU (z:List Value)(sz:Nat)(hz:z.length=sz) : ∀(us:List Value) (i:Nat) (pre:List Value),pre.length=i*sz->(∀u∈us,u.cells.toList.length=sz)->
  xC (fun j=>some (j*sz,sz)) (pre++(List.replicate us.length z).flatten) ((List.range' i us.length).zip us)=some (pre++us.flatMap fun u=>u.cells.toList):=by
 intro us
 induction us with
 | nil=>intro i pre _ _;simp [xC]
 | cons u us ih=>
  intro i pre hp hc
  have hu:=hc u (by simp)
  simp only [bg,jH,iR,xC,eU,iq]
  have hlen:(pre++(z++(List.replicate us.length z).flatten)).length=i*sz+sz+(List.replicate us.length z).flatten.length:=by simp [hp,hz];omega
  have c1:(Nat.beq u.cells.toList.length sz&&Nat.ble (i*sz+u.cells.toList.length) (pre++(z++(List.replicate us.length z).flatten)).length)=true:=by
   rw [hu,hlen]
   simp only [iC,iK]
   exact kS (by omega)
  rw [c1,cond_true, <-hp, <-aO,Kr pre u.cells.toList z _ (by omega)]
  have:=ih (i+1) (pre++u.cells.toList) (by rw [ak,hp,hu,bK,dA]) (fun v hv=>hc v (by simp [hv]))
  rw [this,gI,aO]
theorem zV {t:TypeId}{m:Nat}{ks:List Nat}{as:List AV}{us:List Value}{K:AV->Nat->lF->Prop}(h:xM P t m (ks.zip as) n H K)(hl:ks.length=as.length)(st:St G lJ lN lQ n σ F H w)(r:ng n σ F w as us) :
  tC P t m (ks.zip us) w (KH G lJ lN lQ n σ F w K):=by
 unfold xM at h
 unfold tC
 split at h
 ·rename_i e hu
  split at h
  ·rename_i i hi
   split at h
   ·rename_i z hz
    cases hb:(Nat.beq z.cells.toList.length i.size&&Nat.ble 1 i.size&&Nat.ble (m*i.size) 16777216&&Nat.beq (ks.zip as).length m&&Nat.ble m maxLen)with
    | false=>rw [hb]at h;exact h.elim
    | true=>
     rw [hb,cond_true]at h
     simp only [au]at hb
     obtain⟨⟨⟨⟨b1,b2⟩,b3⟩,b4⟩,b5⟩:=hb
     have e4:=aA b4
     rw [List.length_zip,hl,Nat.min_self]at e4
     subst e4
     have hzl:=aA b1
     obtain⟨l,H1,F1,h1,s1,x1,l1,k1,c1,r1⟩:=Gx h hl st r
     have hul:=r.len
     have hf:=TU z.cells.toList i.size hzl us 0 [] (by simp) c1
     simp only [bI]at hf
     simp only [hu,hi,hz,b1,b2,b3,Bool.and_self,cond_true]
     rw [k1, <-hul,hf]
     simp only [nO]
     obtain⟨s2,x2⟩:=s1.new (w':=w.alloc (.cells (us.flatMap fun u=>u.cells.toList).toArray e)) (yT.rW (qV (Below.refl _ _) (ay _) _))
      ⟨some w.heap.size,l.length,l.length,i.size⟩ (fun g hg=>by injection hg with hg;subst hg;exact⟨ay _,by simp⟩) (.rows e i.size l)
      ⟨rfl,rfl,_,Own.Et (qX.new w _ e) (aB _) (ay _) (by rw [l1];exact aN b5) (by simpa using r1.2.1) (by rw [<-r1.2.1];exact bn),r1.mono fun b hb=>⟨hb,heap_alloc_old w _ b (s1.oC b hb).1⟩⟩
     refine⟨_,_,_,_,_,h1,s2,x1.trans x2, ?_⟩
     have:=mF.own (n:=n+1) (σ:=wX σ n ⟨some w.heap.size,l.length,l.length,i.size⟩) (F:=F1) (w:=w.alloc (.cells (us.flatMap fun u=>u.cells.toList).toArray e)) n (by omega)
     rw [nH]at this
     rw [hul, <-l1]
     exact this
   ·cases h
  ·cases h
 ·cases h
end
end Go.Proofs.YtocckceefcmeaaaGreatDoor.Ax
