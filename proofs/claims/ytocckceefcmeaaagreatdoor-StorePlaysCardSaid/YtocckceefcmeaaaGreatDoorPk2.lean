/- Joined parts of the proof. Abstract values: what a value stands for (numbers and texts themselves, memory that changes no more as lists of rows, me -/
import Derived.Test.YtocckceefcmeaaaGreatDoorPk1
import Derived.Laws.Runes
set_option linter.unusedVariables false
set_option linter.unusedSimpArgs false
set_option maxRecDepth 100000
set_option maxHeartbeats 16000000
namespace Go.Proofs.YtocckceefcmeaaaGreatDoor.Ax
open RowKit Vc
inductive FV where
 | top
 | v (x:Value)
 | lst (sz:Nat) (l:List (List FV))
 | fp (cs:List FV) (o:Nat)
 | fm (M:ByteArray->Option Value)
inductive AV where
 | top
 | v (x:Value)
 | lst (sz:Nat) (l:List (List FV))
 | fp (cs:List FV) (o:Nat)
 | fm (M:ByteArray->Option Value)
 | ptr (mV o:Nat)
 | ep (mV i o:Nat)
 | own (mV:Nat)
 | sub (mV o n:Nat)
 | mp (mV:Nat)
 | fn (f:Fn) (first captured:List AV)
 | agg (cs:List AV)
 | nN (vs:List AV)
inductive TV where
 | f (a:FV)
 | n (t sz:Nat) (l:List (List FV))
inductive oZ where
 | var (t:TypeId) (cs:List AV)
 | rows (t:TypeId) (sz:Nat) (l:List (List FV))
 | fz (sz:Nat) (l:List (List FV))
 | map (M:ByteArray->Option Value)
 | VN (M:ByteArray->Option Value)
 | Bo (M:Int->Option FV)
 | itr (s:ByteArray) (p:Nat)
 | tree (t:TypeId) (sz:Nat) (l:List (List TV)) (h:Option (Nat×Nat×Nat))
def oZ.own:oZ->Bool
 | .fz _ _=>false
 | .VN _=>false
 | _=>true
abbrev lM:=List (Nat×oZ)
def look (H:lM)(l:Nat):Option oZ:=
 match H with
 | []=>none
 | p::r=>bif Nat.beq p.1 l then some p.2 else look r l
structure Loc where
 b:Option Nat
 n:Nat
 c:Nat
 sz:Nat
def Loc.oa (L:Loc):Option Addr:=L.b.map fun g=>⟨g,0,none⟩
inductive pJ (F:Nat->Prop)(w:World):FV->Value->Prop
 | top (x:Value):pJ F w .top x
 | v (x:Value):pJ F w (.v x) x
 | lst (sz:Nat) (l:List (List FV)) (oa:Option Addr) (n c b o:Nat) (hn:n=l.length) (hc:n<=c) (hnil:oa=none->c=0) (ho:0<n->oa=some ⟨b,o,none⟩∧F b)
   (hsz : ∀row∈l,row.length=sz) (hex : ∀i j,i<n->j<sz->∃v,w.cell? ⟨b,o+(i*sz+j),none⟩=some v∧v.oneCell'=true)
   (hrep : ∀i j row a v,l[i]? = some row->row[j]? = some a->w.cell? ⟨b,o+(i*sz+j),none⟩=some v->pJ F w a v):pJ F w (.lst sz l) (.slice oa n c)
 | fp (cs:List FV) (o b off:Nat) (hb:F b) (hex : ∀j,j<cs.length->∃v,w.cell? ⟨b,off+j,none⟩=some v∧v.oneCell'=true)
   (hrep : ∀j a v,cs[j]? = some a->w.cell? ⟨b,off+j,none⟩=some v->pJ F w a v):pJ F w (.fp cs o) (.pointer (some ⟨b,off+o,none⟩))
 | fm (M:ByteArray->Option Value) (b:Nat) (hb:F b) (hM:tZ w b M):pJ F w (.fm M) (.map (some b))
theorem sU {w w':World}{b:Nat}(h:w'.heap[b]? = w.heap[b]?)(o:Nat):w'.cell? ⟨b,o,none⟩=w.cell? ⟨b,o,none⟩:=by
 unfold World.cell?
 rw [h]
theorem pJ.mono {F F':Nat->Prop}{w w':World}(h : ∀b,F b->F' b∧w'.heap[b]? = w.heap[b]?){a:FV}{v:Value}(r:pJ F w a v):pJ F' w' a v:=by
 induction r with
 | top x=>exact .top x
 | v x=>exact .v x
 | lst sz l oa n c b o hn hc hnil ho hsz hex hrep ih=>
  rcases cO n with h0|h0
  ·subst h0
   have hl:l = []:=aI hn.symm
   subst hl
   exact .lst sz [] oa 0 c b o rfl hc hnil (fun h=>absurd h (jF 0)) hsz (fun i j hi=>absurd hi (gI i)) (fun i j row a v hi=>by simp at hi)
  ·have hb:=(ho h0).2
   have e:=sU (h b hb).2
   exact .lst sz l oa n c b o hn hc hnil (fun _=>⟨(ho h0).1,(h b hb).1⟩) hsz (fun i j hi hj=>by rw [e];exact hex i j hi hj)
    (fun i j row a v h1 h2 h3=>ih i j row a v h1 h2 (by rw [e]at h3;exact h3))
 | fp cs o b off hb hex hrep ih=>
  have e:=sU (h b hb).2
  exact .fp cs o b off (h b hb).1 (fun j hj=>by rw [e];exact hex j hj) (fun j a v h1 h2=>ih j a v h1 (by rw [e]at h2;exact h2))
 | fm M b hb hM=>exact .fm M b (h b hb).1 (hM.heap (h b hb).2)
inductive nI (n:Nat)(σ:Nat->Loc)(F:Nat->Prop)(w:World):AV->Value->Prop
 | top (x:Value):nI n σ F w .top x
 | v (x:Value):nI n σ F w (.v x) x
 | lst {sz:Nat} {l:List (List FV)} {x:Value} (h:pJ F w (.lst sz l) x):nI n σ F w (.lst sz l) x
 | fp {cs:List FV} {o:Nat} {x:Value} (h:pJ F w (.fp cs o) x):nI n σ F w (.fp cs o) x
 | fm {M:ByteArray->Option Value} {x:Value} (h:pJ F w (.fm M) x):nI n σ F w (.fm M) x
 | ptr (mV o b:Nat) (hl:mV<n) (hb:(σ mV).b=some b):nI n σ F w (.ptr mV o) (.pointer (some ⟨b,o,none⟩))
 | ep (mV i o b:Nat) (hl:mV<n) (hb:(σ mV).b=some b):nI n σ F w (.ep mV i o) (.pointer (some ⟨b,i*(σ mV).sz+o,none⟩))
 | own (mV:Nat) (hl:mV<n):nI n σ F w (.own mV) (.slice (σ mV).oa (σ mV).n (σ mV).c)
 | tC (mV:Nat) (oa:Option Addr) (hl:mV<n) (hn:(σ mV).n=0) (hc:(σ mV).c=0):nI n σ F w (.own mV) (.slice oa 0 0)
 | sub (mV o k:Nat) (oa:Option Addr) (c:Nat) (hl:mV<n) (hk:o+k<=(σ mV).n) (hc:k<=c) (hnil:oa=none->c=0) (ho:0<k->∃b,(σ mV).b=some b∧oa=some ⟨b,o*(σ mV).sz,none⟩):nI n σ F w (.sub mV o k) (.slice oa k c)
 | mp (mV b:Nat) (hl:mV<n) (hb:(σ mV).b=some b):nI n σ F w (.mp mV) (.map (some b))
 | fn (f:Fn) (xs ys:List AV) (us vs:List Value) (hx:us.length=xs.length) (hy:vs.length=ys.length)
   (rx : ∀(j:Nat) a v,xs[j]? = some a->us[j]? = some v->nI n σ F w a v) (ry : ∀(j:Nat) a v,ys[j]? = some a->vs[j]? = some v->nI n σ F w a v):nI n σ F w (.fn f xs ys) (.func f us.toArray vs.toArray)
 | agg (xs:List AV) (us:List Value) (hx:us.length=xs.length) (rx : ∀(j:Nat) a v,xs[j]? = some a->us[j]? = some v->nI n σ F w a v):nI n σ F w (.agg xs) (.agg us.toArray)
 | nN (xs:List AV) (us:List Value) (hx:us.length=xs.length) (rx : ∀(j:Nat) a v,xs[j]? = some a->us[j]? = some v->nI n σ F w a v):nI n σ F w (.nN xs) (.tuple us.toArray)
structure Ext (n:Nat)(σ:Nat->Loc)(F:Nat->Prop)(w:World)(n':Nat)(σ':Nat->Loc)(F':Nat->Prop)(w':World):Prop where
 le:n<=n'
 s : ∀mV,mV<n->σ' mV=σ mV
 f : ∀b,F b->F' b∧w'.heap[b]? = w.heap[b]?
 sz:w.heap.size<=w'.heap.size
theorem Ext.refl (n:Nat)(σ:Nat->Loc)(F:Nat->Prop)(w:World):Ext n σ F w n σ F w:=⟨aA _,fun _ _=>rfl,fun _ h=>⟨h,rfl⟩,aA _⟩
theorem Ext.trans {n n' n'':Nat}{σ σ' AO:Nat->Loc}{F F' QV:Nat->Prop}{w w' w'':World}(h:Ext n σ F w n' σ' F' w')(k:Ext n' σ' F' w' n'' AO QV w''):Ext n σ F w n'' AO QV w'':=
 ⟨dM h.le k.le,fun l hl=>(k.s l (bg hl h.le)).trans (h.s l hl),fun b hb=>⟨(k.f b (h.f b hb).1).1,(k.f b (h.f b hb).1).2.trans (h.f b hb).2⟩,dM h.sz k.sz⟩
theorem nI.mono {n n':Nat}{σ σ':Nat->Loc}{F F':Nat->Prop}{w w':World}(e:Ext n σ F w n' σ' F' w'){a:AV}{v:Value}(r:nI n σ F w a v):nI n' σ' F' w' a v:=by
 induction r with
 | top x=>exact .top x
 | v x=>exact .v x
 | lst h=>exact .lst (h.mono e.f)
 | fp h=>exact .fp (h.mono e.f)
 | fm h=>exact .fm (h.mono e.f)
 | ptr l o b hl hb=>exact .ptr l o b (bg hl e.le) (by rw [e.s l hl];exact hb)
 | ep l i o b hl hb=>rw [<-e.s l hl];exact .ep l i o b (bg hl e.le) (by rw [e.s l hl];exact hb)
 | own l hl=>rw [<-e.s l hl];exact .own l (bg hl e.le)
 | tC l oa hl hn hc=>exact .tC l oa (bg hl e.le) (by rw [e.s l hl];exact hn) (by rw [e.s l hl];exact hc)
 | sub l o k oa c hl hk hc hnil ho=>exact .sub l o k oa c (bg hl e.le) (by rw [e.s l hl];exact hk) hc hnil (by rw [e.s l hl];exact ho)
 | mp l b hl hb=>exact .mp l b (bg hl e.le) (by rw [e.s l hl];exact hb)
 | fn f xs ys us vs hx hy _ _ ih1 ih2=>exact .fn f xs ys us vs hx hy ih1 ih2
 | agg xs us hx _ ih=>exact .agg xs us hx ih
 | nN xs us hx _ ih=>exact .nN xs us hx ih
def nX (n:Nat)(σ:Nat->Loc)(F:Nat->Prop)(w:World):List AV->List Value->Prop
 | [],[]=>True
 | a::as,v::vs=>nI n σ F w a v∧nX n σ F w as vs
 | _,_=>False
section
variable {n:Nat}{σ:Nat->Loc}{F:Nat->Prop}{w:World}
theorem nX.len : ∀ {as:List AV} {vs:List Value},nX n σ F w as vs->vs.length=as.length:=by
 intro as
 induction as with
 | nil=>intro vs h;cases vs with
  | nil=>rfl
  | cons _ _=>exact h.elim
 | cons a as ih=>intro vs h;cases vs with
  | nil=>exact h.elim
  | cons v vs=>simp [ih h.2]
theorem nX.at : ∀ {as:List AV} {vs:List Value},nX n σ F w as vs->∀(j:Nat) a v,as[j]? = some a->vs[j]? = some v->nI n σ F w a v:=by
 intro as
 induction as with
 | nil=>intro vs h j a v h1;simp at h1
 | cons a as ih=>intro vs h;cases vs with
  | nil=>exact h.elim
  | cons v vs=>
   intro j x y h1 h2
   cases j with
   | zero=>simp only [bW,aN]at h1 h2;subst h1;subst h2;exact h.1
   | succ j=>exact ih h.2 j x y (by simpa using h1) (by simpa using h2)
theorem nX.of : ∀ {as:List AV} {vs:List Value},vs.length=as.length->(∀(j:Nat) a v,as[j]? = some a->vs[j]? = some v->nI n σ F w a v)->nX n σ F w as vs:=by
 intro as
 induction as with
 | nil=>intro vs h _;cases vs with
  | nil=>trivial
  | cons _ _=>simp at h
 | cons a as ih=>intro vs h k;cases vs with
  | nil=>simp at h
  | cons v vs=>exact⟨k 0 a v rfl rfl,ih (by simpa using h) fun j x y h1 h2=>k (j+1) x y (by simpa using h1) (by simpa using h2)⟩
theorem nX.mono {n':Nat}{σ':Nat->Loc}{F':Nat->Prop}{w':World}(e:Ext n σ F w n' σ' F' w'){as:List AV}{vs:List Value}(h:nX n σ F w as vs):nX n' σ' F' w' as vs:=
 .of h.len fun j a v h1 h2=>(h.at j a v h1 h2).mono e
theorem nX.H8 {as:List AV}{v:Value}(h:nI n σ F w (.agg as) v) : ∃vs,v = .agg vs.toArray∧nX n σ F w as vs:=by
 cases h with
 | agg _ us hx rx=>exact⟨us,rfl, .of hx rx⟩
theorem nX.agg {as:List AV}{vs:List Value}(h:nX n σ F w as vs):nI n σ F w (.agg as) (.agg vs.toArray):= .agg as vs h.len h.at
theorem nX.nN {as:List AV}{vs:List Value}(h:nX n σ F w as vs):nI n σ F w (.nN as) (.tuple vs.toArray):= .nN as vs h.len h.at
theorem nX.append {as bs:List AV}{vs us:List Value}(h:nX n σ F w as vs)(k:nX n σ F w bs us):nX n σ F w (as++bs) (vs++us):=by
 induction as generalizing vs with
 | nil=>cases vs with
  | nil=>exact k
  | cons _ _=>exact h.elim
 | cons a as ih=>cases vs with
  | nil=>exact h.elim
  | cons v vs=>exact⟨h.1,ih h.2⟩
theorem nX.drop {as:List AV}{vs:List Value}(h:nX n σ F w as vs)(k:Nat):nX n σ F w (as.drop k) (vs.drop k):=
 .of (by simp [h.len]) fun j a v h1 h2=>h.at (k+j) a v (by simpa using h1) (by simpa using h2)
theorem nX.take {as:List AV}{vs:List Value}(h:nX n σ F w as vs)(k:Nat):nX n σ F w (as.take k) (vs.take k):=
 .of (by simp [h.len]) fun j a v h1 h2=>h.at j a v (by rw [bQ]at h1;split at h1;exact h1;cases h1) (by rw [bQ]at h2;split at h2;exact h2;cases h2)
theorem nX.set {as:List AV}{vs:List Value}(h:nX n σ F w as vs)(k:Nat){a:AV}{v:Value}(r:nI n σ F w a v):nX n σ F w (as.set k a) (vs.set k v):=
 .of (by simp [h.len]) fun j x y h1 h2=>by
  have hl:=h.len
  rw [List.getElem?_set]at h1 h2
  by_cases e:k=j
  ·subst e
   simp only [if_true]at h1 h2
   by_cases hk:k<as.length
   ·rw [if_pos hk]at h1;rw [if_pos (by omega)]at h2
    injection h1 with h1;injection h2 with h2
    rw [<-h1, <-h2];exact r
   ·rw [if_neg hk]at h1;cases h1
  ·rw [if_neg e]at h1 h2;exact h.at j x y h1 h2
end
def FV.up:FV->AV
 | .top=> .top
 | .v x=> .v x
 | .lst sz l=> .lst sz l
 | .fp cs o=> .fp cs o
 | .fm M=> .fm M
theorem pJ.up {n:Nat}{σ:Nat->Loc}{F:Nat->Prop}{w:World}{a:FV}{v:Value}(h:pJ F w a v):nI n σ F w a.up v:=by
 cases a with
 | top=>exact .top v
 | v x=>cases h;exact .v _
 | lst sz l=>exact .lst h
 | fp cs o=>exact .fp h
 | fm M=>exact .fm h
def qA (F:Nat->Prop)(w:World)(sz:Nat)(l:List (List FV))(xs:List Value):Prop:=
 (∀row∈l,row.length=sz)∧xs.length=l.length*sz∧(∀v∈xs,v.oneCell'=true)∧∀i j row a v,l[i]? = some row->row[j]? = some a->xs[i*sz+j]? = some v->pJ F w a v
def aa1 (F:Nat->Prop)(w:World)(g:Nat)(M:Int->Option FV):Prop:= ∃V,uy w g V∧∀k,match M k,V k with|some a,some v=>pJ F w a v|none,none=>True|_,_=>False
theorem aa1.mono {F F':Nat->Prop}{w w':World}{g:Nat}{M:Int->Option FV}(h:aa1 F w g M)(hf : ∀b,F b->F' b∧w'.heap[b]? = w.heap[b]?)(hb:w'.heap[g]? = w.heap[g]?):aa1 F' w' g M:=by
 obtain⟨V,h1,h2⟩:=h
 refine⟨V,h1.heap hb,fun k=> ?_⟩
 have:=h2 k
 split at this
 ·exact this.mono hf
 ·trivial
 ·exact this.elim
def Ry (w:World)(L:Loc)(sz:Nat)(l:List (List TV))(i j g:Nat):Prop:=
 ∃b row t' sz' r m c,L.b=some b∧l[i]? = some row∧row[j]? = some (.n t' sz' r)∧w.cell? ⟨b,i*sz+j,none⟩=some (.slice (some ⟨g,0,none⟩) m c)∧0<c
def Nst (w:World)(L:Loc):oZ->Nat->Prop
 | .tree _ sz l _,g=> ∃i j,Ry w L sz l i j g
 | _,_=>False
def rY (w:World)(L:Loc)(blk:oZ)(g:Nat):Prop:=L.b=some g∨Nst w L blk g
def oZ.flat:oZ->Bool
 | .tree _ _ _ _=>false
 | _=>true
theorem rY.flat {w:World}{L:Loc}{blk:oZ}{g:Nat}(hf:blk.flat=true)(h:rY w L blk g):L.b=some g:=by
 rcases h with h|h
 ·exact h
 ·cases blk<;>first|exact h.elim|cases hf
theorem Ry.back {w w':World}{L:Loc}{sz:Nat}{l:List (List TV)}{i j g:Nat}(hb : ∀b,L.b=some b->w'.heap[b]? = w.heap[b]?)(h:Ry w' L sz l i j g):Ry w L sz l i j g:=by
 obtain⟨b,row,t',sz',r,m,c,h1,h2,h3,h4,h5⟩:=h
 exact⟨b,row,t',sz',r,m,c,h1,h2,h3,by rw [<-sU (hb b h1)];exact h4,h5⟩
theorem rY.back {w w':World}{L:Loc}{blk:oZ}{g:Nat}(hb : ∀b,L.b=some b->w'.heap[b]? = w.heap[b]?)(h:rY w' L blk g):rY w L blk g:=by
 rcases h with h|h
 ·exact .inl h
 ·cases blk<;>first|exact h.elim|skip
  obtain⟨i,j,h⟩:=h
  exact .inr ⟨i,j,h.back hb⟩
def akF (F:Nat->Prop)(w:World):TV->Value->Prop
 | .f x,v=>pJ F w x v
 | .n t sz l,v=> ∃oa c,v = .slice oa l.length c∧((c=0∧l = [])∨∃ys,0<c∧Own w 0 t sz oa l.length c ys∧qA F w sz l ys)
def XE (F:Nat->Prop)(w:World)(sz:Nat)(l:List (List TV))(xs:List Value):Prop:=
 (∀row∈l,row.length=sz)∧xs.length=l.length*sz∧(∀v∈xs,v.oneCell'=true)∧∀i j row a v,l[i]? = some row->row[j]? = some a->xs[i*sz+j]? = some v->akF F w a v
def Sep (w:World)(L:Loc)(sz:Nat)(l:List (List TV)):Prop:=
 (∀i j i' j' g,Ry w L sz l i j g->Ry w L sz l i' j' g->i=i'∧j=j')∧∀i j g,Ry w L sz l i j g->L.b≠some g
def vU (n:Nat)(σ:Nat->Loc)(F:Nat->Prop)(w:World)(L:Loc):oZ->Prop
 | .var t cs=> ∃g vs,L.b=some g∧tu w g vs t∧nX n σ F w cs vs∧∀v∈vs,v.oneCell'=true
 | .rows t sz l=>L.sz=sz∧L.n=l.length∧∃xs,Own w 0 t sz L.oa l.length L.c xs∧qA F w sz l xs
 | .fz sz l=>L.sz=sz∧L.n=l.length∧pJ F w (.lst sz l) (.slice L.oa L.n L.c)∧∀b o,L.oa=some ⟨b,o,none⟩->o=0
 | .map M=> ∃g,L.b=some g∧tZ w g M
 | .VN M=> ∃g,L.b=some g∧pJ F w (.fm M) (.map (some g))
 | .Bo M=> ∃g,L.b=some g∧aa1 F w g M
 | .itr s p=> ∃g,L.b=some g∧w.heap[g]? = some (.stringIter s p)
 | .tree t sz l h=>L.sz=sz∧L.n=l.length∧∃xs,Own w 0 t sz L.oa l.length L.c xs∧XE F w sz l xs∧Sep w L sz l∧
  ∀i j e,h=some (i,j,e)->e<n∧i<l.length∧j<sz∧(∃row,l[i]? = some row∧row[j]? = some (.f .top))∧∃v,xs[i*sz+j]? = some v∧nI n σ F w (.own e) v
structure Glob where
 nb:Nat
 val:Nat->Option (List Value)
 eqs:Nat->Option Obj
def Glob.holds (G:Glob)(w:World):Prop:=G.nb<=w.heap.size∧(∀g cs,G.val g=some cs->g<G.nb∧∀j v,cs[j]? = some v->w.cell? ⟨g,j,none⟩=some v)∧∀g o,G.eqs g=some o->g<G.nb∧w.heap[g]? = some o
structure AZ (M:Nat->Prop)(w w':World):Prop where
 os:w'.os=w.os
 tape:w'.tape=w.tape
 output:w'.output=w.output
 size:w.heap.size<=w'.heap.size
 block : ∀k,k<w.heap.size->¬M k->w'.heap[k]? = w.heap[k]?
theorem AZ.refl (M:Nat->Prop)(w:World):AZ M w w:=⟨rfl,rfl,rfl,aA _,fun _ _ _=>rfl⟩
theorem AZ.trans {M M':Nat->Prop}{u v w:World}(h:AZ M u v)(k:AZ M' v w)(hM : ∀b,M' b->M b∨u.heap.size<=b):AZ M u w:=
 ⟨k.os.trans h.os,k.tape.trans h.tape,k.output.trans h.output,dM h.size k.size,fun b hb hn=>
  (k.block b (bg hb h.size) fun hm=>(hM b hm).elim hn fun hge=>by omega).trans (h.block b hb hn)⟩
theorem AZ.below {w w':World}{M:Nat->Prop}{B:Nat}(h:AZ M w w')(hM : ∀b,M b->B<=b)(hB:B<=w.heap.size):Below B w w':=
 ⟨h.os,h.tape,h.output,h.size,fun k hk=>h.block k (by omega) fun hm=>by have:=hM k hm;omega⟩
theorem AZ.uH {w w':World}(h:Below w.heap.size w w'):AZ (fun _=>False) w w':=⟨h.os,h.tape,h.output,h.size,fun k hk _=>h.block k hk⟩
theorem AZ.afE {w w':World}{g:Nat}(h:Only g w w'):AZ (fun b=>b=g) w w':=⟨h.os,h.tape,h.output,jL h.size.symm,fun k _ hn=>h.block k hn⟩
theorem AZ.mono {M M':Nat->Prop}{w w':World}(h:AZ M w w')(hM : ∀b,b<w.heap.size->M b->M' b):AZ M' w w':=⟨h.os,h.tape,h.output,h.size,fun k hk hn=>h.block k hk fun hm=>hn (hM k hk hm)⟩
theorem Glob.qM {G:Glob}{w w':World}(h:G.holds w)(hs:w.heap.size<=w'.heap.size)(hb : ∀b,b<G.nb->w'.heap[b]? = w.heap[b]?):G.holds w':=
 ⟨dM h.1 hs,fun g cs hg=>⟨(h.2.1 g cs hg).1,fun j v hj=>by rw [sU (hb g (h.2.1 g cs hg).1)];exact(h.2.1 g cs hg).2 j v hj⟩,fun g o ho=>⟨(h.2.2 g o ho).1,by rw [hb g (h.2.2 g o ho).1];exact(h.2.2 g o ho).2⟩⟩
structure St (G:Glob)(lY:World)(mG mJ:Nat->Prop)(n:Nat)(σ:Nat->Loc)(F:Nat->Prop)(H:lM)(w:World):Prop where
 glob:G.holds w
 qM:AZ mG lY w
 oW : ∀b,F b->b<w.heap.size∧(mJ b∨lY.heap.size<=b∨mG b)
 lab : ∀mV blk,look H mV=some blk->mV<n
 mu : ∀mV blk g,look H mV=some blk->blk.own=true->rY w (σ mV) blk g->¬F g∧G.nb<=g∧g<w.heap.size∧(mG g∨lY.heap.size<=g)
 inj : ∀mV Bq blk blk' g,look H mV=some blk->look H Bq=some blk'->blk.own=true->blk'.own=true->rY w (σ mV) blk g->rY w (σ Bq) blk' g->mV=Bq
 blk : ∀mV blk,look H mV=some blk->vU n σ F w (σ mV) blk
def wL (w:World)(σ:Nat->Loc)(H:lM)(g:Nat):Prop:= ∃mV blk,look H mV=some blk∧blk.own=true∧rY w (σ mV) blk g
theorem qA.mono {F F':Nat->Prop}{w w':World}(h : ∀b,F b->F' b∧w'.heap[b]? = w.heap[b]?){sz:Nat}{l:List (List FV)}{xs:List Value}(r:qA F w sz l xs):qA F' w' sz l xs:=
 ⟨r.1,r.2.1,r.2.2.1,fun i j row a v h1 h2 h3=>(r.2.2.2 i j row a v h1 h2 h3).mono h⟩
theorem Ce {w w':World}{t sz:Nat}{oa:Option Addr}{n c:Nat}{xs:List Value}(h:Own w 0 t sz oa n c xs)(hs:w.heap.size<=w'.heap.size)(hb : ∀g,oa.map (·.block)=some g->w'.heap[g]? = w.heap[g]?):Own w' 0 t sz oa n c xs:=by
 refine⟨h.1, ?_⟩
 rcases h.2 with h2|⟨g,cap,cur,hv,hg,hh,h3⟩
 ·exact .inl h2
 ·injection hv with e1 e2 e3
  subst e1;subst e3
  exact .inr ⟨g,c,cur,rfl,hg,by rw [hb g rfl];exact hh,h3⟩
theorem yC {w:World}{t sz c i j:Nat}{L:Loc}{α:Type}{l:List (List α)}{row:List α}{a:α}{xs:List Value}{v:Value}(h:Own w 0 t sz L.oa l.length c xs)(hi:l[i]? = some row)(hr:row.length=sz)(hj:row[j]? = some a)(hx:xs.length=l.length*sz)(hv:xs[i*sz+j]? = some v) :
  ∃b,L.b=some b∧w.cell? ⟨b,i*sz+j,none⟩=some v:=by
 have hil:=(aO.1 hi).1
 have hjl:=(aO.1 hj).1
 obtain⟨g,cur,hg,_,hB,hle,_,hcl,htk⟩:=h.blk (by omega)
 have hb:L.b=some g:=by
  unfold Loc.oa at hg
  cases hx:L.b with
  | none=>rw [hx]at hg;cases hg
  | some g'=>rw [hx]at hg;simp at hg;rw [hg]
 refine⟨g,hb, ?_⟩
 have hlt:i*sz+j<l.length*sz:=by
  have:(i+1)*sz<=l.length*sz:=aX _ hil
  rw [bJ,dF]at this;omega
 rw [hB.cell, <-hv, <-htk,bQ,if_pos hlt]
theorem XE.mono {F F':Nat->Prop}{w:World}{sz:Nat}{l:List (List TV)}{xs:List Value}(h : ∀b,F b->F' b∧w.heap[b]? = w.heap[b]?)(r:XE F w sz l xs):XE F' w sz l xs:=
 ⟨r.1,r.2.1,r.2.2.1,fun i j row a v hi hj hv=>by
  have hT:=r.2.2.2 i j row a v hi hj hv
  cases a with
  | f x=>exact pJ.mono h hT
  | n t' sz' q=>
   obtain⟨oa,c,rfl,hT⟩:=hT
   exact⟨oa,c,rfl,hT.imp id fun⟨ys,hc,hO,hR⟩=>⟨ys,hc,hO,qA.mono h hR⟩⟩⟩
theorem vU.mono {n n':Nat}{σ σ':Nat->Loc}{F F':Nat->Prop}{w w':World}(e:Ext n σ F w n' σ' F' w'){L:Loc}{blk:oZ}(h:vU n σ F w L blk)(hb:blk.own=true->∀g,rY w L blk g->w'.heap[g]? = w.heap[g]?):vU n' σ' F' w' L blk:=by
 cases blk with
 | var t cs=>
  obtain⟨g,vs,h1,h2,h3,h4⟩:=h
  exact⟨g,vs,h1,(hb rfl g (.inl h1)).trans h2,h3.mono e,h4⟩
 | rows t sz l=>
  obtain⟨h1,h2,xs,h3,h4⟩:=h
  exact⟨h1,h2,xs,Ce h3 e.sz (fun g hg=>hb rfl g (.inl (by cases hL:L.b<;>simp_all [Loc.oa]))),h4.mono e.f⟩
 | fz sz l=>exact⟨h.1,h.2.1,h.2.2.1.mono e.f,h.2.2.2⟩
 | map M=>
  obtain⟨g,h1,h2⟩:=h
  exact⟨g,h1,h2.heap (hb rfl g (.inl h1))⟩
 | VN M=>
  obtain⟨g,h1,h2⟩:=h
  exact⟨g,h1,h2.mono e.f⟩
 | Bo M=>
  obtain⟨g,h1,h2⟩:=h
  exact⟨g,h1,h2.mono e.f (hb rfl g (.inl h1))⟩
 | itr s p=>
  obtain⟨g,h1,h2⟩:=h
  exact⟨g,h1,(hb rfl g (.inl h1)).trans h2⟩
 | tree t sz l h=>
  obtain⟨h1,h2,xs,h3,h4,h5,h6⟩:=h
  have hbk : ∀b,L.b=some b->w'.heap[b]? = w.heap[b]? :=fun b hL=>hb rfl b (.inl hL)
  refine⟨h1,h2,xs,Ce h3 e.sz (fun g hg=>hb rfl g (.inl (by cases hL:L.b<;>simp_all [Loc.oa]))),⟨h4.1,h4.2.1,h4.2.2.1,fun i j row a v hi hj hv=> ?_⟩,⟨fun i j i' j' g a b=>h5.1 i j i' j' g (a.back hbk) (b.back hbk),fun i j g a=>h5.2 i j g (a.back hbk)⟩,fun i j k hk=> ?_⟩
  ·have hT:=h4.2.2.2 i j row a v hi hj hv
   cases a with
   | f x=>exact hT.mono e.f
   | n t' sz' r=>
    obtain⟨oa,c,rfl,hT⟩:=hT
    refine⟨oa,c,rfl,hT.imp id fun⟨ys,hc,hO,hR⟩=>⟨ys,hc,Ce hO e.sz (fun g hg=>hb rfl g (.inr ⟨i,j, ?_⟩)),hR.mono e.f⟩⟩
    obtain⟨b,hLb,hcell⟩:=yC h3 hi (h4.1 row (aZ hi)) hj h4.2.1 hv
    refine⟨b,row,t',sz',r,r.length,c,hLb,hi,hj, ?_,hc⟩
    rw [hcell]
    rcases hO.2 with ⟨hs,_⟩|⟨g',cap,cur,hs,_⟩
    ·injection hs with e1 _ _;rw [e1]at hg;cases hg
    ·injection hs with e1 _ _;rw [e1]at hg ⊢;injection hg with hg;have hg:g'=g:=hg;rw [hg]
  ·obtain⟨a1,a2,a3,a4,v,a5,a6⟩:=h6 i j k hk
   exact⟨bg a1 e.le,a2,a3,a4,v,a5,a6.mono e⟩
abbrev l9:=Nat->AV
def vH (ρ:l9)(d:Nat)(v:AV):l9:=fun n=>bif Nat.beq n d then v else ρ n
def qm (ρ:l9)(d:Option Nat)(v:AV):l9:=match d with|some d=>vH ρ d v|none=>ρ
def QW (v:Value):AV:=
 match v with
 | .agg cs=> .agg (cs.toList.map .v)
 | .tuple cs=> .nN (cs.toList.map .v)
 | v=> .v v
def o7 (ρ:l9)(x:Operand):AV:=
 match x with
 | .tmp t=>ρ t
 | .const v=>QW v
 | .global g=> .v (.pointer (some ⟨g,0,none⟩))
 | .func f=> .v (.func (.func f) #[] #[])
def af (a:AV)(k:AV->Prop):Prop:=
 match a with
 | .top=>k .top
 | .v x=>force x fun x=>k (.v x)
 | .lst sz l=>k (.lst sz l)
 | .fp cs o=>k (.fp cs o)
 | .fm M=>k (.fm M)
 | .ptr l o=>k (.ptr l o)
 | .ep l i o=>k (.ep l i o)
 | .own l=>k (.own l)
 | .sub l o n=>k (.sub l o n)
 | .mp l=>k (.mp l)
 | .fn f x y=>k (.fn f x y)
 | .agg cs=>k (.agg cs)
 | .nN vs=>k (.nN vs)
theorem rH (a:AV)(k:AV->Prop):af a k=k a:=by cases a<;>simp [af,force_eq]
def OX (l:List AV)(k:List AV->Prop):Prop:=
 match l with
 | []=>k []
 | a::r=>af a fun a'=>OX r fun r'=>k (a'::r')
theorem uf (l:List AV) : ∀k:List AV->Prop,OX l k=k l:=by
 induction l with
 | nil=>intro k;rfl
 | cons x r ih=>intro k;simp only [OX,rH,ih]
def spine {α:Type}(l:List α)(k:List α->Prop):Prop:=
 match l with
 | []=>k []
 | a::r=>spine r fun r'=>k (a::r')
theorem pO {α:Type}(l:List α) : ∀k:List α->Prop,spine l k=k l:=by
 induction l with
 | nil=>intro k;rfl
 | cons x r ih=>intro k;simp only [spine,ih]
def afO (a:Option AV)(k:Option AV->Prop):Prop:=
 match a with
 | some a=>af a fun a'=>k (some a')
 | none=>k none
theorem afF (a:Option AV)(k:Option AV->Prop):afO a k=k a:=by cases a<;>simp [afO,rH]
structure lV (k:IntKind)(x:Int)(K:Int->Prop):Prop where
 ex:K (k.wrap x)
structure mZ (x:Int)(n:Nat)(K:Nat->Prop):Prop where
 ex : ∃i:Nat,x=i∧i<n∧K i
structure sN (x y:Int)(n:Nat)(K:Nat->Nat->Prop):Prop where
 ex : ∃i j:Nat,x=i∧y=j∧i<=j∧j<=n∧K i j
structure mD (l:List (List FV))(i:Nat)(K:List FV->Prop):Prop where
 ex : ∃row,l[i]? = some row∧K row
structure ARt (l:List (List TV))(i:Nat)(K:List TV->Prop):Prop where
 ex : ∃row,l[i]? = some row∧K row
structure ATs (p K:Prop):Prop where
 is:p
 go:K
structure KG (x y:Int)(qY:Nat)(K:Nat->Prop):Prop where
 ex : ∃n m:Nat,x=n∧y=m∧n<=m∧qY*m<=140737488355328∧m<=maxLen∧K n
def oh (c:UInt8):List FV:= [.v (.int .u8 (c.toNat:Int))]
structure F7 (l:List (List FV))(K:ByteArray->Prop):Prop where
 ex : ∃s:List UInt8,l=s.map oh∧K ⟨s.toArray⟩
structure ALk (M:ByteArray->Option Value)(s:ByteArray)(z:Value)(K:Value->Bool->Prop):Prop where
 ex:K ((M s).getD z) (M s).isSome
def FV.val:FV->AV
 | .v y=>QW y
 | x=>x.up
structure ALi (M:Int->Option FV)(k:Int)(z:Value)(K:AV->Bool->Prop):Prop where
 no:M k=none->K (QW z) false
 yes : ∀x,M k=some x->K x.val true
def XF (op:BinOp)(k:IntKind)(a b:Int)(K:AV->Prop):Prop:=
 match op with
 | .add=>lV k (a+b) fun n=>K (.v (.int k n))
 | .sub=>lV k (a-b) fun n=>K (.v (.int k n))
 | .mul=>lV k (a*b) fun n=>K (.v (.int k n))
 | .quo=>lN (b≠0) (lV k (a.tdiv b) fun n=>K (.v (.int k n)))
 | .rem=>lN (b≠0) (K (.v (.int k (a.tmod b))))
 | .and=>K (.v (.int k (nD .and k a b)))
 | .or=>K (.v (.int k (nD .or k a b)))
 | .xor=>K (.v (.int k (nD .xor k a b)))
 | .andNot=>K (.v (.int k (nD .andNot k a b)))
 | .shl=>lN (0<=b) (lV k (a*2^min b.toNat k.bits) fun n=>K (.v (.int k n)))
 | .shr=>lN (0<=b) (K (.v (.int k (a.fdiv (2^min b.toNat k.bits)))))
 | .eql=>K (.v (.bool (a==b)))
 | .neq=>K (.v (.bool (a != b)))
 | .lss=>K (.v (.bool (decide (a<b))))
 | .leq=>K (.v (.bool (decide (a<=b))))
 | .gtr=>K (.v (.bool (decide (a>b))))
 | .geq=>K (.v (.bool (decide (a≥b))))
def afG (op:BinOp)(a b:ByteArray)(K:AV->Prop):Prop:=
 match op with
 | .add=>lN (((a.size+b.size:Nat):Int)<=IntKind.i64.max) (K (.v (.string (a++b))))
 | .eql=>K (.v (.bool (yL a b)))
 | .neq=>K (.v (.bool (!yL a b)))
 | .lss=>K (.v (.bool (OG a b)))
 | .leq=>K (.v (.bool (OG a b||yL a b)))
 | .gtr=>K (.v (.bool (!(OG a b||yL a b))))
 | .geq=>K (.v (.bool (!OG a b)))
 | _=>False
def valsOf:List AV->Option (List Value)
 | []=>some []
 | .v x::r=>(match valsOf r with|some l=>some (x::l)|none=>none)
 | _=>none
structure sO (P:Program)(t:TypeId)(K:Prop):Prop where
 g:P.eqGuardType P.depth t=false
 p:P.stoodInHeld t=false
 u:P.underlying t=some (.struct (P.fieldsOf t))
 go:K
structure akH (n:Nat)(K:Bool->Prop):Prop where
 ex : ∀b:Bool,(0<n->b=false)->K b
def AP (op:BinOp)(b:Bool)(K:AV->Prop):Prop:=
 match op with
 | .eql=>K (.v (.bool b))
 | .neq=>K (.v (.bool (!b)))
 | _=>False
def afH (H:lM)(a:AV):Option Nat:=
 match a with
 | .lst _ l=>some l.length
 | .own l=>(match look H l with
  | some (.rows _ _ m)=>some m.length
  | some (.fz _ m)=>some m.length
  | _=>none)
 | .sub _ _ n=>some n
 | _=>none
def aiv (a:AV):Bool:=match a with | .ptr _ _=>true | .ep _ _ _=>true | .fp _ _=>true|_=>false
def afI (P:Program)(H:lM)(op:BinOp)(t:TypeId)(a b:AV)(K:AV->Prop):Prop:=
 match P.underlying t,b with
 | some (.slice _), .v (.slice none 0 0)=>(match a with
  | .v (.slice none 0 0)=>AP op true K
  | a=>(match afH H a with
   | some n=>akH n fun b=>AP op b K
   | none=>False))
 | some (.pointer _), .v (.pointer none)=>(match a with
  | .v (.pointer none)=>AP op true K
  | a=>bif aiv a then AP op false K else False)
 | some (.map _ _), .v (.map none)=>(match a with
  | .v (.map none)=>AP op true K
  | .mp _=>AP op false K
  | .fm _=>AP op false K
  | _=>False)
 | some (.func _ _ _), .v .nilFunc=>(match a with
  | .fn _ _ _=>AP op false K
  | .v (.func _ _ _)=>AP op false K
  | .v .nilFunc=>AP op true K
  | _=>False)
 | _,_=>False
def afJ (P:Program)(H:lM)(op:BinOp)(t:TypeId)(a b:AV)(K:AV->Prop):Prop:=
 match a,b with
 | .v (.int k m), .v (.int k' n)=>(match op with
  | .shl=>XF .shl k m n K
  | .shr=>XF .shr k m n K
  | op=>bif decide (k=k')then XF op k m n K else False)
 | .v (.string m), .v (.string n)=>afG op m n K
 | .v (.bool m), .v (.bool n)=>(match op with
  | .eql=>(match P.underlying t with|some .bool=>K (.v (.bool (m==n)))|_=>False)
  | .neq=>(match P.underlying t with|some .bool=>K (.v (.bool (!(m==n))))|_=>False)
  | _=>False)
 | .agg xs, .agg ys=>(match valsOf xs,valsOf ys with
  | some us,some vs=>(match eqF P us vs (P.fieldsOf t).toList with
   | some b=>(match op with
    | .eql=>sO P t (K (.v (.bool b)))
    | .neq=>sO P t (K (.v (.bool (!b))))
    | _=>False)
   | none=>False)
  | _,_=>False)
 | a,b=>afI P H op t a b K
def aUn (op:UnOp)(a:AV)(K:AV->Prop):Prop:=
 match op,a with
 | .not, .v (.bool b)=>K (.v (.bool (!b)))
 | .neg, .v (.int k n)=>lV k (0-n) fun n=>K (.v (.int k n))
 | .xor, .v (.int k n)=>K (.v (.int k (nD .xor k (bif k.signed then -1 else k.max) n)))
 | _,_=>False
def Rz (P:Program)(t:TypeId)(cs:List AV)(f:Nat)(K:AV->Prop):Prop:=
 match P.underlying t with
 | some (.struct fs)=>(match fs.toList[f]? with
  | some fd=>(match zl P fd.type,P.info? fd.type with
   | some true,some i=>bif Nat.ble (fd.offset+i.size) cs.length then OX ((cs.drop fd.offset).take i.size) fun l=>K (.agg l)else False
   | some false,some _=>(match cs[fd.offset]? with
    | some v=>af v K
    | none=>False)
   | _,_=>False)
  | none=>False)
 | _=>False
def afK (P:Program)(t:TypeId)(f:Nat):Option Nat:=
 match P.underlying t with
 | some (.struct fs)=>(match fs.toList[f]? with
  | some fd=>(match P.info? fd.type with
   | some i=>bif Nat.beq i.size 0 then none else some fd.offset
   | none=>none)
  | none=>none)
 | _=>none
def H9 (P:Program)(t:TypeId)(a:AV)(f:Nat)(K:AV->Prop):Prop:=
 match afK P t f,a with
 | some d, .ptr l o=>K (.ptr l (o+d))
 | some d, .ep l i o=>K (.ep l i (o+d))
 | some d, .fp cs o=>K (.fp cs (o+d))
 | _,_=>False
def cellsOf (a:AV):List AV:=match a with | .agg cs=>cs | .v (.agg cs)=>cs.toList.map .v|a=> [a]
def Ei {α:Type}(cells:List α)(off:Nat)(vs:List α):List α:=
 match vs with
 | []=>cells
 | c::r=>Ei (cells.set off c) (off+1) r
def RD (a:AV):Bool:=match a with | .top=>false|_=>true
def Ia (place:Nat->Option (Nat×Nat))(cells:List AV)(parts:List (Nat×AV)):Option (List AV):=
 match parts with
 | []=>some cells
 | (i,v)::rest=>(match place i with
  | none=>none
  | some (off,size)=>bif RD v&&Nat.beq (cellsOf v).length size&&Nat.ble (off+(cellsOf v).length) cells.length then Ia place (Ei cells off (cellsOf v)) rest else none)
def RF (P:Program)(t:TypeId)(parts:List (Nat×AV))(K:AV->Prop):Prop:=
 match (P.info? t).bind (·.zero),P.underlying t with
 | some z,some (.struct fs)=>(match Aa P fs.toList with
  | some pl=>(match Ia (fun i=>pl[i]?) (z.cells.toList.map .v) parts with
   | some l=>OX l fun l=>K (.agg l)
   | none=>False)
  | none=>False)
 | some z,some (.array _ e)=>(match P.info? e with
  | some i=>(match Ia (fun j=>some (j*i.size,i.size)) (z.cells.toList.map .v) parts with
   | some l=>OX l fun l=>K (.agg l)
   | none=>False)
  | none=>False)
 | _,_=>False
def Ib (P:Program)(t:TypeId)(cs:List AV)(o:Nat)(K:AV->Prop):Prop:=
 match zl P t,szB P t with
 | some false,some _=>(match cs[o]? with|some a=>af a K|none=>False)
 | some true,some k=>bif Nat.ble (o+k) cs.length then OX ((cs.drop o).take k) fun l=>K (.agg l)else False
 | _,_=>False
def XG (P:Program)(t:TypeId)(cs:List FV)(o:Nat)(K:AV->Prop):Prop:=Ib P t (cs.map FV.up) o K
def TV.up:TV->AV
 | .f x=>x.up
 | .n _ _ _=> .top
structure ATr (h:Option (Nat×Nat×Nat))(i o:Nat)(Kh:Nat->Prop)(K:Prop):Prop where
 hole : ∀e,h=some (i,o,e)->Kh e
 other:(∀e,h≠some (i,o,e))->K
def Ug (P:Program)(H:lM)(t:TypeId)(a:AV)(K:AV->Prop):Prop:=
 match a with
 | .ptr l o=>(match look H l with
  | some (.var _ cs)=>Ib P t cs o K
  | _=>False)
 | .ep l i o=>(match look H l with
  | some (.rows _ _ m)=>mD m i fun row=>XG P t row o K
  | some (.fz _ m)=>mD m i fun row=>XG P t row o K
  | some (.tree _ _ m h)=>(match zl P t,szB P t with
   | some false,some _=>ATr h i o (fun e=>K (.own e)) (ARt m i fun row=>Ib P t (row.map TV.up) o K)
   | _,_=>False)
  | _=>False)
 | .fp cs o=>XG P t cs o K
 | _=>False
def Bv (P:Program)(H:lM)(t:TypeId)(x i:AV)(K:AV->Prop):Prop:=
 match i with
 | .v (.int _ ix)=>(match P.underlying t with
  | some (.slice e)=>(match szB P e with
   | some sz=>(match x with
    | .lst sz' l=>bif Nat.beq sz sz' then mZ ix l.length fun j=>mD l j fun row=>K (.fp row 0)else False
    | .own l=>(match look H l with
     | some (.rows _ sz' m)=>bif Nat.beq sz sz' then mZ ix m.length fun j=>K (.ep l j 0)else False
     | some (.fz sz' m)=>bif Nat.beq sz sz' then mZ ix m.length fun j=>K (.ep l j 0)else False
     | some (.tree _ sz' m _)=>bif Nat.beq sz sz' then mZ ix m.length fun j=>K (.ep l j 0)else False
     | _=>False)
    | .sub l o n=>(match look H l with
     | some (.rows _ sz' _)=>bif Nat.beq sz sz' then mZ ix n fun j=>K (.ep l (o+j) 0)else False
     | some (.fz sz' _)=>bif Nat.beq sz sz' then mZ ix n fun j=>K (.ep l (o+j) 0)else False
     | _=>False)
    | _=>False)
   | none=>False)
  | some (.array n e)=>(match szB P e with
   | some sz=>(match x with
    | .ptr l o=>mZ ix n fun j=>K (.ptr l (o+j*sz))
    | .ep l i o=>mZ ix n fun j=>K (.ep l i (o+j*sz))
    | .fp cs o=>mZ ix n fun j=>K (.fp cs (o+j*sz))
    | _=>False)
   | none=>False)
  | _=>False)
 | _=>False
def RG (P:Program)(t:TypeId)(x i:AV)(K:AV->Prop):Prop:=
 match i with
 | .v (.int _ ix)=>(match P.underlying t,x with
  | some .string, .v (.string s)=>mZ ix s.size fun j=>K (.v (.int .u8 ((s.data.toList.getD j 0).toNat:Int)))
  | some (.array n e), .agg cs=>mZ ix n fun j=>(match szB P e with
   | some sz=>Ib P e cs (j*sz) K
   | none=>False)
  | _,_=>False)
 | _=>False
def rowsOf (H:lM)(a:AV):Option (Nat×List (List FV)):=
 match a with
 | .lst sz l=>some (sz,l)
 | .own l=>(match look H l with
  | some (.rows _ sz m)=>some (sz,m)
  | some (.fz sz m)=>some (sz,m)
  | _=>none)
 | .sub l o n=>(match look H l with
  | some (.rows _ sz m)=>some (sz,(m.drop o).take n)
  | some (.fz sz m)=>some (sz,(m.drop o).take n)
  | _=>none)
 | _=>none
def afM (P:Program)(H:lM)(t:TypeId)(a:AV)(K:AV->Prop):Prop:=
 match P.underlying t,a with
 | some .string, .v (.string s)=>K (.v (.int .i64 s.size))
 | some (.slice _), .lst _ l=>K (.v (.int .i64 l.length))
 | some (.slice _), .own l=>(match look H l with
  | some (.rows _ _ m)=>K (.v (.int .i64 m.length))
  | some (.fz _ m)=>K (.v (.int .i64 m.length))
  | _=>False)
 | some (.slice _), .sub _ _ n=>K (.v (.int .i64 n))
 | some (.slice _), .v (.slice _ n _)=>K (.v (.int .i64 n))
 | some (.array n _),_=>K (.v (.int .i64 n))
 | _,_=>False
def Ci (a:Option AV)(d:Int)(K:Int->Prop):Prop:=
 match a with
 | none=>K d
 | some (.v (.int _ n))=>K n
 | _=>False
def RH (m:Option AV)(b:Int)(n:Nat)(K:Prop):Prop:=
 match m with
 | none=>K
 | some (.v (.int _ z))=>lN (b<=z∧z<=(n:Int)) K
 | _=>False
def cut (lo hi:Option AV)(i j:Nat)(l:List (List FV)):List (List FV):=
 match lo,hi with
 | none,none=>l
 | none,some _=>l.take j
 | some _,none=>l.drop i
 | some _,some _=>(l.take j).drop i
def L9 (mV:Nat)(lo hi mx:Option AV)(i j:Nat):AV:=
 match lo,hi,mx with
 | none,none,none=> .own mV
 | _,_,_=> .sub mV i (j-i)
def aa2 (H:lM)(mV sz:Nat):Option Nat:=
 match look H mV with
 | some (.rows _ sz' m)=>bif Nat.beq sz sz' then some m.length else none
 | some (.fz sz' m)=>bif Nat.beq sz sz' then some m.length else none
 | _=>none
def RI (P:Program)(H:lM)(t:TypeId)(x:AV)(lo hi mx:Option AV)(K:AV->Prop):Prop:=
 match P.underlying t with
 | some .string=>(match x,mx with
  | .v (.string s),none=>Ci lo 0 fun a=>Ci hi s.size fun b=>sN a b s.size fun i j=>K (.v (.string (s.extract i j)))
  | _,_=>False)
 | some (.slice e)=>(match szB P e with
  | some sz=>(match x with
   | .lst sz' l=>bif Nat.beq sz sz' then Ci lo 0 fun a=>Ci hi l.length fun b=>RH mx b l.length (sN a b l.length fun i j=>K (.lst sz (cut lo hi i j l)))else False
   | .own l=>(match aa2 H l sz with
    | some m=>Ci lo 0 fun a=>Ci hi m fun b=>RH mx b m (sN a b m fun i j=>K (L9 l lo hi mx i j))
    | none=>False)
   | .sub l o n=>(match aa2 H l sz with
    | some _=>Ci lo 0 fun a=>Ci hi n fun b=>RH mx b n (sN a b n fun i j=>K (.sub l (o+i) (j-i)))
    | none=>False)
   | .v (.slice none 0 0)=>Ci lo 0 fun a=>Ci hi ((0:Nat):Int) fun b=>RH mx b 0 (sN a b 0 fun _ _=>K (.v (.slice none 0 0)))
   | _=>False)
  | none=>False)
 | _=>False
def RJ (P:Program)(H:lM)(b:Builtin)(ts:List TypeId)(args:List AV)(K:AV->Prop):Prop:=
 match b,ts,args with
 | .len,[t],[a]=>afM P H t a K
 | .min,_,[.v (.int k x), .v (.int _ y)]=>K (.v (.int k (min x y)))
 | .max,_,[.v (.int k x), .v (.int _ y)]=>K (.v (.int k (max x y)))
 | .min,_,[.v (.string x), .v (.string y)]=>K (.v (.string (FN x y)))
 | .max,_,[.v (.string x), .v (.string y)]=>K (.v (.string (FP x y)))
 | _,_,_=>False
def Mc (P:Program)(H:lM)(t:TypeId)(m k:AV)(ok:Bool)(K:AV->Prop):Prop:=
 match m,k with
 | .mp l, .v (.string s)=>(match P.underlying t,look H l with
  | some (.map kt et),some (.map M)=>(match P.underlying kt,(P.info? et).bind (·.zero)with
   | some .string,some z=>ALk M s z fun v b=>(match ok with
    | true=>K (.nN [QW v, .v (.bool b)])
    | false=>K (QW v))
   | _,_=>False)
  | some (.map kt et),some (.VN M)=>(match P.underlying kt,(P.info? et).bind (·.zero)with
   | some .string,some z=>ALk M s z fun v b=>(match ok with
    | true=>K (.nN [QW v, .v (.bool b)])
    | false=>K (QW v))
   | _,_=>False)
  | _,_=>False)
 | .fm M, .v (.string s)=>(match P.underlying t with
  | some (.map kt et)=>(match P.underlying kt,(P.info? et).bind (·.zero)with
   | some .string,some z=>ALk M s z fun v b=>(match ok with
    | true=>K (.nN [QW v, .v (.bool b)])
    | false=>K (QW v))
   | _,_=>False)
  | _=>False)
 | .mp l, .v (.int .i64 i)=>(match P.underlying t,look H l with
  | some (.map kt et),some (.Bo M)=>(match P.underlying kt,(P.info? et).bind (·.zero)with
   | some (.int .i64),some z=>ALi M i z fun v b=>(match ok with
    | true=>K (.nN [v, .v (.bool b)])
    | false=>K v)
   | _,_=>False)
  | _,_=>False)
 | _,_=>False
def XH (P:Program)(Hr:lM)(src dst:TypeId)(a:AV)(K:AV->Prop):Prop:=
 match P.underlying src,P.underlying dst,a with
 | some _,some (.int k), .v (.int _ n)=>lV k n fun n=>K (.v (.int k n))
 | some (.string),some .string, .v (.string s)=>K (.v (.string s))
 | some (.int _),some .string, .v (.int k n)=>K (.v (.string (Utf8.encode n)))
 | some (.slice e),some .string,a=>(match P.underlying e with
  | some (.int .u8)=>(match a with
   | .v (.slice none 0 0)=>K (.v (.string ⟨#[]⟩))
   | a=>(match rowsOf Hr a with
    | some (sz,l)=>bif Nat.beq sz 1 then F7 l fun s=>K (.v (.string s))else False
    | none=>False))
  | _=>False)
 | _,_,_=>False
def aQ (P:Program)(Hr H:lM)(o:Oper)(ρ:l9)(K:AV->Prop):Prop:=
 match o.op with
 | .move x=>af (o7 ρ x) K
 | .assign x=>af (o7 ρ x) K
 | .pick c a b=>(match o7 ρ c with
  | .v (.bool t)=>(match o7 ρ a,o7 ρ b with
   | .v (.bool x), .v (.bool y)=>K (.v (.bool (bif t then x else y)))
   | _,_=>OE t (K (o7 ρ a)) (K (o7 ρ b)))
  | _=>False)
 | .build t parts=>OX (parts.toList.map fun p=>o7 ρ p.2) fun vs=>RF P t ((parts.toList.map (·.1)).zip vs) K
 | .load t a=>Ug P Hr t (o7 ρ a) K
 | .nilCheck x=>(match o7 ρ x with
  | .ptr l o=>K (.ptr l o)
  | .ep l i o=>K (.ep l i o)
  | .fp cs o=>K (.fp cs o)
  | _=>False)
 | .binOp op t x y _=>af (o7 ρ x) fun a=>af (o7 ρ y) fun b=>afJ P H op t a b K
 | .unOp op _ x=>af (o7 ρ x) fun a=>aUn op a K
 | .convert src dst x=>af (o7 ρ x) fun a=>XH P Hr src dst a K
 | .makeFunc fn first captured=>OX (first.toList.map (o7 ρ)) fun a=>OX (captured.toList.map (o7 ρ)) fun b=>K (.fn fn a b)
 | .slice t x lo hi mx=>af (o7 ρ x) fun x=>afO (lo.map (o7 ρ)) fun lo=>afO (hi.map (o7 ρ)) fun hi=>afO (mx.map (o7 ρ)) fun mx=>RI P H t x lo hi mx K
 | .fieldAddr s x f=>H9 P s (o7 ρ x) f K
 | .field t x f=>(match o7 ρ x with
  | .agg cs=>Rz P t cs f K
  | _=>False)
 | .indexAddr t x i=>af (o7 ρ x) fun x=>af (o7 ρ i) fun i=>Bv P H t x i K
 | .index t x i=>af (o7 ρ x) fun x=>af (o7 ρ i) fun i=>RG P t x i K
 | .lookup t m k ok=>af (o7 ρ m) fun m=>af (o7 ρ k) fun k=>Mc P Hr t m k ok K
 | .extract t i=>(match o7 ρ t with
  | .nN vs=>(match vs[i]? with
   | some v=>af v K
   | none=>False)
  | _=>False)
 | .call c=>(match c.callee with
  | .builtin b=>OX (c.args.toList.map (o7 ρ)) fun args=>RJ P H b c.argTypes.toList args K
  | _=>False)
 | _=>False
def setH (H:lM)(l:Nat)(b:oZ):lM:=
 match H with
 | []=> []
 | p::r=>bif Nat.beq p.1 l then(l,b)::r else p::setH r l b
def RP (H:lM)(l:Nat):lM:=
 match H with
 | []=> []
 | p::r=>bif Nat.beq p.1 l then RP r l else p::RP r l
def dn (H:lM)(a:AV)(K:FV->lM->Prop):Prop:=
 match a with
 | .v x=>K (.v x) H
 | .lst sz l=>K (.lst sz l) H
 | .fp cs o=>K (.fp cs o) H
 | .own l=>(match look H l with
  | some (.rows _ sz m)=>K (.lst sz m) (setH H l (.fz sz m))
  | some (.fz sz m)=>K (.lst sz m) H
  | _=>False)
 | .fm M=>K (.fm M) H
 | .mp l=>(match look H l with
  | some (.map M)=>K (.fm M) (setH H l (.VN M))
  | some (.VN M)=>K (.fm M) H
  | _=>False)
 | _=>False
def dnL (H:lM)(l:List AV)(K:List FV->lM->Prop):Prop:=
 match l with
 | []=>K [] H
 | a::r=>dn H a fun x H'=>dnL H' r fun r' um=>K (x::r') um
def cell1 (a:AV):Bool:=
 match a with
 | .v x=>x.oneCell'
 | .top=>false
 | .agg _=>false
 | .nN _=>false
 | _=>true
def all1:List AV->Bool
 | []=>true
 | a::r=>cell1 a&&all1 r
def F8 (H:lM)(sz:Nat)(i:Nat)(parts:List (Nat×AV))(K:List (List FV)->lM->Prop):Prop:=
 match parts with
 | []=>K [] H
 | (j,a)::r=>bif Nat.beq i j&&Nat.beq (cellsOf a).length sz&&all1 (cellsOf a)then dnL H (cellsOf a) fun x H'=>F8 H' sz (i+1) r fun l um=>K (x::l) um else False
def zD (P:Program)(t:TypeId)(m:Nat)(parts:List (Nat×AV))(n:Nat)(H:lM)(K:AV->Nat->lM->Prop):Prop:=
 match P.underlying t with
 | some (.slice e)=>(match P.info? e with
  | some i=>(match i.zero with
   | some z=>bif Nat.beq z.cells.toList.length i.size&&Nat.ble 1 i.size&&Nat.ble (m*i.size) 16777216&&Nat.beq parts.length m&&Nat.ble m maxLen then
     F8 H i.size 0 parts fun l H'=>K (.own n) (n+1) ((n, .rows e i.size l)::H')else False
   | none=>False)
  | none=>False)
 | _=>False
def RU (P:Program)(H:lM)(t:TypeId)(a x:AV)(K:lM->Prop):Prop:=
 match szB P t with
 | some k=>bif Nat.beq (cellsOf x).length k&&all1 (cellsOf x)then(match a with
  | .ptr l o=>(match look H l with
   | some (.var T cs)=>bif Nat.ble (o+k) cs.length then spine (Ei cs o (cellsOf x)) fun cs'=>K (setH H l (.var T cs'))else False
   | _=>False)
  | .ep l i o=>(match look H l with
   | some (.tree T sz m h)=>(match h,x with
    | some (i',o',_), .own e'=>ATs (i'=i∧o'=o) (K (setH H l (.tree T sz m (some (i',o',e')))))
    | _,_=>False)
   | some (.rows _ _ _)=>dnL H (cellsOf x) fun x' H'=>(match look H' l with
    | some (.rows T sz m)=>mD m i fun row=>bif Nat.ble (o+k) row.length then spine (Ei row o x') fun row'=>K (setH H' l (.rows T sz (m.set i row')))else False
    | _=>False)
   | _=>False)
  | _=>False)else False
 | none=>False
def Ic (P:Program)(ts:List TypeId)(args:List AV)(n:Nat)(H:lM)(K:AV->Nat->lM->Prop):Prop:=
 match ts,args with
 | [t,t'],[d,s]=>bif Nat.beq t t' then(match P.underlying t with
  | some (.slice E)=>(match szB P E,qG P E,xH P E with
   | some sz,some qY,some zs=>bif Nat.beq zs.length sz&&Nat.ble 1 sz then
    (match (match s with | .v (.slice none 0 0)=>some (sz,[])|s=>rowsOf H s)with
    | some (sz',m)=>bif Nat.beq sz sz' then(match d with
     | .v (.slice none 0 0)=>lN (m.length*qY<=140737488355328∧m.length<=maxLen) (K (.own n) (n+1) ((n, .rows E sz m)::H))
     | .own l=>(match look H l with
      | some (.rows E' RV r)=>bif Nat.beq E E'&&Nat.beq sz RV then lN ((r.length+m.length)*qY<=140737488355328∧r.length+m.length<=maxLen) (K (.own n) (n+1) ((n, .rows E sz (r++m))::RP H l))else False
      | _=>False)
     | _=>False)else False
    | none=>False)else False
   | _,_,_=>False)
  | _=>False)else False
 | _,_=>False
def OY (P:Program)(E:TypeId):Bool:=match (P.info? E).bind (·.zero)with|some (.int .u8 n)=>decide (n=0)|_=>false
def OZ (P:Program)(t t':TypeId)(d:AV)(x:ByteArray)(n:Nat)(H:lM)(K:AV->Nat->lM->Prop):Prop:=
 match P.underlying t,P.underlying t',d with
 | some (.slice E),some .string, .own l=>(match szB P E,qG P E with
  | some sz,some qY=>(match look H l with
   | some (.rows E' sz' r)=>bif Nat.beq sz 1&&Nat.beq qY 1&&OY P E&&Nat.beq E E'&&Nat.beq sz sz' then lN (r.length+x.size<=140737488355328∧r.length+x.size<=maxLen) (K (.own n) (n+1) ((n, .rows E sz (r++x.data.toList.map oh))::RP H l))else False
   | _=>False)
  | _,_=>False)
 | _,_,_=>False
def aa3 (P:Program):Nat->Option TypeId
 | 0=>none
 | k+1=>match aa3 P k with
  | some u=>some u
  | none=>(match P.underlying k with|some .string=>some k|_=>none)
def vI (m:Nat):ByteArray:=⟨(List.replicate m 0).toArray⟩
def XI (P:Program)(t t':TypeId)(d:AV)(x:Int)(n:Nat)(H:lM)(K:AV->Nat->lM->Prop):Prop:=
 match P.underlying t',aa3 P 64 with
 | some (.int _),some u=>KG x x 1 fun m=>OZ P t u d (vI m) n H K
 | _,_=>False
def Md (P:Program)(ts:List TypeId)(args:List AV)(n:Nat)(H:lM)(K:AV->Nat->lM->Prop):Prop:=
 match ts,args with
 | [t,t'],[d, .v (.string x)]=>OZ P t t' d x n H K
 | [t,t'],[d, .v (.int .i64 x)]=>XI P t t' d x n H K
 | _,_=>Ic P ts args n H K
def Bz (P:Program)(t:TypeId)(l c:AV)(n:Nat)(H:lM)(K:AV->Nat->lM->Prop):Prop:=
 match l,c with
 | .v (.int _ x), .v (.int _ y)=>(match P.underlying t with
  | some (.slice E)=>(match szB P E,qG P E,xH P E with
   | some sz,some qY,some zs=>bif Nat.beq zs.length sz&&Nat.ble 1 sz&&zs.all (·.oneCell')then
    KG x y qY fun m=>K (.own n) (n+1) ((n, .rows E sz (List.replicate m (zs.map .v)))::H)else False
   | _,_,_=>False)
  | _=>False)
 | _,_=>False
def XJ (a:AV):Option Value:=
 match a with
 | .v x=>some x
 | .agg cs=>(match valsOf cs with|some l=>some (.agg l.toArray)|none=>none)
 | _=>none
def yS (P:Program)(H:lM)(t:TypeId)(m k x:AV)(K:lM->Prop):Prop:=
 match m,k with
 | .mp l, .v (.int .i64 i)=>(match P.underlying t,look H l with
  | some (.map kt _),some (.Bo _)=>(match P.underlying kt with
   | some (.int .i64)=>dn H (match XJ x with|some v=> .v v|none=>x) fun y H'=>(match look H' l with
    | some (.Bo M)=>K (setH H' l (.Bo fun k'=>if k'=i then some y else M k'))
    | _=>False)
   | _=>False)
  | _,_=>False)
 | _,_=>match m,k,XJ x with
 | .mp l, .v (.string s),some v=>(match P.underlying t,look H l with
  | some (.map kt _),some (.map M)=>(match P.underlying kt with
   | some .string=>K (setH H l (.map fun k'=>if k'=s then some v else M k'))
   | _=>False)
  | _,_=>False)
 | _,_,_=>False
def splice (m:List (List FV))(o:Nat)(ys:List (List FV)):List (List FV):=m.take o++ys++m.drop (o+ys.length)
def aeO (H:lM)(d:AV):Option (Nat×Nat×Nat):=
 match d with
 | .own l=>(match look H l with|some (.rows _ _ m)=>some (l,0,m.length)|_=>none)
 | .sub l o k=>some (l,o,k)
 | _=>none
def XK (P:Program)(ts:List TypeId)(args:List AV)(n:Nat)(H:lM)(K:AV->Nat->lM->Prop):Prop:=
 match ts,args with
 | [t,_],[d,s]=>(match P.underlying t with
  | some (.slice E)=>(match szB P E,aeO H d,rowsOf H s with
   | some sz,some (l,o,k),some (sz',xs)=>(match look H l with
    | some (.rows T RV m)=>bif Nat.beq sz 1&&(Nat.beq sz' 1&&Nat.beq RV 1)then K (.v (.int .i64 ((min xs.length k:Nat):Int))) n (setH H l (.rows T 1 (splice m o (xs.take (min xs.length k)))))else False
    | _=>False)
   | _,_,_=>False)
  | _=>False)
 | _,_=>False
def mQ (P:Program)(G:Glob)(f:FuncId)(args:List AV)(n:Nat)(H:lM)(R:AV->Nat->lM->Prop):Prop:=
 ∀w σ F vs,St G w (wL w σ H) F n σ F H w->nX n σ F w args vs->
  zC P f vs.toArray w fun v w'=> ∃a n' σ' F' H',R a n' H'∧St G w (wL w σ H) F n' σ' F' H' w'∧Ext n σ F w n' σ' F' w'∧nI n' σ' F' w' a v
structure zi (P:Program)(G:Glob)(f:FuncId)(args:List AV)(n:Nat)(H:lM)(K:AV->Nat->lM->Prop):Prop where
 ok:callable P f=true
 runs:mQ P G f args n H K
def akJ (P:Program)(t:TypeId):Bool:=match P.underlying t with|some (.map kt _)=>(match P.underlying kt with|some (.int .i64)=>true|_=>false)|_=>false
def Me (P:Program)(src dst:TypeId):Bool:=
 match P.underlying src,P.underlying dst with
 | some .string,some (.slice e)=>(match P.underlying e with|some (.int .u8)=>true|_=>false)
 | _,_=>false
def aE (P:Program)(G:Glob)(o:Oper)(ρ:l9)(n:Nat)(H:lM)(K:AV->Nat->lM->Prop):Prop:=
 match o.op with
 | .convert src dst x=>(match Me P src dst with
  | true=>(match o7 ρ x with
   | .v (.string s)=>K (.lst 1 (s.data.toList.map oh)) n H
   | _=>False)
  | false=>aQ P H H o ρ fun a=>K a n H)
 | .alloc elem=>(match (P.info? elem).bind (·.zero)with
  | some z=>bif all1 (z.cells.toList.map .v)then spine (z.cells.toList.map .v) fun cs=>K (.ptr n 0) (n+1) ((n, .var elem cs)::H)else False
  | none=>False)
 | .box elem x=>bif all1 (cellsOf (o7 ρ x))then OX (cellsOf (o7 ρ x)) fun cs=>K (.ptr n 0) (n+1) ((n, .var elem cs)::H)else False
 | .buildSlice t m parts=>OX (parts.toList.map fun p=>o7 ρ p.2) fun vs=>zD P t m ((parts.toList.map (·.1)).zip vs) n H fun a n' H'=>spine H' fun um=>K a n' um
 | .store t a x=>af (o7 ρ x) fun x=>RU P H t (o7 ρ a) x fun H'=>spine H' fun um=>K (.v undef) n um
 | .makeSlice t l c=>af (o7 ρ l) fun l=>af (o7 ρ c) fun c=>Bz P t l c n H K
 | .makeMap t r=>(match r with
  | none=>(match akJ P t with
   | true=>K (.mp n) (n+1) ((n, .Bo fun _=>none)::H)
   | false=>K (.mp n) (n+1) ((n, .map fun _=>none)::H))
  | some _=>False)
 | .mapUpdate t m k x=>af (o7 ρ m) fun m=>af (o7 ρ k) fun k=>af (o7 ρ x) fun x=>yS P H t m k x fun H'=>spine H' fun um=>K (.v undef) n um
 | .insert t m k x=>af (o7 ρ m) fun m=>af (o7 ρ k) fun k=>af (o7 ρ x) fun x=>yS P H t m k x fun H'=>spine H' fun um=>K (.v undef) n um
 | .call c=>(match c.callee with
  | .builtin .append=>OX (c.args.toList.map (o7 ρ)) fun args=>Md P c.argTypes.toList args n H fun a n' H'=>spine H' fun um=>K a n' um
  | .builtin .copy=>OX (c.args.toList.map (o7 ρ)) fun args=>XK P c.argTypes.toList args n H fun a n' H'=>spine H' fun um=>K a n' um
  | .value f=>(match o7 ρ f with
   | .v (.func (.func g) first captured)=>OX (c.args.toList.map (o7 ρ)) fun args=>zi P G g ((first.toList.map QW++args)++captured.toList.map QW) n H K
   | .fn (.func g) first captured=>OX (c.args.toList.map (o7 ρ)) fun args=>zi P G g ((first++args)++captured) n H K
   | _=>False)
  | _=>aQ P H H o ρ fun a=>K a n H)
 | _=>aQ P H H o ρ fun a=>K a n H
def xu (n:Nat)(σ:Nat->Loc)(F:Nat->Prop)(w:World)(H:lM):Prop:= ∀mV blk,look H mV=some blk->vU n σ F w (σ mV) blk
structure vJ (σ:Nat->Loc)(F:Nat->Prop)(H:lM)(w u:World):Prop where
 f : ∀b,F b->u.heap[b]? = w.heap[b]?
 h : ∀mV blk g,look H mV=some blk->blk.own=true->rY w (σ mV) blk g->u.heap[g]? = w.heap[g]?
theorem vJ.refl (σ:Nat->Loc)(F:Nat->Prop)(H:lM)(w:World):vJ σ F H w w:=⟨fun _ _=>rfl,fun _ _ _ _ _ _=>rfl⟩
theorem pq {q:Bool}{u:World}{K:Value->World->Prop}{v:Value}(h:K v u):wr q u K v u:=by
 cases q with
 | false=>exact h
 | true=>exact⟨rfl,h⟩
theorem nI.oJ {n:Nat}{σ:Nat->Loc}{F:Nat->Prop}{w:World}{x v:Value}(h:nI n σ F w (.v x) v):v=x:=by cases h;rfl
theorem uZ {n:Nat}{σ:Nat->Loc}{F:Nat->Prop}{w:World}(v:Value):nI n σ F w (QW v) v:=by
 have key : ∀(cs:List Value),nX n σ F w (cs.map .v) cs:=fun cs=> .of (by simp) fun j a v h1 h2=>by
  rw [aU,h2]at h1
  simp only [bU,aN]at h1
  rw [<-h1];exact .v _
 cases v with
 | agg cs=>have:=(key cs.toList).agg;rw [iR]at this;exact this
 | tuple cs=>have:=(key cs.toList).nN;rw [iR]at this;exact this
 | _=>exact .v _
def Ans (n:Nat)(σ:Nat->Loc)(F:Nat->Prop)(w:World)(K:AV->Prop)(S:World->Prop)(X:World->Bool->(Value->World->Prop)->Prop):Prop:=
 ∃a v,K a∧nI n σ F w a v∧∀u q (Kv:Value->World->Prop),S u->Kv v u->X u q Kv
section
variable {P:Program}{n:Nat}{σ:Nat->Loc}{F:Nat->Prop}{w:World}{H:lM}{oD:l9}{ρ:mW}{K:AV->Prop}{S:World->Prop}
theorem nU (hr : ∀s,nI n σ F w (oD s) (ρ s))(x:Operand):nI n σ F w (o7 oD x) (qE ρ x):=by
 cases x with
 | tmp t=>exact hr t
 | const v=>exact uZ v
 | global g=>exact .v _
 | func f=>exact .v _
theorem wW (hr : ∀s,nI n σ F w (oD s) (ρ s))(xs:List Operand):nX n σ F w (xs.map (o7 oD)) (xs.map (qE ρ)):=by
 induction xs with
 | nil=>trivial
 | cons x r ih=>exact⟨nU hr x,ih⟩
theorem KH (hr : ∀s,nI n σ F w (oD s) (ρ s))(xs:List (Nat×Operand)):nX n σ F w (xs.map fun p=>o7 oD p.2) (xs.map fun p=>qE ρ p.2):=by
 induction xs with
 | nil=>trivial
 | cons x r ih=>exact⟨nU hr x.2,ih⟩
theorem BA {op:BinOp}{k:IntKind}{a b:Int}(h:XF op k a b K):Ans n σ F w K S fun u _ Kv=>Q8 op k a b u Kv:=by
 cases op<;>simp only [XF]at h
 case add=>exact⟨_,_,h.ex, .v _,fun u q Kv _ hk=>hk⟩
 case sub=>exact⟨_,_,h.ex, .v _,fun u q Kv _ hk=>hk⟩
 case mul=>exact⟨_,_,h.ex, .v _,fun u q Kv _ hk=>hk⟩
 case quo=>exact⟨_,_,h.go.ex, .v _,fun u q Kv _ hk=>⟨h.req,hk⟩⟩
 case rem=>exact⟨_,_,h.go, .v _,fun u q Kv _ hk=>⟨h.req,hk⟩⟩
 case shl=>exact⟨_,_,h.go.ex, .v _,fun u q Kv _ hk=>⟨h.req,hk⟩⟩
 case shr=>exact⟨_,_,h.go, .v _,fun u q Kv _ hk=>⟨h.req,hk⟩⟩
 all_goals exact⟨_,_,h, .v _,fun u q Kv _ hk=>hk⟩
theorem RY {op:BinOp}{a b:ByteArray}(h:afG op a b K):Ans n σ F w K S fun u _ Kv=>aaP op a b u Kv:=by
 cases op<;>simp only [afG]at h
 case add=>exact⟨_,_,h.go, .v _,fun u q Kv _ hk=>⟨h.req,hk⟩⟩
 all_goals first|exact h.elim|exact⟨_,_,h, .v _,fun u q Kv _ hk=>hk⟩
theorem Ie : ∀ {xs:List AV} {us vs:List Value},valsOf xs=some us->nX n σ F w xs vs->vs=us:=by
 intro xs
 induction xs with
 | nil=>intro us vs h r;cases vs with
  | nil=>simp only [valsOf,aN]at h;exact h
  | cons _ _=>exact r.elim
 | cons x xs ih=>intro us vs h r;cases vs with
  | nil=>exact r.elim
  | cons v vs=>
   cases x<;>simp only [valsOf]at h<;>try cases h
   split at h
   ·rename_i l hl
    injection h with h
    rw [<-h,ih hl r.2,r.1.oJ]
   ·cases h
theorem XL {P:Program}{w:World}{K:Value->World->Prop}{k:IntKind}{n:Int}(c:K (.int k (nD .xor k (bif k.signed then -1 else k.max) n)) w):nZ P (Op.unary .xor (.int k n)) w K:=by
 have e:(bif k.signed then(-1:Int)else k.max)=if k.signed then -1 else k.max:=by cases k.signed<;>rfl
 rw [e]at c
 refine pI ?_ c
 simp [Op.unary,Op.intBits,nD]
theorem VO {op:UnOp}{a:AV}{va:Value}(h:aUn op a K)(ra:nI n σ F w a va):Ans n σ F w K S fun u q Kv=>vUn P q op va u Kv:=by
 unfold aUn at h
 split at h
 ·rw [ra.oJ];exact⟨_,_,h, .v _,fun u q Kv _ hv=>hv⟩
 ·rw [ra.oJ];exact⟨_,_,h.ex, .v _,fun u q Kv _ hv=>hv⟩
 ·rename_i k n
  rw [ra.oJ];exact⟨_,_,h, .v _,fun u q Kv _ hv=>XL (pq hv)⟩
 ·cases h
theorem nX.aa4 {as:List AV}{vs:List Value}{o:Nat}{a:AV}(r:nX n σ F w as vs)(h:as[o]? = some a) : ∃v,vs[o]? = some v∧nI n σ F w a v:=by
 have hl:=r.len
 have ho:=(aO.1 h).1
 exact⟨vs[o],aj (by omega),r.at o a _ h (aj (by omega))⟩
theorem MB {t:TypeId}{cs:List AV}{f:Nat}{vs:List Value}(h:Rz P t cs f K)(r:nX n σ F w cs vs):Ans n σ F w K S fun u _ Kv=>D6 P t vs.toArray f u Kv:=by
 unfold Rz at h
 split at h
 ·rename_i fs hu
  split at h
  ·rename_i fd hf
   split at h
   ·rename_i i ha hi
    cases hb:Nat.ble (fd.offset+i.size) cs.length with
    | false=>rw [hb]at h;exact h.elim
    | true=>
     rw [hb,cond_true,uf]at h
     exact⟨_,_,h,((r.drop fd.offset).take i.size).agg,fun u q Kv _ hv=>by simp only [D6,hu,hf,ha,hi,ou];exact hv⟩
   ·rename_i i ha hi
    split at h
    ·rename_i a hg
     rw [rH]at h
     obtain⟨v,h1,h2⟩:=r.aa4 hg
     exact⟨_,v,h,h2,fun u q Kv _ hv=>by simp only [D6,hu,hf,ha,hi,h1];exact hv⟩
    ·cases h
   ·cases h
  ·cases h
 ·cases h
theorem BD {t:TypeId}{f d:Nat}(h:afK P t f=some d)(a:Addr)(u:World)(Kv:Value->World->Prop)(k:Kv (.pointer (some (a.add d))) u):wR P t a f u Kv:=by
 unfold afK at h
 split at h
 ·rename_i fs hu
  split at h
  ·rename_i fd hf
   split at h
   ·rename_i i hi
    cases hz:Nat.beq i.size 0 with
    | true=>rw [hz]at h;cases h
    | false=>
     rw [hz,cond_false]at h
     injection h with h
     subst h
     simp only [wR,hu,hf,hi,hz,cond_false];exact k
   ·cases h
  ·cases h
 ·cases h
theorem KL {a:AV}{v:Value}(r:nI n σ F w a v)(hne:a≠ .top):nX n σ F w (cellsOf a) v.cells.toList:=by
 cases r with
 | agg xs us hx rx=>exact .of (by simpa [Value.cells,cellsOf]using hx) (by simpa [Value.cells,cellsOf]using rx)
 | v _=>
  cases v with
  | agg cs=>
   refine .of (by simp [Value.cells,cellsOf]) fun j a v h1 h2=> ?_
   simp only [Value.cells]at h2
   simp only [cellsOf,aU]at h1
   rw [h2]at h1
   simp only [bU,aN]at h1
   rw [<-h1];exact .v _
  | _=>exact⟨.v _,trivial⟩
 | top x=>exact(hne rfl).elim
 | lst h=>
  obtain⟨oa,m,c,rfl⟩ : ∃oa m c,v = .slice oa m c:=by cases h;exact⟨_,_,_,rfl⟩
  exact⟨.lst h,trivial⟩
 | fp h=>
  obtain⟨p,rfl⟩ : ∃p,v = .pointer p:=by cases h;exact⟨_,rfl⟩
  exact⟨.fp h,trivial⟩
 | fm h=>
  obtain⟨p,rfl⟩ : ∃p,v = .map p:=by cases h;exact⟨_,rfl⟩
  exact⟨.fm h,trivial⟩
 | ptr l o b hl hb=>exact⟨.ptr l o b hl hb,trivial⟩
 | ep l i o b hl hb=>exact⟨.ep l i o b hl hb,trivial⟩
 | own l hl=>exact⟨.own l hl,trivial⟩
 | tC l oa hl hn hc=>exact⟨.tC l oa hl hn hc,trivial⟩
 | sub l o k oa c hl hk hc hnil ho=>exact⟨.sub l o k oa c hl hk hc hnil ho,trivial⟩
 | mp l b hl hb=>exact⟨.mp l b hl hb,trivial⟩
 | fn f xs ys us vs hx hy rx ry=>exact⟨.fn f xs ys us vs hx hy rx ry,trivial⟩
 | nN xs us hx rx=>exact⟨.nN xs us hx rx,trivial⟩
theorem O1 : ∀ {vs:List AV} {us:List Value} {as:List AV} {bs:List Value} {off:Nat},nX n σ F w vs us->nX n σ F w as bs->nX n σ F w (Ei as off vs) (vO bs off us):=by
 intro vs
 induction vs with
 | nil=>intro us as bs off h k;cases us with
  | nil=>exact k
  | cons _ _=>exact h.elim
 | cons v vs ih=>intro us as bs off h k;cases us with
  | nil=>exact h.elim
  | cons u us=>exact ih h.2 (k.set off h.1)
theorem Ej (l:List Value):nX n σ F w (l.map .v) l:= .of (by simp) fun j a v h1 h2=>by
 rw [aU,h2]at h1
 simp only [bU,aN]at h1
 rw [<-h1];exact .v _
theorem KN (place:Nat->Option (Nat×Nat)) : ∀ {ks:List Nat} {ps:List AV} {us:List Value} {cells:List AV} {bs:List Value} {l:List AV},nX n σ F w ps us->nX n σ F w cells bs->
  Ia place cells (ks.zip ps)=some l->∃m,zf place bs (ks.zip us)=some m∧nX n σ F w l m:=by
 intro ks
 induction ks with
 | nil=>intro ps us cells bs l _ hc h;simp only [List.zip_nil_left,Ia,aN]at h;subst h;exact⟨bs,rfl,hc⟩
 | cons k ks ih=>
  intro ps us cells bs l hp hc h
  cases ps with
  | nil=>cases us with
   | nil=>simp only [List.zip_nil_right,Ia,aN]at h;subst h;exact⟨bs,rfl,hc⟩
   | cons _ _=>exact hp.elim
  | cons p ps=>cases us with
   | nil=>exact hp.elim
   | cons u us=>
    simp only [jf,Ia]at h
    split at h
    ·cases h
    ·rename_i off size hpl
     cases hb:(RD p&&Nat.beq (cellsOf p).length size&&Nat.ble (off+(cellsOf p).length) cells.length)with
     | false=>rw [hb]at h;cases h
     | true=>
      rw [hb,cond_true]at h
      simp only [aB]at hb
      have hcr:=KL hp.1 (fun e=>by rw [e]at hb;simp [RD]at hb)
      obtain⟨m,h1,h2⟩:=ih hp.2 (O1 hcr hc) h
      refine⟨m, ?_,h2⟩
      simp only [jf,zf,hpl]
      rw [hcr.len,hc.len,hb.1.2,hb.2,Bool.and_self,cond_true]
      exact h1
theorem MC {t:TypeId}{ks:List Nat}{as:List AV}{vs:List Value}(h:RF P t (ks.zip as) K)(r:nX n σ F w as vs):Ans n σ F w K S fun u _ Kv=>D7 P t (ks.zip vs) u Kv:=by
 unfold RF at h
 split at h
 ·rename_i z fs hz hu
  split at h
  ·rename_i pl hpl
   split at h
   ·rename_i l hl
    rw [uf]at h
    obtain⟨m,h1,h2⟩:=KN _ r (Ej z.cells.toList) hl
    exact⟨_,_,h,h2.agg,fun u q Kv _ hv=>by simp only [D7,hz,hu,hpl,h1,ou];exact hv⟩
   ·cases h
  ·cases h
 ·rename_i z m e hz hu
  split at h
  ·rename_i i hi
   split at h
   ·rename_i l hl
    rw [uf]at h
    obtain⟨m,h1,h2⟩:=KN _ r (Ej z.cells.toList) hl
    exact⟨_,_,h,h2.agg,fun u q Kv _ hv=>by simp only [D7,hz,hu,hi,h1,ou];exact hv⟩
   ·cases h
  ·cases h
 ·cases h
theorem vK {t:TypeId}{cs:List AV}{vs:List Value}{b base o:Nat}(h:Ib P t cs o K)(r:nX n σ F w cs vs)(hc : ∀u,S u->∀j v,vs[j]? = some v->u.cell? ⟨b,base+j,none⟩=some v) :
  Ans n σ F w K S fun u q Kv=>nZ P (loadVar t ⟨b,base+o,none⟩) u (wr q u Kv):=by
 unfold Ib at h
 split at h
 ·rename_i k ha hs
  split at h
  ·rename_i a hg
   rw [rH]at h
   obtain⟨v,h1,h2⟩:=r.aa4 hg
   exact⟨_,v,h,h2,fun u q Kv hu hv=>oV ha (hc u hu o v h1) (pq hv)⟩
  ·cases h
 ·rename_i k ha hs
  cases hb:Nat.ble (o+k) cs.length with
  | false=>rw [hb]at h;exact h.elim
  | true=>
   rw [hb,cond_true,uf]at h
   have hl:=r.len
   have hle:=aP hb
   have hlen:((vs.drop o).take k).length=k:=by simp;omega
   refine⟨_,_,h,((r.drop o).take k).agg,fun u q Kv hu hv=>OM ha (by rw [hlen];exact hs) (fun j v hj=> ?_) (pq hv)⟩
   rw [add0,fZ]
   refine hc u hu (o+j) v ?_
   rw [bQ]at hj
   split at hj
   ·simpa using hj
   ·cases hj
 ·cases h
theorem Ig {u:World}{b base:Nat} : ∀(m:Nat),(∀j,j<m->∃v,u.cell? ⟨b,base+j,none⟩=some v∧v.oneCell'=true)->∃vs:List Value,vs.length=m∧∀j v,vs[j]? = some v->u.cell? ⟨b,base+j,none⟩=some v∧v.oneCell'=true:=by
 intro m
 induction m with
 | zero=>intro _;exact⟨[],rfl,fun j v h=>by simp at h⟩
 | succ m ih=>
  intro h
  obtain⟨vs,h1,h2⟩:=ih fun j hj=>h j (by omega)
  obtain⟨v,h3⟩:=h m (by omega)
  refine⟨vs++ [v],by simp [h1],fun j x hj=> ?_⟩
  by_cases hjm:j<vs.length
  ·rw [dQ hjm]at hj;exact h2 j x hj
  ·rw [dG (by omega)]at hj
   have hj0:j-vs.length=0:=by
    have:=(aO.1 hj).1
    simp at this;omega
   rw [hj0]at hj
   simp only [bW,aN]at hj
   have:j=m:=by omega
   rw [this, <-hj];exact h3
theorem O4 {cs:List FV}{o:Nat}{x:Value}(h:pJ F w (.fp cs o) x) : ∃b off vs,x = .pointer (some ⟨b,off+o,none⟩)∧F b∧nX n σ F w (cs.map FV.up) vs∧(∀v∈vs,v.oneCell'=true)∧∀j v,vs[j]? = some v->w.cell? ⟨b,off+j,none⟩=some v:=by
 cases h with
 | fp _ _ b off hb hex hrep=>
  obtain⟨vs,h1,h2⟩:=Ig cs.length hex
  refine⟨b,off,vs,rfl,hb, .of (by simp [h1]) fun j a v ha hv=> ?_,fun v hv=> ?_,fun j v hj=>(h2 j v hj).1⟩
  ·rw [aU]at ha
   cases hc:cs[j]? with
   | none=>rw [hc]at ha;cases ha
   | some c=>
    rw [hc]at ha
    simp only [bU,aN]at ha
    rw [<-ha]
    exact(hrep j c v hc (h2 j v hv).1).up
  ·obtain⟨j,hj⟩:=bZ.1 hv
   exact(h2 j v hj).2
theorem BF {L:Loc}{H:lM}{mV:Nat}{t sz:Nat}{l:List (List FV)}{i:Nat}{row:List FV}(hL:L=σ mV)(hk:look H mV=some (.rows t sz l))(hH:xu n σ F w H)(hi:l[i]? = some row) :
  ∃g vs,L.b=some g∧nX n σ F w (row.map FV.up) vs∧∀j v,vs[j]? = some v->w.cell? ⟨g,i*sz+j,none⟩=some v:=by
 subst hL
 obtain⟨h1,h2,xs,hO,hR⟩:=hH _ _ hk
 have hil:=(aO.1 hi).1
 obtain⟨g,cur,hg,_,hB,hle,_,hcl,htk⟩:=hO.blk (by omega)
 have hb:(σ mV).b=some g:=by
  unfold Loc.oa at hg
  cases hx:(σ mV).b with
  | none=>rw [hx]at hg;cases hg
  | some g'=>rw [hx]at hg;simp at hg;rw [hg]
 have hrl:row.length=sz:=hR.1 row (aZ hi)
 have hi1:i*sz+sz<=l.length*sz:=by
  have:(i+1)*sz<=l.length*sz:=aX _ hil
  rw [bJ,dF]at this;exact this
 refine⟨g,(xs.drop (i*sz)).take sz,hb, .of ?_ fun j a v ha hv=> ?_,fun j v hv=> ?_⟩
 ·have:=hR.2.1
  simp [hrl];omega
 ·rw [aU]at ha
  cases hc:row[j]? with
  | none=>rw [hc]at ha;cases ha
  | some c=>
   rw [hc]at ha
   simp only [bU,aN]at ha
   rw [<-ha]
   rw [bQ]at hv
   split at hv
   ·exact(hR.2.2.2 i j row c v hi hc (by simpa using hv)).up
   ·cases hv
 ·rw [bQ]at hv
  split at hv
  ·rw [dA]at hv
   rw [hB.cell]
   have hlt:=(aO.1 hv).1
   rw [<-htk]at hv
   rw [bQ]at hv
   split at hv
   ·exact hv
   ·cases hv
  ·cases hv
theorem Ad {sz:Nat}{l:List (List FV)}{oa:Option Addr}{m c i:Nat}{row:List FV}(h:pJ F w (.lst sz l) (.slice oa m c))(hi:l[i]? = some row) :
  ∃b o vs,oa=some ⟨b,o,none⟩∧F b∧m=l.length∧nX n σ F w (row.map FV.up) vs∧pJ F w (.fp row 0) (.pointer (some ⟨b,o+i*sz,none⟩))∧∀j v,vs[j]? = some v->w.cell? ⟨b,o+i*sz+j,none⟩=some v:=by
 cases h with
 | lst _ _ _ _ _ b o hn hc hnil ho hsz hex hrep=>
  have hil:=(aO.1 hi).1
  obtain⟨e,hF⟩:=ho (by omega)
  have hrl:=hsz row (aZ hi)
  have hfp:pJ F w (.fp row 0) (.pointer (some ⟨b,o+i*sz,none⟩)):= .fp row 0 b (o+i*sz) hF (fun j hj=>by rw [fZ];exact hex i j (by omega) (by omega)) (fun j a v h1 h2=>hrep i j row a v hi h1 (by rw [fZ]at h2;exact h2))
  obtain⟨b',off,vs,e1,_,r,_,hcl⟩:=O4 (n:=n) (σ:=σ) hfp
  injection e1 with e1;injection e1 with e1;injection e1 with e1 e2
  subst e1
  have e2:o+i*sz=off:=e2
  subst e2
  exact⟨b,o,vs,e,hF,hn,r,hfp,hcl⟩
theorem vJ.cell {u:World}{b:Nat}(h:vJ σ F H w u)(hb:F b)(o:Nat):u.cell? ⟨b,o,none⟩=w.cell? ⟨b,o,none⟩:=sU (h.f b hb) o
theorem vJ.KO {u:World}{g mV:Nat}{blk:oZ}(h:vJ σ F H w u)(hk:look H mV=some blk)(ho:blk.own=true)(hg:(σ mV).b=some g)(o:Nat):u.cell? ⟨g,o,none⟩=w.cell? ⟨g,o,none⟩:=sU (h.h mV blk g hk ho (.inl hg)) o
theorem Fj {t:TypeId}{a:AV}{va:Value}(h:Ug P H t a K)(ra:nI n σ F w a va)(hH:xu n σ F w H) : ∃p,va = .pointer (some p)∧Ans n σ F w K (vJ σ F H w) fun u q Kv=>nZ P (loadVar t p) u (wr q u Kv):=by
 unfold Ug at h
 split at h
 ·rename_i l o
  cases ra with
  | ptr _ _ b hl hb=>
   refine⟨_,rfl, ?_⟩
   split at h
   ·rename_i T cs hk
    obtain⟨g,vs,h1,h2,h3,_⟩:=hH _ _ hk
    rw [hb]at h1
    injection h1 with h1
    subst h1
    have:=vK (S:=vJ σ F H w) (b:=b) (base:=0) h h3 fun u hu j v hj=>by rw [hu.KO hk rfl hb,h2.cell,aV];exact hj
    simpa only [aV]using this
   ·cases h
 ·rename_i l i o
  cases ra with
  | ep _ _ _ b hl hb=>
   refine⟨_,rfl, ?_⟩
   split at h
   ·rename_i T sz m hk
    obtain⟨row,hrow,h⟩:=h.ex
    obtain⟨g,vs,h1,h2,h3⟩:=BF rfl hk hH hrow
    rw [hb]at h1
    injection h1 with h1
    subst h1
    have e:(σ l).sz=sz:=(hH _ _ hk).1
    rw [e]
    exact vK (S:=vJ σ F H w) h h2 fun u hu j v hj=>by rw [hu.KO hk rfl hb];exact h3 j v hj
   ·rename_i sz m hk
    obtain⟨row,hrow,h⟩:=h.ex
    obtain⟨e,e2,hf,h0⟩:=hH _ _ hk
    obtain⟨b',o',vs,e3,hF,_,r,_,hcl⟩:=Ad (n:=n) (σ:=σ) hf hrow
    have ho:=h0 _ _ e3
    subst ho
    have eb:b'=b:=by
     unfold Loc.oa at e3
     rw [hb]at e3
     simp at e3
     exact e3.symm
    subst eb
    rw [e]
    simp only [aV]at hcl
    exact vK (S:=vJ σ F H w) h r fun u hu j v hj=>by rw [hu.cell hF];exact hcl j v hj
   ·rename_i T sz m hh hk
    obtain⟨q1,q2,xs,q3,q4,q5,q6⟩:=hH _ _ hk
    rw [q1]
    split at h
    ·rename_i k ha hs
     by_cases he : ∃e,hh=some (i,o,e)
     ·obtain⟨e,he⟩:=he
      obtain⟨a1,a2,a3,⟨row,a4,a5⟩,v,a6,a7⟩:=q6 i o e he
      obtain⟨b',hb',hc⟩:=yC q3 a4 (q4.1 row (aZ a4)) a5 q4.2.1 a6
      rw [hb]at hb'
      injection hb' with hb'
      subst hb'
      exact⟨_,v,h.hole e he,a7,fun u q Kv hu hv=>oV ha (by rw [hu.KO hk rfl hb];exact hc) (pq hv)⟩
     ·obtain⟨row,hrow,h⟩:=(h.other fun e he'=>he ⟨e,he'⟩).ex
      have hil:=(aO.1 hrow).1
      have hrl:=q4.1 row (aZ hrow)
      have hi1:i*sz+sz<=m.length*sz:=by
       have:(i+1)*sz<=m.length*sz:=aX _ hil
       rw [bJ,dF]at this;exact this
      have hr:nX n σ F w (row.map TV.up) ((xs.drop (i*sz)).take sz):= .of (by have:=q4.2.1;simp [hrl];omega) fun j a v h1 h2=>by
       rw [aU]at h1
       rw [bQ]at h2
       split at h2
       ·rw [dA]at h2
        cases hc:row[j]? with
        | none=>rw [hc]at h1;cases h1
        | some c=>
         rw [hc]at h1
         simp only [bU,aN]at h1
         rw [<-h1]
         have:=q4.2.2.2 i j row c v hrow hc h2
         cases c with
         | f x=>exact pJ.up this
         | n _ _ _=>exact .top v
       ·cases h2
      refine vK (S:=vJ σ F H w) h hr fun u hu j v' hj=> ?_
      rw [hu.KO hk rfl hb]
      rw [bQ]at hj
      split at hj
      ·rename_i hjs
       rw [dA]at hj
       obtain⟨b'',aa5,hc'⟩:=yC (a:=row[j]'(by omega)) q3 hrow hrl (aj _) q4.2.1 hj
       rw [hb]at aa5
       injection aa5 with aa5
       rw [aa5];exact hc'
      ·cases hj
    ·cases h
   ·cases h
 ·rename_i cs o
  cases ra with
  | fp hf=>
   obtain⟨b,off,vs,rfl,hF,r,_,hcl⟩:=O4 (n:=n) (σ:=σ) hf
   exact⟨_,rfl,vK (S:=vJ σ F H w) h r fun u hu j v hj=>by rw [hu.cell hF];exact hcl j v hj⟩
 ·cases h
theorem VP {s:AV}{v:Value}{sz:Nat}{l:List (List FV)}(h:rowsOf H s=some (sz,l))(r:nI n σ F w s v)(hH:xu n σ F w H) :
  ∃oa m c,v = .slice oa m c∧m=l.length∧∀i row,l[i]? = some row->∃b o vs,oa=some ⟨b,o,none⟩∧nX n σ F w (row.map FV.up) vs∧∀u,vJ σ F H w u->∀j v,vs[j]? = some v->u.cell? ⟨b,o+i*sz+j,none⟩=some v:=by
 have ofl : ∀ {oa:Option Addr} {m c:Nat} {l:List (List FV)},pJ F w (.lst sz l) (.slice oa m c)->∀i row,l[i]? = some row->∃b o vs,oa=some ⟨b,o,none⟩∧nX n σ F w (row.map FV.up) vs∧∀u,vJ σ F H w u->∀j v,vs[j]? = some v->u.cell? ⟨b,o+i*sz+j,none⟩=some v:=by
  intro oa m c l hf i row hi
  obtain⟨b,o,vs,e,hF,_,hr,_,hc⟩:=Ad (n:=n) (σ:=σ) hf hi
  exact⟨b,o,vs,e,hr,fun u hu j v hj=>by rw [hu.cell hF];exact hc j v hj⟩
 unfold rowsOf at h
 split at h
 ·simp only [aN,gJ]at h
  obtain⟨rfl,rfl⟩:=h
  cases r with
  | lst hf=>
   obtain⟨oa,m,c,rfl⟩ : ∃oa m c,v = .slice oa m c:=by cases hf;exact⟨_,_,_,rfl⟩
   exact⟨oa,m,c,rfl,by cases hf;assumption,ofl hf⟩
 ·split at h
  ·rename_i l' T sz' m hk
   simp only [aN,gJ]at h
   obtain⟨rfl,rfl⟩:=h
   have hq:=hH _ _ hk
   cases r with
   | tC _ oa hl hn hc=>
    have:m = []:=aI (by rw [<-hq.2.1,hn])
    subst this
    exact⟨_,_,_,rfl,rfl,fun i row hi=>by simp at hi⟩
   | own _ hl=>
    refine⟨_,_,_,rfl,hq.2.1,fun i row hi=> ?_⟩
    obtain⟨g,vs,e,hr,hc⟩:=BF rfl hk hH hi
    exact⟨g,0,vs,by unfold Loc.oa;rw [e];rfl,hr,fun u hu j v hj=>by rw [hu.KO hk rfl e,aV];exact hc j v hj⟩
  ·rename_i l' sz' m hk
   simp only [aN,gJ]at h
   obtain⟨rfl,rfl⟩:=h
   have hq:=hH _ _ hk
   cases r with
   | tC _ oa hl hn hc=>
    have:m = []:=aI (by rw [<-hq.2.1,hn])
    subst this
    exact⟨_,_,_,rfl,rfl,fun i row hi=>by simp at hi⟩
   | own _ hl=>exact⟨_,_,_,rfl,hq.2.1,ofl hq.2.2.1⟩
  ·cases h
 ·split at h
  ·rename_i l' o k _ T sz' m hk
   simp only [aN,gJ]at h
   obtain⟨rfl,rfl⟩:=h
   have hq:=hH _ _ hk
   cases r with
   | sub _ _ _ oa c hl hkk hc hnil ho=>
    rw [hq.2.1]at hkk
    refine⟨_,_,_,rfl,by rw [aK,aS];omega,fun i row hi=> ?_⟩
    have hil:=(aO.1 hi).1
    rw [aK]at hil
    obtain⟨b,e1,e2⟩:=ho (by omega)
    rw [bQ,if_pos (by omega),dA]at hi
    obtain⟨g,vs,e,hr,hcl⟩:=BF rfl hk hH hi
    rw [e]at e1
    injection e1 with e1
    subst e1
    refine⟨g,o*sz',vs,by rw [e2,hq.1],hr,fun u hu j v hj=> ?_⟩
    rw [hu.KO hk rfl e, <-bJ];exact hcl j v hj
  ·rename_i l' o k _ sz' m hk
   simp only [aN,gJ]at h
   obtain⟨rfl,rfl⟩:=h
   have hq:=hH _ _ hk
   cases r with
   | sub _ _ _ oa c hl hkk hc hnil ho=>
    rw [hq.2.1]at hkk
    refine⟨_,_,_,rfl,by rw [aK,aS];omega,fun i row hi=> ?_⟩
    have hil:=(aO.1 hi).1
    rw [aK]at hil
    obtain⟨b,e1,e2⟩:=ho (by omega)
    rw [bQ,if_pos (by omega),dA]at hi
    obtain⟨b',o',vs,e,hr,hcl⟩:=ofl hq.2.2.1 _ _ hi
    have h0:=hq.2.2.2 _ _ e
    subst h0
    unfold Loc.oa at e
    rw [e1]at e
    simp only [bU,aN,Addr.mk.injEq]at e
    obtain⟨rfl,_⟩:=e
    refine⟨b,o*sz',vs,by rw [e2,hq.1],hr,fun u hu j v hj=> ?_⟩
    have:=hcl u hu j v hj
    rw [aV,bJ]at this;exact this
  ·cases h
 ·cases h
theorem O5 {Hr:lM}{src dst:TypeId}{a:AV}{va:Value}(h:XH P Hr src dst a K)(ra:nI n σ F w a va)(hHr:xu n σ F w Hr)(hS : ∀u,S u->vJ σ F Hr w u):Ans n σ F w K S fun u q Kv=>AX P q src dst va u Kv:=by
 unfold XH at h
 split at h
 ·rename_i h1 h2
  rw [ra.oJ];exact⟨_,_,h.ex, .v _,fun u q Kv _ hv=>by simp only [AX,h1,h2];exact hv⟩
 ·rename_i h1 h2
  rw [ra.oJ];exact⟨_,_,h, .v _,fun u q Kv _ hv=>by simp only [AX,h1,h2];exact hv⟩
 ·rename_i d k n h1 h2
  rw [ra.oJ]
  refine⟨_,_,h, .v _,fun u q Kv _ hv=> ?_⟩
  simp only [AX,h1,h2]
  exact pI (run_convert_int_string u src dst k n (by rw [h1];rfl) h2) (pq hv)
 ·rename_i e a h1 h2
  split at h
  ·rename_i h3
   split at h
   ·rw [ra.oJ]
    refine⟨_,_,h, .v _,fun u q Kv _ hv=> ?_⟩
    simp only [AX,h1,h2]
    exact Xx (l:= []) h1 h3 h2 rfl (.inl rfl) (pq hv)
   ·split at h
    ·rename_i sz l hl
     cases hz:Nat.beq sz 1 with
     | false=>rw [hz]at h;exact h.elim
     | true=>
     rw [hz,cond_true]at h
     have hz:=aF hz
     subst hz
     obtain⟨s,rfl,hk⟩:=h.ex
     obtain⟨oa,m,c,rfl,hm,hc⟩:=VP hl ra hHr
     refine⟨_,_,hk, .v _,fun u q Kv hu hv=> ?_⟩
     simp only [AX,h1,h2]
     rw [ah]at hm
     subst hm
     have one : ∀i x,s[i]? = some x->∃b o,oa=some ⟨b,o,none⟩∧u.cell? ⟨b,o+i*1,none⟩=some (.int .u8 (x.toNat:Int)):=by
      intro i x hi
      obtain⟨b,o,vs,e,hr,hcl⟩:=hc i (oh x) (by rw [aU,hi];rfl)
      obtain⟨v,rfl⟩ : ∃v,vs = [v]:=by
       have:=hr.len
       match vs,this with
       | [v],_=>exact⟨v,rfl⟩
      have hv:v = .int .u8 (x.toNat:Int):=(show nI n σ F w (.v (.int .u8 (x.toNat:Int))) v from hr.1).oJ
      subst hv
      exact⟨b,o,e,by have:=hcl u (hS u hu) 0 _ rfl;simpa using this⟩
     cases oa with
     | none=>
      have hs:s = []:=by
       cases s with
       | nil=>rfl
       | cons x r=>obtain⟨b,o,e,_⟩:=one 0 x rfl;cases e
      subst hs
      exact Xx (l:= []) h1 h3 h2 rfl (.inl rfl) (pq hv)
     | some ad=>
      refine pI (run_convert_bytes_back (P:=P) u src dst _ ad c s h1 h3 h2 fun j hj=> ?_) (pq hv)
      obtain⟨b,o,e1,e2⟩:=one j s[j] (aj hj)
      injection e1 with e1
      subst e1
      rw [add0]
      rw [fO]at e2
      exact e2
    ·cases h
  ·cases h
 ·cases h
end
section
variable {P:Program}{n:Nat}{σ:Nat->Loc}{F:Nat->Prop}{w:World}{H:lM}{oD:l9}{ρ:mW}{K:AV->Prop}{S:World->Prop}
theorem yT {L:Loc}{g:Nat}(h:L.oa=some ⟨g,0,none⟩):L.b=some g:=by
 unfold Loc.oa at h
 cases hx:L.b with
 | none=>rw [hx]at h;cases h
 | some g'=>rw [hx]at h;simp at h;rw [h]
theorem MF {mV t sz:Nat}{l:List (List FV)}(hk:look H mV=some (.rows t sz l))(hH:xu n σ F w H)(h0:0<l.length) : ∃g,(σ mV).b=some g∧(σ mV).oa=some ⟨g,0,none⟩:=by
 obtain⟨h1,h2,xs,hO,hR⟩:=hH _ _ hk
 obtain⟨g,cur,hg,_⟩:=hO.blk h0
 exact⟨g,yT hg,hg⟩
theorem XM {mV sz:Nat}{l:List (List FV)}(hk:look H mV=some (.fz sz l))(hH:xu n σ F w H)(h0:0<l.length) : ∃g,(σ mV).b=some g∧(σ mV).oa=some ⟨g,0,none⟩:=by
 obtain⟨h1,h2,hf,h3⟩:=hH _ _ hk
 obtain⟨row,hrow⟩ : ∃row,l[0]? = some row:=⟨l[0],aj h0⟩
 obtain⟨b,o,vs,e,_⟩:=Ad (n:=n) (σ:=σ) hf hrow
 have:=h3 b o e
 subst this
 exact⟨b,yT e,e⟩
theorem Ae {mV t sz:Nat}{l:List (List FV)}(hk:look H mV=some (.rows t sz l))(hH:xu n σ F w H):(σ mV).sz=sz∧(σ mV).n=l.length:=⟨(hH _ _ hk).1,(hH _ _ hk).2.1⟩
theorem Em {mV sz:Nat}{l:List (List FV)}(hk:look H mV=some (.fz sz l))(hH:xu n σ F w H):(σ mV).sz=sz∧(σ mV).n=l.length:=⟨(hH _ _ hk).1,(hH _ _ hk).2.1⟩
theorem En {t:TypeId}{x i:AV}{vx vi:Value}(h:Bv P H t x i K)(rx:nI n σ F w x vx)(ri:nI n σ F w i vi)(hH:xu n σ F w H):Ans n σ F w K S fun u q Kv=>nZ P (Instr.indexAt t vx vi) u (wr q u Kv):=by
 unfold Bv at h
 split at h
 ·rename_i ki ix
  rw [ri.oJ]
  split at h
  ·rename_i e hu
   split at h
   ·rename_i sz hs
    have afN : ∀ {l:Nat} {m:List (List FV)},nI n σ F w (.own l) vx->(σ l).sz=sz->(σ l).n=m.length->(0<m.length->∃g,(σ l).b=some g∧(σ l).oa=some ⟨g,0,none⟩)->mZ ix m.length (fun j=>K (.ep l j 0))->
      Ans n σ F w K S fun u q Kv=>nZ P (Instr.indexAt t vx (.int ki ix)) u (wr q u Kv):=by
     intro l m rx e1 e2 h3 h4
     obtain⟨j,ej,hj,hk⟩:=h4.ex
     obtain⟨g,hg,hoa⟩:=h3 (by omega)
     cases rx with
     | tC _ oa hl hn hc=>omega
     | own _ hl=>
      rw [hoa]
      refine⟨_,_,hk, .ep l j 0 g hl hg,fun u q Kv _ hv=>OO j hu hs ej (by omega) (pq ?_)⟩
      rw [e1]at hv
      rw [aV]
      exact hv
    have aiw : ∀ {l o m:Nat},nI n σ F w (.sub l o m) vx->(σ l).sz=sz->mZ ix m (fun j=>K (.ep l (o+j) 0))->
      Ans n σ F w K S fun u q Kv=>nZ P (Instr.indexAt t vx (.int ki ix)) u (wr q u Kv):=by
     intro l o m rx e1 h4
     obtain⟨j,ej,hj,hk⟩:=h4.ex
     cases rx with
     | sub _ _ _ oa c hl hkk hc hnil ho=>
      obtain⟨g,hg,hoa⟩:=ho (by omega)
      rw [hoa]
      refine⟨_,_,hk, .ep l (o+j) 0 g hl hg,fun u q Kv _ hv=>OO j hu hs ej hj (pq ?_)⟩
      rw [e1]at hv ⊢
      rw [bJ]at hv
      exact hv
    split at h
    ·rename_i sz' l
     cases hb:Nat.beq sz sz' with
     | false=>rw [hb]at h;exact h.elim
     | true=>
      rw [hb,cond_true]at h
      have:=aF hb
      subst this
      obtain⟨j,ej,hj,hk⟩:=h.ex
      obtain⟨row,hrow,hk⟩:=hk.ex
      cases rx with
      | lst hf=>
       obtain⟨oa,m,c,rfl⟩ : ∃oa m c,vx = .slice oa m c:=by cases hf;exact⟨_,_,_,rfl⟩
       obtain⟨b,o,vs,rfl,hF,hm,_,hfp,_⟩:=Ad (n:=n) (σ:=σ) hf hrow
       exact⟨_,_,hk, .fp hfp,fun u q Kv _ hv=>OO j hu hs ej (by omega) (pq hv)⟩
    ·rename_i l
     split at h
     ·rename_i T sz' m hk
      cases hb:Nat.beq sz sz' with
      | false=>rw [hb]at h;exact h.elim
      | true=>
       rw [hb,cond_true]at h
       have:=aF hb
       subst this
       exact afN rx (Ae hk hH).1 (Ae hk hH).2 (MF hk hH) h
     ·rename_i sz' m hk
      cases hb:Nat.beq sz sz' with
      | false=>rw [hb]at h;exact h.elim
      | true=>
       rw [hb,cond_true]at h
       have:=aF hb
       subst this
       exact afN rx (Em hk hH).1 (Em hk hH).2 (XM hk hH) h
     ·rename_i T sz' m h0 hk
      cases hb:Nat.beq sz sz' with
      | false=>rw [hb]at h;exact h.elim
      | true=>
       rw [hb,cond_true]at h
       have:=aF hb
       subst this
       obtain⟨q1,q2,xs,hO,_⟩:=hH _ _ hk
       exact afN (m:=m.map fun _=> []) rx q1 (by rw [ah];exact q2) (fun h0=>by
        rw [ah]at h0
        obtain⟨g,cur,hg,_⟩:=hO.blk h0
        exact⟨g,yT hg,hg⟩) (by rw [ah];exact h)
     ·cases h
    ·rename_i l o m
     split at h
     ·rename_i T sz' m' hk
      cases hb:Nat.beq sz sz' with
      | false=>rw [hb]at h;exact h.elim
      | true=>
       rw [hb,cond_true]at h
       have:=aF hb
       subst this
       exact aiw rx (Ae hk hH).1 h
     ·rename_i sz' m' hk
      cases hb:Nat.beq sz sz' with
      | false=>rw [hb]at h;exact h.elim
      | true=>
       rw [hb,cond_true]at h
       have:=aF hb
       subst this
       exact aiw rx (Em hk hH).1 h
     ·cases h
    ·cases h
   ·cases h
  ·rename_i m e hu
   split at h
   ·rename_i sz hs
    split at h
    ·obtain⟨j,ej,hj,hk⟩:=h.ex
     cases rx with
     | ptr _ _ b hl hb=>exact⟨_,_,hk, .ptr _ _ b hl hb,fun u q Kv _ hv=>L6 j hu hs ej hj (pq hv)⟩
    ·obtain⟨j,ej,hj,hk⟩:=h.ex
     cases rx with
     | ep _ _ _ b hl hb=>exact⟨_,_,hk, .ep _ _ _ b hl hb,fun u q Kv _ hv=>L6 j hu hs ej hj (pq (by rw [fZ];exact hv))⟩
    ·obtain⟨j,ej,hj,hk⟩:=h.ex
     cases rx with
     | fp hf=>
      cases hf with
      | fp _ _ b off hb hex hrep=>exact⟨_,_,hk, .fp (.fp _ _ b off hb hex hrep),fun u q Kv _ hv=>L6 j hu hs ej hj (pq (by rw [fZ];exact hv))⟩
    ·cases h
   ·cases h
  ·cases h
 ·cases h
theorem KP {u:World}{Kv:Value->World->Prop}{t e:TypeId}{m j sz:Nat}{k:IntKind}{ix:Int}{l:List Value}{v:Value}(hm:ix=j)(hu:P.underlying t=some (.array m e))(hs:szB P e=some sz)(h:j<m)
  (hp:(part e l.toArray (j*sz)).run P u = .ok v u) (hk:Kv v u):nZ P (Instr.index t (.agg l.toArray) (.int k ix)) u Kv:=by
 refine pI ?_ hk
 subst hm
 have h1:(0:Int)<=j∧(j:Int)<m:=⟨by omega,by omega⟩
 unfold Instr.index
 simp only [asIntOf,Sem.run_bind,Sem.run_pure,Result.andThen_ok,mM hu]
 simp only [if_pos h1,Sem.run_bind,qK hs,Result.andThen_ok,dh]
 exact hp
theorem MG {t:TypeId}{x i:AV}{vx vi:Value}(h:RG P t x i K)(rx:nI n σ F w x vx)(ri:nI n σ F w i vi):Ans n σ F w K S fun u q Kv=>nZ P (Instr.index t vx vi) u (wr q u Kv):=by
 unfold RG at h
 split at h
 ·rename_i ki ix
  rw [ri.oJ]
  split at h
  ·rename_i s hu
   rw [rx.oJ]
   obtain⟨j,ej,hj,hk⟩:=h.ex
   refine⟨_,_,hk, .v _,fun u q Kv _ hv=>Eh j ej hu hj (pq ?_)⟩
   have e:s.data.toList.getD j 0=s[j]:=by
    rw [ay,bn]
    have:s.data[j]? = some s[j]:=kG hj
    rw [this];rfl
   rw [e]at hv
   exact hv
  ·rename_i m e cs hu
   obtain⟨j,ej,hj,hk⟩:=h.ex
   obtain⟨us,rfl,r⟩:=nX.H8 rx
   split at hk
   ·rename_i sz hs
    unfold Ib at hk
    split at hk
    ·rename_i k ha _
     split at hk
     ·rename_i a hg
      rw [rH]at hk
      obtain⟨v,h1,h2⟩:=r.aa4 hg
      refine⟨_,v,hk,h2,fun u q Kv _ hv=>KP ej hu hs hj ?_ (pq hv)⟩
      unfold part
      rw [Sem.run_bind,sQ ha]
      simp [h1]
     ·exact hk.elim
    ·rename_i k ha hs'
     cases hb:Nat.ble (j*sz+k) cs.length with
     | false=>rw [hb]at hk;exact hk.elim
     | true=>
      rw [hb,cond_true,uf]at hk
      refine⟨_,_,hk,((r.drop (j*sz)).take k).agg,fun u q Kv _ hv=>KP ej hu hs hj ?_ (pq hv)⟩
      obtain⟨i,hi,hik⟩:=qJ hs'
      simp only [part,Sem.run_bind,Sem.run_pure,Result.andThen_ok,sQ ha,if_true,sizeOf,tJ hi]
      congr 2
      apply jo
      simp [hik]
    ·exact hk.elim
   ·exact hk.elim
  ·cases h
 ·cases h
theorem RZ {t ty:TypeId}{a:AV}{va:Value}(h:afM P H t a K)(ra:nI n σ F w a va)(hH:xu n σ F w H):Ans n σ F w K S fun u q Kv=>D8 P q t ty va u Kv:=by
 unfold afM at h
 split at h
 ·rename_i s hu;rw [ra.oJ];exact⟨_,_,h, .v _,fun u q Kv _ hv=>by simp only [D8,hu];exact hv⟩
 ·rename_i e sz l hu
  cases ra with
  | lst hf=>cases hf with
   | lst _ _ oa m c b o hn hc hnil ho hsz hex hrep=>exact⟨_,_,h, .v _,fun u q Kv _ hv=>by simp only [D8,hu,hn];exact hv⟩
 ·rename_i e l hu
  cases ra with
  | tC _ oa hl hn hc=>
   split at h
   ·rename_i T sz m hk
    have e:=(Ae hk hH).2
    rw [hn]at e
    exact⟨_,_,h, .v _,fun u q Kv _ hv=>by simp only [D8,hu];rw [<-e]at hv;exact hv⟩
   ·rename_i sz m hk
    have e:=(Em hk hH).2
    rw [hn]at e
    exact⟨_,_,h, .v _,fun u q Kv _ hv=>by simp only [D8,hu];rw [<-e]at hv;exact hv⟩
   ·cases h
  | own _ hl=>
   split at h
   ·rename_i T sz m hk
    have e:=(Ae hk hH).2
    exact⟨_,_,h, .v _,fun u q Kv _ hv=>by simp only [D8,hu,e];exact hv⟩
   ·rename_i sz m hk
    have e:=(Em hk hH).2
    exact⟨_,_,h, .v _,fun u q Kv _ hv=>by simp only [D8,hu,e];exact hv⟩
   ·cases h
 ·rename_i e l o m hu
  cases ra with
  | sub _ _ _ oa c hl hk hc hnil ho=>exact⟨_,_,h, .v _,fun u q Kv _ hv=>by simp only [D8,hu];exact hv⟩
 ·rename_i e x m c hu;rw [ra.oJ];exact⟨_,_,h, .v _,fun u q Kv _ hv=>by simp only [D8,hu];exact hv⟩
 ·rename_i m e hu;exact⟨_,_,h, .v _,fun u q Kv _ hv=>by simp only [D8,hu];exact hv⟩
 ·cases h
def zn (oa:Option Addr)(i sz m:Nat):Option Addr:=if m=i then oa else oa.map (·.add (i*sz))
theorem zF {u:World}{t E:TypeId}{sz l c:Nat}{oa:Option Addr}{lo hi mx:Option Value}{i j m:Nat}(ht:P.underlying t=some (.slice E))(hs:szB P E=some sz)
  (hlo:(lo=none∧i=0)∨∃k,lo=some (.int k (i:Int))) (hhi:(hi=none∧j=l∧mx=none)∨∃k,hi=some (.int k (j:Int))) (hmx:(mx=none∧m=c)∨∃k,mx=some (.int k (m:Int)))
  (hij:i<=j) (hjm:j<=m) (hmc:m<=c):(Instr.sliceAt t (.slice oa l c) lo hi mx).run P u = .ok (.slice (zn oa i sz m) (j-i) (m-i)) u:=by
 have h1:(0:Int)<=i∧(i:Int)<=j:=⟨by omega,by omega⟩
 have h2:(0:Int)<=j∧(j:Int)<=m:=⟨by omega,by omega⟩
 have h3:(0:Int)<=m∧(m:Int)<=c:=⟨by omega,by omega⟩
 unfold Instr.sliceAt
 rw [Sem.run_bind,mM ht]
 simp only [Result.andThen_ok]
 unfold Instr.slice
 rw [Sem.run_bind,mM ht]
 rcases hmx with ⟨rfl,rfl⟩|⟨km,rfl⟩
 ·rcases hhi with ⟨rfl,rfl,_⟩|⟨kh,rfl⟩
  ·rcases hlo with ⟨rfl,rfl⟩|⟨kl,rfl⟩<;>simp [Instr.sliceBounds,Instr.sliceBound,asIntOf,hij,hjm,qK hs,zn]
  ·rcases hlo with ⟨rfl,rfl⟩|⟨kl,rfl⟩<;>simp [Instr.sliceBounds,Instr.sliceBound,asIntOf,hij,hjm,qK hs,zn]
 ·rcases hhi with ⟨rfl,rfl,h⟩|⟨kh,rfl⟩
  ·cases h
  ·rcases hlo with ⟨rfl,rfl⟩|⟨kl,rfl⟩<;>simp [Instr.sliceBounds,Instr.sliceBound,asIntOf,hij,hjm,hmc,qK hs,zn]
theorem KQ {oa:Option Addr}{i sz m c:Nat}(hmc:m<=c)(hnil:oa=none->c=0)(h:zn oa i sz m=none):m-i=0:=by
 unfold zn at h
 split at h
 ·omega
 ·have:=hnil (by simpa using h)
  omega
theorem pJ.part {sz m c i j:Nat}{l:List (List FV)}{oa:Option Addr}{n':Nat}(h:pJ F w (.lst sz l) (.slice oa n' c))(hij:i<=j)(hjn:j<=l.length)(hjm:j<=m)(hmc:m<=c) :
  pJ F w (.lst sz ((l.take j).drop i)) (.slice (zn oa i sz m) (j-i) (m-i)):=by
 cases h with
 | lst _ _ _ _ _ b o hn hc hnil ho hsz hex hrep=>
  subst hn
  refine .lst sz _ _ _ _ b (o+i*sz) (by simp;omega) (by omega) (KQ hmc hnil) (fun hlt=> ?_) (fun row hr=>hsz row (fD (ig hr))) (fun k x hk hx=> ?_) (fun k x row a v h1 h2 h3=> ?_)
  ·obtain⟨e,hF⟩:=ho (by omega)
   refine⟨?_,hF⟩
   unfold zn
   rw [if_neg (by omega),e]
   simp [add0]
  ·have:=hex (i+k) x (by omega) hx
   rw [bJ]at this
   rw [show o+i*sz+(k*sz+x)=o+(i*sz+k*sz+x) by omega]
   exact this
  ·have h1':l[i+k]? = some row:=by
    rw [dA,bQ]at h1
    split at h1
    ·exact h1
    ·cases h1
   refine hrep (i+k) x row a v h1' h2 ?_
   rw [bJ,show o+(i*sz+k*sz+x)=o+i*sz+(k*sz+x) by omega]
   exact h3
theorem MH {lo:Option AV}{Xe:Option Value}{d:Int}{K:Int->Prop}(h:Ci lo d K)(r:(lo=none∧Xe=none)∨∃a v,lo=some a∧Xe=some v∧nI n σ F w a v) :
  ∃x,K x∧((lo=none∧Xe=none∧x=d)∨∃k a,lo=some a∧Xe=some (.int k x)):=by
 unfold Ci at h
 split at h
 ·rcases r with ⟨_,e⟩|⟨a,v,e,_⟩
  ·exact⟨d,h, .inl ⟨rfl,e,rfl⟩⟩
  ·cases e
 ·rename_i k x
  rcases r with ⟨e,_⟩|⟨a,v,e,e2,ra⟩
  ·cases e
  ·injection e with e
   rw [<-e]at ra
   rw [ra.oJ]at e2
   exact⟨x,h, .inr ⟨k,_,rfl,e2⟩⟩
 ·cases h
theorem afP {mx:Option AV}{XO:Option Value}{b:Int}{m:Nat}{K:Prop}(h:RH mx b m K)(r:(mx=none∧XO=none)∨∃a v,mx=some a∧XO=some v∧nI n σ F w a v) :
  K∧((mx=none∧XO=none)∨∃k z a,mx=some a∧XO=some (.int k z)∧b<=z∧z<=m):=by
 unfold RH at h
 split at h
 ·rcases r with ⟨_,e⟩|⟨a,v,e,_⟩
  ·exact⟨h, .inl ⟨rfl,e⟩⟩
  ·cases e
 ·rename_i k z
  rcases r with ⟨e,_⟩|⟨a,v,e,e2,ra⟩
  ·cases e
  ·injection e with e
   rw [<-e]at ra
   rw [ra.oJ]at e2
   exact⟨h.go, .inr ⟨k,z,_,rfl,e2,h.req.1,h.req.2⟩⟩
 ·cases h
abbrev Si (n:Nat)(σ:Nat->Loc)(F:Nat->Prop)(w:World)(a:Option AV)(v:Option Value):Prop:=(a=none∧v=none)∨∃x y,a=some x∧v=some y∧nI n σ F w x y
theorem Cj {t E:TypeId}{sz l c:Nat}{oa:Option Addr}{lo hi mx:Option AV}{Xe vhi XO:Option Value}{K:Nat->Nat->Prop}(ht:P.underlying t=some (.slice E))(hs:szB P E=some sz)(hlc:l<=c)
  (h:Ci lo 0 fun a=>Ci hi (l:Int) fun b=>RH mx b l (sN a b l K)) (r1:Si n σ F w lo Xe) (r2:Si n σ F w hi vhi) (r3:Si n σ F w mx XO) (hmx:mx≠none->hi≠none) :
  ∃i j m,K i j∧i<=j∧j<=l∧j<=m∧m<=c∧(lo=none->i=0)∧(hi=none->j=l)∧(mx=none->m=c)∧∀u,(Instr.sliceAt t (.slice oa l c) Xe vhi XO).run P u = .ok (.slice (zn oa i sz m) (j-i) (m-i)) u:=by
 obtain⟨x,h,c1⟩:=MH h r1
 obtain⟨y,h,c2⟩:=MH h r2
 obtain⟨h,c3⟩:=afP h r3
 obtain⟨i,j,rfl,rfl,hij,hjl,hk⟩:=h.ex
 have d1:(Xe=none∧i=0)∨∃k,Xe=some (.int k (i:Int)):=by
  rcases c1 with ⟨_,e,e2⟩|⟨k,a,_,e⟩
  ·exact .inl ⟨e,by omega⟩
  ·exact .inr ⟨k,e⟩
 have e1:lo=none->i=0:=by
  intro e
  rcases c1 with ⟨_,_,e2⟩|⟨k,a,e3,_⟩
  ·omega
  ·rw [e]at e3;cases e3
 have e2:hi=none->j=l:=by
  intro e
  rcases c2 with ⟨_,_,e2⟩|⟨k,a,e3,_⟩
  ·omega
  ·rw [e]at e3;cases e3
 rcases c3 with ⟨rfl,rfl⟩|⟨k3,z,a3,rfl,rfl,hz1,hz2⟩
 ·refine⟨i,j,c,hk,hij,hjl,by omega,aA _,e1,e2,fun _=>rfl,fun u=>zF ht hs d1 ?_ (.inl ⟨rfl,rfl⟩) hij (by omega) (aA _)⟩
  rcases c2 with ⟨_,e,e3⟩|⟨k,a,_,e⟩
  ·exact .inl ⟨e,by omega,rfl⟩
  ·exact .inr ⟨k,e⟩
 ·obtain⟨m,rfl⟩ : ∃m:Nat,z=m:=⟨z.toNat,by omega⟩
  refine⟨i,j,m,hk,hij,hjl,by omega,by omega,e1,e2,(fun e=>by cases e),fun u=>zF ht hs d1 ?_ (.inr ⟨k3,rfl⟩) hij (by omega) (by omega)⟩
  rcases c2 with ⟨e,_,_⟩|⟨k,a,_,e⟩
  ·exact absurd e (hmx (by simp))
  ·exact .inr ⟨k,e⟩
theorem afQ {lo hi:Option AV}{i j:Nat}{l:List (List FV)}(h1:lo=none->i=0)(h2:hi=none->j=l.length):cut lo hi i j l=(l.take j).drop i:=by
 unfold cut
 split
 ·rw [h1 rfl,h2 rfl];simp
 ·rw [h1 rfl];simp
 ·rw [h2 rfl];simp
 ·rfl
theorem Uh {mV i j m c:Nat}{oa:Option Addr}{o n':Nat}(hl:mV<n)(ho:o+n'<=(σ mV).n)(hnil:oa=none->c=0)(hoa:0<n'->∃b,(σ mV).b=some b∧oa=some ⟨b,o*(σ mV).sz,none⟩)
  (hij:i<=j) (hjn:j<=n') (hjm:j<=m) (hmc:m<=c):nI n σ F w (.sub mV (o+i) (j-i)) (.slice (zn oa i (σ mV).sz m) (j-i) (m-i)):=by
 refine .sub mV (o+i) (j-i) _ _ hl (by omega) (by omega) (KQ hmc hnil) fun hlt=> ?_
 obtain⟨b,h1,h2⟩:=hoa (by omega)
 refine⟨b,h1, ?_⟩
 unfold zn
 rw [if_neg (by omega),h2]
 simp [add0,bJ]
theorem akL (L:Loc):zn L.oa 0 L.sz L.c=L.oa:=by
 unfold zn
 split
 ·rfl
 ·cases L.oa with
  | none=>rfl
  | some a=>simp [Addr.add]
theorem MI {t:TypeId}{x:AV}{lo hi mx:Option AV}{vx:Value}{Xe vhi XO:Option Value}(h:RI P H t x lo hi mx K)(hmx:mx≠none->hi≠none)(rx:nI n σ F w x vx)(r1:Si n σ F w lo Xe)(r2:Si n σ F w hi vhi)(r3:Si n σ F w mx XO)(hH:xu n σ F w H) :
  Ans n σ F w K S fun u q Kv=>nZ P (Instr.sliceAt t vx Xe vhi XO) u (wr q u Kv):=by
 unfold RI at h
 split at h
 ·rename_i hu
  split at h
  ·rename_i s
   rw [rx.oJ]
   obtain⟨a,h,c1⟩:=MH h r1
   obtain⟨b,h,c2⟩:=MH h r2
   obtain⟨i,j,rfl,rfl,hij,hjl,hk⟩:=h.ex
   have e3:XO=none:=by
    rcases r3 with ⟨_,e⟩|⟨_,_,e,_⟩
    ·exact e
    ·cases e
   subst e3
   refine⟨_,_,hk, .v _,fun u q Kv _ hv=> ?_⟩
   have h1:(0:Int)<=i∧(i:Int)<=j:=⟨by omega,by omega⟩
   have h2:(0:Int)<=j∧(j:Int)<=s.size:=⟨by omega,by omega⟩
   refine pI ?_ (pq hv)
   unfold Instr.sliceAt
   rw [Sem.run_bind,mM hu]
   simp only [Result.andThen_ok]
   unfold Instr.slice
   rw [Sem.run_bind,mM hu]
   rcases c1 with ⟨_,rfl,e1⟩|⟨k1,_,_,rfl⟩
   ·have e1:i=0:=by omega
    subst e1
    rcases c2 with ⟨_,rfl,e2⟩|⟨k2,_,_,rfl⟩
    ·have e2:j=s.size:=by omega
     subst e2
     simp [Instr.sliceBounds]
    ·simp [Instr.sliceBounds,Instr.sliceBound,asIntOf,hij,hjl]
   ·rcases c2 with ⟨_,rfl,e2⟩|⟨k2,_,_,rfl⟩
    ·have e2:j=s.size:=by omega
     subst e2
     simp [Instr.sliceBounds,Instr.sliceBound,asIntOf,hij]
    ·simp [Instr.sliceBounds,Instr.sliceBound,asIntOf,hij,hjl]
  ·cases h
 ·rename_i e hu
  split at h
  ·rename_i sz hs
   split at h
   ·rename_i sz' l
    cases hb:Nat.beq sz sz' with
    | false=>rw [hb]at h;exact h.elim
    | true=>
     rw [hb,cond_true]at h
     have:=aF hb
     subst this
     cases rx with
     | lst hf=>
      obtain⟨oa,n',c,rfl,hn,hc⟩ : ∃oa m c,vx = .slice oa m c∧m=l.length∧m<=c:=by cases hf with|lst _ _ oa m c b o hn hc hnil ho hsz hex hrep=>exact⟨oa,m,c,rfl,hn,hc⟩
      subst hn
      obtain⟨i,j,m,hk,hij,hjl,hjm,hmc,e1,e2,e3,hr⟩:=Cj (oa:=oa) hu hs hc h r1 r2 r3 hmx
      rw [afQ e1 e2]at hk
      exact⟨_,_,hk, .lst (hf.part hij hjl hjm hmc),fun u q Kv _ hv=>pI (hr u) (pq hv)⟩
   ·rename_i l
    split at h
    ·rename_i m' hm
     have hsn:(σ l).sz=sz∧(σ l).n=m'∧m'<=(σ l).c∧((σ l).oa=none->(σ l).c=0)∧(0<m'->∃b,(σ l).b=some b∧(σ l).oa=some ⟨b,0,none⟩):=by
      unfold aa2 at hm
      split at hm
      ·rename_i T sz' mm hk
       cases hb:Nat.beq sz sz' with
       | false=>rw [hb]at hm;cases hm
       | true=>
        rw [hb,cond_true]at hm
        injection hm with hm
        have:=aF hb
        subst this;subst hm
        obtain⟨q1,q2,xs,hO,hR⟩:=hH _ _ hk
        refine⟨q1,q2, ?_, ?_,MF hk hH⟩
        ·rcases hO.2 with ⟨hv,h0⟩|⟨g,cap,cur,hv,_,_,hle,_⟩
         ·omega
         ·injection hv with _ _ ec;omega
        ·intro en
         rcases hO.2 with ⟨hv,h0⟩|⟨g,cap,cur,hv,_,_,hle,_⟩
         ·injection hv with _ _ ec
         ·injection hv with eo _ _;rw [en]at eo;cases eo
      ·rename_i sz' mm hk
       cases hb:Nat.beq sz sz' with
       | false=>rw [hb]at hm;cases hm
       | true=>
        rw [hb,cond_true]at hm
        injection hm with hm
        have:=aF hb
        subst this;subst hm
        obtain⟨q1,q2,hf,_⟩:=hH _ _ hk
        refine⟨q1,q2, ?_, ?_,XM hk hH⟩
        ·cases hf with|lst _ _ _ _ _ b o hn hc hnil ho hsz hex hrep=>omega
        ·cases hf with|lst _ _ _ _ _ b o hn hc hnil ho hsz hex hrep=>exact hnil
      ·cases hm
     obtain⟨q1,q2,q3,q4,q5⟩:=hsn
     cases rx with
     | tC _ oa hl hn hc=>
      rw [hn]at q2
      subst q2
      obtain⟨i,j,m,hk,hij,hjl,hjm,hmc,e1,e2,e3,hr⟩:=Cj (oa:=oa) (l:=0) (c:=0) hu hs (aA _) h r1 r2 r3 hmx
      have z1:i=0:=by omega
      have z2:j=0:=by omega
      have z3:m=0:=by omega
      subst z1;subst z2;subst z3
      have hv0:Value.slice (zn oa 0 sz 0) (0-0) (0-0) = .slice oa 0 0:=by unfold zn;rw [if_pos rfl]
      rw [hv0]at hr
      unfold L9 at hk
      split at hk
      ·exact⟨_,_,hk, .tC l oa hl hn hc,fun u q Kv _ hv=>pI (hr u) (pq hv)⟩
      ·exact⟨_,_,hk, .sub l 0 _ oa 0 hl (by omega) (by omega) (fun _=>rfl) (fun h=>absurd h (by omega)),fun u q Kv _ hv=>pI (hr u) (pq hv)⟩
     | own _ hl=>
      rw [q2]
      obtain⟨i,j,m,hk,hij,hjl,hjm,hmc,e1,e2,e3,hr⟩:=Cj (oa:=(σ l).oa) hu hs q3 h r1 r2 r3 hmx
      have hsub:nI n σ F w (.sub l i (j-i)) (.slice (zn (σ l).oa i sz m) (j-i) (m-i)):=by
       have:=Uh (n:=n) (σ:=σ) (F:=F) (w:=w) (n':=m') (o:=0) (i:=i) (j:=j) (m:=m) (c:=(σ l).c) (oa:=(σ l).oa) hl (by omega) q4 (fun h0=>by obtain⟨b,x1,x2⟩:=q5 h0;exact⟨b,x1,by rw [x2,fJ]⟩) hij hjl hjm hmc
       rw [aV,q1]at this
       exact this
      unfold L9 at hk
      split at hk
      ·have:=e1 rfl;subst this
       have:=e2 rfl;subst this
       have:=e3 rfl;subst this
       refine⟨_,_,hk, .own l hl,fun u q Kv _ hv=>pI (hr u) (pq ?_)⟩
       rw [<-q1,akL,iU,iU, <-q2]
       exact hv
      ·exact⟨_,_,hk,hsub,fun u q Kv _ hv=>pI (hr u) (pq hv)⟩
    ·cases h
   ·rename_i l o n'
    split at h
    ·rename_i m' hm
     have q1:(σ l).sz=sz:=by
      unfold aa2 at hm
      split at hm
      ·rename_i T sz' mm hk
       cases hb:Nat.beq sz sz' with
       | false=>rw [hb]at hm;cases hm
       | true=>rw [aF hb];exact(hH _ _ hk).1
      ·rename_i sz' mm hk
       cases hb:Nat.beq sz sz' with
       | false=>rw [hb]at hm;cases hm
       | true=>rw [aF hb];exact(hH _ _ hk).1
      ·cases hm
     cases rx with
     | sub _ _ _ oa c hl hkk hc hnil ho=>
      obtain⟨i,j,m,hk,hij,hjl,hjm,hmc,e1,e2,e3,hr⟩:=Cj (oa:=oa) hu hs hc h r1 r2 r3 hmx
      have:=Uh (n:=n) (σ:=σ) (F:=F) (w:=w) (n':=n') (o:=o) (i:=i) (j:=j) (m:=m) (c:=c) (oa:=oa) hl hkk hnil ho hij hjl hjm hmc
      rw [q1]at this
      exact⟨_,_,hk,this,fun u q Kv _ hv=>pI (hr u) (pq hv)⟩
    ·cases h
   ·rw [rx.oJ]
    obtain⟨i,j,m,hk,hij,hjl,hjm,hmc,e1,e2,e3,hr⟩:=Cj (oa:=none) (l:=0) (c:=0) (K:=fun _ _=>K (.v (.slice none 0 0))) hu hs (aA _) h r1 r2 r3 hmx
    have z1:i=0:=by omega
    have z2:j=0:=by omega
    have z3:m=0:=by omega
    subst z1;subst z2;subst z3
    exact⟨_,_,hk, .v _,fun u q Kv _ hv=>pI (hr u) (pq hv)⟩
   ·cases h
  ·cases h
 ·cases h
theorem F9 {op:BinOp}{b:Bool}(h:AP op b K) : ∃c,(op = .eql∧c=b∨op = .neq∧c = !b)∧K (.v (.bool c)):=by
 unfold AP at h
 split at h
 ·exact⟨_, .inl ⟨rfl,rfl⟩,h⟩
 ·exact⟨_, .inr ⟨rfl,rfl⟩,h⟩
 ·cases h
theorem Gf {op:BinOp}{t:TypeId}{x y:Operand}{va vb:Value}{b c:Bool}(u:World)(hc:op = .eql∧c=b∨op = .neq∧c = !b)(hg : ∀o:BinOp,o = .eql∨o = .neq->(eqGuard o t x y va vb).run P u = .ok () u)
  (hb1:binOp .eql t va vb=(do pure (.bool (<-Op.equal t va vb)))) (hb2:binOp .neq t va vb=(do pure (.bool (!(<-Op.equal t va vb))))) (he:(Op.equal t va vb).run P u = .ok b u) :
  (do eqGuard op t x y va vb;binOp op t va vb:Sem Value).run P u = .ok (.bool c) u:=by
 rcases hc with ⟨rfl,rfl⟩|⟨rfl,rfl⟩
 ·rw [Sem.run_bind,hg _ (.inl rfl),Result.andThen_ok,hb1,Sem.run_bind,he];rfl
 ·rw [Sem.run_bind,hg _ (.inr rfl),Result.andThen_ok,hb2,Sem.run_bind,he];rfl
theorem Cm (t:TypeId)(va vb:Value) : ∃d,Op.equal t va vb=Op.equalIn (d+1) t va vb:=by
 obtain⟨d,hd⟩ : ∃d,Op.maxDepth=d+1:=⟨Op.maxDepth-1,by decide⟩
 exact⟨d,by unfold Op.equal;rw [hd]⟩
theorem O6 {u:World}{t e:TypeId}{oa:Option Addr}{k c:Nat}(hu:P.underlying t=some (.slice e)):(Op.equal t (.slice oa k c) (.slice none 0 0)).run P u = .ok oa.isNone u:=by
 obtain⟨d,hd⟩:=Cm t (.slice oa k c) (.slice none 0 0)
 rw [hd]
 unfold Op.equalIn
 rw [Sem.run_bind,mM hu]
 cases oa<;>rfl
theorem VQ {u:World}{t e:TypeId}{oa:Option Addr}(hu:P.underlying t=some (.pointer e)):(Op.equal t (.pointer oa) (.pointer none)).run P u = .ok oa.isNone u:=by
 obtain⟨d,hd⟩:=Cm t (.pointer oa) (.pointer none)
 rw [hd]
 unfold Op.equalIn
 rw [Sem.run_bind,mM hu]
 cases oa<;>rfl
theorem VR {u:World}{t k e:TypeId}{oa:Option Nat}(hu:P.underlying t=some (.map k e)):(Op.equal t (.map oa) (.map none)).run P u = .ok oa.isNone u:=by
 obtain⟨d,hd⟩:=Cm t (.map oa) (.map none)
 rw [hd]
 unfold Op.equalIn
 rw [Sem.run_bind,mM hu]
 cases oa<;>rfl
theorem XP {a:AV}{va:Value}{k:Nat}(h:afH H a=some k)(ra:nI n σ F w a va)(hH:xu n σ F w H) : ∃oa m c,va = .slice oa m c∧(0<k->oa.isNone=false):=by
 unfold afH at h
 split at h
 ·injection h with h
  subst h
  cases ra with
  | lst hf=>cases hf with
   | lst _ _ oa m c b o hn hc hnil ho hsz hex hrep=>exact⟨oa,m,c,rfl,fun h0=>by rw [(ho (by omega)).1];rfl⟩
 ·split at h
  ·rename_i l T sz m hk
   injection h with h
   subst h
   cases ra with
   | own _ hl=>exact⟨_,_,_,rfl,fun h0=>by obtain⟨g,_,e⟩:=MF hk hH h0;rw [e];rfl⟩
   | tC _ oa hl hn hc=>exact⟨_,_,_,rfl,fun h0=>by have:=(Ae hk hH).2;omega⟩
  ·rename_i l sz m hk
   injection h with h
   subst h
   cases ra with
   | own _ hl=>exact⟨_,_,_,rfl,fun h0=>by obtain⟨g,_,e⟩:=XM hk hH h0;rw [e];rfl⟩
   | tC _ oa hl hn hc=>exact⟨_,_,_,rfl,fun h0=>by have:=(Em hk hH).2;omega⟩
  ·cases h
 ·injection h with h
  subst h
  cases ra with
  | sub _ _ _ oa c hl hk hc hnil ho=>exact⟨_,_,_,rfl,fun h0=>by obtain⟨b,_,e⟩:=ho h0;rw [e];rfl⟩
 ·cases h
theorem Gg {t:TypeId}{x y:Operand}{va vb:Value}(u:World)(h:(∀l,va≠ .agg l)∧va≠ .nilIface)(o:BinOp)(_:o = .eql∨o = .neq):(eqGuard o t x y va vb).run P u = .ok () u:=by
 unfold eqGuard
 cases o<;>cases va<;>first|rfl|exact(h.1 _ rfl).elim|exact(h.2 rfl).elim|(cases vb<;>rfl)
theorem Sj {op:BinOp}{t:TypeId}{x y:Operand}{a b:AV}{va vb:Value}(h:afI P H op t a b K)(ra:nI n σ F w a va)(rb:nI n σ F w b vb)(hH:xu n σ F w H) :
  Ans n σ F w K S fun u q Kv=>D5 P q op t x y va vb u Kv:=by
 unfold afI at h
 split at h
 ·rename_i e hu
  rw [rb.oJ]
  have fin : ∀ {oa:Option Addr} {m c:Nat},va = .slice oa m c->AP op oa.isNone K->Ans n σ F w K S fun u q Kv=>D5 P q op t x y va (.slice none 0 0) u Kv:=by
   intro oa m c ev hk
   subst ev
   obtain⟨cc,hc,hk⟩:=F9 hk
   exact⟨_,_,hk, .v _,fun u q Kv _ hv=>pI (Gf u hc (Gg u ⟨(fun l e=>by cases e),(fun e=>by cases e)⟩) rfl rfl (O6 hu)) (pq hv)⟩
  split at h
  ·exact fin ra.oJ h
  ·split at h
   ·rename_i k hk
    obtain⟨oa,m,c,ev,hz⟩:=XP hk ra hH
    exact fin ev (h.ex _ hz)
   ·cases h
 ·rename_i e hu
  rw [rb.oJ]
  have fin : ∀ {oa:Option Addr},va = .pointer oa->AP op oa.isNone K->Ans n σ F w K S fun u q Kv=>D5 P q op t x y va (.pointer none) u Kv:=by
   intro oa ev hk
   subst ev
   obtain⟨cc,hc,hk⟩:=F9 hk
   exact⟨_,_,hk, .v _,fun u q Kv _ hv=>pI (Gf u hc (Gg u ⟨(fun l e=>by cases e),(fun e=>by cases e)⟩) rfl rfl (VQ hu)) (pq hv)⟩
  split at h
  ·exact fin ra.oJ h
  ·cases hp:aiv a with
   | false=>rw [hp]at h;exact h.elim
   | true=>
    rw [hp,cond_true]at h
    have : ∃p,va = .pointer (some p):=by
     cases ra with
     | ptr l o b hl hb=>exact⟨_,rfl⟩
     | ep l i o b hl hb=>exact⟨_,rfl⟩
     | fp hf=>cases hf;exact⟨_,rfl⟩
     | _=>cases hp
    obtain⟨p,ev⟩:=this
    exact fin ev h
 ·rename_i e1 e2 hu
  rw [rb.oJ]
  have fin : ∀ {oa:Option Nat},va = .map oa->AP op oa.isNone K->Ans n σ F w K S fun u q Kv=>D5 P q op t x y va (.map none) u Kv:=by
   intro oa ev hk
   subst ev
   obtain⟨cc,hc,hk⟩:=F9 hk
   exact⟨_,_,hk, .v _,fun u q Kv _ hv=>pI (Gf u hc (Gg u ⟨(fun l e=>by cases e),(fun e=>by cases e)⟩) rfl rfl (VR hu)) (pq hv)⟩
  split at h
  ·exact fin ra.oJ h
  ·cases ra with|mp _ b hl hb=>exact fin rfl h
  ·cases ra with|fm hf=>cases hf with|fm _ b _ _=>exact fin rfl h
  ·cases h
 ·rename_i e1 e2 e3 hu
  rw [rb.oJ]
  have fin : ∀ {bb:Bool},((∀l,va≠ .agg l)∧va≠ .nilIface)->binOp .eql t va .nilFunc=(do pure (.bool (<-Op.equal t va .nilFunc)))->binOp .neq t va .nilFunc=(do pure (.bool (!(<-Op.equal t va .nilFunc))))->(∀u,(Op.equal t va .nilFunc).run P u = .ok bb u)->(∀u q Kv,nZ P (do eqGuard op t x y va .nilFunc;binOp op t va .nilFunc) u (wr q u Kv)->D5 P q op t x y va .nilFunc u Kv)->AP op bb K->Ans n σ F w K S fun u q Kv=>D5 P q op t x y va .nilFunc u Kv:=by
   intro bb h1 h2 h3 h4 h5 hk
   obtain⟨cc,hc,hk⟩:=F9 hk
   exact⟨_,_,hk, .v _,fun u q Kv _ hv=>h5 u q Kv (pI (Gf u hc (Gg u h1) h2 h3 (h4 u)) (pq hv))⟩
  have aeP : ∀(u:World) (f:Fn) (p r:Array Value),(Op.equal t (.func f p r) .nilFunc).run P u = .ok false u:=fun u f p r=>by
   obtain⟨d,hd⟩:=Cm t (.func f p r) .nilFunc
   rw [hd]
   unfold Op.equalIn
   rw [Sem.run_bind,mM hu]
   rfl
  split at h
  ·cases ra with
   | fn f xs ys us vs hx hy rx ry=>exact fin ⟨(fun l e=>by cases e),(fun e=>by cases e)⟩ rfl rfl (fun u=>aeP u _ _ _) (fun u q Kv h=>h) h
  ·have ev:=ra.oJ
   subst ev
   exact fin ⟨(fun l e=>by cases e),(fun e=>by cases e)⟩ rfl rfl (fun u=>aeP u _ _ _) (fun u q Kv h=>h) h
  ·have ev:=ra.oJ
   subst ev
   refine fin ⟨(fun l e=>by cases e),(fun e=>by cases e)⟩ rfl rfl (fun u=> ?_) (fun u q Kv h=>h) h
   obtain⟨d,hd⟩:=Cm t .nilFunc .nilFunc
   rw [hd]
   unfold Op.equalIn
   rw [Sem.run_bind,mM hu]
   rfl
  ·cases h
 ·cases h
theorem Sl {op:BinOp}{t:TypeId}{x y:Operand}{a b:AV}{va vb:Value}(h:afJ P H op t a b K)(ra:nI n σ F w a va)(rb:nI n σ F w b vb)(hH:xu n σ F w H) :
  Ans n σ F w K S fun u q Kv=>D5 P q op t x y va vb u Kv:=by
 unfold afJ at h
 split at h
 ·rename_i k m k' n'
  rw [ra.oJ,rb.oJ]
  split at h
  ·obtain⟨a,v,h1,h2,h3⟩:=BA (n:=n) (σ:=σ) (F:=F) (w:=w) (S:=S) h;exact⟨a,v,h1,h2,h3⟩
  ·obtain⟨a,v,h1,h2,h3⟩:=BA (n:=n) (σ:=σ) (F:=F) (w:=w) (S:=S) h;exact⟨a,v,h1,h2,h3⟩
  ·rename_i op' h1 h2
   cases hk:decide (k=k')with
   | false=>rw [hk]at h;exact h.elim
   | true=>
    rw [hk,cond_true]at h
    obtain⟨a,v,g1,g2,g3⟩:=BA (n:=n) (σ:=σ) (F:=F) (w:=w) (S:=S) h
    refine⟨a,v,g1,g2,fun u q Kv hs hv=> ?_⟩
    have:=g3 u q Kv hs hv
    cases op<;>first|exact(h1 rfl).elim|exact(h2 rfl).elim|(simp only [D5,hk,cond_true];exact this)
 ·rw [ra.oJ,rb.oJ]
  obtain⟨a,v,g1,g2,g3⟩:=RY (n:=n) (σ:=σ) (F:=F) (w:=w) (S:=S) h
  exact⟨a,v,g1,g2,g3⟩
 ·rename_i m n'
  rw [ra.oJ,rb.oJ]
  split at h
  ·split at h
   ·rename_i hu
    exact⟨_,_,h, .v _,fun u q Kv _ hv=>by simp only [D5,hu];exact hv⟩
   ·cases h
  ·split at h
   ·rename_i hu
    exact⟨_,_,h, .v _,fun u q Kv _ hv=>by simp only [D5,hu];exact hv⟩
   ·cases h
  ·cases h
 ·rename_i xs ys
  obtain⟨us',rfl,rx⟩:=nX.H8 ra
  obtain⟨vs',rfl,ry⟩:=nX.H8 rb
  split at h
  ·rename_i us vs hus hvs
   have e1:=Ie hus rx
   have e2:=Ie hvs ry
   subst e1;subst e2
   split at h
   ·rename_i b hb
    split at h
    ·exact⟨_,_,h.go, .v _,fun u q Kv _ hv=>afD h.g h.p h.u hb (pq hv)⟩
    ·exact⟨_,_,h.go, .v _,fun u q Kv _ hv=>afC h.g h.p h.u hb (pq hv)⟩
    ·cases h
   ·cases h
  ·cases h
 ·exact Sj h ra rb hH
theorem MJ {b:Builtin}{ts:List TypeId}{ty:TypeId}{as:List AV}{vs:List Value}(h:RJ P H b ts as K)(r:nX n σ F w as vs)(hH:xu n σ F w H):Ans n σ F w K S fun u q Kv=>D9 P q b ts ty vs u Kv:=by
 unfold RJ at h
 split at h
 ·rename_i t a
  obtain⟨v,rfl,ra⟩ : ∃v,vs = [v]∧nI n σ F w a v:=by
   match vs,r with
   | [v],r=>exact⟨v,rfl,r.1⟩
  obtain⟨a',v',h1,h2,h3⟩:=RZ (S:=S) (ty:=ty) h ra hH
  exact⟨a',v',h1,h2,h3⟩
 all_goals first
  | exact h.elim
  | (
   obtain⟨v1,v2,rfl,r1,r2⟩ : ∃v1 v2,vs = [v1,v2]∧nI n σ F w _ v1∧nI n σ F w _ v2:=by
    match vs,r with
    | [v1,v2],r=>exact⟨v1,v2,rfl,r.1,r.2.1⟩
   have e1:=r1.oJ
   have e2:=r2.oJ
   subst e1;subst e2
   refine⟨_,_,h, .v _,fun u q Kv _ hv=> ?_⟩
   exact hv)
theorem Sm (hr : ∀s,nI n σ F w (oD s) (ρ s))(x:Option Operand):Si n σ F w (x.map (o7 oD)) (x.map (qE ρ)):=by
 cases x with
 | none=>exact .inl ⟨rfl,rfl⟩
 | some x=>exact .inr ⟨_,_,rfl,rfl,nU hr x⟩
theorem afR (x:FV)(v:Value)(h:pJ F w x v):nI n σ F w x.val v:=by
 cases x with
 | v y=>cases h;exact uZ _
 | _=>exact h.up
theorem JZ {Hr:lM}{t:TypeId}{m k:AV}{ok:Bool}{vm vk:Value}(h:Mc P Hr t m k ok K)(rm:nI n σ F w m vm)(rk:nI n σ F w k vk)(hHr:xu n σ F w Hr)(hS : ∀u,S u->vJ σ F Hr w u) :
  Ans n σ F w K S fun u q Kv=>nZ P (Instr.lookup t vm vk ok) u (wr q u Kv):=by
 unfold Mc at h
 split at h
 ·rename_i l s
  rw [rk.oJ]
  cases rm with
  | mp _ b hl hb=>
   split at h
   ·rename_i kt et M hu hk
    split at h
    ·rename_i z hkt hz
     obtain⟨g,hg,hM⟩:=hHr _ _ hk
     rw [hb]at hg
     injection hg with hg
     subst hg
     cases ok with
     | true=>
      refine⟨_, .tuple #[(M s).getD z, .bool (M s).isSome],h.ex, ?_,fun u q Kv hu' hv=>H7 hu hkt hz (hM.heap ((hS u hu').h l _ b hk rfl (.inl hb))) (pq hv)⟩
      exact nX.nN (as:= [QW ((M s).getD z), .v (.bool (M s).isSome)]) (vs:= [(M s).getD z, .bool (M s).isSome]) ⟨uZ _, .v _,trivial⟩
     | false=>
      exact⟨_,_,h.ex,uZ _,fun u q Kv hu' hv=>Ef hu hkt hz (hM.heap ((hS u hu').h l _ b hk rfl (.inl hb))) (pq hv)⟩
    ·cases h
   ·rename_i kt et M hu hk
    split at h
    ·rename_i z hkt hz
     obtain⟨g,hg,hf⟩:=hHr _ _ hk
     rw [hb]at hg
     injection hg with hg
     subst hg
     cases hf with
     | fm _ _ hF hM=>
      cases ok with
      | true=>
       refine⟨_, .tuple #[(M s).getD z, .bool (M s).isSome],h.ex, ?_,fun u q Kv hu' hv=>H7 hu hkt hz (hM.heap ((hS u hu').f b hF)) (pq hv)⟩
       exact nX.nN (as:= [QW ((M s).getD z), .v (.bool (M s).isSome)]) (vs:= [(M s).getD z, .bool (M s).isSome]) ⟨uZ _, .v _,trivial⟩
      | false=>
       exact⟨_,_,h.ex,uZ _,fun u q Kv hu' hv=>Ef hu hkt hz (hM.heap ((hS u hu').f b hF)) (pq hv)⟩
    ·cases h
   ·cases h
 ·rename_i M s
  rw [rk.oJ]
  split at h
  ·rename_i kt et hu
   split at h
   ·rename_i z hkt hz
    cases rm with
    | fm hf=>cases hf with
     | fm _ b hF hM=>
      cases ok with
      | true=>
       refine⟨_, .tuple #[(M s).getD z, .bool (M s).isSome],h.ex, ?_,fun u q Kv hu' hv=>H7 hu hkt hz (hM.heap ((hS u hu').f b hF)) (pq hv)⟩
       exact nX.nN (as:= [QW ((M s).getD z), .v (.bool (M s).isSome)]) (vs:= [(M s).getD z, .bool (M s).isSome]) ⟨uZ _, .v _,trivial⟩
      | false=>
       exact⟨_,_,h.ex,uZ _,fun u q Kv hu' hv=>Ef hu hkt hz (hM.heap ((hS u hu').f b hF)) (pq hv)⟩
   ·cases h
  ·cases h
 ·rename_i l i
  rw [rk.oJ]
  cases rm with
  | mp _ b hl hb=>
   split at h
   ·rename_i kt et M hu hk
    split at h
    ·rename_i z hkt hz
     obtain⟨g,hg,V,hM,hV⟩:=hHr _ _ hk
     rw [hb]at hg
     injection hg with hg
     subst hg
     have hVi:=hV i
     have key : ∃a b,(match ok with|true=>K (.nN [a, .v (.bool b)])|false=>K a)∧nI n σ F w a ((V i).getD z)∧b=(V i).isSome:=by
      cases hMi:M i with
      | none=>
       rw [hMi]at hVi
       cases hVv:V i with
       | none=>exact⟨_,_,h.no hMi,uZ _,rfl⟩
       | some v=>rw [hVv]at hVi;exact hVi.elim
      | some x=>
       rw [hMi]at hVi
       cases hVv:V i with
       | none=>rw [hVv]at hVi;exact hVi.elim
       | some v=>rw [hVv]at hVi;exact⟨_,_,h.yes x hMi,afR x v hVi,rfl⟩
     obtain⟨a,bb,hK,ha,rfl⟩:=key
     cases ok with
     | true=>
      refine⟨_, .tuple #[(V i).getD z, .bool (V i).isSome],hK, ?_,fun u q Kv hu' hv=>XD hu hkt hz (hM.heap ((hS u hu').h l _ b hk rfl (.inl hb))) (pq hv)⟩
      exact nX.nN (as:= [a, .v (.bool (V i).isSome)]) (vs:= [(V i).getD z, .bool (V i).isSome]) ⟨ha, .v _,trivial⟩
     | false=>
      exact⟨_,_,hK,ha,fun u q Kv hu' hv=>VJ hu hkt hz (hM.heap ((hS u hu').h l _ b hk rfl (.inl hb))) (pq hv)⟩
    ·cases h
   ·cases h
 ·cases h
def xX (o:Oper):Bool:=match o.op with | .slice _ _ _ hi mx=> !mx.isSome||hi.isSome|_=>true
theorem Ih {Hr:lM}{o:Oper}(h:aQ P Hr H o oD K)(hi:xX o=true)(hHr:xu n σ F w Hr)(hH:xu n σ F w H)(hr : ∀s,nI n σ F w (oD s) (ρ s)):Ans n σ F w K (vJ σ F Hr w) fun u q Kv=>JU P q o ρ u Kv:=by
 unfold aQ at h
 unfold JU
 cases ho:o.op<;>simp only [ho]at h ⊢ <;>try exact h.elim
 case move x=>rw [rH]at h;exact⟨_,_,h,nU hr x,fun u q Kv _ hv=>by simp only [force_eq];exact hv⟩
 case assign x=>rw [rH]at h;exact⟨_,_,h,nU hr x,fun u q Kv _ hv=>by simp only [force_eq];exact hv⟩
 case pick c a b=>
  have rc:=nU hr c
  have ra:=nU hr a
  have rb:=nU hr b
  split at h
  ·rename_i t hc
   rw [hc]at rc
   rw [rc.oJ]
   split at h
   ·rename_i x y ha hb
    rw [ha]at ra;rw [hb]at rb
    rw [ra.oJ,rb.oJ]
    exact⟨_,_,h, .v _,fun u q Kv _ hv=>hv⟩
   ·cases t with
    | true=>
     refine⟨_,_,h,ra,fun u q Kv _ hv=> ?_⟩
     dsimp only
     split
     ·rename_i x y e1 e2;rw [e1]at hv;exact hv
     ·exact hv
    | false=>
     refine⟨_,_,h,rb,fun u q Kv _ hv=> ?_⟩
     dsimp only
     split
     ·rename_i x y e1 e2;rw [e2]at hv;exact hv
     ·exact hv
  ·cases h
 case build t parts=>
  rw [uf]at h
  obtain⟨a,v,h1,h2,h3⟩:=MC (S:=vJ σ F Hr w) h (KH hr parts.toList)
  exact⟨a,v,h1,h2,fun u q Kv hu hv=>by simp only [ou];exact h3 u q Kv hu hv⟩
 case load t a=>
  obtain⟨p,hp,a',v,h1,h2,h3⟩:=Fj h (nU hr a) hHr
  rw [hp]
  exact⟨a',v,h1,h2,h3⟩
 case nilCheck x=>
  have rx:=nU hr x
  split at h
  ·rename_i l o' hx
   rw [hx]at rx
   have : ∃p,qE ρ x = .pointer (some p):=by generalize qE ρ x=z at rx;cases rx;exact⟨_,rfl⟩
   obtain⟨p,hp⟩:=this
   rw [hp]at rx ⊢
   exact⟨_,_,h,rx,fun u q Kv _ hv=>hv⟩
  ·rename_i l i o' hx
   rw [hx]at rx
   have : ∃p,qE ρ x = .pointer (some p):=by generalize qE ρ x=z at rx;cases rx;exact⟨_,rfl⟩
   obtain⟨p,hp⟩:=this
   rw [hp]at rx ⊢
   exact⟨_,_,h,rx,fun u q Kv _ hv=>hv⟩
  ·rename_i cs o' hx
   rw [hx]at rx
   have : ∃p,qE ρ x = .pointer (some p):=by generalize qE ρ x=z at rx;cases rx with|fp hf=>cases hf;exact⟨_,rfl⟩
   obtain⟨p,hp⟩:=this
   rw [hp]at rx ⊢
   exact⟨_,_,h,rx,fun u q Kv _ hv=>hv⟩
  ·cases h
 case binOp op t x y yt=>
  rw [rH,rH]at h
  exact Sl h (nU hr x) (nU hr y) hH
 case unOp op t x=>
  rw [rH]at h
  exact VO h (nU hr x)
 case convert src dst x=>
  rw [rH]at h
  exact O5 h (nU hr x) hHr (fun u hu=>hu)
 case lookup t m k ok=>
  rw [rH,rH]at h
  obtain⟨a,v,h1,h2,h3⟩:=JZ (S:=vJ σ F Hr w) h (nU hr m) (nU hr k) hHr (fun u hu=>hu)
  exact⟨a,v,h1,h2,fun u q Kv hu hv=>by simp only [force_eq];exact h3 u q Kv hu hv⟩
 case makeFunc fn first captured=>
  rw [uf,uf]at h
  have r1:=wW hr first.toList
  have r2:=wW hr captured.toList
  exact⟨_,_,h, .fn fn _ _ _ _ r1.len r2.len r1.at r2.at,fun u q Kv _ hv=>by simp only [xG,ou];exact hv⟩
 case slice t x lo hi' mx=>
  simp only [rH,afF]at h
  have hm:mx.map (o7 oD)≠none->hi'.map (o7 oD)≠none:=by
   intro e e2
   simp only [xX,ho]at hi
   cases mx with
   | none=>exact e rfl
   | some m=>cases hi' with
    | none=>simp at hi
    | some y=>cases e2
  obtain⟨a,v,h1,h2,h3⟩:=MI (S:=vJ σ F Hr w) h hm (nU hr x) (Sm hr lo) (Sm hr hi') (Sm hr mx) hH
  exact⟨a,v,h1,h2,fun u q Kv hu hv=>by simp only [force_eq,DZ];exact h3 u q Kv hu hv⟩
 case fieldAddr t x f=>
  have rx:=nU hr x
  unfold H9 at h
  split at h
  ·rename_i d l o' hd hx
   rw [hx]at rx
   generalize qE ρ x=z at rx ⊢
   cases rx with
   | ptr _ _ b hl hb=>exact⟨_,_,h, .ptr _ _ b hl hb,fun u q Kv _ hv=>BD hd _ u Kv (by rw [add0];exact hv)⟩
  ·rename_i d l i o' hd hx
   rw [hx]at rx
   generalize qE ρ x=z at rx ⊢
   cases rx with
   | ep _ _ _ b hl hb=>exact⟨_,_,h, .ep _ _ _ b hl hb,fun u q Kv _ hv=>BD hd _ u Kv (by rw [add0,fZ];exact hv)⟩
  ·rename_i d cs o' hd hx
   rw [hx]at rx
   generalize qE ρ x=z at rx ⊢
   cases rx with
   | fp hf=>cases hf with
    | fp _ _ b off hb hex hrep=>exact⟨_,_,h, .fp (.fp _ _ b off hb hex hrep),fun u q Kv _ hv=>BD hd _ u Kv (by rw [add0,fZ];exact hv)⟩
  ·cases h
 case field t x f=>
  have rx:=nU hr x
  split at h
  ·rename_i cs hx
   rw [hx]at rx
   obtain⟨us,e,r⟩:=nX.H8 rx
   rw [e]
   exact MB h r
  ·cases h
 case indexAddr t x i=>
  rw [rH,rH]at h
  obtain⟨a,v,h1,h2,h3⟩:=En (S:=vJ σ F Hr w) h (nU hr x) (nU hr i) hH
  exact⟨a,v,h1,h2,fun u q Kv hu hv=>by simp only [force_eq];exact h3 u q Kv hu hv⟩
 case index t x i=>
  rw [rH,rH]at h
  obtain⟨a,v,h1,h2,h3⟩:=MG (S:=vJ σ F Hr w) h (nU hr x) (nU hr i)
  exact⟨a,v,h1,h2,fun u q Kv hu hv=>by simp only [force_eq];exact h3 u q Kv hu hv⟩
 case extract t i=>
  have rt:=nU hr t
  split at h
  ·rename_i vs hx
   rw [hx]at rt
   split at h
   ·rename_i a ha
    rw [rH]at h
    generalize qE ρ t=z at rt ⊢
    cases rt with
    | nN _ us hl rx=>
     have r:nX n σ F w vs us:= .of hl rx
     obtain⟨v,h1,h2⟩:=r.aa4 ha
     exact⟨_,v,h,h2,fun u q Kv _ hv=>by simp only [h1];exact hv⟩
   ·cases h
  ·cases h
 case call c=>
  obtain⟨callee,args,ats⟩:=c
  cases callee with
  | builtin b=>
   simp only at h
   rw [uf]at h
   obtain⟨a,v,h1,h2,h3⟩:=MJ (S:=vJ σ F Hr w) (ty:=o.type) h (wW hr args.toList) hH
   exact⟨a,v,h1,h2,fun u q Kv hu hv=>by simp only [Ho,xG,ou];exact h3 u q Kv hu hv⟩
  | _=>exact h.elim
end
def yU (σ:Nat->Loc)(n:Nat)(L:Loc):Nat->Loc:=fun k=>if k=n then L else σ k
theorem og (σ:Nat->Loc)(n:Nat)(L:Loc):yU σ n L n=L:=if_pos rfl
theorem oP {σ:Nat->Loc}{n k:Nat}{L:Loc}(h:k≠n):yU σ n L k=σ k:=if_neg h
theorem nG {H:lM}{n k:Nat}{b:oZ} : look ((n,b)::H) k=if n=k then some b else look H k:=by
 simp only [look]
 by_cases h:n=k
 ·subst h;rw [iT,cond_true,if_pos rfl]
 ·have:Nat.beq n k=false:=by
   cases hb:Nat.beq n k with
   | false=>rfl
   | true=>exact absurd (aF hb) h
  rw [this,cond_false,if_neg h]
theorem oM {H:lM}{mV k:Nat}{b b':oZ}(h:look H mV=some b):look (setH H mV b') k=if k=mV then some b' else look H k:=by
 induction H with
 | nil=>cases h
 | cons p r ih=>
  obtain⟨x,bx⟩:=p
  rw [nG]at h
  by_cases hx:x=mV
  ·subst hx
   have e:setH ((x,bx)::r) x b'=(x,b')::r:=by simp only [setH,iT,cond_true]
   rw [e,nG,nG]
   by_cases hk:x=k
   ·rw [if_pos hk,if_pos hk.symm]
   ·rw [if_neg hk,if_neg (fun e=>hk e.symm),if_neg hk]
  ·rw [if_neg hx]at h
   have hb:Nat.beq x mV=false:=by
    cases hb:Nat.beq x mV with
    | false=>rfl
    | true=>exact absurd (aF hb) hx
   have e:setH ((x,bx)::r) mV b'=(x,bx)::setH r mV b':=by simp only [setH,hb,cond_false]
   rw [e,nG,nG,ih h]
   by_cases hk:x=k
   ·subst hk;rw [if_pos rfl,if_neg hx,if_pos rfl]
   ·rw [if_neg hk,if_neg hk]
theorem rJ {H:lM}{mV k:Nat}{b:oZ}(h:look (RP H mV) k=some b):k≠mV∧look H k=some b:=by
 induction H with
 | nil=>cases h
 | cons p r ih=>
  obtain⟨x,bx⟩:=p
  by_cases hx:x=mV
  ·subst hx
   have e:RP ((x,bx)::r) x=RP r x:=by simp only [RP,iT,cond_true]
   rw [e]at h
   obtain⟨h1,h2⟩:=ih h
   refine⟨h1, ?_⟩
   rw [nG,if_neg (fun e=>h1 e.symm)]
   exact h2
  ·have hb:Nat.beq x mV=false:=by
    cases hb:Nat.beq x mV with
    | false=>rfl
    | true=>exact absurd (aF hb) hx
   have e:RP ((x,bx)::r) mV=(x,bx)::RP r mV:=by simp only [RP,hb,cond_false]
   rw [e,nG]at h
   by_cases hk:x=k
   ·subst hk
    rw [if_pos rfl]at h
    exact⟨hx,by rw [nG,if_pos rfl];exact h⟩
   ·rw [if_neg hk]at h
    obtain⟨h1,h2⟩:=ih h
    exact⟨h1,by rw [nG,if_neg hk];exact h2⟩
def O7 (G:Glob)(lY:World)(mG mJ:Nat->Prop)(n:Nat)(σ:Nat->Loc)(F:Nat->Prop)(w:World)(K:AV->Nat->lM->Prop)(v:Value)(w':World):Prop:=
 ∃a n' σ' F' H',K a n' H'∧St G lY mG mJ n' σ' F' H' w'∧Ext n σ F w n' σ' F' w'∧nI n' σ' F' w' a v
section
variable {P:Program}{G:Glob}{lY:World}{mG mJ:Nat->Prop}{n:Nat}{σ:Nat->Loc}{F:Nat->Prop}{H:lM}{w:World}
theorem St.hrep (st:St G lY mG mJ n σ F H w):xu n σ F w H:=st.blk
theorem St.more (st:St G lY mG mJ n σ F H w){w':World}(hB:AZ (fun _=>False) w w')(X:Nat->Prop)(hX : ∀g,X g->w.heap.size<=g∧g<w'.heap.size) :
  St G lY mG mJ n σ (fun b=>F b∨X b) H w'∧Ext n σ F w n σ (fun b=>F b∨X b) w':=by
 have hE:Ext n σ F w n σ (fun b=>F b∨X b) w':=⟨aA _,fun _ _=>rfl,fun b hb=>⟨.inl hb,hB.block b (st.oW b hb).1 id⟩,hB.size⟩
 have hnb:=st.glob.1
 have hw0:=st.qM.size
 have bk : ∀ {mV b g},look H mV=some b->b.own=true->rY w' (σ mV) b g->rY w (σ mV) b g:=fun h hm hg=>hg.back fun k hk=>hB.block k (st.mu _ _ k h hm (.inl hk)).2.2.1 id
 refine⟨⟨Glob.qM st.glob hB.size fun b hb=>hB.block b (by omega) id,st.qM.trans hB (fun _ h=>h.elim),fun b hb=> ?_,st.lab,fun mV b g' h hm hg=> ?_,fun mV Bq b b' g' h h' hm hm' hg hg'=>st.inj mV Bq b b' g' h h' hm hm' (bk h hm hg) (bk h' hm' hg'),fun mV b h=>(st.blk mV b h).mono hE fun hk k hx=>hB.block k (st.mu _ _ k h hk hx).2.2.1 id⟩,hE⟩
 ·rcases hb with hb|hb
  ·exact⟨bg (st.oW b hb).1 hB.size,(st.oW b hb).2⟩
  ·have:=hX b hb
   exact⟨this.2, .inr (.inl (by omega))⟩
 ·have hg:=bk h hm hg
  obtain⟨q1,q2,q3,q4⟩:=st.mu mV b g' h hm hg
  exact⟨fun hf=>hf.elim q1 fun e=>by have:=(hX g' e).1;omega,q2,bg q3 hB.size,q4⟩
theorem St.new (st:St G lY mG mJ n σ F H w){w':World}(hB:AZ (fun _=>False) w w')(L:Loc)(hL : ∀g,L.b=some g->w.heap.size<=g∧g<w'.heap.size)(blk:oZ)(hblk:vU (n+1) (yU σ n L) F w' L blk)(hfl:blk.flat=true:=by rfl) :
  St G lY mG mJ (n+1) (yU σ n L) F ((n,blk)::H) w'∧Ext n σ F w (n+1) (yU σ n L) F w':=by
 have hE:Ext n σ F w (n+1) (yU σ n L) F w':=⟨by omega,fun k hk=>oP (by omega),fun b hb=>⟨hb,hB.block b (st.oW b hb).1 id⟩,hB.size⟩
 have hnb:=st.glob.1
 have hw0:=st.qM.size
 have bk : ∀ {mV b g},look H mV=some b->b.own=true->rY w' (σ mV) b g->rY w (σ mV) b g:=fun h hm hg=>hg.back fun k hk=>hB.block k (st.mu _ _ k h hm (.inl hk)).2.2.1 id
 refine⟨⟨Glob.qM st.glob hB.size fun b hb=>hB.block b (by omega) id,st.qM.trans hB (fun _ h=>h.elim),fun b hb=>⟨bg (st.oW b hb).1 hB.size,(st.oW b hb).2⟩,fun mV b h=> ?_,fun mV b g h hm hg=> ?_,fun mV Bq b b' g h h' hm hm' hg hg'=> ?_,fun mV b h=> ?_⟩,hE⟩
 ·rw [nG]at h
  split at h
  ·omega
  ·have:=st.lab mV b h;omega
 ·rw [nG]at h
  split at h
  ·rename_i e
   subst e
   injection h with h
   subst h
   rw [og]at hg
   obtain⟨h1,h2⟩:=hL g (hg.flat hfl)
   exact⟨fun hf=>by have:=(st.oW g hf).1;omega,by omega,h2, .inr (by omega)⟩
  ·have hl:=st.lab mV b h
   rw [oP (by omega)]at hg
   have hg:=bk h hm hg
   obtain⟨h1,h2,h3,h4⟩:=st.mu mV b g h hm hg
   exact⟨h1,h2,bg h3 hB.size,h4⟩
 ·rw [nG]at h h'
  split at h
  ·rename_i e
   split at h'
   ·rename_i e';omega
   ·have hl:=st.lab Bq b' h'
    injection h with h
    subst h
    rw [<-e,og]at hg
    rw [oP (by omega)]at hg'
    have:=(hL g (hg.flat hfl)).1
    have:=(st.mu Bq b' g h' hm' (bk h' hm' hg')).2.2.1
    omega
  ·have hl:=st.lab mV b h
   rw [oP (by omega)]at hg
   split at h'
   ·rename_i e'
    injection h' with h'
    subst h'
    rw [<-e',og]at hg'
    have:=(hL g (hg'.flat hfl)).1
    have:=(st.mu mV b g h hm (bk h hm hg)).2.2.1
    omega
   ·have hl':=st.lab Bq b' h'
    rw [oP (by omega)]at hg'
    exact st.inj mV Bq b b' g h h' hm hm' (bk h hm hg) (bk h' hm' hg')
 ·rw [nG]at h
  split at h
  ·rename_i e
   subst e
   injection h with h
   subst h
   rw [og]
   exact hblk
  ·have hl:=st.lab mV b h
   rw [oP (by omega)]
   exact(st.blk mV b h).mono hE fun hm g hg=>hB.block g (st.mu mV b g h hm hg).2.2.1 id
theorem St.write (st:St G lY mG mJ n σ F H w){w':World}{mV g:Nat}{blk:oZ}(hk:look H mV=some blk)(hm:blk.own=true)(hg:(σ mV).b=some g)(hO:Only g w w')(blk':oZ)(hblk:vU n σ F w (σ mV) blk->Ext n σ F w n σ F w'->vU n σ F w' (σ mV) blk')(hfl : ∀g',rY w' (σ mV) blk' g'->rY w (σ mV) blk g':=by exact fun _ h=> .inl (h.flat rfl)) :
  St G lY mG mJ n σ F (setH H mV blk') w'∧Ext n σ F w n σ F w':=by
 obtain⟨m1,m2,m3,m4⟩:=st.mu mV blk g hk hm (.inl hg)
 have bk : ∀ {k b g'},k≠mV->look H k=some b->b.own=true->rY w' (σ k) b g'->rY w (σ k) b g':=fun hne h hm' hg'=>hg'.back fun x hx=>hO.block x fun e=>by
  subst e
  exact hne (st.inj _ mV _ blk x h hk hm' hm (.inl hx) (.inl hg))
 have hE:Ext n σ F w n σ F w':=⟨aA _,fun _ _=>rfl,fun b hb=>⟨hb,hO.block b fun e=>m1 (e▸hb)⟩,jL hO.size.symm⟩
 refine⟨⟨Glob.qM st.glob (jL hO.size.symm) fun b hb=>hO.block b (by omega),st.qM.trans (AZ.afE hO) (fun b hb=>by subst hb;exact m4),fun b hb=>⟨by rw [hO.size];exact(st.oW b hb).1,(st.oW b hb).2⟩,fun k b h=> ?_,fun k b g' h hm' hg'=> ?_,fun k k' b b' g' h h' hm1 hm2 hg1 hg2=> ?_,fun k b h=> ?_⟩,hE⟩
 ·rw [oM hk]at h
  split at h
  ·rename_i e;subst e;exact st.lab _ _ hk
  ·exact st.lab k b h
 ·rw [oM hk]at h
  rw [hO.size]
  split at h
  ·rename_i e;subst e;injection h with h;subst h;exact st.mu _ _ g' hk hm (hfl g' hg')
  ·rename_i e;exact st.mu k b g' h hm' (bk e h hm' hg')
 ·rw [oM hk]at h h'
  have e1 : ∃c,look H k=some c∧c.own=true∧rY w (σ k) c g':=by
   split at h
   ·rename_i e;subst e;injection h with h;subst h;exact⟨_,hk,hm,hfl g' hg1⟩
   ·rename_i e;exact⟨_,h,hm1,bk e h hm1 hg1⟩
  have e2 : ∃c,look H k'=some c∧c.own=true∧rY w (σ k') c g':=by
   split at h'
   ·rename_i e;subst e;injection h' with h';subst h';exact⟨_,hk,hm,hfl g' hg2⟩
   ·rename_i e;exact⟨_,h',hm2,bk e h' hm2 hg2⟩
  obtain⟨c1,x1,y1,z1⟩:=e1
  obtain⟨c2,x2,y2,z2⟩:=e2
  exact st.inj k k' c1 c2 g' x1 x2 y1 y2 z1 z2
 ·rw [oM hk]at h
  split at h
  ·rename_i e
   subst e
   injection h with h
   subst h
   exact hblk (st.blk _ _ hk) hE
  ·rename_i e
   refine(st.blk k b h).mono hE fun hm' g' hg'=>hO.block g' fun e2=> ?_
   subst e2
   exact e (st.inj k mV b blk g' h hk hm' hm hg' (.inl hg))
theorem St.drop (st:St G lY mG mJ n σ F H w)(mV:Nat):St G lY mG mJ n σ F (RP H mV) w:=
 ⟨st.glob,st.qM,st.oW,fun k b h=>st.lab k b (rJ h).2,fun k b g h=>st.mu k b g (rJ h).2,fun k k' b b' g h h'=>st.inj k k' b b' g (rJ h).2 (rJ h').2,fun k b h=>st.blk k b (rJ h).2⟩
theorem uS {L:Loc}{F':Nat->Prop}{t sz:Nat}{l:List (List FV)}(h:vU n σ F w L (.rows t sz l))(hF : ∀b,F b->F' b)(hg : ∀g,L.b=some g->F' g):vU n σ F' w L (.fz sz l):=by
 obtain⟨h1,h2,xs,hO,hR⟩:=h
 have hm : ∀b,F b->F' b∧w.heap[b]? = w.heap[b]? :=fun b hb=>⟨hF b hb,rfl⟩
 refine⟨h1,h2, ?_, ?_⟩
 ·rw [h2]
  have hc:l.length<=L.c∧(L.oa=none->L.c=0):=by
   rcases hO.2 with ⟨hv,h0⟩|⟨g,cap,cur,hv,_,_,hle,_⟩
   ·injection hv with _ _ ec;exact⟨by omega,fun _=>ec⟩
   ·injection hv with eo _ ec;exact⟨by omega,fun en=>by rw [en]at eo;cases eo⟩
  rcases cO l.length with h0|h0
  ·have hl:l = []:=aI h0
   subst hl
   exact .lst sz [] _ _ _ 0 0 rfl hc.1 hc.2 (fun h=>absurd h (jF 0)) (by simp) (fun i j hi=>absurd hi (gI i)) (fun i j row a v hi=>by simp at hi)
  ·obtain⟨g,cur,hoa,_,hB,hle,_,hcl,htk⟩:=hO.blk h0
   have hcell : ∀k,k<l.length*sz->w.cell? ⟨g,0+k,none⟩=xs[k]? :=fun k hk=>by
    rw [aV,hB.cell, <-htk,bQ,if_pos hk]
   have hlt : ∀i j,i<l.length->j<sz->i*sz+j<l.length*sz:=fun i j hi hj=>by
    have:(i+1)*sz<=l.length*sz:=aX _ hi
    rw [bJ,dF]at this;omega
   refine .lst sz l _ _ _ g 0 rfl hc.1 hc.2 (fun _=>⟨hoa,hg g (yT hoa)⟩) hR.1 (fun i j hi hj=> ?_) (fun i j row a v hi hj hv=> ?_)
   ·have hk:=hlt i j hi hj
    rw [hcell _ hk]
    have hxl:=hR.2.1
    exact⟨xs[i*sz+j],aj (by omega),hR.2.2.1 _ (aT _)⟩
   ·have hil:=(aO.1 hi).1
    have hjl:=(aO.1 hj).1
    rw [hR.1 row (aZ hi)]at hjl
    rw [hcell _ (hlt i j hil hjl)]at hv
    exact(hR.2.2.2 i j row a v hi hj hv).mono hm
 ·intro b o e
  unfold Loc.oa at e
  cases hb:L.b with
  | none=>rw [hb]at e;cases e
  | some g=>rw [hb]at e;simp only [bU,aN]at e;injection e with _ e;exact e.symm
theorem St.freeze (st:St G lY mG mJ n σ F H w){mV t sz:Nat}{l:List (List FV)}(hk:look H mV=some (.rows t sz l)) :
  St G lY mG mJ n σ (fun b=>F b∨(σ mV).b=some b) (setH H mV (.fz sz l)) w∧Ext n σ F w n σ (fun b=>F b∨(σ mV).b=some b) w:=by
 have hE:Ext n σ F w n σ (fun b=>F b∨(σ mV).b=some b) w:=⟨aA _,fun _ _=>rfl,fun b hb=>⟨.inl hb,rfl⟩,aA _⟩
 refine⟨⟨st.glob,st.qM,fun b hb=> ?_,fun k b h=> ?_,fun k b g' h hm' hg'=> ?_,fun k k' b b' g' h h' hm1 hm2 hg1 hg2=> ?_,fun k b h=> ?_⟩,hE⟩
 ·rcases hb with hb|hb
  ·exact st.oW b hb
  ·obtain⟨_,_,h3,h4⟩:=st.mu mV _ b hk rfl (.inl hb)
   exact⟨h3,h4.elim (fun h=> .inr (.inr h)) fun h=> .inr (.inl h)⟩
 ·rw [oM hk]at h
  split at h
  ·rename_i e;subst e;exact st.lab _ _ hk
  ·exact st.lab k b h
 ·rw [oM hk]at h
  split at h
  ·injection h with h;subst h;cases hm'
  ·rename_i e
   obtain⟨h1,h2⟩:=st.mu k b g' h hm' hg'
   refine⟨fun hf=>hf.elim h1 fun hf=>e (st.inj k mV b _ g' h hk hm' rfl hg' (.inl hf)),h2⟩
 ·rw [oM hk]at h h'
  split at h
  ·injection h with h;subst h;cases hm1
  ·split at h'
   ·injection h' with h';subst h';cases hm2
   ·exact st.inj k k' b b' g' h h' hm1 hm2 hg1 hg2
 ·rw [oM hk]at h
  split at h
  ·rename_i e
   subst e
   injection h with h
   subst h
   exact uS (st.blk _ _ hk) (fun b hb=> .inl hb) fun g hg=> .inr hg
  ·exact(st.blk k b h).mono hE fun _ _ _=>rfl
theorem St.aa7 (st:St G lY mG mJ n σ F H w){mV:Nat}{M:ByteArray->Option Value}(hk:look H mV=some (.map M)) :
  St G lY mG mJ n σ (fun b=>F b∨(σ mV).b=some b) (setH H mV (.VN M)) w∧Ext n σ F w n σ (fun b=>F b∨(σ mV).b=some b) w:=by
 have hE:Ext n σ F w n σ (fun b=>F b∨(σ mV).b=some b) w:=⟨aA _,fun _ _=>rfl,fun b hb=>⟨.inl hb,rfl⟩,aA _⟩
 refine⟨⟨st.glob,st.qM,fun b hb=> ?_,fun k b h=> ?_,fun k b g' h hm' hg'=> ?_,fun k k' b b' g' h h' hm1 hm2 hg1 hg2=> ?_,fun k b h=> ?_⟩,hE⟩
 ·rcases hb with hb|hb
  ·exact st.oW b hb
  ·obtain⟨_,_,h3,h4⟩:=st.mu mV _ b hk rfl (.inl hb)
   exact⟨h3,h4.elim (fun h=> .inr (.inr h)) fun h=> .inr (.inl h)⟩
 ·rw [oM hk]at h
  split at h
  ·rename_i e;subst e;exact st.lab _ _ hk
  ·exact st.lab k b h
 ·rw [oM hk]at h
  split at h
  ·injection h with h;subst h;cases hm'
  ·rename_i e
   obtain⟨h1,h2⟩:=st.mu k b g' h hm' hg'
   refine⟨fun hf=>hf.elim h1 fun hf=>e (st.inj k mV b _ g' h hk hm' rfl hg' (.inl hf)),h2⟩
 ·rw [oM hk]at h h'
  split at h
  ·injection h with h;subst h;cases hm1
  ·split at h'
   ·injection h' with h';subst h';cases hm2
   ·exact st.inj k k' b b' g' h h' hm1 hm2 hg1 hg2
 ·rw [oM hk]at h
  split at h
  ·rename_i e
   subst e
   injection h with h
   subst h
   obtain⟨g,hg,hM⟩:=st.blk _ _ hk
   exact⟨g,hg, .fm M g (.inr hg) hM⟩
  ·exact(st.blk k b h).mono hE fun _ _ _=>rfl
def zk (F:Nat->Prop)(w:World)(xs:List FV)(vs:List Value):Prop:=vs.length=xs.length∧∀(j:Nat) a v,xs[j]? = some a->vs[j]? = some v->pJ F w a v
theorem zk.mono {F F':Nat->Prop}{w w':World}(h : ∀b,F b->F' b∧w'.heap[b]? = w.heap[b]?){xs:List FV}{vs:List Value}(r:zk F w xs vs):zk F' w' xs vs:=⟨r.1,fun j a v h1 h2=>(r.2 j a v h1 h2).mono h⟩
theorem zk.cons {x:FV}{v:Value}{xs:List FV}{vs:List Value}(h:pJ F w x v)(r:zk F w xs vs):zk F w (x::xs) (v::vs):=⟨by simp [r.1],fun j a u h1 h2=>by
 cases j with
 | zero=>simp only [bW,aN]at h1 h2;rw [<-h1, <-h2];exact h
 | succ j=>exact r.2 j a u (by simpa using h1) (by simpa using h2)⟩
theorem Af (sz:Nat)(oa:Option Addr):pJ F w (.lst sz []) (.slice oa 0 0):=
 .lst sz [] oa 0 0 0 0 rfl (aA _) (fun _=>rfl) (fun h=>absurd h (jF 0)) (by simp) (fun i j hi=>absurd hi (gI i)) (fun i j row a v hi=>by simp at hi)
theorem O8 {a:AV}{v:Value}{K:FV->lM->Prop}(h:dn H a K)(st:St G lY mG mJ n σ F H w)(ra:nI n σ F w a v) :
  ∃x H' F',K x H'∧St G lY mG mJ n σ F' H' w∧Ext n σ F w n σ F' w∧pJ F' w x v:=by
 unfold dn at h
 split at h
 ·rw [ra.oJ];exact⟨_,_,F,h,st, .refl _ _ _ _, .v _⟩
 ·cases ra with|lst hf=>exact⟨_,_,F,h,st, .refl _ _ _ _,hf⟩
 ·cases ra with|fp hf=>exact⟨_,_,F,h,st, .refl _ _ _ _,hf⟩
 ·split at h
  ·rename_i t sz m hk
   obtain⟨s1,e1⟩:=st.freeze hk
   have hb:=s1.blk _ (.fz sz m) (by rw [oM hk,if_pos rfl])
   cases ra with
   | tC _ oa hl hn hc=>
    have e:=hb.2.1
    rw [hn]at e
    have:m = []:=aI e.symm
    subst this
    exact⟨_,_,_,h,s1,e1,Af sz oa⟩
   | own _ hl=>exact⟨_,_,_,h,s1,e1,hb.2.2.1⟩
  ·rename_i sz m hk
   have hb:=st.blk _ _ hk
   cases ra with
   | tC _ oa hl hn hc=>
    have e:=hb.2.1
    rw [hn]at e
    have:m = []:=aI e.symm
    subst this
    exact⟨_,_,F,h,st, .refl _ _ _ _,Af sz oa⟩
   | own _ hl=>exact⟨_,_,F,h,st, .refl _ _ _ _,hb.2.2.1⟩
  ·cases h
 ·cases ra with|fm hf=>exact⟨_,_,F,h,st, .refl _ _ _ _,hf⟩
 ·split at h
  ·rename_i M hk
   obtain⟨s1,e1⟩:=st.aa7 hk
   obtain⟨g,hg,hf⟩:=s1.blk _ (.VN M) (by rw [oM hk,if_pos rfl])
   cases ra with
   | mp _ b hl hb=>
    rw [hb]at hg
    injection hg with hg
    subst hg
    exact⟨_,_,_,h,s1,e1,hf⟩
  ·rename_i M hk
   obtain⟨g,hg,hf⟩:=st.blk _ _ hk
   cases ra with
   | mp _ b hl hb=>
    rw [hb]at hg
    injection hg with hg
    subst hg
    exact⟨_,_,F,h,st, .refl _ _ _ _,hf⟩
  ·cases h
 ·cases h
theorem KU : ∀ {as:List AV} {vs:List Value} {H:lM} {F:Nat->Prop} {K:List FV->lM->Prop},dnL H as K->St G lY mG mJ n σ F H w->nX n σ F w as vs->
  ∃xs H' F',K xs H'∧St G lY mG mJ n σ F' H' w∧Ext n σ F w n σ F' w∧zk F' w xs vs:=by
 intro as
 induction as with
 | nil=>intro vs H F K h st r;cases vs with
  | nil=>exact⟨[],H,F,h,st, .refl _ _ _ _,rfl,fun j a v h1=>by simp at h1⟩
  | cons _ _=>exact r.elim
 | cons a as ih=>intro vs H F K h st r;cases vs with
  | nil=>exact r.elim
  | cons v vs=>
   obtain⟨x,H1,F1,h1,s1,e1,r1⟩:=O8 h st r.1
   obtain⟨xs,H2,F2,h2,s2,e2,r2⟩:=ih h1 s1 (r.2.mono e1)
   exact⟨x::xs,H2,F2,h2,s2,e1.trans e2, .cons (r1.mono e2.f) r2⟩
theorem qA.nil (sz:Nat):qA F w sz [] []:=⟨by simp,by simp,by simp,fun i j row a v h=>by simp at h⟩
theorem qA.cons {sz:Nat}{row:List FV}{l:List (List FV)}{vs xs:List Value}(hr:zk F w row vs)(hl:vs.length=sz)(h1 : ∀v∈vs,v.oneCell'=true)(r:qA F w sz l xs):qA F w sz (row::l) (vs++xs):=by
 refine⟨fun x hx=> ?_,by rw [ak,r.2.1,hl,bC,bJ];omega,fun v hv=> ?_,fun i j row' a v hi hj hv=> ?_⟩
 ·rcases bD.1 hx with rfl|hx
  ·rw [<-hr.1];exact hl
  ·exact r.1 x hx
 ·rcases bK.1 hv with hv|hv
  ·exact h1 v hv
  ·exact r.2.2.1 v hv
 ·cases i with
  | zero=>
   simp only [bW,aN]at hi
   subst hi
   have hjl:=(aO.1 hj).1
   rw [fJ,aV,dQ (by rw [hr.1];exact hjl)]at hv
   exact hr.2 j a v hj hv
  | succ i=>
   have hi':l[i]? = some row':=by simpa using hi
   rw [dG (by rw [hl,bJ];omega),hl]at hv
   rw [show (i+1)*sz+j-sz=i*sz+j by rw [bJ];omega]at hv
   exact r.2.2.2 i j row' a v hi' hj hv
theorem Ii : ∀ {as:List AV} {vs:List Value},all1 as=true->nX n σ F w as vs->∀v∈vs,v.oneCell'=true:=by
 intro as
 induction as with
 | nil=>intro vs _ r v hv;cases vs with
  | nil=>cases hv
  | cons _ _=>exact r.elim
 | cons a as ih=>intro vs h r v hv;cases vs with
  | nil=>exact r.elim
  | cons u vs=>
   simp only [all1,aB]at h
   rcases bD.1 hv with rfl|hv
   ·have hc:=h.1
    have ra:=r.1
    have key : ∀ {a:AV} {v:Value},cell1 a=true->nI n σ F w a v->v.oneCell'=true:=fun {a v} hc ra=>by
     cases ra with
     | v x=>exact hc
     | top x=>cases hc
     | agg _ _ _ _=>cases hc
     | nN _ _ _ _=>cases hc
     | lst hf=>cases hf;rfl
     | fp hf=>cases hf;rfl
     | fm hf=>cases hf;rfl
     | _=>rfl
    exact key hc ra
   ·exact ih h.2 r.2 v hv
theorem BG {a:AV}{v:Value}(r:nI n σ F w a v)(h:all1 (cellsOf a)=true):nX n σ F w (cellsOf a) v.cells.toList:=
 KL r fun e=>by rw [e]at h;simp [cellsOf,all1,cell1]at h
theorem J3 {sz:Nat} : ∀ {ks:List Nat} {as:List AV} {us:List Value} {i:Nat} {H:lM} {F:Nat->Prop} {K:List (List FV)->lM->Prop},F8 H sz i (ks.zip as) K->ks.length=as.length->St G lY mG mJ n σ F H w->nX n σ F w as us->
  ∃l H' F',K l H'∧St G lY mG mJ n σ F' H' w∧Ext n σ F w n σ F' w∧l.length=as.length∧ks=List.range' i as.length∧(∀u∈us,u.cells.toList.length=sz)∧qA F' w sz l (us.flatMap fun u=>u.cells.toList):=by
 intro ks
 induction ks with
 | nil=>
  intro as us i H F K h hl st r
  cases as with
  | cons _ _=>simp at hl
  | nil=>cases us with
   | cons _ _=>exact r.elim
   | nil=>exact⟨[],H,F,h,st, .refl _ _ _ _,rfl,rfl,by simp,qA.nil sz⟩
 | cons k ks ih=>
  intro as us i H F K h hl st r
  cases as with
  | nil=>simp at hl
  | cons a as=>cases us with
   | nil=>exact r.elim
   | cons u us=>
    simp only [jf,F8]at h
    cases hb:(Nat.beq i k&&Nat.beq (cellsOf a).length sz&&all1 (cellsOf a))with
    | false=>rw [hb]at h;exact h.elim
    | true=>
     rw [hb,cond_true]at h
     simp only [aB]at hb
     have e1:=aF hb.1.1
     have e2:=aF hb.1.2
     subst e1
     have rc:=BG r.1 hb.2
     obtain⟨x,H1,F1,h1,s1,x1,r1⟩:=KU h st rc
     obtain⟨l,H2,F2,h2,s2,x2,l2,k2,c2,r2⟩:=ih h1 (by simpa using hl) s1 (r.2.mono x1)
     refine⟨x::l,H2,F2,h2,s2,x1.trans x2,by simp [l2],by rw [k2];rfl, ?_, ?_⟩
     ·intro v hv
      rcases bD.1 hv with rfl|hv
      ·rw [rc.len];exact e2
      ·exact c2 v hv
     ·rw [iC]
      exact .cons (r1.mono x2.f) (by rw [rc.len];exact e2) (Ii hb.2 rc) r2
theorem XQ (z:List Value)(sz:Nat)(hz:z.length=sz) : ∀(us:List Value) (i:Nat) (pre:List Value),pre.length=i*sz->(∀u∈us,u.cells.toList.length=sz)->
  zf (fun j=>some (j*sz,sz)) (pre++(List.replicate us.length z).flatten) ((List.range' i us.length).zip us)=some (pre++us.flatMap fun u=>u.cells.toList):=by
 intro us
 induction us with
 | nil=>intro i pre _ _;simp [zf]
 | cons u us ih=>
  intro i pre hp hc
  have hu:=hc u (by simp)
  simp only [bC,jT,jf,zf,gu,iK]
  have hlen:(pre++(z++(List.replicate us.length z).flatten)).length=i*sz+sz+(List.replicate us.length z).flatten.length:=by simp [hp,hz];omega
  have c1:(Nat.beq u.cells.toList.length sz&&Nat.ble (i*sz+u.cells.toList.length) (pre++(z++(List.replicate us.length z).flatten)).length)=true:=by
   rw [hu,hlen]
   simp only [iT,gW]
   exact kX (by omega)
  rw [c1,cond_true, <-hp, <-aH,OQ pre u.cells.toList z _ (by omega)]
  have:=ih (i+1) (pre++u.cells.toList) (by rw [ak,hp,hu,bJ,dF]) (fun v hv=>hc v (by simp [hv]))
  rw [this,iC,aH]
theorem CB {t:TypeId}{m:Nat}{ks:List Nat}{as:List AV}{us:List Value}{K:AV->Nat->lM->Prop}(h:zD P t m (ks.zip as) n H K)(hl:ks.length=as.length)(st:St G lY mG mJ n σ F H w)(r:nX n σ F w as us) :
  vG P t m (ks.zip us) w (O7 G lY mG mJ n σ F w K):=by
 unfold zD at h
 unfold vG
 split at h
 ·rename_i e hu
  split at h
  ·rename_i i hi
   split at h
   ·rename_i z hz
    cases hb:(Nat.beq z.cells.toList.length i.size&&Nat.ble 1 i.size&&Nat.ble (m*i.size) 16777216&&Nat.beq (ks.zip as).length m&&Nat.ble m maxLen)with
    | false=>rw [hb]at h;exact h.elim
    | true=>
     rw [hb,cond_true]at h
     simp only [aB]at hb
     obtain⟨⟨⟨⟨b1,b2⟩,b3⟩,b4⟩,b5⟩:=hb
     have e4:=aF b4
     rw [List.length_zip,hl,Nat.min_self]at e4
     subst e4
     have hzl:=aF b1
     obtain⟨l,H1,F1,h1,s1,x1,l1,k1,c1,r1⟩:=J3 h hl st r
     have hul:=r.len
     have hf:=XQ z.cells.toList i.size hzl us 0 [] (by simp) c1
     simp only [dO]at hf
     simp only [hu,hi,hz,b1,b2,b3,Bool.and_self,cond_true]
     rw [k1, <-hul,hf]
     simp only [ou]
     obtain⟨s2,x2⟩:=s1.new (w':=w.alloc (.cells (us.flatMap fun u=>u.cells.toList).toArray e)) (AZ.uH (rP (Below.refl _ _) (aA _) _))
      ⟨some w.heap.size,l.length,l.length,i.size⟩ (fun g hg=>by injection hg with hg;subst hg;exact⟨aA _,by simp⟩) (.rows e i.size l)
      ⟨rfl,rfl,_,Own.Fe (tu.new w _ e) (au _) (aA _) (by rw [l1];exact aP b5) (by simpa using r1.2.1) (by rw [<-r1.2.1];exact aW),r1.mono fun b hb=>⟨hb,heap_alloc_old w _ b (s1.oW b hb).1⟩⟩
     refine⟨_,_,_,_,_,h1,s2,x1.trans x2, ?_⟩
     have:=nI.own (n:=n+1) (σ:=yU σ n ⟨some w.heap.size,l.length,l.length,i.size⟩) (F:=F1) (w:=w.alloc (.cells (us.flatMap fun u=>u.cells.toList).toArray e)) n (by omega)
     rw [og]at this
     rw [hul, <-l1]
     exact this
   ·cases h
  ·cases h
 ·cases h
end
end Go.Proofs.YtocckceefcmeaaaGreatDoor.Ax
