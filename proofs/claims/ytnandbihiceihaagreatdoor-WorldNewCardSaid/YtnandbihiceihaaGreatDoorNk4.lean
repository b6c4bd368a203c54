/- Joined parts of the proof. Abstract values: what a value stands for (numbers and texts themselves, memory that changes no more as lists of rows, me -/
import Derived.Test.YtnandbihiceihaaGreatDoorNk3
set_option linter.unusedVariables false
set_option linter.unusedSimpArgs false
set_option maxRecDepth 100000
set_option maxHeartbeats 16000000
namespace Go.Proofs.YtnandbihiceihaaGreatDoor.Ax
open RowKit Vc
inductive FV where
 | top
 | v (x:Value)
 | lst (sz:Nat) (l:List (List FV))
 | fp (cs:List FV) (o:Nat)
 | fm (M:ByteArray->Option Value)
inductive AV where
 | top
 | v (x:Value)
 | lst (sz:Nat) (l:List (List FV))
 | fp (cs:List FV) (o:Nat)
 | fm (M:ByteArray->Option Value)
 | ptr (jT o:Nat)
 | ep (jT i o:Nat)
 | own (jT:Nat)
 | sub (jT o n:Nat)
 | full (jT k:Nat)
 | mp (jT:Nat)
 | fn (f:Fn) (first captured:List AV)
 | agg (cs:List AV)
 | kZ (vs:List AV)
inductive TV where
 | f (a:FV)
 | n (t sz:Nat) (l:List (List FV))
inductive mD where
 | var (t:TypeId) (cs:List AV)
 | rows (t:TypeId) (sz:Nat) (l:List (List FV))
 | fz (sz:Nat) (l:List (List FV))
 | map (M:ByteArray->Option Value)
 | KU (M:ByteArray->Option Value)
 | vS (M:Int->Option FV)
 | smap (M:ByteArray->Option (List FV))
 | XM (s:ByteArray) (p:Nat)
 | tree (t:TypeId) (sz:Nat) (l:List (List TV)) (h:Option (Nat×Nat×Nat))
def mD.own:mD->Bool
 | .fz _ _=>false
 | .KU _=>false
 | _=>true
abbrev jI:=List (Nat×mD)
def look (H:jI)(l:Nat):Option mD:=
 match H with
 | []=>none
 | p::r=>bif Nat.beq p.1 l then some p.2 else look r l
structure Loc where
 b:Option Nat
 n:Nat
 c:Nat
 sz:Nat
def Loc.oa (L:Loc):Option Addr:=L.b.map fun g=>⟨g,0,none⟩
inductive lN (F:Nat->Prop)(w:World):FV->Value->Prop
 | top (x:Value):lN F w .top x
 | v (x:Value):lN F w (.v x) x
 | lst (sz:Nat) (l:List (List FV)) (oa:Option Addr) (n c b o:Nat) (hn:n=l.length) (hc:n<=c) (hnil:oa=none->c=0) (ho:0<n->oa=some ⟨b,o,none⟩∧F b)
   (hsz : ∀row∈l,row.length=sz) (hex : ∀i j,i<n->j<sz->∃v,w.cell? ⟨b,o+(i*sz+j),none⟩=some v∧v.oneCell'=true)
   (hrep : ∀i j row a v,l[i]? = some row->row[j]? = some a->w.cell? ⟨b,o+(i*sz+j),none⟩=some v->lN F w a v):lN F w (.lst sz l) (.slice oa n c)
 | fp (cs:List FV) (o b off:Nat) (hb:F b) (hex : ∀j,j<cs.length->∃v,w.cell? ⟨b,off+j,none⟩=some v∧v.oneCell'=true)
   (hrep : ∀j a v,cs[j]? = some a->w.cell? ⟨b,off+j,none⟩=some v->lN F w a v):lN F w (.fp cs o) (.pointer (some ⟨b,off+o,none⟩))
 | fm (M:ByteArray->Option Value) (b:Nat) (hb:F b) (hM:oL w b M):lN F w (.fm M) (.map (some b))
theorem oC {w w':World}{b:Nat}(h:w'.heap[b]? = w.heap[b]?)(o:Nat):w'.cell? ⟨b,o,none⟩=w.cell? ⟨b,o,none⟩:=by
 unfold World.cell?
 rw [h]
theorem lN.mono {F F':Nat->Prop}{w w':World}(h : ∀b,F b->F' b∧w'.heap[b]? = w.heap[b]?){a:FV}{v:Value}(r:lN F w a v):lN F' w' a v:=by
 induction r with
 | top x=>exact .top x
 | v x=>exact .v x
 | lst sz l oa n c b o hn hc hnil ho hsz hex hrep ih=>
  rcases bH n with h0|h0
  ·subst h0
   have hl:l = []:=aH hn.symm
   subst hl
   exact .lst sz [] oa 0 c b o rfl hc hnil (fun h=>absurd h (ig 0)) hsz (fun i j hi=>absurd hi (fO i)) (fun i j row a v hi=>by simp at hi)
  ·have hb:=(ho h0).2
   have e:=oC (h b hb).2
   exact .lst sz l oa n c b o hn hc hnil (fun _=>⟨(ho h0).1,(h b hb).1⟩) hsz (fun i j hi hj=>by rw [e];exact hex i j hi hj)
    (fun i j row a v h1 h2 h3=>ih i j row a v h1 h2 (by rw [e]at h3;exact h3))
 | fp cs o b off hb hex hrep ih=>
  have e:=oC (h b hb).2
  exact .fp cs o b off (h b hb).1 (fun j hj=>by rw [e];exact hex j hj) (fun j a v h1 h2=>ih j a v h1 (by rw [e]at h2;exact h2))
 | fm M b hb hM=>exact .fm M b (h b hb).1 (hM.heap (h b hb).2)
inductive jX (n:Nat)(σ:Nat->Loc)(F:Nat->Prop)(w:World):AV->Value->Prop
 | top (x:Value):jX n σ F w .top x
 | v (x:Value):jX n σ F w (.v x) x
 | lst {sz:Nat} {l:List (List FV)} {x:Value} (h:lN F w (.lst sz l) x):jX n σ F w (.lst sz l) x
 | fp {cs:List FV} {o:Nat} {x:Value} (h:lN F w (.fp cs o) x):jX n σ F w (.fp cs o) x
 | fm {M:ByteArray->Option Value} {x:Value} (h:lN F w (.fm M) x):jX n σ F w (.fm M) x
 | ptr (jT o b:Nat) (hl:jT<n) (hb:(σ jT).b=some b):jX n σ F w (.ptr jT o) (.pointer (some ⟨b,o,none⟩))
 | ep (jT i o b:Nat) (hl:jT<n) (hb:(σ jT).b=some b):jX n σ F w (.ep jT i o) (.pointer (some ⟨b,i*(σ jT).sz+o,none⟩))
 | own (jT:Nat) (hl:jT<n):jX n σ F w (.own jT) (.slice (σ jT).oa (σ jT).n (σ jT).c)
 | oP (jT:Nat) (oa:Option Addr) (hl:jT<n) (hn:(σ jT).n=0) (hc:(σ jT).c=0):jX n σ F w (.own jT) (.slice oa 0 0)
 | sub (jT o k:Nat) (oa:Option Addr) (c:Nat) (hl:jT<n) (hk:o+k<=(σ jT).n) (hc:k<=c) (hnil:oa=none->c=0) (ho:0<k->∃b,(σ jT).b=some b∧oa=some ⟨b,o*(σ jT).sz,none⟩):jX n σ F w (.sub jT o k) (.slice oa k c)
 | full (jT k:Nat) (oa:Option Addr) (hl:jT<n) (hk:k<=(σ jT).n) (ho:0<k->∃b,(σ jT).b=some b∧oa=some ⟨b,0,none⟩):jX n σ F w (.full jT k) (.slice oa k k)
 | mp (jT b:Nat) (hl:jT<n) (hb:(σ jT).b=some b):jX n σ F w (.mp jT) (.map (some b))
 | fn (f:Fn) (xs ys:List AV) (us vs:List Value) (hx:us.length=xs.length) (hy:vs.length=ys.length)
   (rx : ∀(j:Nat) a v,xs[j]? = some a->us[j]? = some v->jX n σ F w a v) (ry : ∀(j:Nat) a v,ys[j]? = some a->vs[j]? = some v->jX n σ F w a v):jX n σ F w (.fn f xs ys) (.func f us.toArray vs.toArray)
 | agg (xs:List AV) (us:List Value) (hx:us.length=xs.length) (rx : ∀(j:Nat) a v,xs[j]? = some a->us[j]? = some v->jX n σ F w a v):jX n σ F w (.agg xs) (.agg us.toArray)
 | kZ (xs:List AV) (us:List Value) (hx:us.length=xs.length) (rx : ∀(j:Nat) a v,xs[j]? = some a->us[j]? = some v->jX n σ F w a v):jX n σ F w (.kZ xs) (.tuple us.toArray)
structure Ext (n:Nat)(σ:Nat->Loc)(F:Nat->Prop)(w:World)(n':Nat)(σ':Nat->Loc)(F':Nat->Prop)(w':World):Prop where
 le:n<=n'
 s : ∀jT,jT<n->σ' jT=σ jT
 f : ∀b,F b->F' b∧w'.heap[b]? = w.heap[b]?
 sz:w.heap.size<=w'.heap.size
theorem Ext.refl (n:Nat)(σ:Nat->Loc)(F:Nat->Prop)(w:World):Ext n σ F w n σ F w:=⟨ay _,fun _ _=>rfl,fun _ h=>⟨h,rfl⟩,ay _⟩
theorem Ext.trans {n n' n'':Nat}{σ σ' uX:Nat->Loc}{F F' HY:Nat->Prop}{w w' w'':World}(h:Ext n σ F w n' σ' F' w')(k:Ext n' σ' F' w' n'' uX HY w''):Ext n σ F w n'' uX HY w'':=
 ⟨bZ h.le k.le,fun l hl=>(k.s l (aN hl h.le)).trans (h.s l hl),fun b hb=>⟨(k.f b (h.f b hb).1).1,(k.f b (h.f b hb).1).2.trans (h.f b hb).2⟩,bZ h.sz k.sz⟩
theorem jX.mono {n n':Nat}{σ σ':Nat->Loc}{F F':Nat->Prop}{w w':World}(e:Ext n σ F w n' σ' F' w'){a:AV}{v:Value}(r:jX n σ F w a v):jX n' σ' F' w' a v:=by
 induction r with
 | top x=>exact .top x
 | v x=>exact .v x
 | lst h=>exact .lst (h.mono e.f)
 | fp h=>exact .fp (h.mono e.f)
 | fm h=>exact .fm (h.mono e.f)
 | ptr l o b hl hb=>exact .ptr l o b (aN hl e.le) abo
 | ep l i o b hl hb=>rw [<-e.s l hl];exact .ep l i o b (aN hl e.le) abo
 | own l hl=>rw [<-e.s l hl];exact .own l (aN hl e.le)
 | oP l oa hl hn hc=>exact .oP l oa (aN hl e.le) (by rw [e.s l hl];exact hn) (by rw [e.s l hl];exact hc)
 | sub l o k oa c hl hk hc hnil ho=>exact .sub l o k oa c (aN hl e.le) (by rw [e.s l hl];exact hk) hc hnil (by rw [e.s l hl];exact ho)
 | full l k oa hl hk ho=>exact .full l k oa (aN hl e.le) (by rw [e.s l hl];exact hk) (by rw [e.s l hl];exact ho)
 | mp l b hl hb=>exact .mp l b (aN hl e.le) abo
 | fn f xs ys us vs hx hy _ _ ih1 ih2=>exact .fn f xs ys us vs hx hy ih1 ih2
 | agg xs us hx _ ih=>exact .agg xs us hx ih
 | kZ xs us hx _ ih=>exact .kZ xs us hx ih
def kD (n:Nat)(σ:Nat->Loc)(F:Nat->Prop)(w:World):List AV->List Value->Prop
 | [],[]=>True
 | a::as,v::vs=>jX n σ F w a v∧kD n σ F w as vs
 | _,_=>False
section
variable {n:Nat}{σ:Nat->Loc}{F:Nat->Prop}{w:World}
theorem kD.len : ∀ {as:List AV} {vs:List Value},kD n σ F w as vs->vs.length=as.length:=by
 intro as
 induction as with
 | nil=>intro vs h;cases vs with
  | nil=>rfl
  | cons _ _=>exact h.elim
 | cons a as ih=>intro vs h;cases vs with
  | nil=>exact h.elim
  | cons v vs=>simp [ih h.2]
theorem kD.at : ∀ {as:List AV} {vs:List Value},kD n σ F w as vs->∀(j:Nat) a v,as[j]? = some a->vs[j]? = some v->jX n σ F w a v:=by
 intro as
 induction as with
 | nil=>intro vs h j a v h1;simp at h1
 | cons a as ih=>intro vs h;cases vs with
  | nil=>exact h.elim
  | cons v vs=>
   intro j x y h1 h2
   cases j with
   | zero=>simp only [bJ,aA]at h1 h2;subst h1;subst h2;exact h.1
   | succ j=>exact ih h.2 j x y abg abx
theorem kD.of : ∀ {as:List AV} {vs:List Value},vs.length=as.length->(∀(j:Nat) a v,as[j]? = some a->vs[j]? = some v->jX n σ F w a v)->kD n σ F w as vs:=by
 intro as
 induction as with
 | nil=>intro vs h _;cases vs with
  | nil=>trivial
  | cons _ _=>simp at h
 | cons a as ih=>intro vs h k;cases vs with
  | nil=>simp at h
  | cons v vs=>exact⟨k 0 a v rfl rfl,ih aaU fun j x y h1 h2=>k (j+1) x y abg abx⟩
theorem kD.mono {n':Nat}{σ':Nat->Loc}{F':Nat->Prop}{w':World}(e:Ext n σ F w n' σ' F' w'){as:List AV}{vs:List Value}(h:kD n σ F w as vs):kD n' σ' F' w' as vs:=
 .of h.len fun j a v h1 h2=>(h.at j a v h1 h2).mono e
theorem kD.yQ {as:List AV}{v:Value}(h:jX n σ F w (.agg as) v) : ∃vs,v = .agg vs.toArray∧kD n σ F w as vs:=by
 cases h with
 | agg _ us hx rx=>exact⟨us,rfl, .of hx rx⟩
theorem kD.agg {as:List AV}{vs:List Value}(h:kD n σ F w as vs):jX n σ F w (.agg as) (.agg vs.toArray):= .agg as vs h.len h.at
theorem kD.kZ {as:List AV}{vs:List Value}(h:kD n σ F w as vs):jX n σ F w (.kZ as) (.tuple vs.toArray):= .kZ as vs h.len h.at
theorem kD.append {as bs:List AV}{vs us:List Value}(h:kD n σ F w as vs)(k:kD n σ F w bs us):kD n σ F w (as++bs) (vs++us):=by
 induction as generalizing vs with
 | nil=>cases vs with
  | nil=>exact k
  | cons _ _=>exact h.elim
 | cons a as ih=>cases vs with
  | nil=>exact h.elim
  | cons v vs=>exact⟨h.1,ih h.2⟩
theorem kD.drop {as:List AV}{vs:List Value}(h:kD n σ F w as vs)(k:Nat):kD n σ F w (as.drop k) (vs.drop k):=
 .of (by simp [h.len]) fun j a v h1 h2=>h.at (k+j) a v abg abx
theorem kD.take {as:List AV}{vs:List Value}(h:kD n σ F w as vs)(k:Nat):kD n σ F w (as.take k) (vs.take k):=
 .of (by simp [h.len]) fun j a v h1 h2=>h.at j a v (by rw [aW]at h1;split at h1;exact h1;cases h1) (by rw [aW]at h2;split at h2;exact h2;cases h2)
theorem kD.set {as:List AV}{vs:List Value}(h:kD n σ F w as vs)(k:Nat){a:AV}{v:Value}(r:jX n σ F w a v):kD n σ F w (as.set k a) (vs.set k v):=
 .of (by simp [h.len]) fun j x y h1 h2=>by
  have hl:=h.len
  rw [iE]at h1 h2
  by_cases e:k=j
  ·subst e
   simp only [if_true]at h1 h2
   by_cases hk:k<as.length
   ·rw [if_pos hk]at h1;rw [if_pos aad]at h2
    injection h1 with h1;injection h2 with h2
    rw [<-h1, <-h2];exact r
   ·rw [if_neg hk]at h1;cases h1
  ·rw [if_neg e]at h1 h2;exact h.at j x y h1 h2
end
def FV.up:FV->AV
 | .top=> .top
 | .v x=> .v x
 | .lst sz l=> .lst sz l
 | .fp cs o=> .fp cs o
 | .fm M=> .fm M
theorem lN.up {n:Nat}{σ:Nat->Loc}{F:Nat->Prop}{w:World}{a:FV}{v:Value}(h:lN F w a v):jX n σ F w a.up v:=by
 cases a with
 | top=>exact .top v
 | v x=>cases h;exact .v _
 | lst sz l=>exact .lst h
 | fp cs o=>exact .fp h
 | fm M=>exact .fm h
def mY (F:Nat->Prop)(w:World)(sz:Nat)(l:List (List FV))(xs:List Value):Prop:=
 (∀row∈l,row.length=sz)∧xs.length=l.length*sz∧(∀v∈xs,v.oneCell'=true)∧∀i j row a v,l[i]? = some row->row[j]? = some a->xs[i*sz+j]? = some v->lN F w a v
def QG (F:Nat->Prop)(w:World)(g:Nat)(M:Int->Option FV):Prop:= ∃V,o7 w g V∧∀k,match M k,V k with|some a,some v=>lN F w a v|none,none=>True|_,_=>False
theorem QG.mono {F F':Nat->Prop}{w w':World}{g:Nat}{M:Int->Option FV}(h:QG F w g M)(hf : ∀b,F b->F' b∧w'.heap[b]? = w.heap[b]?)(hb:w'.heap[g]? = w.heap[g]?):QG F' w' g M:=by
 obtain⟨V,h1,h2⟩:=h
 refine⟨V,h1.heap hb,fun k=> ?_⟩
 have:=h2 k
 split at this
 ·exact this.mono hf
 ·trivial
 ·exact this.elim
def rE (F:Nat->Prop)(w:World)(xs:List FV)(vs:List Value):Prop:=vs.length=xs.length∧∀(j:Nat) a v,xs[j]? = some a->vs[j]? = some v->lN F w a v
theorem rE.mono {F F':Nat->Prop}{w w':World}(h : ∀b,F b->F' b∧w'.heap[b]? = w.heap[b]?){xs:List FV}{vs:List Value}(r:rE F w xs vs):rE F' w' xs vs:=⟨r.1,fun j a v h1 h2=>(r.2 j a v h1 h2).mono h⟩
def QH (F:Nat->Prop)(w:World)(g:Nat)(M:ByteArray->Option (List FV)):Prop:= ∃V,oL w g V∧∀k,match M k,V k with|some r,some v=> ∃vs:List Value,v = .agg vs.toArray∧rE F w r vs|none,none=>True|_,_=>False
theorem QH.mono {F F':Nat->Prop}{w w':World}{g:Nat}{M:ByteArray->Option (List FV)}(h:QH F w g M)(hf : ∀b,F b->F' b∧w'.heap[b]? = w.heap[b]?)(hb:w'.heap[g]? = w.heap[g]?):QH F' w' g M:=by
 obtain⟨V,h1,h2⟩:=h
 refine⟨V,h1.heap hb,fun k=> ?_⟩
 have:=h2 k
 split at this
 ·obtain⟨vs,e,r⟩:=this;exact⟨vs,e,r.mono hf⟩
 ·trivial
 ·exact this.elim
def Fz (w:World)(L:Loc)(sz:Nat)(l:List (List TV))(i j g:Nat):Prop:=
 ∃b row t' sz' r m c,L.b=some b∧l[i]? = some row∧row[j]? = some (.n t' sz' r)∧w.cell? ⟨b,i*sz+j,none⟩=some (.slice (some ⟨g,0,none⟩) m c)∧0<c
def Nst (w:World)(L:Loc):mD->Nat->Prop
 | .tree _ sz l _,g=> ∃i j,Fz w L sz l i j g
 | _,_=>False
def oW (w:World)(L:Loc)(blk:mD)(g:Nat):Prop:=L.b=some g∨Nst w L blk g
def mD.flat:mD->Bool
 | .tree _ _ _ _=>false
 | _=>true
theorem oW.flat {w:World}{L:Loc}{blk:mD}{g:Nat}(hf:blk.flat=true)(h:oW w L blk g):L.b=some g:=by
 rcases h with h|h
 ·exact h
 ·cases blk<;>first|exact h.elim|cases hf
theorem Fz.back {w w':World}{L:Loc}{sz:Nat}{l:List (List TV)}{i j g:Nat}(hb : ∀b,L.b=some b->w'.heap[b]? = w.heap[b]?)(h:Fz w' L sz l i j g):Fz w L sz l i j g:=by
 obtain⟨b,row,t',sz',r,m,c,h1,h2,h3,h4,h5⟩:=h
 exact⟨b,row,t',sz',r,m,c,h1,h2,h3,by rw [<-oC (hb b h1)];exact h4,h5⟩
theorem oW.back {w w':World}{L:Loc}{blk:mD}{g:Nat}(hb : ∀b,L.b=some b->w'.heap[b]? = w.heap[b]?)(h:oW w' L blk g):oW w L blk g:=by
 rcases h with h|h
 ·exact .inl h
 ·cases blk<;>first|exact h.elim|skip
  obtain⟨i,j,h⟩:=h
  exact .inr ⟨i,j,h.back hb⟩
def ZW (F:Nat->Prop)(w:World):TV->Value->Prop
 | .f x,v=>lN F w x v
 | .n t sz l,v=> ∃oa c,v = .slice oa l.length c∧((c=0∧l = [])∨∃ys,0<c∧Own w 0 t sz oa l.length c ys∧mY F w sz l ys)
def KW (F:Nat->Prop)(w:World)(sz:Nat)(l:List (List TV))(xs:List Value):Prop:=
 (∀row∈l,row.length=sz)∧xs.length=l.length*sz∧(∀v∈xs,v.oneCell'=true)∧∀i j row a v,l[i]? = some row->row[j]? = some a->xs[i*sz+j]? = some v->ZW F w a v
def Sep (w:World)(L:Loc)(sz:Nat)(l:List (List TV)):Prop:=
 (∀i j i' j' g,Fz w L sz l i j g->Fz w L sz l i' j' g->i=i'∧j=j')∧∀i j g,Fz w L sz l i j g->L.b≠some g
def qW (n:Nat)(σ:Nat->Loc)(F:Nat->Prop)(w:World)(L:Loc):mD->Prop
 | .var t cs=> ∃g vs,L.b=some g∧oH w g vs t∧kD n σ F w cs vs∧∀v∈vs,v.oneCell'=true
 | .rows t sz l=>L.sz=sz∧L.n=l.length∧∃xs,Own w 0 t sz L.oa l.length L.c xs∧mY F w sz l xs
 | .fz sz l=>L.sz=sz∧L.n=l.length∧lN F w (.lst sz l) (.slice L.oa L.n L.c)∧∀b o,L.oa=some ⟨b,o,none⟩->o=0
 | .map M=> ∃g,L.b=some g∧oL w g M
 | .KU M=> ∃g,L.b=some g∧lN F w (.fm M) (.map (some g))
 | .vS M=> ∃g,L.b=some g∧QG F w g M
 | .smap M=> ∃g,L.b=some g∧QH F w g M
 | .XM s p=> ∃g,L.b=some g∧w.heap[g]? = some (.stringIter s p)
 | .tree t sz l h=>L.sz=sz∧L.n=l.length∧∃xs,Own w 0 t sz L.oa l.length L.c xs∧KW F w sz l xs∧Sep w L sz l∧
  ∀i j e,h=some (i,j,e)->e<n∧i<l.length∧j<sz∧(∃row,l[i]? = some row∧row[j]? = some (.f .top))∧∃v,xs[i*sz+j]? = some v∧jX n σ F w (.own e) v
structure Glob where
 nb:Nat
 val:Nat->Option (List Value)
 eqs:Nat->Option Obj
def Glob.holds (G:Glob)(w:World):Prop:=G.nb<=w.heap.size∧(∀g cs,G.val g=some cs->g<G.nb∧∀j v,cs[j]? = some v->w.cell? ⟨g,j,none⟩=some v)∧∀g o,G.eqs g=some o->g<G.nb∧w.heap[g]? = some o
structure uH (M:Nat->Prop)(w w':World):Prop where
 os:w'.os=w.os
 tape:w'.tape=w.tape
 output:w'.output=w.output
 size:w.heap.size<=w'.heap.size
 block : ∀k,k<w.heap.size->¬M k->w'.heap[k]? = w.heap[k]?
theorem uH.refl (M:Nat->Prop)(w:World):uH M w w:=⟨rfl,rfl,rfl,ay _,fun _ _ _=>rfl⟩
theorem uH.trans {M M':Nat->Prop}{u v w:World}(h:uH M u v)(k:uH M' v w)(hM : ∀b,M' b->M b∨u.heap.size<=b):uH M u w:=
 ⟨k.os.trans h.os,k.tape.trans h.tape,k.output.trans h.output,bZ h.size k.size,fun b hb hn=>
  (k.block b (aN hb h.size) fun hm=>(hM b hm).elim hn fun hge=>by omega).trans (h.block b hb hn)⟩
theorem uH.below {w w':World}{M:Nat->Prop}{B:Nat}(h:uH M w w')(hM : ∀b,M b->B<=b)(hB:B<=w.heap.size):Below B w w':=
 ⟨h.os,h.tape,h.output,h.size,fun k hk=>h.block k aad fun hm=>by have:=hM k hm;omega⟩
theorem uH.nY {w w':World}(h:Below w.heap.size w w'):uH (fun _=>False) w w':=⟨h.os,h.tape,h.output,h.size,fun k hk _=>h.block k hk⟩
theorem uH.Vt {w w':World}{g:Nat}(h:Only g w w'):uH (fun b=>b=g) w w':=⟨h.os,h.tape,h.output,iD h.size.symm,fun k _ hn=>h.block k hn⟩
theorem uH.mono {M M':Nat->Prop}{w w':World}(h:uH M w w')(hM : ∀b,b<w.heap.size->M b->M' b):uH M' w w':=⟨h.os,h.tape,h.output,h.size,fun k hk hn=>h.block k hk fun hm=>hn (hM k hk hm)⟩
theorem Glob.nN {G:Glob}{w w':World}(h:G.holds w)(hs:w.heap.size<=w'.heap.size)(hb : ∀b,b<G.nb->w'.heap[b]? = w.heap[b]?):G.holds w':=
 ⟨bZ h.1 hs,fun g cs hg=>⟨(h.2.1 g cs hg).1,fun j v hj=>by rw [oC (hb g (h.2.1 g cs hg).1)];exact(h.2.1 g cs hg).2 j v hj⟩,fun g o ho=>⟨(h.2.2 g o ho).1,by rw [hb g (h.2.2 g o ho).1];exact(h.2.2 g o ho).2⟩⟩
structure St (G:Glob)(jL:World)(jO jQ:Nat->Prop)(n:Nat)(σ:Nat->Loc)(F:Nat->Prop)(H:jI)(w:World):Prop where
 glob:G.holds w
 nN:uH jO jL w
 lI : ∀b,F b->b<w.heap.size∧(jQ b∨jL.heap.size<=b∨jO b)
 lab : ∀jT blk,look H jT=some blk->jT<n
 mu : ∀jT blk g,look H jT=some blk->blk.own=true->oW w (σ jT) blk g->¬F g∧G.nb<=g∧g<w.heap.size∧(jO g∨jL.heap.size<=g)
 inj : ∀jT uY blk blk' g,look H jT=some blk->look H uY=some blk'->blk.own=true->blk'.own=true->oW w (σ jT) blk g->oW w (σ uY) blk' g->jT=uY
 blk : ∀jT blk,look H jT=some blk->qW n σ F w (σ jT) blk
def qX (w:World)(σ:Nat->Loc)(H:jI)(g:Nat):Prop:= ∃jT blk,look H jT=some blk∧blk.own=true∧oW w (σ jT) blk g
theorem mY.mono {F F':Nat->Prop}{w w':World}(h : ∀b,F b->F' b∧w'.heap[b]? = w.heap[b]?){sz:Nat}{l:List (List FV)}{xs:List Value}(r:mY F w sz l xs):mY F' w' sz l xs:=
 ⟨r.1,r.2.1,r.2.2.1,fun i j row a v h1 h2 h3=>(r.2.2.2 i j row a v h1 h2 h3).mono h⟩
theorem wU {w w':World}{t sz:Nat}{oa:Option Addr}{n c:Nat}{xs:List Value}(h:Own w 0 t sz oa n c xs)(hs:w.heap.size<=w'.heap.size)(hb : ∀g,oa.map (·.block)=some g->w'.heap[g]? = w.heap[g]?):Own w' 0 t sz oa n c xs:=by
 refine⟨h.1, ?_⟩
 rcases h.2 with h2|⟨g,cap,cur,hv,hg,hh,h3⟩
 ·exact .inl h2
 ·injection hv with e1 e2 e3
  subst e1;subst e3
  exact .inr ⟨g,c,cur,rfl,hg,by rw [hb g rfl];exact hh,h3⟩
theorem rY {w:World}{t sz c i j:Nat}{L:Loc}{α:Type}{l:List (List α)}{row:List α}{a:α}{xs:List Value}{v:Value}(h:Own w 0 t sz L.oa l.length c xs)(hi:l[i]? = some row)(hr:row.length=sz)(hj:row[j]? = some a)(hx:xs.length=l.length*sz)(hv:xs[i*sz+j]? = some v) :
  ∃b,L.b=some b∧w.cell? ⟨b,i*sz+j,none⟩=some v:=by
 have hil:=(aF.1 hi).1
 have hjl:=(aF.1 hj).1
 obtain⟨g,cur,hg,_,hB,hle,_,hcl,htk⟩:=h.blk aad
 have hb:L.b=some g:=by
  unfold Loc.oa at hg
  cases hx:L.b with
  | none=>rw [hx]at hg;cases hg
  | some g'=>rw [hx]at hg;simp at hg;rw [hg]
 refine⟨g,hb, ?_⟩
 have hlt:i*sz+j<l.length*sz:=by
  have:(i+1)*sz<=l.length*sz:=aP _ hil
  rw [aX,cu]at this;omega
 rw [hB.cell, <-hv, <-htk,aW,if_pos hlt]
theorem KW.mono {F F':Nat->Prop}{w:World}{sz:Nat}{l:List (List TV)}{xs:List Value}(h : ∀b,F b->F' b∧w.heap[b]? = w.heap[b]?)(r:KW F w sz l xs):KW F' w sz l xs:=
 ⟨r.1,r.2.1,r.2.2.1,fun i j row a v hi hj hv=>by
  have hT:=r.2.2.2 i j row a v hi hj hv
  cases a with
  | f x=>exact lN.mono h hT
  | n t' sz' q=>
   obtain⟨oa,c,rfl,hT⟩:=hT
   exact⟨oa,c,rfl,hT.imp id fun⟨ys,hc,hO,hR⟩=>⟨ys,hc,hO,mY.mono h hR⟩⟩⟩
theorem qW.mono {n n':Nat}{σ σ':Nat->Loc}{F F':Nat->Prop}{w w':World}(e:Ext n σ F w n' σ' F' w'){L:Loc}{blk:mD}(h:qW n σ F w L blk)(hb:blk.own=true->∀g,oW w L blk g->w'.heap[g]? = w.heap[g]?):qW n' σ' F' w' L blk:=by
 cases blk with
 | var t cs=>
  obtain⟨g,vs,h1,h2,h3,h4⟩:=h
  exact⟨g,vs,h1,(hb rfl g (.inl h1)).trans h2,h3.mono e,h4⟩
 | rows t sz l=>
  obtain⟨h1,h2,xs,h3,h4⟩:=h
  exact⟨h1,h2,xs,wU h3 e.sz (fun g hg=>hb rfl g (.inl (by cases hL:L.b<;>simp_all [Loc.oa]))),h4.mono e.f⟩
 | fz sz l=>exact⟨h.1,h.2.1,h.2.2.1.mono e.f,h.2.2.2⟩
 | map M=>
  obtain⟨g,h1,h2⟩:=h
  exact⟨g,h1,h2.heap (hb rfl g (.inl h1))⟩
 | KU M=>
  obtain⟨g,h1,h2⟩:=h
  exact⟨g,h1,h2.mono e.f⟩
 | vS M=>
  obtain⟨g,h1,h2⟩:=h
  exact⟨g,h1,h2.mono e.f (hb rfl g (.inl h1))⟩
 | smap M=>
  obtain⟨g,h1,h2⟩:=h
  exact⟨g,h1,h2.mono e.f (hb rfl g (.inl h1))⟩
 | XM s p=>
  obtain⟨g,h1,h2⟩:=h
  exact⟨g,h1,(hb rfl g (.inl h1)).trans h2⟩
 | tree t sz l h=>
  obtain⟨h1,h2,xs,h3,h4,h5,h6⟩:=h
  have hbk : ∀b,L.b=some b->w'.heap[b]? = w.heap[b]? :=fun b hL=>hb rfl b (.inl hL)
  refine⟨h1,h2,xs,wU h3 e.sz (fun g hg=>hb rfl g (.inl (by cases hL:L.b<;>simp_all [Loc.oa]))),⟨h4.1,h4.2.1,h4.2.2.1,fun i j row a v hi hj hv=> ?_⟩,⟨fun i j i' j' g a b=>h5.1 i j i' j' g (a.back hbk) (b.back hbk),fun i j g a=>h5.2 i j g (a.back hbk)⟩,fun i j k hk=> ?_⟩
  ·have hT:=h4.2.2.2 i j row a v hi hj hv
   cases a with
   | f x=>exact hT.mono e.f
   | n t' sz' r=>
    obtain⟨oa,c,rfl,hT⟩:=hT
    refine⟨oa,c,rfl,hT.imp id fun⟨ys,hc,hO,hR⟩=>⟨ys,hc,wU hO e.sz (fun g hg=>hb rfl g (.inr ⟨i,j, ?_⟩)),hR.mono e.f⟩⟩
    obtain⟨b,hLb,hcell⟩:=rY h3 hi (h4.1 row (aO hi)) hj h4.2.1 hv
    refine⟨b,row,t',sz',r,r.length,c,hLb,hi,hj, ?_,hc⟩
    rw [hcell]
    rcases hO.2 with ⟨hs,_⟩|⟨g',cap,cur,hs,_⟩
    ·injection hs with e1 _ _;rw [e1]at hg;cases hg
    ·injection hs with e1 _ _;rw [e1]at hg ⊢;injection hg with hg;have hg:g'=g:=hg;rw [hg]
  ·obtain⟨a1,a2,a3,a4,v,a5,a6⟩:=h6 i j k hk
   exact⟨aN a1 e.le,a2,a3,a4,v,a5,a6.mono e⟩
abbrev jM:=Nat->AV
def qc (ρ:jM)(d:Nat)(v:AV):jM:=fun n=>bif Nat.beq n d then v else ρ n
def mF (ρ:jM)(d:Option Nat)(v:AV):jM:=match d with|some d=>qc ρ d v|none=>ρ
def FB (v:Value):AV:=
 match v with
 | .agg cs=> .agg (cs.toList.map .v)
 | .tuple cs=> .kZ (cs.toList.map .v)
 | v=> .v v
def lK (ρ:jM)(x:Operand):AV:=
 match x with
 | .tmp t=>ρ t
 | .const v=>FB v
 | .global g=> .v (.pointer (some ⟨g,0,none⟩))
 | .func f=> .v (.func (.func f) #[] #[])
def af (a:AV)(k:AV->Prop):Prop:=
 match a with
 | .top=>k .top
 | .v x=>force x fun x=>k (.v x)
 | .lst sz l=>k (.lst sz l)
 | .fp cs o=>k (.fp cs o)
 | .fm M=>k (.fm M)
 | .ptr l o=>k (.ptr l o)
 | .ep l i o=>k (.ep l i o)
 | .own l=>k (.own l)
 | .sub l o n=>k (.sub l o n)
 | .full l o=>k (.full l o)
 | .mp l=>k (.mp l)
 | .fn f x y=>k (.fn f x y)
 | .agg cs=>k (.agg cs)
 | .kZ vs=>k (.kZ vs)
theorem nO (a:AV)(k:AV->Prop):af a k=k a:=by cases a<;>simp [af,force_eq]
def ES (l:List AV)(k:List AV->Prop):Prop:=
 match l with
 | []=>k []
 | a::r=>af a fun a'=>ES r fun r'=>k (a'::r')
theorem oJ (l:List AV) : ∀k:List AV->Prop,ES l k=k l:=by
 induction l with
 | nil=>intro k;rfl
 | cons x r ih=>intro k;simp only [ES,nO,ih]
def spine {α:Type}(l:List α)(k:List α->Prop):Prop:=
 match l with
 | []=>k []
 | a::r=>spine r fun r'=>k (a::r')
theorem lQ {α:Type}(l:List α) : ∀k:List α->Prop,spine l k=k l:=by
 induction l with
 | nil=>intro k;rfl
 | cons x r ih=>intro k;simp only [spine,ih]
def X9 (a:Option AV)(k:Option AV->Prop):Prop:=
 match a with
 | some a=>af a fun a'=>k (some a')
 | none=>k none
theorem Vu (a:Option AV)(k:Option AV->Prop):X9 a k=k a:=by cases a<;>simp [X9,nO]
structure kP (k:IntKind)(x:Int)(K:Int->Prop):Prop where
 ex:K (k.wrap x)
structure nG (x:Int)(n:Nat)(K:Nat->Prop):Prop where
 ex : ∃i:Nat,x=i∧i<n∧K i
structure pO (x y:Int)(n:Nat)(K:Nat->Nat->Prop):Prop where
 ex : ∃i j:Nat,x=i∧y=j∧i<=j∧j<=n∧K i j
structure nH (l:List (List FV))(i:Nat)(K:List FV->Prop):Prop where
 ex : ∃row,l[i]? = some row∧K row
structure ARt (l:List (List TV))(i:Nat)(K:List TV->Prop):Prop where
 ex : ∃row,l[i]? = some row∧K row
structure ATs (p K:Prop):Prop where
 is:p
 go:K
structure ATn (m:List (List TV))(i o:Nat)(K:List TV->Prop):Prop where
 ex : ∃row a,m[i]? = some row∧row[o]? = some (.f a)∧K row
structure pW (x y:Int)(nV:Nat)(K:Nat->Prop):Prop where
 ex : ∃n m:Nat,x=n∧y=m∧n<=m∧nV*m<=140737488355328∧m<=maxLen∧K n
def pR (c:UInt8):List FV:= [.v (.int .u8 (c.toNat:Int))]
structure Nl (l:List (List FV))(K:ByteArray->Prop):Prop where
 ex : ∃s:List UInt8,l=s.map pR∧K ⟨s.toArray⟩
structure ZX (M:ByteArray->Option Value)(s:ByteArray)(z:Value)(K:Value->Bool->Prop):Prop where
 ex:K ((M s).getD z) (M s).isSome
def FV.val:FV->AV
 | .v y=>FB y
 | x=>x.up
structure ZE (M:Int->Option FV)(k:Int)(z:Value)(K:AV->Bool->Prop):Prop where
 no:M k=none->K (FB z) false
 yes : ∀x,M k=some x->K x.val true
structure Ya (M:ByteArray->Option (List FV))(k:ByteArray)(z:Value)(K:AV->Bool->Prop):Prop where
 no:M k=none->K (FB z) false
 yes : ∀r,M k=some r->K (.agg (r.map FV.up)) true
def Np (op:BinOp)(k:IntKind)(a b:Int)(K:AV->Prop):Prop:=
 match op with
 | .add=>kP k (a+b) fun n=>K (.v (.int k n))
 | .sub=>kP k (a-b) fun n=>K (.v (.int k n))
 | .mul=>kP k (a*b) fun n=>K (.v (.int k n))
 | .quo=>jS (b≠0) (kP k (a.tdiv b) fun n=>K (.v (.int k n)))
 | .rem=>jS (b≠0) (K (.v (.int k (a.tmod b))))
 | .and=>K (.v (.int k (kJ .and k a b)))
 | .or=>K (.v (.int k (kJ .or k a b)))
 | .xor=>K (.v (.int k (kJ .xor k a b)))
 | .andNot=>K (.v (.int k (kJ .andNot k a b)))
 | .shl=>jS (0<=b) (kP k (a*2^min b.toNat k.bits) fun n=>K (.v (.int k n)))
 | .shr=>jS (0<=b) (K (.v (.int k (a.fdiv (2^min b.toNat k.bits)))))
 | .eql=>K (.v (.bool (a==b)))
 | .neq=>K (.v (.bool (a != b)))
 | .lss=>K (.v (.bool (decide (a<b))))
 | .leq=>K (.v (.bool (decide (a<=b))))
 | .gtr=>K (.v (.bool (decide (a>b))))
 | .geq=>K (.v (.bool (decide (a≥b))))
def Vw (op:BinOp)(a b:ByteArray)(K:AV->Prop):Prop:=
 match op with
 | .add=>jS (((a.size+b.size:Nat):Int)<=IntKind.i64.max) (K (.v (.string (a++b))))
 | .eql=>K (.v (.bool (qU a b)))
 | .neq=>K (.v (.bool (!qU a b)))
 | .lss=>K (.v (.bool (xP a b)))
 | .leq=>K (.v (.bool (xP a b||qU a b)))
 | .gtr=>K (.v (.bool (!(xP a b||qU a b))))
 | .geq=>K (.v (.bool (!xP a b)))
 | _=>False
def valsOf:List AV->Option (List Value)
 | []=>some []
 | .v x::r=>(match valsOf r with|some l=>some (x::l)|none=>none)
 | _=>none
structure qY (P:Program)(t:TypeId)(K:Prop):Prop where
 g:P.eqGuardType P.depth t=false
 p:P.stoodInHeld t=false
 u:P.underlying t=some (.struct (P.fieldsOf t))
 go:K
structure kM (n:Nat)(K:Bool->Prop):Prop where
 ex : ∀b:Bool,(0<n->b=false)->K b
def uZ (op:BinOp)(b:Bool)(K:AV->Prop):Prop:=
 match op with
 | .eql=>K (.v (.bool b))
 | .neq=>K (.v (.bool (!b)))
 | _=>False
def Vx (H:jI)(a:AV):Option Nat:=
 match a with
 | .lst _ l=>some l.length
 | .own l=>(match look H l with
  | some (.rows _ _ m)=>some m.length
  | some (.fz _ m)=>some m.length
  | _=>none)
 | .sub _ _ n=>some n
 | _=>none
def Yb (a:AV):Bool:=match a with | .ptr _ _=>true | .ep _ _ _=>true | .fp _ _=>true|_=>false
def Vy (P:Program)(H:jI)(op:BinOp)(t:TypeId)(a b:AV)(K:AV->Prop):Prop:=
 match P.underlying t,b with
 | some (.slice _), .v (.slice none 0 0)=>(match a with
  | .v (.slice none 0 0)=>uZ op true K
  | a=>(match Vx H a with
   | some n=>kM n fun b=>uZ op b K
   | none=>False))
 | some (.pointer _), .v (.pointer none)=>(match a with
  | .v (.pointer none)=>uZ op true K
  | a=>bif Yb a then uZ op false K else False)
 | some (.map _ _), .v (.map none)=>(match a with
  | .v (.map none)=>uZ op true K
  | .mp _=>uZ op false K
  | .fm _=>uZ op false K
  | _=>False)
 | some (.func _ _ _), .v .nilFunc=>(match a with
  | .fn _ _ _=>uZ op false K
  | .v (.func _ _ _)=>uZ op false K
  | .v .nilFunc=>uZ op true K
  | _=>False)
 | _,_=>False
def Vz (P:Program)(H:jI)(op:BinOp)(t:TypeId)(a b:AV)(K:AV->Prop):Prop:=
 match a,b with
 | .v (.int k m), .v (.int k' n)=>(match op with
  | .shl=>Np .shl k m n K
  | .shr=>Np .shr k m n K
  | op=>bif decide (k=k')then Np op k m n K else False)
 | .v (.string m), .v (.string n)=>Vw op m n K
 | .v (.bool m), .v (.bool n)=>(match op with
  | .eql=>(match P.underlying t with|some .bool=>K (.v (.bool (m==n)))|_=>False)
  | .neq=>(match P.underlying t with|some .bool=>K (.v (.bool (!(m==n))))|_=>False)
  | _=>False)
 | .agg xs, .agg ys=>(match valsOf xs,valsOf ys with
  | some us,some vs=>(match eqF P us vs (P.fieldsOf t).toList with
   | some b=>(match op with
    | .eql=>qY P t (K (.v (.bool b)))
    | .neq=>qY P t (K (.v (.bool (!b))))
    | _=>False)
   | none=>False)
  | _,_=>False)
 | a,b=>Vy P H op t a b K
def ZY (op:UnOp)(a:AV)(K:AV->Prop):Prop:=
 match op,a with
 | .not, .v (.bool b)=>K (.v (.bool (!b)))
 | .neg, .v (.int k n)=>kP k (0-n) fun n=>K (.v (.int k n))
 | .xor, .v (.int k n)=>K (.v (.int k (kJ .xor k (bif k.signed then -1 else k.max) n)))
 | _,_=>False
def Ir (P:Program)(t:TypeId)(cs:List AV)(f:Nat)(K:AV->Prop):Prop:=
 match P.underlying t with
 | some (.struct fs)=>(match fs.toList[f]? with
  | some fd=>(match tJ P fd.type,P.info? fd.type with
   | some true,some i=>bif Nat.ble (fd.offset+i.size) cs.length then ES ((cs.drop fd.offset).take i.size) fun l=>K (.agg l)else False
   | some false,some _=>(match cs[fd.offset]? with
    | some v=>af v K
    | none=>False)
   | _,_=>False)
  | none=>False)
 | _=>False
def VA (P:Program)(t:TypeId)(f:Nat):Option Nat:=
 match P.underlying t with
 | some (.struct fs)=>(match fs.toList[f]? with
  | some fd=>(match P.info? fd.type with
   | some i=>bif Nat.beq i.size 0 then none else some fd.offset
   | none=>none)
  | none=>none)
 | _=>none
def zZ (P:Program)(t:TypeId)(a:AV)(f:Nat)(K:AV->Prop):Prop:=
 match VA P t f,a with
 | some d, .ptr l o=>K (.ptr l (o+d))
 | some d, .ep l i o=>K (.ep l i (o+d))
 | some d, .fp cs o=>K (.fp cs (o+d))
 | _,_=>False
def cellsOf (a:AV):List AV:=match a with | .agg cs=>cs | .v (.agg cs)=>cs.toList.map .v|a=> [a]
def wV {α:Type}(cells:List α)(off:Nat)(vs:List α):List α:=
 match cells with
 | []=> []
 | c::l=>(match off with
  | 0=>(match vs with
   | []=>c::l
   | v::r=>v::wV l 0 r)
  | o+1=>c::wV l o vs)
theorem wX {α:Type} : ∀(cells:List α) (off:Nat),wV cells off []=cells
 | [],_=>rfl
 | _::_,0=>rfl
 | c::l,o+1=>congrArg (c:: ·) (wX l o)
theorem uI {α:Type}(v:α)(r:List α) : ∀(cells:List α) (off:Nat),wV cells off (v::r)=wV (cells.set off v) (off+1) r
 | [],_=>rfl
 | _::_,0=>rfl
 | c::l,o+1=>congrArg (c:: ·) (uI v r l o)
def Iu (a:AV):Bool:=match a with | .top=>false|_=>true
def Aa (place:Nat->Option (Nat×Nat))(cells:List AV)(parts:List (Nat×AV)):Option (List AV):=
 match parts with
 | []=>some cells
 | (i,v)::rest=>(match place i with
  | none=>none
  | some (off,size)=>bif Iu v&&Nat.beq (cellsOf v).length size&&Nat.ble (off+(cellsOf v).length) cells.length then Aa place (wV cells off (cellsOf v)) rest else none)
def Iw (P:Program)(t:TypeId)(parts:List (Nat×AV))(K:AV->Prop):Prop:=
 match (P.info? t).bind (·.zero),P.underlying t with
 | some z,some (.struct fs)=>(match uy P fs.toList with
  | some pl=>(match Aa (fun i=>pl[i]?) (z.cells.toList.map .v) parts with
   | some l=>ES l fun l=>K (.agg l)
   | none=>False)
  | none=>False)
 | some z,some (.array _ e)=>(match P.info? e with
  | some i=>(match Aa (fun j=>some (j*i.size,i.size)) (z.cells.toList.map .v) parts with
   | some l=>ES l fun l=>K (.agg l)
   | none=>False)
  | none=>False)
 | _,_=>False
def Ac (P:Program)(t:TypeId)(cs:List AV)(o:Nat)(K:AV->Prop):Prop:=
 match tJ P t,szB P t with
 | some false,some _=>(match cs[o]? with|some a=>af a K|none=>False)
 | some true,some k=>bif Nat.ble (o+k) cs.length then ES ((cs.drop o).take k) fun l=>K (.agg l)else False
 | _,_=>False
def Nq (P:Program)(t:TypeId)(cs:List FV)(o:Nat)(K:AV->Prop):Prop:=Ac P t (cs.map FV.up) o K
def TV.up:TV->AV
 | .f x=>x.up
 | .n _ _ _=> .top
structure ATr (h:Option (Nat×Nat×Nat))(i o:Nat)(Kh:Nat->Prop)(K:Prop):Prop where
 hole : ∀e,h=some (i,o,e)->Kh e
 other:(∀e,h≠some (i,o,e))->K
def JA (P:Program)(H:jI)(t:TypeId)(a:AV)(K:AV->Prop):Prop:=
 match a with
 | .ptr l o=>(match look H l with
  | some (.var _ cs)=>Ac P t cs o K
  | _=>False)
 | .ep l i o=>(match look H l with
  | some (.rows _ _ m)=>nH m i fun row=>Nq P t row o K
  | some (.fz _ m)=>nH m i fun row=>Nq P t row o K
  | some (.tree _ _ m h)=>(match tJ P t,szB P t with
   | some false,some _=>ATr h i o (fun e=>K (.own e)) (ARt m i fun row=>Ac P t (row.map TV.up) o K)
   | _,_=>False)
  | _=>False)
 | .fp cs o=>Nq P t cs o K
 | _=>False
def vT (P:Program)(H:jI)(t:TypeId)(x i:AV)(K:AV->Prop):Prop:=
 match i with
 | .v (.int _ ix)=>(match P.underlying t with
  | some (.slice e)=>(match szB P e with
   | some sz=>(match x with
    | .lst sz' l=>bif Nat.beq sz sz' then nG ix l.length fun j=>nH l j fun row=>K (.fp row 0)else False
    | .own l=>(match look H l with
     | some (.rows _ sz' m)=>bif Nat.beq sz sz' then nG ix m.length fun j=>K (.ep l j 0)else False
     | some (.fz sz' m)=>bif Nat.beq sz sz' then nG ix m.length fun j=>K (.ep l j 0)else False
     | some (.tree _ sz' m _)=>bif Nat.beq sz sz' then nG ix m.length fun j=>K (.ep l j 0)else False
     | _=>False)
    | .sub l o n=>(match look H l with
     | some (.rows _ sz' _)=>bif Nat.beq sz sz' then nG ix n fun j=>K (.ep l (o+j) 0)else False
     | some (.fz sz' _)=>bif Nat.beq sz sz' then nG ix n fun j=>K (.ep l (o+j) 0)else False
     | _=>False)
    | _=>False)
   | none=>False)
  | some (.array n e)=>(match szB P e with
   | some sz=>(match x with
    | .ptr l o=>nG ix n fun j=>K (.ptr l (o+j*sz))
    | .ep l i o=>nG ix n fun j=>K (.ep l i (o+j*sz))
    | .fp cs o=>nG ix n fun j=>K (.fp cs (o+j*sz))
    | _=>False)
   | none=>False)
  | _=>False)
 | _=>False
def Iy (P:Program)(t:TypeId)(x i:AV)(K:AV->Prop):Prop:=
 match i with
 | .v (.int _ ix)=>(match P.underlying t,x with
  | some .string, .v (.string s)=>nG ix s.size fun j=>K (.v (.int .u8 ((s.data.toList.getD j 0).toNat:Int)))
  | some (.array n e), .agg cs=>nG ix n fun j=>(match szB P e with
   | some sz=>Ac P e cs (j*sz) K
   | none=>False)
  | _,_=>False)
 | _=>False
def rowsOf (H:jI)(a:AV):Option (Nat×List (List FV)):=
 match a with
 | .lst sz l=>some (sz,l)
 | .own l=>(match look H l with
  | some (.rows _ sz m)=>some (sz,m)
  | some (.fz sz m)=>some (sz,m)
  | _=>none)
 | .sub l o n=>(match look H l with
  | some (.rows _ sz m)=>some (sz,(m.drop o).take n)
  | some (.fz sz m)=>some (sz,(m.drop o).take n)
  | _=>none)
 | _=>none
def VB (P:Program)(H:jI)(t:TypeId)(a:AV)(K:AV->Prop):Prop:=
 match P.underlying t,a with
 | some .string, .v (.string s)=>K (.v (.int .i64 s.size))
 | some (.slice _), .lst _ l=>K (.v (.int .i64 l.length))
 | some (.slice _), .own l=>(match look H l with
  | some (.rows _ _ m)=>K (.v (.int .i64 m.length))
  | some (.fz _ m)=>K (.v (.int .i64 m.length))
  | _=>False)
 | some (.slice _), .sub _ _ n=>K (.v (.int .i64 n))
 | some (.slice _), .v (.slice _ n _)=>K (.v (.int .i64 n))
 | some (.array n _),_=>K (.v (.int .i64 n))
 | _,_=>False
def wY (a:Option AV)(d:Int)(K:Int->Prop):Prop:=
 match a with
 | none=>K d
 | some (.v (.int _ n))=>K n
 | _=>False
def Iz (m:Option AV)(b:Int)(n:Nat)(K:Prop):Prop:=
 match m with
 | none=>K
 | some (.v (.int _ z))=>jS (b<=z∧z<=(n:Int)) K
 | _=>False
def cut (lo hi:Option AV)(i j:Nat)(l:List (List FV)):List (List FV):=
 match lo,hi with
 | none,none=>l
 | none,some _=>l.take j
 | some _,none=>l.drop i
 | some _,some _=>(l.take j).drop i
def IB (jT:Nat)(lo hi mx:Option AV)(i j:Nat):AV:=
 match lo,hi,mx with
 | none,none,none=> .own jT
 | _,_,_=> .sub jT i (j-i)
def QI (H:jI)(jT sz:Nat):Option Nat:=
 match look H jT with
 | some (.rows _ sz' m)=>bif Nat.beq sz sz' then some m.length else none
 | some (.fz sz' m)=>bif Nat.beq sz sz' then some m.length else none
 | _=>none
def IC (P:Program)(H:jI)(t:TypeId)(x:AV)(lo hi mx:Option AV)(K:AV->Prop):Prop:=
 match P.underlying t with
 | some .string=>(match x,mx with
  | .v (.string s),none=>wY lo 0 fun a=>wY hi s.size fun b=>pO a b s.size fun i j=>K (.v (.string (s.extract i j)))
  | _,_=>False)
 | some (.slice e)=>(match szB P e with
  | some sz=>(match x with
   | .lst sz' l=>bif Nat.beq sz sz' then wY lo 0 fun a=>wY hi l.length fun b=>Iz mx b l.length (pO a b l.length fun i j=>K (.lst sz (cut lo hi i j l)))else False
   | .own l=>(match QI H l sz with
    | some m=>wY lo 0 fun a=>wY hi m fun b=>Iz mx b m (pO a b m fun i j=>match lo,mx with
     | none,some (.v (.int _ z))=>jS (z=(j:Int)) (K (.full l j))
     | _,_=>K (IB l lo hi mx i j))
    | none=>False)
   | .sub l o n=>(match QI H l sz with
    | some _=>wY lo 0 fun a=>wY hi n fun b=>Iz mx b n (pO a b n fun i j=>K (.sub l (o+i) (j-i)))
    | none=>False)
   | .v (.slice none 0 0)=>wY lo 0 fun a=>wY hi ((0:Nat):Int) fun b=>Iz mx b 0 (pO a b 0 fun _ _=>K (.v (.slice none 0 0)))
   | _=>False)
  | none=>False)
 | _=>False
def minL (x:Int):List AV->Option Int
 | []=>some x
 | .v (.int _ y)::r=>minL (min x y) r
 | _=>none
def IE (P:Program)(H:jI)(b:Builtin)(ts:List TypeId)(args:List AV)(K:AV->Prop):Prop:=
 match b,ts,args with
 | .len,[t],[a]=>VB P H t a K
 | .min,_,[.v (.int k x), .v (.int _ y)]=>K (.v (.int k (min x y)))
 | .max,_,[.v (.int k x), .v (.int _ y)]=>K (.v (.int k (max x y)))
 | .min,_,[.v (.string x), .v (.string y)]=>K (.v (.string (y7 x y)))
 | .max,_,[.v (.string x), .v (.string y)]=>K (.v (.string (y8 x y)))
 | .min,_, .v (.int k x):: .v (.int _ y):: .v (.int _ z)::r=>(match minL (min (min x y) z) r with|some m=>K (.v (.int k m))|none=>False)
 | _,_,_=>False
def DL (P:Program)(H:jI)(t:TypeId)(m k:AV)(ok:Bool)(K:AV->Prop):Prop:=
 match m,k with
 | .mp l, .v (.string s)=>(match P.underlying t,look H l with
  | some (.map kt et),some (.map M)=>(match P.underlying kt,(P.info? et).bind (·.zero)with
   | some .string,some z=>ZX M s z fun v b=>(match ok with
    | true=>K (.kZ [FB v, .v (.bool b)])
    | false=>K (FB v))
   | _,_=>False)
  | some (.map kt et),some (.KU M)=>(match P.underlying kt,(P.info? et).bind (·.zero)with
   | some .string,some z=>ZX M s z fun v b=>(match ok with
    | true=>K (.kZ [FB v, .v (.bool b)])
    | false=>K (FB v))
   | _,_=>False)
  | some (.map kt et),some (.smap M)=>(match P.underlying kt,(P.info? et).bind (·.zero)with
   | some .string,some z=>Ya M s z fun v b=>(match ok with
    | true=>K (.kZ [v, .v (.bool b)])
    | false=>K v)
   | _,_=>False)
  | _,_=>False)
 | .fm M, .v (.string s)=>(match P.underlying t with
  | some (.map kt et)=>(match P.underlying kt,(P.info? et).bind (·.zero)with
   | some .string,some z=>ZX M s z fun v b=>(match ok with
    | true=>K (.kZ [FB v, .v (.bool b)])
    | false=>K (FB v))
   | _,_=>False)
  | _=>False)
 | .mp l, .v (.int .i64 i)=>(match P.underlying t,look H l with
  | some (.map kt et),some (.vS M)=>(match P.underlying kt,(P.info? et).bind (·.zero)with
   | some (.int .i64),some z=>ZE M i z fun v b=>(match ok with
    | true=>K (.kZ [v, .v (.bool b)])
    | false=>K v)
   | _,_=>False)
  | _,_=>False)
 | _,_=>False
def Nr (P:Program)(Hr:jI)(src dst:TypeId)(a:AV)(K:AV->Prop):Prop:=
 match P.underlying src,P.underlying dst,a with
 | some _,some (.int k), .v (.int _ n)=>kP k n fun n=>K (.v (.int k n))
 | some (.string),some .string, .v (.string s)=>K (.v (.string s))
 | some (.int _),some .string, .v (.int k n)=>K (.v (.string (Utf8.encode n)))
 | some (.slice e),some .string,a=>(match P.underlying e with
  | some (.int .u8)=>(match a with
   | .v (.slice none 0 0)=>K (.v (.string ⟨#[]⟩))
   | a=>(match rowsOf Hr a with
    | some (sz,l)=>bif Nat.beq sz 1 then Nl l fun s=>K (.v (.string s))else False
    | none=>False))
  | _=>False)
 | _,_,_=>False
def aQ (P:Program)(Hr H:jI)(o:Oper)(ρ:jM)(K:AV->Prop):Prop:=
 match o.op with
 | .move x=>af (lK ρ x) K
 | .assign x=>af (lK ρ x) K
 | .pick c a b=>(match lK ρ c with
  | .v (.bool t)=>(match lK ρ a,lK ρ b with
   | .v (.bool x), .v (.bool y)=>K (.v (.bool (bif t then x else y)))
   | _,_=>BO t (K (lK ρ a)) (K (lK ρ b)))
  | _=>False)
 | .build t parts=>ES (parts.toList.map fun p=>lK ρ p.2) fun vs=>Iw P t ((parts.toList.map (·.1)).zip vs) K
 | .load t a=>JA P Hr t (lK ρ a) K
 | .nilCheck x=>(match lK ρ x with
  | .ptr l o=>K (.ptr l o)
  | .ep l i o=>K (.ep l i o)
  | .fp cs o=>K (.fp cs o)
  | _=>False)
 | .binOp op t x y _=>af (lK ρ x) fun a=>af (lK ρ y) fun b=>Vz P H op t a b K
 | .unOp op _ x=>af (lK ρ x) fun a=>ZY op a K
 | .convert src dst x=>af (lK ρ x) fun a=>Nr P Hr src dst a K
 | .makeFunc fn first captured=>ES (first.toList.map (lK ρ)) fun a=>ES (captured.toList.map (lK ρ)) fun b=>K (.fn fn a b)
 | .slice t x lo hi mx=>af (lK ρ x) fun x=>X9 (lo.map (lK ρ)) fun lo=>X9 (hi.map (lK ρ)) fun hi=>X9 (mx.map (lK ρ)) fun mx=>IC P H t x lo hi mx K
 | .fieldAddr s x f=>zZ P s (lK ρ x) f K
 | .field t x f=>(match lK ρ x with
  | .agg cs=>Ir P t cs f K
  | _=>False)
 | .indexAddr t x i=>af (lK ρ x) fun x=>af (lK ρ i) fun i=>vT P H t x i K
 | .index t x i=>af (lK ρ x) fun x=>af (lK ρ i) fun i=>Iy P t x i K
 | .lookup t m k ok=>af (lK ρ m) fun m=>af (lK ρ k) fun k=>DL P Hr t m k ok K
 | .extract t i=>(match lK ρ t with
  | .kZ vs=>(match vs[i]? with
   | some v=>af v K
   | none=>False)
  | _=>False)
 | .call c=>(match c.callee with
  | .builtin b=>ES (c.args.toList.map (lK ρ)) fun args=>IE P H b c.argTypes.toList args K
  | _=>False)
 | _=>False
def setH (H:jI)(l:Nat)(b:mD):jI:=
 match H with
 | []=> []
 | p::r=>bif Nat.beq p.1 l then(l,b)::r else p::setH r l b
def H6 (H:jI)(l:Nat):jI:=
 match H with
 | []=> []
 | p::r=>bif Nat.beq p.1 l then H6 r l else p::H6 r l
def dn (H:jI)(a:AV)(K:FV->jI->Prop):Prop:=
 match a with
 | .v x=>K (.v x) H
 | .lst sz l=>K (.lst sz l) H
 | .fp cs o=>K (.fp cs o) H
 | .own l=>(match look H l with
  | some (.rows _ sz m)=>K (.lst sz m) (setH H l (.fz sz m))
  | some (.fz sz m)=>K (.lst sz m) H
  | _=>False)
 | .fm M=>K (.fm M) H
 | .mp l=>(match look H l with
  | some (.map M)=>K (.fm M) (setH H l (.KU M))
  | some (.KU M)=>K (.fm M) H
  | _=>False)
 | _=>False
def Yc (H:jI)(l:List AV)(K:List FV->jI->Prop):Prop:=
 match l with
 | []=>K [] H
 | a::r=>dn H a fun x H'=>Yc H' r fun r' oN=>K (x::r') oN
def cell1 (a:AV):Bool:=
 match a with
 | .v x=>x.oneCell'
 | .top=>false
 | .agg _=>false
 | .kZ _=>false
 | .full _ _=>false
 | _=>true
def all1:List AV->Bool
 | []=>true
 | a::r=>cell1 a&&all1 r
def zo (H:jI)(sz:Nat)(i:Nat)(parts:List (Nat×AV))(K:List (List FV)->jI->Prop):Prop:=
 match parts with
 | []=>K [] H
 | (j,a)::r=>bif Nat.beq i j&&Nat.beq (cellsOf a).length sz&&all1 (cellsOf a)then Yc H (cellsOf a) fun x H'=>zo H' sz (i+1) r fun l oN=>K (x::l) oN else False
def tX (P:Program)(t:TypeId)(m:Nat)(parts:List (Nat×AV))(n:Nat)(H:jI)(K:AV->Nat->jI->Prop):Prop:=
 match P.underlying t with
 | some (.slice e)=>(match P.info? e with
  | some i=>(match i.zero with
   | some z=>bif Nat.beq z.cells.toList.length i.size&&Nat.ble 1 i.size&&Nat.ble (m*i.size) 16777216&&Nat.beq parts.length m&&Nat.ble m maxLen then
     zo H i.size 0 parts fun l H'=>K (.own n) (n+1) ((n, .rows e i.size l)::H')else False
   | none=>False)
  | none=>False)
 | _=>False
def IG (P:Program)(H:jI)(t:TypeId)(a x:AV)(K:jI->Prop):Prop:=
 match szB P t with
 | some k=>bif Nat.beq (cellsOf x).length k&&all1 (cellsOf x)then(match a with
  | .ptr l o=>(match look H l with
   | some (.var T cs)=>bif Nat.ble (o+k) cs.length then spine (wV cs o (cellsOf x)) fun cs'=>K (setH H l (.var T cs'))else False
   | _=>False)
  | .ep l i o=>(match look H l with
   | some (.tree T sz m h)=>(match h,x with
    | some (i',o',_), .own e'=>ATs (i'=i∧o'=o) (K (setH H l (.tree T sz m (some (i',o',e')))))
    | none, .own e'=>ATn m i o fun row=>K (setH H l (.tree T sz (m.set i (row.set o (.f .top))) (some (i,o,e'))))
    | _,_=>False)
   | some (.rows _ _ _)=>Yc H (cellsOf x) fun x' H'=>(match look H' l with
    | some (.rows T sz m)=>nH m i fun row=>bif Nat.ble (o+k) row.length then spine (wV row o x') fun row'=>K (setH H' l (.rows T sz (m.set i row')))else False
    | _=>False)
   | _=>False)
  | _=>False)else False
 | none=>False
def Ad (P:Program)(ts:List TypeId)(args:List AV)(n:Nat)(H:jI)(K:AV->Nat->jI->Prop):Prop:=
 match ts,args with
 | [t,t'],[d,s]=>bif Nat.beq t t' then(match P.underlying t with
  | some (.slice E)=>(match szB P E,l7 P E,pz P E with
   | some sz,some nV,some zs=>bif Nat.beq zs.length sz&&Nat.ble 1 sz then
    (match (match s with | .v (.slice none 0 0)=>some (sz,[])|s=>rowsOf H s)with
    | some (sz',m)=>bif Nat.beq sz sz' then(match d with
     | .v (.slice none 0 0)=>jS (m.length*nV<=140737488355328∧m.length<=maxLen) (K (.own n) (n+1) ((n, .rows E sz m)::H))
     | .own l=>(match look H l with
      | some (.rows E' Ae r)=>bif Nat.beq E E'&&Nat.beq sz Ae then jS ((r.length+m.length)*nV<=140737488355328∧r.length+m.length<=maxLen) (K (.own n) (n+1) ((n, .rows E sz (r++m))::H6 H l))else False
      | _=>False)
     | .full l k=>(match look H l with
      | some (.fz Ae r)=>bif Nat.beq sz Ae then jS (((k+m.length)*nV<=140737488355328∧k+m.length<=maxLen)∧k<=r.length) (K (.lst sz (r.take k++m)) n H)else False
      | _=>False)
     | _=>False)else False
    | none=>False)else False
   | _,_,_=>False)
  | _=>False)else False
 | _,_=>False
def FC (P:Program)(E:TypeId):Bool:=match (P.info? E).bind (·.zero)with|some (.int .u8 n)=>decide (n=0)|_=>false
def FD (P:Program)(t t':TypeId)(d:AV)(x:ByteArray)(n:Nat)(H:jI)(K:AV->Nat->jI->Prop):Prop:=
 match P.underlying t,P.underlying t',d with
 | some (.slice E),some .string, .own l=>(match szB P E,l7 P E with
  | some sz,some nV=>(match look H l with
   | some (.rows E' sz' r)=>bif Nat.beq sz 1&&Nat.beq nV 1&&FC P E&&Nat.beq E E'&&Nat.beq sz sz' then jS (r.length+x.size<=140737488355328∧r.length+x.size<=maxLen) (K (.own n) (n+1) ((n, .rows E sz (r++x.data.toList.map pR))::H6 H l))else False
   | _=>False)
  | _,_=>False)
 | _,_,_=>False
def QJ (P:Program):Nat->Option TypeId
 | 0=>none
 | k+1=>match QJ P k with
  | some u=>some u
  | none=>(match P.underlying k with|some .string=>some k|_=>none)
def qg (m:Nat):ByteArray:=⟨(List.replicate m 0).toArray⟩
def Ns (P:Program)(t t':TypeId)(d:AV)(x:Int)(n:Nat)(H:jI)(K:AV->Nat->jI->Prop):Prop:=
 match P.underlying t',QJ P 64 with
 | some (.int _),some u=>pW x x 1 fun m=>FD P t u d (qg m) n H K
 | _,_=>False
def DN (P:Program)(ts:List TypeId)(args:List AV)(n:Nat)(H:jI)(K:AV->Nat->jI->Prop):Prop:=
 match ts,args with
 | [t,t'],[d, .v (.string x)]=>FD P t t' d x n H K
 | [t,t'],[d, .v (.int .i64 x)]=>Ns P t t' d x n H K
 | _,_=>Ad P ts args n H K
def vU (P:Program)(t:TypeId)(l c:AV)(n:Nat)(H:jI)(K:AV->Nat->jI->Prop):Prop:=
 match l,c with
 | .v (.int _ x), .v (.int _ y)=>(match P.underlying t with
  | some (.slice E)=>(match szB P E,l7 P E,pz P E with
   | some sz,some nV,some zs=>bif Nat.beq zs.length sz&&Nat.ble 1 sz&&zs.all (·.oneCell')then
    pW x y nV fun m=>K (.own n) (n+1) ((n, .rows E sz (List.replicate m (zs.map .v)))::H)else False
   | _,_,_=>False)
  | _=>False)
 | _,_=>False
def Nu (a:AV):Option Value:=
 match a with
 | .v x=>some x
 | .agg cs=>(match valsOf cs with|some l=>some (.agg l.toArray)|none=>none)
 | _=>none
def sO (P:Program)(H:jI)(t:TypeId)(m k x:AV)(K:jI->Prop):Prop:=
 match m,k with
 | .mp l, .v (.int .i64 i)=>(match P.underlying t,look H l with
  | some (.map kt _),some (.vS _)=>(match P.underlying kt with
   | some (.int .i64)=>dn H (match Nu x with|some v=> .v v|none=>x) fun y H'=>(match look H' l with
    | some (.vS M)=>K (setH H' l (.vS fun k'=>if k'=i then some y else M k'))
    | _=>False)
   | _=>False)
  | _,_=>False)
 | .mp l, .v (.string s)=>(match P.underlying t,look H l with
  | some (.map kt _),some (.map M)=>(match P.underlying kt,Nu x with
   | some .string,some v=>K (setH H l (.map fun k'=>if k'=s then some v else M k'))
   | _,_=>False)
  | some (.map kt _),some (.smap _)=>(match P.underlying kt,x with
   | some .string, .agg cs=>Yc H cs fun r H'=>(match look H' l with
    | some (.smap M)=>K (setH H' l (.smap fun k'=>if k'=s then some r else M k'))
    | _=>False)
   | _,_=>False)
  | _,_=>False)
 | _,_=>False
def splice (m:List (List FV))(o:Nat)(ys:List (List FV)):List (List FV):=m.take o++ys++m.drop (o+ys.length)
def JB (H:jI)(d:AV):Option (Nat×Nat×Nat):=
 match d with
 | .own l=>(match look H l with|some (.rows _ _ m)=>some (l,0,m.length)|_=>none)
 | .sub l o k=>some (l,o,k)
 | _=>none
def Nv (P:Program)(ts:List TypeId)(args:List AV)(n:Nat)(H:jI)(K:AV->Nat->jI->Prop):Prop:=
 match ts,args with
 | [t,_],[d,s]=>(match P.underlying t with
  | some (.slice E)=>(match szB P E,JB H d,rowsOf H s with
   | some sz,some (l,o,k),some (sz',xs)=>(match look H l with
    | some (.rows T Ae m)=>bif Nat.beq sz 1&&(Nat.beq sz' 1&&Nat.beq Ae 1)then K (.v (.int .i64 ((min xs.length k:Nat):Int))) n (setH H l (.rows T 1 (splice m o (xs.take (min xs.length k)))))else False
    | _=>False)
   | _,_,_=>False)
  | _=>False)
 | _,_=>False
def II (P:Program)(H:jI)(ts:List TypeId)(args:List AV)(K:jI->Prop):Prop:=
 match ts,args with
 | [t],[d]=>(match P.underlying t with
  | some (.slice E)=>(match d with
   | .v (.slice none 0 0)=>K H
   | d=>(match szB P E,pz P E,JB H d with
    | some sz,some zs,some (l,o,k)=>(match look H l with
     | some (.rows T sz' m)=>bif Nat.beq sz sz'&&(Nat.beq zs.length sz&&(Nat.ble 1 sz&&zs.all (·.oneCell')))then K (setH H l (.rows T sz (splice m o (List.replicate k (zs.map .v)))))else False
     | _=>False)
    | _,_,_=>False))
  | _=>False)
 | _,_=>False
def kQ (P:Program)(G:Glob)(f:FuncId)(args:List AV)(n:Nat)(H:jI)(R:AV->Nat->jI->Prop):Prop:=
 ∀w σ F vs,St G w (qX w σ H) F n σ F H w->kD n σ F w args vs->
  uD P f vs.toArray w fun v w'=> ∃a n' σ' F' H',R a n' H'∧St G w (qX w σ H) F n' σ' F' H' w'∧Ext n σ F w n' σ' F' w'∧jX n' σ' F' w' a v
structure tY (P:Program)(G:Glob)(f:FuncId)(args:List AV)(n:Nat)(H:jI)(K:AV->Nat->jI->Prop):Prop where
 ok:callable P f=true
 runs:kQ P G f args n H K
def Z4 (P:Program)(t:TypeId):Bool:=match P.underlying t with|some (.map kt et)=>(match P.underlying kt,(P.info? et).bind (·.zero)with|some .string,some (.agg _)=>true|_,_=>false)|_=>false
def Z5 (P:Program)(t:TypeId):Bool:=match P.underlying t with|some (.map kt _)=>(match P.underlying kt with|some (.int .i64)=>true|_=>false)|_=>false
def DR (P:Program)(src dst:TypeId):Bool:=
 match P.underlying src,P.underlying dst with
 | some .string,some (.slice e)=>(match P.underlying e with|some (.int .u8)=>true|_=>false)
 | _,_=>false
def Yd (P:Program)(H:jI)(t:TypeId)(x:AV)(lo hi mx:Option Operand):Option (Nat×List Value):=
 match x,lo,hi,mx with
 | .ptr l 0,none,none,none=>(match P.underlying t,look H l with
  | some (.array m e),some (.var _ cs)=>(match szB P e,valsOf cs with
   | some 1,some vs=>bif Nat.beq vs.length m then some (l,vs)else none
   | _,_=>none)
  | _,_=>none)
 | _,_,_,_=>none
def aE (P:Program)(G:Glob)(o:Oper)(ρ:jM)(n:Nat)(H:jI)(K:AV->Nat->jI->Prop):Prop:=
 match o.op with
 | .convert src dst x=>(match DR P src dst with
  | true=>(match lK ρ x with
   | .v (.string s)=>K (.lst 1 (s.data.toList.map pR)) n H
   | _=>False)
  | false=>aQ P H H o ρ fun a=>K a n H)
 | .alloc elem=>(match (P.info? elem).bind (·.zero)with
  | some z=>bif all1 (z.cells.toList.map .v)then spine (z.cells.toList.map .v) fun cs=>K (.ptr n 0) (n+1) ((n, .var elem cs)::H)else False
  | none=>False)
 | .box elem x=>bif all1 (cellsOf (lK ρ x))then ES (cellsOf (lK ρ x)) fun cs=>K (.ptr n 0) (n+1) ((n, .var elem cs)::H)else False
 | .buildSlice t m parts=>ES (parts.toList.map fun p=>lK ρ p.2) fun vs=>tX P t m ((parts.toList.map (·.1)).zip vs) n H fun a n' H'=>spine H' fun oN=>K a n' oN
 | .store t a x=>af (lK ρ x) fun x=>IG P H t (lK ρ a) x fun H'=>spine H' fun oN=>K (.v undef) n oN
 | .makeSlice t l c=>af (lK ρ l) fun l=>af (lK ρ c) fun c=>vU P t l c n H K
 | .makeMap t r=>(match r with
  | none=>(match Z5 P t with
   | true=>K (.mp n) (n+1) ((n, .vS fun _=>none)::H)
   | false=>(match Z4 P t with
    | true=>K (.mp n) (n+1) ((n, .smap fun _=>none)::H)
    | false=>K (.mp n) (n+1) ((n, .map fun _=>none)::H)))
  | some _=>False)
 | .mapUpdate t m k x=>af (lK ρ m) fun m=>af (lK ρ k) fun k=>af (lK ρ x) fun x=>sO P H t m k x fun H'=>spine H' fun oN=>K (.v undef) n oN
 | .insert t m k x=>af (lK ρ m) fun m=>af (lK ρ k) fun k=>af (lK ρ x) fun x=>sO P H t m k x fun H'=>spine H' fun oN=>K (.v undef) n oN
 | .call c=>(match c.callee with
  | .builtin .append=>ES (c.args.toList.map (lK ρ)) fun args=>DN P c.argTypes.toList args n H fun a n' H'=>spine H' fun oN=>K a n' oN
  | .builtin .copy=>ES (c.args.toList.map (lK ρ)) fun args=>Nv P c.argTypes.toList args n H fun a n' H'=>spine H' fun oN=>K a n' oN
  | .builtin .clear=>ES (c.args.toList.map (lK ρ)) fun args=>II P H c.argTypes.toList args fun H'=>spine H' fun oN=>K (.kZ []) n oN
  | .value f=>(match lK ρ f with
   | .v (.func (.func g) first captured)=>ES (c.args.toList.map (lK ρ)) fun args=>tY P G g ((first.toList.map FB++args)++captured.toList.map FB) n H K
   | .fn (.func g) first captured=>ES (c.args.toList.map (lK ρ)) fun args=>tY P G g ((first++args)++captured) n H K
   | _=>False)
  | _=>aQ P H H o ρ fun a=>K a n H)
 | .slice t x lo hi mx=>(match Yd P H t (lK ρ x) lo hi mx with
  | some (l,vs)=>spine (vs.map fun v=> [FV.v v]) fun r=>K (.lst 1 r) n (H6 H l)
  | none=>aQ P H H o ρ fun a=>K a n H)
 | _=>aQ P H H o ρ fun a=>K a n H
end Go.Proofs.YtnandbihiceihaaGreatDoor.Ax
