/- Joined parts of the proof. Abstract values: what a value stands for (numbers and texts themselves, memory that changes no more as lists of rows, me -/
import Derived.Test.YtocckceefcmeaaaGreatDoorPk3
import Derived.Laws.Runes
set_option linter.unusedVariables false
set_option linter.unusedSimpArgs false
set_option maxRecDepth 100000
set_option maxHeartbeats 16000000
namespace Go.Proofs.YtocckceefcmeaaaGreatDoor.Ax
open Go Go.RowKit Go.Proofs.YtocckceefcmeaaaGreatDoor.Vc
inductive FV where
 | top
 | v (x:Value)
 | lst (sz:Nat) (l:List (List FV))
 | fp (cs:List FV) (o:Nat)
 | fm (M:ByteArray→Option Value)
inductive AV where
 | top
 | v (x:Value)
 | lst (sz:Nat) (l:List (List FV))
 | fp (cs:List FV) (o:Nat)
 | fm (M:ByteArray→Option Value)
 | ptr (aT o:Nat)
 | ep (aT i o:Nat)
 | own (aT:Nat)
 | sub (aT o n:Nat)
 | mp (aT:Nat)
 | fn (f:Fn) (first captured:List AV)
 | agg (cs:List AV)
 | bH (vs:List AV)
inductive TV where
 | f (a:FV)
 | n (t sz:Nat) (l:List (List FV))
inductive dU where
 | var (t:TypeId) (cs:List AV)
 | rows (t:TypeId) (sz:Nat) (l:List (List FV))
 | fz (sz:Nat) (l:List (List FV))
 | map (M:ByteArray→Option Value)
 | Nz (M:ByteArray→Option Value)
 | qV (M:Int→Option FV)
 | itr (s:ByteArray) (p:Nat)
 | tree (t:TypeId) (sz:Nat) (l:List (List TV)) (h:Option (Nat×Nat×Nat))
def dU.own:dU→Bool
 | .fz _ _=>false
 | .Nz _=>false
 | _=>true
abbrev ak:=List (Nat×dU)
def look (H:ak)(l:Nat):Option dU:=
 match H with
 | []=>none
 | p::r=>bif Nat.beq p.1 l then some p.2 else look r l
structure Loc where
 b:Option Nat
 n:Nat
 c:Nat
 sz:Nat
def Loc.oa (L:Loc):Option Addr:=L.b.map fun g=>⟨g,0,none⟩
inductive dV (F:Nat→Prop)(w:World):FV→Value→Prop
 | top (x:Value):dV F w .top x
 | v (x:Value):dV F w (.v x) x
 | lst (sz:Nat) (l:List (List FV)) (oa:Option Addr) (n c b o:Nat) (hn:n=l.length) (hc:n≤c) (hnil:oa=none→c=0) (ho:0<n→oa=some ⟨b,o,none⟩∧F b)
   (hsz : ∀row∈l,row.length=sz) (hex : ∀i j,i<n→j<sz→∃v,w.cell? ⟨b,o+(i*sz+j),none⟩=some v∧v.oneCell'=true)
   (hrep : ∀i j row a v,l[i]? = some row→row[j]? = some a→w.cell? ⟨b,o+(i*sz+j),none⟩=some v→dV F w a v):dV F w (.lst sz l) (.slice oa n c)
 | fp (cs:List FV) (o b off:Nat) (hb:F b) (hex : ∀j,j<cs.length→∃v,w.cell? ⟨b,off+j,none⟩=some v∧v.oneCell'=true)
   (hrep : ∀j a v,cs[j]? = some a→w.cell? ⟨b,off+j,none⟩=some v→dV F w a v):dV F w (.fp cs o) (.pointer (some ⟨b,off+o,none⟩))
 | fm (M:ByteArray→Option Value) (b:Nat) (hb:F b) (hM:jm w b M):dV F w (.fm M) (.map (some b))
theorem iZ {w w':World}{b:Nat}(h:w'.heap[b]? = w.heap[b]?)(o:Nat):w'.cell? ⟨b,o,none⟩=w.cell? ⟨b,o,none⟩:=by
 unfold World.cell?
 rw [h]
theorem dV.mono {F F':Nat→Prop}{w w':World}(h : ∀b,F b→F' b∧w'.heap[b]? = w.heap[b]?){a:FV}{v:Value}(r:dV F w a v):dV F' w' a v:=by
 induction r with
 | top x=>exact .top x
 | v x=>exact .v x
 | lst sz l oa n c b o hn hc hnil ho hsz hex hrep ih=>
  rcases Nat.eq_zero_or_pos n with h0 | h0
  ·subst h0
   have hl:l = []:=List.eq_nil_of_length_eq_zero hn.symm
   subst hl
   exact .lst sz [] oa 0 c b o rfl hc hnil (fun h=>absurd h (Nat.lt_irrefl 0)) hsz (fun i j hi=>absurd hi (Nat.not_lt_zero i)) (fun i j row a v hi=>by simp at hi)
  ·have hb:=(ho h0).2
   have e:=iZ (h b hb).2
   exact .lst sz l oa n c b o hn hc hnil (fun _=>⟨(ho h0).1,(h b hb).1⟩) hsz (fun i j hi hj=>by rw [e];exact hex i j hi hj)
    (fun i j row a v h1 h2 h3=>ih i j row a v h1 h2 (by rw [e]at h3;exact h3))
 | fp cs o b off hb hex hrep ih=>
  have e:=iZ (h b hb).2
  exact .fp cs o b off (h b hb).1 (fun j hj=>by rw [e];exact hex j hj) (fun j a v h1 h2=>ih j a v h1 (by rw [e]at h2;exact h2))
 | fm M b hb hM=>exact .fm M b (h b hb).1 (hM.heap (h b hb).2)
inductive aZ (n:Nat)(σ:Nat→Loc)(F:Nat→Prop)(w:World):AV→Value→Prop
 | top (x:Value):aZ n σ F w .top x
 | v (x:Value):aZ n σ F w (.v x) x
 | lst {sz:Nat} {l:List (List FV)} {x:Value} (h:dV F w (.lst sz l) x):aZ n σ F w (.lst sz l) x
 | fp {cs:List FV} {o:Nat} {x:Value} (h:dV F w (.fp cs o) x):aZ n σ F w (.fp cs o) x
 | fm {M:ByteArray→Option Value} {x:Value} (h:dV F w (.fm M) x):aZ n σ F w (.fm M) x
 | ptr (aT o b:Nat) (hl:aT<n) (hb:(σ aT).b=some b):aZ n σ F w (.ptr aT o) (.pointer (some ⟨b,o,none⟩))
 | ep (aT i o b:Nat) (hl:aT<n) (hb:(σ aT).b=some b):aZ n σ F w (.ep aT i o) (.pointer (some ⟨b,i*(σ aT).sz+o,none⟩))
 | own (aT:Nat) (hl:aT<n):aZ n σ F w (.own aT) (.slice (σ aT).oa (σ aT).n (σ aT).c)
 | je (aT:Nat) (oa:Option Addr) (hl:aT<n) (hn:(σ aT).n=0) (hc:(σ aT).c=0):aZ n σ F w (.own aT) (.slice oa 0 0)
 | sub (aT o k:Nat) (oa:Option Addr) (c:Nat) (hl:aT<n) (hk:o+k≤(σ aT).n) (hc:k≤c) (hnil:oa=none→c=0) (ho:0<k→∃b,(σ aT).b=some b∧oa=some ⟨b,o*(σ aT).sz,none⟩):aZ n σ F w (.sub aT o k) (.slice oa k c)
 | mp (aT b:Nat) (hl:aT<n) (hb:(σ aT).b=some b):aZ n σ F w (.mp aT) (.map (some b))
 | fn (f:Fn) (xs ys:List AV) (us vs:List Value) (hx:us.length=xs.length) (hy:vs.length=ys.length)
   (rx : ∀(j:Nat) a v,xs[j]? = some a→us[j]? = some v→aZ n σ F w a v) (ry : ∀(j:Nat) a v,ys[j]? = some a→vs[j]? = some v→aZ n σ F w a v):aZ n σ F w (.fn f xs ys) (.func f us.toArray vs.toArray)
 | agg (xs:List AV) (us:List Value) (hx:us.length=xs.length) (rx : ∀(j:Nat) a v,xs[j]? = some a→us[j]? = some v→aZ n σ F w a v):aZ n σ F w (.agg xs) (.agg us.toArray)
 | bH (xs:List AV) (us:List Value) (hx:us.length=xs.length) (rx : ∀(j:Nat) a v,xs[j]? = some a→us[j]? = some v→aZ n σ F w a v):aZ n σ F w (.bH xs) (.tuple us.toArray)
structure Ext (n:Nat)(σ:Nat→Loc)(F:Nat→Prop)(w:World)(n':Nat)(σ':Nat→Loc)(F':Nat→Prop)(w':World):Prop where
 le:n≤n'
 s : ∀aT,aT<n→σ' aT=σ aT
 f : ∀b,F b→F' b∧w'.heap[b]? = w.heap[b]?
 sz:w.heap.size≤w'.heap.size
theorem Ext.refl (n:Nat)(σ:Nat→Loc)(F:Nat→Prop)(w:World):Ext n σ F w n σ F w:=⟨Nat.le_refl _,fun _ _=>rfl,fun _ h=>⟨h,rfl⟩,Nat.le_refl _⟩
theorem Ext.trans {n n' n'':Nat}{σ σ' qC:Nat→Loc}{F F' Il:Nat→Prop}{w w' w'':World}(h:Ext n σ F w n' σ' F' w')(k:Ext n' σ' F' w' n'' qC Il w''):Ext n σ F w n'' qC Il w'':=
 ⟨Nat.le_trans h.le k.le,fun l hl=>(k.s l (Nat.lt_of_lt_of_le hl h.le)).trans (h.s l hl),fun b hb=>⟨(k.f b (h.f b hb).1).1,(k.f b (h.f b hb).1).2.trans (h.f b hb).2⟩,Nat.le_trans h.sz k.sz⟩
theorem aZ.mono {n n':Nat}{σ σ':Nat→Loc}{F F':Nat→Prop}{w w':World}(e:Ext n σ F w n' σ' F' w'){a:AV}{v:Value}(r:aZ n σ F w a v):aZ n' σ' F' w' a v:=by
 induction r with
 | top x=>exact .top x
 | v x=>exact .v x
 | lst h=>exact .lst (h.mono e.f)
 | fp h=>exact .fp (h.mono e.f)
 | fm h=>exact .fm (h.mono e.f)
 | ptr l o b hl hb=>exact .ptr l o b (Nat.lt_of_lt_of_le hl e.le) (by rw [e.s l hl];exact hb)
 | ep l i o b hl hb=>rw [←e.s l hl];exact .ep l i o b (Nat.lt_of_lt_of_le hl e.le) (by rw [e.s l hl];exact hb)
 | own l hl=>rw [←e.s l hl];exact .own l (Nat.lt_of_lt_of_le hl e.le)
 | je l oa hl hn hc=>exact .je l oa (Nat.lt_of_lt_of_le hl e.le) (by rw [e.s l hl];exact hn) (by rw [e.s l hl];exact hc)
 | sub l o k oa c hl hk hc hnil ho=>exact .sub l o k oa c (Nat.lt_of_lt_of_le hl e.le) (by rw [e.s l hl];exact hk) hc hnil (by rw [e.s l hl];exact ho)
 | mp l b hl hb=>exact .mp l b (Nat.lt_of_lt_of_le hl e.le) (by rw [e.s l hl];exact hb)
 | fn f xs ys us vs hx hy _ _ ih1 ih2=>exact .fn f xs ys us vs hx hy ih1 ih2
 | agg xs us hx _ ih=>exact .agg xs us hx ih
 | bH xs us hx _ ih=>exact .bH xs us hx ih
def bJ (n:Nat)(σ:Nat→Loc)(F:Nat→Prop)(w:World):List AV→List Value→Prop
 | [],[]=>True
 | a::as,v::vs=>aZ n σ F w a v∧bJ n σ F w as vs
 | _,_=>False
section
variable {n:Nat}{σ:Nat→Loc}{F:Nat→Prop}{w:World}
theorem bJ.len : ∀ {as:List AV} {vs:List Value},bJ n σ F w as vs→vs.length=as.length:=by
 intro as
 induction as with
 | nil=>intro vs h;cases vs with
  | nil=>rfl
  | cons _ _=>exact h.elim
 | cons a as ih=>intro vs h;cases vs with
  | nil=>exact h.elim
  | cons v vs=>simp [ih h.2]
theorem bJ.at : ∀ {as:List AV} {vs:List Value},bJ n σ F w as vs→∀(j:Nat) a v,as[j]? = some a→vs[j]? = some v→aZ n σ F w a v:=by
 intro as
 induction as with
 | nil=>intro vs h j a v h1;simp at h1
 | cons a as ih=>intro vs h;cases vs with
  | nil=>exact h.elim
  | cons v vs=>
   intro j x y h1 h2
   cases j with
   | zero=>simp only [List.getElem?_cons_zero,Option.some.injEq]at h1 h2;subst h1;subst h2;exact h.1
   | succ j=>exact ih h.2 j x y (by simpa using h1) (by simpa using h2)
theorem bJ.of : ∀ {as:List AV} {vs:List Value},vs.length=as.length→(∀(j:Nat) a v,as[j]? = some a→vs[j]? = some v→aZ n σ F w a v)→bJ n σ F w as vs:=by
 intro as
 induction as with
 | nil=>intro vs h _;cases vs with
  | nil=>trivial
  | cons _ _=>simp at h
 | cons a as ih=>intro vs h k;cases vs with
  | nil=>simp at h
  | cons v vs=>exact⟨k 0 a v rfl rfl,ih (by simpa using h) fun j x y h1 h2=>k (j+1) x y (by simpa using h1) (by simpa using h2)⟩
theorem bJ.mono {n':Nat}{σ':Nat→Loc}{F':Nat→Prop}{w':World}(e:Ext n σ F w n' σ' F' w'){as:List AV}{vs:List Value}(h:bJ n σ F w as vs):bJ n' σ' F' w' as vs:=
 .of h.len fun j a v h1 h2=>(h.at j a v h1 h2).mono e
theorem bJ.y5 {as:List AV}{v:Value}(h:aZ n σ F w (.agg as) v) : ∃vs,v = .agg vs.toArray∧bJ n σ F w as vs:=by
 cases h with
 | agg _ us hx rx=>exact⟨us,rfl, .of hx rx⟩
theorem bJ.agg {as:List AV}{vs:List Value}(h:bJ n σ F w as vs):aZ n σ F w (.agg as) (.agg vs.toArray):= .agg as vs h.len h.at
theorem bJ.bH {as:List AV}{vs:List Value}(h:bJ n σ F w as vs):aZ n σ F w (.bH as) (.tuple vs.toArray):= .bH as vs h.len h.at
theorem bJ.append {as bs:List AV}{vs us:List Value}(h:bJ n σ F w as vs)(k:bJ n σ F w bs us):bJ n σ F w (as++bs) (vs++us):=by
 induction as generalizing vs with
 | nil=>cases vs with
  | nil=>exact k
  | cons _ _=>exact h.elim
 | cons a as ih=>cases vs with
  | nil=>exact h.elim
  | cons v vs=>exact⟨h.1,ih h.2⟩
theorem bJ.drop {as:List AV}{vs:List Value}(h:bJ n σ F w as vs)(k:Nat):bJ n σ F w (as.drop k) (vs.drop k):=
 .of (by simp [h.len]) fun j a v h1 h2=>h.at (k+j) a v (by simpa using h1) (by simpa using h2)
theorem bJ.take {as:List AV}{vs:List Value}(h:bJ n σ F w as vs)(k:Nat):bJ n σ F w (as.take k) (vs.take k):=
 .of (by simp [h.len]) fun j a v h1 h2=>h.at j a v (by rw [List.getElem?_take]at h1;split at h1;exact h1;cases h1) (by rw [List.getElem?_take]at h2;split at h2;exact h2;cases h2)
theorem bJ.set {as:List AV}{vs:List Value}(h:bJ n σ F w as vs)(k:Nat){a:AV}{v:Value}(r:aZ n σ F w a v):bJ n σ F w (as.set k a) (vs.set k v):=
 .of (by simp [h.len]) fun j x y h1 h2=>by
  have hl:=h.len
  rw [List.getElem?_set]at h1 h2
  by_cases e:k=j
  ·subst e
   simp only [if_true]at h1 h2
   by_cases hk:k<as.length
   ·rw [if_pos hk]at h1;rw [if_pos (by omega)]at h2
    injection h1 with h1;injection h2 with h2
    rw [←h1, ←h2];exact r
   ·rw [if_neg hk]at h1;cases h1
  ·rw [if_neg e]at h1 h2;exact h.at j x y h1 h2
end
def FV.up:FV→AV
 | .top=> .top
 | .v x=> .v x
 | .lst sz l=> .lst sz l
 | .fp cs o=> .fp cs o
 | .fm M=> .fm M
theorem dV.up {n:Nat}{σ:Nat→Loc}{F:Nat→Prop}{w:World}{a:FV}{v:Value}(h:dV F w a v):aZ n σ F w a.up v:=by
 cases a with
 | top=>exact .top v
 | v x=>cases h;exact .v _
 | lst sz l=>exact .lst h
 | fp cs o=>exact .fp h
 | fm M=>exact .fm h
def fU (F:Nat→Prop)(w:World)(sz:Nat)(l:List (List FV))(xs:List Value):Prop:=
 (∀row∈l,row.length=sz)∧xs.length=l.length*sz∧(∀v∈xs,v.oneCell'=true)∧∀i j row a v,l[i]? = some row→row[j]? = some a→xs[i*sz+j]? = some v→dV F w a v
def UF (F:Nat→Prop)(w:World)(g:Nat)(M:Int→Option FV):Prop:= ∃V,jy w g V∧∀k,match M k,V k with | some a,some v=>dV F w a v | none,none=>True | _,_=>False
theorem UF.mono {F F':Nat→Prop}{w w':World}{g:Nat}{M:Int→Option FV}(h:UF F w g M)(hf : ∀b,F b→F' b∧w'.heap[b]? = w.heap[b]?)(hb:w'.heap[g]? = w.heap[g]?):UF F' w' g M:=by
 obtain⟨V,h1,h2⟩:=h
 refine⟨V,h1.heap hb,fun k=> ?_⟩
 have:=h2 k
 split at this
 ·exact this.mono hf
 ·trivial
 ·exact this.elim
def IW (w:World)(L:Loc)(sz:Nat)(l:List (List TV))(i j g:Nat):Prop:=
 ∃b row t' sz' r m c,L.b=some b∧l[i]? = some row∧row[j]? = some (.n t' sz' r)∧w.cell? ⟨b,i*sz+j,none⟩=some (.slice (some ⟨g,0,none⟩) m c)∧0<c
def Nst (w:World)(L:Loc):dU→Nat→Prop
 | .tree _ sz l _,g=> ∃i j,IW w L sz l i j g
 | _,_=>False
def iL (w:World)(L:Loc)(blk:dU)(g:Nat):Prop:=L.b=some g∨Nst w L blk g
def dU.flat:dU→Bool
 | .tree _ _ _ _=>false
 | _=>true
theorem iL.flat {w:World}{L:Loc}{blk:dU}{g:Nat}(hf:blk.flat=true)(h:iL w L blk g):L.b=some g:=by
 rcases h with h | h
 ·exact h
 ·cases blk<;>first | exact h.elim | cases hf
theorem IW.back {w w':World}{L:Loc}{sz:Nat}{l:List (List TV)}{i j g:Nat}(hb : ∀b,L.b=some b→w'.heap[b]? = w.heap[b]?)(h:IW w' L sz l i j g):IW w L sz l i j g:=by
 obtain⟨b,row,t',sz',r,m,c,h1,h2,h3,h4,h5⟩:=h
 exact⟨b,row,t',sz',r,m,c,h1,h2,h3,by rw [←iZ (hb b h1)];exact h4,h5⟩
theorem iL.back {w w':World}{L:Loc}{blk:dU}{g:Nat}(hb : ∀b,L.b=some b→w'.heap[b]? = w.heap[b]?)(h:iL w' L blk g):iL w L blk g:=by
 rcases h with h | h
 ·exact .inl h
 ·cases blk<;>first | exact h.elim | skip
  obtain⟨i,j,h⟩:=h
  exact .inr ⟨i,j,h.back hb⟩
def adX (F:Nat→Prop)(w:World):TV→Value→Prop
 | .f x,v=>dV F w x v
 | .n t sz l,v=> ∃oa c,v = .slice oa l.length c∧((c=0∧l = [])∨∃ys,0<c∧Own w 0 t sz oa l.length c ys∧fU F w sz l ys)
def PG (F:Nat→Prop)(w:World)(sz:Nat)(l:List (List TV))(xs:List Value):Prop:=
 (∀row∈l,row.length=sz)∧xs.length=l.length*sz∧(∀v∈xs,v.oneCell'=true)∧∀i j row a v,l[i]? = some row→row[j]? = some a→xs[i*sz+j]? = some v→adX F w a v
def Sep (w:World)(L:Loc)(sz:Nat)(l:List (List TV)):Prop:=
 (∀i j i' j' g,IW w L sz l i j g→IW w L sz l i' j' g→i=i'∧j=j')∧∀i j g,IW w L sz l i j g→L.b≠some g
def kP (n:Nat)(σ:Nat→Loc)(F:Nat→Prop)(w:World)(L:Loc):dU→Prop
 | .var t cs=> ∃g vs,L.b=some g∧jC w g vs t∧bJ n σ F w cs vs∧∀v∈vs,v.oneCell'=true
 | .rows t sz l=>L.sz=sz∧L.n=l.length∧∃xs,Own w 0 t sz L.oa l.length L.c xs∧fU F w sz l xs
 | .fz sz l=>L.sz=sz∧L.n=l.length∧dV F w (.lst sz l) (.slice L.oa L.n L.c)∧∀b o,L.oa=some ⟨b,o,none⟩→o=0
 | .map M=> ∃g,L.b=some g∧jm w g M
 | .Nz M=> ∃g,L.b=some g∧dV F w (.fm M) (.map (some g))
 | .qV M=> ∃g,L.b=some g∧UF F w g M
 | .itr s p=> ∃g,L.b=some g∧w.heap[g]? = some (.stringIter s p)
 | .tree t sz l h=>L.sz=sz∧L.n=l.length∧∃xs,Own w 0 t sz L.oa l.length L.c xs∧PG F w sz l xs∧Sep w L sz l∧
  ∀i j e,h=some (i,j,e)→e<n∧i<l.length∧j<sz∧(∃row,l[i]? = some row∧row[j]? = some (.f .top))∧∃v,xs[i*sz+j]? = some v∧aZ n σ F w (.own e) v
structure Glob where
 nb:Nat
 val:Nat→Option (List Value)
 eqs:Nat→Option Obj
def Glob.holds (G:Glob)(w:World):Prop:=G.nb≤w.heap.size∧(∀g cs,G.val g=some cs→g<G.nb∧∀j v,cs[j]? = some v→w.cell? ⟨g,j,none⟩=some v)∧∀g o,G.eqs g=some o→g<G.nb∧w.heap[g]? = some o
structure qE (M:Nat→Prop)(w w':World):Prop where
 os:w'.os=w.os
 tape:w'.tape=w.tape
 output:w'.output=w.output
 size:w.heap.size≤w'.heap.size
 block : ∀k,k<w.heap.size→¬M k→w'.heap[k]? = w.heap[k]?
theorem qE.refl (M:Nat→Prop)(w:World):qE M w w:=⟨rfl,rfl,rfl,Nat.le_refl _,fun _ _ _=>rfl⟩
theorem qE.trans {M M':Nat→Prop}{u v w:World}(h:qE M u v)(k:qE M' v w)(hM : ∀b,M' b→M b∨u.heap.size≤b):qE M u w:=
 ⟨k.os.trans h.os,k.tape.trans h.tape,k.output.trans h.output,Nat.le_trans h.size k.size,fun b hb hn=>
  (k.block b (Nat.lt_of_lt_of_le hb h.size) fun hm=>(hM b hm).elim hn fun hge=>by omega).trans (h.block b hb hn)⟩
theorem qE.below {w w':World}{M:Nat→Prop}{B:Nat}(h:qE M w w')(hM : ∀b,M b→B≤b)(hB:B≤w.heap.size):Below B w w':=
 ⟨h.os,h.tape,h.output,h.size,fun k hk=>h.block k (by omega) fun hm=>by have:=hM k hm;omega⟩
theorem qE.jF {w w':World}(h:Below w.heap.size w w'):qE (fun _=>False) w w':=⟨h.os,h.tape,h.output,h.size,fun k hk _=>h.block k hk⟩
theorem qE.Za {w w':World}{g:Nat}(h:Only g w w'):qE (fun b=>b=g) w w':=⟨h.os,h.tape,h.output,Nat.le_of_eq h.size.symm,fun k _ hn=>h.block k hn⟩
theorem qE.mono {M M':Nat→Prop}{w w':World}(h:qE M w w')(hM : ∀b,b<w.heap.size→M b→M' b):qE M' w w':=⟨h.os,h.tape,h.output,h.size,fun k hk hn=>h.block k hk fun hm=>hn (hM k hk hm)⟩
theorem Glob.gI {G:Glob}{w w':World}(h:G.holds w)(hs:w.heap.size≤w'.heap.size)(hb : ∀b,b<G.nb→w'.heap[b]? = w.heap[b]?):G.holds w':=
 ⟨Nat.le_trans h.1 hs,fun g cs hg=>⟨(h.2.1 g cs hg).1,fun j v hj=>by rw [iZ (hb g (h.2.1 g cs hg).1)];exact(h.2.1 g cs hg).2 j v hj⟩,fun g o ho=>⟨(h.2.2 g o ho).1,by rw [hb g (h.2.2 g o ho).1];exact(h.2.2 g o ho).2⟩⟩
structure St (G:Glob)(w₀:World)(aK aN:Nat→Prop)(n:Nat)(σ:Nat→Loc)(F:Nat→Prop)(H:ak)(w:World):Prop where
 glob:G.holds w
 gI:qE aK w₀ w
 dL : ∀b,F b→b<w.heap.size∧(aN b∨w₀.heap.size≤b∨aK b)
 lab : ∀aT blk,look H aT=some blk→aT<n
 mu : ∀aT blk g,look H aT=some blk→blk.own=true→iL w (σ aT) blk g→¬F g∧G.nb≤g∧g<w.heap.size∧(aK g∨w₀.heap.size≤g)
 inj : ∀aT qF blk blk' g,look H aT=some blk→look H qF=some blk'→blk.own=true→blk'.own=true→iL w (σ aT) blk g→iL w (σ qF) blk' g→aT=qF
 blk : ∀aT blk,look H aT=some blk→kP n σ F w (σ aT) blk
def kQ (w:World)(σ:Nat→Loc)(H:ak)(g:Nat):Prop:= ∃aT blk,look H aT=some blk∧blk.own=true∧iL w (σ aT) blk g
theorem fU.mono {F F':Nat→Prop}{w w':World}(h : ∀b,F b→F' b∧w'.heap[b]? = w.heap[b]?){sz:Nat}{l:List (List FV)}{xs:List Value}(r:fU F w sz l xs):fU F' w' sz l xs:=
 ⟨r.1,r.2.1,r.2.2.1,fun i j row a v h1 h2 h3=>(r.2.2.2 i j row a v h1 h2 h3).mono h⟩
theorem rX {w w':World}{t sz:Nat}{oa:Option Addr}{n c:Nat}{xs:List Value}(h:Own w 0 t sz oa n c xs)(hs:w.heap.size≤w'.heap.size)(hb : ∀g,oa.map (·.block)=some g→w'.heap[g]? = w.heap[g]?):Own w' 0 t sz oa n c xs:=by
 refine⟨h.1, ?_⟩
 rcases h.2 with h2 | ⟨g,cap,cur,hv,hg,hh,h3⟩
 ·exact .inl h2
 ·injection hv with e1 e2 e3
  subst e1;subst e3
  exact .inr ⟨g,c,cur,rfl,hg,by rw [hb g rfl];exact hh,h3⟩
theorem nG {w:World}{t sz c i j:Nat}{L:Loc}{α:Type}{l:List (List α)}{row:List α}{a:α}{xs:List Value}{v:Value}(h:Own w 0 t sz L.oa l.length c xs)(hi:l[i]? = some row)(hr:row.length=sz)(hj:row[j]? = some a)(hx:xs.length=l.length*sz)(hv:xs[i*sz+j]? = some v) :
  ∃b,L.b=some b∧w.cell? ⟨b,i*sz+j,none⟩=some v:=by
 have hil:=(List.getElem?_eq_some_iff.1 hi).1
 have hjl:=(List.getElem?_eq_some_iff.1 hj).1
 obtain⟨g,cur,hg,_,hB,hle,_,hcl,htk⟩:=h.blk (by omega)
 have hb:L.b=some g:=by
  unfold Loc.oa at hg
  cases hx:L.b with
  | none=>rw [hx]at hg;cases hg
  | some g'=>rw [hx]at hg;simp at hg;rw [hg]
 refine⟨g,hb, ?_⟩
 have hlt:i*sz+j<l.length*sz:=by
  have:(i+1)*sz≤l.length*sz:=Nat.mul_le_mul_right _ hil
  rw [Nat.add_mul,Nat.one_mul]at this;omega
 rw [hB.cell, ←hv, ←htk,List.getElem?_take,if_pos hlt]
theorem PG.mono {F F':Nat→Prop}{w:World}{sz:Nat}{l:List (List TV)}{xs:List Value}(h : ∀b,F b→F' b∧w.heap[b]? = w.heap[b]?)(r:PG F w sz l xs):PG F' w sz l xs:=
 ⟨r.1,r.2.1,r.2.2.1,fun i j row a v hi hj hv=>by
  have hT:=r.2.2.2 i j row a v hi hj hv
  cases a with
  | f x=>exact dV.mono h hT
  | n t' sz' q=>
   obtain⟨oa,c,rfl,hT⟩:=hT
   exact⟨oa,c,rfl,hT.imp id fun⟨ys,hc,hO,hR⟩=>⟨ys,hc,hO,fU.mono h hR⟩⟩⟩
theorem kP.mono {n n':Nat}{σ σ':Nat→Loc}{F F':Nat→Prop}{w w':World}(e:Ext n σ F w n' σ' F' w'){L:Loc}{blk:dU}(h:kP n σ F w L blk)(hb:blk.own=true→∀g,iL w L blk g→w'.heap[g]? = w.heap[g]?):kP n' σ' F' w' L blk:=by
 cases blk with
 | var t cs=>
  obtain⟨g,vs,h1,h2,h3,h4⟩:=h
  exact⟨g,vs,h1,(hb rfl g (.inl h1)).trans h2,h3.mono e,h4⟩
 | rows t sz l=>
  obtain⟨h1,h2,xs,h3,h4⟩:=h
  exact⟨h1,h2,xs,rX h3 e.sz (fun g hg=>hb rfl g (.inl (by cases hL:L.b<;>simp_all [Loc.oa]))),h4.mono e.f⟩
 | fz sz l=>exact⟨h.1,h.2.1,h.2.2.1.mono e.f,h.2.2.2⟩
 | map M=>
  obtain⟨g,h1,h2⟩:=h
  exact⟨g,h1,h2.heap (hb rfl g (.inl h1))⟩
 | Nz M=>
  obtain⟨g,h1,h2⟩:=h
  exact⟨g,h1,h2.mono e.f⟩
 | qV M=>
  obtain⟨g,h1,h2⟩:=h
  exact⟨g,h1,h2.mono e.f (hb rfl g (.inl h1))⟩
 | itr s p=>
  obtain⟨g,h1,h2⟩:=h
  exact⟨g,h1,(hb rfl g (.inl h1)).trans h2⟩
 | tree t sz l h=>
  obtain⟨h1,h2,xs,h3,h4,h5,h6⟩:=h
  have hbk : ∀b,L.b=some b→w'.heap[b]? = w.heap[b]? :=fun b hL=>hb rfl b (.inl hL)
  refine⟨h1,h2,xs,rX h3 e.sz (fun g hg=>hb rfl g (.inl (by cases hL:L.b<;>simp_all [Loc.oa]))),⟨h4.1,h4.2.1,h4.2.2.1,fun i j row a v hi hj hv=> ?_⟩,⟨fun i j i' j' g a b=>h5.1 i j i' j' g (a.back hbk) (b.back hbk),fun i j g a=>h5.2 i j g (a.back hbk)⟩,fun i j k hk=> ?_⟩
  ·have hT:=h4.2.2.2 i j row a v hi hj hv
   cases a with
   | f x=>exact hT.mono e.f
   | n t' sz' r=>
    obtain⟨oa,c,rfl,hT⟩:=hT
    refine⟨oa,c,rfl,hT.imp id fun⟨ys,hc,hO,hR⟩=>⟨ys,hc,rX hO e.sz (fun g hg=>hb rfl g (.inr ⟨i,j, ?_⟩)),hR.mono e.f⟩⟩
    obtain⟨b,hLb,hcell⟩:=nG h3 hi (h4.1 row (List.mem_of_getElem? hi)) hj h4.2.1 hv
    refine⟨b,row,t',sz',r,r.length,c,hLb,hi,hj, ?_,hc⟩
    rw [hcell]
    rcases hO.2 with ⟨hs,_⟩ | ⟨g',cap,cur,hs,_⟩
    ·injection hs with e1 _ _;rw [e1]at hg;cases hg
    ·injection hs with e1 _ _;rw [e1]at hg ⊢;injection hg with hg;have hg:g'=g:=hg;rw [hg]
  ·obtain⟨a1,a2,a3,a4,v,a5,a6⟩:=h6 i j k hk
   exact⟨Nat.lt_of_lt_of_le a1 e.le,a2,a3,a4,v,a5,a6.mono e⟩
abbrev aJ:=Nat→AV
def jW (ρ:aJ)(d:Nat)(v:AV):aJ:=fun n=>bif Nat.beq n d then v else ρ n
def fJ (ρ:aJ)(d:Option Nat)(v:AV):aJ:=match d with | some d=>jW ρ d v | none=>ρ
def Io (v:Value):AV:=
 match v with
 | .agg cs=> .agg (cs.toList.map .v)
 | .tuple cs=> .bH (cs.toList.map .v)
 | v=> .v v
def dO (ρ:aJ)(x:Operand):AV:=
 match x with
 | .tmp t=>ρ t
 | .const v=>Io v
 | .global g=> .v (.pointer (some ⟨g,0,none⟩))
 | .func f=> .v (.func (.func f) #[] #[])
def af (a:AV)(k:AV→Prop):Prop:=
 match a with
 | .top=>k .top
 | .v x=>force x fun x=>k (.v x)
 | .lst sz l=>k (.lst sz l)
 | .fp cs o=>k (.fp cs o)
 | .fm M=>k (.fm M)
 | .ptr l o=>k (.ptr l o)
 | .ep l i o=>k (.ep l i o)
 | .own l=>k (.own l)
 | .sub l o n=>k (.sub l o n)
 | .mp l=>k (.mp l)
 | .fn f x y=>k (.fn f x y)
 | .agg cs=>k (.agg cs)
 | .bH vs=>k (.bH vs)
theorem iH (a:AV)(k:AV→Prop):af a k=k a:=by cases a<;>simp [af,force_eq]
def FB (l:List AV)(k:List AV→Prop):Prop:=
 match l with
 | []=>k []
 | a::r=>af a fun a'=>FB r fun r'=>k (a'::r')
theorem jo (l:List AV) : ∀k:List AV→Prop,FB l k=k l:=by
 induction l with
 | nil=>intro k;rfl
 | cons x r ih=>intro k;simp only [FB,iH,ih]
def spine {α:Type}(l:List α)(k:List α→Prop):Prop:=
 match l with
 | []=>k []
 | a::r=>spine r fun r'=>k (a::r')
theorem eU {α:Type}(l:List α) : ∀k:List α→Prop,spine l k=k l:=by
 induction l with
 | nil=>intro k;rfl
 | cons x r ih=>intro k;simp only [spine,ih]
def afO (a:Option AV)(k:Option AV→Prop):Prop:=
 match a with
 | some a=>af a fun a'=>k (some a')
 | none=>k none
theorem Zb (a:Option AV)(k:Option AV→Prop):afO a k=k a:=by cases a<;>simp [afO,iH]
structure aI (k:IntKind)(x:Int)(K:Int→Prop):Prop where
 ex:K (k.wrap x)
structure bC (x:Int)(n:Nat)(K:Nat→Prop):Prop where
 ex : ∃i:Nat,x=i∧i<n∧K i
structure lT (x y:Int)(n:Nat)(K:Nat→Nat→Prop):Prop where
 ex : ∃i j:Nat,x=i∧y=j∧i≤j∧j≤n∧K i j
structure aS (l:List (List FV))(i:Nat)(K:List FV→Prop):Prop where
 ex : ∃row,l[i]? = some row∧K row
structure ARt (l:List (List TV))(i:Nat)(K:List TV→Prop):Prop where
 ex : ∃row,l[i]? = some row∧K row
structure ATs (p K:Prop):Prop where
 is:p
 go:K
structure KG (x y:Int)(iQ:Nat)(K:Nat→Prop):Prop where
 ex : ∃n m:Nat,x=n∧y=m∧n≤m∧iQ*m≤140737488355328∧m≤maxLen∧K n
def dW (c:UInt8):List FV:= [.v (.int .u8 (c.toNat:Int))]
structure IX (l:List (List FV))(K:ByteArray→Prop):Prop where
 ex : ∃s:List UInt8,l=s.map dW∧K ⟨s.toArray⟩
structure ALk (M:ByteArray→Option Value)(s:ByteArray)(z:Value)(K:Value→Bool→Prop):Prop where
 ex:K ((M s).getD z) (M s).isSome
def FV.val:FV→AV
 | .v y=>Io y
 | x=>x.up
structure ALi (M:Int→Option FV)(k:Int)(z:Value)(K:AV→Bool→Prop):Prop where
 no:M k=none→K (Io z) false
 yes : ∀x,M k=some x→K x.val true
def PI (op:BinOp)(k:IntKind)(a b:Int)(K:AV→Prop):Prop:=
 match op with
 | .add=>aI k (a+b) fun n=>K (.v (.int k n))
 | .sub=>aI k (a-b) fun n=>K (.v (.int k n))
 | .mul=>aI k (a*b) fun n=>K (.v (.int k n))
 | .quo=>ay (b≠0) (aI k (a.tdiv b) fun n=>K (.v (.int k n)))
 | .rem=>ay (b≠0) (K (.v (.int k (a.tmod b))))
 | .and=>K (.v (.int k (bn .and k a b)))
 | .or=>K (.v (.int k (bn .or k a b)))
 | .xor=>K (.v (.int k (bn .xor k a b)))
 | .andNot=>K (.v (.int k (bn .andNot k a b)))
 | .shl=>ay (0≤b) (aI k (a*2^min b.toNat k.bits) fun n=>K (.v (.int k n)))
 | .shr=>ay (0≤b) (K (.v (.int k (a.fdiv (2^min b.toNat k.bits)))))
 | .eql=>K (.v (.bool (a==b)))
 | .neq=>K (.v (.bool (a != b)))
 | .lss=>K (.v (.bool (decide (a<b))))
 | .leq=>K (.v (.bool (decide (a≤b))))
 | .gtr=>K (.v (.bool (decide (a>b))))
 | .geq=>K (.v (.bool (decide (a≥b))))
def Zc (op:BinOp)(a b:ByteArray)(K:AV→Prop):Prop:=
 match op with
 | .add=>ay (((a.size+b.size:Nat):Int)≤IntKind.i64.max) (K (.v (.string (a++b))))
 | .eql=>K (.v (.bool (oU a b)))
 | .neq=>K (.v (.bool (!oU a b)))
 | .lss=>K (.v (.bool (E8 a b)))
 | .leq=>K (.v (.bool (E8 a b||oU a b)))
 | .gtr=>K (.v (.bool (!(E8 a b||oU a b))))
 | .geq=>K (.v (.bool (!E8 a b)))
 | _=>False
def valsOf:List AV→Option (List Value)
 | []=>some []
 | .v x::r=>(match valsOf r with | some l=>some (x::l) | none=>none)
 | _=>none
structure kG (P:Program)(t:TypeId)(K:Prop):Prop where
 g:P.eqGuardType P.depth t=false
 p:P.stoodInHeld t=false
 u:P.underlying t=some (.struct (P.fieldsOf t))
 go:K
structure adZ (n:Nat)(K:Bool→Prop):Prop where
 ex : ∀b:Bool,(0<n→b=false)→K b
def qG (op:BinOp)(b:Bool)(K:AV→Prop):Prop:=
 match op with
 | .eql=>K (.v (.bool b))
 | .neq=>K (.v (.bool (!b)))
 | _=>False
def Zd (H:ak)(a:AV):Option Nat:=
 match a with
 | .lst _ l=>some l.length
 | .own l=>(match look H l with
  | some (.rows _ _ m)=>some m.length
  | some (.fz _ m)=>some m.length
  | _=>none)
 | .sub _ _ n=>some n
 | _=>none
def abX (a:AV):Bool:=match a with | .ptr _ _=>true | .ep _ _ _=>true | .fp _ _=>true | _=>false
def Ze (P:Program)(H:ak)(op:BinOp)(t:TypeId)(a b:AV)(K:AV→Prop):Prop:=
 match P.underlying t,b with
 | some (.slice _), .v (.slice none 0 0)=>(match a with
  | .v (.slice none 0 0)=>qG op true K
  | a=>(match Zd H a with
   | some n=>adZ n fun b=>qG op b K
   | none=>False))
 | some (.pointer _), .v (.pointer none)=>(match a with
  | .v (.pointer none)=>qG op true K
  | a=>bif abX a then qG op false K else False)
 | some (.map _ _), .v (.map none)=>(match a with
  | .v (.map none)=>qG op true K
  | .mp _=>qG op false K
  | .fm _=>qG op false K
  | _=>False)
 | some (.func _ _ _), .v .nilFunc=>(match a with
  | .fn _ _ _=>qG op false K
  | .v (.func _ _ _)=>qG op false K
  | .v .nilFunc=>qG op true K
  | _=>False)
 | _,_=>False
def Zf (P:Program)(H:ak)(op:BinOp)(t:TypeId)(a b:AV)(K:AV→Prop):Prop:=
 match a,b with
 | .v (.int k m), .v (.int k' n)=>(match op with
  | .shl=>PI .shl k m n K
  | .shr=>PI .shr k m n K
  | op=>bif decide (k=k')then PI op k m n K else False)
 | .v (.string m), .v (.string n)=>Zc op m n K
 | .v (.bool m), .v (.bool n)=>(match op with
  | .eql=>(match P.underlying t with | some .bool=>K (.v (.bool (m==n))) | _=>False)
  | .neq=>(match P.underlying t with | some .bool=>K (.v (.bool (!(m==n)))) | _=>False)
  | _=>False)
 | .agg xs, .agg ys=>(match valsOf xs,valsOf ys with
  | some us,some vs=>(match eqF P us vs (P.fieldsOf t).toList with
   | some b=>(match op with
    | .eql=>kG P t (K (.v (.bool b)))
    | .neq=>kG P t (K (.v (.bool (!b))))
    | _=>False)
   | none=>False)
  | _,_=>False)
 | a,b=>Ze P H op t a b K
def aUn (op:UnOp)(a:AV)(K:AV→Prop):Prop:=
 match op,a with
 | .not, .v (.bool b)=>K (.v (.bool (!b)))
 | .neg, .v (.int k n)=>aI k (0-n) fun n=>K (.v (.int k n))
 | .xor, .v (.int k n)=>K (.v (.int k (bn .xor k (bif k.signed then -1 else k.max) n)))
 | _,_=>False
def IY (P:Program)(t:TypeId)(cs:List AV)(f:Nat)(K:AV→Prop):Prop:=
 match P.underlying t with
 | some (.struct fs)=>(match fs.toList[f]? with
  | some fd=>(match oW P fd.type,P.info? fd.type with
   | some true,some i=>bif Nat.ble (fd.offset+i.size) cs.length then FB ((cs.drop fd.offset).take i.size) fun l=>K (.agg l)else False
   | some false,some _=>(match cs[fd.offset]? with
    | some v=>af v K
    | none=>False)
   | _,_=>False)
  | none=>False)
 | _=>False
def Zg (P:Program)(t:TypeId)(f:Nat):Option Nat:=
 match P.underlying t with
 | some (.struct fs)=>(match fs.toList[f]? with
  | some fd=>(match P.info? fd.type with
   | some i=>bif Nat.beq i.size 0 then none else some fd.offset
   | none=>none)
  | none=>none)
 | _=>none
def y7 (P:Program)(t:TypeId)(a:AV)(f:Nat)(K:AV→Prop):Prop:=
 match Zg P t f,a with
 | some d, .ptr l o=>K (.ptr l (o+d))
 | some d, .ep l i o=>K (.ep l i (o+d))
 | some d, .fp cs o=>K (.fp cs (o+d))
 | _,_=>False
def cellsOf (a:AV):List AV:=match a with | .agg cs=>cs | .v (.agg cs)=>cs.toList.map .v | a=> [a]
def vG {α:Type}(cells:List α)(off:Nat)(vs:List α):List α:=
 match vs with
 | []=>cells
 | c::r=>vG (cells.set off c) (off+1) r
def IZ (a:AV):Bool:=match a with | .top=>false | _=>true
def y8 (place:Nat→Option (Nat×Nat))(cells:List AV)(parts:List (Nat×AV)):Option (List AV):=
 match parts with
 | []=>some cells
 | (i,v)::rest=>(match place i with
  | none=>none
  | some (off,size)=>bif IZ v&&Nat.beq (cellsOf v).length size&&Nat.ble (off+(cellsOf v).length) cells.length then y8 place (vG cells off (cellsOf v)) rest else none)
def I4 (P:Program)(t:TypeId)(parts:List (Nat×AV))(K:AV→Prop):Prop:=
 match (P.info? t).bind (·.zero),P.underlying t with
 | some z,some (.struct fs)=>(match pW P fs.toList with
  | some pl=>(match y8 (fun i=>pl[i]?) (z.cells.toList.map .v) parts with
   | some l=>FB l fun l=>K (.agg l)
   | none=>False)
  | none=>False)
 | some z,some (.array _ e)=>(match P.info? e with
  | some i=>(match y8 (fun j=>some (j*i.size,i.size)) (z.cells.toList.map .v) parts with
   | some l=>FB l fun l=>K (.agg l)
   | none=>False)
  | none=>False)
 | _,_=>False
def y9 (P:Program)(t:TypeId)(cs:List AV)(o:Nat)(K:AV→Prop):Prop:=
 match oW P t,szB P t with
 | some false,some _=>(match cs[o]? with | some a=>af a K | none=>False)
 | some true,some k=>bif Nat.ble (o+k) cs.length then FB ((cs.drop o).take k) fun l=>K (.agg l)else False
 | _,_=>False
def PK (P:Program)(t:TypeId)(cs:List FV)(o:Nat)(K:AV→Prop):Prop:=y9 P t (cs.map FV.up) o K
def TV.up:TV→AV
 | .f x=>x.up
 | .n _ _ _=> .top
structure ATr (h:Option (Nat×Nat×Nat))(i o:Nat)(Kh:Nat→Prop)(K:Prop):Prop where
 hole : ∀e,h=some (i,o,e)→Kh e
 other:(∀e,h≠some (i,o,e))→K
def KH (P:Program)(H:ak)(t:TypeId)(a:AV)(K:AV→Prop):Prop:=
 match a with
 | .ptr l o=>(match look H l with
  | some (.var _ cs)=>y9 P t cs o K
  | _=>False)
 | .ep l i o=>(match look H l with
  | some (.rows _ _ m)=>aS m i fun row=>PK P t row o K
  | some (.fz _ m)=>aS m i fun row=>PK P t row o K
  | some (.tree _ _ m h)=>(match oW P t,szB P t with
   | some false,some _=>ATr h i o (fun e=>K (.own e)) (ARt m i fun row=>y9 P t (row.map TV.up) o K)
   | _,_=>False)
  | _=>False)
 | .fp cs o=>PK P t cs o K
 | _=>False
def qW (P:Program)(H:ak)(t:TypeId)(x i:AV)(K:AV→Prop):Prop:=
 match i with
 | .v (.int _ ix)=>(match P.underlying t with
  | some (.slice e)=>(match szB P e with
   | some sz=>(match x with
    | .lst sz' l=>bif Nat.beq sz sz' then bC ix l.length fun j=>aS l j fun row=>K (.fp row 0)else False
    | .own l=>(match look H l with
     | some (.rows _ sz' m)=>bif Nat.beq sz sz' then bC ix m.length fun j=>K (.ep l j 0)else False
     | some (.fz sz' m)=>bif Nat.beq sz sz' then bC ix m.length fun j=>K (.ep l j 0)else False
     | some (.tree _ sz' m _)=>bif Nat.beq sz sz' then bC ix m.length fun j=>K (.ep l j 0)else False
     | _=>False)
    | .sub l o n=>(match look H l with
     | some (.rows _ sz' _)=>bif Nat.beq sz sz' then bC ix n fun j=>K (.ep l (o+j) 0)else False
     | some (.fz sz' _)=>bif Nat.beq sz sz' then bC ix n fun j=>K (.ep l (o+j) 0)else False
     | _=>False)
    | _=>False)
   | none=>False)
  | some (.array n e)=>(match szB P e with
   | some sz=>(match x with
    | .ptr l o=>bC ix n fun j=>K (.ptr l (o+j*sz))
    | .ep l i o=>bC ix n fun j=>K (.ep l i (o+j*sz))
    | .fp cs o=>bC ix n fun j=>K (.fp cs (o+j*sz))
    | _=>False)
   | none=>False)
  | _=>False)
 | _=>False
def I5 (P:Program)(t:TypeId)(x i:AV)(K:AV→Prop):Prop:=
 match i with
 | .v (.int _ ix)=>(match P.underlying t,x with
  | some .string, .v (.string s)=>bC ix s.size fun j=>K (.v (.int .u8 ((s.data.toList.getD j 0).toNat:Int)))
  | some (.array n e), .agg cs=>bC ix n fun j=>(match szB P e with
   | some sz=>y9 P e cs (j*sz) K
   | none=>False)
  | _,_=>False)
 | _=>False
def rowsOf (H:ak)(a:AV):Option (Nat×List (List FV)):=
 match a with
 | .lst sz l=>some (sz,l)
 | .own l=>(match look H l with
  | some (.rows _ sz m)=>some (sz,m)
  | some (.fz sz m)=>some (sz,m)
  | _=>none)
 | .sub l o n=>(match look H l with
  | some (.rows _ sz m)=>some (sz,(m.drop o).take n)
  | some (.fz sz m)=>some (sz,(m.drop o).take n)
  | _=>none)
 | _=>none
def Zh (P:Program)(H:ak)(t:TypeId)(a:AV)(K:AV→Prop):Prop:=
 match P.underlying t,a with
 | some .string, .v (.string s)=>K (.v (.int .i64 s.size))
 | some (.slice _), .lst _ l=>K (.v (.int .i64 l.length))
 | some (.slice _), .own l=>(match look H l with
  | some (.rows _ _ m)=>K (.v (.int .i64 m.length))
  | some (.fz _ m)=>K (.v (.int .i64 m.length))
  | _=>False)
 | some (.slice _), .sub _ _ n=>K (.v (.int .i64 n))
 | some (.slice _), .v (.slice _ n _)=>K (.v (.int .i64 n))
 | some (.array n _),_=>K (.v (.int .i64 n))
 | _,_=>False
def rY (a:Option AV)(d:Int)(K:Int→Prop):Prop:=
 match a with
 | none=>K d
 | some (.v (.int _ n))=>K n
 | _=>False
def I7 (m:Option AV)(b:Int)(n:Nat)(K:Prop):Prop:=
 match m with
 | none=>K
 | some (.v (.int _ z))=>ay (b≤z∧z≤(n:Int)) K
 | _=>False
def cut (lo hi:Option AV)(i j:Nat)(l:List (List FV)):List (List FV):=
 match lo,hi with
 | none,none=>l
 | none,some _=>l.take j
 | some _,none=>l.drop i
 | some _,some _=>(l.take j).drop i
def I8 (aT:Nat)(lo hi mx:Option AV)(i j:Nat):AV:=
 match lo,hi,mx with
 | none,none,none=> .own aT
 | _,_,_=> .sub aT i (j-i)
def UG (H:ak)(aT sz:Nat):Option Nat:=
 match look H aT with
 | some (.rows _ sz' m)=>bif Nat.beq sz sz' then some m.length else none
 | some (.fz sz' m)=>bif Nat.beq sz sz' then some m.length else none
 | _=>none
def I9 (P:Program)(H:ak)(t:TypeId)(x:AV)(lo hi mx:Option AV)(K:AV→Prop):Prop:=
 match P.underlying t with
 | some .string=>(match x,mx with
  | .v (.string s),none=>rY lo 0 fun a=>rY hi s.size fun b=>lT a b s.size fun i j=>K (.v (.string (s.extract i j)))
  | _,_=>False)
 | some (.slice e)=>(match szB P e with
  | some sz=>(match x with
   | .lst sz' l=>bif Nat.beq sz sz' then rY lo 0 fun a=>rY hi l.length fun b=>I7 mx b l.length (lT a b l.length fun i j=>K (.lst sz (cut lo hi i j l)))else False
   | .own l=>(match UG H l sz with
    | some m=>rY lo 0 fun a=>rY hi m fun b=>I7 mx b m (lT a b m fun i j=>K (I8 l lo hi mx i j))
    | none=>False)
   | .sub l o n=>(match UG H l sz with
    | some _=>rY lo 0 fun a=>rY hi n fun b=>I7 mx b n (lT a b n fun i j=>K (.sub l (o+i) (j-i)))
    | none=>False)
   | .v (.slice none 0 0)=>rY lo 0 fun a=>rY hi ((0:Nat):Int) fun b=>I7 mx b 0 (lT a b 0 fun _ _=>K (.v (.slice none 0 0)))
   | _=>False)
  | none=>False)
 | _=>False
def Ja (P:Program)(H:ak)(b:Builtin)(ts:List TypeId)(args:List AV)(K:AV→Prop):Prop:=
 match b,ts,args with
 | .len,[t],[a]=>Zh P H t a K
 | .min,_,[.v (.int k x), .v (.int _ y)]=>K (.v (.int k (min x y)))
 | .max,_,[.v (.int k x), .v (.int _ y)]=>K (.v (.int k (max x y)))
 | .min,_,[.v (.string x), .v (.string y)]=>K (.v (.string (xG x y)))
 | .max,_,[.v (.string x), .v (.string y)]=>K (.v (.string (xH x y)))
 | _,_,_=>False
def Dy (P:Program)(H:ak)(t:TypeId)(m k:AV)(ok:Bool)(K:AV→Prop):Prop:=
 match m,k with
 | .mp l, .v (.string s)=>(match P.underlying t,look H l with
  | some (.map kt et),some (.map M)=>(match P.underlying kt,(P.info? et).bind (·.zero)with
   | some .string,some z=>ALk M s z fun v b=>(match ok with
    | true=>K (.bH [Io v, .v (.bool b)])
    | false=>K (Io v))
   | _,_=>False)
  | some (.map kt et),some (.Nz M)=>(match P.underlying kt,(P.info? et).bind (·.zero)with
   | some .string,some z=>ALk M s z fun v b=>(match ok with
    | true=>K (.bH [Io v, .v (.bool b)])
    | false=>K (Io v))
   | _,_=>False)
  | _,_=>False)
 | .fm M, .v (.string s)=>(match P.underlying t with
  | some (.map kt et)=>(match P.underlying kt,(P.info? et).bind (·.zero)with
   | some .string,some z=>ALk M s z fun v b=>(match ok with
    | true=>K (.bH [Io v, .v (.bool b)])
    | false=>K (Io v))
   | _,_=>False)
  | _=>False)
 | .mp l, .v (.int .i64 i)=>(match P.underlying t,look H l with
  | some (.map kt et),some (.qV M)=>(match P.underlying kt,(P.info? et).bind (·.zero)with
   | some (.int .i64),some z=>ALi M i z fun v b=>(match ok with
    | true=>K (.bH [v, .v (.bool b)])
    | false=>K v)
   | _,_=>False)
  | _,_=>False)
 | _,_=>False
def PL (P:Program)(Hr:ak)(src dst:TypeId)(a:AV)(K:AV→Prop):Prop:=
 match P.underlying src,P.underlying dst,a with
 | some _,some (.int k), .v (.int _ n)=>aI k n fun n=>K (.v (.int k n))
 | some (.string),some .string, .v (.string s)=>K (.v (.string s))
 | some (.int _),some .string, .v (.int k n)=>K (.v (.string (Utf8.encode n)))
 | some (.slice e),some .string,a=>(match P.underlying e with
  | some (.int .u8)=>(match a with
   | .v (.slice none 0 0)=>K (.v (.string ⟨#[]⟩))
   | a=>(match rowsOf Hr a with
    | some (sz,l)=>bif Nat.beq sz 1 then IX l fun s=>K (.v (.string s))else False
    | none=>False))
  | _=>False)
 | _,_,_=>False
def aQ (P:Program)(Hr H:ak)(o:Oper)(ρ:aJ)(K:AV→Prop):Prop:=
 match o.op with
 | .move x=>af (dO ρ x) K
 | .assign x=>af (dO ρ x) K
 | .pick c a b=>(match dO ρ c with
  | .v (.bool t)=>(match dO ρ a,dO ρ b with
   | .v (.bool x), .v (.bool y)=>K (.v (.bool (bif t then x else y)))
   | _,_=>E5 t (K (dO ρ a)) (K (dO ρ b)))
  | _=>False)
 | .build t parts=>FB (parts.toList.map fun p=>dO ρ p.2) fun vs=>I4 P t ((parts.toList.map (·.1)).zip vs) K
 | .load t a=>KH P Hr t (dO ρ a) K
 | .nilCheck x=>(match dO ρ x with
  | .ptr l o=>K (.ptr l o)
  | .ep l i o=>K (.ep l i o)
  | .fp cs o=>K (.fp cs o)
  | _=>False)
 | .binOp op t x y _=>af (dO ρ x) fun a=>af (dO ρ y) fun b=>Zf P H op t a b K
 | .unOp op _ x=>af (dO ρ x) fun a=>aUn op a K
 | .convert src dst x=>af (dO ρ x) fun a=>PL P Hr src dst a K
 | .makeFunc fn first captured=>FB (first.toList.map (dO ρ)) fun a=>FB (captured.toList.map (dO ρ)) fun b=>K (.fn fn a b)
 | .slice t x lo hi mx=>af (dO ρ x) fun x=>afO (lo.map (dO ρ)) fun lo=>afO (hi.map (dO ρ)) fun hi=>afO (mx.map (dO ρ)) fun mx=>I9 P H t x lo hi mx K
 | .fieldAddr s x f=>y7 P s (dO ρ x) f K
 | .field t x f=>(match dO ρ x with
  | .agg cs=>IY P t cs f K
  | _=>False)
 | .indexAddr t x i=>af (dO ρ x) fun x=>af (dO ρ i) fun i=>qW P H t x i K
 | .index t x i=>af (dO ρ x) fun x=>af (dO ρ i) fun i=>I5 P t x i K
 | .lookup t m k ok=>af (dO ρ m) fun m=>af (dO ρ k) fun k=>Dy P Hr t m k ok K
 | .extract t i=>(match dO ρ t with
  | .bH vs=>(match vs[i]? with
   | some v=>af v K
   | none=>False)
  | _=>False)
 | .call c=>(match c.callee with
  | .builtin b=>FB (c.args.toList.map (dO ρ)) fun args=>Ja P H b c.argTypes.toList args K
  | _=>False)
 | _=>False
def setH (H:ak)(l:Nat)(b:dU):ak:=
 match H with
 | []=> []
 | p::r=>bif Nat.beq p.1 l then(l,b)::r else p::setH r l b
def Jb (H:ak)(l:Nat):ak:=
 match H with
 | []=> []
 | p::r=>bif Nat.beq p.1 l then Jb r l else p::Jb r l
def dn (H:ak)(a:AV)(K:FV→ak→Prop):Prop:=
 match a with
 | .v x=>K (.v x) H
 | .lst sz l=>K (.lst sz l) H
 | .fp cs o=>K (.fp cs o) H
 | .own l=>(match look H l with
  | some (.rows _ sz m)=>K (.lst sz m) (setH H l (.fz sz m))
  | some (.fz sz m)=>K (.lst sz m) H
  | _=>False)
 | .fm M=>K (.fm M) H
 | .mp l=>(match look H l with
  | some (.map M)=>K (.fm M) (setH H l (.Nz M))
  | some (.Nz M)=>K (.fm M) H
  | _=>False)
 | _=>False
def dnL (H:ak)(l:List AV)(K:List FV→ak→Prop):Prop:=
 match l with
 | []=>K [] H
 | a::r=>dn H a fun x H'=>dnL H' r fun r' jI=>K (x::r') jI
def cell1 (a:AV):Bool:=
 match a with
 | .v x=>x.oneCell'
 | .top=>false
 | .agg _=>false
 | .bH _=>false
 | _=>true
def all1:List AV→Bool
 | []=>true
 | a::r=>cell1 a&&all1 r
def xR (H:ak)(sz:Nat)(i:Nat)(parts:List (Nat×AV))(K:List (List FV)→ak→Prop):Prop:=
 match parts with
 | []=>K [] H
 | (j,a)::r=>bif Nat.beq i j&&Nat.beq (cellsOf a).length sz&&all1 (cellsOf a)then dnL H (cellsOf a) fun x H'=>xR H' sz (i+1) r fun l jI=>K (x::l) jI else False
def o7 (P:Program)(t:TypeId)(m:Nat)(parts:List (Nat×AV))(n:Nat)(H:ak)(K:AV→Nat→ak→Prop):Prop:=
 match P.underlying t with
 | some (.slice e)=>(match P.info? e with
  | some i=>(match i.zero with
   | some z=>bif Nat.beq z.cells.toList.length i.size&&Nat.ble 1 i.size&&Nat.ble (m*i.size) 16777216&&Nat.beq parts.length m&&Nat.ble m maxLen then
     xR H i.size 0 parts fun l H'=>K (.own n) (n+1) ((n, .rows e i.size l)::H')else False
   | none=>False)
  | none=>False)
 | _=>False
def Jc (P:Program)(H:ak)(t:TypeId)(a x:AV)(K:ak→Prop):Prop:=
 match szB P t with
 | some k=>bif Nat.beq (cellsOf x).length k&&all1 (cellsOf x)then(match a with
  | .ptr l o=>(match look H l with
   | some (.var T cs)=>bif Nat.ble (o+k) cs.length then spine (vG cs o (cellsOf x)) fun cs'=>K (setH H l (.var T cs'))else False
   | _=>False)
  | .ep l i o=>(match look H l with
   | some (.tree T sz m h)=>(match h,x with
    | some (i',o',_), .own e'=>ATs (i'=i∧o'=o) (K (setH H l (.tree T sz m (some (i',o',e')))))
    | _,_=>False)
   | some (.rows _ _ _)=>dnL H (cellsOf x) fun x' H'=>(match look H' l with
    | some (.rows T sz m)=>aS m i fun row=>bif Nat.ble (o+k) row.length then spine (vG row o x') fun row'=>K (setH H' l (.rows T sz (m.set i row')))else False
    | _=>False)
   | _=>False)
  | _=>False)else False
 | none=>False
def zf (P:Program)(ts:List TypeId)(args:List AV)(n:Nat)(H:ak)(K:AV→Nat→ak→Prop):Prop:=
 match ts,args with
 | [t,t'],[d,s]=>bif Nat.beq t t' then(match P.underlying t with
  | some (.slice E)=>(match szB P E,gB P E,lZ P E with
   | some sz,some iQ,some zs=>bif Nat.beq zs.length sz&&Nat.ble 1 sz then
    (match (match s with | .v (.slice none 0 0)=>some (sz,[]) | s=>rowsOf H s)with
    | some (sz',m)=>bif Nat.beq sz sz' then(match d with
     | .v (.slice none 0 0)=>ay (m.length*iQ≤140737488355328∧m.length≤maxLen) (K (.own n) (n+1) ((n, .rows E sz m)::H))
     | .own l=>(match look H l with
      | some (.rows E' Jd r)=>bif Nat.beq E E'&&Nat.beq sz Jd then ay ((r.length+m.length)*iQ≤140737488355328∧r.length+m.length≤maxLen) (K (.own n) (n+1) ((n, .rows E sz (r++m))::Jb H l))else False
      | _=>False)
     | _=>False)else False
    | none=>False)else False
   | _,_,_=>False)
  | _=>False)else False
 | _,_=>False
def FC (P:Program)(E:TypeId):Bool:=match (P.info? E).bind (·.zero)with | some (.int .u8 n)=>decide (n=0) | _=>false
def FD (P:Program)(t t':TypeId)(d:AV)(x:ByteArray)(n:Nat)(H:ak)(K:AV→Nat→ak→Prop):Prop:=
 match P.underlying t,P.underlying t',d with
 | some (.slice E),some .string, .own l=>(match szB P E,gB P E with
  | some sz,some iQ=>(match look H l with
   | some (.rows E' sz' r)=>bif Nat.beq sz 1&&Nat.beq iQ 1&&FC P E&&Nat.beq E E'&&Nat.beq sz sz' then ay (r.length+x.size≤140737488355328∧r.length+x.size≤maxLen) (K (.own n) (n+1) ((n, .rows E sz (r++x.data.toList.map dW))::Jb H l))else False
   | _=>False)
  | _,_=>False)
 | _,_,_=>False
def UH (P:Program):Nat→Option TypeId
 | 0=>none
 | k+1=>match UH P k with
  | some u=>some u
  | none=>(match P.underlying k with | some .string=>some k | _=>none)
def l9 (m:Nat):ByteArray:=⟨(List.replicate m 0).toArray⟩
def PN (P:Program)(t t':TypeId)(d:AV)(x:Int)(n:Nat)(H:ak)(K:AV→Nat→ak→Prop):Prop:=
 match P.underlying t',UH P 64 with
 | some (.int _),some u=>KG x x 1 fun m=>FD P t u d (l9 m) n H K
 | _,_=>False
def Dz (P:Program)(ts:List TypeId)(args:List AV)(n:Nat)(H:ak)(K:AV→Nat→ak→Prop):Prop:=
 match ts,args with
 | [t,t'],[d, .v (.string x)]=>FD P t t' d x n H K
 | [t,t'],[d, .v (.int .i64 x)]=>PN P t t' d x n H K
 | _,_=>zf P ts args n H K
def qX (P:Program)(t:TypeId)(l c:AV)(n:Nat)(H:ak)(K:AV→Nat→ak→Prop):Prop:=
 match l,c with
 | .v (.int _ x), .v (.int _ y)=>(match P.underlying t with
  | some (.slice E)=>(match szB P E,gB P E,lZ P E with
   | some sz,some iQ,some zs=>bif Nat.beq zs.length sz&&Nat.ble 1 sz&&zs.all (·.oneCell')then
    KG x y iQ fun m=>K (.own n) (n+1) ((n, .rows E sz (List.replicate m (zs.map .v)))::H)else False
   | _,_,_=>False)
  | _=>False)
 | _,_=>False
def PO (a:AV):Option Value:=
 match a with
 | .v x=>some x
 | .agg cs=>(match valsOf cs with | some l=>some (.agg l.toArray) | none=>none)
 | _=>none
def og (P:Program)(H:ak)(t:TypeId)(m k x:AV)(K:ak→Prop):Prop:=
 match m,k with
 | .mp l, .v (.int .i64 i)=>(match P.underlying t,look H l with
  | some (.map kt _),some (.qV _)=>(match P.underlying kt with
   | some (.int .i64)=>dn H (match PO x with | some v=> .v v | none=>x) fun y H'=>(match look H' l with
    | some (.qV M)=>K (setH H' l (.qV fun k'=>if k'=i then some y else M k'))
    | _=>False)
   | _=>False)
  | _,_=>False)
 | _,_=>match m,k,PO x with
 | .mp l, .v (.string s),some v=>(match P.underlying t,look H l with
  | some (.map kt _),some (.map M)=>(match P.underlying kt with
   | some .string=>K (setH H l (.map fun k'=>if k'=s then some v else M k'))
   | _=>False)
  | _,_=>False)
 | _,_,_=>False
def splice (m:List (List FV))(o:Nat)(ys:List (List FV)):List (List FV):=m.take o++ys++m.drop (o+ys.length)
def Yt (H:ak)(d:AV):Option (Nat×Nat×Nat):=
 match d with
 | .own l=>(match look H l with | some (.rows _ _ m)=>some (l,0,m.length) | _=>none)
 | .sub l o k=>some (l,o,k)
 | _=>none
def PU (P:Program)(ts:List TypeId)(args:List AV)(n:Nat)(H:ak)(K:AV→Nat→ak→Prop):Prop:=
 match ts,args with
 | [t,_],[d,s]=>(match P.underlying t with
  | some (.slice E)=>(match szB P E,Yt H d,rowsOf H s with
   | some sz,some (l,o,k),some (sz',xs)=>(match look H l with
    | some (.rows T Jd m)=>bif Nat.beq sz 1&&(Nat.beq sz' 1&&Nat.beq Jd 1)then K (.v (.int .i64 ((min xs.length k:Nat):Int))) n (setH H l (.rows T 1 (splice m o (xs.take (min xs.length k)))))else False
    | _=>False)
   | _,_,_=>False)
  | _=>False)
 | _,_=>False
def bD (P:Program)(G:Glob)(f:FuncId)(args:List AV)(n:Nat)(H:ak)(R:AV→Nat→ak→Prop):Prop:=
 ∀w σ F vs,St G w (kQ w σ H) F n σ F H w→bJ n σ F w args vs→
  wQ P f vs.toArray w fun v w'=> ∃a n' σ' F' H',R a n' H'∧St G w (kQ w σ H) F n' σ' F' H' w'∧Ext n σ F w n' σ' F' w'∧aZ n' σ' F' w' a v
structure qM (P:Program)(G:Glob)(f:FuncId)(args:List AV)(n:Nat)(H:ak)(K:AV→Nat→ak→Prop):Prop where
 ok:callable P f=true
 runs:bD P G f args n H K
def ad2 (P:Program)(t:TypeId):Bool:=match P.underlying t with | some (.map kt _)=>(match P.underlying kt with | some (.int .i64)=>true | _=>false) | _=>false
def DC (P:Program)(src dst:TypeId):Bool:=
 match P.underlying src,P.underlying dst with
 | some .string,some (.slice e)=>(match P.underlying e with | some (.int .u8)=>true | _=>false)
 | _,_=>false
def aE (P:Program)(G:Glob)(o:Oper)(ρ:aJ)(n:Nat)(H:ak)(K:AV→Nat→ak→Prop):Prop:=
 match o.op with
 | .convert src dst x=>(match DC P src dst with
  | true=>(match dO ρ x with
   | .v (.string s)=>K (.lst 1 (s.data.toList.map dW)) n H
   | _=>False)
  | false=>aQ P H H o ρ fun a=>K a n H)
 | .alloc elem=>(match (P.info? elem).bind (·.zero)with
  | some z=>bif all1 (z.cells.toList.map .v)then spine (z.cells.toList.map .v) fun cs=>K (.ptr n 0) (n+1) ((n, .var elem cs)::H)else False
  | none=>False)
 | .box elem x=>bif all1 (cellsOf (dO ρ x))then FB (cellsOf (dO ρ x)) fun cs=>K (.ptr n 0) (n+1) ((n, .var elem cs)::H)else False
 | .buildSlice t m parts=>FB (parts.toList.map fun p=>dO ρ p.2) fun vs=>o7 P t m ((parts.toList.map (·.1)).zip vs) n H fun a n' H'=>spine H' fun jI=>K a n' jI
 | .store t a x=>af (dO ρ x) fun x=>Jc P H t (dO ρ a) x fun H'=>spine H' fun jI=>K (.v undef) n jI
 | .makeSlice t l c=>af (dO ρ l) fun l=>af (dO ρ c) fun c=>qX P t l c n H K
 | .makeMap t r=>(match r with
  | none=>(match ad2 P t with
   | true=>K (.mp n) (n+1) ((n, .qV fun _=>none)::H)
   | false=>K (.mp n) (n+1) ((n, .map fun _=>none)::H))
  | some _=>False)
 | .mapUpdate t m k x=>af (dO ρ m) fun m=>af (dO ρ k) fun k=>af (dO ρ x) fun x=>og P H t m k x fun H'=>spine H' fun jI=>K (.v undef) n jI
 | .insert t m k x=>af (dO ρ m) fun m=>af (dO ρ k) fun k=>af (dO ρ x) fun x=>og P H t m k x fun H'=>spine H' fun jI=>K (.v undef) n jI
 | .call c=>(match c.callee with
  | .builtin .append=>FB (c.args.toList.map (dO ρ)) fun args=>Dz P c.argTypes.toList args n H fun a n' H'=>spine H' fun jI=>K a n' jI
  | .builtin .copy=>FB (c.args.toList.map (dO ρ)) fun args=>PU P c.argTypes.toList args n H fun a n' H'=>spine H' fun jI=>K a n' jI
  | .value f=>(match dO ρ f with
   | .v (.func (.func g) first captured)=>FB (c.args.toList.map (dO ρ)) fun args=>qM P G g ((first.toList.map Io++args)++captured.toList.map Io) n H K
   | .fn (.func g) first captured=>FB (c.args.toList.map (dO ρ)) fun args=>qM P G g ((first++args)++captured) n H K
   | _=>False)
  | _=>aQ P H H o ρ fun a=>K a n H)
 | _=>aQ P H H o ρ fun a=>K a n H
def lU (n:Nat)(σ:Nat→Loc)(F:Nat→Prop)(w:World)(H:ak):Prop:= ∀aT blk,look H aT=some blk→kP n σ F w (σ aT) blk
structure jX (σ:Nat→Loc)(F:Nat→Prop)(H:ak)(w u:World):Prop where
 f : ∀b,F b→u.heap[b]? = w.heap[b]?
 h : ∀aT blk g,look H aT=some blk→blk.own=true→iL w (σ aT) blk g→u.heap[g]? = w.heap[g]?
theorem jX.refl (σ:Nat→Loc)(F:Nat→Prop)(H:ak)(w:World):jX σ F H w w:=⟨fun _ _=>rfl,fun _ _ _ _ _ _=>rfl⟩
theorem dP {q:Bool}{u:World}{K:Value→World→Prop}{v:Value}(h:K v u):wr q u K v u:=by
 cases q with
 | false=>exact h
 | true=>exact⟨rfl,h⟩
theorem aZ.dH {n:Nat}{σ:Nat→Loc}{F:Nat→Prop}{w:World}{x v:Value}(h:aZ n σ F w (.v x) v):v=x:=by cases h;rfl
theorem jQ {n:Nat}{σ:Nat→Loc}{F:Nat→Prop}{w:World}(v:Value):aZ n σ F w (Io v) v:=by
 have key : ∀(cs:List Value),bJ n σ F w (cs.map .v) cs:=fun cs=> .of (by simp) fun j a v h1 h2=>by
  rw [List.getElem?_map,h2]at h1
  simp only [Option.map_some,Option.some.injEq]at h1
  rw [←h1];exact .v _
 cases v with
 | agg cs=>have:=(key cs.toList).agg;rw [Array.toArray_toList]at this;exact this
 | tuple cs=>have:=(key cs.toList).bH;rw [Array.toArray_toList]at this;exact this
 | _=>exact .v _
def Ans (n:Nat)(σ:Nat→Loc)(F:Nat→Prop)(w:World)(K:AV→Prop)(S:World→Prop)(X:World→Bool→(Value→World→Prop)→Prop):Prop:=
 ∃a v,K a∧aZ n σ F w a v∧∀u q (Kv:Value→World→Prop),S u→Kv v u→X u q Kv
section
variable {P:Program}{n:Nat}{σ:Nat→Loc}{F:Nat→Prop}{w:World}{H:ak}{cZ:aJ}{ρ:aU}{K:AV→Prop}{S:World→Prop}
theorem bG (hr : ∀s,aZ n σ F w (cZ s) (ρ s))(x:Operand):aZ n σ F w (dO cZ x) (gu ρ x):=by
 cases x with
 | tmp t=>exact hr t
 | const v=>exact jQ v
 | global g=>exact .v _
 | func f=>exact .v _
theorem lH (hr : ∀s,aZ n σ F w (cZ s) (ρ s))(xs:List Operand):bJ n σ F w (xs.map (dO cZ)) (xs.map (gu ρ)):=by
 induction xs with
 | nil=>trivial
 | cons x r ih=>exact⟨bG hr x,ih⟩
theorem Cb (hr : ∀s,aZ n σ F w (cZ s) (ρ s))(xs:List (Nat×Operand)):bJ n σ F w (xs.map fun p=>dO cZ p.2) (xs.map fun p=>gu ρ p.2):=by
 induction xs with
 | nil=>trivial
 | cons x r ih=>exact⟨bG hr x.2,ih⟩
theorem qY {op:BinOp}{k:IntKind}{a b:Int}(h:PI op k a b K):Ans n σ F w K S fun u _ Kv=>Iu op k a b u Kv:=by
 cases op<;>simp only [PI]at h
 case add=>exact⟨_,_,h.ex, .v _,fun u q Kv _ hk=>hk⟩
 case sub=>exact⟨_,_,h.ex, .v _,fun u q Kv _ hk=>hk⟩
 case mul=>exact⟨_,_,h.ex, .v _,fun u q Kv _ hk=>hk⟩
 case quo=>exact⟨_,_,h.go.ex, .v _,fun u q Kv _ hk=>⟨h.req,hk⟩⟩
 case rem=>exact⟨_,_,h.go, .v _,fun u q Kv _ hk=>⟨h.req,hk⟩⟩
 case shl=>exact⟨_,_,h.go.ex, .v _,fun u q Kv _ hk=>⟨h.req,hk⟩⟩
 case shr=>exact⟨_,_,h.go, .v _,fun u q Kv _ hk=>⟨h.req,hk⟩⟩
 all_goals exact⟨_,_,h, .v _,fun u q Kv _ hk=>hk⟩
theorem Je {op:BinOp}{a b:ByteArray}(h:Zc op a b K):Ans n σ F w K S fun u _ Kv=>Uo op a b u Kv:=by
 cases op<;>simp only [Zc]at h
 case add=>exact⟨_,_,h.go, .v _,fun u q Kv _ hk=>⟨h.req,hk⟩⟩
 all_goals first | exact h.elim | exact⟨_,_,h, .v _,fun u q Kv _ hk=>hk⟩
theorem zh : ∀ {xs:List AV} {us vs:List Value},valsOf xs=some us→bJ n σ F w xs vs→vs=us:=by
 intro xs
 induction xs with
 | nil=>intro us vs h r;cases vs with
  | nil=>simp only [valsOf,Option.some.injEq]at h;exact h
  | cons _ _=>exact r.elim
 | cons x xs ih=>intro us vs h r;cases vs with
  | nil=>exact r.elim
  | cons v vs=>
   cases x<;>simp only [valsOf]at h<;>try cases h
   split at h
   ·rename_i l hl
    injection h with h
    rw [←h,ih hl r.2,r.1.dH]
   ·cases h
theorem PV {P:Program}{w:World}{K:Value→World→Prop}{k:IntKind}{n:Int}(c:K (.int k (bn .xor k (bif k.signed then -1 else k.max) n)) w):bQ P (Op.unary .xor (.int k n)) w K:=by
 have e:(bif k.signed then(-1:Int)else k.max)=if k.signed then -1 else k.max:=by cases k.signed<;>rfl
 rw [e]at c
 refine dZ ?_ c
 simp [Op.unary,Op.intBits,bn]
theorem NC {op:UnOp}{a:AV}{va:Value}(h:aUn op a K)(ra:aZ n σ F w a va):Ans n σ F w K S fun u q Kv=>vUn P q op va u Kv:=by
 unfold aUn at h
 split at h
 ·rw [ra.dH];exact⟨_,_,h, .v _,fun u q Kv _ hv=>hv⟩
 ·rw [ra.dH];exact⟨_,_,h.ex, .v _,fun u q Kv _ hv=>hv⟩
 ·rename_i k n
  rw [ra.dH];exact⟨_,_,h, .v _,fun u q Kv _ hv=>PV (dP hv)⟩
 ·exact h.elim
theorem bJ.UJ {as:List AV}{vs:List Value}{o:Nat}{a:AV}(r:bJ n σ F w as vs)(h:as[o]? = some a) : ∃v,vs[o]? = some v∧aZ n σ F w a v:=by
 have hl:=r.len
 have ho:=(List.getElem?_eq_some_iff.1 h).1
 exact⟨vs[o],List.getElem?_eq_getElem (by omega),r.at o a _ h (List.getElem?_eq_getElem (by omega))⟩
theorem DF {t:TypeId}{cs:List AV}{f:Nat}{vs:List Value}(h:IY P t cs f K)(r:bJ n σ F w cs vs):Ans n σ F w K S fun u _ Kv=>uP P t vs.toArray f u Kv:=by
 unfold IY at h
 split at h
 ·rename_i fs hu
  split at h
  ·rename_i fd hf
   split at h
   ·rename_i i ha hi
    cases hb:Nat.ble (fd.offset+i.size) cs.length with
    | false=>rw [hb]at h;exact h.elim
    | true=>
     rw [hb,cond_true,jo]at h
     exact⟨_,_,h,((r.drop fd.offset).take i.size).agg,fun u q Kv _ hv=>by simp only [uP,hu,hf,ha,hi,cu];exact hv⟩
   ·rename_i i ha hi
    split at h
    ·rename_i a hg
     rw [iH]at h
     obtain⟨v,h1,h2⟩:=r.UJ hg
     exact⟨_,v,h,h2,fun u q Kv _ hv=>by simp only [uP,hu,hf,ha,hi,h1];exact hv⟩
    ·exact h.elim
   ·exact h.elim
  ·exact h.elim
 ·exact h.elim
theorem qZ {t:TypeId}{f d:Nat}(h:Zg P t f=some d)(a:Addr)(u:World)(Kv:Value→World→Prop)(k:Kv (.pointer (some (a.add d))) u):kZ P t a f u Kv:=by
 unfold Zg at h
 split at h
 ·rename_i fs hu
  split at h
  ·rename_i fd hf
   split at h
   ·rename_i i hi
    cases hz:Nat.beq i.size 0 with
    | true=>rw [hz]at h;cases h
    | false=>
     rw [hz,cond_false]at h
     injection h with h
     subst h
     simp only [kZ,hu,hf,hi,hz,cond_false];exact k
   ·cases h
  ·cases h
 ·cases h
theorem Cc {a:AV}{v:Value}(r:aZ n σ F w a v)(hne:a≠ .top):bJ n σ F w (cellsOf a) v.cells.toList:=by
 cases r with
 | agg xs us hx rx=>exact .of (by simpa [Value.cells,cellsOf]using hx) (by simpa [Value.cells,cellsOf]using rx)
 | v _=>
  cases v with
  | agg cs=>
   refine .of (by simp [Value.cells,cellsOf]) fun j a v h1 h2=> ?_
   simp only [Value.cells]at h2
   simp only [cellsOf,List.getElem?_map]at h1
   rw [h2]at h1
   simp only [Option.map_some,Option.some.injEq]at h1
   rw [←h1];exact .v _
  | _=>exact⟨.v _,trivial⟩
 | top x=>exact(hne rfl).elim
 | lst h=>
  obtain⟨oa,m,c,rfl⟩ : ∃oa m c,v = .slice oa m c:=by cases h;exact⟨_,_,_,rfl⟩
  exact⟨.lst h,trivial⟩
 | fp h=>
  obtain⟨p,rfl⟩ : ∃p,v = .pointer p:=by cases h;exact⟨_,rfl⟩
  exact⟨.fp h,trivial⟩
 | fm h=>
  obtain⟨p,rfl⟩ : ∃p,v = .map p:=by cases h;exact⟨_,rfl⟩
  exact⟨.fm h,trivial⟩
 | ptr l o b hl hb=>exact⟨.ptr l o b hl hb,trivial⟩
 | ep l i o b hl hb=>exact⟨.ep l i o b hl hb,trivial⟩
 | own l hl=>exact⟨.own l hl,trivial⟩
 | je l oa hl hn hc=>exact⟨.je l oa hl hn hc,trivial⟩
 | sub l o k oa c hl hk hc hnil ho=>exact⟨.sub l o k oa c hl hk hc hnil ho,trivial⟩
 | mp l b hl hb=>exact⟨.mp l b hl hb,trivial⟩
 | fn f xs ys us vs hx hy rx ry=>exact⟨.fn f xs ys us vs hx hy rx ry,trivial⟩
 | bH xs us hx rx=>exact⟨.bH xs us hx rx,trivial⟩
theorem FH : ∀ {vs:List AV} {us:List Value} {as:List AV} {bs:List Value} {off:Nat},bJ n σ F w vs us→bJ n σ F w as bs→bJ n σ F w (vG as off vs) (kE bs off us):=by
 intro vs
 induction vs with
 | nil=>intro us as bs off h k;cases us with
  | nil=>exact k
  | cons _ _=>exact h.elim
 | cons v vs ih=>intro us as bs off h k;cases us with
  | nil=>exact h.elim
  | cons u us=>exact ih h.2 (k.set off h.1)
theorem vH (l:List Value):bJ n σ F w (l.map .v) l:= .of (by simp) fun j a v h1 h2=>by
 rw [List.getElem?_map,h2]at h1
 simp only [Option.map_some,Option.some.injEq]at h1
 rw [←h1];exact .v _
theorem Ce (place:Nat→Option (Nat×Nat)) : ∀ {ks:List Nat} {ps:List AV} {us:List Value} {cells:List AV} {bs:List Value} {l:List AV},bJ n σ F w ps us→bJ n σ F w cells bs→
  y8 place cells (ks.zip ps)=some l→∃m,oJ place bs (ks.zip us)=some m∧bJ n σ F w l m:=by
 intro ks
 induction ks with
 | nil=>intro ps us cells bs l _ hc h;simp only [List.zip_nil_left,y8,Option.some.injEq]at h;subst h;exact⟨bs,rfl,hc⟩
 | cons k ks ih=>
  intro ps us cells bs l hp hc h
  cases ps with
  | nil=>cases us with
   | nil=>simp only [List.zip_nil_right,y8,Option.some.injEq]at h;subst h;exact⟨bs,rfl,hc⟩
   | cons _ _=>exact hp.elim
  | cons p ps=>cases us with
   | nil=>exact hp.elim
   | cons u us=>
    simp only [List.zip_cons_cons,y8]at h
    split at h
    ·cases h
    ·rename_i off size hpl
     cases hb:(IZ p&&Nat.beq (cellsOf p).length size&&Nat.ble (off+(cellsOf p).length) cells.length)with
     | false=>rw [hb]at h;cases h
     | true=>
      rw [hb,cond_true]at h
      simp only [Bool.and_eq_true]at hb
      have hcr:=Cc hp.1 (fun e=>by rw [e]at hb;simp [IZ]at hb)
      obtain⟨m,h1,h2⟩:=ih hp.2 (FH hcr hc) h
      refine⟨m, ?_,h2⟩
      simp only [List.zip_cons_cons,oJ,hpl]
      rw [hcr.len,hc.len,hb.1.2,hb.2,Bool.and_self,cond_true]
      exact h1
theorem DI {t:TypeId}{ks:List Nat}{as:List AV}{vs:List Value}(h:I4 P t (ks.zip as) K)(r:bJ n σ F w as vs):Ans n σ F w K S fun u _ Kv=>uQ P t (ks.zip vs) u Kv:=by
 unfold I4 at h
 split at h
 ·rename_i z fs hz hu
  split at h
  ·rename_i pl hpl
   split at h
   ·rename_i l hl
    rw [jo]at h
    obtain⟨m,h1,h2⟩:=Ce _ r (vH z.cells.toList) hl
    exact⟨_,_,h,h2.agg,fun u q Kv _ hv=>by simp only [uQ,hz,hu,hpl,h1,cu];exact hv⟩
   ·exact h.elim
  ·exact h.elim
 ·rename_i z m e hz hu
  split at h
  ·rename_i i hi
   split at h
   ·rename_i l hl
    rw [jo]at h
    obtain⟨m,h1,h2⟩:=Ce _ r (vH z.cells.toList) hl
    exact⟨_,_,h,h2.agg,fun u q Kv _ hv=>by simp only [uQ,hz,hu,hi,h1,cu];exact hv⟩
   ·exact h.elim
  ·exact h.elim
 ·exact h.elim
theorem jY {t:TypeId}{cs:List AV}{vs:List Value}{b base o:Nat}(h:y9 P t cs o K)(r:bJ n σ F w cs vs)(hc : ∀u,S u→∀j v,vs[j]? = some v→u.cell? ⟨b,base+j,none⟩=some v) :
  Ans n σ F w K S fun u q Kv=>bQ P (loadVar t ⟨b,base+o,none⟩) u (wr q u Kv):=by
 unfold y9 at h
 split at h
 ·rename_i k ha hs
  split at h
  ·rename_i a hg
   rw [iH]at h
   obtain⟨v,h1,h2⟩:=r.UJ hg
   exact⟨_,v,h,h2,fun u q Kv hu hv=>eP ha (hc u hu o v h1) (dP hv)⟩
  ·exact h.elim
 ·rename_i k ha hs
  cases hb:Nat.ble (o+k) cs.length with
  | false=>rw [hb]at h;exact h.elim
  | true=>
   rw [hb,cond_true,jo]at h
   have hl:=r.len
   have hle:=Nat.le_of_ble_eq_true hb
   have hlen:((vs.drop o).take k).length=k:=by simp;omega
   refine⟨_,_,h,((r.drop o).take k).agg,fun u q Kv hu hv=>Po ha (by rw [hlen];exact hs) (fun j v hj=> ?_) (dP hv)⟩
   rw [add0,Nat.add_assoc]
   refine hc u hu (o+j) v ?_
   rw [List.getElem?_take]at hj
   split at hj
   ·simpa using hj
   ·cases hj
 ·exact h.elim
theorem zi {u:World}{b base:Nat} : ∀(m:Nat),(∀j,j<m→∃v,u.cell? ⟨b,base+j,none⟩=some v∧v.oneCell'=true)→∃vs:List Value,vs.length=m∧∀j v,vs[j]? = some v→u.cell? ⟨b,base+j,none⟩=some v∧v.oneCell'=true:=by
 intro m
 induction m with
 | zero=>intro _;exact⟨[],rfl,fun j v h=>by simp at h⟩
 | succ m ih=>
  intro h
  obtain⟨vs,h1,h2⟩:=ih fun j hj=>h j (by omega)
  obtain⟨v,h3⟩:=h m (by omega)
  refine⟨vs++ [v],by simp [h1],fun j x hj=> ?_⟩
  by_cases hjm:j<vs.length
  ·rw [List.getElem?_append_left hjm]at hj;exact h2 j x hj
  ·rw [List.getElem?_append_right (by omega)]at hj
   have hj0:j-vs.length=0:=by
    have:=(List.getElem?_eq_some_iff.1 hj).1
    simp at this;omega
   rw [hj0]at hj
   simp only [List.getElem?_cons_zero,Option.some.injEq]at hj
   have:j=m:=by omega
   rw [this, ←hj];exact h3
theorem FI {cs:List FV}{o:Nat}{x:Value}(h:dV F w (.fp cs o) x) : ∃b off vs,x = .pointer (some ⟨b,off+o,none⟩)∧F b∧bJ n σ F w (cs.map FV.up) vs∧(∀v∈vs,v.oneCell'=true)∧∀j v,vs[j]? = some v→w.cell? ⟨b,off+j,none⟩=some v:=by
 cases h with
 | fp _ _ b off hb hex hrep=>
  obtain⟨vs,h1,h2⟩:=zi cs.length hex
  refine⟨b,off,vs,rfl,hb, .of (by simp [h1]) fun j a v ha hv=> ?_,fun v hv=> ?_,fun j v hj=>(h2 j v hj).1⟩
  ·rw [List.getElem?_map]at ha
   cases hc:cs[j]? with
   | none=>rw [hc]at ha;cases ha
   | some c=>
    rw [hc]at ha
    simp only [Option.map_some,Option.some.injEq]at ha
    rw [←ha]
    exact(hrep j c v hc (h2 j v hv).1).up
  ·obtain⟨j,hj⟩:=List.mem_iff_getElem?.1 hv
   exact(h2 j v hj).2
theorem rC {L:Loc}{H:ak}{aT:Nat}{t sz:Nat}{l:List (List FV)}{i:Nat}{row:List FV}(hL:L=σ aT)(hk:look H aT=some (.rows t sz l))(hH:lU n σ F w H)(hi:l[i]? = some row) :
  ∃g vs,L.b=some g∧bJ n σ F w (row.map FV.up) vs∧∀j v,vs[j]? = some v→w.cell? ⟨g,i*sz+j,none⟩=some v:=by
 subst hL
 obtain⟨h1,h2,xs,hO,hR⟩:=hH _ _ hk
 have hil:=(List.getElem?_eq_some_iff.1 hi).1
 obtain⟨g,cur,hg,_,hB,hle,_,hcl,htk⟩:=hO.blk (by omega)
 have hb:(σ aT).b=some g:=by
  unfold Loc.oa at hg
  cases hx:(σ aT).b with
  | none=>rw [hx]at hg;cases hg
  | some g'=>rw [hx]at hg;simp at hg;rw [hg]
 have hrl:row.length=sz:=hR.1 row (List.mem_of_getElem? hi)
 have hi1:i*sz+sz≤l.length*sz:=by
  have:(i+1)*sz≤l.length*sz:=Nat.mul_le_mul_right _ hil
  rw [Nat.add_mul,Nat.one_mul]at this;exact this
 refine⟨g,(xs.drop (i*sz)).take sz,hb, .of ?_ fun j a v ha hv=> ?_,fun j v hv=> ?_⟩
 ·have:=hR.2.1
  simp [hrl];omega
 ·rw [List.getElem?_map]at ha
  cases hc:row[j]? with
  | none=>rw [hc]at ha;cases ha
  | some c=>
   rw [hc]at ha
   simp only [Option.map_some,Option.some.injEq]at ha
   rw [←ha]
   rw [List.getElem?_take]at hv
   split at hv
   ·exact(hR.2.2.2 i j row c v hi hc (by simpa using hv)).up
   ·cases hv
 ·rw [List.getElem?_take]at hv
  split at hv
  ·rw [List.getElem?_drop]at hv
   rw [hB.cell]
   have hlt:=(List.getElem?_eq_some_iff.1 hv).1
   rw [←htk]at hv
   rw [List.getElem?_take]at hv
   split at hv
   ·exact hv
   ·cases hv
  ·cases hv
theorem pY {sz:Nat}{l:List (List FV)}{oa:Option Addr}{m c i:Nat}{row:List FV}(h:dV F w (.lst sz l) (.slice oa m c))(hi:l[i]? = some row) :
  ∃b o vs,oa=some ⟨b,o,none⟩∧F b∧m=l.length∧bJ n σ F w (row.map FV.up) vs∧dV F w (.fp row 0) (.pointer (some ⟨b,o+i*sz,none⟩))∧∀j v,vs[j]? = some v→w.cell? ⟨b,o+i*sz+j,none⟩=some v:=by
 cases h with
 | lst _ _ _ _ _ b o hn hc hnil ho hsz hex hrep=>
  have hil:=(List.getElem?_eq_some_iff.1 hi).1
  obtain⟨e,hF⟩:=ho (by omega)
  have hrl:=hsz row (List.mem_of_getElem? hi)
  have hfp:dV F w (.fp row 0) (.pointer (some ⟨b,o+i*sz,none⟩)):= .fp row 0 b (o+i*sz) hF (fun j hj=>by rw [Nat.add_assoc];exact hex i j (by omega) (by omega)) (fun j a v h1 h2=>hrep i j row a v hi h1 (by rw [Nat.add_assoc]at h2;exact h2))
  obtain⟨b',off,vs,e1,_,r,_,hcl⟩:=FI (n:=n) (σ:=σ) hfp
  injection e1 with e1;injection e1 with e1;injection e1 with e1 e2
  subst e1
  have e2:o+i*sz=off:=e2
  subst e2
  exact⟨b,o,vs,e,hF,hn,r,hfp,hcl⟩
theorem jX.cell {u:World}{b:Nat}(h:jX σ F H w u)(hb:F b)(o:Nat):u.cell? ⟨b,o,none⟩=w.cell? ⟨b,o,none⟩:=iZ (h.f b hb) o
theorem jX.Ci {u:World}{g aT:Nat}{blk:dU}(h:jX σ F H w u)(hk:look H aT=some blk)(ho:blk.own=true)(hg:(σ aT).b=some g)(o:Nat):u.cell? ⟨g,o,none⟩=w.cell? ⟨g,o,none⟩:=iZ (h.h aT blk g hk ho (.inl hg)) o
theorem wW {t:TypeId}{a:AV}{va:Value}(h:KH P H t a K)(ra:aZ n σ F w a va)(hH:lU n σ F w H) : ∃p,va = .pointer (some p)∧Ans n σ F w K (jX σ F H w) fun u q Kv=>bQ P (loadVar t p) u (wr q u Kv):=by
 unfold KH at h
 split at h
 ·rename_i l o
  cases ra with
  | ptr _ _ b hl hb=>
   refine⟨_,rfl, ?_⟩
   split at h
   ·rename_i T cs hk
    obtain⟨g,vs,h1,h2,h3,_⟩:=hH _ _ hk
    rw [hb]at h1
    injection h1 with h1
    subst h1
    have:=jY (S:=jX σ F H w) (b:=b) (base:=0) h h3 fun u hu j v hj=>by rw [hu.Ci hk rfl hb,h2.cell,Nat.zero_add];exact hj
    simpa only [Nat.zero_add]using this
   ·exact h.elim
 ·rename_i l i o
  cases ra with
  | ep _ _ _ b hl hb=>
   refine⟨_,rfl, ?_⟩
   split at h
   ·rename_i T sz m hk
    obtain⟨row,hrow,h⟩:=h.ex
    obtain⟨g,vs,h1,h2,h3⟩:=rC rfl hk hH hrow
    rw [hb]at h1
    injection h1 with h1
    subst h1
    have e:(σ l).sz=sz:=(hH _ _ hk).1
    rw [e]
    exact jY (S:=jX σ F H w) h h2 fun u hu j v hj=>by rw [hu.Ci hk rfl hb];exact h3 j v hj
   ·rename_i sz m hk
    obtain⟨row,hrow,h⟩:=h.ex
    obtain⟨e,e2,hf,h0⟩:=hH _ _ hk
    obtain⟨b',o',vs,e3,hF,_,r,_,hcl⟩:=pY (n:=n) (σ:=σ) hf hrow
    have ho:=h0 _ _ e3
    subst ho
    have eb:b'=b:=by
     unfold Loc.oa at e3
     rw [hb]at e3
     simp at e3
     exact e3.symm
    subst eb
    rw [e]
    simp only [Nat.zero_add]at hcl
    exact jY (S:=jX σ F H w) h r fun u hu j v hj=>by rw [hu.cell hF];exact hcl j v hj
   ·rename_i T sz m hh hk
    obtain⟨q1,q2,xs,q3,q4,q5,q6⟩:=hH _ _ hk
    rw [q1]
    split at h
    ·rename_i k ha hs
     by_cases he : ∃e,hh=some (i,o,e)
     ·obtain⟨e,he⟩:=he
      obtain⟨a1,a2,a3,⟨row,a4,a5⟩,v,a6,a7⟩:=q6 i o e he
      obtain⟨b',hb',hc⟩:=nG q3 a4 (q4.1 row (List.mem_of_getElem? a4)) a5 q4.2.1 a6
      rw [hb]at hb'
      injection hb' with hb'
      subst hb'
      exact⟨_,v,h.hole e he,a7,fun u q Kv hu hv=>eP ha (by rw [hu.Ci hk rfl hb];exact hc) (dP hv)⟩
     ·obtain⟨row,hrow,h⟩:=(h.other fun e he'=>he ⟨e,he'⟩).ex
      have hil:=(List.getElem?_eq_some_iff.1 hrow).1
      have hrl:=q4.1 row (List.mem_of_getElem? hrow)
      have hi1:i*sz+sz≤m.length*sz:=by
       have:(i+1)*sz≤m.length*sz:=Nat.mul_le_mul_right _ hil
       rw [Nat.add_mul,Nat.one_mul]at this;exact this
      have hr:bJ n σ F w (row.map TV.up) ((xs.drop (i*sz)).take sz):= .of (by have:=q4.2.1;simp [hrl];omega) fun j a v h1 h2=>by
       rw [List.getElem?_map]at h1
       rw [List.getElem?_take]at h2
       split at h2
       ·rw [List.getElem?_drop]at h2
        cases hc:row[j]? with
        | none=>rw [hc]at h1;cases h1
        | some c=>
         rw [hc]at h1
         simp only [Option.map_some,Option.some.injEq]at h1
         rw [←h1]
         have:=q4.2.2.2 i j row c v hrow hc h2
         cases c with
         | f x=>exact dV.up this
         | n _ _ _=>exact .top v
       ·cases h2
      refine jY (S:=jX σ F H w) h hr fun u hu j v' hj=> ?_
      rw [hu.Ci hk rfl hb]
      rw [List.getElem?_take]at hj
      split at hj
      ·rename_i hjs
       rw [List.getElem?_drop]at hj
       obtain⟨b'',UK,hc'⟩:=nG (a:=row[j]'(by omega)) q3 hrow hrl (List.getElem?_eq_getElem _) q4.2.1 hj
       rw [hb]at UK
       injection UK with UK
       rw [UK];exact hc'
      ·cases hj
    ·exact h.elim
   ·exact h.elim
 ·rename_i cs o
  cases ra with
  | fp hf=>
   obtain⟨b,off,vs,rfl,hF,r,_,hcl⟩:=FI (n:=n) (σ:=σ) hf
   exact⟨_,rfl,jY (S:=jX σ F H w) h r fun u hu j v hj=>by rw [hu.cell hF];exact hcl j v hj⟩
 ·exact h.elim
theorem ND {s:AV}{v:Value}{sz:Nat}{l:List (List FV)}(h:rowsOf H s=some (sz,l))(r:aZ n σ F w s v)(hH:lU n σ F w H) :
  ∃oa m c,v = .slice oa m c∧m=l.length∧∀i row,l[i]? = some row→∃b o vs,oa=some ⟨b,o,none⟩∧bJ n σ F w (row.map FV.up) vs∧∀u,jX σ F H w u→∀j v,vs[j]? = some v→u.cell? ⟨b,o+i*sz+j,none⟩=some v:=by
 have ofl : ∀ {oa:Option Addr} {m c:Nat} {l:List (List FV)},dV F w (.lst sz l) (.slice oa m c)→∀i row,l[i]? = some row→∃b o vs,oa=some ⟨b,o,none⟩∧bJ n σ F w (row.map FV.up) vs∧∀u,jX σ F H w u→∀j v,vs[j]? = some v→u.cell? ⟨b,o+i*sz+j,none⟩=some v:=by
  intro oa m c l hf i row hi
  obtain⟨b,o,vs,e,hF,_,hr,_,hc⟩:=pY (n:=n) (σ:=σ) hf hi
  exact⟨b,o,vs,e,hr,fun u hu j v hj=>by rw [hu.cell hF];exact hc j v hj⟩
 unfold rowsOf at h
 split at h
 ·simp only [Option.some.injEq,Prod.mk.injEq]at h
  obtain⟨rfl,rfl⟩:=h
  cases r with
  | lst hf=>
   obtain⟨oa,m,c,rfl⟩ : ∃oa m c,v = .slice oa m c:=by cases hf;exact⟨_,_,_,rfl⟩
   exact⟨oa,m,c,rfl,by cases hf;assumption,ofl hf⟩
 ·split at h
  ·rename_i l' T sz' m hk
   simp only [Option.some.injEq,Prod.mk.injEq]at h
   obtain⟨rfl,rfl⟩:=h
   have hq:=hH _ _ hk
   cases r with
   | je _ oa hl hn hc=>
    have:m = []:=List.eq_nil_of_length_eq_zero (by rw [←hq.2.1,hn])
    subst this
    exact⟨_,_,_,rfl,rfl,fun i row hi=>by simp at hi⟩
   | own _ hl=>
    refine⟨_,_,_,rfl,hq.2.1,fun i row hi=> ?_⟩
    obtain⟨g,vs,e,hr,hc⟩:=rC rfl hk hH hi
    exact⟨g,0,vs,by unfold Loc.oa;rw [e];rfl,hr,fun u hu j v hj=>by rw [hu.Ci hk rfl e,Nat.zero_add];exact hc j v hj⟩
  ·rename_i l' sz' m hk
   simp only [Option.some.injEq,Prod.mk.injEq]at h
   obtain⟨rfl,rfl⟩:=h
   have hq:=hH _ _ hk
   cases r with
   | je _ oa hl hn hc=>
    have:m = []:=List.eq_nil_of_length_eq_zero (by rw [←hq.2.1,hn])
    subst this
    exact⟨_,_,_,rfl,rfl,fun i row hi=>by simp at hi⟩
   | own _ hl=>exact⟨_,_,_,rfl,hq.2.1,ofl hq.2.2.1⟩
  ·cases h
 ·split at h
  ·rename_i l' o k _ T sz' m hk
   simp only [Option.some.injEq,Prod.mk.injEq]at h
   obtain⟨rfl,rfl⟩:=h
   have hq:=hH _ _ hk
   cases r with
   | sub _ _ _ oa c hl hkk hc hnil ho=>
    rw [hq.2.1]at hkk
    refine⟨_,_,_,rfl,by rw [List.length_take,List.length_drop];omega,fun i row hi=> ?_⟩
    have hil:=(List.getElem?_eq_some_iff.1 hi).1
    rw [List.length_take]at hil
    obtain⟨b,e1,e2⟩:=ho (by omega)
    rw [List.getElem?_take,if_pos (by omega),List.getElem?_drop]at hi
    obtain⟨g,vs,e,hr,hcl⟩:=rC rfl hk hH hi
    rw [e]at e1
    injection e1 with e1
    subst e1
    refine⟨g,o*sz',vs,by rw [e2,hq.1],hr,fun u hu j v hj=> ?_⟩
    rw [hu.Ci hk rfl e, ←Nat.add_mul];exact hcl j v hj
  ·rename_i l' o k _ sz' m hk
   simp only [Option.some.injEq,Prod.mk.injEq]at h
   obtain⟨rfl,rfl⟩:=h
   have hq:=hH _ _ hk
   cases r with
   | sub _ _ _ oa c hl hkk hc hnil ho=>
    rw [hq.2.1]at hkk
    refine⟨_,_,_,rfl,by rw [List.length_take,List.length_drop];omega,fun i row hi=> ?_⟩
    have hil:=(List.getElem?_eq_some_iff.1 hi).1
    rw [List.length_take]at hil
    obtain⟨b,e1,e2⟩:=ho (by omega)
    rw [List.getElem?_take,if_pos (by omega),List.getElem?_drop]at hi
    obtain⟨b',o',vs,e,hr,hcl⟩:=ofl hq.2.2.1 _ _ hi
    have h0:=hq.2.2.2 _ _ e
    subst h0
    unfold Loc.oa at e
    rw [e1]at e
    simp only [Option.map_some,Option.some.injEq,Addr.mk.injEq]at e
    obtain⟨rfl,_⟩:=e
    refine⟨b,o*sz',vs,by rw [e2,hq.1],hr,fun u hu j v hj=> ?_⟩
    have:=hcl u hu j v hj
    rw [Nat.zero_add,Nat.add_mul]at this;exact this
  ·cases h
 ·cases h
theorem FK {Hr:ak}{src dst:TypeId}{a:AV}{va:Value}(h:PL P Hr src dst a K)(ra:aZ n σ F w a va)(UL:lU n σ F w Hr)(hS : ∀u,S u→jX σ F Hr w u):Ans n σ F w K S fun u q Kv=>qK P q src dst va u Kv:=by
 unfold PL at h
 split at h
 ·rename_i h1 h2
  rw [ra.dH];exact⟨_,_,h.ex, .v _,fun u q Kv _ hv=>by simp only [qK,h1,h2];exact hv⟩
 ·rename_i h1 h2
  rw [ra.dH];exact⟨_,_,h, .v _,fun u q Kv _ hv=>by simp only [qK,h1,h2];exact hv⟩
 ·rename_i d k n h1 h2
  rw [ra.dH]
  refine⟨_,_,h, .v _,fun u q Kv _ hv=> ?_⟩
  simp only [qK,h1,h2]
  exact dZ (run_convert_int_string u src dst k n (by rw [h1];rfl) h2) (dP hv)
 ·rename_i e a h1 h2
  split at h
  ·rename_i h3
   split at h
   ·rw [ra.dH]
    refine⟨_,_,h, .v _,fun u q Kv _ hv=> ?_⟩
    simp only [qK,h1,h2]
    exact Pq (l:= []) h1 h3 h2 rfl (.inl rfl) (dP hv)
   ·split at h
    ·rename_i sz l hl
     cases hz:Nat.beq sz 1 with
     | false=>rw [hz]at h;exact h.elim
     | true=>
     rw [hz,cond_true]at h
     have hz:=Nat.eq_of_beq_eq_true hz
     subst hz
     obtain⟨s,rfl,hk⟩:=h.ex
     obtain⟨oa,m,c,rfl,hm,hc⟩:=ND hl ra UL
     refine⟨_,_,hk, .v _,fun u q Kv hu hv=> ?_⟩
     simp only [qK,h1,h2]
     rw [List.length_map]at hm
     subst hm
     have one : ∀i x,s[i]? = some x→∃b o,oa=some ⟨b,o,none⟩∧u.cell? ⟨b,o+i*1,none⟩=some (.int .u8 (x.toNat:Int)):=by
      intro i x hi
      obtain⟨b,o,vs,e,hr,hcl⟩:=hc i (dW x) (by rw [List.getElem?_map,hi];rfl)
      obtain⟨v,rfl⟩ : ∃v,vs = [v]:=by
       have:=hr.len
       match vs,this with
       | [v],_=>exact⟨v,rfl⟩
      have hv:v = .int .u8 (x.toNat:Int):=(show aZ n σ F w (.v (.int .u8 (x.toNat:Int))) v from hr.1).dH
      subst hv
      exact⟨b,o,e,by have:=hcl u (hS u hu) 0 _ rfl;simpa using this⟩
     cases oa with
     | none=>
      have hs:s = []:=by
       cases s with
       | nil=>rfl
       | cons x r=>obtain⟨b,o,e,_⟩:=one 0 x rfl;cases e
      subst hs
      exact Pq (l:= []) h1 h3 h2 rfl (.inl rfl) (dP hv)
     | some ad=>
      refine dZ (run_convert_bytes_back (P:=P) u src dst _ ad c s h1 h3 h2 fun j hj=> ?_) (dP hv)
      obtain⟨b,o,e1,e2⟩:=one j s[j] (List.getElem?_eq_getElem hj)
      injection e1 with e1
      subst e1
      rw [add0]
      rw [Nat.mul_one]at e2
      exact e2
    ·exact h.elim
  ·exact h.elim
 ·exact h.elim
end
end Go.Proofs.YtocckceefcmeaaaGreatDoor.Ax
