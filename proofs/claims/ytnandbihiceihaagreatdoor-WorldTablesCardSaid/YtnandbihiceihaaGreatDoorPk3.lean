/- Joined parts of the proof. Cells of lists of records: a record of k cells stands at i * k; loads and stores of whole records -/
import Derived.Test.YtnandbihiceihaaGreatDoorPk2
import Derived.Laws.StructEq
import Derived.MapKept
import Derived.Carry
set_option linter.unusedVariables false
set_option linter.unusedSimpArgs false
set_option maxRecDepth 100000
set_option maxHeartbeats 16000000
namespace Go.Proofs.YtnandbihiceihaaGreatDoor.Vc
open Go.RowKit
def Seg (vs:List Value)(off:Nat)(l:List Value):Prop:= ∀j v,l[j]? = some v->vs[off+j]? = some v
def recs {α:Type}(c:α->List Value)(l:List α):List Value:=(l.map c).flatten
theorem BL {α:Type}{c:α->List Value}{k:Nat}(hk : ∀a,(c a).length=k)(l:List α):(recs c l).length=l.length*k:=by
 induction l with
 | nil=>simp [recs]
 | cons a r ih=>
  have:recs c (a::r)=c a++recs c r:=rfl
  rw [this,ay,ih,hk,bn,bK]
  omega
theorem Gp {α:Type}{c:α->List Value}{k:Nat}(hk : ∀a,(c a).length=k) : ∀(l:List α) (i:Nat) (h:i<l.length),Seg (recs c l) (i*k) (c l[i]):=by
 intro l
 induction l with
 | nil=>intro i h;simp at h
 | cons a r ih=>
  intro i h j v hj
  have e:recs c (a::r)=c a++recs c r:=rfl
  have hjk:j<k:=by
   have:=(aB.1 hj).1
   rwa [hk]at this
  cases i with
  | zero=>
   simp only [List.getElem_cons_zero]at hj
   rw [e,fU,aO,eP (by rw [hk];exact hjk)]
   exact hj
  | succ i=>
   simp only [List.getElem_cons_succ]at hj
   have:=ih i aaE j v hj
   rw [e,dS (by rw [hk,bK];omega),hk]
   rw [show (i+1)*k+j-k=i*k+j by rw [bK];omega]
   exact this
theorem Es (a:List Value) : ∀(vs:List Value) (b c:List Value),vs.length=b.length->uh (a++b++c) a.length vs=a++vs++c:=by
 intro vs
 induction vs generalizing a with
 | nil=>
  intro b c h
  have:b = []:=by simpa using h.symm
  subst this;simp [uh]
 | cons v r ih=>
  intro b c h
  cases b with
  | nil=>simp at h
  | cons x b=>
   simp only [uh]
   have e:(a++x::b++c).set a.length v=(a++ [v])++b++c:=abb
   rw [e]
   have:=ih (a++ [v]) b c aaE
   simp only [ay,bn,dP,aO]at this
   rw [this]
   simp
theorem Xb (vs l:List Value)(h:vs.length=l.length):uh l 0 vs=vs:=by
 have:=Es [] vs l [] h
 simpa using this
section
variable {P:Program}{w:World}{K:Value->World->Prop}
theorem Xc {t:TypeId}{b o off:Nat}{vs l:List Value}(hr : ∀j v,vs[j]? = some v->w.cell? ⟨b,o+j,none⟩=some v)(hg:Seg vs off l)(ha:yg P t=some true)(hs:szB P t=some l.length)
  (k:K (.agg l.toArray) w):nM P (loadVar t ⟨b,o+off,none⟩) w K:=
 Gn ha hs (fun j v hj=>by rw [add0,fF];exact hr _ _ (hg j v hj)) k
theorem Vs {t T:TypeId}{b:Nat}{l vs:List Value}{K:World->Prop}(hb:rU w b l T)(hs:szB P t=some vs.length)(h1:vs.all (·.oneCell')=true)
  (hl:vs.length=l.length) (k : ∀w',Only b w w'->rU w' b vs T->K w'):vG P (storeVar t ⟨b,0,none⟩ (.agg vs.toArray)) w K:=
 Jt hb hs h1 (jL aai) fun w' ho hb'=>k w' ho (by rwa [Xb vs l hl]at hb')
end
def At (w:World)(b o:Nat)(vs:List Value):Prop:= ∀j v,vs[j]? = some v->w.cell? ⟨b,o+j,none⟩=some v
theorem At.below {w w':World}{b o B:Nat}{vs:List Value}(h:At w b o vs)(hB:Below B w w')(hb:b<B):At w' b o vs:=fun j v hj=>by rw [hB.cell (p:=⟨b,o+j,none⟩) hb];exact h j v hj
theorem At.only {w w':World}{b o c:Nat}{vs:List Value}(h:At w b o vs)(hO:Only c w w')(hb:b≠c):At w' b o vs:=fun j v hj=>by
 have:=h j v hj
 unfold World.cell? at this ⊢
 simp only at this ⊢
 rw [hO.block b hb];exact this
theorem At.drew {w:World}{b o:Nat}{vs:List Value}(h:At w b o vs):At w.drew b o vs:=h
theorem rU.at {w:World}{b:Nat}{l:List Value}{t:TypeId}(h:rU w b l t):At w b 0 l:=fun j v hj=>by rw [aO,h.cell];exact hj
theorem Row.at {w:World}{oa:Option Addr}{vs:List Value}(h:Row w oa vs)(hne:0<vs.length) : ∃b o,oa=some ⟨b,o,none⟩∧b<w.heap.size∧At w b o vs:=h.get hne
section
variable {P:Program}{w:World}{K:Value->World->Prop}
theorem vP {t:TypeId}{b o j:Nat}{vs:List Value}{v:Value}(hr:At w b o vs)(hv:vs[j]? = some v)(ha:yg P t=some false)(k:K v w):nM P (loadVar t ⟨b,o+j,none⟩) w K:=
 oZ ha (hr j v hv) k
theorem rG {t:TypeId}{b o off j:Nat}{vs l:List Value}{v:Value}(hr:At w b o vs)(hg:Seg vs off l)(hv:l[j]? = some v)(ha:yg P t=some false)(k:K v w):nM P (loadVar t ⟨b,o+off+j,none⟩) w K:=
 oZ ha (by rw [fF];exact hr _ _ (hg j v hv)) k
theorem tN {t:TypeId}{b o off:Nat}{vs l:List Value}{v:Value}(hr:At w b o vs)(hg:Seg vs off l)(hv:l[0]? = some v)(ha:yg P t=some false)(k:K v w):nM P (loadVar t ⟨b,o+off,none⟩) w K:=
 oZ ha (hr _ _ (hg 0 v hv)) k
theorem vS {t e:TypeId}{sz b o n c:Nat}{k:IntKind}{ix:Int}(m:Nat)(hm:ix=m)(hu:P.underlying t=some (.slice e))(hs:szB P e=some sz)(h:m<n)
  (hk:K (.pointer (some ⟨b,o+m*sz,none⟩)) w):nM P (Instr.indexAt t (.slice (some ⟨b,o,none⟩) n c) (.int k ix)) w K:=NG m hu hs hm h hk
theorem uQ {t e:TypeId}{b o n c:Nat}{k:IntKind}{ix:Int}(m:Nat)(hm:ix=m)(hu:P.underlying t=some (.slice e))(hs:szB P e=some 1)(h:m<n)
  (hk:K (.pointer (some ⟨b,o+m,none⟩)) w):nM P (Instr.indexAt t (.slice (some ⟨b,o,none⟩) n c) (.int k ix)) w K:=KJ m hu hs hm h hk
end
def Ints (l:List Value)(n:Nat)(f:Nat->Int):Prop:=l.length=n∧∀j,j<n->l[j]? = some (.int .i64 (f j))
theorem Ints.set {l:List Value}{m:Nat}{f:Nat->Int}(h:Ints l m f)(n:Nat)(x:Int)(hn:n<m):Ints (l.set n (.int .i64 x)) m (fun j=>if j=n then x else f j):=by
 refine⟨by rw [bJ];exact h.1,fun j hj=> ?_⟩
 by_cases e:j=n
 ·subst e
  rw [dh (by rw [h.1];exact hj)]
  simp
 ·rw [fP (fun x=>e x.symm),h.2 j hj]
  simp only [if_neg e]
theorem Ints.congr {l:List Value}{m:Nat}{f g:Nat->Int}(h:Ints l m f)(e : ∀j,j<m->f j=g j):Ints l m g:=⟨h.1,fun j hj=>by rw [<-e j hj];exact h.2 j hj⟩
theorem Ints.one {l:List Value}{m:Nat}{f:Nat->Int}(h:Ints l m f):l.all (·.oneCell')=true:=bP.2 fun x hx=>by
 obtain⟨k,hk⟩:=cu.1 hx
 have hk2:=(aB.1 hk).1
 rw [h.2 k (by rw [h.1]at hk2;exact hk2)]at hk
 injection hk with hk
 rw [<-hk];rfl
theorem aa1 (n:Nat)(v:Value):(List.replicate n [v]).flatten=List.replicate n v:=by
 induction n with
 | zero=>rfl
 | succ n ih=>rw [fK,gZ,ih,fK];rfl
theorem aeJ {P:Program}{w:World}{K:Value->World->Prop}{src dst e:TypeId}{s:ByteArray}(hs:P.underlying src=some .string)(hd:P.underlying dst=some (.slice e))(he:P.underlying e=some (.int .u8))
  (k : ∀c w',s.data.toList.length<=c->Row w' (some ⟨w.heap.size,0,none⟩) (pI s.data.toList)->Below w.heap.size w w'->K (.slice (some ⟨w.heap.size,0,none⟩) s.data.toList.length c) w') :
  nM P (convert src dst (.string s)) w K:=by
 have hr:=run_bytes_of_string (P:=P) w src dst e s hs hd he
 have hsz:s.data.toList.length=s.size:=abb
 have hk:=k (grownCap w s.size 0 e) (w.drew.alloc (.cells (bytesRow s (grownCap w s.size 0 e)) e ((bytesRow s (grownCap w s.size 0 e)).size,(bytesRow s (grownCap w s.size 0 e)).size+1))) ?_ ?_ ?_
 ·rw [hsz]at hk
  exact oQ hr hk
 ·rw [hsz];exact grownCap_ge _ _ _ _
 ·refine .inr ⟨w.heap.size,0,rfl,by simp,fun j v hj=> ?_⟩
  have hjl:j<s.data.size:=by
   have:=(aB.1 hj).1
   simpa [pI]using this
  have hv:v = .int .u8 (s.data[j].toNat:Int):=by
   have:=xw (l:=s.data.toList) (j:=j) (by simpa using hjl)
   rw [this]at hj
   injection hj with hj
   rw [<-hj];simp
  rw [aO,hv]
  have h2:=bytesRow_at s (grownCap w s.size 0 e) j hjl
  unfold World.cell?
  rw [show (w.drew.alloc (.cells (bytesRow s (grownCap w s.size 0 e)) e ((bytesRow s (grownCap w s.size 0 e)).size,(bytesRow s (grownCap w s.size 0 e)).size+1))).heap[w.heap.size]? = some (.cells (bytesRow s (grownCap w s.size 0 e)) e ((bytesRow s (grownCap w s.size 0 e)).size,(bytesRow s (grownCap w s.size 0 e)).size+1))from heap_alloc_new w.drew _]
  simpa using h2
 ·exact Below.alloc (xu (Below.refl _ _)) (au _) _
def loS (oa:Option Addr)(lo sz c:Nat):Option Addr:=if c=lo then oa else oa.map (·.add (lo*sz))
theorem vT {P:Program}{w:World}{K:Value->World->Prop}{t E:TypeId}{n c lo sz:Nat}{oa:Option Addr}{kl:IntKind}{li:Int}(ht:P.underlying t=some (.slice E))(hs:szB P E=some sz)
  (he:li=lo) (hh:lo<=n) (k:K (.slice (loS oa lo sz c) (n-lo) (c-lo)) w):nM P (Instr.sliceAt t (.slice oa n c) (some (.int kl li)) none none) w K:=by
 refine oQ ?_ k
 subst he
 have h1:(0:Int)<=lo∧(lo:Int)<=n:=⟨by omega,by omega⟩
 unfold Instr.sliceAt
 rw [Sem.run_bind,l7 ht]
 simp only [Result.andThen_ok]
 unfold Instr.slice
 rw [Sem.run_bind,l7 ht]
 simp only [Result.andThen_ok,Instr.sliceBounds,Instr.sliceBound,asIntOf,Sem.run_bind,Sem.run_pure,if_pos h1,qx hs]
 simp [loS]
theorem xC {oa:Option Addr}{lo sz c:Nat}(h:oa=none->c=0):loS oa lo sz c=none->c-lo=0:=by
 intro e
 unfold loS at e
 split at e
 ·omega
 ·have:=h (by simpa using e)
  omega
theorem Row.lo' {w:World}{oa:Option Addr}{vs:List Value}{lo sz c:Nat}(h:Row w oa vs)(hl:vs.length<=c*sz):Row w (loS oa lo sz c) (vs.drop (lo*sz)):=by
 rcases h with rfl|⟨b,o,rfl,hlt,hc⟩
 ·exact .inl abb
 ·unfold loS
  split
  ·refine .inl (by rw [List.drop_eq_nil_iff];exact bG hl (bg _ aai))
  ·refine .inr ⟨b,o+lo*sz,by simp [add0],hlt,fun j v hj=> ?_⟩
   rw [dO]at hj
   rw [fF]
   exact hc _ v hj
theorem Own.blk {w:World}{B:Nat}{E:TypeId}{sz:Nat}{oa:Option Addr}{n c:Nat}{xs:List Value}(h:Own w B E sz oa n c xs)(hn:0<n) :
  ∃g cur,oa=some ⟨g,0,none⟩∧B<=g∧rU w g cur E∧n<=c∧c<=maxLen∧cur.length=c*sz∧cur.take (n*sz)=xs:=by
 rcases h.2 with ⟨_,h0⟩|⟨g,cap,cur,hv,hg,hh,h1,h2,h3,h4⟩
 ·omega
 ·injection hv with e1 e2 e3
  subst e3
  exact⟨g,cur.toList,e1,hg,by unfold rU;rw [hh],h1,h2,by simpa using h3,h4⟩
theorem Own.xE {w:World}{B g:Nat}{E:TypeId}{sz n c:Nat}{cur xs:List Value}(hb:rU w g cur E)(hg:B<=g)(h1:n<=c)(h2:c<=maxLen)(h3:cur.length=c*sz)(h4:cur.take (n*sz)=xs) :
  Own w B E sz (some ⟨g,0,none⟩) n c xs:=by
 have hl:n*sz<=c*sz:=bg _ h1
 refine⟨by rw [<-h4,aN];omega, .inr ⟨g,c,cur.toArray,rfl,hg,hb,h1,h2,by simpa using h3,by simpa using h4⟩⟩
theorem Own.only {w w':World}{B k:Nat}{E:TypeId}{sz:Nat}{oa:Option Addr}{n c:Nat}{xs:List Value}(h:Own w B E sz oa n c xs)(hO:Only k w w')(hne : ∀g,oa=some ⟨g,0,none⟩->g≠k):Own w' B E sz oa n c xs:=by
 rcases bM n with e|e
 ·rcases h.2 with ⟨h1,h0⟩|⟨g,cap,cur,hv,hg,hh,h1,h2,h3,h4⟩
  ·exact⟨h.1, .inl ⟨h1,h0⟩⟩
  ·injection hv with e1 e2 e3
   exact⟨h.1, .inr ⟨g,cap,cur,by rw [e1,e3],hg,by rw [hO.block g (hne g e1)];exact hh,h1,h2,h3,h4⟩⟩
 ·obtain⟨g,cur,e1,hB,hb,h1,h2,h3,h4⟩:=h.blk e
  subst e1
  exact Own.xE (hb.only hO (hne g rfl)) hB h1 h2 h3 h4
theorem Own.at {w:World}{B g:Nat}{E:TypeId}{sz n c:Nat}{xs:List Value}(h:Own w B E sz (some ⟨g,0,none⟩) n c xs):At w g 0 xs:=fun j v hj=>by
 have hl:=h.len
 have hn:0<n:=by
  have:=(aB.1 hj).1
  rcases bM n with e|e
  ·subst e;omega
  ·exact e
 obtain⟨g',cur,e,hB,hb,h1,h2,h3,h4⟩:=h.blk hn
 injection e with e
 injection e with e
 subst e
 rw [aO,hb.cell]
 rw [<-h4,bH]at hj
 split at hj
 ·exact hj
 ·cases hj
def Xd (P:Program)(xs ys:List Value):List Field->Option Bool
 | []=>some true
 | f::fs=>
  bif f.name != "_" then
   match yg P f.type,P.underlying f.type,xs[f.offset]?,ys[f.offset]?,Xd P xs ys fs with
   | some false,some (.int _),some (.int k a),some (.int k' b),some r=>bif decide (k=k')then some (a==b&&r)else none
   | some false,some .string,some (.string a),some (.string b),some r=>some (uN a b&&r)
   | some false,some .bool,some (.bool a),some (.bool b),some r=>some ((a==b)&&r)
   | _,_,_,_,_=>none
  else none
theorem Xe {P:Program}{w:World}(d:Nat)(xs ys:List Value) : ∀(fs:List Field) (b:Bool),Xd P xs ys fs=some b->(Op.eqFields (d+1) xs.toArray ys.toArray fs).run P w = .ok b w:=by
 intro fs
 induction fs with
 | nil=>intro b h;simp only [Xd,aI]at h;subst h;rfl
 | cons f fs ih=>
  intro b h
  simp only [Xd]at h
  cases hn:f.name != "_" with
  | false=>rw [hn]at h;cases h
  | true=>
   rw [hn,cond_true]at h
   have hn':f.name≠ "_" :=by simpa using hn
   have pp : ∀(zs:List Value) (v:Value),yg P f.type=some false->zs[f.offset]? = some v->(part f.type zs.toArray f.offset).run P w = .ok v w:=fun zs v ha hv=>by
    unfold part
    rw [Sem.run_bind,rO ha]
    simp [hv]
   split at h
   ·rename_i k0 k a k' b' r ha hu hx hy hr
    by_cases hk:k=k'
    ·subst hk
     simp only [decide_true,cond_true,aI]at h
     subst h
     simp only [Op.eqFields,if_pos hn',Sem.run_bind,pp _ _ ha hx,pp _ _ ha hy,Result.andThen_ok,run_equalIn_int w d f.type k k0 a b' hu]
     cases hab:(a==b')with
     | true=>simpa using ih r hr
     | false=>simp
    ·simp [hk]at h
   ·rename_i a b' r ha hu hx hy hr
    simp only [aI]at h
    subst h
    simp only [Op.eqFields,if_pos hn',Sem.run_bind,pp _ _ ha hx,pp _ _ ha hy,Result.andThen_ok,run_equalIn_string w d f.type a b' hu]
    have e:uN a b'=(a.toList==b'.toList):=rfl
    cases hab:uN a b' with
    | true=>rw [e]at hab;rw [hab];simpa using ih r hr
    | false=>rw [e]at hab;rw [hab];simp
   ·rename_i a b' r ha hu hx hy hr
    simp only [aI]at h
    subst h
    simp only [Op.eqFields,if_pos hn',Sem.run_bind,pp _ _ ha hx,pp _ _ ha hy,Result.andThen_ok,run_equalIn_bool' w d f.type a b' hu]
    cases hab:(a==b')with
    | true=>simpa using ih r hr
    | false=>simp
   ·cases h
def eqF (P:Program)(xs ys:List Value):List Field->Option Bool
 | []=>some true
 | f::fs=>
  bif f.name != "_" then
   match yg P f.type,P.underlying f.type,xs[f.offset]?,ys[f.offset]?,eqF P xs ys fs with
   | some false,some (.int _),some (.int k a),some (.int k' b),some r=>bif decide (k=k')then some (a==b&&r)else none
   | some false,some .string,some (.string a),some (.string b),some r=>some (uN a b&&r)
   | some false,some .bool,some (.bool a),some (.bool b),some r=>some ((a==b)&&r)
   | some true,some (.struct fs'),_,_,some r=>(match szB P f.type with
    | some k=>bif P.stoodInHeld f.type then none else(match Xd P ((xs.drop f.offset).take k) ((ys.drop f.offset).take k) fs'.toList with
     | some b=>some (b&&r)
     | none=>none)
    | none=>none)
   | _,_,_,_,_=>none
  else none
theorem Et {P:Program}{w:World}{t:TypeId}{o k:Nat}(zs:List Value)(ha:yg P t=some true)(hs:szB P t=some k):(part t zs.toArray o).run P w = .ok (.agg ((zs.drop o).take k).toArray) w:=by
 obtain⟨i,hi,hik⟩:=pU hs
 simp only [part,Sem.run_bind,Sem.run_pure,Result.andThen_ok,rO ha,if_true,sizeOf,rZ hi]
 congr 2
 apply jg
 simp [hik]
theorem Tt {P:Program}{w:World}(d:Nat)(xs ys:List Value) : ∀(fs:List Field) (b:Bool),eqF P xs ys fs=some b->(Op.eqFields (d+2) xs.toArray ys.toArray fs).run P w = .ok b w:=by
 intro fs
 induction fs with
 | nil=>intro b h;simp only [eqF,aI]at h;subst h;rfl
 | cons f fs ih=>
  intro b h
  simp only [eqF]at h
  cases hn:f.name != "_" with
  | false=>rw [hn]at h;cases h
  | true=>
   rw [hn,cond_true]at h
   have hn':f.name≠ "_" :=by simpa using hn
   have pp : ∀(zs:List Value) (v:Value),yg P f.type=some false->zs[f.offset]? = some v->(part f.type zs.toArray f.offset).run P w = .ok v w:=fun zs v ha hv=>by
    unfold part
    rw [Sem.run_bind,rO ha]
    simp [hv]
   split at h
   ·rename_i k0 k a k' b' r ha hu hx hy hr
    by_cases hk:k=k'
    ·subst hk
     simp only [decide_true,cond_true,aI]at h
     subst h
     simp only [Op.eqFields,if_pos hn',Sem.run_bind,pp _ _ ha hx,pp _ _ ha hy,Result.andThen_ok,run_equalIn_int w (d+1) f.type k k0 a b' hu]
     cases hab:(a==b')with
     | true=>simpa using ih r hr
     | false=>simp
    ·simp [hk]at h
   ·rename_i a b' r ha hu hx hy hr
    simp only [aI]at h
    subst h
    simp only [Op.eqFields,if_pos hn',Sem.run_bind,pp _ _ ha hx,pp _ _ ha hy,Result.andThen_ok,run_equalIn_string w (d+1) f.type a b' hu]
    have e:uN a b'=(a.toList==b'.toList):=rfl
    cases hab:uN a b' with
    | true=>rw [e]at hab;rw [hab];simpa using ih r hr
    | false=>rw [e]at hab;rw [hab];simp
   ·rename_i a b' r ha hu hx hy hr
    simp only [aI]at h
    subst h
    simp only [Op.eqFields,if_pos hn',Sem.run_bind,pp _ _ ha hx,pp _ _ ha hy,Result.andThen_ok,run_equalIn_bool' w (d+1) f.type a b' hu]
    cases hab:(a==b')with
    | true=>simpa using ih r hr
    | false=>simp
   ·rename_i fs' r ha hu hr
    split at h
    ·rename_i k hs
     cases hp:P.stoodInHeld f.type with
     | true=>rw [hp]at h;cases h
     | false=>
      rw [hp,cond_false]at h
      split at h
      ·rename_i b0 h0
       simp only [aI]at h
       subst h
       have hf:P.fieldsOf f.type=fs':=by unfold Program.fieldsOf;rw [hu]
       have hu':P.underlying f.type=some (.struct (P.fieldsOf f.type)):=by rw [hf];exact hu
       have hrun:=Xe (P:=P) (w:=w) d _ _ fs'.toList b0 h0
       rw [<-hf]at hrun
       simp only [Op.eqFields,if_pos hn',Sem.run_bind,Et xs ha hs,Et ys ha hs,Result.andThen_ok,run_equalIn_struct w (d+1) f.type _ _ hu' hp,hrun]
       cases b0 with
       | true=>simpa using ih r hr
       | false=>simp
      ·cases h
    ·cases h
   ·cases h
theorem aeK {P:Program}{w:World}{K:Value->World->Prop}{t:TypeId}{x y:Operand}{xs ys:List Value}{b:Bool}(hg:P.eqGuardType P.depth t=false)(hp:P.stoodInHeld t=false)
  (hu:P.underlying t=some (.struct (P.fieldsOf t))) (he:eqF P xs ys (P.fieldsOf t).toList=some b) (k:K (.bool (!b)) w) :
  nM P (do eqGuard .neq t x y (.agg xs.toArray) (.agg ys.toArray);binOp .neq t (.agg xs.toArray) (.agg ys.toArray)) w K:=by
 refine oQ ?_ k
 rw [Sem.run_bind,run_eqGuard_agg w .neq t x y _ _ hg,Result.andThen_ok,run_neq_struct,run_equalIn_struct w 9999 t _ _ hu hp,Tt 9997 xs ys _ b he]
 rfl
theorem aeL {P:Program}{w:World}{K:Value->World->Prop}{t:TypeId}{x y:Operand}{xs ys:List Value}{b:Bool}(hg:P.eqGuardType P.depth t=false)(hp:P.stoodInHeld t=false)
  (hu:P.underlying t=some (.struct (P.fieldsOf t))) (he:eqF P xs ys (P.fieldsOf t).toList=some b) (k:K (.bool b) w) :
  nM P (do eqGuard .eql t x y (.agg xs.toArray) (.agg ys.toArray);binOp .eql t (.agg xs.toArray) (.agg ys.toArray)) w K:=by
 refine oQ ?_ k
 rw [Sem.run_bind,run_eqGuard_agg w .eql t x y _ _ hg,Result.andThen_ok,run_eql_struct,run_equalIn_struct w 9999 t _ _ hu hp,Tt 9997 xs ys _ b he]
 rfl
theorem QL {x:Int}(h:0<=x) : ∃n:Nat,x=(n:Int):=⟨x.toNat,by omega⟩
theorem QM {x:Int}(h1 : -9223372036854775808<=x)(h2:x<=9223372036854775807):IntKind.i64.wrap x=x:=IntWalk.i64_in _ ⟨h1,h2⟩
def rX (w:World)(b:Nat)(F:ByteArray->Option Value):Prop:=
 ∃es clock,w.heap[b]? = some (.map es clock)∧(∀x∈es.toList,MapKept.IsKey .string x.key)∧(es.toList.map (·.key)).Nodup∧∀k v,F k=some v↔∃x∈es.toList,x.key = .string k∧x.val=v
theorem rX.lt {w:World}{b:Nat}{F:ByteArray->Option Value}(h:rX w b F):b<w.heap.size:=let ⟨_,_,hb,_⟩:=h;(dG.1 hb).1
theorem rX.below {w w':World}{b B:Nat}{F:ByteArray->Option Value}(h:rX w b F)(hB:Below B w w')(hb:b<B):rX w' b F:=
 let ⟨es,c,h1,h2⟩:=h;⟨es,c,(hB.block b hb).trans h1,h2⟩
theorem rX.only {w w':World}{b k:Nat}{F:ByteArray->Option Value}(h:rX w b F)(hO:Only k w w')(hb:b≠k):rX w' b F:=
 let ⟨es,c,h1,h2⟩:=h;⟨es,c,(hO.block b hb).trans h1,h2⟩
theorem rX.quiet {w w':World}{b:Nat}{F:ByteArray->Option Value}(h:rX w b F)(hQ:Quiet w w'):rX w' b F:=
 let ⟨es,c,h1,h2⟩:=h;⟨es,c,by rw [hQ.heap];exact h1,h2⟩
theorem rX.heap {w w':World}{b:Nat}{F:ByteArray->Option Value}(h:rX w b F)(e:w'.heap[b]? = w.heap[b]?):rX w' b F:=
 let ⟨es,c,h1,h2⟩:=h;⟨es,c,e.trans h1,h2⟩
theorem rX.drew {w:World}{b:Nat}{F:ByteArray->Option Value}(h:rX w b F):rX w.drew b F:=h
theorem rX.congr {w:World}{b:Nat}{F G:ByteArray->Option Value}(h:rX w b F)(e : ∀k,F k=G k):rX w b G:=
 let ⟨es,c,h1,h2,h3,h4⟩:=h;⟨es,c,h1,h2,h3,fun k v=>by rw [<-e k];exact h4 k v⟩
section
variable {P:Program}{w:World}{K:Value->World->Prop}
theorem QN {t:TypeId}(k : ∀w',Below w.heap.size w w'->rX w' w.heap.size (fun _=>none)->K (.map (some w.heap.size)) w'):nM P (Instr.makeMap t none) w K:=by
 refine oQ (run_makeMap t w) (k _ (pW (Below.refl _ _) (au _) _) ⟨#[],0,heap_alloc_new w _,by simp,by simp,by simp⟩)
theorem rX.find {F:ByteArray->Option Value}{kt:TypeId}{k:ByteArray}(hk:P.underlying kt=some .string){es:Array MapEntry}{c:Nat}
  (h2 : ∀x∈es.toList,MapKept.IsKey .string x.key) (h3:(es.toList.map (·.key)).Nodup) (h4 : ∀k v,F k=some v↔∃x∈es.toList,x.key = .string k∧x.val=v) :
  (F k=none∧(Instr.findKey kt (.string k) es.toList).run P w = .ok none w∧∀x∈es.toList,x.key≠ .string k)∨
  ∃j e,F k=some e.val∧(Instr.findKey kt (.string k) es.toList).run P w = .ok (some (j,e.val)) w∧es[j]? = some e∧e.key = .string k:=by
 rcases MapKept.findNow_spec (d:= .string) (k:= .string k) trivial es.toList 0 h2 with ⟨hf,hn⟩|⟨j,e,hf,he,hek⟩
 ·refine .inl ⟨?_,MapKept.run_findKey hk hf,hn⟩
  cases hF:F k with
  | none=>rfl
  | some v=>obtain⟨x,hx,e1,_⟩:=(h4 k v).1 hF;exact absurd e1 (hn x hx)
 ·refine .inr ⟨j,e,(h4 k e.val).2 ⟨e,cu.2 ⟨j,he⟩,hek,rfl⟩,by rw [aO]at hf;exact MapKept.run_findKey hk hf,by simpa using he,hek⟩
theorem BM {t kt et:TypeId}{b:Nat}{F:ByteArray->Option Value}{k:ByteArray}{z:Value}(ht:P.underlying t=some (.map kt et))(hk:P.underlying kt=some .string)(hz:(P.info? et).bind (·.zero)=some z)(h:rX w b F)
  (c:K (.tuple #[(F k).getD z, .bool (F k).isSome]) w):nM P (Instr.lookup t (.map (some b)) (.string k) true) w K:=by
 obtain⟨es,cl,hb,h2,h3,h4⟩:=h
 have hc:(Instr.checkKey es.isEmpty 10000 kt (.string k)).run P w = .ok () w:=MapKept.run_checkKey (k:= .string k) hk ahJ _ 9999
 rcases rX.find (P:=P) (w:=w) (k:=k) hk (c:=cl) h2 h3 h4 with ⟨hF,hr,_⟩|⟨j,e,hF,hr,_⟩
 ·rw [hF]at c
  refine oQ ?_ c
  simp [Instr.lookup,l7 ht,MapKept.run_getObj_map hb,hc,hr,yZ hz]
 ·rw [hF]at c
  refine oQ ?_ c
  simp [Instr.lookup,l7 ht,MapKept.run_getObj_map hb,hc,hr]
theorem zS {t kt et:TypeId}{b:Nat}{F:ByteArray->Option Value}{k:ByteArray}{z:Value}(ht:P.underlying t=some (.map kt et))(hk:P.underlying kt=some .string)(hz:(P.info? et).bind (·.zero)=some z)(h:rX w b F)
  (c:K ((F k).getD z) w):nM P (Instr.lookup t (.map (some b)) (.string k) false) w K:=by
 obtain⟨es,cl,hb,h2,h3,h4⟩:=h
 have hc:(Instr.checkKey es.isEmpty 10000 kt (.string k)).run P w = .ok () w:=MapKept.run_checkKey (k:= .string k) hk ahJ _ 9999
 rcases rX.find (P:=P) (w:=w) (k:=k) hk (c:=cl) h2 h3 h4 with ⟨hF,hr,_⟩|⟨j,e,hF,hr,_⟩
 ·rw [hF]at c
  refine oQ ?_ c
  simp [Instr.lookup,l7 ht,MapKept.run_getObj_map hb,hc,hr,yZ hz]
 ·rw [hF]at c
  refine oQ ?_ c
  simp [Instr.lookup,l7 ht,MapKept.run_getObj_map hb,hc,hr]
theorem Tv {K:World->Prop}{t kt et:TypeId}{b:Nat}{F:ByteArray->Option Value}{k:ByteArray}{v:Value}(ht:P.underlying t=some (.map kt et))(hk:P.underlying kt=some .string)(h:rX w b F)
  (c : ∀w',Only b w w'->rX w' b (fun k'=>if k'=k then some v else F k')->K w'):vG P (Instr.mapUpdate t (.map (some b)) (.string k) v) w K:=by
 obtain⟨es,cl,hb,h2,h3,h4⟩:=h
 have hbl:b<w.heap.size:=(dG.1 hb).1
 have hc:(Instr.checkKey false 10000 kt (.string k)).run P w = .ok () w:=MapKept.run_checkKey (k:= .string k) hk ahJ _ 9999
 have only : ∀o,Only b w {w with heap:=w.heap.setIfInBounds b o}:=fun o=>⟨rfl,rfl,rfl,by simp,fun j hj=>by simp [gU (lD hj)]⟩
 have self : ∀o,({w with heap:=w.heap.setIfInBounds b o} : World).heap[b]? = some o:=fun o=>by simp [hbl]
 rcases rX.find (P:=P) (w:=w) (k:=k) hk (c:=cl) h2 h3 h4 with ⟨hF,hr,hn⟩|⟨j,e,hF,hr,hj,hek⟩
 ·refine⟨(),_, ?_,c _ (only (.map (es.push {key:= .string k,val:=v,born:=cl}) (cl+1))) ⟨_,_,self _, ?_, ?_, ?_⟩⟩
  ·simp [Instr.mapUpdate,l7 ht,MapKept.run_getObj_map hb,hc,hr,MapKept.run_setObj_map _ hb]
  ·intro x hx
   simp only [gI,bC,aW]at hx
   rcases hx with hx|rfl
   ·exact h2 x hx
   ·trivial
  ·simp only [gI,aS,gW,kS]
   refine List.nodup_append.2 ⟨h3,by simp, ?_⟩
   intro a ha b hb
   simp only [aW]at hb
   subst hb
   obtain⟨x,hx,rfl⟩:=dW.1 ha
   exact hn x hx
  ·intro k' v'
   by_cases e:k'=k
   ·subst e
    simp only [if_true,aI,gI,bC,aW]
    constructor
    ·rintro rfl;exact⟨_, .inr rfl,rfl,rfl⟩
    ·rintro⟨x,hx|rfl,e1,e2⟩
     ·exact absurd e1 (hn x hx)
     ·exact e2
   ·simp only [if_neg e,gI,bC,aW]
    rw [h4]
    constructor
    ·rintro⟨x,hx,e1,e2⟩;exact⟨x, .inl hx,e1,e2⟩
    ·rintro⟨x,hx|rfl,e1,e2⟩
     ·exact⟨x,hx,e1,e2⟩
     ·injection e1 with e1;exact absurd e1.symm e
 ·have hks:Instr.sameBits 10000 e.key (.string k)=true:=by rw [hek];exact(MapKept.bytes_beq k k).2 rfl
  have hkey : ∀x∈(es.modify j fun e=> {e with key:= .string k,val:=v}).toList,x.key∈es.toList.map (·.key):=fun x hx=>by
   have:x.key∈(es.modify j fun e=> {e with key:= .string k,val:=v}).toList.map (·.key):=dW.2 ⟨x,hx,rfl⟩
   rwa [MapKept.modify_keys j _ fun e' he'=>by rw [hj]at he';injection he' with he';subst he';exact hek.symm]at this
  refine⟨(),_, ?_,c _ (only (.map (es.modify j fun e=> {e with key:= .string k,val:=v}) cl)) ⟨_,_,self _, ?_, ?_, ?_⟩⟩
  ·simp [Instr.mapUpdate,l7 ht,MapKept.run_getObj_map hb,hc,hr,hj,Instr.keyThatStays,hks,MapKept.run_setObj_map _ hb]
  ·exact MapKept.isKey_modify h2 j _ fun e' he'=>by rw [hj]at he';injection he' with he';subst he';exact hek.symm
  ·rw [MapKept.modify_keys j _ fun e' he'=>by rw [hj]at he';injection he' with he';subst he';exact hek.symm];exact h3
  ·intro k' v'
   have hmod : ∀i,(es.modify j fun e=> {e with key:= .string k,val:=v}).toList[i]? = if j=i then(es[i]?).map (fun e=> {e with key:= .string k,val:=v})else es[i]? :=fun i=>by
    rw [bF,iE]
   have uniq : ∀i x,es[i]? = some x->x.key = .string k->i=j:=fun i x hx hxk=>by
    have hi:i<(es.toList.map (·.key)).length:=by
     have:=(dG.1 hx).1
     simpa using this
    refine(List.getElem?_inj hi h3).1 ?_
    rw [aJ,aJ,bF,bF,hx,hj]
    simp [hxk,hek]
   constructor
   ·intro hv
    have hv:(if k'=k then some v else F k')=some v':=hv
    by_cases e':k'=k
    ·rw [if_pos e']at hv
     injection hv with hv
     subst hv;subst e'
     exact⟨_,cu.2 ⟨j,by rw [hmod,if_pos rfl,hj];rfl⟩,rfl,rfl⟩
    ·rw [if_neg e']at hv
     obtain⟨x,hx,e1,e2⟩:=(h4 k' v').1 hv
     obtain⟨i,hi⟩:=cu.1 hx
     rw [bF]at hi
     have hij : ¬j=i:=fun q=>by
      subst q
      rw [hj]at hi
      injection hi with hi
      subst hi
      rw [hek]at e1
      injection e1 with e1
      exact e' e1.symm
     exact⟨x,cu.2 ⟨i,by rw [hmod,if_neg hij];exact hi⟩,e1,e2⟩
   ·rintro⟨x,hx,e1,e2⟩
    obtain⟨i,hi⟩:=cu.1 hx
    rw [hmod]at hi
    by_cases hij:j=i
    ·subst hij
     rw [if_pos rfl,hj]at hi
     simp only [bD,aI]at hi
     subst hi
     injection e1 with e1
     show (if k'=k then some v else F k')=some v'
     rw [if_pos e1.symm]
     exact congrArg some e2
    ·rw [if_neg hij]at hi
     have e' : ¬k'=k:=fun q=>hij (uniq i x hi (by rw [e1,q])).symm
     show (if k'=k then some v else F k')=some v'
     rw [if_neg e']
     exact(h4 k' v').2 ⟨x,cu.2 ⟨i,by rw [bF];exact hi⟩,e1,e2⟩
end
def sU (w:World)(b:Nat)(F:Int->Option Value):Prop:=
 ∃es clock,w.heap[b]? = some (.map es clock)∧(∀x∈es.toList,MapKept.IsKey (.int .i64) x.key)∧(es.toList.map (·.key)).Nodup∧∀k v,F k=some v↔∃x∈es.toList,x.key=(.int .i64 k)∧x.val=v
theorem sU.lt {w:World}{b:Nat}{F:Int->Option Value}(h:sU w b F):b<w.heap.size:=let ⟨_,_,hb,_⟩:=h;(dG.1 hb).1
theorem sU.below {w w':World}{b B:Nat}{F:Int->Option Value}(h:sU w b F)(hB:Below B w w')(hb:b<B):sU w' b F:=
 let ⟨es,c,h1,h2⟩:=h;⟨es,c,(hB.block b hb).trans h1,h2⟩
theorem sU.only {w w':World}{b k:Nat}{F:Int->Option Value}(h:sU w b F)(hO:Only k w w')(hb:b≠k):sU w' b F:=
 let ⟨es,c,h1,h2⟩:=h;⟨es,c,(hO.block b hb).trans h1,h2⟩
theorem sU.quiet {w w':World}{b:Nat}{F:Int->Option Value}(h:sU w b F)(hQ:Quiet w w'):sU w' b F:=
 let ⟨es,c,h1,h2⟩:=h;⟨es,c,by rw [hQ.heap];exact h1,h2⟩
theorem sU.heap {w w':World}{b:Nat}{F:Int->Option Value}(h:sU w b F)(e:w'.heap[b]? = w.heap[b]?):sU w' b F:=
 let ⟨es,c,h1,h2⟩:=h;⟨es,c,e.trans h1,h2⟩
theorem sU.drew {w:World}{b:Nat}{F:Int->Option Value}(h:sU w b F):sU w.drew b F:=h
theorem sU.congr {w:World}{b:Nat}{F G:Int->Option Value}(h:sU w b F)(e : ∀k,F k=G k):sU w b G:=
 let ⟨es,c,h1,h2,h3,h4⟩:=h;⟨es,c,h1,h2,h3,fun k v=>by rw [<-e k];exact h4 k v⟩
section
variable {P:Program}{w:World}{K:Value->World->Prop}
theorem NH {t:TypeId}(k : ∀w',Below w.heap.size w w'->sU w' w.heap.size (fun _=>none)->K (.map (some w.heap.size)) w'):nM P (Instr.makeMap t none) w K:=by
 refine oQ (run_makeMap t w) (k _ (pW (Below.refl _ _) (au _) _) ⟨#[],0,heap_alloc_new w _,by simp,by simp,by simp⟩)
theorem sU.find {F:Int->Option Value}{kt:TypeId}{k:Int}(hk:P.underlying kt=some (.int .i64)){es:Array MapEntry}{c:Nat}
  (h2 : ∀x∈es.toList,MapKept.IsKey (.int .i64) x.key) (h3:(es.toList.map (·.key)).Nodup) (h4 : ∀k v,F k=some v↔∃x∈es.toList,x.key=(.int .i64 k)∧x.val=v) :
  (F k=none∧(Instr.findKey kt (.int .i64 k) es.toList).run P w = .ok none w∧∀x∈es.toList,x.key≠(.int .i64 k))∨
  ∃j e,F k=some e.val∧(Instr.findKey kt (.int .i64 k) es.toList).run P w = .ok (some (j,e.val)) w∧es[j]? = some e∧e.key=(.int .i64 k):=by
 rcases MapKept.findNow_spec (d:= .int .i64) (k:= .int .i64 k) rfl es.toList 0 h2 with ⟨hf,hn⟩|⟨j,e,hf,he,hek⟩
 ·refine .inl ⟨?_,MapKept.run_findKey hk hf,hn⟩
  cases hF:F k with
  | none=>rfl
  | some v=>obtain⟨x,hx,e1,_⟩:=(h4 k v).1 hF;exact absurd e1 (hn x hx)
 ·refine .inr ⟨j,e,(h4 k e.val).2 ⟨e,cu.2 ⟨j,he⟩,hek,rfl⟩,by rw [aO]at hf;exact MapKept.run_findKey hk hf,by simpa using he,hek⟩
theorem Xf {t kt et:TypeId}{b:Nat}{F:Int->Option Value}{k:Int}{z:Value}(ht:P.underlying t=some (.map kt et))(hk:P.underlying kt=some (.int .i64))(hz:(P.info? et).bind (·.zero)=some z)(h:sU w b F)
  (c:K (.tuple #[(F k).getD z, .bool (F k).isSome]) w):nM P (Instr.lookup t (.map (some b)) (.int .i64 k) true) w K:=by
 obtain⟨es,cl,hb,h2,h3,h4⟩:=h
 have hc:(Instr.checkKey es.isEmpty 10000 kt (.int .i64 k)).run P w = .ok () w:=MapKept.run_checkKey (k:= .int .i64 k) hk ahJ _ 9999
 rcases sU.find (P:=P) (w:=w) (k:=k) hk (c:=cl) h2 h3 h4 with ⟨hF,hr,_⟩|⟨j,e,hF,hr,_⟩
 ·rw [hF]at c
  refine oQ ?_ c
  simp [Instr.lookup,l7 ht,MapKept.run_getObj_map hb,hc,hr,yZ hz]
 ·rw [hF]at c
  refine oQ ?_ c
  simp [Instr.lookup,l7 ht,MapKept.run_getObj_map hb,hc,hr]
theorem Vt {t kt et:TypeId}{b:Nat}{F:Int->Option Value}{k:Int}{z:Value}(ht:P.underlying t=some (.map kt et))(hk:P.underlying kt=some (.int .i64))(hz:(P.info? et).bind (·.zero)=some z)(h:sU w b F)
  (c:K ((F k).getD z) w):nM P (Instr.lookup t (.map (some b)) (.int .i64 k) false) w K:=by
 obtain⟨es,cl,hb,h2,h3,h4⟩:=h
 have hc:(Instr.checkKey es.isEmpty 10000 kt (.int .i64 k)).run P w = .ok () w:=MapKept.run_checkKey (k:= .int .i64 k) hk ahJ _ 9999
 rcases sU.find (P:=P) (w:=w) (k:=k) hk (c:=cl) h2 h3 h4 with ⟨hF,hr,_⟩|⟨j,e,hF,hr,_⟩
 ·rw [hF]at c
  refine oQ ?_ c
  simp [Instr.lookup,l7 ht,MapKept.run_getObj_map hb,hc,hr,yZ hz]
 ·rw [hF]at c
  refine oQ ?_ c
  simp [Instr.lookup,l7 ht,MapKept.run_getObj_map hb,hc,hr]
theorem aa2 {K:World->Prop}{t kt et:TypeId}{b:Nat}{F:Int->Option Value}{k:Int}{v:Value}(ht:P.underlying t=some (.map kt et))(hk:P.underlying kt=some (.int .i64))(h:sU w b F)
  (c : ∀w',Only b w w'->sU w' b (fun k'=>if k'=k then some v else F k')->K w'):vG P (Instr.mapUpdate t (.map (some b)) (.int .i64 k) v) w K:=by
 obtain⟨es,cl,hb,h2,h3,h4⟩:=h
 have hbl:b<w.heap.size:=(dG.1 hb).1
 have hc:(Instr.checkKey false 10000 kt (.int .i64 k)).run P w = .ok () w:=MapKept.run_checkKey (k:= .int .i64 k) hk ahJ _ 9999
 have only : ∀o,Only b w {w with heap:=w.heap.setIfInBounds b o}:=fun o=>⟨rfl,rfl,rfl,by simp,fun j hj=>by simp [gU (lD hj)]⟩
 have self : ∀o,({w with heap:=w.heap.setIfInBounds b o} : World).heap[b]? = some o:=fun o=>by simp [hbl]
 rcases sU.find (P:=P) (w:=w) (k:=k) hk (c:=cl) h2 h3 h4 with ⟨hF,hr,hn⟩|⟨j,e,hF,hr,hj,hek⟩
 ·refine⟨(),_, ?_,c _ (only (.map (es.push {key:=(.int .i64 k),val:=v,born:=cl}) (cl+1))) ⟨_,_,self _, ?_, ?_, ?_⟩⟩
  ·simp [Instr.mapUpdate,l7 ht,MapKept.run_getObj_map hb,hc,hr,MapKept.run_setObj_map _ hb]
  ·intro x hx
   simp only [gI,bC,aW]at hx
   rcases hx with hx|rfl
   ·exact h2 x hx
   ·rfl
  ·simp only [gI,aS,gW,kS]
   refine List.nodup_append.2 ⟨h3,by simp, ?_⟩
   intro a ha b hb
   simp only [aW]at hb
   subst hb
   obtain⟨x,hx,rfl⟩:=dW.1 ha
   exact hn x hx
  ·intro k' v'
   by_cases e:k'=k
   ·subst e
    simp only [if_true,aI,gI,bC,aW]
    constructor
    ·rintro rfl;exact⟨_, .inr rfl,rfl,rfl⟩
    ·rintro⟨x,hx|rfl,e1,e2⟩
     ·exact absurd e1 (hn x hx)
     ·exact e2
   ·simp only [if_neg e,gI,bC,aW]
    rw [h4]
    constructor
    ·rintro⟨x,hx,e1,e2⟩;exact⟨x, .inl hx,e1,e2⟩
    ·rintro⟨x,hx|rfl,e1,e2⟩
     ·exact⟨x,hx,e1,e2⟩
     ·injection e1 with _ e1;exact absurd e1.symm e
 ·have hks:Instr.sameBits 10000 e.key (.int .i64 k)=true:=by rw [hek];simp [Instr.sameBits]
  have hkey : ∀x∈(es.modify j fun e=> {e with key:=(.int .i64 k),val:=v}).toList,x.key∈es.toList.map (·.key):=fun x hx=>by
   have:x.key∈(es.modify j fun e=> {e with key:=(.int .i64 k),val:=v}).toList.map (·.key):=dW.2 ⟨x,hx,rfl⟩
   rwa [MapKept.modify_keys j _ fun e' he'=>by rw [hj]at he';injection he' with he';subst he';exact hek.symm]at this
  refine⟨(),_, ?_,c _ (only (.map (es.modify j fun e=> {e with key:=(.int .i64 k),val:=v}) cl)) ⟨_,_,self _, ?_, ?_, ?_⟩⟩
  ·simp [Instr.mapUpdate,l7 ht,MapKept.run_getObj_map hb,hc,hr,hj,Instr.keyThatStays,hks,MapKept.run_setObj_map _ hb]
  ·exact MapKept.isKey_modify h2 j _ fun e' he'=>by rw [hj]at he';injection he' with he';subst he';exact hek.symm
  ·rw [MapKept.modify_keys j _ fun e' he'=>by rw [hj]at he';injection he' with he';subst he';exact hek.symm];exact h3
  ·intro k' v'
   have hmod : ∀i,(es.modify j fun e=> {e with key:=(.int .i64 k),val:=v}).toList[i]? = if j=i then(es[i]?).map (fun e=> {e with key:=(.int .i64 k),val:=v})else es[i]? :=fun i=>by
    rw [bF,iE]
   have uniq : ∀i x,es[i]? = some x->x.key=(.int .i64 k)->i=j:=fun i x hx hxk=>by
    have hi:i<(es.toList.map (·.key)).length:=by
     have:=(dG.1 hx).1
     simpa using this
    refine(List.getElem?_inj hi h3).1 ?_
    rw [aJ,aJ,bF,bF,hx,hj]
    simp [hxk,hek]
   constructor
   ·intro hv
    have hv:(if k'=k then some v else F k')=some v':=hv
    by_cases e':k'=k
    ·rw [if_pos e']at hv
     injection hv with hv
     subst hv;subst e'
     exact⟨_,cu.2 ⟨j,by rw [hmod,if_pos rfl,hj];rfl⟩,rfl,rfl⟩
    ·rw [if_neg e']at hv
     obtain⟨x,hx,e1,e2⟩:=(h4 k' v').1 hv
     obtain⟨i,hi⟩:=cu.1 hx
     rw [bF]at hi
     have hij : ¬j=i:=fun q=>by
      subst q
      rw [hj]at hi
      injection hi with hi
      subst hi
      rw [hek]at e1
      injection e1 with _ e1
      exact e' e1.symm
     exact⟨x,cu.2 ⟨i,by rw [hmod,if_neg hij];exact hi⟩,e1,e2⟩
   ·rintro⟨x,hx,e1,e2⟩
    obtain⟨i,hi⟩:=cu.1 hx
    rw [hmod]at hi
    by_cases hij:j=i
    ·subst hij
     rw [if_pos rfl,hj]at hi
     simp only [bD,aI]at hi
     subst hi
     injection e1 with _ e1
     show (if k'=k then some v else F k')=some v'
     rw [if_pos e1.symm]
     exact congrArg some e2
    ·rw [if_neg hij]at hi
     have e' : ¬k'=k:=fun q=>hij (uniq i x hi (by rw [e1,q])).symm
     show (if k'=k then some v else F k')=some v'
     rw [if_neg e']
     exact(h4 k' v').2 ⟨x,cu.2 ⟨i,by rw [bF];exact hi⟩,e1,e2⟩
end
abbrev wz (s:ByteArray):List UInt8:=s.data.toList
theorem KL (s:ByteArray):(wz s).length=s.size:=abb
section
variable {P:Program}{w:World}{K:Value->World->Prop}
theorem DR {t:TypeId}{s:ByteArray}{k:IntKind}{ix:Int}(m:Nat)(hm:ix=m)(hu:P.underlying t=some .string)(h:m<s.size)
  (c:K (.int .u8 (s[m].toNat:Int)) w):nM P (Instr.index t (.string s) (.int k ix)) w K:=by
 refine oQ ?_ c
 subst hm
 rw [run_index_string w t s k m hu,dif_pos ⟨by omega,by omega⟩]
 simp
theorem Vu {t:TypeId}{s:ByteArray}{kl kh:IntKind}{lo hi:Int}(a b:Nat)(ha:lo=a)(hb:hi=b)(hu:P.underlying t=some .string)(hab:a<=b)(h:b<=s.size)
  (c:K (.string (s.extract a b)) w):nM P (Instr.sliceAt t (.string s) (some (.int kl lo)) (some (.int kh hi)) none) w K:=by
 refine oQ ?_ c
 subst ha;subst hb
 unfold Instr.sliceAt
 rw [Sem.run_bind,l7 hu]
 simp only [Result.andThen_ok]
 unfold Instr.slice
 rw [Sem.run_bind,l7 hu]
 have h1:(0:Int)<=b∧(b:Int)<=s.size:=⟨by omega,by omega⟩
 have h2:(0:Int)<=a∧(a:Int)<=b:=⟨by omega,by omega⟩
 simp [Instr.sliceBounds,Instr.sliceBound,asIntOf,h1,h2,h,hab]
def Itr (w:World)(b:Nat)(s:ByteArray)(p:Nat):Prop:=w.heap[b]? = some (.stringIter s p)
theorem Vw {t:TypeId}{s:ByteArray}(hu:P.underlying t=some .string)(k : ∀w',Below w.heap.size w w'->Itr w' w.heap.size s 0->K (.pointer (some ⟨w.heap.size,0,none⟩)) w') :
  nM P (Instr.range t (.string s)) w K:=by
 refine oQ ?_ (k (w.alloc (.stringIter s 0)) (pW (Below.refl _ _) (au _) _) (heap_alloc_new w _))
 unfold Instr.range
 simp [l7 hu]
theorem Eu {b:Nat}{s:ByteArray}{p:Nat}(h:Itr w b s p):(getObj b).run P w = .ok (.stringIter s p) w:=by
 have h':w.heap[b]? = some (.stringIter s p):=h
 simp [getObj,Sem.run,h']
theorem NJ {b:Nat}{s:ByteArray}{p:Nat}(o:Obj)(h:Itr w b s p):(setObj b o).run P w = .ok () {w with heap:=w.heap.setIfInBounds b o}:=by
 have h':w.heap[b]? = some (.stringIter s p):=h
 simp [setObj,Sem.run,h']
theorem QO {ty:TypeId}{b:Nat}{s:ByteArray}{p:Nat}(h:Itr w b s p)(hp:s.size<=p)(k:K (.tuple #[.bool false]) w):nM P (Instr.next (.pointer (some ⟨b,0,none⟩)) true ty) w K:=by
 refine oQ ?_ k
 unfold Instr.next
 simp [Eu h,Nat.not_lt.2 hp]
theorem aa3 {ty:TypeId}{b:Nat}{s:ByteArray}{p:Nat}(h:Itr w b s p)(hp:p<s.size)
  (k1:s[p].toNat<128->∀w',Only b w w'->Itr w' b s (p+1)->K (.tuple #[.bool true, .int .i64 (p:Nat), .int .i32 (s[p].toNat:Nat)]) w')
  (k2:128<=s[p].toNat->∀w' (c q:Nat),Only b w w'->Itr w' b s q->128<=c->K (.tuple #[.bool true, .int .i64 (p:Nat), .int .i32 (c:Nat)]) w') :
  nM P (Instr.next (.pointer (some ⟨b,0,none⟩)) true ty) w K:=by
 have hbl:b<w.heap.size:=(dG.1 h).1
 have only : ∀o,Only b w {w with heap:=w.heap.setIfInBounds b o}:=fun o=>⟨rfl,rfl,rfl,by simp,fun j hj=>by simp [gU (lD hj)]⟩
 have self : ∀q,Itr ({w with heap:=w.heap.setIfInBounds b (.stringIter s q)} : World) b s q:=fun q=>by unfold Itr;simp [hbl]
 have hrun : ∀c q,Utf8.decode s p=(c,q)->(Instr.next (.pointer (some ⟨b,0,none⟩)) true ty).run P w = .ok (.tuple #[.bool true,goInt p, .int .i32 c]) {w with heap:=w.heap.setIfInBounds b (.stringIter s (p+q))}:=fun c q hd=>by
  unfold Instr.next
  simp [Eu h,hp,hd,NJ _ h]
 have hb0:(s.get! (p+0)).toNat=s[p].toNat:=by
  rw [dV]
  congr 1
  show s.data[p]! = s.data[p]
  simp_all
 by_cases hc:s[p].toNat<128
 ·have hd:Utf8.decode s p=(s[p].toNat,1):=by
   unfold Utf8.decode
   grind
  exact oQ (hrun _ _ hd) (k1 hc _ (only _) (self _))
 ·have hd : ∃c q,Utf8.decode s p=(c,q)∧128<=c:=by
   unfold Utf8.decode
   simp only [hb0]
   rw [if_neg (by simpa using hc)]
   split
   ·split
    ·exact⟨_,_,rfl,by omega⟩
    ·exact⟨_,_,rfl,by decide⟩
   ·split
    ·split
     ·rename_i h1;exact⟨_,_,rfl,by simp only [ak,decide_eq_true_eq]at h1;omega⟩
     ·exact⟨_,_,rfl,by decide⟩
    ·split
     ·split
      ·rename_i h1;exact⟨_,_,rfl,by simp only [ak,decide_eq_true_eq]at h1;omega⟩
      ·exact⟨_,_,rfl,by decide⟩
     ·exact⟨_,_,rfl,by decide⟩
  obtain⟨c,q,hd,hc2⟩:=hd
  exact oQ (hrun _ _ hd) (k2 aai _ c _ (only _) (self _) hc2)
end
end Go.Proofs.YtnandbihiceihaaGreatDoor.Vc
