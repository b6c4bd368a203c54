/- Joined parts of the proof. Cells of lists of records: a record of k cells stands at i * k; loads and stores of whole records -/
import Derived.Test.YtnandbihiceihaaGreatDoorNk2
import Derived.Laws.StructEq
import Derived.MapKept
import Derived.Carry
set_option linter.unusedVariables false
set_option linter.unusedSimpArgs false
set_option maxRecDepth 100000
set_option maxHeartbeats 16000000
namespace Go.Proofs.YtnandbihiceihaaGreatDoor.Vc
open Go.RowKit
def Seg (vs:List Value)(off:Nat)(l:List Value):Prop:= ∀j v,l[j]? = some v->vs[off+j]? = some v
def recs {α:Type}(c:α->List Value)(l:List α):List Value:=(l.map c).flatten
theorem Na {α:Type}{c:α->List Value}{k:Nat}(hk : ∀a,(c a).length=k)(l:List α):(recs c l).length=l.length*k:=by
 induction l with
 | nil=>simp [recs]
 | cons a r ih=>
  have:recs c (a::r)=c a++recs c r:=rfl
  rw [this,aG,ih,hk,aZ,aX]
  omega
theorem Nb {α:Type}{c:α->List Value}{k:Nat}(hk : ∀a,(c a).length=k) : ∀(l:List α) (i:Nat) (h:i<l.length),Seg (recs c l) (i*k) (c l[i]):=by
 intro l
 induction l with
 | nil=>intro i h;simp at h
 | cons a r ih=>
  intro i h j v hj
  have e:recs c (a::r)=c a++recs c r:=rfl
  have hjk:j<k:=by
   have:=(aF.1 hj).1
   rwa [hk]at this
  cases i with
  | zero=>
   simp only [List.getElem_cons_zero]at hj
   rw [e,eG,aJ,cO (by rw [hk];exact hjk)]
   exact hj
  | succ i=>
   simp only [List.getElem_cons_succ]at hj
   have:=ih i aaU j v hj
   rw [e,bY (by rw [hk,aX];omega),hk]
   rw [show (i+1)*k+j-k=i*k+j by rw [aX];omega]
   exact this
theorem Fh (a:List Value) : ∀(vs:List Value) (b c:List Value),vs.length=b.length->qw (a++b++c) a.length vs=a++vs++c:=by
 intro vs
 induction vs generalizing a with
 | nil=>
  intro b c h
  have:b = []:=by simpa using h.symm
  subst this;simp [qw]
 | cons v r ih=>
  intro b c h
  cases b with
  | nil=>simp at h
  | cons x b=>
   simp only [qw]
   have e:(a++x::b++c).set a.length v=(a++ [v])++b++c:=aaA
   rw [e]
   have:=ih (a++ [v]) b c aaU
   simp only [aG,aZ,dw,aJ]at this
   rw [this]
   simp
section
variable {P:Program}{w:World}{K:Value->World->Prop}
end
def At (w:World)(b o:Nat)(vs:List Value):Prop:= ∀j v,vs[j]? = some v->w.cell? ⟨b,o+j,none⟩=some v
theorem At.below {w w':World}{b o B:Nat}{vs:List Value}(h:At w b o vs)(hB:Below B w w')(hb:b<B):At w' b o vs:=fun j v hj=>by rw [hB.cell (p:=⟨b,o+j,none⟩) hb];exact h j v hj
theorem At.only {w w':World}{b o c:Nat}{vs:List Value}(h:At w b o vs)(hO:Only c w w')(hb:b≠c):At w' b o vs:=fun j v hj=>by
 have:=h j v hj
 unfold World.cell? at this ⊢
 simp only at this ⊢
 rw [hO.block b hb];exact this
theorem At.drew {w:World}{b o:Nat}{vs:List Value}(h:At w b o vs):At w.drew b o vs:=h
theorem oH.at {w:World}{b:Nat}{l:List Value}{t:TypeId}(h:oH w b l t):At w b 0 l:=fun j v hj=>by rw [aJ,h.cell];exact hj
theorem Row.at {w:World}{oa:Option Addr}{vs:List Value}(h:Row w oa vs)(hne:0<vs.length) : ∃b o,oa=some ⟨b,o,none⟩∧b<w.heap.size∧At w b o vs:=h.get hne
section
variable {P:Program}{w:World}{K:Value->World->Prop}
theorem Fj {t:TypeId}{b o j:Nat}{vs:List Value}{v:Value}(hr:At w b o vs)(hv:vs[j]? = some v)(ha:tJ P t=some false)(k:K v w):kG P (loadVar t ⟨b,o+j,none⟩) w K:=
 lH ha (hr j v hv) k
theorem Fp {t:TypeId}{b o off j:Nat}{vs l:List Value}{v:Value}(hr:At w b o vs)(hg:Seg vs off l)(hv:l[j]? = some v)(ha:tJ P t=some false)(k:K v w):kG P (loadVar t ⟨b,o+off+j,none⟩) w K:=
 lH ha (by rw [dS];exact hr _ _ (hg j v hv)) k
theorem CV {t:TypeId}{b o off:Nat}{vs l:List Value}{v:Value}(hr:At w b o vs)(hg:Seg vs off l)(hv:l[0]? = some v)(ha:tJ P t=some false)(k:K v w):kG P (loadVar t ⟨b,o+off,none⟩) w K:=
 lH ha (hr _ _ (hg 0 v hv)) k
theorem Nc {t e:TypeId}{sz b o n c:Nat}{k:IntKind}{ix:Int}(m:Nat)(hm:ix=m)(hu:P.underlying t=some (.slice e))(hs:szB P e=some sz)(h:m<n)
  (hk:K (.pointer (some ⟨b,o+m*sz,none⟩)) w):kG P (Instr.indexAt t (.slice (some ⟨b,o,none⟩) n c) (.int k ix)) w K:=Fg m hu hs hm h hk
theorem zn {t e:TypeId}{b o n c:Nat}{k:IntKind}{ix:Int}(m:Nat)(hm:ix=m)(hu:P.underlying t=some (.slice e))(hs:szB P e=some 1)(h:m<n)
  (hk:K (.pointer (some ⟨b,o+m,none⟩)) w):kG P (Instr.indexAt t (.slice (some ⟨b,o,none⟩) n c) (.int k ix)) w K:=vP m hu hs hm h hk
end
def Ints (l:List Value)(n:Nat)(f:Nat->Int):Prop:=l.length=n∧∀j,j<n->l[j]? = some (.int .i64 (f j))
theorem Ints.set {l:List Value}{m:Nat}{f:Nat->Int}(h:Ints l m f)(n:Nat)(x:Int)(hn:n<m):Ints (l.set n (.int .i64 x)) m (fun j=>if j=n then x else f j):=by
 refine⟨by rw [bC];exact h.1,fun j hj=> ?_⟩
 by_cases e:j=n
 ·subst e
  rw [bV (by rw [h.1];exact hj)]
  simp
 ·rw [fV (fun x=>e x.symm),h.2 j hj]
  simp only [if_neg e]
theorem Ints.congr {l:List Value}{m:Nat}{f g:Nat->Int}(h:Ints l m f)(e : ∀j,j<m->f j=g j):Ints l m g:=⟨h.1,fun j hj=>by rw [<-e j hj];exact h.2 j hj⟩
theorem Ints.one {l:List Value}{m:Nat}{f:Nat->Int}(h:Ints l m f):l.all (·.oneCell')=true:=bf.2 fun x hx=>by
 obtain⟨k,hk⟩:=bI.1 hx
 have hk2:=(aF.1 hk).1
 rw [h.2 k (by rw [h.1]at hk2;exact hk2)]at hk
 injection hk with hk
 rw [<-hk];rfl
theorem QD (n:Nat)(v:Value):(List.replicate n [v]).flatten=List.replicate n v:=by
 induction n with
 | zero=>rfl
 | succ n ih=>rw [dQ,gK,ih,dQ];rfl
theorem Vq {P:Program}{w:World}{K:Value->World->Prop}{src dst e:TypeId}{s:ByteArray}(hs:P.underlying src=some .string)(hd:P.underlying dst=some (.slice e))(he:P.underlying e=some (.int .u8))
  (k : ∀c w',s.data.toList.length<=c->Row w' (some ⟨w.heap.size,0,none⟩) (kV s.data.toList)->Below w.heap.size w w'->K (.slice (some ⟨w.heap.size,0,none⟩) s.data.toList.length c) w') :
  kG P (convert src dst (.string s)) w K:=by
 have hr:=run_bytes_of_string (P:=P) w src dst e s hs hd he
 have hsz:s.data.toList.length=s.size:=aaA
 have hk:=k (grownCap w s.size 0 e) (w.drew.alloc (.cells (bytesRow s (grownCap w s.size 0 e)) e ((bytesRow s (grownCap w s.size 0 e)).size,(bytesRow s (grownCap w s.size 0 e)).size+1))) ?_ ?_ ?_
 ·rw [hsz]at hk
  exact lJ hr hk
 ·rw [hsz];exact grownCap_ge _ _ _ _
 ·refine .inr ⟨w.heap.size,0,rfl,by simp,fun j v hj=> ?_⟩
  have hjl:j<s.data.size:=by
   have:=(aF.1 hj).1
   simpa [kV]using this
  have hv:v = .int .u8 (s.data[j].toNat:Int):=by
   have:=qF (l:=s.data.toList) (j:=j) (by simpa using hjl)
   rw [this]at hj
   injection hj with hj
   rw [<-hj];simp
  rw [aJ,hv]
  have h2:=bytesRow_at s (grownCap w s.size 0 e) j hjl
  unfold World.cell?
  rw [show (w.drew.alloc (.cells (bytesRow s (grownCap w s.size 0 e)) e ((bytesRow s (grownCap w s.size 0 e)).size,(bytesRow s (grownCap w s.size 0 e)).size+1))).heap[w.heap.size]? = some (.cells (bytesRow s (grownCap w s.size 0 e)) e ((bytesRow s (grownCap w s.size 0 e)).size,(bytesRow s (grownCap w s.size 0 e)).size+1))from heap_alloc_new w.drew _]
  simpa using h2
 ·exact Below.alloc (CU (Below.refl _ _)) (ay _) _
def loS (oa:Option Addr)(lo sz c:Nat):Option Addr:=if c=lo then oa else oa.map (·.add (lo*sz))
theorem Il {P:Program}{w:World}{K:Value->World->Prop}{t E:TypeId}{n c lo sz:Nat}{oa:Option Addr}{kl:IntKind}{li:Int}(ht:P.underlying t=some (.slice E))(hs:szB P E=some sz)
  (he:li=lo) (hh:lo<=n) (k:K (.slice (loS oa lo sz c) (n-lo) (c-lo)) w):kG P (Instr.sliceAt t (.slice oa n c) (some (.int kl li)) none none) w K:=by
 refine lJ ?_ k
 subst he
 have h1:(0:Int)<=lo∧(lo:Int)<=n:=⟨by omega,by omega⟩
 unfold Instr.sliceAt
 rw [Sem.run_bind,jR ht]
 simp only [Result.andThen_ok]
 unfold Instr.slice
 rw [Sem.run_bind,jR ht]
 simp only [Result.andThen_ok,Instr.sliceBounds,Instr.sliceBound,asIntOf,Sem.run_bind,Sem.run_pure,if_pos h1,mM hs]
 simp [loS]
theorem Own.blk {w:World}{B:Nat}{E:TypeId}{sz:Nat}{oa:Option Addr}{n c:Nat}{xs:List Value}(h:Own w B E sz oa n c xs)(hn:0<n) :
  ∃g cur,oa=some ⟨g,0,none⟩∧B<=g∧oH w g cur E∧n<=c∧c<=maxLen∧cur.length=c*sz∧cur.take (n*sz)=xs:=by
 rcases h.2 with ⟨_,h0⟩|⟨g,cap,cur,hv,hg,hh,h1,h2,h3,h4⟩
 ·omega
 ·injection hv with e1 e2 e3
  subst e3
  exact⟨g,cur.toList,e1,hg,by unfold oH;rw [hh],h1,h2,by simpa using h3,h4⟩
theorem Own.wQ {w:World}{B g:Nat}{E:TypeId}{sz n c:Nat}{cur xs:List Value}(hb:oH w g cur E)(hg:B<=g)(h1:n<=c)(h2:c<=maxLen)(h3:cur.length=c*sz)(h4:cur.take (n*sz)=xs) :
  Own w B E sz (some ⟨g,0,none⟩) n c xs:=by
 have hl:n*sz<=c*sz:=aP _ h1
 refine⟨by rw [<-h4,aU];omega, .inr ⟨g,c,cur.toArray,rfl,hg,hb,h1,h2,by simpa using h3,by simpa using h4⟩⟩
theorem Own.only {w w':World}{B k:Nat}{E:TypeId}{sz:Nat}{oa:Option Addr}{n c:Nat}{xs:List Value}(h:Own w B E sz oa n c xs)(hO:Only k w w')(hne : ∀g,oa=some ⟨g,0,none⟩->g≠k):Own w' B E sz oa n c xs:=by
 rcases bH n with e|e
 ·rcases h.2 with ⟨h1,h0⟩|⟨g,cap,cur,hv,hg,hh,h1,h2,h3,h4⟩
  ·exact⟨h.1, .inl ⟨h1,h0⟩⟩
  ·injection hv with e1 e2 e3
   exact⟨h.1, .inr ⟨g,cap,cur,by rw [e1,e3],hg,by rw [hO.block g (hne g e1)];exact hh,h1,h2,h3,h4⟩⟩
 ·obtain⟨g,cur,e1,hB,hb,h1,h2,h3,h4⟩:=h.blk e
  subst e1
  exact Own.wQ (hb.only hO (hne g rfl)) hB h1 h2 h3 h4
theorem Own.at {w:World}{B g:Nat}{E:TypeId}{sz n c:Nat}{xs:List Value}(h:Own w B E sz (some ⟨g,0,none⟩) n c xs):At w g 0 xs:=fun j v hj=>by
 have hl:=h.len
 have hn:0<n:=by
  have:=(aF.1 hj).1
  rcases bH n with e|e
  ·subst e;omega
  ·exact e
 obtain⟨g',cur,e,hB,hb,h1,h2,h3,h4⟩:=h.blk hn
 injection e with e
 injection e with e
 subst e
 rw [aJ,hb.cell]
 rw [<-h4,aW]at hj
 split at hj
 ·exact hj
 ·cases hj
def Nh (P:Program)(xs ys:List Value):List Field->Option Bool
 | []=>some true
 | f::fs=>
  bif f.name != "_" then
   match tJ P f.type,P.underlying f.type,xs[f.offset]?,ys[f.offset]?,Nh P xs ys fs with
   | some false,some (.int _),some (.int k a),some (.int k' b),some r=>bif decide (k=k')then some (a==b&&r)else none
   | some false,some .string,some (.string a),some (.string b),some r=>some (qU a b&&r)
   | some false,some .bool,some (.bool a),some (.bool b),some r=>some ((a==b)&&r)
   | _,_,_,_,_=>none
  else none
theorem Nj {P:Program}{w:World}(d:Nat)(xs ys:List Value) : ∀(fs:List Field) (b:Bool),Nh P xs ys fs=some b->(Op.eqFields (d+1) xs.toArray ys.toArray fs).run P w = .ok b w:=by
 intro fs
 induction fs with
 | nil=>intro b h;simp only [Nh,aA]at h;subst h;rfl
 | cons f fs ih=>
  intro b h
  simp only [Nh]at h
  cases hn:f.name != "_" with
  | false=>rw [hn]at h;cases h
  | true=>
   rw [hn,cond_true]at h
   have hn':f.name≠ "_" :=by simpa using hn
   have pp : ∀(zs:List Value) (v:Value),tJ P f.type=some false->zs[f.offset]? = some v->(part f.type zs.toArray f.offset).run P w = .ok v w:=fun zs v ha hv=>by
    unfold part
    rw [Sem.run_bind,ou ha]
    simp [hv]
   split at h
   ·rename_i k0 k a k' b' r ha hu hx hy hr
    by_cases hk:k=k'
    ·subst hk
     simp only [decide_true,cond_true,aA]at h
     subst h
     simp only [Op.eqFields,if_pos hn',Sem.run_bind,pp _ _ ha hx,pp _ _ ha hy,Result.andThen_ok,run_equalIn_int w d f.type k k0 a b' hu]
     cases hab:(a==b')with
     | true=>simpa using ih r hr
     | false=>simp
    ·simp [hk]at h
   ·rename_i a b' r ha hu hx hy hr
    simp only [aA]at h
    subst h
    simp only [Op.eqFields,if_pos hn',Sem.run_bind,pp _ _ ha hx,pp _ _ ha hy,Result.andThen_ok,run_equalIn_string w d f.type a b' hu]
    have e:qU a b'=(a.toList==b'.toList):=rfl
    cases hab:qU a b' with
    | true=>rw [e]at hab;rw [hab];simpa using ih r hr
    | false=>rw [e]at hab;rw [hab];simp
   ·rename_i a b' r ha hu hx hy hr
    simp only [aA]at h
    subst h
    simp only [Op.eqFields,if_pos hn',Sem.run_bind,pp _ _ ha hx,pp _ _ ha hy,Result.andThen_ok,run_equalIn_bool' w d f.type a b' hu]
    cases hab:(a==b')with
    | true=>simpa using ih r hr
    | false=>simp
   ·cases h
def eqF (P:Program)(xs ys:List Value):List Field->Option Bool
 | []=>some true
 | f::fs=>
  bif f.name != "_" then
   match tJ P f.type,P.underlying f.type,xs[f.offset]?,ys[f.offset]?,eqF P xs ys fs with
   | some false,some (.int _),some (.int k a),some (.int k' b),some r=>bif decide (k=k')then some (a==b&&r)else none
   | some false,some .string,some (.string a),some (.string b),some r=>some (qU a b&&r)
   | some false,some .bool,some (.bool a),some (.bool b),some r=>some ((a==b)&&r)
   | some true,some (.struct fs'),_,_,some r=>(match szB P f.type with
    | some k=>bif P.stoodInHeld f.type then none else(match Nh P ((xs.drop f.offset).take k) ((ys.drop f.offset).take k) fs'.toList with
     | some b=>some (b&&r)
     | none=>none)
    | none=>none)
   | _,_,_,_,_=>none
  else none
theorem yO {P:Program}{w:World}{t:TypeId}{o k:Nat}(zs:List Value)(ha:tJ P t=some true)(hs:szB P t=some k):(part t zs.toArray o).run P w = .ok (.agg ((zs.drop o).take k).toArray) w:=by
 obtain⟨i,hi,hik⟩:=lY hs
 simp only [part,Sem.run_bind,Sem.run_pure,Result.andThen_ok,ou ha,if_true,sizeOf,oK hi]
 congr 2
 apply gU
 simp [hik]
theorem Jy {P:Program}{w:World}(d:Nat)(xs ys:List Value) : ∀(fs:List Field) (b:Bool),eqF P xs ys fs=some b->(Op.eqFields (d+2) xs.toArray ys.toArray fs).run P w = .ok b w:=by
 intro fs
 induction fs with
 | nil=>intro b h;simp only [eqF,aA]at h;subst h;rfl
 | cons f fs ih=>
  intro b h
  simp only [eqF]at h
  cases hn:f.name != "_" with
  | false=>rw [hn]at h;cases h
  | true=>
   rw [hn,cond_true]at h
   have hn':f.name≠ "_" :=by simpa using hn
   have pp : ∀(zs:List Value) (v:Value),tJ P f.type=some false->zs[f.offset]? = some v->(part f.type zs.toArray f.offset).run P w = .ok v w:=fun zs v ha hv=>by
    unfold part
    rw [Sem.run_bind,ou ha]
    simp [hv]
   split at h
   ·rename_i k0 k a k' b' r ha hu hx hy hr
    by_cases hk:k=k'
    ·subst hk
     simp only [decide_true,cond_true,aA]at h
     subst h
     simp only [Op.eqFields,if_pos hn',Sem.run_bind,pp _ _ ha hx,pp _ _ ha hy,Result.andThen_ok,run_equalIn_int w (d+1) f.type k k0 a b' hu]
     cases hab:(a==b')with
     | true=>simpa using ih r hr
     | false=>simp
    ·simp [hk]at h
   ·rename_i a b' r ha hu hx hy hr
    simp only [aA]at h
    subst h
    simp only [Op.eqFields,if_pos hn',Sem.run_bind,pp _ _ ha hx,pp _ _ ha hy,Result.andThen_ok,run_equalIn_string w (d+1) f.type a b' hu]
    have e:qU a b'=(a.toList==b'.toList):=rfl
    cases hab:qU a b' with
    | true=>rw [e]at hab;rw [hab];simpa using ih r hr
    | false=>rw [e]at hab;rw [hab];simp
   ·rename_i a b' r ha hu hx hy hr
    simp only [aA]at h
    subst h
    simp only [Op.eqFields,if_pos hn',Sem.run_bind,pp _ _ ha hx,pp _ _ ha hy,Result.andThen_ok,run_equalIn_bool' w (d+1) f.type a b' hu]
    cases hab:(a==b')with
    | true=>simpa using ih r hr
    | false=>simp
   ·rename_i fs' r ha hu hr
    split at h
    ·rename_i k hs
     cases hp:P.stoodInHeld f.type with
     | true=>rw [hp]at h;cases h
     | false=>
      rw [hp,cond_false]at h
      split at h
      ·rename_i b0 h0
       simp only [aA]at h
       subst h
       have hf:P.fieldsOf f.type=fs':=by unfold Program.fieldsOf;rw [hu]
       have hu':P.underlying f.type=some (.struct (P.fieldsOf f.type)):=by rw [hf];exact hu
       have hrun:=Nj (P:=P) (w:=w) d _ _ fs'.toList b0 h0
       rw [<-hf]at hrun
       simp only [Op.eqFields,if_pos hn',Sem.run_bind,yO xs ha hs,yO ys ha hs,Result.andThen_ok,run_equalIn_struct w (d+1) f.type _ _ hu' hp,hrun]
       cases b0 with
       | true=>simpa using ih r hr
       | false=>simp
      ·cases h
    ·cases h
   ·cases h
theorem Vr {P:Program}{w:World}{K:Value->World->Prop}{t:TypeId}{x y:Operand}{xs ys:List Value}{b:Bool}(hg:P.eqGuardType P.depth t=false)(hp:P.stoodInHeld t=false)
  (hu:P.underlying t=some (.struct (P.fieldsOf t))) (he:eqF P xs ys (P.fieldsOf t).toList=some b) (k:K (.bool (!b)) w) :
  kG P (do eqGuard .neq t x y (.agg xs.toArray) (.agg ys.toArray);binOp .neq t (.agg xs.toArray) (.agg ys.toArray)) w K:=by
 refine lJ ?_ k
 rw [Sem.run_bind,run_eqGuard_agg w .neq t x y _ _ hg,Result.andThen_ok,run_neq_struct,run_equalIn_struct w 9999 t _ _ hu hp,Jy 9997 xs ys _ b he]
 rfl
theorem Vs {P:Program}{w:World}{K:Value->World->Prop}{t:TypeId}{x y:Operand}{xs ys:List Value}{b:Bool}(hg:P.eqGuardType P.depth t=false)(hp:P.stoodInHeld t=false)
  (hu:P.underlying t=some (.struct (P.fieldsOf t))) (he:eqF P xs ys (P.fieldsOf t).toList=some b) (k:K (.bool b) w) :
  kG P (do eqGuard .eql t x y (.agg xs.toArray) (.agg ys.toArray);binOp .eql t (.agg xs.toArray) (.agg ys.toArray)) w K:=by
 refine lJ ?_ k
 rw [Sem.run_bind,run_eqGuard_agg w .eql t x y _ _ hg,Result.andThen_ok,run_eql_struct,run_equalIn_struct w 9999 t _ _ hu hp,Jy 9997 xs ys _ b he]
 rfl
theorem Io {x:Int}(h:0<=x) : ∃n:Nat,x=(n:Int):=⟨x.toNat,by omega⟩
theorem zY {x:Int}(h1 : -9223372036854775808<=x)(h2:x<=9223372036854775807):IntKind.i64.wrap x=x:=IntWalk.i64_in _ ⟨h1,h2⟩
def oL (w:World)(b:Nat)(F:ByteArray->Option Value):Prop:=
 ∃es clock,w.heap[b]? = some (.map es clock)∧(∀x∈es.toList,MapKept.IsKey .string x.key)∧(es.toList.map (·.key)).Nodup∧∀k v,F k=some v↔∃x∈es.toList,x.key = .string k∧x.val=v
theorem oL.lt {w:World}{b:Nat}{F:ByteArray->Option Value}(h:oL w b F):b<w.heap.size:=let ⟨_,_,hb,_⟩:=h;(bM.1 hb).1
theorem oL.below {w w':World}{b B:Nat}{F:ByteArray->Option Value}(h:oL w b F)(hB:Below B w w')(hb:b<B):oL w' b F:=
 let ⟨es,c,h1,h2⟩:=h;⟨es,c,(hB.block b hb).trans h1,h2⟩
theorem oL.only {w w':World}{b k:Nat}{F:ByteArray->Option Value}(h:oL w b F)(hO:Only k w w')(hb:b≠k):oL w' b F:=
 let ⟨es,c,h1,h2⟩:=h;⟨es,c,(hO.block b hb).trans h1,h2⟩
theorem oL.quiet {w w':World}{b:Nat}{F:ByteArray->Option Value}(h:oL w b F)(hQ:Quiet w w'):oL w' b F:=
 let ⟨es,c,h1,h2⟩:=h;⟨es,c,by rw [hQ.heap];exact h1,h2⟩
theorem oL.heap {w w':World}{b:Nat}{F:ByteArray->Option Value}(h:oL w b F)(e:w'.heap[b]? = w.heap[b]?):oL w' b F:=
 let ⟨es,c,h1,h2⟩:=h;⟨es,c,e.trans h1,h2⟩
theorem oL.drew {w:World}{b:Nat}{F:ByteArray->Option Value}(h:oL w b F):oL w.drew b F:=h
theorem oL.congr {w:World}{b:Nat}{F G:ByteArray->Option Value}(h:oL w b F)(e : ∀k,F k=G k):oL w b G:=
 let ⟨es,c,h1,h2,h3,h4⟩:=h;⟨es,c,h1,h2,h3,fun k v=>by rw [<-e k];exact h4 k v⟩
section
variable {P:Program}{w:World}{K:Value->World->Prop}
theorem Ip {t:TypeId}(k : ∀w',Below w.heap.size w w'->oL w' w.heap.size (fun _=>none)->K (.map (some w.heap.size)) w'):kG P (Instr.makeMap t none) w K:=by
 refine lJ (run_makeMap t w) (k _ (nR (Below.refl _ _) (ay _) _) ⟨#[],0,heap_alloc_new w _,by simp,by simp,by simp⟩)
theorem oL.find {F:ByteArray->Option Value}{kt:TypeId}{k:ByteArray}(hk:P.underlying kt=some .string){es:Array MapEntry}{c:Nat}
  (h2 : ∀x∈es.toList,MapKept.IsKey .string x.key) (h3:(es.toList.map (·.key)).Nodup) (h4 : ∀k v,F k=some v↔∃x∈es.toList,x.key = .string k∧x.val=v) :
  (F k=none∧(Instr.findKey kt (.string k) es.toList).run P w = .ok none w∧∀x∈es.toList,x.key≠ .string k)∨
  ∃j e,F k=some e.val∧(Instr.findKey kt (.string k) es.toList).run P w = .ok (some (j,e.val)) w∧es[j]? = some e∧e.key = .string k:=by
 rcases MapKept.findNow_spec (d:= .string) (k:= .string k) trivial es.toList 0 h2 with ⟨hf,hn⟩|⟨j,e,hf,he,hek⟩
 ·refine .inl ⟨?_,MapKept.run_findKey hk hf,hn⟩
  cases hF:F k with
  | none=>rfl
  | some v=>obtain⟨x,hx,e1,_⟩:=(h4 k v).1 hF;exact absurd e1 (hn x hx)
 ·refine .inr ⟨j,e,(h4 k e.val).2 ⟨e,bI.2 ⟨j,he⟩,hek,rfl⟩,by rw [aJ]at hf;exact MapKept.run_findKey hk hf,by simpa using he,hek⟩
theorem wR {t kt et:TypeId}{b:Nat}{F:ByteArray->Option Value}{k:ByteArray}{z:Value}(ht:P.underlying t=some (.map kt et))(hk:P.underlying kt=some .string)(hz:(P.info? et).bind (·.zero)=some z)(h:oL w b F)
  (c:K (.tuple #[(F k).getD z, .bool (F k).isSome]) w):kG P (Instr.lookup t (.map (some b)) (.string k) true) w K:=by
 obtain⟨es,cl,hb,h2,h3,h4⟩:=h
 have hc:(Instr.checkKey es.isEmpty 10000 kt (.string k)).run P w = .ok () w:=MapKept.run_checkKey (k:= .string k) hk aa6 _ 9999
 rcases oL.find (P:=P) (w:=w) (k:=k) hk (c:=cl) h2 h3 h4 with ⟨hF,hr,_⟩|⟨j,e,hF,hr,_⟩
 ·rw [hF]at c
  refine lJ ?_ c
  simp [Instr.lookup,jR ht,MapKept.run_getObj_map hb,hc,hr,tV hz]
 ·rw [hF]at c
  refine lJ ?_ c
  simp [Instr.lookup,jR ht,MapKept.run_getObj_map hb,hc,hr]
theorem uG {t kt et:TypeId}{b:Nat}{F:ByteArray->Option Value}{k:ByteArray}{z:Value}(ht:P.underlying t=some (.map kt et))(hk:P.underlying kt=some .string)(hz:(P.info? et).bind (·.zero)=some z)(h:oL w b F)
  (c:K ((F k).getD z) w):kG P (Instr.lookup t (.map (some b)) (.string k) false) w K:=by
 obtain⟨es,cl,hb,h2,h3,h4⟩:=h
 have hc:(Instr.checkKey es.isEmpty 10000 kt (.string k)).run P w = .ok () w:=MapKept.run_checkKey (k:= .string k) hk aa6 _ 9999
 rcases oL.find (P:=P) (w:=w) (k:=k) hk (c:=cl) h2 h3 h4 with ⟨hF,hr,_⟩|⟨j,e,hF,hr,_⟩
 ·rw [hF]at c
  refine lJ ?_ c
  simp [Instr.lookup,jR ht,MapKept.run_getObj_map hb,hc,hr,tV hz]
 ·rw [hF]at c
  refine lJ ?_ c
  simp [Instr.lookup,jR ht,MapKept.run_getObj_map hb,hc,hr]
theorem Jz {K:World->Prop}{t kt et:TypeId}{b:Nat}{F:ByteArray->Option Value}{k:ByteArray}{v:Value}(ht:P.underlying t=some (.map kt et))(hk:P.underlying kt=some .string)(h:oL w b F)
  (c : ∀w',Only b w w'->oL w' b (fun k'=>if k'=k then some v else F k')->K w'):rD P (Instr.mapUpdate t (.map (some b)) (.string k) v) w K:=by
 obtain⟨es,cl,hb,h2,h3,h4⟩:=h
 have hbl:b<w.heap.size:=(bM.1 hb).1
 have hc:(Instr.checkKey false 10000 kt (.string k)).run P w = .ok () w:=MapKept.run_checkKey (k:= .string k) hk aa6 _ 9999
 have only : ∀o,Only b w {w with heap:=w.heap.setIfInBounds b o}:=fun o=>⟨rfl,rfl,rfl,by simp,fun j hj=>by simp [eX (jE hj)]⟩
 have self : ∀o,({w with heap:=w.heap.setIfInBounds b o} : World).heap[b]? = some o:=fun o=>by simp [hbl]
 rcases oL.find (P:=P) (w:=w) (k:=k) hk (c:=cl) h2 h3 h4 with ⟨hF,hr,hn⟩|⟨j,e,hF,hr,hj,hek⟩
 ·refine⟨(),_, ?_,c _ (only (.map (es.push {key:= .string k,val:=v,born:=cl}) (cl+1))) ⟨_,_,self _, ?_, ?_, ?_⟩⟩
  ·simp [Instr.mapUpdate,jR ht,MapKept.run_getObj_map hb,hc,hr,MapKept.run_setObj_map _ hb]
  ·intro x hx
   simp only [eP,dU,bP]at hx
   rcases hx with hx|rfl
   ·exact h2 x hx
   ·trivial
  ·simp only [eP,bK,fJ,iV]
   refine List.nodup_append.2 ⟨h3,by simp, ?_⟩
   intro a ha b hb
   simp only [bP]at hb
   subst hb
   obtain⟨x,hx,rfl⟩:=dH.1 ha
   exact hn x hx
  ·intro k' v'
   by_cases e:k'=k
   ·subst e
    simp only [if_true,aA,eP,dU,bP]
    constructor
    ·rintro rfl;exact⟨_, .inr rfl,rfl,rfl⟩
    ·rintro⟨x,hx|rfl,e1,e2⟩
     ·exact absurd e1 (hn x hx)
     ·exact e2
   ·simp only [if_neg e,eP,dU,bP]
    rw [h4]
    constructor
    ·rintro⟨x,hx,e1,e2⟩;exact⟨x, .inl hx,e1,e2⟩
    ·rintro⟨x,hx|rfl,e1,e2⟩
     ·exact⟨x,hx,e1,e2⟩
     ·injection e1 with e1;exact absurd e1.symm e
 ·have hks:Instr.sameBits 10000 e.key (.string k)=true:=by rw [hek];exact(MapKept.bytes_beq k k).2 rfl
  have hkey : ∀x∈(es.modify j fun e=> {e with key:= .string k,val:=v}).toList,x.key∈es.toList.map (·.key):=fun x hx=>by
   have:x.key∈(es.modify j fun e=> {e with key:= .string k,val:=v}).toList.map (·.key):=dH.2 ⟨x,hx,rfl⟩
   rwa [MapKept.modify_keys j _ fun e' he'=>by rw [hj]at he';injection he' with he';subst he';exact hek.symm]at this
  refine⟨(),_, ?_,c _ (only (.map (es.modify j fun e=> {e with key:= .string k,val:=v}) cl)) ⟨_,_,self _, ?_, ?_, ?_⟩⟩
  ·simp [Instr.mapUpdate,jR ht,MapKept.run_getObj_map hb,hc,hr,hj,Instr.keyThatStays,hks,MapKept.run_setObj_map _ hb]
  ·exact MapKept.isKey_modify h2 j _ fun e' he'=>by rw [hj]at he';injection he' with he';subst he';exact hek.symm
  ·rw [MapKept.modify_keys j _ fun e' he'=>by rw [hj]at he';injection he' with he';subst he';exact hek.symm];exact h3
  ·intro k' v'
   have hmod : ∀i,(es.modify j fun e=> {e with key:= .string k,val:=v}).toList[i]? = if j=i then(es[i]?).map (fun e=> {e with key:= .string k,val:=v})else es[i]? :=fun i=>by
    rw [aT,iJ]
   have uniq : ∀i x,es[i]? = some x->x.key = .string k->i=j:=fun i x hx hxk=>by
    have hi:i<(es.toList.map (·.key)).length:=by
     have:=(bM.1 hx).1
     simpa using this
    refine(List.getElem?_inj hi h3).1 ?_
    rw [aI,aI,aT,aT,hx,hj]
    simp [hxk,hek]
   constructor
   ·intro hv
    have hv:(if k'=k then some v else F k')=some v':=hv
    by_cases e':k'=k
    ·rw [if_pos e']at hv
     injection hv with hv
     subst hv;subst e'
     exact⟨_,bI.2 ⟨j,by rw [hmod,if_pos rfl,hj];rfl⟩,rfl,rfl⟩
    ·rw [if_neg e']at hv
     obtain⟨x,hx,e1,e2⟩:=(h4 k' v').1 hv
     obtain⟨i,hi⟩:=bI.1 hx
     rw [aT]at hi
     have hij : ¬j=i:=fun q=>by
      subst q
      rw [hj]at hi
      injection hi with hi
      subst hi
      rw [hek]at e1
      injection e1 with e1
      exact e' e1.symm
     exact⟨x,bI.2 ⟨i,by rw [hmod,if_neg hij];exact hi⟩,e1,e2⟩
   ·rintro⟨x,hx,e1,e2⟩
    obtain⟨i,hi⟩:=bI.1 hx
    rw [hmod]at hi
    by_cases hij:j=i
    ·subst hij
     rw [if_pos rfl,hj]at hi
     simp only [bn,aA]at hi
     subst hi
     injection e1 with e1
     show (if k'=k then some v else F k')=some v'
     rw [if_pos e1.symm]
     exact congrArg some e2
    ·rw [if_neg hij]at hi
     have e' : ¬k'=k:=fun q=>hij (uniq i x hi (by rw [e1,q])).symm
     show (if k'=k then some v else F k')=some v'
     rw [if_neg e']
     exact(h4 k' v').2 ⟨x,bI.2 ⟨i,by rw [aT];exact hi⟩,e1,e2⟩
end
def o7 (w:World)(b:Nat)(F:Int->Option Value):Prop:=
 ∃es clock,w.heap[b]? = some (.map es clock)∧(∀x∈es.toList,MapKept.IsKey (.int .i64) x.key)∧(es.toList.map (·.key)).Nodup∧∀k v,F k=some v↔∃x∈es.toList,x.key=(.int .i64 k)∧x.val=v
theorem o7.lt {w:World}{b:Nat}{F:Int->Option Value}(h:o7 w b F):b<w.heap.size:=let ⟨_,_,hb,_⟩:=h;(bM.1 hb).1
theorem o7.below {w w':World}{b B:Nat}{F:Int->Option Value}(h:o7 w b F)(hB:Below B w w')(hb:b<B):o7 w' b F:=
 let ⟨es,c,h1,h2⟩:=h;⟨es,c,(hB.block b hb).trans h1,h2⟩
theorem o7.only {w w':World}{b k:Nat}{F:Int->Option Value}(h:o7 w b F)(hO:Only k w w')(hb:b≠k):o7 w' b F:=
 let ⟨es,c,h1,h2⟩:=h;⟨es,c,(hO.block b hb).trans h1,h2⟩
theorem o7.quiet {w w':World}{b:Nat}{F:Int->Option Value}(h:o7 w b F)(hQ:Quiet w w'):o7 w' b F:=
 let ⟨es,c,h1,h2⟩:=h;⟨es,c,by rw [hQ.heap];exact h1,h2⟩
theorem o7.heap {w w':World}{b:Nat}{F:Int->Option Value}(h:o7 w b F)(e:w'.heap[b]? = w.heap[b]?):o7 w' b F:=
 let ⟨es,c,h1,h2⟩:=h;⟨es,c,e.trans h1,h2⟩
theorem o7.drew {w:World}{b:Nat}{F:Int->Option Value}(h:o7 w b F):o7 w.drew b F:=h
theorem o7.congr {w:World}{b:Nat}{F G:Int->Option Value}(h:o7 w b F)(e : ∀k,F k=G k):o7 w b G:=
 let ⟨es,c,h1,h2,h3,h4⟩:=h;⟨es,c,h1,h2,h3,fun k v=>by rw [<-e k];exact h4 k v⟩
section
variable {P:Program}{w:World}{K:Value->World->Prop}
theorem Fq {t:TypeId}(k : ∀w',Below w.heap.size w w'->o7 w' w.heap.size (fun _=>none)->K (.map (some w.heap.size)) w'):kG P (Instr.makeMap t none) w K:=by
 refine lJ (run_makeMap t w) (k _ (nR (Below.refl _ _) (ay _) _) ⟨#[],0,heap_alloc_new w _,by simp,by simp,by simp⟩)
theorem o7.find {F:Int->Option Value}{kt:TypeId}{k:Int}(hk:P.underlying kt=some (.int .i64)){es:Array MapEntry}{c:Nat}
  (h2 : ∀x∈es.toList,MapKept.IsKey (.int .i64) x.key) (h3:(es.toList.map (·.key)).Nodup) (h4 : ∀k v,F k=some v↔∃x∈es.toList,x.key=(.int .i64 k)∧x.val=v) :
  (F k=none∧(Instr.findKey kt (.int .i64 k) es.toList).run P w = .ok none w∧∀x∈es.toList,x.key≠(.int .i64 k))∨
  ∃j e,F k=some e.val∧(Instr.findKey kt (.int .i64 k) es.toList).run P w = .ok (some (j,e.val)) w∧es[j]? = some e∧e.key=(.int .i64 k):=by
 rcases MapKept.findNow_spec (d:= .int .i64) (k:= .int .i64 k) rfl es.toList 0 h2 with ⟨hf,hn⟩|⟨j,e,hf,he,hek⟩
 ·refine .inl ⟨?_,MapKept.run_findKey hk hf,hn⟩
  cases hF:F k with
  | none=>rfl
  | some v=>obtain⟨x,hx,e1,_⟩:=(h4 k v).1 hF;exact absurd e1 (hn x hx)
 ·refine .inr ⟨j,e,(h4 k e.val).2 ⟨e,bI.2 ⟨j,he⟩,hek,rfl⟩,by rw [aJ]at hf;exact MapKept.run_findKey hk hf,by simpa using he,hek⟩
theorem Nk {t kt et:TypeId}{b:Nat}{F:Int->Option Value}{k:Int}{z:Value}(ht:P.underlying t=some (.map kt et))(hk:P.underlying kt=some (.int .i64))(hz:(P.info? et).bind (·.zero)=some z)(h:o7 w b F)
  (c:K (.tuple #[(F k).getD z, .bool (F k).isSome]) w):kG P (Instr.lookup t (.map (some b)) (.int .i64 k) true) w K:=by
 obtain⟨es,cl,hb,h2,h3,h4⟩:=h
 have hc:(Instr.checkKey es.isEmpty 10000 kt (.int .i64 k)).run P w = .ok () w:=MapKept.run_checkKey (k:= .int .i64 k) hk aa6 _ 9999
 rcases o7.find (P:=P) (w:=w) (k:=k) hk (c:=cl) h2 h3 h4 with ⟨hF,hr,_⟩|⟨j,e,hF,hr,_⟩
 ·rw [hF]at c
  refine lJ ?_ c
  simp [Instr.lookup,jR ht,MapKept.run_getObj_map hb,hc,hr,tV hz]
 ·rw [hF]at c
  refine lJ ?_ c
  simp [Instr.lookup,jR ht,MapKept.run_getObj_map hb,hc,hr]
theorem KO {t kt et:TypeId}{b:Nat}{F:Int->Option Value}{k:Int}{z:Value}(ht:P.underlying t=some (.map kt et))(hk:P.underlying kt=some (.int .i64))(hz:(P.info? et).bind (·.zero)=some z)(h:o7 w b F)
  (c:K ((F k).getD z) w):kG P (Instr.lookup t (.map (some b)) (.int .i64 k) false) w K:=by
 obtain⟨es,cl,hb,h2,h3,h4⟩:=h
 have hc:(Instr.checkKey es.isEmpty 10000 kt (.int .i64 k)).run P w = .ok () w:=MapKept.run_checkKey (k:= .int .i64 k) hk aa6 _ 9999
 rcases o7.find (P:=P) (w:=w) (k:=k) hk (c:=cl) h2 h3 h4 with ⟨hF,hr,_⟩|⟨j,e,hF,hr,_⟩
 ·rw [hF]at c
  refine lJ ?_ c
  simp [Instr.lookup,jR ht,MapKept.run_getObj_map hb,hc,hr,tV hz]
 ·rw [hF]at c
  refine lJ ?_ c
  simp [Instr.lookup,jR ht,MapKept.run_getObj_map hb,hc,hr]
theorem QE {K:World->Prop}{t kt et:TypeId}{b:Nat}{F:Int->Option Value}{k:Int}{v:Value}(ht:P.underlying t=some (.map kt et))(hk:P.underlying kt=some (.int .i64))(h:o7 w b F)
  (c : ∀w',Only b w w'->o7 w' b (fun k'=>if k'=k then some v else F k')->K w'):rD P (Instr.mapUpdate t (.map (some b)) (.int .i64 k) v) w K:=by
 obtain⟨es,cl,hb,h2,h3,h4⟩:=h
 have hbl:b<w.heap.size:=(bM.1 hb).1
 have hc:(Instr.checkKey false 10000 kt (.int .i64 k)).run P w = .ok () w:=MapKept.run_checkKey (k:= .int .i64 k) hk aa6 _ 9999
 have only : ∀o,Only b w {w with heap:=w.heap.setIfInBounds b o}:=fun o=>⟨rfl,rfl,rfl,by simp,fun j hj=>by simp [eX (jE hj)]⟩
 have self : ∀o,({w with heap:=w.heap.setIfInBounds b o} : World).heap[b]? = some o:=fun o=>by simp [hbl]
 rcases o7.find (P:=P) (w:=w) (k:=k) hk (c:=cl) h2 h3 h4 with ⟨hF,hr,hn⟩|⟨j,e,hF,hr,hj,hek⟩
 ·refine⟨(),_, ?_,c _ (only (.map (es.push {key:=(.int .i64 k),val:=v,born:=cl}) (cl+1))) ⟨_,_,self _, ?_, ?_, ?_⟩⟩
  ·simp [Instr.mapUpdate,jR ht,MapKept.run_getObj_map hb,hc,hr,MapKept.run_setObj_map _ hb]
  ·intro x hx
   simp only [eP,dU,bP]at hx
   rcases hx with hx|rfl
   ·exact h2 x hx
   ·rfl
  ·simp only [eP,bK,fJ,iV]
   refine List.nodup_append.2 ⟨h3,by simp, ?_⟩
   intro a ha b hb
   simp only [bP]at hb
   subst hb
   obtain⟨x,hx,rfl⟩:=dH.1 ha
   exact hn x hx
  ·intro k' v'
   by_cases e:k'=k
   ·subst e
    simp only [if_true,aA,eP,dU,bP]
    constructor
    ·rintro rfl;exact⟨_, .inr rfl,rfl,rfl⟩
    ·rintro⟨x,hx|rfl,e1,e2⟩
     ·exact absurd e1 (hn x hx)
     ·exact e2
   ·simp only [if_neg e,eP,dU,bP]
    rw [h4]
    constructor
    ·rintro⟨x,hx,e1,e2⟩;exact⟨x, .inl hx,e1,e2⟩
    ·rintro⟨x,hx|rfl,e1,e2⟩
     ·exact⟨x,hx,e1,e2⟩
     ·injection e1 with _ e1;exact absurd e1.symm e
 ·have hks:Instr.sameBits 10000 e.key (.int .i64 k)=true:=by rw [hek];simp [Instr.sameBits]
  have hkey : ∀x∈(es.modify j fun e=> {e with key:=(.int .i64 k),val:=v}).toList,x.key∈es.toList.map (·.key):=fun x hx=>by
   have:x.key∈(es.modify j fun e=> {e with key:=(.int .i64 k),val:=v}).toList.map (·.key):=dH.2 ⟨x,hx,rfl⟩
   rwa [MapKept.modify_keys j _ fun e' he'=>by rw [hj]at he';injection he' with he';subst he';exact hek.symm]at this
  refine⟨(),_, ?_,c _ (only (.map (es.modify j fun e=> {e with key:=(.int .i64 k),val:=v}) cl)) ⟨_,_,self _, ?_, ?_, ?_⟩⟩
  ·simp [Instr.mapUpdate,jR ht,MapKept.run_getObj_map hb,hc,hr,hj,Instr.keyThatStays,hks,MapKept.run_setObj_map _ hb]
  ·exact MapKept.isKey_modify h2 j _ fun e' he'=>by rw [hj]at he';injection he' with he';subst he';exact hek.symm
  ·rw [MapKept.modify_keys j _ fun e' he'=>by rw [hj]at he';injection he' with he';subst he';exact hek.symm];exact h3
  ·intro k' v'
   have hmod : ∀i,(es.modify j fun e=> {e with key:=(.int .i64 k),val:=v}).toList[i]? = if j=i then(es[i]?).map (fun e=> {e with key:=(.int .i64 k),val:=v})else es[i]? :=fun i=>by
    rw [aT,iJ]
   have uniq : ∀i x,es[i]? = some x->x.key=(.int .i64 k)->i=j:=fun i x hx hxk=>by
    have hi:i<(es.toList.map (·.key)).length:=by
     have:=(bM.1 hx).1
     simpa using this
    refine(List.getElem?_inj hi h3).1 ?_
    rw [aI,aI,aT,aT,hx,hj]
    simp [hxk,hek]
   constructor
   ·intro hv
    have hv:(if k'=k then some v else F k')=some v':=hv
    by_cases e':k'=k
    ·rw [if_pos e']at hv
     injection hv with hv
     subst hv;subst e'
     exact⟨_,bI.2 ⟨j,by rw [hmod,if_pos rfl,hj];rfl⟩,rfl,rfl⟩
    ·rw [if_neg e']at hv
     obtain⟨x,hx,e1,e2⟩:=(h4 k' v').1 hv
     obtain⟨i,hi⟩:=bI.1 hx
     rw [aT]at hi
     have hij : ¬j=i:=fun q=>by
      subst q
      rw [hj]at hi
      injection hi with hi
      subst hi
      rw [hek]at e1
      injection e1 with _ e1
      exact e' e1.symm
     exact⟨x,bI.2 ⟨i,by rw [hmod,if_neg hij];exact hi⟩,e1,e2⟩
   ·rintro⟨x,hx,e1,e2⟩
    obtain⟨i,hi⟩:=bI.1 hx
    rw [hmod]at hi
    by_cases hij:j=i
    ·subst hij
     rw [if_pos rfl,hj]at hi
     simp only [bn,aA]at hi
     subst hi
     injection e1 with _ e1
     show (if k'=k then some v else F k')=some v'
     rw [if_pos e1.symm]
     exact congrArg some e2
    ·rw [if_neg hij]at hi
     have e' : ¬k'=k:=fun q=>hij (uniq i x hi (by rw [e1,q])).symm
     show (if k'=k then some v else F k')=some v'
     rw [if_neg e']
     exact(h4 k' v').2 ⟨x,bI.2 ⟨i,by rw [aT];exact hi⟩,e1,e2⟩
end
abbrev qV (s:ByteArray):List UInt8:=s.data.toList
theorem DK (s:ByteArray):(qV s).length=s.size:=aaA
section
variable {P:Program}{w:World}{K:Value->World->Prop}
theorem yc {t:TypeId}{s:ByteArray}{k:IntKind}{ix:Int}(m:Nat)(hm:ix=m)(hu:P.underlying t=some .string)(h:m<s.size)
  (c:K (.int .u8 (s[m].toNat:Int)) w):kG P (Instr.index t (.string s) (.int k ix)) w K:=by
 refine lJ ?_ c
 subst hm
 rw [run_index_string w t s k m hu,dif_pos ⟨by omega,by omega⟩]
 simp
theorem KP {t:TypeId}{s:ByteArray}{kl kh:IntKind}{lo hi:Int}(a b:Nat)(ha:lo=a)(hb:hi=b)(hu:P.underlying t=some .string)(hab:a<=b)(h:b<=s.size)
  (c:K (.string (s.extract a b)) w):kG P (Instr.sliceAt t (.string s) (some (.int kl lo)) (some (.int kh hi)) none) w K:=by
 refine lJ ?_ c
 subst ha;subst hb
 unfold Instr.sliceAt
 rw [Sem.run_bind,jR hu]
 simp only [Result.andThen_ok]
 unfold Instr.slice
 rw [Sem.run_bind,jR hu]
 have h1:(0:Int)<=b∧(b:Int)<=s.size:=⟨by omega,by omega⟩
 have h2:(0:Int)<=a∧(a:Int)<=b:=⟨by omega,by omega⟩
 simp [Instr.sliceBounds,Instr.sliceBound,asIntOf,h1,h2,h,hab]
def Ql (w:World)(b:Nat)(s:ByteArray)(p:Nat):Prop:=w.heap[b]? = some (.stringIter s p)
theorem KQ {t:TypeId}{s:ByteArray}(hu:P.underlying t=some .string)(k : ∀w',Below w.heap.size w w'->Ql w' w.heap.size s 0->K (.pointer (some ⟨w.heap.size,0,none⟩)) w') :
  kG P (Instr.range t (.string s)) w K:=by
 refine lJ ?_ (k (w.alloc (.stringIter s 0)) (nR (Below.refl _ _) (ay _) _) (heap_alloc_new w _))
 unfold Instr.range
 simp [jR hu]
theorem yP {b:Nat}{s:ByteArray}{p:Nat}(h:Ql w b s p):(getObj b).run P w = .ok (.stringIter s p) w:=by
 have h':w.heap[b]? = some (.stringIter s p):=h
 simp [getObj,Sem.run,h']
theorem Fv {b:Nat}{s:ByteArray}{p:Nat}(o:Obj)(h:Ql w b s p):(setObj b o).run P w = .ok () {w with heap:=w.heap.setIfInBounds b o}:=by
 have h':w.heap[b]? = some (.stringIter s p):=h
 simp [setObj,Sem.run,h']
theorem Iq {ty:TypeId}{b:Nat}{s:ByteArray}{p:Nat}(h:Ql w b s p)(hp:s.size<=p)(k:K (.tuple #[.bool false]) w):kG P (Instr.next (.pointer (some ⟨b,0,none⟩)) true ty) w K:=by
 refine lJ ?_ k
 unfold Instr.next
 simp [yP h,Nat.not_lt.2 hp]
theorem QF {ty:TypeId}{b:Nat}{s:ByteArray}{p:Nat}(h:Ql w b s p)(hp:p<s.size)
  (k1:s[p].toNat<128->∀w',Only b w w'->Ql w' b s (p+1)->K (.tuple #[.bool true, .int .i64 (p:Nat), .int .i32 (s[p].toNat:Nat)]) w')
  (k2:128<=s[p].toNat->∀w' (c q:Nat),Only b w w'->Ql w' b s q->128<=c->K (.tuple #[.bool true, .int .i64 (p:Nat), .int .i32 (c:Nat)]) w') :
  kG P (Instr.next (.pointer (some ⟨b,0,none⟩)) true ty) w K:=by
 have hbl:b<w.heap.size:=(bM.1 h).1
 have only : ∀o,Only b w {w with heap:=w.heap.setIfInBounds b o}:=fun o=>⟨rfl,rfl,rfl,by simp,fun j hj=>by simp [eX (jE hj)]⟩
 have self : ∀q,Ql ({w with heap:=w.heap.setIfInBounds b (.stringIter s q)} : World) b s q:=fun q=>by unfold Ql;simp [hbl]
 have hrun : ∀c q,Utf8.decode s p=(c,q)->(Instr.next (.pointer (some ⟨b,0,none⟩)) true ty).run P w = .ok (.tuple #[.bool true,goInt p, .int .i32 c]) {w with heap:=w.heap.setIfInBounds b (.stringIter s (p+q))}:=fun c q hd=>by
  unfold Instr.next
  simp [yP h,hp,hd,Fv _ h]
 have hb0:(s.get! (p+0)).toNat=s[p].toNat:=by
  rw [bU]
  congr 1
  show s.data[p]! = s.data[p]
  simp_all
 by_cases hc:s[p].toNat<128
 ·have hd:Utf8.decode s p=(s[p].toNat,1):=by
   unfold Utf8.decode
   grind
  exact lJ (hrun _ _ hd) (k1 hc _ (only _) (self _))
 ·have hd : ∃c q,Utf8.decode s p=(c,q)∧128<=c:=by
   unfold Utf8.decode
   simp only [hb0]
   rw [if_neg (by simpa using hc)]
   split
   ·split
    ·exact⟨_,_,rfl,by omega⟩
    ·exact⟨_,_,rfl,by decide⟩
   ·split
    ·split
     ·rename_i h1;exact⟨_,_,rfl,by simp only [ah,decide_eq_true_eq]at h1;omega⟩
     ·exact⟨_,_,rfl,by decide⟩
    ·split
     ·split
      ·rename_i h1;exact⟨_,_,rfl,by simp only [ah,decide_eq_true_eq]at h1;omega⟩
      ·exact⟨_,_,rfl,by decide⟩
     ·exact⟨_,_,rfl,by decide⟩
  obtain⟨c,q,hd,hc2⟩:=hd
  exact lJ (hrun _ _ hd) (k2 aad _ c _ (only _) (self _) hc2)
end
end Go.Proofs.YtnandbihiceihaaGreatDoor.Vc
