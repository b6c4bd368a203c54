/- Joined parts of the proof. Cells of lists of records: a record of k cells stands at i * k; loads and stores of whole records -/
import Derived.Test.YtocckceefcmeaaaGreatDoorPk2
import Derived.Laws.StructEq
import Derived.MapKept
import Derived.Carry
set_option linter.unusedVariables false
set_option linter.unusedSimpArgs false
set_option maxRecDepth 100000
set_option maxHeartbeats 16000000
namespace Go.Proofs.YtocckceefcmeaaaGreatDoor.Vc
open Go Go.RowKit
def Seg (vs:List Value)(off:Nat)(l:List Value):Prop:= ∀j v,l[j]? = some v→vs[off+j]? = some v
def recs {α:Type}(c:α→List Value)(l:List α):List Value:=(l.map c).flatten
theorem Fp {α:Type}{c:α→List Value}{k:Nat}(hk : ∀a,(c a).length=k)(l:List α):(recs c l).length=l.length*k:=by
 induction l with
 | nil=>simp [recs]
 | cons a r ih=>
  have:recs c (a::r)=c a++recs c r:=rfl
  rw [this,List.length_append,ih,hk,List.length_cons,Nat.add_mul]
  omega
theorem Pv {α:Type}{c:α→List Value}{k:Nat}(hk : ∀a,(c a).length=k) : ∀(l:List α) (i:Nat) (h:i<l.length),Seg (recs c l) (i*k) (c l[i]):=by
 intro l
 induction l with
 | nil=>intro i h;simp at h
 | cons a r ih=>
  intro i h j v hj
  have e:recs c (a::r)=c a++recs c r:=rfl
  have hjk:j<k:=by
   have:=(List.getElem?_eq_some_iff.1 hj).1
   rwa [hk]at this
  cases i with
  | zero=>
   simp only [List.getElem_cons_zero]at hj
   rw [e,Nat.zero_mul,Nat.zero_add,List.getElem?_append_left (by rw [hk];exact hjk)]
   exact hj
  | succ i=>
   simp only [List.getElem_cons_succ]at hj
   have:=ih i (by simpa using h) j v hj
   rw [e,List.getElem?_append_right (by rw [hk,Nat.add_mul];omega),hk]
   rw [show (i+1)*k+j-k=i*k+j by rw [Nat.add_mul];omega]
   exact this
theorem Fq (a:List Value) : ∀(vs:List Value) (b c:List Value),vs.length=b.length→kE (a++b++c) a.length vs=a++vs++c:=by
 intro vs
 induction vs generalizing a with
 | nil=>
  intro b c h
  have:b = []:=by simpa using h.symm
  subst this;simp [kE]
 | cons v r ih=>
  intro b c h
  cases b with
  | nil=>simp at h
  | cons x b=>
   simp only [kE]
   have e:(a++x::b++c).set a.length v=(a++ [v])++b++c:=by simp
   rw [e]
   have:=ih (a++ [v]) b c (by simpa using h)
   simp only [List.length_append,List.length_cons,List.length_nil,Nat.zero_add]at this
   rw [this]
   simp
section
variable {P:Program}{w:World}{K:Value→World→Prop}
end
def At (w:World)(b o:Nat)(vs:List Value):Prop:= ∀j v,vs[j]? = some v→w.cell? ⟨b,o+j,none⟩=some v
theorem At.below {w w':World}{b o B:Nat}{vs:List Value}(h:At w b o vs)(hB:Below B w w')(hb:b<B):At w' b o vs:=fun j v hj=>by rw [hB.cell (p:=⟨b,o+j,none⟩) hb];exact h j v hj
theorem At.only {w w':World}{b o c:Nat}{vs:List Value}(h:At w b o vs)(hO:Only c w w')(hb:b≠c):At w' b o vs:=fun j v hj=>by
 have:=h j v hj
 unfold World.cell? at this ⊢
 simp only at this ⊢
 rw [hO.block b hb];exact this
theorem At.drew {w:World}{b o:Nat}{vs:List Value}(h:At w b o vs):At w.drew b o vs:=h
theorem jC.at {w:World}{b:Nat}{l:List Value}{t:TypeId}(h:jC w b l t):At w b 0 l:=fun j v hj=>by rw [Nat.zero_add,h.cell];exact hj
theorem Row.at {w:World}{oa:Option Addr}{vs:List Value}(h:Row w oa vs)(hne:0<vs.length) : ∃b o,oa=some ⟨b,o,none⟩∧b<w.heap.size∧At w b o vs:=h.get hne
section
variable {P:Program}{w:World}{K:Value→World→Prop}
theorem Px {t:TypeId}{b o j:Nat}{vs:List Value}{v:Value}(hr:At w b o vs)(hv:vs[j]? = some v)(ha:oW P t=some false)(k:K v w):bQ P (loadVar t ⟨b,o+j,none⟩) w K:=
 eP ha (hr j v hv) k
theorem Py {t:TypeId}{b o off j:Nat}{vs l:List Value}{v:Value}(hr:At w b o vs)(hg:Seg vs off l)(hv:l[j]? = some v)(ha:oW P t=some false)(k:K v w):bQ P (loadVar t ⟨b,o+off+j,none⟩) w K:=
 eP ha (by rw [Nat.add_assoc];exact hr _ _ (hg j v hv)) k
theorem Nu {t:TypeId}{b o off:Nat}{vs l:List Value}{v:Value}(hr:At w b o vs)(hg:Seg vs off l)(hv:l[0]? = some v)(ha:oW P t=some false)(k:K v w):bQ P (loadVar t ⟨b,o+off,none⟩) w K:=
 eP ha (hr _ _ (hg 0 v hv)) k
theorem Y6 {t e:TypeId}{sz b o n c:Nat}{k:IntKind}{ix:Int}(m:Nat)(hm:ix=m)(hu:P.underlying t=some (.slice e))(hs:szB P e=some sz)(h:m<n)
  (hk:K (.pointer (some ⟨b,o+m*sz,none⟩)) w):bQ P (Instr.indexAt t (.slice (some ⟨b,o,none⟩) n c) (.int k ix)) w K:=Fj m hu hs hm h hk
theorem Dw {t e:TypeId}{b o n c:Nat}{k:IntKind}{ix:Int}(m:Nat)(hm:ix=m)(hu:P.underlying t=some (.slice e))(hs:szB P e=some 1)(h:m<n)
  (hk:K (.pointer (some ⟨b,o+m,none⟩)) w):bQ P (Instr.indexAt t (.slice (some ⟨b,o,none⟩) n c) (.int k ix)) w K:=Dv m hu hs hm h hk
end
def Ints (l:List Value)(n:Nat)(f:Nat→Int):Prop:=l.length=n∧∀j,j<n→l[j]? = some (.int .i64 (f j))
theorem Ints.set {l:List Value}{m:Nat}{f:Nat→Int}(h:Ints l m f)(n:Nat)(x:Int)(hn:n<m):Ints (l.set n (.int .i64 x)) m (fun j=>if j=n then x else f j):=by
 refine⟨by rw [List.length_set];exact h.1,fun j hj=> ?_⟩
 by_cases e:j=n
 ·subst e
  rw [List.getElem?_set_self (by rw [h.1];exact hj)]
  simp
 ·rw [List.getElem?_set_ne (fun x=>e x.symm),h.2 j hj]
  simp only [if_neg e]
theorem Ints.congr {l:List Value}{m:Nat}{f g:Nat→Int}(h:Ints l m f)(e : ∀j,j<m→f j=g j):Ints l m g:=⟨h.1,fun j hj=>by rw [←e j hj];exact h.2 j hj⟩
theorem Ints.one {l:List Value}{m:Nat}{f:Nat→Int}(h:Ints l m f):l.all (·.oneCell')=true:=List.all_eq_true.2 fun x hx=>by
 obtain⟨k,hk⟩:=List.mem_iff_getElem?.1 hx
 have hk2:=(List.getElem?_eq_some_iff.1 hk).1
 rw [h.2 k (by rw [h.1]at hk2;exact hk2)]at hk
 injection hk with hk
 rw [←hk];rfl
theorem Ints.rep (n:Nat)(x:Int):Ints (List.replicate n (.int .i64 x)) n fun _=>x:=⟨by simp,fun j hj=>by rw [List.getElem?_replicate];simp [hj]⟩
theorem UA (n:Nat)(v:Value):(List.replicate n [v]).flatten=List.replicate n v:=by
 induction n with
 | zero=>rfl
 | succ n ih=>rw [List.replicate_succ,List.flatten_cons,ih,List.replicate_succ];rfl
theorem Y7 {P:Program}{w:World}{K:Value→World→Prop}{src dst e:TypeId}{s:ByteArray}(hs:P.underlying src=some .string)(hd:P.underlying dst=some (.slice e))(he:P.underlying e=some (.int .u8))
  (k : ∀c w',s.data.toList.length≤c→Row w' (some ⟨w.heap.size,0,none⟩) (dw s.data.toList)→Below w.heap.size w w'→K (.slice (some ⟨w.heap.size,0,none⟩) s.data.toList.length c) w') :
  bQ P (convert src dst (.string s)) w K:=by
 have hr:=run_bytes_of_string (P:=P) w src dst e s hs hd he
 have hsz:s.data.toList.length=s.size:=by simp
 have hk:=k (grownCap w s.size 0 e) (w.drew.alloc (.cells (bytesRow s (grownCap w s.size 0 e)) e ((bytesRow s (grownCap w s.size 0 e)).size,(bytesRow s (grownCap w s.size 0 e)).size+1))) ?_ ?_ ?_
 ·rw [hsz]at hk
  exact dZ hr hk
 ·rw [hsz];exact grownCap_ge _ _ _ _
 ·refine .inr ⟨w.heap.size,0,rfl,by simp,fun j v hj=> ?_⟩
  have hjl:j<s.data.size:=by
   have:=(List.getElem?_eq_some_iff.1 hj).1
   simpa [dw]using this
  have hv:v = .int .u8 (s.data[j].toNat:Int):=by
   have:=nD (l:=s.data.toList) (j:=j) (by simpa using hjl)
   rw [this]at hj
   injection hj with hj
   rw [←hj];simp
  rw [Nat.zero_add,hv]
  have h2:=bytesRow_at s (grownCap w s.size 0 e) j hjl
  unfold World.cell?
  rw [show (w.drew.alloc (.cells (bytesRow s (grownCap w s.size 0 e)) e ((bytesRow s (grownCap w s.size 0 e)).size,(bytesRow s (grownCap w s.size 0 e)).size+1))).heap[w.heap.size]? = some (.cells (bytesRow s (grownCap w s.size 0 e)) e ((bytesRow s (grownCap w s.size 0 e)).size,(bytesRow s (grownCap w s.size 0 e)).size+1))from heap_alloc_new w.drew _]
  simpa using h2
 ·exact Below.alloc (BZ (Below.refl _ _)) (Nat.le_refl _) _
def loS (oa:Option Addr)(lo sz c:Nat):Option Addr:=if c=lo then oa else oa.map (·.add (lo*sz))
theorem IL {P:Program}{w:World}{K:Value→World→Prop}{t E:TypeId}{n c lo sz:Nat}{oa:Option Addr}{kl:IntKind}{li:Int}(ht:P.underlying t=some (.slice E))(hs:szB P E=some sz)
  (he:li=lo) (hh:lo≤n) (k:K (.slice (loS oa lo sz c) (n-lo) (c-lo)) w):bQ P (Instr.sliceAt t (.slice oa n c) (some (.int kl li)) none none) w K:=by
 refine dZ ?_ k
 subst he
 have h1:(0:Int)≤lo∧(lo:Int)≤n:=⟨by omega,by omega⟩
 unfold Instr.sliceAt
 rw [Sem.run_bind,aO ht]
 simp only [Result.andThen_ok]
 unfold Instr.slice
 rw [Sem.run_bind,aO ht]
 simp only [Result.andThen_ok,Instr.sliceBounds,Instr.sliceBound,asIntOf,Sem.run_bind,Sem.run_pure,if_pos h1,gU hs]
 simp [loS]
theorem Own.blk {w:World}{B:Nat}{E:TypeId}{sz:Nat}{oa:Option Addr}{n c:Nat}{xs:List Value}(h:Own w B E sz oa n c xs)(hn:0<n) :
  ∃g cur,oa=some ⟨g,0,none⟩∧B≤g∧jC w g cur E∧n≤c∧c≤maxLen∧cur.length=c*sz∧cur.take (n*sz)=xs:=by
 rcases h.2 with ⟨_,h0⟩ | ⟨g,cap,cur,hv,hg,hh,h1,h2,h3,h4⟩
 ·omega
 ·injection hv with e1 e2 e3
  subst e3
  exact⟨g,cur.toList,e1,hg,by unfold jC;rw [hh],h1,h2,by simpa using h3,h4⟩
theorem Own.wS {w:World}{B g:Nat}{E:TypeId}{sz n c:Nat}{cur xs:List Value}(hb:jC w g cur E)(hg:B≤g)(h1:n≤c)(h2:c≤maxLen)(h3:cur.length=c*sz)(h4:cur.take (n*sz)=xs) :
  Own w B E sz (some ⟨g,0,none⟩) n c xs:=by
 have hl:n*sz≤c*sz:=Nat.mul_le_mul_right _ h1
 refine⟨by rw [←h4,List.length_take];omega, .inr ⟨g,c,cur.toArray,rfl,hg,hb,h1,h2,by simpa using h3,by simpa using h4⟩⟩
theorem Own.only {w w':World}{B k:Nat}{E:TypeId}{sz:Nat}{oa:Option Addr}{n c:Nat}{xs:List Value}(h:Own w B E sz oa n c xs)(hO:Only k w w')(hne : ∀g,oa=some ⟨g,0,none⟩→g≠k):Own w' B E sz oa n c xs:=by
 rcases Nat.eq_zero_or_pos n with e | e
 ·rcases h.2 with ⟨h1,h0⟩ | ⟨g,cap,cur,hv,hg,hh,h1,h2,h3,h4⟩
  ·exact⟨h.1, .inl ⟨h1,h0⟩⟩
  ·injection hv with e1 e2 e3
   exact⟨h.1, .inr ⟨g,cap,cur,by rw [e1,e3],hg,by rw [hO.block g (hne g e1)];exact hh,h1,h2,h3,h4⟩⟩
 ·obtain⟨g,cur,e1,hB,hb,h1,h2,h3,h4⟩:=h.blk e
  subst e1
  exact Own.wS (hb.only hO (hne g rfl)) hB h1 h2 h3 h4
theorem Own.at {w:World}{B g:Nat}{E:TypeId}{sz n c:Nat}{xs:List Value}(h:Own w B E sz (some ⟨g,0,none⟩) n c xs):At w g 0 xs:=fun j v hj=>by
 have hl:=h.len
 have hn:0<n:=by
  have:=(List.getElem?_eq_some_iff.1 hj).1
  rcases Nat.eq_zero_or_pos n with e | e
  ·subst e;omega
  ·exact e
 obtain⟨g',cur,e,hB,hb,h1,h2,h3,h4⟩:=h.blk hn
 injection e with e
 injection e with e
 subst e
 rw [Nat.zero_add,hb.cell]
 rw [←h4,List.getElem?_take]at hj
 split at hj
 ·exact hj
 ·cases hj
def Pz (P:Program)(xs ys:List Value):List Field→Option Bool
 | []=>some true
 | f::fs=>
  bif f.name != "_" then
   match oW P f.type,P.underlying f.type,xs[f.offset]?,ys[f.offset]?,Pz P xs ys fs with
   | some false,some (.int _),some (.int k a),some (.int k' b),some r=>bif decide (k=k')then some (a==b&&r)else none
   | some false,some .string,some (.string a),some (.string b),some r=>some (oU a b&&r)
   | some false,some .bool,some (.bool a),some (.bool b),some r=>some ((a==b)&&r)
   | _,_,_,_,_=>none
  else none
theorem PD {P:Program}{w:World}(d:Nat)(xs ys:List Value) : ∀(fs:List Field) (b:Bool),Pz P xs ys fs=some b→(Op.eqFields (d+1) xs.toArray ys.toArray fs).run P w = .ok b w:=by
 intro fs
 induction fs with
 | nil=>intro b h;simp only [Pz,Option.some.injEq]at h;subst h;rfl
 | cons f fs ih=>
  intro b h
  simp only [Pz]at h
  cases hn:f.name != "_" with
  | false=>rw [hn]at h;cases h
  | true=>
   rw [hn,cond_true]at h
   have hn':f.name≠ "_" :=by simpa using hn
   have pp : ∀(zs:List Value) (v:Value),oW P f.type=some false→zs[f.offset]? = some v→(part f.type zs.toArray f.offset).run P w = .ok v w:=fun zs v ha hv=>by
    unfold part
    rw [Sem.run_bind,iV ha]
    simp [hv]
   split at h
   ·rename_i k0 k a k' b' r ha hu hx hy hr
    by_cases hk:k=k'
    ·subst hk
     simp only [decide_true,cond_true,Option.some.injEq]at h
     subst h
     simp only [Op.eqFields,if_pos hn',Sem.run_bind,pp _ _ ha hx,pp _ _ ha hy,Result.andThen_ok,run_equalIn_int w d f.type k k0 a b' hu]
     cases hab:(a==b')with
     | true=>simpa using ih r hr
     | false=>simp
    ·simp [hk]at h
   ·rename_i a b' r ha hu hx hy hr
    simp only [Option.some.injEq]at h
    subst h
    simp only [Op.eqFields,if_pos hn',Sem.run_bind,pp _ _ ha hx,pp _ _ ha hy,Result.andThen_ok,run_equalIn_string w d f.type a b' hu]
    have e:oU a b'=(a.toList==b'.toList):=rfl
    cases hab:oU a b' with
    | true=>rw [e]at hab;rw [hab];simpa using ih r hr
    | false=>rw [e]at hab;rw [hab];simp
   ·rename_i a b' r ha hu hx hy hr
    simp only [Option.some.injEq]at h
    subst h
    simp only [Op.eqFields,if_pos hn',Sem.run_bind,pp _ _ ha hx,pp _ _ ha hy,Result.andThen_ok,run_equalIn_bool' w d f.type a b' hu]
    cases hab:(a==b')with
    | true=>simpa using ih r hr
    | false=>simp
   ·cases h
def eqF (P:Program)(xs ys:List Value):List Field→Option Bool
 | []=>some true
 | f::fs=>
  bif f.name != "_" then
   match oW P f.type,P.underlying f.type,xs[f.offset]?,ys[f.offset]?,eqF P xs ys fs with
   | some false,some (.int _),some (.int k a),some (.int k' b),some r=>bif decide (k=k')then some (a==b&&r)else none
   | some false,some .string,some (.string a),some (.string b),some r=>some (oU a b&&r)
   | some false,some .bool,some (.bool a),some (.bool b),some r=>some ((a==b)&&r)
   | some true,some (.struct fs'),_,_,some r=>(match szB P f.type with
    | some k=>bif P.stoodInHeld f.type then none else(match Pz P ((xs.drop f.offset).take k) ((ys.drop f.offset).take k) fs'.toList with
     | some b=>some (b&&r)
     | none=>none)
    | none=>none)
   | _,_,_,_,_=>none
  else none
theorem wU {P:Program}{w:World}{t:TypeId}{o k:Nat}(zs:List Value)(ha:oW P t=some true)(hs:szB P t=some k):(part t zs.toArray o).run P w = .ok (.agg ((zs.drop o).take k).toArray) w:=by
 obtain⟨i,hi,hik⟩:=gQ hs
 simp only [part,Sem.run_bind,Sem.run_pure,Result.andThen_ok,iV ha,if_true,sizeOf,jh hi]
 congr 2
 apply Array.ext'
 simp [hik]
theorem KF {P:Program}{w:World}(d:Nat)(xs ys:List Value) : ∀(fs:List Field) (b:Bool),eqF P xs ys fs=some b→(Op.eqFields (d+2) xs.toArray ys.toArray fs).run P w = .ok b w:=by
 intro fs
 induction fs with
 | nil=>intro b h;simp only [eqF,Option.some.injEq]at h;subst h;rfl
 | cons f fs ih=>
  intro b h
  simp only [eqF]at h
  cases hn:f.name != "_" with
  | false=>rw [hn]at h;cases h
  | true=>
   rw [hn,cond_true]at h
   have hn':f.name≠ "_" :=by simpa using hn
   have pp : ∀(zs:List Value) (v:Value),oW P f.type=some false→zs[f.offset]? = some v→(part f.type zs.toArray f.offset).run P w = .ok v w:=fun zs v ha hv=>by
    unfold part
    rw [Sem.run_bind,iV ha]
    simp [hv]
   split at h
   ·rename_i k0 k a k' b' r ha hu hx hy hr
    by_cases hk:k=k'
    ·subst hk
     simp only [decide_true,cond_true,Option.some.injEq]at h
     subst h
     simp only [Op.eqFields,if_pos hn',Sem.run_bind,pp _ _ ha hx,pp _ _ ha hy,Result.andThen_ok,run_equalIn_int w (d+1) f.type k k0 a b' hu]
     cases hab:(a==b')with
     | true=>simpa using ih r hr
     | false=>simp
    ·simp [hk]at h
   ·rename_i a b' r ha hu hx hy hr
    simp only [Option.some.injEq]at h
    subst h
    simp only [Op.eqFields,if_pos hn',Sem.run_bind,pp _ _ ha hx,pp _ _ ha hy,Result.andThen_ok,run_equalIn_string w (d+1) f.type a b' hu]
    have e:oU a b'=(a.toList==b'.toList):=rfl
    cases hab:oU a b' with
    | true=>rw [e]at hab;rw [hab];simpa using ih r hr
    | false=>rw [e]at hab;rw [hab];simp
   ·rename_i a b' r ha hu hx hy hr
    simp only [Option.some.injEq]at h
    subst h
    simp only [Op.eqFields,if_pos hn',Sem.run_bind,pp _ _ ha hx,pp _ _ ha hy,Result.andThen_ok,run_equalIn_bool' w (d+1) f.type a b' hu]
    cases hab:(a==b')with
    | true=>simpa using ih r hr
    | false=>simp
   ·rename_i fs' r ha hu hr
    split at h
    ·rename_i k hs
     cases hp:P.stoodInHeld f.type with
     | true=>rw [hp]at h;cases h
     | false=>
      rw [hp,cond_false]at h
      split at h
      ·rename_i b0 h0
       simp only [Option.some.injEq]at h
       subst h
       have hf:P.fieldsOf f.type=fs':=by unfold Program.fieldsOf;rw [hu]
       have hu':P.underlying f.type=some (.struct (P.fieldsOf f.type)):=by rw [hf];exact hu
       have hrun:=PD (P:=P) (w:=w) d _ _ fs'.toList b0 h0
       rw [←hf]at hrun
       simp only [Op.eqFields,if_pos hn',Sem.run_bind,wU xs ha hs,wU ys ha hs,Result.andThen_ok,run_equalIn_struct w (d+1) f.type _ _ hu' hp,hrun]
       cases b0 with
       | true=>simpa using ih r hr
       | false=>simp
      ·cases h
    ·cases h
   ·cases h
theorem Y8 {P:Program}{w:World}{K:Value→World→Prop}{t:TypeId}{x y:Operand}{xs ys:List Value}{b:Bool}(hg:P.eqGuardType P.depth t=false)(hp:P.stoodInHeld t=false)
  (hu:P.underlying t=some (.struct (P.fieldsOf t))) (he:eqF P xs ys (P.fieldsOf t).toList=some b) (k:K (.bool (!b)) w) :
  bQ P (do eqGuard .neq t x y (.agg xs.toArray) (.agg ys.toArray);binOp .neq t (.agg xs.toArray) (.agg ys.toArray)) w K:=by
 refine dZ ?_ k
 rw [Sem.run_bind,run_eqGuard_agg w .neq t x y _ _ hg,Result.andThen_ok,run_neq_struct,run_equalIn_struct w 9999 t _ _ hu hp,KF 9997 xs ys _ b he]
 rfl
theorem Y9 {P:Program}{w:World}{K:Value→World→Prop}{t:TypeId}{x y:Operand}{xs ys:List Value}{b:Bool}(hg:P.eqGuardType P.depth t=false)(hp:P.stoodInHeld t=false)
  (hu:P.underlying t=some (.struct (P.fieldsOf t))) (he:eqF P xs ys (P.fieldsOf t).toList=some b) (k:K (.bool b) w) :
  bQ P (do eqGuard .eql t x y (.agg xs.toArray) (.agg ys.toArray);binOp .eql t (.agg xs.toArray) (.agg ys.toArray)) w K:=by
 refine dZ ?_ k
 rw [Sem.run_bind,run_eqGuard_agg w .eql t x y _ _ hg,Result.andThen_ok,run_eql_struct,run_equalIn_struct w 9999 t _ _ hu hp,KF 9997 xs ys _ b he]
 rfl
theorem IQ {x:Int}(h:0≤x) : ∃n:Nat,x=(n:Int):=⟨x.toNat,by omega⟩
def jm (w:World)(b:Nat)(F:ByteArray→Option Value):Prop:=
 ∃es clock,w.heap[b]? = some (.map es clock)∧(∀x∈es.toList,MapKept.IsKey .string x.key)∧(es.toList.map (·.key)).Nodup∧∀k v,F k=some v↔∃x∈es.toList,x.key = .string k∧x.val=v
theorem jm.lt {w:World}{b:Nat}{F:ByteArray→Option Value}(h:jm w b F):b<w.heap.size:=let ⟨_,_,hb,_⟩:=h;(Array.getElem?_eq_some_iff.1 hb).1
theorem jm.below {w w':World}{b B:Nat}{F:ByteArray→Option Value}(h:jm w b F)(hB:Below B w w')(hb:b<B):jm w' b F:=
 let ⟨es,c,h1,h2⟩:=h;⟨es,c,(hB.block b hb).trans h1,h2⟩
theorem jm.only {w w':World}{b k:Nat}{F:ByteArray→Option Value}(h:jm w b F)(hO:Only k w w')(hb:b≠k):jm w' b F:=
 let ⟨es,c,h1,h2⟩:=h;⟨es,c,(hO.block b hb).trans h1,h2⟩
theorem jm.quiet {w w':World}{b:Nat}{F:ByteArray→Option Value}(h:jm w b F)(hQ:Quiet w w'):jm w' b F:=
 let ⟨es,c,h1,h2⟩:=h;⟨es,c,by rw [hQ.heap];exact h1,h2⟩
theorem jm.heap {w w':World}{b:Nat}{F:ByteArray→Option Value}(h:jm w b F)(e:w'.heap[b]? = w.heap[b]?):jm w' b F:=
 let ⟨es,c,h1,h2⟩:=h;⟨es,c,e.trans h1,h2⟩
theorem jm.drew {w:World}{b:Nat}{F:ByteArray→Option Value}(h:jm w b F):jm w.drew b F:=h
theorem jm.congr {w:World}{b:Nat}{F G:ByteArray→Option Value}(h:jm w b F)(e : ∀k,F k=G k):jm w b G:=
 let ⟨es,c,h1,h2,h3,h4⟩:=h;⟨es,c,h1,h2,h3,fun k v=>by rw [←e k];exact h4 k v⟩
section
variable {P:Program}{w:World}{K:Value→World→Prop}
theorem IU {t:TypeId}(k : ∀w',Below w.heap.size w w'→jm w' w.heap.size (fun _=>none)→K (.map (some w.heap.size)) w'):bQ P (Instr.makeMap t none) w K:=by
 refine dZ (run_makeMap t w) (k _ (lG (Below.refl _ _) (Nat.le_refl _) _) ⟨#[],0,heap_alloc_new w _,by simp,by simp,by simp⟩)
theorem jm.find {F:ByteArray→Option Value}{kt:TypeId}{k:ByteArray}(hk:P.underlying kt=some .string){es:Array MapEntry}{c:Nat}
  (h2 : ∀x∈es.toList,MapKept.IsKey .string x.key) (h3:(es.toList.map (·.key)).Nodup) (h4 : ∀k v,F k=some v↔∃x∈es.toList,x.key = .string k∧x.val=v) :
  (F k=none∧(Instr.findKey kt (.string k) es.toList).run P w = .ok none w∧∀x∈es.toList,x.key≠ .string k)∨
  ∃j e,F k=some e.val∧(Instr.findKey kt (.string k) es.toList).run P w = .ok (some (j,e.val)) w∧es[j]? = some e∧e.key = .string k:=by
 rcases MapKept.findNow_spec (d:= .string) (k:= .string k) trivial es.toList 0 h2 with ⟨hf,hn⟩ | ⟨j,e,hf,he,hek⟩
 ·refine .inl ⟨?_,MapKept.run_findKey hk hf,hn⟩
  cases hF:F k with
  | none=>rfl
  | some v=>obtain⟨x,hx,e1,_⟩:=(h4 k v).1 hF;exact absurd e1 (hn x hx)
 ·refine .inr ⟨j,e,(h4 k e.val).2 ⟨e,List.mem_iff_getElem?.2 ⟨j,he⟩,hek,rfl⟩,by rw [Nat.zero_add]at hf;exact MapKept.run_findKey hk hf,by simpa using he,hek⟩
theorem yZ {t kt et:TypeId}{b:Nat}{F:ByteArray→Option Value}{k:ByteArray}{z:Value}(ht:P.underlying t=some (.map kt et))(hk:P.underlying kt=some .string)(hz:(P.info? et).bind (·.zero)=some z)(h:jm w b F)
  (c:K (.tuple #[(F k).getD z, .bool (F k).isSome]) w):bQ P (Instr.lookup t (.map (some b)) (.string k) true) w K:=by
 obtain⟨es,cl,hb,h2,h3,h4⟩:=h
 have hc:(Instr.checkKey es.isEmpty 10000 kt (.string k)).run P w = .ok () w:=MapKept.run_checkKey (k:= .string k) hk (by simp [MapKept.IsKey]) _ 9999
 rcases jm.find (P:=P) (w:=w) (k:=k) hk (c:=cl) h2 h3 h4 with ⟨hF,hr,_⟩ | ⟨j,e,hF,hr,_⟩
 ·rw [hF]at c
  refine dZ ?_ c
  simp [Instr.lookup,aO ht,MapKept.run_getObj_map hb,hc,hr,oZ hz]
 ·rw [hF]at c
  refine dZ ?_ c
  simp [Instr.lookup,aO ht,MapKept.run_getObj_map hb,hc,hr]
theorem vw {t kt et:TypeId}{b:Nat}{F:ByteArray→Option Value}{k:ByteArray}{z:Value}(ht:P.underlying t=some (.map kt et))(hk:P.underlying kt=some .string)(hz:(P.info? et).bind (·.zero)=some z)(h:jm w b F)
  (c:K ((F k).getD z) w):bQ P (Instr.lookup t (.map (some b)) (.string k) false) w K:=by
 obtain⟨es,cl,hb,h2,h3,h4⟩:=h
 have hc:(Instr.checkKey es.isEmpty 10000 kt (.string k)).run P w = .ok () w:=MapKept.run_checkKey (k:= .string k) hk (by simp [MapKept.IsKey]) _ 9999
 rcases jm.find (P:=P) (w:=w) (k:=k) hk (c:=cl) h2 h3 h4 with ⟨hF,hr,_⟩ | ⟨j,e,hF,hr,_⟩
 ·rw [hF]at c
  refine dZ ?_ c
  simp [Instr.lookup,aO ht,MapKept.run_getObj_map hb,hc,hr,oZ hz]
 ·rw [hF]at c
  refine dZ ?_ c
  simp [Instr.lookup,aO ht,MapKept.run_getObj_map hb,hc,hr]
theorem UC {K:World→Prop}{t kt et:TypeId}{b:Nat}{F:ByteArray→Option Value}{k:ByteArray}{v:Value}(ht:P.underlying t=some (.map kt et))(hk:P.underlying kt=some .string)(h:jm w b F)
  (c : ∀w',Only b w w'→jm w' b (fun k'=>if k'=k then some v else F k')→K w'):lX P (Instr.mapUpdate t (.map (some b)) (.string k) v) w K:=by
 obtain⟨es,cl,hb,h2,h3,h4⟩:=h
 have hbl:b<w.heap.size:=(Array.getElem?_eq_some_iff.1 hb).1
 have hc:(Instr.checkKey false 10000 kt (.string k)).run P w = .ok () w:=MapKept.run_checkKey (k:= .string k) hk (by simp [MapKept.IsKey]) _ 9999
 have only : ∀o,Only b w {w with heap:=w.heap.setIfInBounds b o}:=fun o=>⟨rfl,rfl,rfl,by simp,fun j hj=>by simp [Array.getElem?_setIfInBounds_ne (Ne.symm hj)]⟩
 have self : ∀o,({w with heap:=w.heap.setIfInBounds b o} : World).heap[b]? = some o:=fun o=>by simp [hbl]
 rcases jm.find (P:=P) (w:=w) (k:=k) hk (c:=cl) h2 h3 h4 with ⟨hF,hr,hn⟩ | ⟨j,e,hF,hr,hj,hek⟩
 ·refine⟨(),_, ?_,c _ (only (.map (es.push {key:= .string k,val:=v,born:=cl}) (cl+1))) ⟨_,_,self _, ?_, ?_, ?_⟩⟩
  ·simp [Instr.mapUpdate,aO ht,MapKept.run_getObj_map hb,hc,hr,MapKept.run_setObj_map _ hb]
  ·intro x hx
   simp only [Array.toList_push,List.mem_append,List.mem_singleton]at hx
   rcases hx with hx | rfl
   ·exact h2 x hx
   ·trivial
  ·simp only [Array.toList_push,List.map_append,List.map_cons,List.map_nil]
   refine List.nodup_append.2 ⟨h3,by simp, ?_⟩
   intro a ha b hb
   simp only [List.mem_singleton]at hb
   subst hb
   obtain⟨x,hx,rfl⟩:=List.mem_map.1 ha
   exact hn x hx
  ·intro k' v'
   by_cases e:k'=k
   ·subst e
    simp only [if_true,Option.some.injEq,Array.toList_push,List.mem_append,List.mem_singleton]
    constructor
    ·rintro rfl;exact⟨_, .inr rfl,rfl,rfl⟩
    ·rintro⟨x,hx | rfl,e1,e2⟩
     ·exact absurd e1 (hn x hx)
     ·exact e2
   ·simp only [if_neg e,Array.toList_push,List.mem_append,List.mem_singleton]
    rw [h4]
    constructor
    ·rintro⟨x,hx,e1,e2⟩;exact⟨x, .inl hx,e1,e2⟩
    ·rintro⟨x,hx | rfl,e1,e2⟩
     ·exact⟨x,hx,e1,e2⟩
     ·injection e1 with e1;exact absurd e1.symm e
 ·have hks:Instr.sameBits 10000 e.key (.string k)=true:=by rw [hek];exact(MapKept.bytes_beq k k).2 rfl
  have hkey : ∀x∈(es.modify j fun e=> {e with key:= .string k,val:=v}).toList,x.key∈es.toList.map (·.key):=fun x hx=>by
   have:x.key∈(es.modify j fun e=> {e with key:= .string k,val:=v}).toList.map (·.key):=List.mem_map.2 ⟨x,hx,rfl⟩
   rwa [MapKept.modify_keys j _ fun e' he'=>by rw [hj]at he';injection he' with he';subst he';exact hek.symm]at this
  refine⟨(),_, ?_,c _ (only (.map (es.modify j fun e=> {e with key:= .string k,val:=v}) cl)) ⟨_,_,self _, ?_, ?_, ?_⟩⟩
  ·simp [Instr.mapUpdate,aO ht,MapKept.run_getObj_map hb,hc,hr,hj,Instr.keyThatStays,hks,MapKept.run_setObj_map _ hb]
  ·exact MapKept.isKey_modify h2 j _ fun e' he'=>by rw [hj]at he';injection he' with he';subst he';exact hek.symm
  ·rw [MapKept.modify_keys j _ fun e' he'=>by rw [hj]at he';injection he' with he';subst he';exact hek.symm];exact h3
  ·intro k' v'
   have hmod : ∀i,(es.modify j fun e=> {e with key:= .string k,val:=v}).toList[i]? = if j=i then(es[i]?).map (fun e=> {e with key:= .string k,val:=v})else es[i]? :=fun i=>by
    rw [Array.getElem?_toList,Array.getElem?_modify]
   have uniq : ∀i x,es[i]? = some x→x.key = .string k→i=j:=fun i x hx hxk=>by
    have hi:i<(es.toList.map (·.key)).length:=by
     have:=(Array.getElem?_eq_some_iff.1 hx).1
     simpa using this
    refine(List.getElem?_inj hi h3).1 ?_
    rw [List.getElem?_map,List.getElem?_map,Array.getElem?_toList,Array.getElem?_toList,hx,hj]
    simp [hxk,hek]
   constructor
   ·intro hv
    have hv:(if k'=k then some v else F k')=some v':=hv
    by_cases e':k'=k
    ·rw [if_pos e']at hv
     injection hv with hv
     subst hv;subst e'
     exact⟨_,List.mem_iff_getElem?.2 ⟨j,by rw [hmod,if_pos rfl,hj];rfl⟩,rfl,rfl⟩
    ·rw [if_neg e']at hv
     obtain⟨x,hx,e1,e2⟩:=(h4 k' v').1 hv
     obtain⟨i,hi⟩:=List.mem_iff_getElem?.1 hx
     rw [Array.getElem?_toList]at hi
     have hij : ¬j=i:=fun q=>by
      subst q
      rw [hj]at hi
      injection hi with hi
      subst hi
      rw [hek]at e1
      injection e1 with e1
      exact e' e1.symm
     exact⟨x,List.mem_iff_getElem?.2 ⟨i,by rw [hmod,if_neg hij];exact hi⟩,e1,e2⟩
   ·rintro⟨x,hx,e1,e2⟩
    obtain⟨i,hi⟩:=List.mem_iff_getElem?.1 hx
    rw [hmod]at hi
    by_cases hij:j=i
    ·subst hij
     rw [if_pos rfl,hj]at hi
     simp only [Option.map_some,Option.some.injEq]at hi
     subst hi
     injection e1 with e1
     show (if k'=k then some v else F k')=some v'
     rw [if_pos e1.symm]
     exact congrArg some e2
    ·rw [if_neg hij]at hi
     have e' : ¬k'=k:=fun q=>hij (uniq i x hi (by rw [e1,q])).symm
     show (if k'=k then some v else F k')=some v'
     rw [if_neg e']
     exact(h4 k' v').2 ⟨x,List.mem_iff_getElem?.2 ⟨i,by rw [Array.getElem?_toList];exact hi⟩,e1,e2⟩
end
def jy (w:World)(b:Nat)(F:Int→Option Value):Prop:=
 ∃es clock,w.heap[b]? = some (.map es clock)∧(∀x∈es.toList,MapKept.IsKey (.int .i64) x.key)∧(es.toList.map (·.key)).Nodup∧∀k v,F k=some v↔∃x∈es.toList,x.key=(.int .i64 k)∧x.val=v
theorem jy.lt {w:World}{b:Nat}{F:Int→Option Value}(h:jy w b F):b<w.heap.size:=let ⟨_,_,hb,_⟩:=h;(Array.getElem?_eq_some_iff.1 hb).1
theorem jy.below {w w':World}{b B:Nat}{F:Int→Option Value}(h:jy w b F)(hB:Below B w w')(hb:b<B):jy w' b F:=
 let ⟨es,c,h1,h2⟩:=h;⟨es,c,(hB.block b hb).trans h1,h2⟩
theorem jy.only {w w':World}{b k:Nat}{F:Int→Option Value}(h:jy w b F)(hO:Only k w w')(hb:b≠k):jy w' b F:=
 let ⟨es,c,h1,h2⟩:=h;⟨es,c,(hO.block b hb).trans h1,h2⟩
theorem jy.quiet {w w':World}{b:Nat}{F:Int→Option Value}(h:jy w b F)(hQ:Quiet w w'):jy w' b F:=
 let ⟨es,c,h1,h2⟩:=h;⟨es,c,by rw [hQ.heap];exact h1,h2⟩
theorem jy.heap {w w':World}{b:Nat}{F:Int→Option Value}(h:jy w b F)(e:w'.heap[b]? = w.heap[b]?):jy w' b F:=
 let ⟨es,c,h1,h2⟩:=h;⟨es,c,e.trans h1,h2⟩
theorem jy.drew {w:World}{b:Nat}{F:Int→Option Value}(h:jy w b F):jy w.drew b F:=h
theorem jy.congr {w:World}{b:Nat}{F G:Int→Option Value}(h:jy w b F)(e : ∀k,F k=G k):jy w b G:=
 let ⟨es,c,h1,h2,h3,h4⟩:=h;⟨es,c,h1,h2,h3,fun k v=>by rw [←e k];exact h4 k v⟩
section
variable {P:Program}{w:World}{K:Value→World→Prop}
theorem Fv {t:TypeId}(k : ∀w',Below w.heap.size w w'→jy w' w.heap.size (fun _=>none)→K (.map (some w.heap.size)) w'):bQ P (Instr.makeMap t none) w K:=by
 refine dZ (run_makeMap t w) (k _ (lG (Below.refl _ _) (Nat.le_refl _) _) ⟨#[],0,heap_alloc_new w _,by simp,by simp,by simp⟩)
theorem jy.find {F:Int→Option Value}{kt:TypeId}{k:Int}(hk:P.underlying kt=some (.int .i64)){es:Array MapEntry}{c:Nat}
  (h2 : ∀x∈es.toList,MapKept.IsKey (.int .i64) x.key) (h3:(es.toList.map (·.key)).Nodup) (h4 : ∀k v,F k=some v↔∃x∈es.toList,x.key=(.int .i64 k)∧x.val=v) :
  (F k=none∧(Instr.findKey kt (.int .i64 k) es.toList).run P w = .ok none w∧∀x∈es.toList,x.key≠(.int .i64 k))∨
  ∃j e,F k=some e.val∧(Instr.findKey kt (.int .i64 k) es.toList).run P w = .ok (some (j,e.val)) w∧es[j]? = some e∧e.key=(.int .i64 k):=by
 rcases MapKept.findNow_spec (d:= .int .i64) (k:= .int .i64 k) rfl es.toList 0 h2 with ⟨hf,hn⟩ | ⟨j,e,hf,he,hek⟩
 ·refine .inl ⟨?_,MapKept.run_findKey hk hf,hn⟩
  cases hF:F k with
  | none=>rfl
  | some v=>obtain⟨x,hx,e1,_⟩:=(h4 k v).1 hF;exact absurd e1 (hn x hx)
 ·refine .inr ⟨j,e,(h4 k e.val).2 ⟨e,List.mem_iff_getElem?.2 ⟨j,he⟩,hek,rfl⟩,by rw [Nat.zero_add]at hf;exact MapKept.run_findKey hk hf,by simpa using he,hek⟩
theorem PE {t kt et:TypeId}{b:Nat}{F:Int→Option Value}{k:Int}{z:Value}(ht:P.underlying t=some (.map kt et))(hk:P.underlying kt=some (.int .i64))(hz:(P.info? et).bind (·.zero)=some z)(h:jy w b F)
  (c:K (.tuple #[(F k).getD z, .bool (F k).isSome]) w):bQ P (Instr.lookup t (.map (some b)) (.int .i64 k) true) w K:=by
 obtain⟨es,cl,hb,h2,h3,h4⟩:=h
 have hc:(Instr.checkKey es.isEmpty 10000 kt (.int .i64 k)).run P w = .ok () w:=MapKept.run_checkKey (k:= .int .i64 k) hk (by simp [MapKept.IsKey]) _ 9999
 rcases jy.find (P:=P) (w:=w) (k:=k) hk (c:=cl) h2 h3 h4 with ⟨hF,hr,_⟩ | ⟨j,e,hF,hr,_⟩
 ·rw [hF]at c
  refine dZ ?_ c
  simp [Instr.lookup,aO ht,MapKept.run_getObj_map hb,hc,hr,oZ hz]
 ·rw [hF]at c
  refine dZ ?_ c
  simp [Instr.lookup,aO ht,MapKept.run_getObj_map hb,hc,hr]
theorem Nv {t kt et:TypeId}{b:Nat}{F:Int→Option Value}{k:Int}{z:Value}(ht:P.underlying t=some (.map kt et))(hk:P.underlying kt=some (.int .i64))(hz:(P.info? et).bind (·.zero)=some z)(h:jy w b F)
  (c:K ((F k).getD z) w):bQ P (Instr.lookup t (.map (some b)) (.int .i64 k) false) w K:=by
 obtain⟨es,cl,hb,h2,h3,h4⟩:=h
 have hc:(Instr.checkKey es.isEmpty 10000 kt (.int .i64 k)).run P w = .ok () w:=MapKept.run_checkKey (k:= .int .i64 k) hk (by simp [MapKept.IsKey]) _ 9999
 rcases jy.find (P:=P) (w:=w) (k:=k) hk (c:=cl) h2 h3 h4 with ⟨hF,hr,_⟩ | ⟨j,e,hF,hr,_⟩
 ·rw [hF]at c
  refine dZ ?_ c
  simp [Instr.lookup,aO ht,MapKept.run_getObj_map hb,hc,hr,oZ hz]
 ·rw [hF]at c
  refine dZ ?_ c
  simp [Instr.lookup,aO ht,MapKept.run_getObj_map hb,hc,hr]
theorem UD {K:World→Prop}{t kt et:TypeId}{b:Nat}{F:Int→Option Value}{k:Int}{v:Value}(ht:P.underlying t=some (.map kt et))(hk:P.underlying kt=some (.int .i64))(h:jy w b F)
  (c : ∀w',Only b w w'→jy w' b (fun k'=>if k'=k then some v else F k')→K w'):lX P (Instr.mapUpdate t (.map (some b)) (.int .i64 k) v) w K:=by
 obtain⟨es,cl,hb,h2,h3,h4⟩:=h
 have hbl:b<w.heap.size:=(Array.getElem?_eq_some_iff.1 hb).1
 have hc:(Instr.checkKey false 10000 kt (.int .i64 k)).run P w = .ok () w:=MapKept.run_checkKey (k:= .int .i64 k) hk (by simp [MapKept.IsKey]) _ 9999
 have only : ∀o,Only b w {w with heap:=w.heap.setIfInBounds b o}:=fun o=>⟨rfl,rfl,rfl,by simp,fun j hj=>by simp [Array.getElem?_setIfInBounds_ne (Ne.symm hj)]⟩
 have self : ∀o,({w with heap:=w.heap.setIfInBounds b o} : World).heap[b]? = some o:=fun o=>by simp [hbl]
 rcases jy.find (P:=P) (w:=w) (k:=k) hk (c:=cl) h2 h3 h4 with ⟨hF,hr,hn⟩ | ⟨j,e,hF,hr,hj,hek⟩
 ·refine⟨(),_, ?_,c _ (only (.map (es.push {key:=(.int .i64 k),val:=v,born:=cl}) (cl+1))) ⟨_,_,self _, ?_, ?_, ?_⟩⟩
  ·simp [Instr.mapUpdate,aO ht,MapKept.run_getObj_map hb,hc,hr,MapKept.run_setObj_map _ hb]
  ·intro x hx
   simp only [Array.toList_push,List.mem_append,List.mem_singleton]at hx
   rcases hx with hx | rfl
   ·exact h2 x hx
   ·rfl
  ·simp only [Array.toList_push,List.map_append,List.map_cons,List.map_nil]
   refine List.nodup_append.2 ⟨h3,by simp, ?_⟩
   intro a ha b hb
   simp only [List.mem_singleton]at hb
   subst hb
   obtain⟨x,hx,rfl⟩:=List.mem_map.1 ha
   exact hn x hx
  ·intro k' v'
   by_cases e:k'=k
   ·subst e
    simp only [if_true,Option.some.injEq,Array.toList_push,List.mem_append,List.mem_singleton]
    constructor
    ·rintro rfl;exact⟨_, .inr rfl,rfl,rfl⟩
    ·rintro⟨x,hx | rfl,e1,e2⟩
     ·exact absurd e1 (hn x hx)
     ·exact e2
   ·simp only [if_neg e,Array.toList_push,List.mem_append,List.mem_singleton]
    rw [h4]
    constructor
    ·rintro⟨x,hx,e1,e2⟩;exact⟨x, .inl hx,e1,e2⟩
    ·rintro⟨x,hx | rfl,e1,e2⟩
     ·exact⟨x,hx,e1,e2⟩
     ·injection e1 with _ e1;exact absurd e1.symm e
 ·have hks:Instr.sameBits 10000 e.key (.int .i64 k)=true:=by rw [hek];simp [Instr.sameBits]
  have hkey : ∀x∈(es.modify j fun e=> {e with key:=(.int .i64 k),val:=v}).toList,x.key∈es.toList.map (·.key):=fun x hx=>by
   have:x.key∈(es.modify j fun e=> {e with key:=(.int .i64 k),val:=v}).toList.map (·.key):=List.mem_map.2 ⟨x,hx,rfl⟩
   rwa [MapKept.modify_keys j _ fun e' he'=>by rw [hj]at he';injection he' with he';subst he';exact hek.symm]at this
  refine⟨(),_, ?_,c _ (only (.map (es.modify j fun e=> {e with key:=(.int .i64 k),val:=v}) cl)) ⟨_,_,self _, ?_, ?_, ?_⟩⟩
  ·simp [Instr.mapUpdate,aO ht,MapKept.run_getObj_map hb,hc,hr,hj,Instr.keyThatStays,hks,MapKept.run_setObj_map _ hb]
  ·exact MapKept.isKey_modify h2 j _ fun e' he'=>by rw [hj]at he';injection he' with he';subst he';exact hek.symm
  ·rw [MapKept.modify_keys j _ fun e' he'=>by rw [hj]at he';injection he' with he';subst he';exact hek.symm];exact h3
  ·intro k' v'
   have hmod : ∀i,(es.modify j fun e=> {e with key:=(.int .i64 k),val:=v}).toList[i]? = if j=i then(es[i]?).map (fun e=> {e with key:=(.int .i64 k),val:=v})else es[i]? :=fun i=>by
    rw [Array.getElem?_toList,Array.getElem?_modify]
   have uniq : ∀i x,es[i]? = some x→x.key=(.int .i64 k)→i=j:=fun i x hx hxk=>by
    have hi:i<(es.toList.map (·.key)).length:=by
     have:=(Array.getElem?_eq_some_iff.1 hx).1
     simpa using this
    refine(List.getElem?_inj hi h3).1 ?_
    rw [List.getElem?_map,List.getElem?_map,Array.getElem?_toList,Array.getElem?_toList,hx,hj]
    simp [hxk,hek]
   constructor
   ·intro hv
    have hv:(if k'=k then some v else F k')=some v':=hv
    by_cases e':k'=k
    ·rw [if_pos e']at hv
     injection hv with hv
     subst hv;subst e'
     exact⟨_,List.mem_iff_getElem?.2 ⟨j,by rw [hmod,if_pos rfl,hj];rfl⟩,rfl,rfl⟩
    ·rw [if_neg e']at hv
     obtain⟨x,hx,e1,e2⟩:=(h4 k' v').1 hv
     obtain⟨i,hi⟩:=List.mem_iff_getElem?.1 hx
     rw [Array.getElem?_toList]at hi
     have hij : ¬j=i:=fun q=>by
      subst q
      rw [hj]at hi
      injection hi with hi
      subst hi
      rw [hek]at e1
      injection e1 with _ e1
      exact e' e1.symm
     exact⟨x,List.mem_iff_getElem?.2 ⟨i,by rw [hmod,if_neg hij];exact hi⟩,e1,e2⟩
   ·rintro⟨x,hx,e1,e2⟩
    obtain⟨i,hi⟩:=List.mem_iff_getElem?.1 hx
    rw [hmod]at hi
    by_cases hij:j=i
    ·subst hij
     rw [if_pos rfl,hj]at hi
     simp only [Option.map_some,Option.some.injEq]at hi
     subst hi
     injection e1 with _ e1
     show (if k'=k then some v else F k')=some v'
     rw [if_pos e1.symm]
     exact congrArg some e2
    ·rw [if_neg hij]at hi
     have e' : ¬k'=k:=fun q=>hij (uniq i x hi (by rw [e1,q])).symm
     show (if k'=k then some v else F k')=some v'
     rw [if_neg e']
     exact(h4 k' v').2 ⟨x,List.mem_iff_getElem?.2 ⟨i,by rw [Array.getElem?_toList];exact hi⟩,e1,e2⟩
end
abbrev mQ (s:ByteArray):List UInt8:=s.data.toList
theorem Dx (s:ByteArray):(mQ s).length=s.size:=by simp
section
variable {P:Program}{w:World}{K:Value→World→Prop}
theorem vF {t:TypeId}{s:ByteArray}{k:IntKind}{ix:Int}(m:Nat)(hm:ix=m)(hu:P.underlying t=some .string)(h:m<s.size)
  (c:K (.int .u8 (s[m].toNat:Int)) w):bQ P (Instr.index t (.string s) (.int k ix)) w K:=by
 refine dZ ?_ c
 subst hm
 rw [run_index_string w t s k m hu,dif_pos ⟨by omega,by omega⟩]
 simp
theorem Nw {t:TypeId}{s:ByteArray}{kl kh:IntKind}{lo hi:Int}(a b:Nat)(ha:lo=a)(hb:hi=b)(hu:P.underlying t=some .string)(hab:a≤b)(h:b≤s.size)
  (c:K (.string (s.extract a b)) w):bQ P (Instr.sliceAt t (.string s) (some (.int kl lo)) (some (.int kh hi)) none) w K:=by
 refine dZ ?_ c
 subst ha;subst hb
 unfold Instr.sliceAt
 rw [Sem.run_bind,aO hu]
 simp only [Result.andThen_ok]
 unfold Instr.slice
 rw [Sem.run_bind,aO hu]
 have h1:(0:Int)≤b∧(b:Int)≤s.size:=⟨by omega,by omega⟩
 have h2:(0:Int)≤a∧(a:Int)≤b:=⟨by omega,by omega⟩
 simp [Instr.sliceBounds,Instr.sliceBound,asIntOf,h1,h2,h,hab]
def Uj (w:World)(b:Nat)(s:ByteArray)(p:Nat):Prop:=w.heap[b]? = some (.stringIter s p)
theorem Ny {t:TypeId}{s:ByteArray}(hu:P.underlying t=some .string)(k : ∀w',Below w.heap.size w w'→Uj w' w.heap.size s 0→K (.pointer (some ⟨w.heap.size,0,none⟩)) w') :
  bQ P (Instr.range t (.string s)) w K:=by
 refine dZ ?_ (k (w.alloc (.stringIter s 0)) (lG (Below.refl _ _) (Nat.le_refl _) _) (heap_alloc_new w _))
 unfold Instr.range
 simp [aO hu]
theorem wV {b:Nat}{s:ByteArray}{p:Nat}(h:Uj w b s p):(getObj b).run P w = .ok (.stringIter s p) w:=by
 have h':w.heap[b]? = some (.stringIter s p):=h
 simp [getObj,Sem.run,h']
theorem Fz {b:Nat}{s:ByteArray}{p:Nat}(o:Obj)(h:Uj w b s p):(setObj b o).run P w = .ok () {w with heap:=w.heap.setIfInBounds b o}:=by
 have h':w.heap[b]? = some (.stringIter s p):=h
 simp [setObj,Sem.run,h']
theorem IV {ty:TypeId}{b:Nat}{s:ByteArray}{p:Nat}(h:Uj w b s p)(hp:s.size≤p)(k:K (.tuple #[.bool false]) w):bQ P (Instr.next (.pointer (some ⟨b,0,none⟩)) true ty) w K:=by
 refine dZ ?_ k
 unfold Instr.next
 simp [wV h,Nat.not_lt.2 hp]
theorem UE {ty:TypeId}{b:Nat}{s:ByteArray}{p:Nat}(h:Uj w b s p)(hp:p<s.size)
  (k1:s[p].toNat<128→∀w',Only b w w'→Uj w' b s (p+1)→K (.tuple #[.bool true, .int .i64 (p:Nat), .int .i32 (s[p].toNat:Nat)]) w')
  (k2:128≤s[p].toNat→∀w' (c q:Nat),Only b w w'→Uj w' b s q→128≤c→K (.tuple #[.bool true, .int .i64 (p:Nat), .int .i32 (c:Nat)]) w') :
  bQ P (Instr.next (.pointer (some ⟨b,0,none⟩)) true ty) w K:=by
 have hbl:b<w.heap.size:=(Array.getElem?_eq_some_iff.1 h).1
 have only : ∀o,Only b w {w with heap:=w.heap.setIfInBounds b o}:=fun o=>⟨rfl,rfl,rfl,by simp,fun j hj=>by simp [Array.getElem?_setIfInBounds_ne (Ne.symm hj)]⟩
 have self : ∀q,Uj ({w with heap:=w.heap.setIfInBounds b (.stringIter s q)} : World) b s q:=fun q=>by unfold Uj;simp [hbl]
 have hrun : ∀c q,Utf8.decode s p=(c,q)→(Instr.next (.pointer (some ⟨b,0,none⟩)) true ty).run P w = .ok (.tuple #[.bool true,goInt p, .int .i32 c]) {w with heap:=w.heap.setIfInBounds b (.stringIter s (p+q))}:=fun c q hd=>by
  unfold Instr.next
  simp [wV h,hp,hd,Fz _ h]
 have hb0:(s.get! (p+0)).toNat=s[p].toNat:=by
  rw [Nat.add_zero]
  congr 1
  show s.data[p]! = s.data[p]
  exact getElem!_pos s.data p hp
 by_cases hc:s[p].toNat<128
 ·have hd:Utf8.decode s p=(s[p].toNat,1):=by
   unfold Utf8.decode
   simp only [hb0]
   rw [if_pos (by simpa using hc)]
  exact dZ (hrun _ _ hd) (k1 hc _ (only _) (self _))
 ·have hd : ∃c q,Utf8.decode s p=(c,q)∧128≤c:=by
   unfold Utf8.decode
   simp only [hb0]
   rw [if_neg (by simpa using hc)]
   split
   ·split
    ·exact⟨_,_,rfl,by omega⟩
    ·exact⟨_,_,rfl,by decide⟩
   ·split
    ·split
     ·rename_i h1;exact⟨_,_,rfl,by simp only [Bool.and_eq_true,decide_eq_true_eq]at h1;omega⟩
     ·exact⟨_,_,rfl,by decide⟩
    ·split
     ·split
      ·rename_i h1;exact⟨_,_,rfl,by simp only [Bool.and_eq_true,decide_eq_true_eq]at h1;omega⟩
      ·exact⟨_,_,rfl,by decide⟩
     ·exact⟨_,_,rfl,by decide⟩
  obtain⟨c,q,hd,hc2⟩:=hd
  exact dZ (hrun _ _ hd) (k2 (by omega) _ c _ (only _) (self _) hc2)
end
end Go.Proofs.YtocckceefcmeaaaGreatDoor.Vc
