/- Joined parts of the proof. Plain encodings that the walks of several chapters share -/
import Derived.Test.YtocckceefcmeaaaGreatDoorPk6
import Derived.Test.YtocckceefcmeaaaGreatDoorPk5
import Derived.Test.YtocckceefcmeaaaGreatDoorProg
import Derived.Test.YtocckceefcmeaaaGreatDoorPk4
import Derived.Sort.Grow
import Derived.Test.YtocckceefcmeaaaGreatDoorPk1
import Derived.ProofKit
import Derived.MapKept
import Derived.Laws.Strings
import Derived.OpenShut
import Derived.Test.YtocckceefcmeaaaGreatDoorRows
import Derived.LaidMore
import Derived.Stop.Joined
set_option linter.unusedVariables false
set_option linter.unusedSimpArgs false
set_option maxRecDepth 100000
set_option maxHeartbeats 16000000
namespace Go.Proofs.YtocckceefcmeaaaGreatDoor.Cl
open RowKit Vc Ax Go.Proofs.Tryz
abbrev By:=List UInt8
abbrev Tx:=List By
def I64 (n:Int):Prop:= -9223372036854775808<=n∧n<=9223372036854775807
theorem nD {n:Nat}(h:n<=9223372036854775807):I64 (n:Int):=by unfold I64;omega
theorem toNat_ofNat {u:Nat}(h:u<256):(UInt8.ofNat u).toNat=u:=by
 simp [UInt8.toNat_ofNat',bU h]
abbrev Li:=List Int
def nY (l:Li):Prop:= ∀x∈l,I64 x
theorem mixed:Tryz.prog.follows .mixedOrders=true:=by kernel_rfl
def GC:Glob:=⟨0,fun _=>none,fun _=>none⟩
abbrev iv (n:Int):AV:= .v (.int .i64 n)
abbrev bv (b:Bool):AV:= .v (.bool b)
abbrev uv (n:Nat):AV:= .v (.int .u64 (n:Int))
def xG (x:Int):List FV:= [.v (.int .i64 x)]
abbrev bs (b:By):AV:= .lst 1 (b.map oh)
abbrev li (l:Li):AV:= .lst 1 (l.map xG)
theorem lU.to {k:IntKind}{x y:Int}{K:Int->Prop}(h:k.wrap x=y)(c:K y):lU k x K:=⟨by rw [h];exact c⟩
theorem BA.of {s:By}{K:ByteArray->Prop}(c:K ⟨s.toArray⟩):BA (s.map oh) K:=⟨⟨s,rfl,c⟩⟩
abbrev u8v (n:Nat):AV:= .v (.int .u8 (n:Int))
theorem uh (a b:By):wP ⟨a.toArray⟩ ⟨b.toArray⟩=decide (a=b):=by
 rw [XG]
 by_cases h:a=b
 ·subst h;simp
 ·rw [decide_eq_false h]
  refine decide_eq_false fun e=>h ?_
  injection e with e
  simpa using congrArg Array.toList e
end Go.Proofs.YtocckceefcmeaaaGreatDoor.Cl
namespace Go.Proofs.YtocckceefcmeaaaGreatDoor.Ax
open RowKit Vc Go.Proofs.Tryz
variable {P:Program}{G:Glob}
def Here (w:World)(b:Nat):Prop:=b<w.heap.size
def Ru:Nat->Loc:=fun _=>⟨none,0,0,0⟩
theorem Ox {f:FuncId}{args:List AV}{x:Value}(h:mX P G f args 0 [] (Is (.v x)))(w:World)(hG:G.holds w)(vs:List Value)(r:ng 0 Ru (Here w) w args vs):y8 P f vs.toArray w fun v w'=>v=x∧Below w.heap.size w w':=by
 have st:St G w (uj w Ru []) (Here w) 0 Ru (Here w) [] w:=⟨hG,yT.refl _ _,fun b hb=>⟨hb, .inl hb⟩,(fun lV b h=>by cases h),(fun lV b g h=>by cases h),(fun lV zh b b' g h=>by cases h),(fun lV b h=>by cases h)⟩
 refine(h w Ru (Here w) vs st r).mono fun v w' ⟨a,n',σ',F',H',⟨ha,_,_⟩,s,_,ra⟩=> ?_
 subst ha
 refine⟨ra.nV,s.qg.os,s.qg.tape,s.qg.output,s.qg.size,fun k hk=>s.qg.block k hk fun⟨_,_,hm,_⟩=>by cases hm⟩
theorem UM {α:Type}{c:α->List Value}{k:Nat}(hk : ∀a,(c a).length=k){l:List α}{i j:Nat}{a:α}{v:Value}(hi:l[i]? = some a)(hj:(c a)[j]? = some v):(recs c l)[i*k+j]? = some v:=by
 obtain⟨h,rfl⟩:=aG.1 hi
 exact Tv hk l i h j v hj
theorem Rw {α:Type}{F:Nat->Prop}{w:World}{sz:Nat}{enc:α->List FV}{c:α->List Value}(he : ∀x,enc x=(c x).map .v)(hk : ∀a,(c a).length=sz)(h1 : ∀a, ∀v∈c a,v.oneCell'=true){l:List α}{oa:Option Addr}{cap:Nat}(hc:l.length<=cap)(hnil:oa=none->cap=0)(hr:Row w oa (recs c l))(hF : ∀b,b<w.heap.size->F b)(hz:0<sz) :
  oL F w (.lst sz (l.map enc)) (.slice oa l.length cap):=by
 have hlen : ∀row∈l.map enc,row.length=sz:=fun row hrow=>by
  obtain⟨a,_,rfl⟩:=dR.1 hrow
  rw [he,ah,hk]
 rcases bP l.length with h0|h0
 ·have hl:l = []:=aF h0
  subst hl
  exact .lst sz [] oa 0 cap 0 0 rfl hc hnil (fun h=>absurd h (iV 0)) (fun row hr=>by cases hr) (fun i j hi=>absurd hi (gQ i)) (fun i j row a v hi=>by simp at hi)
 ·rcases hr with hr|⟨b,o,rfl,hb,hcell⟩
  ·have:=Kq hk l
   rw [hr,dQ]at this
   have:=jM h0 hz
   omega
  ·have row : ∀i j,i<l.length->j<sz->∃a v,l[i]? = some a∧(c a)[j]? = some v∧w.cell? ⟨b,o+(i*sz+j),none⟩=some v:=fun i j hi hj=>by
    have hjl:j<(c l[i]).length:=by rw [hk];exact hj
    exact⟨l[i],(c l[i])[j],aj hi,aj hjl,hcell _ _ (UM hk (aj hi) (aj hjl))⟩
   refine .lst sz (l.map enc) _ l.length cap b o (by rw [ah]) hc hnil (fun _=>⟨rfl,hF b hb⟩) hlen (fun i j hi hj=> ?_) (fun i j rw_ a v hi hj hv=> ?_)
   ·obtain⟨a,v,_,h2,h3⟩:=row i j hi hj
    exact⟨v,h3,h1 a v (aT h2)⟩
   ·rw [aP]at hi
    cases hl:l[i]? with
    | none=>rw [hl]at hi;cases hi
    | some x=>
     rw [hl]at hi
     simp only [bM,aI]at hi
     subst hi
     have hil:=(aG.1 hl).1
     have hjs:j<sz:=by have:=(aG.1 hj).1;rw [he,ah,hk]at this;exact this
     obtain⟨a',v',h4,h5,h6⟩:=row i j hil hjs
     rw [hl]at h4
     injection h4 with h4
     subst h4
     rw [he,aP,h5]at hj
     simp only [bM,aI]at hj
     rw [h6]at hv
     injection hv with hv
     subst hv;subst hj
     exact .v _
section
section
variable {P:Program}{G:Glob}
def en1 {α:Type}(enc:α->Value)(a:α):List FV:= [.v (enc a)]
theorem YX {α:Type}{enc:α->Value}(h1 : ∀a,(enc a).oneCell'=true){F:Nat->Prop}{w:World} : ∀zs:List α,pz F w 1 (zs.map (en1 enc)) (zs.map enc):=by
 intro zs
 induction zs with
 | nil=>exact pz.nil 1
 | cons a r ih=>exact pz.cons (xs:=r.map enc) (vs:= [enc a]) (Uc [enc a]) rfl (by simp [h1]) ih
theorem LV {α:Type}(enc:α->Value) : ∀zs:List α,recs (fun a=> [enc a]) zs=zs.map enc:=by
 intro zs
 unfold recs
 induction zs with
 | nil=>rfl
 | cons a r ih=>simp only [gy,iq,ih];rfl
theorem yB {α:Type}[Inhabited α]{enc:α->Value}(h1 : ∀a,(enc a).oneCell'=true){f:FuncId}{T:TypeId}{zs zs':List α}{A:AV}{V:Nat->Nat->Value->Prop}(hne:zs≠ [])(hl:zs'.length=zs.length)
  (h : ∀w blk cap,Sort.Holds enc w blk 0 zs.toArray->blk<w.heap.size->zs.length<=cap->y8 P f #[.slice (some ⟨blk,0,none⟩) zs.length cap] w fun v w'=>V blk cap v∧∃q os,w'=Sort.grow (Sort.putRow enc (Sort.ahead w q) blk 0 zs'.toArray) os)
  (hv : ∀w (σ:Nat->Loc) F blk cap v,σ 0=⟨some blk,zs.length,cap,1⟩->zs.length<=cap->V blk cap v->mF 1 σ F w A v) :
  mX P G f [.own 0] 1 [(0, .rows T 1 (zs.map (en1 enc)))] (fun a n H=>a=A∧n=1∧H = [(0, .rows T 1 (zs'.map (en1 enc)))]):=by
 intro w σ F vs st r
 have hpos:0<zs.length:=dV.2 hne
 obtain⟨hsz,hn,xs,hown,hrep⟩:=st.blk 0 _ rfl
 rw [ah]at hn hown
 have hxs:xs=zs.map enc:=by rw [<-LV];exact Rk (c:=fun a=> [enc a]) (fun _=>rfl) hrep
 rcases hown.2 with ⟨_,h0⟩|⟨g,cap,cur,hval,_,hb,hnc,hcm,hcs,htk⟩
 ·omega
 injection hval with e1 e2 e3
 have hLb:(σ 0).b=some g:=by
  unfold Loc.oa at e1
  cases hbb:(σ 0).b with
  | none=>rw [hbb]at e1;cases e1
  | some g'=>rw [hbb]at e1;injection e1 with e1;injection e1 with e1;rw [e1]
 have hσ:σ 0=⟨some g,zs.length,cap,1⟩:=by
  cases hs:σ 0 with
  | mk b n c sz=>rw [hs]at hLb hn e3 hsz;simp only at hLb hn e3 hsz;subst hLb;subst hn;subst e3;subst hsz;rfl
 obtain⟨v0,rfl,hv0⟩ : ∃v0,vs = [v0]∧v0 = .slice (some ⟨g,0,none⟩) zs.length cap:=by
  match vs,r with
  | [v0],r=>
   refine⟨v0,rfl, ?_⟩
   cases r.1 with
   | own _ hl=>rw [hσ];rfl
   | qP _ oa hl hn0 hc=>rw [hσ]at hn0;simp only at hn0;omega
 subst hv0
 have hg:g<w.heap.size:=(cO.1 hb).1
 have hsz2:zs.length<=cur.size:=by omega
 have hH:Sort.Holds enc w g 0 zs.toArray:=by
  intro j hj
  have hj':j<zs.length:=by simpa using hj
  refine⟨?_,by simp [World.frozen?,hb]⟩
  have h2:(cur.toList.take zs.length)[j]? = (zs.map enc)[j]? :=by rw [<-hxs, <-htk,dW]
  rw [ku hj']at h2
  simp only [World.cell?,hb,aS]
  simp only [Option.isSome_none,aZ,if_false]
  rw [<-bf,h2]
  simp [hj']
 have hmu:=st.mu 0 (.rows T 1 (zs.map (en1 enc))) g rfl rfl (.inl hLb)
 refine(h w g cap hH hg hnc).mono fun v w' ⟨hV,q,os,hw'⟩=> ?_
 have hheap:w'.heap[g]? = some (.cells (Sort.putCells enc 0 zs'.toArray cur) T (0,0)):=by
  rw [hw',Sort.heap_grow_old _ _ (by simpa using hg)]
  simp [Sort.putRow,Sort.mapBlock,Sort.ahead,iE,hb,Sort.onCells]
 have hother : ∀k,k<w.heap.size->k≠g->w'.heap[k]? = w.heap[k]? :=fun k hk hne=>by
  rw [hw',Sort.heap_grow_old _ _ (by simpa using hk)]
  have:g≠k:=fun e=>hne e.symm
  simp [Sort.putRow,Sort.mapBlock,Sort.ahead,iE,this]
 have hsize:w.heap.size<=w'.heap.size:=by rw [hw'];simp
 have htake:(Sort.putCells enc 0 zs'.toArray cur).toList.take zs'.length=zs'.map enc:=by
  apply jv
  intro j
  by_cases hj:j<zs'.length
  ·rw [ku hj,bf]
   simp [Sort.putCells,hj,show j<cur.size by omega]
  ·rw [List.getElem?_take_eq_none (by omega),eX (by simp;omega)]
 have af0 : ∀b,F b->b≠g:=fun b hb e=>hmu.1 (e▸hb)
 refine⟨A,1,σ,F,_,⟨rfl,rfl,rfl⟩,⟨?_, ?_, ?_, ?_, ?_, ?_, ?_⟩,⟨ay _,fun _ _=>rfl,fun b hb=>⟨hb,hother b (st.oC b hb).1 (af0 b hb)⟩,hsize⟩,hv w' σ F g cap v hσ hnc hV⟩
 ·exact Glob.qg st.glob hsize fun b hb=>hother b (aV hb st.glob.1) (by omega)
 ·refine⟨by rw [hw'];rfl,by rw [hw'];rfl,by rw [hw'];rfl,hsize,fun k hk hm=>hother k hk fun e=>hm ⟨0,_,rfl,rfl,by rw [e];exact .inl hLb⟩⟩
 ·exact fun b hb=>⟨aV (st.oC b hb).1 hsize, .inl hb⟩
 ·intro k b hk
  simp only [look]at hk
  cases hb0:Nat.beq 0 k with
  | true=>have:=aA hb0;omega
  | false=>rw [hb0,cond_false]at hk;cases hk
 ·intro k b g' hk hm hg'
  simp only [look]at hk
  cases hb0:Nat.beq 0 k with
  | true=>
   have:=aA hb0
   subst this
   rw [hb0,cond_true]at hk
   injection hk with hk
   subst hk
   have hg':=hg'.flat rfl
   rw [hLb]at hg'
   injection hg' with hg'
   subst hg'
   exact⟨hmu.1,hmu.2.1,aV hg hsize, .inl ⟨0,_,rfl,rfl, .inl hLb⟩⟩
  | false=>rw [hb0,cond_false]at hk;cases hk
 ·intro k k' b b' g' hk hk' _ _ _ _
  simp only [look]at hk hk'
  cases hb0:Nat.beq 0 k with
  | true=>
   cases hb1:Nat.beq 0 k' with
   | true=>rw [<-aA hb0, <-aA hb1]
   | false=>rw [hb1,cond_false]at hk';cases hk'
  | false=>rw [hb0,cond_false]at hk;cases hk
 ·intro k b hk
  simp only [look]at hk
  cases hb0:Nat.beq 0 k with
  | true=>
   have:=aA hb0
   subst this
   rw [hb0,cond_true]at hk
   injection hk with hk
   subst hk
   refine⟨hsz,by rw [ah,hl];exact hn,zs'.map enc,⟨by simp, .inr ⟨g,cap,_, ?_,aB _,hheap,by rw [ah];omega,hcm,by simp [Sort.putCells,hcs], ?_⟩⟩,YX h1 zs'⟩
   ·rw [hσ,ah];rfl
   ·rw [ah,dW];exact htake
  | false=>rw [hb0,cond_false]at hk;cases hk
end
end
end Go.Proofs.YtocckceefcmeaaaGreatDoor.Ax
namespace Go.Proofs.YtocckceefcmeaaaGreatDoor.Vc
open RowKit Go.ChangeShapes Go.WideShapes Go.ChangeAt Go.Proofs.Tryz
section
variable {H:Type}{enc:TypeId×Value->H}{P:Program}{w:World}{t:TypeId}{cs:List Value}
def RdD (enc:TypeId×Value->H)(P:Program)(w:World)(t:TypeId)(cs:List Value)(d:DataW H):Prop:= ∃held fuel p,DataW.trod enc P w 0 (fun _=>true) held fuel t cs=some (d,p)
def Rd (enc:TypeId×Value->H)(P:Program)(w:World)(t:TypeId)(cs:List Value):Prop:= ∃d,RdD enc P w t cs d
theorem YZ {k:IntKind}{d:DataW H}(ht:P.underlying t=some (.int k))(h:RdD enc P w t cs d) : ∃n,cs = [.int k n]∧d = .lit (.int k n)∧(Lit.int k n).wf=true:=by
 obtain⟨held,fuel,p,hx⟩:=h
 obtain⟨n,h1,h2,h3⟩:=DataW.trod_int ht hx
 injection h2 with h2
 exact⟨n,h1,h2,h3⟩
theorem aci {k:IntKind}(ht:P.underlying t=some (.int k))(h:Rd enc P w t cs) : ∃n,cs = [.int k n]∧(Lit.int k n).wf=true:=by
 obtain⟨d,h⟩:=h
 obtain⟨n,h1,_,h2⟩:=YZ ht h
 exact⟨n,h1,h2⟩
theorem flat_get {α:Type}{sz:Nat} : ∀(css:List (List α)) (k:Nat) (v:α),(∀c∈css,c.length=sz)->css.flatten[k]? = some v->
  ∃i j c,j<sz∧k=i*sz+j∧css[i]? = some c∧c[j]? = some v:=by
 intro css
 induction css with
 | nil=>intro k v _ h;simp at h
 | cons c r ih=>
  intro k v hl h
  have hc:c.length=sz:=hl c (by simp)
  rw [iq,List.getElem?_append]at h
  split at h
  ·rename_i hk
   exact⟨0,k,c,by omega,by omega,by simp,h⟩
  ·rename_i hk
   obtain⟨i,j,c',hj,hk',hi,hv⟩:=ih _ v (fun c hc=>hl c (by simp [hc])) h
   refine⟨i+1,j,c',hj, ?_,by simpa using hi,hv⟩
   rw [bK]
   omega
theorem H7 {a:Addr}{n:Nat}{cs:List Value}(h:w.cells? 0 a n=some cs):cs.length=n∧∀j v,cs[j]? = some v->w.cell? (a.add j)=some v:=by
 unfold World.cells? at h
 rw [if_pos (aB _)]at h
 refine⟨by rw [mapM_some_length h];simp,fun j v hj=> ?_⟩
 have hlt:j<n:=by
  have:=(aG.1 hj).1
  rw [mapM_some_length h]at this
  simpa using this
 have:=mapM_some_get h j j (by simp [hlt])
 rw [this,hj]
theorem Rx {e:TypeId}{d:DataW H}(ht:P.underlying t=some (.slice e))(h:RdD enc P w t cs d) :
  ∃(oa:Option Addr) (len cap:Nat) (css:List (List Value)) (ds:List (DataW H)),cs = [.slice oa len cap]∧len<=cap∧cap<=maxLen∧(oa=none->cap=0)∧css.length=len∧Row w oa css.flatten∧
   (∀c∈css,c.length=P.cellsOf e∧Rd enc P w e c)∧ds.length=len∧((d = .nil∧len=0)∨∃rest,d = .slice ds rest)∧∀(i:Nat) (c:List Value) (d':DataW H),css[i]? = some c->ds[i]? = some d'->RdD enc P w e c d':=by
 obtain⟨held,fuel,pp,hx⟩:=h
 rcases DataW.trod_slice ht hx with ⟨h1,hd⟩|⟨a,len,cap,elems,rest,n,_,h1,hd,_,hlc,hcm,hlen,hel,_,_⟩
 ·injection hd with hd
  exact⟨none,0,0,[],[],h1,ay _,aB _,fun _=>rfl,rfl,Row.nil _ _,by simp,rfl, .inl ⟨hd,rfl⟩,fun i c d' h=>by simp at h⟩
 ·have each : ∀i,i<len->∃ci,w.cells? 0 (a.add (i*P.cellsOf e)) (P.cellsOf e)=some ci∧Rd enc P w e ci∧∀d',(elems.map (·.1))[i]? = some d'->RdD enc P w e ci d':=by
   intro i hi
   have h1:=hel i hi
   rw [aj (by omega)]at h1
   obtain⟨ci,hc,ht⟩:=Option.bind_eq_some_iff.1 h1
   refine⟨ci,hc,⟨_,held,n,_,ht⟩,fun d' hd'=> ?_⟩
   rw [aP,aj (by omega)]at hd'
   simp only [bM,aI]at hd'
   subst hd'
   exact⟨held,n,_,ht⟩
  obtain⟨css,hcl,Y0⟩ : ∃css:List (List Value),css.length=len∧∀(i:Nat) (c:List Value),css[i]? = some c->w.cells? 0 (a.add (i*P.cellsOf e)) (P.cellsOf e)=some c∧Rd enc P w e c∧∀d',(elems.map (·.1))[i]? = some d'->RdD enc P w e c d':=by
   refine⟨(List.range len).map fun i=>(w.cells? 0 (a.add (i*P.cellsOf e)) (P.cellsOf e)).getD [],by simp,fun i c hc=> ?_⟩
   have hlt:i<len:=by simpa using (aG.1 hc).1
   obtain⟨ci,h1,h2⟩:=each i hlt
   simp only [aP,fP hlt,bM,h1,iD,aI]at hc
   subst hc
   exact⟨h1,h2⟩
  have hall : ∀c∈css,c.length=P.cellsOf e∧Rd enc P w e c:=by
   intro c hc
   obtain⟨i,hi⟩:=bW.1 hc
   exact⟨(H7 (Y0 i c hi).1).1,(Y0 i c hi).2.1⟩
  refine⟨some a,len,cap,css,elems.map (·.1),h1,hlc,hcm,(fun e=>by cases e),hcl, ?_,hall,by simp [hlen], .inr ⟨rest.map (·.1),by injection hd⟩,fun i c d' h1 h2=>(Y0 i c h1).2.2 d' h2⟩
  by_cases hne:css.flatten = []
  ·exact .inl hne
  ·right
   have cell : ∀k v,css.flatten[k]? = some v->∃i j,j<P.cellsOf e∧k=i*P.cellsOf e+j∧w.cell? ((a.add (i*P.cellsOf e)).add j)=some v:=by
    intro k v hk
    obtain⟨i,j,c,hj,hkk,hi,hv⟩:=flat_get css k v (fun c hc=>(hall c hc).1) hk
    exact⟨i,j,hj,hkk,(H7 (Y0 i c hi).1).2 j v hv⟩
   have hspot:a.spot=none:=by
    obtain⟨v,hv⟩ : ∃v,css.flatten[0]? = some v:=by
     cases hf:css.flatten with
     | nil=>exact absurd hf hne
     | cons v r=>exact⟨v,by simp⟩
    obtain⟨i,j,hj,hk,hc⟩:=cell 0 v hv
    have hj0:j=0:=by omega
    have hi0:i*P.cellsOf e=0:=by omega
    rw [hi0,hj0]at hc
    have:(a.add 0).add 0=a:=by simp [Addr.add]
    rw [this]at hc
    cases hs:a.spot with
    | none=>rfl
    | some s=>
     unfold World.cell? at hc
     split at hc<;>simp [hs]at hc
   obtain⟨b,o,s⟩:=a
   simp only at hspot
   subst hspot
   refine⟨b,o,rfl, ?_,fun k v hk=> ?_⟩
   ·obtain⟨v,hv⟩ : ∃v,css.flatten[0]? = some v:=by
     cases hf:css.flatten with
     | nil=>exact absurd hf hne
     | cons v r=>exact⟨v,by simp⟩
    obtain⟨i,j,_,_,hc⟩:=cell 0 v hv
    rw [add0,add0]at hc
    exact World.block_lt_of_cell? w _ hc
   ·obtain⟨i,j,_,hkk,hc⟩:=cell k v hk
    rw [add0,add0]at hc
    rw [hkk, <-fG]
    exact hc
theorem UN {e:TypeId}(ht:P.underlying t=some (.slice e))(h:Rd enc P w t cs) :
  ∃(oa:Option Addr) (len cap:Nat) (css:List (List Value)),cs = [.slice oa len cap]∧len<=cap∧cap<=maxLen∧(oa=none->cap=0)∧css.length=len∧Row w oa css.flatten∧
   ∀c∈css,c.length=P.cellsOf e∧Rd enc P w e c:=by
 obtain⟨d,h⟩:=h
 obtain⟨oa,len,cap,css,_,a,b,c,d,e,f,g,_⟩:=Rx ht h
 exact⟨oa,len,cap,css,a,b,c,d,e,f,g⟩
theorem UO {v:Value}{d:DataW H}{p:List MemPlace}(h:DataW.Trod enc P w 0 (fun _=>true) true t v d p):Rd enc P w t v.cells.toList:=⟨_,true,h.choose,_,h.choose_spec⟩
theorem Js {base:Nat}{spare:Nat->Bool}{held:Bool}{t0 t1 t2 t3 t4:TypeId}{args:Array Value}{ds:List (DataW H)}{ps:List MemPlace}(h:DataW.TrodAll enc P w base spare held [t0,t1,t2,t3,t4] args.toList ds ps) :
  ∃v0 v1 v2 v3 v4 d0 d1 d2 d3 d4 p0 p1 p2 p3 p4,args = #[v0,v1,v2,v3,v4]∧ds = [d0,d1,d2,d3,d4]∧ps=p0++p1++p2++p3++p4∧DataW.Trod enc P w base spare held t0 v0 d0 p0∧DataW.Trod enc P w base spare held t1 v1 d1 p1∧DataW.Trod enc P w base spare held t2 v2 d2 p2∧DataW.Trod enc P w base spare held t3 v3 d3 p3∧DataW.Trod enc P w base spare held t4 v4 d4 p4:=by
 obtain⟨v0,vs0,d0,ds0,p0,q0,hargs,rfl,rfl,h0,r0⟩:=trodAll_cons h
 obtain⟨v1,vs1,d1,ds1,p1,q1,rfl,rfl,rfl,h1,r1⟩:=trodAll_cons r0
 obtain⟨v2,vs2,d2,ds2,p2,q2,rfl,rfl,rfl,h2,r2⟩:=trodAll_cons r1
 obtain⟨v3,vs3,d3,ds3,p3,q3,rfl,rfl,rfl,h3,r3⟩:=trodAll_cons r2
 obtain⟨v4,vs4,d4,ds4,p4,q4,rfl,rfl,rfl,h4,r4⟩:=trodAll_cons r3
 obtain⟨rfl,rfl,rfl⟩:=trodAll_nil r4
 exact⟨v0,v1,v2,v3,v4,d0,d1,d2,d3,d4,p0,p1,p2,p3,p4,by cases args;simp_all,rfl,by simp,h0,h1,h2,h3,h4⟩
theorem H8 {r:Reach}{b0:Nat}{e:TypeId}{v:Value}{oa:Option Addr}{n c:Nat}(ht:P.underlying t=some (.slice e))(hval:Value.okWide P w r b0 t v)(h:v.cells.toList = [.slice oa n c]):v = .slice oa n c:=by
 obtain⟨a,len,cap,rfl⟩:=okWide_slice ht hval
 simpa [Value.cells]using h
theorem GL {W W':World}(hl:laidOutB P=true)(hb:Below W.heap.size W W') : ∀(ts:List TypeId) (vs:List Value) (ds:List (DataW H)) (ps:List MemPlace),
  (ts.all fun t=>P.readableRec t&&Nat.blt t P.types.size)=true->(∀x∈ps,x.block<W.heap.size)->DataW.TrodAll enc P W 0 (fun _=>true) true ts vs ds ps->
  DataW.TrodAll enc P W' 0 (fun b=>decide (b<W.heap.size)) true ts vs ds ps:=by
 intro ts
 induction ts with
 | nil=>intro vs ds ps _ _ h;cases vs<;>cases ds<;>simp_all [DataW.TrodAll]
 | cons t ts ih=>
  intro vs ds ps hrd hlt h
  obtain⟨v,vs',d,ds',p,q,rfl,rfl,rfl,h1,h2⟩:=trodAll_cons h
  simp only [List.all_cons,au]at hrd
  refine⟨p,q,Below.trod hl hrd.1.1 (aN hrd.1.2) h1 hb (fun x hx=>hlt x (by simp [hx])),ih _ _ _ hrd.2 (fun x hx=>hlt x (by simp [hx])) h2,rfl⟩
end
theorem UQ {H:Type}{enc:TypeId×Value->H}{P:Program}{fn:Func}{s:ChangeSpec}{tb:TypeId}(hl:laidOutB P=true)
  (hrd:(fn.params.toList.all fun t=>P.readableRec t&&Nat.blt t P.types.size)=true) (hres:fn.resultTypes = #[tb]) (hb:P.underlying tb=some .bool) (hv:s.vars = [])
  (hfn : ∀ds:List (DataW H),ds.length=fn.params.size->s.fn H ds = {results:= [.lit (.bool true)],args:=ds})
  {W W':World} {args:Array Value} {ds gs:List (DataW H)} {before:List MemPlace} (hW:DataW.Whole enc P fn.params.toList s.vars false W args.toList ds gs before) (hB:Below W.heap.size W W') :
  s.post enc P fn false true false false W args (.bool true) W':=by
 have hlt : ∀x∈before,x.block<W.heap.size:=fun x hx=>hW.lt x hx
 have hW':=hW
 obtain⟨p,q,hA,hV,rfl,_,_⟩:=hW'
 rw [hv]at hV
 obtain⟨rfl,rfl⟩:=trodVars_none hV
 have hlen:ds.length=fn.params.size:=by
  have : ∀(ts:List TypeId) (vs:List Value) (ds:List (DataW H)) (ps:List MemPlace),DataW.TrodAll enc P W 0 (fun _=>true) true ts vs ds ps->ds.length=ts.length:=by
   intro ts
   induction ts with
   | nil=>intro vs ds ps h;cases vs<;>cases ds<;>simp_all [DataW.TrodAll]
   | cons t ts ih=>
    intro vs ds ps h
    obtain⟨v,vs',d,ds',p,q,rfl,rfl,rfl,_,h2⟩:=trodAll_cons h
    simp [ih _ _ _ h2]
  rw [this _ _ _ _ hA];simp
 have hspec:=hfn ds hlen
 refine⟨ds,[],p++ [],[],p,[],hW, ?_, ?_, ?_,World.keptBut_mono (fun x hx=>⟨hx, .inr (.inl (by simpa using hx))⟩) (hB.frame (· ∈p++ [])),(fun h=>by cases h)⟩
 ·rw [bZ,hspec,hres]
  exact⟨[],[],⟨1,by unfold DataW.trod;simp [hb,Value.cells]⟩,rfl,rfl⟩
 ·rw [bZ,hspec]
  exact GL hl hB _ _ _ _ hrd (fun x hx=>hlt x (by simp [hx])) hA
 ·rw [bZ,hspec,hv]
  rfl
end Go.Proofs.YtocckceefcmeaaaGreatDoor.Vc
namespace Go.Proofs.YtocckceefcmeaaaGreatDoor.Id
open Vc Go.Proofs.Tryz
theorem Y1 (a b:ByteArray):wP a b=true↔a=b:=by
 unfold wP
 rw [<-MapKept.bytes_beq a b]
 have:(a==b)=(a.toList==b.toList):=by
  rw [Go.ByteArray.toList_eq,Go.ByteArray.toList_eq]
  obtain⟨⟨x⟩⟩:=a
  obtain⟨⟨y⟩⟩:=b
  show ((⟨x⟩:Array UInt8)==⟨y⟩)=(x==y)
  simp
 rw [this]
theorem Y2 (a b:ByteArray):wP a b=decide (a=b):=by
 rw [Bool.eq_iff_iff,Y1];simp
theorem Y3 (x y:ByteArray)(h:x≠y):(Dp x y=y∧Dn x y=x)∨(Dp x y=x∧Dn x y=y):=by
 have he:wP x y=false:=by rw [Y2];simpa using h
 unfold Dp Dn
 cases hl:J4 x y with
 | true=>left;simp
 | false=>right;simp [he]
structure Lk where
 a:ByteArray
 b:ByteArray
 t:Int
 deriving DecidableEq
def jn (f:ByteArray->ByteArray)(x y:ByteArray):ByteArray->ByteArray:=
 if f x=f y then f else fun z=>if f z=Dp (f x) (f y)then Dn (f x) (f y)else f z
def rtF (f:ByteArray->ByteArray):List Lk->ByteArray->ByteArray
 | []=>f
 | k::l=>rtF (jn f k.a k.b) l
def rt (l:List Lk):ByteArray->ByteArray:=rtF (fun z=>z) l
theorem aem {f:ByteArray->ByteArray}{x y:ByteArray}(h:f x≠f y):jn f x y=fun z=>if f z=Dp (f x) (f y)then Dn (f x) (f y)else f z:=if_neg h
structure Fo (F:ByteArray->Option ByteArray)(R:ByteArray->ByteArray)(d:ByteArray->Nat):Prop where
 top : ∀k,F k=none->R k=k
 step : ∀k k',F k=some k'->R k'=R k∧d k'<d k
theorem Fo.nil:Fo (fun _=>none) (fun z=>z) (fun _=>0):=⟨fun _ _=>rfl,fun k k' h=>by cases h⟩
theorem Fo.root {F:ByteArray->Option ByteArray}{R:ByteArray->ByteArray}{d:ByteArray->Nat}(h:Fo F R d) : ∀(n:Nat) (k:ByteArray),d k=n->F (R k)=none:=by
 intro n
 induction n using Nat.strongRecOn with
 | _ n ih=>
  intro k hk
  cases hF:F k with
  | none=>rw [h.top k hF];exact hF
  | some k'=>
   obtain⟨h1,h2⟩:=h.step k k' hF
   rw [<-h1]
   exact ih (d k') (by omega) k' rfl
theorem Fo.rr {F:ByteArray->Option ByteArray}{R:ByteArray->ByteArray}{d:ByteArray->Nat}(h:Fo F R d)(k:ByteArray):R (R k)=R k:=h.top _ (h.root _ k rfl)
theorem Fo.join {F:ByteArray->Option ByteArray}{R:ByteArray->ByteArray}{d:ByteArray->Nat}(h:Fo F R d){x y:ByteArray}(hne:R x≠R y) :
  Fo (fun k=>if k=Dp (R x) (R y)then some (Dn (R x) (R y))else F k) (jn R x y) (fun k=>if R k=Dp (R x) (R y)then d k+d (Dn (R x) (R y))+1 else d k):=by
 rw [aem hne]
 obtain⟨m,hm⟩ : ∃m,m=Dp (R x) (R y):=⟨_,rfl⟩
 obtain⟨n,hn⟩ : ∃n,n=Dn (R x) (R y):=⟨_,rfl⟩
 rw [<-hm, <-hn]
 have hmn:m≠n∧R m=m∧R n=n:=by
  rcases Y3 (R x) (R y) hne with ⟨e1,e2⟩|⟨e1,e2⟩
  ·rw [hm,hn,e1,e2];exact⟨fun e=>hne e.symm,h.rr y,h.rr x⟩
  ·rw [hm,hn,e1,e2];exact⟨hne,h.rr x,h.rr y⟩
 obtain⟨h1,h2,h3⟩:=hmn
 refine⟨fun k hk=> ?_,fun k k' hk=> ?_⟩
 ·by_cases e:k=m
  ·rw [if_pos e]at hk;cases hk
  ·rw [if_neg e]at hk
   have:=h.top k hk
   show (if R k=m then n else R k)=k
   rw [this,if_neg e]
 ·show (if R k'=m then n else R k')=(if R k=m then n else R k)∧(if R k'=m then d k'+d n+1 else d k')<(if R k=m then d k+d n+1 else d k)
  by_cases e:k=m
  ·rw [if_pos e]at hk
   injection hk with hk
   subst hk;subst e
   rw [h2,h3,if_pos rfl,if_pos rfl,if_neg fun x=>h1 x.symm,if_neg fun x=>h1 x.symm]
   exact⟨rfl,by omega⟩
  ·rw [if_neg e]at hk
   obtain⟨a,b⟩:=h.step k k' hk
   rw [a]
   refine⟨rfl, ?_⟩
   split<;>omega
end Go.Proofs.YtocckceefcmeaaaGreatDoor.Id
namespace Go.Proofs.YtocckceefcmeaaaGreatDoor.Ky
open RowKit Vc Go.Proofs.YtocckceefcmeaaaGreatDoor.Id Go.Proofs.Tryz
attribute [local irreducible] loadVar storeVar Instr.indexAt Instr.index Instr.sliceAt Instr.makeSlice Instr.lookup Instr.mapUpdate Instr.range Instr.next Instr.entry Instr.makeMap Builtin.append_ Builtin.copy_ Builtin.len_ Builtin.min_ Builtin.max_ Builtin.cap_ Builtin.delete_ Builtin.clear_ convert binOp eqGuard Op.unary Calls
section
theorem mixed:Tryz.prog.follows .mixedOrders=true:=by kernel_rfl
def okB (i c:Nat):Bool:=(decide (97<=c)&&decide (c<=122))||(!decide (i=0)&&((decide (48<=c)&&decide (c<=57))||decide (c=45)||decide (c=95)))
theorem Jt (i c:Nat):okB i c=true↔(97<=c∧c<=122)∨(i≠0∧((48<=c∧c<=57)∨c=45∨c=95)):=by
 simp [okB,or_assoc]
theorem Ju (i c:Nat):okB i c=false↔¬((97<=c∧c<=122)∨(i≠0∧((48<=c∧c<=57)∨c=45∨c=95))):=by
 rw [<-Jt];simp
def sH:Nat->List UInt8->Bool
 | _,[]=>true
 | i,c::l=>okB i c.toNat&&sH (i+1) l
theorem Fz (l:List UInt8)(i:Nat)(h:i<l.length):sH i (l.drop i)=(okB i l[i].toNat&&sH (i+1) (l.drop (i+1))):=by
 rw [dM h];rfl
theorem Jj (s:ByteArray)(w:World)(hs:s.size<=140737488355328) :
  y8 Tryz.prog 160 #[.string s] w fun v w'=>v = .bool (sH 0 (vT s)&&decide (1<=s.size))∧w'=w:=by
 refine ou func160 rfl mixed (by kernel_rfl) ?_
 have hl:=Iz s
 refine qZ (X:=Nat) Yk (fun i=> [(3, .int .i64 i)]) (fun i w'=>i<=s.size∧w'=w∧sH 0 (vT s)=sH i ((vT s).drop i)) (fun i=>s.size-i) 0 (by kernel_rfl)
  ?_ ⟨aB _,rfl,rfl⟩ ?_
 ·exact⟨rfl,trivial⟩
 rintro i w1 j ⟨hi,rfl,hp⟩
 refine lD (fun hlt=> ?_) (fun hge=> ?_)
 ·have hlt:i<s.size:=by have:=of_decide_eq_true hlt;omega
  have hst:=Fz (vT s) i (by omega)
  have hc:(vT s)[i]'(by omega)=s[i]:=by simp;rfl
  rw [hc]at hst
  have hcb:s[i].toNat<256:=s[i].toNat_lt
  obtain⟨c,hcc⟩ : ∃c,c=s[i].toNat:=⟨_,rfl⟩
  rw [hst]at hp
  rw [hp]
  have hno:=Ju i c
  have hyes:=Jt i c
  rw [<-hcc]at hcb ⊢ hp
  refine Bz i rfl rfl hlt ?_
  rw [<-hcc]
  conv=>whnf
  clear hst hc hp
  have e0:okB i c=false->(okB i c&&sH (i+1) ((vT s).drop (i+1))&&decide (1<=s.size))=false:=fun h=>by rw [h];rfl
  have e1:okB i c=true->(okB i c&&sH (i+1) ((vT s).drop (i+1)))=sH (i+1) ((vT s).drop (i+1)):=fun h=>by rw [h];rfl
  (repeat' (apply lD<;>intro h;all_goals (conv=>whnf)))
  all_goals first
   | exact rV.mk ⟨congrArg Value.bool (e0 (hno.2 (by(try simp only [cond_true,cond_false,fQ,fZ,decide_eq_true_eq,decide_eq_false_iff_not,beq_iff_eq,bne_iff_ne,beq_eq_false_iff_ne,bne_eq_false_iff_eq,ne_eq,dU,gB,fC,aZ,gq]at *)<;>omega))).symm,rfl⟩
   | exact qJ.mk ⟨_,(show s.size -(i+1)<s.size-i by omega),i+1,rfl,⟨pY (incr (by omega)),trivial⟩,hlt,rfl,e1 (hyes.2 (by(try simp only [cond_true,cond_false,fQ,fZ,decide_eq_true_eq,decide_eq_false_iff_not,beq_iff_eq,bne_iff_ne,beq_eq_false_iff_ne,bne_eq_false_iff_eq,ne_eq,dU,gB,fC,aZ,gq]at *)<;>omega))⟩
 ·have hge : ¬i<s.size:=by have:=of_decide_eq_false hge;omega
  obtain rfl:i=s.size:=by omega
  rw [jA (by omega)]at hp
  have hp2:sH 0 (vT s)=true:=hp
  rw [hp2]
  exact rV.mk ⟨by show Value.bool _=_;simp;omega,rfl⟩
def resv:List ByteArray:= [⟨#[97,110,100]⟩,⟨#[97,114,109,115]⟩,⟨#[97,116,116,114,105,98,117,116,101]⟩,⟨#[98,111,111,108]⟩,⟨#[99,108,97,105,109,115]⟩,⟨#[99,111,110,116,97,105,110,115]⟩,⟨#[99,111,111,108]⟩,⟨#[99,111,111,108,105,110,103]⟩,⟨#[100,101,102,97,117,108,116]⟩,⟨#[100,114,97,102,116]⟩,⟨#[101,110,100,115]⟩,⟨#[101,120,99,108,117,100,101]⟩,⟨#[101,120,105,115,116,115]⟩,⟨#[101,120,112,101,114,105,109,101,110,116]⟩,⟨#[102,97,108,115,101]⟩,⟨#[102,108,97,103]⟩,⟨#[104,111,108,100,111,117,116]⟩,⟨#[105,110]⟩,⟨#[105,110,99,108,117,100,101]⟩,⟨#[105,115]⟩,⟨#[108,97,121,101,114]⟩,⟨#[108,105,115,116]⟩,⟨#[109,101,109,98,101,114]⟩,⟨#[110,101,101,100,115]⟩,⟨#[110,111,116]⟩,⟨#[110,117,109,98,101,114]⟩,⟨#[111,102,102]⟩,⟨#[111,110]⟩,⟨#[111,114]⟩,⟨#[114,117,108,101]⟩,⟨#[114,117,110,110,105,110,103]⟩,⟨#[115,97,108,116]⟩,⟨#[115,101,103,109,101,110,116]⟩,⟨#[115,101,114,118,101]⟩,⟨#[115,101,116,116,105,110,103,115]⟩,⟨#[115,112,108,105,116]⟩,⟨#[115,116,97,114,116,115]⟩,⟨#[115,116,111,112,112,101,100]⟩,⟨#[116,97,114,103,101,116]⟩,⟨#[116,101,120,116]⟩,⟨#[116,111]⟩,⟨#[116,114,117,101]⟩,⟨#[117,110,116,105,108]⟩,⟨#[118,97,114,105,97,116,105,111,110,115]⟩,⟨#[118,101,114,115,105,111,110]⟩,⟨#[119,104,101,110]⟩]
def FB (s:ByteArray):Bool:=decide (1<=s.size)&&decide (s.size<=32)&&sH 0 (vT s)&& !(resv.any fun r=>wP r s)
theorem UR (l:List ByteArray)(f:ByteArray->Bool)(i:Nat)(h:i<l.length):(l.drop i).any f=(f l[i]||(l.drop (i+1)).any f):=by
 rw [dM h];rfl
def wK (l:List ByteArray):List Value:=l.map .string
theorem Ry {l:List ByteArray}{j:Nat}(h:j<l.length):(wK l)[j]? = some (.string l[j]):=by simp [wK,h]
theorem FC:resv.length=46:=rfl
attribute [local irreducible] resv
end
section
def Gs (c:Nat):Int:=if(9<=c∧c<=13)∨c=32 then 1 else 0
def Asc (w:World):Prop:=0<w.heap.size∧∀c,c<256->w.cell? ⟨0,c,none⟩=some (.int .u8 (Gs c))
theorem Asc.below {w w':World}(h:Asc w)(hB:Below w.heap.size w w'):Asc w':=⟨aV h.1 hB.size,fun c hc=>by rw [hB.cell (p:=⟨0,c,none⟩) h.1];exact h.2 c hc⟩
theorem Y4 {P:Program}{w:World}{K:Value->World->Prop}{k:IntKind}{n:Int}(c:K (.int k (mD .xor k (if k.signed then -1 else k.max) n)) w):nJ P (Op.unary .xor (.int k n)) w K:=by
 refine oP ?_ c
 simp [Op.unary,Op.intBits,mD]
theorem LW {P:Program}{w:World}{K:Value->World->Prop}{t:TypeId}{s:ByteArray}{kl:IntKind}{lo:Int}(a:Nat)(ha:lo=a)(hu:P.underlying t=some .string)(h:a<=s.size)
  (c:K (.string (s.extract a s.size)) w):nJ P (Instr.sliceAt t (.string s) (some (.int kl lo)) none none) w K:=by
 refine oP ?_ c
 subst ha
 unfold Instr.sliceAt
 rw [Sem.run_bind,lT hu]
 simp only [Result.andThen_ok]
 unfold Instr.slice
 rw [Sem.run_bind,lT hu]
 have h1:(0:Int)<=a∧(a:Int)<=s.size:=⟨by omega,by omega⟩
 simp [Instr.sliceBounds,Instr.sliceBound,asIntOf,h1,h]
theorem DY {P:Program}{w:World}{K:Value->World->Prop}{t e:TypeId}{n b:Nat}{k:IntKind}{ix:Int}(m:Nat)(hm:ix=m)(hu:P.underlying t=some (.array n e))(hs:szB P e=some 1)(h:m<n)
  (hk:K (.pointer (some ⟨b,m,none⟩)) w):nJ P (Instr.indexAt t (.pointer (some ⟨b,0,none⟩)) (.int k ix)) w K:=
 DC m hu hs hm h (by rw [aS];exact hk)
def c1 (l:List UInt8):Nat->Int×Int×Int
 | 0=>(0,1,0)
 | i+1=>(IntKind.i64.wrap ((c1 l i).1+mD .and .i64 (c1 l i).2.1 (mD .xor .i64 (-1) (IntKind.i64.wrap (Gs (l.getD i 0).toNat)))),IntKind.i64.wrap (Gs (l.getD i 0).toNat),mD .or .u8 (c1 l i).2.2 ((l.getD i 0).toNat:Nat))
theorem Y5 (l:List UInt8)(i:Nat):c1 l (i+1)=(IntKind.i64.wrap ((c1 l i).1+mD .and .i64 (c1 l i).2.1 (mD .xor .i64 (-1) (IntKind.i64.wrap (Gs (l.getD i 0).toNat)))),IntKind.i64.wrap (Gs (l.getD i 0).toNat),mD .or .u8 (c1 l i).2.2 ((l.getD i 0).toNat:Nat)):=rfl
def wl (s:ByteArray):Nat->List ByteArray×Nat
 | 0=>([],0)
 | i+1=>if Gs ((vT s).getD i 0).toNat=0 then wl s i else((wl s i).1++ [s.extract (wl s i).2 i],i+1)
theorem DZ (s:ByteArray)(i:Nat):wl s (i+1)=if Gs ((vT s).getD i 0).toNat=0 then wl s i else((wl s i).1++ [s.extract (wl s i).2 i],i+1):=rfl
theorem aen (s:ByteArray)(i:Nat):(wl s i).2<=i:=by
 induction i with
 | zero=>exact ay _
 | succ i ih=>rw [DZ];split;exact Nat.le_succ_of_le ih;exact ay _
theorem Y6 (s:ByteArray)(i:Nat) : ∀d,(wl s i).1.length<=(wl s (i+d)).1.length:=by
 intro d
 induction d with
 | zero=>exact ay _
 | succ d ih=>rw [<-fG,DZ];split;exact ih;simp only [ak,bg,dQ];omega
structure aeo (s:ByteArray):Prop where
 size:s.size<=1000000
 first:0<s.size->Gs ((vT s).getD 0 0).toNat=0
 next : ∀i,i<s.size->Gs ((vT s).getD i 0).toNat≠0->i+1<s.size∧Gs ((vT s).getD (i+1) 0).toNat=0
 plain : ¬(c1 (vT s) s.size).2.2≥128
 count:(c1 (vT s) s.size).1=((wl s s.size).1.length+1:Nat)
 some:0<s.size
 ends:(wl s s.size).2<s.size
theorem acj (c:Nat):Gs c=0∨Gs c=1:=by unfold Gs;split;exact .inr rfl;exact .inl rfl
attribute [local irreducible] c1 wl Gs
theorem Rz (s:ByteArray)(w:World)(hs:aeo s)(hA:Asc w) :
  y8 Tryz.prog 142 #[.string s] w fun v w'=> ∃b,v = .slice (some ⟨b,0,none⟩) ((wl s s.size).1.length+1) ((wl s s.size).1.length+1)∧At w' b 0 (wK ((wl s s.size).1++ [s.extract (wl s s.size).2 s.size]))∧b<w'.heap.size∧Below w.heap.size w w':=by
 refine ou func142 rfl mixed (by kernel_rfl) ?_
 have hl:=Iz s
 have hsz:=hs.size
 have hby : ∀i (h:i<s.size),(vT s).getD i 0=s[i]:=fun i h=>by
  rw [aW,aj (by rw [hl];exact h)];simp;rfl
 refine qZ (X:=Nat) Yf (fun i=> [(6, .int .i64 i),(3, .int .i64 (c1 (vT s) i).1),(4, .int .i64 (c1 (vT s) i).2.1),(5, .int .u8 (c1 (vT s) i).2.2)]) (fun i w'=>i<=s.size∧w'=w) (fun i=>s.size-i) 0 (by kernel_rfl)
  ?_ ⟨aB _,rfl⟩ ?_
 ·exact⟨rfl,by unfold c1;rfl,by unfold c1;rfl,by unfold c1;rfl,trivial⟩
 rintro i w1 j ⟨hi,rfl⟩
 refine lD (fun hlt=> ?_) (fun hge=> ?_)
 ·have hlt:i<s.size:=by have:=of_decide_eq_true hlt;omega
  have hcb:s[i].toNat<256:=s[i].toNat_lt
  have hcell:=hA.2 s[i].toNat hcb
  have hsc:=Y5 (vT s) i
  rw [hby i hlt]at hsc
  refine Bz i rfl rfl hlt ?_
  refine DY s[i].toNat rfl rfl rfl hcb ?_
  refine oG rfl hcell ?_
  refine Y4 ?_
  refine qJ.mk ⟨_, ?_,(i+1),rfl, ?_, ?_⟩
  ·show s.size -(i+1)<s.size-i;omega
  ·exact⟨pY (incr (by omega)),pY (by rw [hsc];rfl),pY (by rw [hsc]),pY (by rw [hsc]),trivial⟩
  ·exact⟨hlt,rfl⟩
 have hge : ¬i<s.size:=by have:=of_decide_eq_false hge;omega
 obtain rfl:i=s.size:=by omega
 have hpl:=hs.plain
 have hcn:=hs.count
 refine QF (by simpa using hpl) ?_
 rw [hcn]
 have hW:(wl s s.size).1.length<=s.size:=by
  have : ∀i,(wl s i).1.length<=i:=fun i=>by
   induction i with
   | zero=>unfold wl;exact ay _
   | succ i ih=>rw [DZ];split;exact Nat.le_succ_of_le ih;simp only [ak,bg,dQ];omega
  exact this _
 obtain⟨N,hN⟩ : ∃N,N=(wl s s.size).1.length+1:=⟨_,rfl⟩
 rw [<-hN]
 refine Xn (n:=N) (qU:=16) (sz:=1) (zs:= [.string ⟨#[]⟩]) rfl rfl rfl rfl rfl rfl rfl rfl (by omega) (by unfold maxLen;omega) ?_
 intro w2 hw2 hb2
 rw [Xo]at hb2
 have hB2:Below w1.heap.size w1 w2:=by rw [hw2];exact qV (Below.refl _ _) (ay _) _
 clear hw2
 conv=>whnf
 have hAs : ∀w',Below w1.heap.size w1 w'->∀c,c<256->w'.cell? ⟨0,c,none⟩=some (.int .u8 (Gs c)):=fun w' hB c hc=>(hA.below hB).2 c hc
 have h0s:=hs.some
 have h0:=hs.first h0s
 rw [hby 0 h0s]at h0
 refine qZ (X:=Unit) Yg (fun _=> [(12, .int .i64 ((0:Nat):Int))]) (fun _ w'=>w'=w2) (fun _=>0) () (by kernel_rfl) ?_ rfl ?_
 ·exact⟨rfl,trivial⟩
 rintro _ w3 j3 rfl
 refine Ef (by simpa using h0s) ?_
 refine Bz 0 rfl rfl h0s ?_
 refine DY s[0].toNat rfl rfl rfl s[0].toNat_lt ?_
 refine oG rfl (hAs _ hB2 _ s[0].toNat_lt) ?_
 rw [h0]
 refine qZ (X:=Nat×List Value) Yh (fun x=> [(12, .int .i64 x.1),(10, .int .i64 ((wl s x.1).1.length:Nat)),(11, .int .i64 ((wl s x.1).2:Nat))]) (fun x w'=>x.1<=s.size∧Below w1.heap.size w1 w'∧qX w' w1.heap.size x.2 9∧x.2.length=N∧∃t,x.2=wK (wl s x.1).1++t) (fun x=>s.size-x.1) (0,List.replicate N (.string ⟨#[]⟩)) (by kernel_rfl)
  ?_ ⟨aB _,hB2,hb2,by simp,_,by unfold wl;rfl⟩ ?_
 ·exact⟨rfl,by unfold wl;rfl,by unfold wl;rfl,trivial⟩
 clear hb2 hB2
 rintro⟨i,cs⟩ w4 j4 ⟨hi,hB4,hb4,hcl,t,hct⟩
 simp only at hi hb4 hcl hct ⊢
 have hws:=DZ s i
 have hle:=aen s i
 refine lD (fun hlt=> ?_) (fun hge=> ?_)
 ·have hlt:i<s.size:=by have:=of_decide_eq_true hlt;omega
  rw [hby i hlt]at hws
  have hcb:s[i].toNat<256:=s[i].toNat_lt
  refine Bz i rfl rfl hlt ?_
  refine DY s[i].toNat rfl rfl rfl hcb ?_
  refine oG rfl (hAs _ hB4 _ hcb) ?_
  conv=>whnf
  rcases acj s[i].toNat with h1|h1
  ·rw [h1]
   rw [if_pos h1]at hws
   refine qJ.mk ⟨_, ?_,(i+1,cs),rfl, ?_, ?_⟩
   ·show s.size -(i+1)<s.size-i;omega
   ·exact⟨pY (incr (by omega)),by show _=Value.int .i64 ((wl s (i+1)).1.length:Nat);rw [hws];rfl,by show _=Value.int .i64 ((wl s (i+1)).2:Nat);rw [hws];rfl,trivial⟩
   ·exact⟨hlt,hB4,hb4,hcl,t,by rw [hws];exact hct⟩
  ·rw [h1]
   rw [if_neg (by rw [h1];decide)]at hws
   obtain⟨hn1,hn2⟩:=hs.next i hlt (by rw [hby i hlt,h1];decide)
   rw [hby (i+1) hn1]at hn2
   have hm:=Y6 s (i+1) (s.size -(i+1))
   rw [show i+1+(s.size -(i+1))=s.size by omega,hws]at hm
   simp only [ak,bg,dQ]at hm
   obtain⟨m,hmm⟩ : ∃m,m=(wl s i).1.length:=⟨_,rfl⟩
   rw [<-hmm]at hm ⊢
   have hmN:m<N:=by omega
   refine QS (wl s i).2 i rfl rfl rfl hle (by omega) ?_
   refine Iy m rfl rfl rfl hmN ?_
   refine Bq hb4 rfl rfl (by rw [hcl];omega) ?_
   intro w5 hO5 hb5
   rw [aS]at hb5
   have hB5:=hB4.trans (hO5.below (ay _))
   have hset : ∃t',cs.set m (.string (s.extract (wl s i).2 i))=wK (wl s (i+1)).1++t':=by
    rw [hct,hws]
    have hml:(wK (wl s i).1).length=m:=by rw [hmm];simp [wK]
    rw [iG _ _ (by omega),hml,gJ]
    cases t with
    | nil=>rw [hct,bZ,hml]at hcl;omega
    | cons v t=>exact⟨t,by simp [wK]⟩
   clear hb4 hO5
   conv=>whnf
   have e1:IntKind.i64.wrap ((i:Int)+1)=((i+1:Nat):Int):=incr (by omega)
   have e2:IntKind.i64.wrap ((m:Int)+1)=((m+1:Nat):Int):=incr (by omega)
   refine qZ (X:=Unit) Yi (fun _=> [(12, .int .i64 ((i+1:Nat):Int))]) (fun _ w'=>w'=w5) (fun _=>0) () (by kernel_rfl) ?_ rfl ?_
   ·exact⟨pY e1,trivial⟩
   rintro _ w6 j6 rfl
   refine Ef (by simp only [decide_eq_true_eq];omega) ?_
   refine Bz (i+1) rfl rfl hn1 ?_
   refine DY s[i+1].toNat rfl rfl rfl s[i+1].toNat_lt ?_
   refine oG rfl (hAs _ hB5 _ s[i+1].toNat_lt) ?_
   rw [hn2]
   conv=>whnf
   obtain⟨t',ht'⟩:=hset
   refine qJ.mk ⟨_, ?_,(i+1,cs.set m (.string (s.extract (wl s i).2 i))),rfl, ?_, ?_⟩
   ·show s.size -(i+1)<s.size-i;omega
   ·refine⟨rfl, ?_, ?_,trivial⟩
    ·show Value.int .i64 (IntKind.i64.wrap ((m:Int)+1))=Value.int .i64 ((wl s (i+1)).1.length:Nat)
     rw [e2,hws,ak, <-hmm];rfl
    ·show _=Value.int .i64 ((wl s (i+1)).2:Nat)
     rw [hws];rfl
   ·exact⟨hlt,hB5,hb5,by show (cs.set m _).length=N;rw [bC];exact hcl,t',ht'⟩
 have hge : ¬i<s.size:=by have:=of_decide_eq_false hge;omega
 obtain rfl:i=s.size:=by omega
 have hend:=hs.ends
 obtain⟨m,hmm⟩ : ∃m,m=(wl s s.size).1.length:=⟨_,rfl⟩
 rw [<-hmm]
 have hmN:m<N:=by omega
 refine Ef (by simp only [decide_eq_true_eq];omega) ?_
 refine LW (wl s s.size).2 rfl rfl hle ?_
 refine Iy m rfl rfl rfl hmN ?_
 refine Bq hb4 rfl rfl (by rw [hcl];omega) ?_
 intro w5 hO5 hb5
 rw [aS]at hb5
 have hfin:cs.set m (.string (s.extract (wl s s.size).2 s.size))=wK ((wl s s.size).1++ [s.extract (wl s s.size).2 s.size]):=by
  have hml:(wK (wl s s.size).1).length=m:=by rw [hmm];simp [wK]
  rw [hct]at hcl ⊢
  rw [iG _ _ (by omega),hml,gJ]
  rw [ak,hml]at hcl
  match t,hcl with
  | [v],_=>simp [wK]
  | [],h=>simp at h;omega
  | _::_::_,h=>simp at h;omega
 rw [hfin]at hb5
 exact rV.mk ⟨w1.heap.size,by rw [hN];rfl,hb5.at,hb5.lt,hB4.trans (hO5.below (ay _))⟩
end
section
def okW (s:ByteArray):Bool:=
 decide (s.size<=1000000)&&decide (0<s.size)&&decide (Gs ((vT s).getD 0 0).toNat=0)&&
 ((List.range s.size).all fun i=>decide (Gs ((vT s).getD i 0).toNat=0)||(decide (i+1<s.size)&&decide (Gs ((vT s).getD (i+1) 0).toNat=0)))&&
 decide (¬(c1 (vT s) s.size).2.2≥128)&&decide ((c1 (vT s) s.size).1=((wl s s.size).1.length+1:Nat))&&decide ((wl s s.size).2<s.size)&&
 (((wl s s.size).1++ [s.extract (wl s s.size).2 s.size]).map vT==resv.map vT)
theorem Y7 {a b:ByteArray}(h:vT a=vT b):a=b:=by
 obtain⟨⟨x⟩⟩:=a
 obtain⟨⟨y⟩⟩:=b
 have:x=y:=h
 rw [this]
theorem LY : ∀(l m:List ByteArray),l.map vT=m.map vT->l=m:=by
 intro l
 induction l with
 | nil=>intro m h;cases m with
  | nil=>rfl
  | cons _ _=>simp at h
 | cons a l ih=>intro m h;cases m with
  | nil=>simp at h
  | cons b m=>
   rw [gy,gy]at h
   injection h with h1 h2
   rw [Y7 h1,ih m h2]
theorem UU {s:ByteArray}(h:okW s=true):aeo s∧(wl s s.size).1++ [s.extract (wl s s.size).2 s.size]=resv:=by
 unfold okW at h
 simp only [au,decide_eq_true_eq]at h
 obtain⟨⟨⟨⟨⟨⟨⟨h1,h2⟩,h3⟩,h4⟩,h5⟩,h6⟩,h7⟩,h8⟩:=h
 refine⟨⟨h1,fun _=>h3,fun i hi hne=> ?_,h5,h6,h2,h7⟩,LY _ _ (by simpa using h8)⟩
 have:=bQ.1 h4 i (by simpa using hi)
 simp only [jk,au,decide_eq_true_eq]at this
 rcases this with h|h
 ·exact absurd h hne
 ·exact h
theorem LZ (s:ByteArray)(w:World)(hs:okW s=true)(hA:Asc w) :
  y8 Tryz.prog 142 #[.string s] w fun v w'=> ∃b,v = .slice (some ⟨b,0,none⟩) 46 46∧At w' b 0 (wK resv)∧b<w'.heap.size∧Below w.heap.size w w':=by
 obtain⟨hn,hr⟩:=UU hs
 refine(Rz s w hn hA).mono ?_
 rintro _ w' ⟨b,rfl,hat,hb⟩
 have hl:(wl s s.size).1.length+1=46:=by
  have:=congrArg List.length hr
  rw [FC]at this
  simpa using this
 rw [hr]at hat
 exact⟨b,by rw [hl],hat,hb⟩
attribute [local irreducible] resv okW
theorem Y8 (s:ByteArray)(w:World)(hA:Asc w)(hs:s.size<=140737488355328) :
  y8 Tryz.prog 118 #[.string s] w fun v w'=>v = .bool (FB s)∧Below w.heap.size w w':=by
 refine ou func118 rfl mixed (by kernel_rfl) ?_
 have hk:FB s=(decide (1<=s.size)&&decide (s.size<=32)&&sH 0 (vT s)&& !(resv.any fun r=>wP r s)):=rfl
 obtain⟨kb,hkb⟩ : ∃b,b=FB s:=⟨_,rfl⟩
 rw [<-hkb]at hk ⊢
 have hl:=Iz s
 refine lD (fun h1=> ?_) (fun h1=> ?_)
 ·have h1 : ¬1<=s.size:=by have:(s.size:Int)<1:=of_decide_eq_true h1;omega
  have:kb=false:=by rw [hk];simp [h1]
  subst this
  exact rV.mk ⟨rfl,Below.refl _ _⟩
 have h1:1<=s.size:=by have : ¬(s.size:Int)<1:=of_decide_eq_false h1;omega
 refine lD (fun h2=> ?_) (fun h2=> ?_)
 ·have h2 : ¬s.size<=32:=by have:(s.size:Int)>32:=of_decide_eq_true h2;omega
  have:kb=false:=by rw [hk];simp [h2]
  subst this
  exact rV.mk ⟨rfl,Below.refl _ _⟩
 have h2:s.size<=32:=by have : ¬(s.size:Int)>32:=of_decide_eq_false h2;omega
 have hk2:kb=(sH 0 (vT s)&& !(resv.any fun r=>wP r s)):=by rw [hk];simp [h1,h2]
 clear hk
 refine QU rfl ?_
 intro w1 hB1 hI1
 refine qZ (X:=Nat) X3 (fun _=> []) (fun i w'=>i<=s.size∧Below w.heap.size w w'∧WY w' w.heap.size s i∧sH 0 (vT s)=sH i ((vT s).drop i)) (fun i=>s.size-i) 0 (by kernel_rfl)
  ?_ ⟨aB _,hB1,hI1,rfl⟩ ?_
 ·exact trivial
 rintro i w2 j ⟨hi,hB2,hI2,hp⟩
 clear hI1 hB1
 conv=>whnf
 by_cases hlt:i<s.size
 ·have hst:=Fz (vT s) i (by omega)
  have hc:(vT s)[i]'(by omega)=s[i]:=by simp;rfl
  rw [hc]at hst
  have hcb:s[i].toNat<256:=s[i].toNat_lt
  rw [hst]at hp
  refine Xr hI2 hlt (fun hpl w3 hO3 hI3=> ?_) (fun hnp w3 c q hO3 _ hc2=> ?_)
  ·obtain⟨c,hcc⟩ : ∃c,c=s[i].toNat:=⟨_,rfl⟩
   have hno:=Ju i c
   have hyes:=Jt i c
   rw [<-hcc]at hp hpl ⊢
   have hB3:=hB2.trans (hO3.below (ay _))
   have e0:okB i c=false->kb=false:=fun h=>by rw [hk2,hp,h];rfl
   have e1:okB i c=true->sH 0 (vT s)=sH (i+1) ((vT s).drop (i+1)):=fun h=>by rw [hp,h];rfl
   clear hst hc hcb hI2 hO3 hp
   conv=>whnf
   (repeat' (apply lD<;>intro h;all_goals (conv=>whnf)))
   all_goals first
    | exact rV.mk ⟨congrArg Value.bool (e0 (hno.2 (by(try simp only [cond_true,cond_false,fQ,fZ,decide_eq_true_eq,decide_eq_false_iff_not,beq_iff_eq,bne_iff_ne,beq_eq_false_iff_ne,bne_eq_false_iff_eq,ne_eq,dU,gB,fC,aZ,gq]at *)<;>omega))).symm,hB3⟩
    | exact qJ.mk ⟨_,(show s.size -(i+1)<s.size-i by omega),i+1,rfl,trivial,hlt,hB3,hI3,e1 (hyes.2 (by(try simp only [cond_true,cond_false,fQ,fZ,decide_eq_true_eq,decide_eq_false_iff_not,beq_iff_eq,bne_iff_ne,beq_eq_false_iff_ne,bne_eq_false_iff_eq,ne_eq,dU,gB,fC,aZ,gq]at *)<;>omega))⟩
  ·have hB3:=hB2.trans (hO3.below (ay _))
   have e0:kb=false:=by
    have:okB i s[i].toNat=false:=(Ju i _).2 (by omega)
    rw [hk2,hp,this];rfl
   clear hst hc hcb hI2 hO3 hp
   subst e0
   conv=>whnf
   (repeat' (apply lD<;>intro h;all_goals (conv=>whnf)))
   all_goals first
    | exact rV.mk ⟨rfl,hB3⟩
    | (exfalso;clear hk2;exact(by(try simp only [cond_true,cond_false,fQ,fZ,decide_eq_true_eq,decide_eq_false_iff_not,beq_iff_eq,bne_iff_ne,beq_eq_false_iff_ne,bne_eq_false_iff_eq,ne_eq,dU,gB,fC,aZ,gq]at *)<;>omega))
 ·obtain rfl:i=s.size:=by omega
  rw [jA (by omega)]at hp
  have hp2:sH 0 (vT s)=true:=hp
  have hk3:kb = !(resv.any fun r=>wP r s):=by rw [hk2,hp2];rfl
  refine NQ hI2 (ay _) ?_
  refine pF (by kernel_rfl) (LZ _ w2 (by kernel_rfl) (hA.below hB2)) ?_
  rintro _ w3 ⟨b,rfl,hA3,hb3,hB3⟩
  have RD:=hB2.trans (hB3.mono hB2.size)
  clear hB3 hI2 hk2
  refine qZ (X:=Nat) X4 (fun i=> [(52, .int .i64 i)]) (fun i w'=>i<=46∧w'=w3∧(resv.any fun r=>wP r s)=(resv.drop i).any fun r=>wP r s) (fun i=>46-i) 0 (by kernel_rfl)
   ?_ ⟨aB _,rfl,rfl⟩ ?_
  ·exact⟨rfl,trivial⟩
  rintro i w4 j ⟨hi,rfl,hp⟩
  refine lD (fun hlt=> ?_) (fun hge=> ?_)
  ·have hlt:i<46:=by have:=of_decide_eq_true hlt;omega
   have hil:i<resv.length:=by rw [FC];exact hlt
   rw [UR _ _ i hil]at hp
   have hg:=Ry hil
   conv=>whnf
   (repeat (first|(refine lG.mk (by first|decide|omega) ?_;conv=>whnf)|(refine og.mk rfl ?_;conv=>whnf)|(refine nP.keep rfl ?_;conv=>whnf)|(refine Iy _ rfl rfl rfl (by assumption) ?_;conv=>whnf)|(refine abb _ rfl rfl rfl (by assumption) ?_;conv=>whnf)|(refine DC _ rfl rfl rfl (by assumption) ?_;conv=>whnf)|(refine TA (by with_reducible assumption) (by assumption) rfl rfl ?_;conv=>whnf)|(refine QN (by with_reducible assumption) (by assumption) rfl rfl ?_;conv=>whnf)|(refine Tz (by with_reducible assumption) (by assumption) rfl ?_;conv=>whnf)|(refine mM rfl (by with_reducible assumption) (by assumption) ?_;conv=>whnf)))
   apply lD<;>intro h
   ·have:kb=false:=by rw [hk3,hp,h];rfl
    subst this
    exact rV.mk ⟨rfl,RD⟩
   ·rw [h,jY]at hp
    refine qJ.mk ⟨_, ?_,(i+1),rfl, ?_, ?_⟩
    ·show 46 -(i+1)<46-i;omega
    ·exact⟨pY (incr (by omega)),trivial⟩
    ·exact⟨hlt,rfl,hp⟩
  ·have hge : ¬i<46:=by have:=of_decide_eq_false hge;omega
   obtain rfl:i=46:=by omega
   rw [jA (by rw [FC];exact ay _)]at hp
   have:kb=true:=by rw [hk3,hp];rfl
   subst this
   exact rV.mk ⟨rfl,RD⟩
end
end Go.Proofs.YtocckceefcmeaaaGreatDoor.Ky
namespace Go.Proofs.YtocckceefcmeaaaGreatDoor.Cl
open RowKit Vc Ax Ky Go.Proofs.YtocckceefcmeaaaGreatDoor.Id Go.Proofs.Tryz
def spL:List Value:=(List.range 256).map fun c=> .int .u8 (Gs c)
def GS:Glob:=⟨0+1,fun g=>if g=0 then some spL else none,fun _=>none⟩
theorem aco {w:World}(h:GS.holds w):Asc w:=by
 refine⟨aV (jJ _) h.1,fun c hc=> ?_⟩
 have:=(h.2.1 0 spL (by simp [GS])).2 c (.int .u8 (Gs c)) (by unfold spL;rw [aP,fP hc];rfl)
 exact this
theorem PI (s:ByteArray)(h:s.size<=140737488355328):mX Tryz.prog GS 118 [.v (.string s)] 0 [] (Is (.v (.bool (FB s)))):=Fa (l:= [.string s]) fun w hG=>Y8 s w (aco hG) h
theorem RF {s:ByteArray}(h:FB s=true):s.size<=32:=by
 unfold FB at h
 simp only [au,decide_eq_true_eq]at h
 omega
section
variable {P:Program}{H:Type}{enc:TypeId×Value->H}{w:World}
theorem acp {α:Type}{en:α->Value}{Q:α->Prop}{t e:TypeId}{cs:List Value}(ht:P.underlying t=some (.slice e))(one : ∀c,Rd enc P w e c->∃a:α,c = [en a]∧Q a)(h1 : ∀a,(en a).oneCell'=true)(h:Rd enc P w t cs) :
  ∃(oa:Option Addr) (l:List α) (cap:Nat),cs = [.slice oa l.length cap]∧(∀a∈l,Q a)∧mF 0 Ru (Here w) w (.lst 1 (l.map (Ax.en1 en))) (.slice oa l.length cap):=by
 obtain⟨oa,len,cap,css,hcs,hlc,hcm,hn,hcl,hr,hall⟩:=UN ht h
 have : ∃l:List α,l.length=css.length∧css.flatten=recs (fun a=> [en a]) l∧∀a∈l,Q a:=by
  clear hr hcl
  induction css with
  | nil=>exact⟨[],rfl,rfl,fun x h=>by cases h⟩
  | cons c r ih=>
   obtain⟨l,h2,h3,h4⟩:=ih fun c hc=>hall c (by simp [hc])
   obtain⟨x,e,hx⟩:=one c (hall c (by simp)).2
   refine⟨x::l,by simp [h2],by rw [iq,h3,e];rfl,fun y hy=> ?_⟩
   rcases bF.1 hy with rfl|hy
   ·exact hx
   ·exact h4 y hy
 obtain⟨l,h2,h3,h4⟩:=this
 rw [h3]at hr
 have e:len=l.length:=by omega
 subst e
 exact⟨oa,l,cap,hcs,h4, .lst (Rw (enc:=Ax.en1 en) (c:=fun a=> [en a]) (fun _=>rfl) (fun _=>rfl) (fun a v hv=>by rw [bG.1 hv];exact h1 a) hlc hn hr (fun b hb=>hb) (by decide))⟩
theorem aep {n:Int}(h:(Lit.int .u8 n).wf=true) : ∃k:Nat,n=k∧k<256:=by
 have:0<=n∧n<=255:=by simpa [Lit.wf,IntKind.min,IntKind.max,IntKind.signed,IntKind.bits]using h
 exact⟨n.toNat,by omega,by omega⟩
theorem Oy {n:Int}(h:(Lit.int .u16 n).wf=true) : ∃k:Nat,n=k∧k<65536:=by
 have:0<=n∧n<=65535:=by simpa [Lit.wf,IntKind.min,IntKind.max,IntKind.signed,IntKind.bits]using h
 exact⟨n.toNat,by omega,by omega⟩
theorem UW {t e:TypeId}{cs:List Value}(ht:P.underlying t=some (.slice e))(he:P.underlying e=some (.int .u8))(h:Rd enc P w t cs) :
  ∃(oa:Option Addr) (l:By) (cap:Nat),cs = [.slice oa l.length cap]∧True∧mF 0 Ru (Here w) w (bs l) (.slice oa l.length cap):=by
 obtain⟨oa,l,cap,h1,_,h3⟩:=acp (en:=fun c:UInt8=>Value.int .u8 (c.toNat:Int)) (Q:=fun _=>True) ht (fun c hc=>by
  obtain⟨n,e,hw⟩:=aci he hc
  obtain⟨k,rfl,hk⟩:=aep hw
  exact⟨UInt8.ofNat k,by rw [e,toNat_ofNat hk],trivial⟩) (fun _=>rfl) h
 exact⟨oa,l,cap,h1,trivial,h3⟩
end
theorem af2:Tryz.prog.globalNamed "strings.asciiSpace" = some 0:=by kernel_rfl
theorem af4:(Tryz.prog.globals[0]?).map (·.type)=some 203:=by kernel_rfl
theorem af5:(Rows.laid_strings_asciiSpace:DataW Unit) = .agg ((List.range 256).map fun c=> .lit (.int .u8 (Gs c))):=by kernel_rfl
theorem aer {W:World}(h:laidMetH Tryz.prog [("unicode.White_Space",Rows.laid_unicode_White_Space),("strings.asciiSpace",Rows.laid_strings_asciiSpace)] W):GS.holds W:=by
 rw [MakeChecks.laidMetH_plain _ _ _ (by kernel_rfl)]at h
 obtain⟨ps,⟨_,_,_,_,_,_,_,_,_,_,⟨g0,t0,cs0,f0,p0,q0,hg0,ht0,hv0,hd0,_⟩,_⟩,_,_⟩:=h
 obtain rfl:=jO (af2.symm.trans hg0)
 obtain rfl:=jO (af4.symm.trans ht0)
 rw [af5]at hd0
 obtain⟨xs,m,rfl,hd,hcl,hxl,hel⟩:=DataW.trod_array (e:=5) (n:=256) rfl hd0
 injection hd with hd _
 injection hd with hd
 have key : ∀i,i<256->W.cell? ⟨0,i,none⟩=some (.int .u8 (Gs i)):=fun i hi=>by
  have h1:=hel i hi
  have hx:xs[i]? = some xs[i]:=aj (by omega)
  rw [hx]at h1
  obtain⟨k,e,f,_⟩:=DataW.trod_int (t:=5) (k:= .u8) rfl h1
  have hf:(xs.map (·.1))[i]? = some (.lit (.int .u8 k)):=by rw [aP,hx,f];rfl
  rw [<-hd,aP,fP hi]at hf
  simp only [bM,aI,DataW.lit.injEq,Lit.int.injEq,true_and]at hf
  rw [World.var?_cell hg0 hv0 i, <-bf]
  have e1:Tryz.prog.cellsOf 5=1:=by kernel_rfl
  rw [e1,dW]at e
  have:(cs0.toList.drop i)[0]? = some (.int .u8 k):=by
   cases hdr:cs0.toList.drop i with
   | nil=>rw [hdr]at e;cases e
   | cons a r=>rw [hdr]at e;injection e with e;rw [e];rfl
  rw [cZ,dH]at this
  rw [this,hf]
 have hsz:0<W.heap.size:=World.block_lt_of_cell? W _ (key 0 (by decide))
 refine⟨hsz,fun g cs hg=> ?_,fun _ _ h=>by cases h⟩
 simp only [GS]at hg
 split at hg
 ·rename_i e
  injection hg with hg
  subst e;subst hg
  refine⟨jJ _,fun j v hj=> ?_⟩
  unfold spL at hj
  rw [aP]at hj
  rcases dJ j 256 with h1|h1
  ·rw [fP h1]at hj
   simp only [bM,aI]at hj
   rw [key j h1,hj]
  ·rw [eX (by simpa using h1)]at hj
   cases hj
 ·cases hg
def zu (n:Int):Nat:=if n<0 then(-2*n-1).toNat else(2*n).toNat
def zz (u:Nat):Int:=if u%2=1 then -((u/2:Nat):Int)-1 else((u/2:Nat):Int)
theorem aes (n:Int):zz (zu n)=n:=by
 unfold zz zu
 by_cases h:n<0
 ·rw [if_pos h];split<;>omega
 ·rw [if_neg h];split<;>omega
theorem aeu (u:Nat):zu (zz u)=u:=by
 unfold zz zu
 split<;>split<;>omega
theorem UY {n:Int}(h:I64 n):zu n<18446744073709551616:=by
 unfold zu I64 at *
 split<;>omega
theorem acr {u:Nat}(h:u<18446744073709551616):I64 (zz u):=by
 unfold zz I64
 split<;>omega
def grp:Nat->Nat->By
 | 0,u=> [UInt8.ofNat u]
 | f+1,u=>if u<128 then [UInt8.ofNat u]else UInt8.ofNat (128+u%128)::grp f (u/128)
def num (n:Int):By:=grp 9 (zu n)
inductive RN where
 | bad (e:Int)
 | ok (n:Int) (k:Nat)
def AX:By->Nat->Nat->RN
 | [],_,_=> .bad 16
 | c::r,i,u=>if i=9∧1<c.toNat then .bad 3 else if 128<=c.toNat then AX r (i+1) (u+c.toNat%128*128^i)else if c.toNat=0∧0<i then .bad 1 else .ok (zz (u+c.toNat%128*128^i)) (i+1)
theorem acs (f u:Nat):grp f u≠ []:=by
 cases f with
 | zero=>simp [grp]
 | succ f=>unfold grp;split<;>simp
theorem Y9 (f u:Nat):0<(grp f u).length:=by
 have:=acs f u
 cases h:grp f u with
 | nil=>exact absurd h this
 | cons a r=>simp
theorem Za (f u:Nat):(grp f u).length<=f+1:=by
 induction f generalizing u with
 | zero=>simp [grp]
 | succ f ih=>
  unfold grp
  split
  ·simp
  ·have:=ih (u/128);simp;omega
theorem zB (i:Nat):128^(i+1)=128*128^i:=by rw [gY,fU]
theorem acu (r:By) : ∀(f u i acc:Nat),i+f=9->u<2*128^f->(i=0∨u≠0)->AX (grp f u++r) i acc = .ok (zz (acc+u*128^i)) (i+(grp f u).length):=by
 intro f
 induction f with
 | zero=>
  intro u i acc hi hu h0
  have hu2:u<2:=by simpa using hu
  simp only [grp,gW,bI,AX]
  rw [toNat_ofNat (by omega)]
  rw [if_neg (by omega),if_neg (by omega),if_neg (by omega),bU (by omega:u<128)]
  simp
 | succ f ih=>
  intro u i acc hi hu h0
  unfold grp
  by_cases h:u<128
  ·rw [if_pos h]
   simp only [gW,bI,AX]
   rw [toNat_ofNat (by omega)]
   rw [if_neg (by omega),if_neg (by omega),if_neg (by omega),bU h]
   simp
  ·rw [if_neg h]
   have hm:u%128<128:=iJ _ (by decide)
   simp only [gW,AX]
   rw [toNat_ofNat (by omega)]
   rw [if_neg (by omega),if_pos (by omega)]
   rw [zB]at hu
   rw [ih (u/128) (i+1) _ (by omega) (by omega) (by omega)]
   have e1:(128+u%128)%128=u%128:=by omega
   have e2:u%128*128^i+u/128*128^(i+1)=u*128^i:=by
    rw [zB, <-Nat.mul_assoc, <-bK]
    have:u%128+u/128*128=u:=by omega
    rw [this]
   rw [e1,fG,e2]
   simp only [bg]
   congr 1
   omega
theorem acv (n:Int)(hn:I64 n)(r:By):AX (num n++r) 0 0 = .ok n (num n).length:=by
 unfold num
 rw [acu r 9 (zu n) 0 0 rfl (by have:=UY hn;omega) (.inl rfl)]
 simp [aes]
theorem Zb : ∀(b:By) (i acc:Nat) (n:Int) (k:Nat),i<=9->AX b i acc = .ok n k->∃u,u<2*128^(9-i)∧b.take (k-i)=grp (9-i) u∧n=zz (acc+u*128^i)∧i<k∧k-i<=b.length∧(i=0∨u≠0):=by
 intro b
 induction b with
 | nil=>intro i acc n k _ h;cases h
 | cons c r ih=>
  intro i acc n k hi h
  simp only [AX]at h
  have hc:c.toNat<256:=c.toNat_lt
  have ec:UInt8.ofNat c.toNat=c:=by simp
  split at h
  ·cases h
  rename_i h9
  split at h
  ·rename_i h128
   have hi9:i≠9:=fun e=>h9 ⟨e,by omega⟩
   obtain⟨u,h1,h2,h3,h4,h5,h6⟩:=ih (i+1) _ n k (by omega) h
   obtain⟨f,hf⟩ : ∃f,9-i=f+1:=⟨8-i,by omega⟩
   have hf':9 -(i+1)=f:=by omega
   rw [hf']at h1 h2
   have hu:u≠0:=h6.resolve_left (by omega)
   refine⟨c.toNat-128+128*u, ?_, ?_, ?_,by omega,by simp only [bg];omega, .inr (by omega)⟩
   ·rw [hf,zB];omega
   ·rw [hf]
    have ek:k-i=(k -(i+1))+1:=by omega
    rw [ek,iy,h2]
    unfold grp
    rw [if_neg (by omega)]
    have e1:128+(c.toNat-128+128*u)%128=c.toNat:=by omega
    have e2:(c.toNat-128+128*u)/128=u:=by omega
    rw [e1,e2,ec]
    cases f<;>rfl
   ·rw [h3]
    have e1:c.toNat%128=c.toNat-128:=by omega
    rw [e1,zB,bK,fG]
    congr 2
    rw [<-Nat.mul_assoc,fU u 128]
  ·rename_i h128
   split at h
   ·cases h
   ·rename_i h0
    injection h with e1 e2
    subst e2
    have hc1:c.toNat<128:=by omega
    refine⟨c.toNat, ?_, ?_, ?_,by omega,by simp,by omega⟩
    ·rcases dJ i 9 with hl|hl
     ·obtain⟨f,hf⟩ : ∃f,9-i=f+1:=⟨8-i,by omega⟩
      rw [hf,zB]
      have:0<128^f:=Nat.pow_pos (by decide)
      omega
     ·have:i=9:=by omega
      subst this
      have : ¬1<c.toNat:=fun h=>h9 ⟨rfl,h⟩
      simp;omega
    ·have e3:i+1-i=1:=by omega
     rw [e3]
     simp only [iy,iO]
     cases hf:9-i with
     | zero=>simp [grp]
     | succ f=>unfold grp;rw [if_pos hc1,ec]
    ·rw [<-e1,bU hc1]
theorem RG {b:By}{n:Int}{k:Nat}(h:AX b 0 0 = .ok n k):b=num n++b.drop k∧k=(num n).length∧I64 n∧0<k∧k<=b.length:=by
 obtain⟨u,h1,h2,h3,h4,h5,_⟩:=Zb b 0 0 n k (by omega) h
 have e:n=zz u:=by simpa using h3
 have hg:num n=grp 9 u:=by unfold num;rw [e,aeu]
 simp only [je]at h2 h5
 refine⟨by rw [hg, <-h2,eY], ?_, ?_,h4,h5⟩
 ·rw [hg, <-h2,aK];omega
 ·rw [e];exact acr (by simp only [je]at h1;omega)
theorem mP (n:Int):0<(num n).length∧(num n).length<=10:=⟨Y9 _ _,Za _ _⟩
def nG (b:By)(e:Int):Int×Nat×Int:=
 if e=0 then(match AX b 0 0 with
  | .bad e'=>(0,0,e')
  | .ok n k=>(n,k,0))else(0,0,e)
theorem Zc : ∀ {b:By} {i u:Nat} {e:Int},AX b i u = .bad e->e=16∨e=3∨e=1:=by
 intro b
 induction b with
 | nil=>intro i u e h;injection h with h;exact .inl h.symm
 | cons c r ih=>
  intro i u e h
  simp only [AX]at h
  split at h
  ·injection h with h;exact .inr (.inl h.symm)
  ·split at h
   ·exact ih h
   ·split at h
    ·injection h with h;exact .inr (.inr h.symm)
    ·cases h
theorem qH {n:Int}(hn:I64 n)(r:By):nG (num n++r) 0=(n,(num n).length,0):=by
 unfold nG
 rw [if_pos rfl,acv n hn r]
theorem qW (b:By)(e:Int):I64 (nG b e).1∧(nG b e).2.1<=b.length∧((nG b e).2.2=0->e=0∧b=num (nG b e).1++b.drop (nG b e).2.1∧(nG b e).2.1=(num (nG b e).1).length)∧((nG b e).2.2≠0->(nG b e).1=0∧(nG b e).2.1=0):=by
 have z:I64 0:=by unfold I64;omega
 unfold nG
 by_cases h:e=0
 ·rw [if_pos h]
  cases hr:AX b 0 0 with
  | bad e'=>exact⟨z,aB _,fun h=>by have:=Zc hr;simp only at h;omega,fun _=>⟨rfl,rfl⟩⟩
  | ok n k=>
   have:=RG hr
   exact⟨this.2.2.1,this.2.2.2.2,fun _=>⟨h,this.1,this.2.1⟩,fun h=>absurd rfl h⟩
 ·rw [if_neg h]
  exact⟨z,aB _,fun h'=>absurd h' h,fun _=>⟨rfl,rfl⟩⟩
def qL (b:By)(e most em:Int):Int×Nat×Int:=
 let t:=nG b e
 let e1:=if t.2.2=0 then(if t.1<0 then 3 else if most<t.1 then em else 0)else t.2.2
 (if e1=0 then t.1 else 0,t.2.1,e1)
theorem rY {n:Nat}(h:n<18446744073709551616):IntKind.u64.wrap (n:Int)=n:=by
 have e:IntKind.u64.bits=64:=rfl
 have s:IntKind.u64.signed=false:=rfl
 simp only [IntKind.wrap,e,s,fE,aZ,if_false]
 omega
theorem vJ {n:Nat}(h:n<256):IntKind.u8.wrap (n:Int)=n:=by
 have e:IntKind.u8.bits=8:=rfl
 have s:IntKind.u8.signed=false:=rfl
 simp only [IntKind.wrap,e,s,fE,aZ,if_false]
 omega
theorem sS (k n:Nat):BitVec.ofInt k (n:Int)=BitVec.ofNat k n:=by
 apply jE
 simp
theorem Jv (a b:Nat)(ha:a<18446744073709551616)(hb:b<18446744073709551616):mD .or .u64 a b=((a ||| b:Nat):Int):=by
 have e:IntKind.u64.bits=64:=rfl
 have h:=jB (n:=64) ha hb
 simp only [mD,e,sS,kQ,dS]
 rw [bU ha,bU hb,rY h]
theorem FD (a b:Nat)(ha:a<18446744073709551616)(hb:b<18446744073709551616):mD .and .u64 a b=((a &&& b:Nat):Int):=by
 have e:IntKind.u64.bits=64:=rfl
 have h:=Nat.and_lt_two_pow (n:=64) a hb
 simp only [mD,e,sS,BitVec.toNat_and,dS]
 rw [bU ha,bU hb,rY h]
theorem Aj (a b:Nat)(ha:a<18446744073709551616)(hb:b<18446744073709551616):mD .xor .u64 a b=((a ^^^ b:Nat):Int):=by
 have e:IntKind.u64.bits=64:=rfl
 have h:=Nat.xor_lt_two_pow (n:=64) ha hb
 simp only [mD,e,sS,kG,dS]
 rw [bU ha,bU hb,rY h]
theorem Jw (a b:Nat)(ha:a<256)(hb:b<256):mD .or .u8 a b=((a ||| b:Nat):Int):=by
 have e:IntKind.u8.bits=8:=rfl
 have h:=jB (n:=8) ha hb
 simp only [mD,e,sS,kQ,dS]
 rw [bU ha,bU hb,vJ h]
theorem PK (a b:Nat)(ha:a<256)(hb:b<256):mD .and .u8 a b=((a &&& b:Nat):Int):=by
 have e:IntKind.u8.bits=8:=rfl
 have h:=Nat.and_lt_two_pow (n:=8) a hb
 simp only [mD,e,sS,BitVec.toNat_and,dS]
 rw [bU ha,bU hb,vJ h]
theorem UZ (a:Nat):a &&& 127=a%128:=jK a 7
theorem and1 (a:Nat):a &&& 1=a%2:=jK a 1
theorem BZ {a:Nat}(k c:Nat)(ha:a<2^k):a ||| c*2^k=a+c*2^k:=by
 rw [Nat.or_comm,fU, <-Nat.two_pow_add_eq_or_of_lt ha,lu]
theorem aaN {a:Nat}(h:a<256):a ||| 128=128+a%128:=by
 have e:a ||| 128=(a%128) ||| 1*2^7 ||| (a/128)*2^7:=by
  have h1:a=a%128 ||| (a/128)*2^7:=by rw [BZ 7 _ (by omega)];omega
  have h2:a ||| 128=(a%128 ||| (a/128)*2^7) ||| 128:=by rw [<-h1]
  rw [h2,lC,lC,Nat.or_comm (a/128*2^7)]
 rw [e,BZ 7 1 (by omega)]
 have:a/128=0∨a/128=1:=by omega
 rcases this with h0|h0
 ·rw [h0];simp;omega
 ·rw [h0]
  have e2:a%128+1*2^7=a%128 ||| 1*2^7:=(BZ 7 1 (by omega)).symm
  rw [e2,lC,Nat.or_self, <-e2];omega
theorem FH {a:Nat}(h:a<18446744073709551616):a ^^^ 18446744073709551615=18446744073709551615-a:=by
 have h1:(BitVec.ofNat 64 a ^^^ BitVec.allOnes 64).toNat=(~~~ (BitVec.ofNat 64 a)).toNat:=by rw [BitVec.xor_allOnes]
 simp only [kG,BitVec.toNat_not,dS,BitVec.toNat_allOnes]at h1
 have e:(2:Nat)^64=18446744073709551616:=by decide
 rw [e,bU h]at h1
 omega
def pat (n:Int):Nat:=(n%18446744073709551616).toNat
theorem FI (n:Int)(h : -9223372036854775808<=n∧n<=9223372036854775807):IntKind.i64.wrap ((pat n:Nat):Int)=n:=by
 have e:IntKind.i64.bits=64:=rfl
 have s:IntKind.i64.signed=true:=rfl
 unfold pat
 simp only [IntKind.wrap,e,s,iK,decide_eq_true_eq]
 split<;>omega
theorem H9 (n:Int):BitVec.ofInt 64 n=BitVec.ofNat 64 (pat n):=by
 apply jE
 simp only [jR,dS,pat]
 omega
theorem acw (a:Int)(h : -9223372036854775808<=a∧a<=9223372036854775807):mD .xor .i64 a 0=a:=by
 show IntKind.i64.wrap ((BitVec.ofInt 64 a ^^^ BitVec.ofInt 64 0).toNat:Int)=a
 have:BitVec.ofInt 64 a ^^^ BitVec.ofInt 64 0=BitVec.ofInt 64 a:=by simp
 rw [this,H9,dS,bU (by unfold pat;omega),FI a h]
theorem acy (a:Int)(h : -9223372036854775808<=a∧a<=9223372036854775807):mD .xor .i64 a (-1) = -a-1:=by
 show IntKind.i64.wrap ((BitVec.ofInt 64 a ^^^ BitVec.ofInt 64 (-1)).toNat:Int) = -a-1
 have h1:BitVec.ofInt 64 (-1)=BitVec.allOnes 64:=by decide
 rw [h1,BitVec.xor_allOnes,BitVec.toNat_not,H9,dS]
 have e2:2^64-1-pat a%2^64=pat (-a-1):=by unfold pat;omega
 rw [e2,FI _ (by omega)]
theorem aaO (i:Nat):2^(7*i)=128^i:=by rw [Nat.pow_mul]
theorem Jy {x i:Nat}(hi:i<=9)(hx:x<128)(h9:i=9->x<=1):IntKind.u64.wrap ((x:Int)*2^min (7*(i:Int)).toNat IntKind.u64.bits)=((x*128^i:Nat):Int)∧x*128^i<18446744073709551616:=by
 have e:IntKind.u64.bits=64:=rfl
 have e2:(7*(i:Int)).toNat=7*i:=by omega
 have e3:min (7*i) 64=7*i:=by omega
 have hb:x*128^i<18446744073709551616:=by
  rcases dJ i 9 with h|h
  ·have:128^i<=128^8:=dw (by decide) (by omega)
   calc x*128^i<128*128^i:=Nat.mul_lt_mul_of_pos_right hx (Nat.pow_pos (by decide))
    _<=128*128^8:=jP _ this
    _<=18446744073709551616:=by decide
  ·have:i=9:=by omega
   subst this
   have:=h9 rfl
   calc x*128^9<=1*128^9:=aU _ this
    _<18446744073709551616:=by decide
 refine⟨?_,hb⟩
 rw [e,e2,e3]
 have e4:(x:Int)*2^(7*i)=((x*128^i:Nat):Int):=by rw [<-aaO];simp
 rw [e4,rY hb]
theorem PL {u x i:Nat}(hu:u<128^i)(hi:i<=9)(hx:x*128^i<18446744073709551616):mD .or .u64 (u:Int) ((x*128^i:Nat):Int)=((u+x*128^i:Nat):Int):=by
 have h1:128^i<=128^9:=dw (by decide) hi
 have h2:(128:Nat)^9<18446744073709551616:=by decide
 rw [Jv u _ (by omega) hx]
 rw [<-aaO]at hu ⊢
 rw [BZ _ _ hu]
theorem D5 {u:Nat}(h:u<18446744073709551616):mD .xor .i64 ((u/2:Nat):Int) (0 -((u%2:Nat):Int))=zz u:=by
 unfold zz
 have hr : -9223372036854775808<=((u/2:Nat):Int)∧((u/2:Nat):Int)<=9223372036854775807:=by omega
 by_cases h1:u%2=1
 ·rw [if_pos h1,h1];exact acy _ hr
 ·have h0:u%2=0:=by omega
  rw [if_neg h1,h0];exact acw _ hr
theorem Zd (n:Int)(h:I64 n):mD .xor .u64 (IntKind.u64.wrap (IntKind.u64.wrap n*2)) (IntKind.u64.wrap (n.fdiv 9223372036854775808))=(zu n:Int):=by
 have e:IntKind.u64.bits=64:=rfl
 have s:IntKind.u64.signed=false:=rfl
 unfold I64 at h
 unfold zu
 by_cases hn:n<0
 ·rw [if_pos hn]
  have e1:IntKind.u64.wrap (IntKind.u64.wrap n*2)=((18446744073709551616 -(-2*n).toNat:Nat):Int):=by
   simp only [IntKind.wrap,e,s,fE,aZ,if_false];omega
  have e2:n.fdiv 9223372036854775808 = -1:=by rw [Int.fdiv_eq_ediv];simp;omega
  have e3:IntKind.u64.wrap (-1)=((18446744073709551615:Nat):Int):=by decide
  rw [e1,e2,e3,Aj _ _ (by omega) (by omega),FH (by omega)]
  omega
 ·rw [if_neg hn]
  have e1:IntKind.u64.wrap (IntKind.u64.wrap n*2)=(((2*n).toNat:Nat):Int):=by
   simp only [IntKind.wrap,e,s,fE,aZ,if_false];omega
  have e2:n.fdiv 9223372036854775808=0:=by rw [Int.fdiv_eq_ediv];simp;omega
  have e3:IntKind.u64.wrap 0=((0:Nat):Int):=by decide
  rw [e1,e2,e3,Aj _ _ (by omega) (by omega),Nat.xor_zero]
theorem U0 {u:Nat} : mD .or .u8 (IntKind.u8.wrap (u:Int)) 128=((UInt8.ofNat (128+u%128)).toNat:Int):=by
 have e:IntKind.u8.wrap (u:Int)=((u%256:Nat):Int):=by
  have e:IntKind.u8.bits=8:=rfl
  have s:IntKind.u8.signed=false:=rfl
  simp only [IntKind.wrap,e,s,fE,aZ,if_false]
  omega
 have e2:(128:Int)=((128:Nat):Int):=rfl
 rw [e,e2,Jw _ _ (by omega) (by omega),aaN (by omega),toNat_ofNat (by omega)]
 congr 1
 omega
theorem Ia {u:Nat}(h:u<128):IntKind.u8.wrap (u:Int)=((UInt8.ofNat u).toNat:Int):=by
 rw [vJ (by omega),toNat_ofNat (by omega)]
theorem aev (u:Nat):Int.fdiv (u:Int) 128=((u/128:Nat):Int):=by rw [fD _ (by decide)];rfl
theorem af6 (u:Nat):Int.fdiv (u:Int) 2=((u/2:Nat):Int):=by rw [fD _ (by decide)];rfl
def FK (n:Int):Int:=Go.IntKind.i64.wrap n
def b1 (l:Li):By:=l.flatMap num
def rl:Li->List (Int×Nat)
 | []=> []
 | x::r=>match rl r with
  | []=> [(x,1)]
  | p::t=>if x=p.1 then(x,p.2+1)::t else(x,1)::p::t
def enP (p:Int×Nat):By:=num p.1++num p.2
def b2 (l:Li):By:=(rl l).flatMap enP
def st:Int->Li->By
 | _,[]=> []
 | p,x::r=>num (FK (x-p))++st x r
def b3 (l:Li):By:=st 0 l
def ins (d:Li)(x:Int):Li:=
 match d with
 | []=> [x]
 | y::r=>if y<x then y::ins r x else if y=x then y::r else x::y::r
def ds (l:Li):Li:=l.foldl ins []
def idx:Li->Int->Nat
 | [],_=>0
 | y::r,x=>if y=x then 0 else idx r x+1
def b4 (l:Li):By:=num (ds l).length++b1 (ds l)++l.flatMap fun x=>num (idx (ds l) x)
def wid:Nat->Nat->Nat
 | 0,_=>0
 | f+1,u=>if u=0 then 0 else wid f (u/2)+1
def dif (lo x:Int):Nat:=(x-lo).toNat
def zC (lo:Int)(w:Nat)(l:Li)(p:Nat):Bool:=(dif lo (l.getD (p/w) 0)).testBit (p%w)
def GN (bit:Nat->Bool)(p j:Nat):Nat->Nat
 | 0=>0
 | t+1=>GN bit p j t+(if 8*j+t<p∧bit (8*j+t)=true then 2^t else 0)
def pk (bit:Nat->Bool)(n p:Nat):By:=(List.range n).map fun j=>UInt8.ofNat (GN bit p j 8)
def lo (l:Li):Int:=(ds l).headD 0
def hi (l:Li):Int:=(ds l).getLastD 0
def wd (l:Li):Nat:=wid 64 (dif (lo l) (hi l))
def AY (n w:Nat):Nat:=(n*w+7)/8
def b5 (l:Li):By:=num (lo l)++num (wd l)++pk (zC (lo l) (wd l) l) (AY l.length (wd l)) (l.length*wd l)
def bd:Nat->Li->By
 | 1,l=>b1 l
 | 2,l=>b2 l
 | 3,l=>b3 l
 | 4,l=>b4 l
 | _,l=>b5 l
def en (k:Nat)(l:Li):By:=num k++num l.length++bd k l
def sh (a b:By):By:=if b.length<a.length then b else a
def best (l:Li):Nat->By
 | 0=>en 1 l
 | k+1=>sh (best l k) (en (k+2) l)
def ints (l:Li):By:=if l = []then num 1++num 0 else best l 4
example:ints [7,7,7,7] = [4,8,14,8]:=by decide
example:ints [] = [2,0]:=by decide
theorem aew {x:Int}{r:Li} : ∃k t,rl (x::r)=(x,k+1)::t:=by
 simp only [rl]
 split
 ·exact⟨0,[],rfl⟩
 ·rename_i p t _
  split
  ·exact⟨p.2,t,rfl⟩
  ·exact⟨0,p::t,rfl⟩
theorem acz (x:Int)(m:Nat)(r:Li)(h:r.head? ≠some x):rl (List.replicate (m+1) x++r)=(x,m+1)::rl r:=by
 induction m with
 | zero=>
  simp only [List.replicate,gW,bI,rl]
  cases r with
  | nil=>rfl
  | cons y r=>
   obtain⟨k,t,e⟩:=aew (x:=y) (r:=r)
   rw [e]
   have hne:x≠y:=fun e=>h (by rw [e];rfl)
   simp only [hne,if_false]
 | succ m ih=>
  rw [eU,gW]
  simp only [rl]
  rw [ih]
  simp
def SS (d:Li):Prop:=d.Pairwise (· < ·)
theorem PN (d:Li)(x y:Int):y∈ins d x↔y∈d∨y=x:=by
 induction d with
 | nil=>simp [ins]
 | cons z r ih=>
  unfold ins
  split
  ·simp only [bF,ih,or_assoc]
  ·split
   ·rename_i e;subst e;simp only [bF];constructor
    ·intro h;exact .inl h
    ·rintro(h|rfl)
     ·exact h
     ·exact .inl rfl
   ·simp only [bF];constructor
    ·rintro(h|h|h)
     ·exact .inr h
     ·exact .inl (.inl h)
     ·exact .inl (.inr h)
    ·rintro((h|h)|h)
     ·exact .inr (.inl h)
     ·exact .inr (.inr h)
     ·exact .inl h
theorem acA {d:Li}{x:Int}(h:SS d):SS (ins d x):=by
 induction d with
 | nil=>simp [ins,SS]
 | cons z r ih=>
  have h1:=dO.1 h
  unfold ins
  split
  ·rename_i hz
   refine dO.2 ⟨fun a ha=> ?_,ih h1.2⟩
   rcases(PN r x a).1 ha with h2|h2
   ·exact h1.1 a h2
   ·omega
  ·split
   ·exact h
   ·refine dO.2 ⟨fun a ha=> ?_,h⟩
    rcases bF.1 ha with h2|h2
    ·omega
    ·have:=h1.1 a h2;omega
theorem PO (l:Li) : ∀d,SS d->SS (l.foldl ins d)∧∀y,y∈l.foldl ins d↔y∈d∨y∈l:=by
 induction l with
 | nil=>intro d h;simp [h]
 | cons x r ih=>
  intro d h
  have:=ih (ins d x) (acA h)
  refine⟨this.1,fun y=> ?_⟩
  rw [fF,this.2 y,PN,bF,or_assoc]
theorem PS (l:Li):SS (ds l):=(PO l [] List.Pairwise.nil).1
theorem xg (l:Li)(y:Int):y∈ds l↔y∈l:=by rw [ds,(PO l [] List.Pairwise.nil).2 y];simp
theorem Ze {a:Li} : ∀ {b:Li},SS a->SS b->(∀y,y∈a↔y∈b)->a=b:=by
 induction a with
 | nil=>intro b _ _ h;cases b with
  | nil=>rfl
  | cons y r=>exact absurd ((h y).2 bJ) (by simp)
 | cons x r ih=>
  intro b ha hb h
  have h1:=dO.1 ha
  cases b with
  | nil=>exact absurd ((h x).1 bJ) (by simp)
  | cons y s=>
   have h2:=dO.1 hb
   have e:x=y:=by
    have m1:=(h x).1 bJ
    have m2:=(h y).2 bJ
    rcases bF.1 m1 with e|e
    ·exact e
    ·rcases bF.1 m2 with e2|e2
     ·exact e2.symm
     ·have:=h1.1 y e2;have:=h2.1 x e;omega
   subst e
   congr 1
   refine ih h1.2 h2.2 fun z=>⟨fun hz=> ?_,fun hz=> ?_⟩
   ·rcases bF.1 ((h z).1 (dh _ hz))with e|e
    ·have:=h1.1 z hz;omega
    ·exact e
   ·rcases bF.1 ((h z).2 (dh _ hz))with e|e
    ·have:=h2.1 z hz;omega
    ·exact e
theorem aex {l d:Li}(h1:SS d)(h2 : ∀y,y∈d↔y∈l):d=ds l:=Ze h1 (PS l) fun y=>by rw [h2,xg]
theorem Zf (d:Li)(x:Int):(ins d x).length<=d.length+1:=by
 induction d with
 | nil=>simp [ins]
 | cons y r ih=>
  unfold ins
  split
  ·simp only [bg];omega
  ·split<;>simp
theorem Cb (l:Li):(ds l).length<=l.length:=by
 have : ∀(l d:Li),(l.foldl ins d).length<=d.length+l.length:=by
  intro l
  induction l with
  | nil=>intro d;simp
  | cons x r ih=>intro d;have h1:=ih (ins d x);have h2:=Zf d x;simp only [fF,bg];omega
 have:=this l []
 simpa [ds]using this
theorem Oz {d:Li}{x:Int}(h:x∈d):idx d x<d.length∧d[idx d x]? = some x:=by
 induction d with
 | nil=>cases h
 | cons y r ih=>
  unfold idx
  by_cases e:y=x
  ·rw [if_pos e];simp [e]
  ·rw [if_neg e]
   have:=ih (by rcases bF.1 h with h|h;exact absurd h.symm e;exact h)
   simp only [bg,dI]
   exact⟨by omega,this.2⟩
theorem lo_le {l:Li}{x:Int}(h:x∈l):lo l<=x∧lo l∈l:=by
 have hm:=(xg l x).2 h
 have hs:=PS l
 have hb:=fun y=>(xg l y)
 unfold lo
 cases hd:ds l with
 | nil=>rw [hd]at hm;cases hm
 | cons y r=>
  rw [hd]at hm hs
  have h1:=dO.1 hs
  refine⟨?_,(hb y).1 (by rw [hd];exact bJ)⟩
  show y<=x
  rcases bF.1 hm with e|e
  ·omega
  ·have:=h1.1 x e;omega
theorem Zg {d:Li}(hs:SS d){x:Int}(h:x∈d):x<=d.getLastD 0∧d.getLastD 0∈d:=by
 induction d generalizing x with
 | nil=>cases h
 | cons y r ih=>
  have h1:=dO.1 hs
  cases r with
  | nil=>simp at h ⊢;omega
  | cons z s=>
   have e:(y::z::s).getLastD 0=(z::s).getLastD 0:=by simp [List.getLastD]
   rw [e]
   have hz:=ih h1.2 (x:=z) bJ
   rcases bF.1 h with h2|h2
   ·have:=h1.1 z bJ
    exact⟨by omega,dh _ hz.2⟩
   ·have:=ih h1.2 h2
    exact⟨this.1,dh _ this.2⟩
theorem PU {l:Li}{x:Int}(h:x∈l):x<=hi l∧hi l∈l:=by
 have:=Zg (PS l) ((xg l x).2 h)
 exact⟨this.1,(xg l _).1 this.2⟩
theorem ql : ∀(f u:Nat),u<2^f->u<2^wid f u∧wid f u<=f:=by
 intro f
 induction f with
 | zero=>intro u h;simp [wid]at h ⊢;omega
 | succ f ih=>
  intro u h
  unfold wid
  split
  ·simp [*]
  ·have:=ih (u/2) (by rw [gY]at h;omega)
   refine⟨?_,by omega⟩
   rw [gY]
   omega
theorem Zh : ∀(f u k:Nat),u<2^k->wid f u<=k:=by
 intro f
 induction f with
 | zero=>intro u k _;simp [wid]
 | succ f ih=>
  intro u k h
  unfold wid
  split
  ·omega
  ·cases k with
   | zero=>simp at h;omega
   | succ k=>have:=ih (u/2) k (by rw [gY]at h;omega);omega
theorem OA (bit:Nat->Bool)(p j:Nat) : ∀t,GN bit p j t<2^t:=by
 intro t
 induction t with
 | zero=>simp [GN]
 | succ t ih=>unfold GN;rw [gY];split<;>omega
theorem PV (bit:Nat->Bool)(p j:Nat) : ∀t s,s<t->(GN bit p j t).testBit s=(decide (8*j+s<p)&&bit (8*j+s)):=by
 intro t
 induction t with
 | zero=>intro s h;omega
 | succ t ih=>
  intro s hs
  unfold GN
  have hl:=OA bit p j t
  have key : ∀c:Nat,c<=1->(GN bit p j t+c*2^t).testBit s=if s<t then(GN bit p j t).testBit s else decide (c=1):=by
   intro c hc
   rw [lu,fU,Nat.testBit_two_pow_mul_add c hl]
   split
   ·rfl
   ·have:s-t=0:=by omega
    rw [this]
    have:c=0∨c=1:=by omega
    rcases this with rfl|rfl<;>rfl
  by_cases hb:8*j+t<p∧bit (8*j+t)=true
  ·rw [if_pos hb]
   have:=key 1 (ay _)
   rw [dA]at this
   rw [this]
   split
   ·exact ih s (by assumption)
   ·have e:s=t:=by omega
    subst e
    simp [hb.1,hb.2]
  ·rw [if_neg hb]
   have:=key 0 (aB _)
   rw [dY]at this
   rw [this]
   split
   ·exact ih s (by assumption)
   ·have e:s=t:=by omega
    subst e
    by_cases h1:8*j+s<p
    ·have:bit (8*j+s)=false:=by
      cases hbb:bit (8*j+s)with
      | false=>rfl
      | true=>exact absurd ⟨h1,hbb⟩ hb
     simp [this]
    ·simp [h1]
theorem U1 (bit:Nat->Bool)(p j:Nat) : ∀t,GN bit (p+1) j t=GN bit p j t+(if 8*j<=p∧p<8*j+t∧bit p=true then 2^(p-8*j)else 0):=by
 intro t
 induction t with
 | zero=>simp only [GN];rw [if_neg (by omega)]
 | succ t ih=>
  unfold GN
  rw [ih]
  by_cases hp:p=8*j+t
  ·subst hp
   have e:8*j+t-8*j=t:=by omega
   rw [e,if_neg (show ¬(8*j<=8*j+t∧8*j+t<8*j+t∧bit (8*j+t)=true) by omega),if_neg (show ¬(8*j+t<8*j+t∧bit (8*j+t)=true) by omega)]
   by_cases hb:bit (8*j+t)=true
   ·rw [if_pos ⟨by omega,hb⟩,if_pos ⟨by omega,by omega,hb⟩]
   ·rw [if_neg (by simp [hb]),if_neg (by simp [hb])]
  ·have e1:(8*j+t<p+1∧bit (8*j+t)=true)↔(8*j+t<p∧bit (8*j+t)=true):=by
    constructor<;>rintro⟨a,b⟩<;>exact⟨by omega,b⟩
   have e2:(8*j<=p∧p<8*j+(t+1)∧bit p=true)↔(8*j<=p∧p<8*j+t∧bit p=true):=by
    constructor<;>rintro⟨a,b,c⟩<;>exact⟨by omega,by omega,c⟩
   simp only [e1,e2]
   omega
theorem U2 (bit:Nat->Bool)(j:Nat) : ∀t,GN bit 0 j t=0:=by
 intro t
 induction t with
 | zero=>rfl
 | succ t ih=>unfold GN;rw [ih,if_neg (by omega)]
theorem pk_len (bit:Nat->Bool)(n p:Nat):(pk bit n p).length=n:=by simp [pk]
theorem Zi (bit:Nat->Bool)(n:Nat):pk bit n 0=List.replicate n 0:=by
 apply jG
 ·simp [pk]
 ·intro i h1 h2;simp [pk,U2]
theorem Zj (bit:Nat->Bool)(n p:Nat):pk bit n (p+1)=(pk bit n p).set (p/8) (UInt8.ofNat (GN bit p (p/8) 8+(if bit p=true then 2^(p%8)else 0))):=by
 apply jG
 ·simp [pk]
 ·intro i h1 h2
  rw [List.getElem_set]
  simp only [pk,kD,jm]
  rw [U1]
  by_cases e:p/8=i
  ·rw [if_pos e]
   subst e
   have e1:p-8*(p/8)=p%8:=by omega
   rw [e1]
   by_cases hb:bit p=true
   ·rw [if_pos ⟨by omega,by omega,hb⟩,if_pos hb]
   ·rw [if_neg (by simp [hb]),if_neg hb]
  ·rw [if_neg e,if_neg (by omega)];rfl
theorem U3 (n:Nat):zu (n:Int)=2*n:=by unfold zu;rw [if_neg (by omega)];omega
theorem Zk {n:Int}(h:zu n<128):(num n).length=1:=by unfold num grp;rw [if_pos h];rfl
theorem Zl {n:Int}(h:zu n<16384):(num n).length<=2:=by
 unfold num grp
 split
 ·simp
 ·unfold grp;rw [if_pos (by omega)];simp
theorem FM {α:Type}(f:α->By)(c:Nat) : ∀l:List α,(∀x∈l,(f x).length<=c)->(l.flatMap f).length<=c*l.length:=by
 intro l
 induction l with
 | nil=>intro _;simp
 | cons x r ih=>
  intro h
  have h1:=h x bJ
  have h2:=ih fun y hy=>h y (dh _ hy)
  rw [gI,ak,bg,Nat.mul_succ]
  omega
theorem FN (l:Li):(b1 l).length<=10*l.length:=FM num 10 l fun x _=>(mP x).2
theorem acB (l:Li):(rl l).length<=l.length:=by
 induction l with
 | nil=>simp [rl]
 | cons x r ih=>
  simp only [rl]
  split
  ·simp
  ·rename_i p t e
   rw [e]at ih
   simp only [bg]at ih
   split<;>simp only [bg]<;>omega
theorem Zm (p:Int×Nat):(enP p).length<=20:=by
 have h1:=mP p.1;have h2:=mP p.2
 unfold enP;rw [ak];omega
theorem U4 (l:Li):(b2 l).length<=20*l.length:=by
 have h1:=FM enP 20 (rl l) fun x _=>Zm x
 have h2:=acB l
 unfold b2;omega
theorem st_len (l:Li) : ∀p,(st p l).length<=10*l.length:=by
 induction l with
 | nil=>intro p;simp [st]
 | cons x r ih=>intro p;have h1:=ih x;have h2:=mP (FK (x-p));simp only [st,ak,bg];omega
theorem acC (l:Li):(b4 l).length<=10+20*l.length:=by
 have h1:=mP (ds l).length
 have h2:=FN (ds l)
 have h3:=Cb l
 have h4:=FM (fun x=>num (idx (ds l) x)) 10 l fun x _=>(mP _).2
 unfold b4
 simp only [ak]
 omega
theorem PW (l:Li)(h:nY l):wd l<=64:=by
 unfold wd
 cases l with
 | nil=>decide
 | cons x r=>
  have h1:=lo_le (l:=x::r) (x:=x) bJ
  have h2:=PU (l:=x::r) (x:=x) bJ
  have h3:=h _ h1.2
  have h4:=h _ h2.2
  unfold I64 at h3 h4
  exact(ql 64 _ (by unfold dif;omega)).2
theorem acD (n w:Nat)(h:w<=64):AY n w<=8*n+1:=by
 unfold AY
 have:=jP n h
 omega
theorem acE (l:Li)(h:nY l):(b5 l).length<=21+8*l.length:=by
 have h1:=mP (lo l)
 have h2:=mP (wd l)
 have h3:=acD l.length (wd l) (PW l h)
 unfold b5
 simp only [ak,pk_len]
 omega
theorem acF (k:Nat)(l:Li)(h:nY l):(bd k l).length<=21+20*l.length:=by
 have h1:=FN l;have h2:=U4 l;have h3:=st_len l 0;have h4:=acC l;have h5:=acE l h
 unfold bd
 split
 ·omega
 ·omega
 ·unfold b3;omega
 ·omega
 ·omega
theorem acG (k:Nat)(l:Li)(h:nY l):(en k l).length<=41+20*l.length:=by
 have h1:=acF k l h;have h2:=mP k;have h3:=mP l.length
 unfold en;simp only [ak];omega
theorem acH (k:Nat)(l:Li):0<(en k l).length:=by
 have h2:=mP k
 unfold en;simp only [ak];omega
theorem aey (a b:By):(sh a b).length<=a.length∧(sh a b).length<=b.length:=by unfold sh;split<;>omega
theorem aez (a b:By):sh a b=a∨sh a b=b:=by unfold sh;split;exact .inr rfl;exact .inl rfl
theorem Zn (l:Li) : ∀k j,j<=k->(best l k).length<=(en (j+1) l).length:=by
 intro k
 induction k with
 | zero=>
  intro j h
  have:j=0:=by omega
  subst this;exact ay _
 | succ k ih=>
  intro j h
  have h1:=aey (best l k) (en (k+2) l)
  show (sh _ _).length<=_
  by_cases e:j=k+1
  ·subst e;exact h1.2
  ·exact dN h1.1 (ih j (by omega))
theorem PX (l:Li) : ∀k, ∃j,j<=k∧best l k=en (j+1) l:=by
 intro k
 induction k with
 | zero=>exact⟨0,ay _,rfl⟩
 | succ k ih=>
  obtain⟨j,h1,h2⟩:=ih
  rcases aez (best l k) (en (k+2) l)with e|e
  ·exact⟨j,by omega,by rw [<-h2];exact e⟩
  ·exact⟨k+1,ay _,e⟩
theorem Zo {l:Li}(h:l≠ []){k:Nat}(h1:1<=k)(h2:k<=5):(ints l).length<=(en k l).length:=by
 unfold ints
 rw [if_neg h]
 obtain⟨j,rfl⟩ : ∃j,k=j+1:=⟨k-1,by omega⟩
 exact Zn l 4 j (by omega)
theorem Zp {l:Li}(h:l≠ []) : ∃k:Nat,1<=k∧k<=5∧ints l=en k l:=by
 unfold ints
 rw [if_neg h]
 obtain⟨j,h1,h2⟩:=PX l 4
 exact⟨j+1,by omega,by omega,h2⟩
theorem U5 (l:Li)(h:l.length<=512):(ints l).length<=10*l.length+4:=by
 by_cases e:l = []
 ·subst e;decide
 ·refine dN (Zo e (k:=1) (by omega) (by omega)) ?_
  have h1:=FN l
  have h2:(num (1:Nat)).length=1:=Zk (by rw [U3];omega)
  have h3:(num l.length).length<=2:=Zl (by rw [U3];omega)
  show (num (1:Nat)++num l.length++b1 l).length<=_
  simp only [ak]
  omega
theorem nM (l:Li)(h:l.length<=512):(ints l).length<=5124:=by have:=U5 l h;omega
theorem Cc (n:Int):FK n=(n+9223372036854775808)%18446744073709551616-9223372036854775808:=by
 have e:Go.IntKind.i64.bits=64:=rfl
 have s:Go.IntKind.i64.signed=true:=rfl
 simp only [FK,Go.IntKind.wrap,e,s,iK,decide_eq_true_eq]
 split<;>omega
theorem PY (n:Int):I64 (FK n):=by rw [Cc];unfold I64;omega
theorem U6 {n:Int}(h:I64 n):FK n=n:=by rw [Cc];unfold I64 at h;omega
def Pr (b:By)(n:Nat)(body:Li->By)(Q:Li->By->Prop):Prop:= ∀l0 r,nY l0->l0.length=n->b=body l0++r->Q l0 r
theorem Pr.mono {b:By}{n:Nat}{body:Li->By}{Q Q':Li->By->Prop}(h:Pr b n body Q)(k : ∀l0 r,nY l0->l0.length=n->Q l0 r->Q' l0 r):Pr b n body Q':=
 fun l0 r h1 h2 h3=>k l0 r h1 h2 (h l0 r h1 h2 h3)
theorem Pr.start (b:By)(n:Nat)(body:Li->By):Pr b n body fun l0 r=>b=body l0++r:=fun _ _ _ _ h=>h
def OB (body:Li->By)(b:By)(n:Nat)(l:Li)(ok:Bool):Prop:=nY l∧l.length<=n∧Pr b n body fun l0 _=>ok=true∧l=l0
theorem OC {y:Int}{z b:By}{e:Int}(hy:I64 y)(he:e=0)(h:b=num y++z):(nG b e).1=y∧(nG b e).2.2=0∧b.drop (nG b e).2.1=z:=by
 subst he;subst h
 rw [qH hy]
 exact⟨rfl,rfl,kY⟩
theorem nY.at {l:Li}{i:Nat}{x:Int}(h:nY l)(e:l[i]? = some x):I64 x:=h x (aT e)
theorem nY.snoc {l:Li}{x:Int}(h:nY l)(hx:I64 x):nY (l++ [x]):=fun y hy=>by
 rcases cu.1 hy with e|e
 ·exact h y e
 ·rw [bG.1 e];exact hx
theorem nY.app {l m:Li}(h:nY l)(hm:nY m):nY (l++m):=fun y hy=>(cu.1 hy).elim (h y) (hm y)
theorem nY.nil:nY []:=fun _ h=>absurd h (by simp)
theorem nY.rep {x:Int}(hx:I64 x)(k:Nat):nY (List.replicate k x):=fun y hy=>by rw [kC hy];exact hx
def Q1 (b':By)(out:Li)(e:Int)(l0:Li)(r:By):Prop:=e=0∧∃rest,l0=out++rest∧b'=b1 rest++r
theorem Q1.start {b:By}{l0:Li}{r:By}(h:b=b1 l0++r):Q1 b [] 0 l0 r:=⟨rfl,l0,rfl,h⟩
theorem Q1.step {b':By}{out:Li}{e:Int}{l0:Li}{r:By}(ha:nY l0)(hlt:out.length<l0.length)(h:Q1 b' out e l0 r) :
  Q1 (b'.drop (nG b' e).2.1) (out++ [(nG b' e).1]) (nG b' e).2.2 l0 r:=by
 obtain⟨he,rest,h1,h2⟩:=h
 cases rest with
 | nil=>rw [h1]at hlt;simp at hlt
 | cons y rest=>
  have hy:I64 y:=ha y (by rw [h1];simp)
  have:=OC (b:=b') (z:=b1 rest++r) hy he (by rw [h2];simp [b1])
  rw [this.1,this.2.1,this.2.2]
  exact⟨rfl,rest,by rw [h1];simp,rfl⟩
theorem Q1.fin {b':By}{out:Li}{e:Int}{l0:Li}{r:By}(hlen:e=0->out.length=l0.length)(h:Q1 b' out e l0 r):e=0∧out=l0∧b'=r:=by
 obtain⟨he,rest,h1,h2⟩:=h
 have:=hlen he
 have hr:rest = []:=by
  rw [h1,ak]at this
  exact aF (by omega)
 subst hr
 exact⟨he,by rw [h1];simp,by rw [h2];simp [b1]⟩
def dl:Int->Li->Li
 | _,[]=> []
 | p,x::r=>FK (x-p)::dl x r
theorem aeA (l:Li) : ∀p,st p l=b1 (dl p l):=by
 induction l with
 | nil=>intro p;rfl
 | cons x r ih=>intro p;simp only [st,dl,b1,gI];rw [ih x];rfl
theorem acI (l:Li) : ∀p,(dl p l).length=l.length:=by
 induction l with
 | nil=>intro p;rfl
 | cons x r ih=>intro p;simp [dl,ih]
theorem acJ (l:Li) : ∀p,nY (dl p l):=by
 induction l with
 | nil=>intro p;exact nY.nil
 | cons x r ih=>
  intro p y hy
  rcases bF.1 hy with e|e
  ·rw [e];exact PY _
  ·exact ih x y e
def sm:Int->Li->Li
 | _,[]=> []
 | p,y::r=>FK (p+y)::sm (FK (p+y)) r
theorem U7 {p x:Int}(h:I64 x):FK (p+FK (x-p))=x:=by simp only [Cc];unfold I64 at h;omega
theorem aeB (l:Li) : ∀p,nY l->sm p (dl p l)=l:=by
 induction l with
 | nil=>intro p _;rfl
 | cons x r ih=>
  intro p h
  have hx:I64 x:=h x bJ
  simp only [dl,sm,U7 hx]
  rw [ih x fun y hy=>h y (dh _ hy)]
theorem xY (d:Li) : ∀p,(sm p d).length=d.length:=by
 induction d with
 | nil=>intro p;rfl
 | cons x r ih=>intro p;simp [sm,ih]
theorem acK (d:Li) : ∀p,nY (sm p d):=by
 induction d with
 | nil=>intro p;exact nY.nil
 | cons x r ih=>
  intro p y hy
  rcases bF.1 hy with e|e
  ·rw [e];exact PY _
  ·exact ih _ y e
theorem sm_at (d:Li) : ∀(p:Int) (i:Nat),i+1<d.length->(sm p d)[i+1]? = some (FK ((sm p d).getD i 0+d.getD (i+1) 0)):=by
 induction d with
 | nil=>intro p i h;simp at h
 | cons x r ih=>
  intro p i h
  cases i with
  | zero=>
   cases r with
   | nil=>simp at h
   | cons y r=>simp [sm]
  | succ i=>
   have:=ih (FK (p+x)) i (by simp at h ⊢;omega)
   simp only [sm,dI]
   rw [this]
   simp
theorem U8 (l:Li)(h:l≠ []) : ∃y m t,l=List.replicate (m+1) y++t∧rl l=(y,m+1)::rl t:=by
 induction l with
 | nil=>exact absurd rfl h
 | cons x r ih=>
  by_cases hr:r = []
  ·subst hr;exact⟨x,0,[],rfl,rfl⟩
  ·obtain⟨y,m,t,h1,h2⟩:=ih hr
   by_cases e:x=y
   ·subst e
    refine⟨x,m+1,t, ?_, ?_⟩
    ·rw [h1,eU (n:=m+1)];rfl
    ·simp only [rl,h2];simp
   ·refine⟨x,0,r,rfl, ?_⟩
    simp only [rl,h2]
    rw [if_neg e]
def Q2 (b':By)(out:Li)(e:Int)(l0:Li)(r:By):Prop:=e=0∧∃rest,l0=out++rest∧b'=b2 rest++r
theorem Q2.start {b:By}{l0:Li}{r:By}(h:b=b2 l0++r):Q2 b [] 0 l0 r:=⟨rfl,l0,rfl,h⟩
theorem Q2.step {b':By}{out:Li}{e:Int}{l0:Li}{r:By}(ha:nY l0)(hl:l0.length<=9223372036854775807)(hlt:out.length<l0.length)(h:Q2 b' out e l0 r) :
  ∃m:Nat,(nG (b'.drop (nG b' e).2.1) (nG b' e).2.2).2.2=0∧(nG (b'.drop (nG b' e).2.1) (nG b' e).2.2).1=((m+1:Nat):Int)∧m+1+out.length<=l0.length∧
   Q2 ((b'.drop (nG b' e).2.1).drop (nG (b'.drop (nG b' e).2.1) (nG b' e).2.2).2.1) (out++List.replicate (m+1) (nG b' e).1) 0 l0 r:=by
 obtain⟨he,rest,h1,h2⟩:=h
 have hne:rest≠ []:=by rintro rfl;rw [h1]at hlt;simp at hlt
 obtain⟨y,m,t,h3,h4⟩:=U8 rest hne
 have hy:I64 y:=ha y (by rw [h1,h3];simp)
 have hlen:m+1+out.length<=l0.length:=by rw [h1,h3];simp;omega
 have r1:=OC (b:=b') (z:=num ((m+1:Nat):Int)++(b2 t++r)) hy he (by rw [h2,b2,h4];simp [enP,b2])
 rw [r1.1,r1.2.1,r1.2.2]
 have r2:=OC (e:=0) (nD (by omega:m+1<=9223372036854775807)) rfl (rfl:num ((m+1:Nat):Int)++(b2 t++r)=_)
 refine⟨m,r2.2.1,r2.1,hlen, ?_⟩
 rw [r2.2.2]
 exact⟨rfl,t,by rw [h1,h3];simp,rfl⟩
theorem Q2.fin {b':By}{out:Li}{e:Int}{l0:Li}{r:By}(hlen:out.length=l0.length)(h:Q2 b' out e l0 r):out=l0∧b'=r:=by
 obtain⟨_,rest,h1,h2⟩:=h
 have hr:rest = []:=by
  rw [h1,ak]at hlen
  exact aF (by omega)
 subst hr
 exact⟨by rw [h1];simp,by rw [h2];simp [b2,rl]⟩
def ixs (d l:Li):By:=l.flatMap fun x=>num (idx d x)
def Q4k (k:Int)(b':By)(keys:Li)(e:Int)(l0:Li)(r:By):Prop:=k=(ds l0).length∧Q1 b' keys e (ds l0) (ixs (ds l0) l0++r)
theorem Q4k.start {b:By}{n:Nat}(hn:n<=512){most em:Int}(hm:(n:Int)<=most):Pr b n b4 fun l0 r=>(qL b 0 most em).2.2=0∧Q4k (qL b 0 most em).1 (b.drop (qL b 0 most em).2.1) [] (qL b 0 most em).2.2 l0 r:=fun l0 r _ hl h=>by
 have hd:=Cb l0
 have r1:=OC (b:=b) (z:=b1 (ds l0)++(ixs (ds l0) l0++r)) (e:=0) (nD (by omega:(ds l0).length<=9223372036854775807)) rfl (by rw [h];simp [b4,ixs])
 have e1:(qL b 0 most em).2.2=0:=by
  simp only [qL]
  rw [r1.1,r1.2.1,if_pos rfl,if_neg (by omega),if_neg (by omega)]
 have e2:(qL b 0 most em).1=(ds l0).length:=by
  have:(qL b 0 most em).1=if(qL b 0 most em).2.2=0 then(nG b 0).1 else 0:=rfl
  rw [this,if_pos e1,r1.1]
 have e3:(qL b 0 most em).2.1=(nG b 0).2.1:=rfl
 refine⟨e1, ?_⟩
 rw [e2,e1,e3,r1.2.2]
 exact⟨rfl,Q1.start rfl⟩
def Q4 (keys:Li)(b':By)(out:Li)(e:Int)(l0:Li)(r:By):Prop:=keys=ds l0∧e=0∧∃rest,l0=out++rest∧b'=ixs (ds l0) rest++r
theorem Q4.start {k:Int}{b':By}{keys:Li}{e:Int}{l0:Li}{r:By}(hlen:e=0->(keys.length:Int)=k)(h:Q4k k b' keys e l0 r):Q4 keys b' [] e l0 r:=by
 obtain⟨h1,h2⟩:=h
 have:=h2.fin fun he=>by have:=hlen he;omega
 exact⟨this.2.1,this.1,l0,rfl,this.2.2⟩
theorem Q4.step {keys:Li}{b':By}{out:Li}{e:Int}{l0:Li}{r:By}(hl:l0.length<=512)(hlt:out.length<l0.length)(h:Q4 keys b' out e l0 r) :
  ∃(i:Nat) (x:Int),(nG b' e).2.2=0∧(nG b' e).1=(i:Int)∧keys[i]? = some x∧Q4 keys (b'.drop (nG b' e).2.1) (out++ [x]) 0 l0 r:=by
 obtain⟨hk,he,rest,h1,h2⟩:=h
 cases rest with
 | nil=>rw [h1]at hlt;simp at hlt
 | cons y rest=>
  have hm:y∈ds l0:=(xg l0 y).2 (by rw [h1];simp)
  have hi:=Oz hm
  have hd:=Cb l0
  have r1:=OC (b:=b') (z:=ixs (ds l0) rest++r) (nD (by omega:idx (ds l0) y<=9223372036854775807)) he (by rw [h2];simp [ixs])
  refine⟨idx (ds l0) y,y,r1.2.1,r1.1,by rw [hk];exact hi.2,hk,rfl,rest,by rw [h1];simp,r1.2.2⟩
theorem Q4.fin {keys:Li}{b':By}{out:Li}{e:Int}{l0:Li}{r:By}(hlen:out.length=l0.length)(h:Q4 keys b' out e l0 r):out=l0∧b'=r:=by
 obtain⟨_,_,rest,h1,h2⟩:=h
 have hr:rest = []:=by
  rw [h1,ak]at hlen
  exact aF (by omega)
 subst hr
 exact⟨by rw [h1];simp,by rw [h2];simp [ixs]⟩
def Q5 (least:Int)(w:Nat)(b':By)(l0:Li)(r:By):Prop:=least=lo l0∧w=wd l0∧b'=pk (zC (lo l0) (wd l0) l0) (AY l0.length (wd l0)) (l0.length*wd l0)++r
theorem acL {l:Li}(h:nY l){x:Int}(hx:x∈l):dif (lo l) x<2^wd l:=by
 have h1:=lo_le hx
 have h2:=PU hx
 have h3:=h _ h1.2
 have h4:=h _ h2.2
 unfold I64 at h3 h4
 have h5:=(ql 64 (dif (lo l) (hi l)) (by unfold dif;omega)).1
 refine Nat.lt_of_le_of_lt ?_ h5
 unfold dif;omega
theorem Q5.bit {least:Int}{w:Nat}{b':By}{l0:Li}{r:By}(h:Q5 least w b' l0 r){i k:Nat}(hi:i<l0.length)(hk:k<w) :
  ∃c,b'[(i*w+k)/8]? = some c∧c.toNat.testBit ((i*w+k)%8)=(dif least (l0.getD i 0)).testBit k:=by
 obtain⟨h1,h2,h3⟩:=h
 subst h2
 have hw:0<wd l0:=by omega
 have hat:i*wd l0+k<l0.length*wd l0:=by
  have:=aU (wd l0) (show i+1<=l0.length from hi)
  rw [bK,dA]at this;omega
 have h8:(i*wd l0+k)/8<AY l0.length (wd l0):=by unfold AY;omega
 refine⟨UInt8.ofNat (GN (zC (lo l0) (wd l0) l0) (l0.length*wd l0) ((i*wd l0+k)/8) 8),by rw [h3,dF (by rw [pk_len];exact h8)];simp only [pk,aP,fP h8,bM], ?_⟩
 have hlt:=OA (zC (lo l0) (wd l0) l0) (l0.length*wd l0) ((i*wd l0+k)/8) 8
 rw [toNat_ofNat (by omega),PV _ _ _ _ _ (by omega)]
 have e:8*((i*wd l0+k)/8)+(i*wd l0+k)%8=i*wd l0+k:=by omega
 rw [e,decide_eq_true hat,iK,h1]
 unfold zC
 have e1:(i*wd l0+k)/wd l0=i:=by rw [fU,Nat.mul_add_div hw,Nat.div_eq_of_lt hk,dH]
 have e2:(i*wd l0+k)%wd l0=k:=by rw [fU,kP,bU hk]
 rw [e1,e2]
theorem OD (c s:Nat):c/2^s%2=if c.testBit s=true then 1 else 0:=by
 rw [Nat.testBit_eq_decide_div_mod_eq]
 by_cases h:c/2^s%2=1
 ·simp [h]
 ·have:c/2^s%2=0:=by omega
  simp [this]
theorem Zq (x k:Nat):x%2^(k+1)=x%2^k+(if x.testBit k=true then 1 else 0)*2^k:=by
 rw [gY,Nat.mod_mul,OD,fU (2^k)]
theorem Q5.val {least:Int}{w:Nat}{b':By}{l0:Li}{r:By}(h:Q5 least w b' l0 r)(ha:nY l0){i:Nat}{x:Int}(hx:l0[i]? = some x):FK (least+(dif least (l0.getD i 0)%2^w:Nat))=x:=by
 obtain⟨h1,h2,_⟩:=h
 have hm:=aT hx
 have e:l0.getD i 0=x:=by rw [aW,hx];rfl
 have h3:=acL ha hm
 have h4:=lo_le hm
 rw [e,h1,h2,bU h3]
 have:lo l0+(dif (lo l0) x:Nat)=x:=by unfold dif;omega
 rw [this]
 exact U6 (ha x hm)
theorem Q5.size {least:Int}{w:Nat}{b':By}{l0:Li}{r:By}(h:Q5 least w b' l0 r):AY l0.length w<=b'.length:=by
 obtain⟨_,h2,h3⟩:=h
 rw [h3,h2,ak,pk_len];omega
attribute [local irreducible] loadVar storeVar Instr.indexAt Instr.index Instr.sliceAt Instr.makeSlice Instr.lookup Instr.mapUpdate Instr.range Instr.next Instr.entry Instr.makeMap Builtin.append_ Builtin.copy_ Builtin.len_ Builtin.min_ Builtin.max_ Builtin.cap_ Builtin.delete_ Builtin.clear_ convert binOp eqGuard Op.unary Calls
def uD (b:By):List FV:= [.lst 1 (b.map oh)]
abbrev ss (l:List By):AV:= .lst 1 (l.map uD)
theorem Ce {F:Nat->Prop}{w:World}{b:By}{v:Value}(h:oL F w (.lst 1 (b.map oh)) v)(hF : ∀b,F b->b<w.heap.size) :
  ∃oa c,v = .slice oa b.length c∧b.length<=c∧(oa=none->c=0)∧Row w oa (nR b):=by
 obtain⟨oa,m,c,news,rfl,hm,hc,hn,hr,h1,h2,h3,h4⟩:=yu h hF
 rw [ah]at hm h2
 subst hm
 refine⟨oa,c,rfl,hc,hn, ?_⟩
 have e:news=nR b:=by
  refine jv fun i=> ?_
  by_cases hi:i<b.length
  ·have hl:i<news.length:=by omega
   have hx:=h4 i 0 (oh b[i]) _ news[i] (by rw [aP,aj hi];rfl) rfl (by rw [dW,dH];exact aj hl)
   rw [aj hl]
   generalize news[i]=x at hx
   cases hx
   simp [nR,hi]
  ·rw [eX (by omega),eX (by simp [nR];omega)]
 rw [<-e];exact hr
theorem Zr {F:Nat->Prop}{w:World}{ls:List By}{v:Value}(h:oL F w (.lst 1 (ls.map uD)) v)(hF : ∀b,F b->b<w.heap.size) :
  ∃oa c vs,v = .slice oa ls.length c∧Row w oa vs∧Dg.YF w vs ls:=by
 obtain⟨oa,m,c,news,rfl,hm,hc,hn,hr,h1,h2,h3,h4⟩:=yu h hF
 rw [ah]at hm h2
 subst hm
 refine⟨oa,c,news,rfl,hr,by omega,fun i hi=> ?_⟩
 have hl:i<news.length:=by omega
 have hx:=h4 i 0 (uD ls[i]) _ news[i] (by rw [aP,aj hi];rfl) rfl (by rw [dW,dH];exact aj hl)
 obtain⟨oW,c',e,q1,q2,q3⟩:=Ce hx hF
 exact⟨oW,c',by rw [aj hl,e],q1,q2,q3⟩
def hsh (d:Int)(ls:List By):Int:=Dg.Ae d 0 (Dg.frame ls)
theorem U9 {P:Program}{G:Glob}{f:FuncId}{d:Int}{ls:List By}(h : ∀(oa:Option Addr) (c:Nat) (vs:List Value) (w:World),Row w oa vs->Dg.YF w vs ls->y8 P f #[.int .u64 d, .slice oa ls.length c] w fun v w'=>v = .int .u64 (Dg.Ae d 0 (Dg.frame ls))∧Below w.heap.size w w') :
  mX P G f [.v (.int .u64 d),ss ls] 0 [] (Is (.v (.int .u64 (hsh d ls)))):=by
 intro w σ F vs st r
 match vs,r with
 | [x,y],⟨rx,ry,_⟩=>
  rw [rx.nV]
  cases ry with
  | lst hy=>
   obtain⟨oa,c,us,rfl,hr,hf⟩:=Zr hy fun b hb=>(st.oC b hb).1
   refine(h oa c us w hr hf).mono fun v w' ⟨e,hB⟩=> ?_
   subst e
   have hE:Ext 0 σ F w 0 σ F w':=⟨ay _,fun _ _=>rfl,fun b hb=>⟨hb,hB.block b (st.oC b hb).1⟩,hB.size⟩
   exact⟨_,0,σ,F,[],⟨rfl,rfl,rfl⟩,⟨Glob.qg st.glob hB.size fun b hb=>hB.block b (aV hb st.glob.1),(yT.rW hB).mono fun _ _ h=>h.elim,fun b hb=>⟨aV (st.oC b hb).1 hB.size, .inl hb⟩,
    (fun lV b h=>by cases h),(fun lV b g h=>by cases h),(fun lV zh b b' g h=>by cases h),(fun lV b h=>by cases h)⟩,hE, .v _⟩
theorem aeC (G:Glob)(d:Int)(ls:List By)(h1:ls.length<=1000)(h2:(Dg.frame ls).length<=140737488355328):mX Tryz.prog G 69 [.v (.int .u64 d),ss ls] 0 [] (Is (.v (.int .u64 (hsh d ls)))):=
 U9 fun oa c vs w hr hf=>Dg.YG d oa c vs ls w (by omega) h2 hr hf
abbrev bt (n:Nat):UInt8:=UInt8.ofNat n
def be (k n:Nat):By:=(List.range k).map fun j=>bt (n/2^(8*(k-1-j)))
theorem sU (k n:Nat):(be k n).length=k:=by simp [be]
theorem Zt (k n:Nat):be (k+1) n=be k (n/256)++ [bt n]:=by
 unfold be
 rw [iU,aJ]
 congr 1
 ·refine jh fun j hj=> ?_
  have hj:=kW.1 hj
  rw [Nat.div_div_eq_div_mul,show 8*(k+1-1-j)=8*(k-1-j)+8 by omega,Nat.pow_add,fU]
 ·simp
def JZ (b:By):Nat:=b.foldl (fun n c=>n*256+c.toNat) 0
theorem FP (b:By)(c:UInt8):JZ (b++ [c])=JZ b*256+c.toNat:=by simp [JZ]
theorem FQ (n:Nat):(bt n).toNat=n%256:=by simp
theorem Va : ∀(k n:Nat),n<256^k->JZ (be k n)=n:=by
 intro k
 induction k with
 | zero=>
  intro n h
  have:n=0:=by simpa using h
  subst this;rfl
 | succ k ih=>
  intro n h
  rw [gY]at h
  rw [Zt,FP,ih _ (by omega),FQ]
  omega
theorem OE : ∀(b:By),JZ b<256^b.length:=by
 intro b
 suffices h : ∀(r:By),JZ r.reverse<256^r.length by
  have:=h b.reverse
  rwa [List.reverse_reverse,List.length_reverse]at this
 intro r
 induction r with
 | nil=>decide
 | cons c r ih=>
  rw [List.reverse_cons,FP,bg,gY]
  have:=c.toNat_lt
  omega
def hd (g f i n:Nat):By:=be 4 g++be 2 f++ [bt i,bt n]
theorem yC (g f i n:Nat):(hd g f i n).length=8:=by simp [hd,sU]
def hw (g f i n:Nat)(d:By):Nat:=(hsh 101 [hd g f i n,d]).toNat
def sec (g f i n:Nat)(d:By):By:=hd g f i n++be 8 (hw g f i n d)++d
theorem D6 (g f i n:Nat)(d:By):(sec g f i n d).length=16+d.length:=by
 unfold sec;rw [ak,ak,yC,sU]
theorem L6 (g f i n:Nat)(d:By):(sec g f i n d).drop 16=d:=by
 unfold sec;rw [eu (by rw [ak,yC,sU])]
theorem Vb (g f i n:Nat)(d:By):(sec g f i n d).take 8=hd g f i n:=by
 unfold sec;rw [aO,eG (yC _ _ _ _)]
def hG (s:By):Nat:=JZ (s.take 4)
def hF (s:By):Nat:=JZ ((s.drop 4).take 2)
def hI (s:By):Nat:=(s.getD 6 0).toNat
def hN (s:By):Nat:=(s.getD 7 0).toNat
theorem Vd {g f i n:Nat}(d:By)(h:g<4294967296):hG (sec g f i n d)=g:=by
 have e:(sec g f i n d).take 4=be 4 g:=by
  have:=congrArg (List.take 4) (Vb g f i n d)
  rw [kX,show min 4 8=4 from rfl]at this
  rw [this];unfold hd;rw [aO,eG (sU _ _)]
 unfold hG;rw [e];exact Va 4 g h
theorem Ve {g f i n:Nat}(d:By)(h:f<65536):hF (sec g f i n d)=f:=by
 have e:((sec g f i n d).drop 4).take 2=be 2 f:=by
  unfold sec hd
  rw [aO,aO,aO,eu (sU _ _),eG (sU _ _)]
 unfold hF;rw [e];exact Va 2 f h
theorem Vf (g f i n:Nat)(d:By):(sec g f i n d)[6]? = some (bt i)∧(sec g f i n d)[7]? = some (bt n):=by
 have e : ∀k,k<2->(sec g f i n d)[6+k]? = [bt i,bt n][k]? :=fun k hk=>by
  unfold sec hd
  have hl:(be 4 g++be 2 f).length=6:=by rw [ak,sU,sU]
  rw [aO (be 4 g++be 2 f),aO (be 4 g++be 2 f),dB (by omega),hl,jo,aO,dF (by simpa using hk)]
 exact⟨e 0 (by decide),e 1 (by decide)⟩
theorem Vg {g f i n:Nat}(d:By)(h:i<256):hI (sec g f i n d)=i:=by
 unfold hI
 rw [aW,(Vf g f i n d).1,iD,FQ];omega
theorem Vh {g f i n:Nat}(d:By)(h:n<256):hN (sec g f i n d)=n:=by
 unfold hN
 rw [aW,(Vf g f i n d).2,iD,FQ];omega
def yD (s:By):Bool:=decide (s.length=64)&&(decide (0<hG s)&&(decide (hI s<hN s)&&decide (s=sec (hG s) (hF s) (hI s) (hN s) (s.drop 16))))
def dat (b:By):By:=num (b.length:Int)++b
def nS (b:By):Nat:=((dat b).length+47)/48
def pad (b:By):By:=dat b++List.replicate (nS b*48 -(dat b).length) 0
def prt (b:By)(i:Nat):By:=((pad b).drop (i*48)).take 48
def Ak (g f:Nat)(b:By)(i:Nat):List By:=(List.range i).map fun j=>sec g f j (nS b) (prt b j)
def secs (g f:Nat)(b:By):List By:=Ak g f b (nS b)
def zI (g f:Int)(b:By):Int:=if g<1∨4294967295<g∨f<0∨65535<f then 3 else if 255<nS b then 4 else 0
def Dv (g f:Int)(b:By):List By:=if zI g f b=0 then secs g.toNat f.toNat b else []
theorem Zu (b:By):0<(dat b).length:=by
 unfold dat;rw [ak];have:=(mP (b.length:Int)).1;omega
theorem acM (b:By):(dat b).length<=10+b.length:=by
 unfold dat;rw [ak];have:=(mP (b.length:Int)).2;omega
theorem Jz (b:By):0<nS b:=by unfold nS;have:=Zu b;omega
theorem D7 (b:By):(pad b).length=nS b*48:=by
 unfold pad nS;rw [ak,dL];omega
theorem D8 {b:By}{i:Nat}(h:i<nS b):(prt b i).length=48:=by
 unfold prt;rw [aK,aX,D7];omega
theorem Am (g f:Nat)(b:By)(i:Nat):(Ak g f b i).length=i:=by simp [Ak]
theorem Ib (g f:Nat)(b:By)(i:Nat):Ak g f b (i+1)=Ak g f b i++ [sec g f i (nS b) (prt b i)]:=by simp [Ak,iU]
theorem Vj {g f:Nat}{b:By}{i j:Nat}(h:j<i):(Ak g f b i)[j]? = some (sec g f j (nS b) (prt b j)):=by
 simp [Ak,h]
theorem wL (g f:Nat)(b:By):(secs g f b).length=nS b:=Am _ _ _ _
theorem L8 {g f:Nat}{b s:By}(h:s∈secs g f b):s.length=64:=by
 simp only [secs,Ak,dR,kW]at h
 obtain⟨j,hj,rfl⟩:=h
 rw [D6,D8 hj]
theorem Vk (b:By) : ∀i,i<=nS b->(List.range i).flatMap (prt b)=(pad b).take (i*48):=by
 intro i
 induction i with
 | zero=>intro _;simp
 | succ i ih=>
  intro h
  rw [iU,iL,ih (by omega),kN,bK,dA,List.take_add]
  rfl
theorem RH (g f:Nat)(b:By)(i:Nat):(Ak g f b i).flatMap (·.drop 16)=(List.range i).flatMap (prt b):=by
 unfold Ak
 rw [List.flatMap_map]
 simp only [L6]
theorem yE (g f:Nat)(b:By):(secs g f b).flatMap (·.drop 16)=pad b:=by
 unfold secs
 rw [RH,Vk b _ (ay _), <-D7,bn]
def Ci (l:List By)(g f:Nat)(b:By):Prop:=zI g f b=0∧l=secs g f b
theorem PZ {g f:Int}{b:By}(h:zI g f b=0):1<=g∧g<=4294967295∧0<=f∧f<=65535∧nS b<=255:=by
 unfold zI at h
 split at h
 ·simp at h
 ·split at h
  ·simp at h
  ·omega
theorem Vl {g f:Int}{b:By}(h1:1<=g)(h2:g<=4294967295)(h3:0<=f)(h4:f<=65535)(h5:nS b<=255):zI g f b=0:=by
 unfold zI;rw [if_neg (by omega),if_neg (by omega)]
theorem Zv {g f i n:Nat}{d:By}(hg:0<g)(hg2:g<4294967296)(hf:f<65536)(hi:i<n)(hn:n<256)(hd:d.length=48):yD (sec g f i n d)=true:=by
 unfold yD
 rw [Vd d hg2,Ve d hf,Vg d (by omega),Vh d hn,L6,D6,hd]
 simp [hg,hi]
theorem Ci.at {l:List By}{g f:Nat}{b:By}(h:Ci l g f b){i:Nat}(hi:i<l.length):l[i]=sec g f i (nS b) (prt b i)∧yD l[i]=true∧hG l[i]=g∧hF l[i]=f∧hI l[i]=i∧hN l[i]=nS b:=by
 obtain⟨h0,rfl⟩:=h
 have hs:=PZ h0
 rw [wL]at hi
 have e:(secs g f b)[i]'(by rw [wL];exact hi)=sec g f i (nS b) (prt b i):=by
  have:=Vj (g:=g) (f:=f) (b:=b) hi
  rw [aj (by rw [Am];exact hi)]at this
  injection this
 rw [e]
 exact⟨rfl,Zv (by omega) (by omega) (by omega) hi (by omega) (D8 hi),Vd _ (by omega),Ve _ (by omega),Vg _ (by omega),Vh _ (by omega)⟩
theorem Ci.len {l:List By}{g f:Nat}{b:By}(h:Ci l g f b):l.length=nS b∧0<nS b∧nS b<=255:=by
 obtain⟨h0,rfl⟩:=h
 exact⟨wL _ _ _,Jz b,(PZ h0).2.2.2.2⟩
theorem Zw {a b:By}{x y:By}(ha:I64 (a.length:Int))(hb:I64 (b.length:Int))(h:dat a++x=dat b++y):a=b:=by
 have h1:=qH ha (a++x)
 have h2:=qH hb (b++y)
 rw [<-aO]at h1 h2
 unfold dat at h
 rw [h,h2]at h1
 injection h1 with e1 e2
 have e1:b.length=a.length:=by omega
 rw [e1,aO,aO]at h
 exact(List.append_inj (bV h) e1.symm).1
theorem Ci.inj {l:List By}{g f g' f':Nat}{b b':By}(h:Ci l g f b)(h':Ci l g' f' b'):g=g'∧f=f'∧b=b':=by
 obtain⟨hl,hp,hq⟩:=h.len
 obtain⟨_,_,hq'⟩:=h'.len
 obtain⟨_,_,a1,a2,_⟩:=h.at (i:=0) (by omega)
 obtain⟨_,_,b1,b2,_⟩:=h'.at (i:=0) (by omega)
 refine⟨a1.symm.trans b1,a2.symm.trans b2, ?_⟩
 have e1:=yE g f b
 have e2:=yE g' f' b'
 rw [<-h.2]at e1
 rw [<-h'.2,e1]at e2
 have bl : ∀x:By,nS x<=255->I64 (x.length:Int):=fun x hx=>by
  unfold nS dat at hx;rw [ak]at hx;unfold I64;omega
 exact Zw (bl b hq) (bl b' hq') e2
noncomputable def Ap (l:List By):Int×Int×By×Bool:=
 open Classical in if h : ∃x:Nat×Nat×By,Ci l x.1 x.2.1 x.2.2 then(((Classical.choose h).1:Nat),((Classical.choose h).2.1:Nat),(Classical.choose h).2.2,true)else(0,0,[],false)
theorem Vm {l:List By}{g f:Nat}{b:By}(h:Ci l g f b):Ap l=(((g:Nat):Int),((f:Nat):Int),b,true):=by
 have hx : ∃x:Nat×Nat×By,Ci l x.1 x.2.1 x.2.2:=⟨(g,f,b),h⟩
 unfold Ap
 rw [dif_pos hx]
 obtain⟨e1,e2,e3⟩:=(jF hx).inj h
 rw [e1,e2,e3]
theorem Vo {l:List By}(h : ∀g f b, ¬Ci l g f b):Ap l=(0,0,[],false):=by
 unfold Ap
 rw [dif_neg fun⟨x,hx⟩=>h _ _ _ hx]
theorem Cj (l:List By):(∃g f b,Ci l g f b∧Ap l=(((g:Nat):Int),((f:Nat):Int),b,true))∨((∀g f b, ¬Ci l g f b)∧Ap l=(0,0,[],false)):=by
 by_cases h : ∃g f b,Ci l g f b
 ·obtain⟨g,f,b,h⟩:=h
  exact .inl ⟨g,f,b,h,Vm h⟩
 ·exact .inr ⟨fun g f b hx=>h ⟨g,f,b,hx⟩,Vo fun g f b hx=>h ⟨g,f,b,hx⟩⟩
structure Ev where
 client:By
 seq:Int
 kind:Int
 time:Int
 id:By
 name:By
 other:By
 ver:Int
 arm:Int
 val:Int
abbrev sF (s:By):FV:= .v (.string ⟨s.toArray⟩)
abbrev iF (n:Int):FV:= .v (.int .i64 n)
def uX (e:Ev):List FV:= [sF e.client,iF e.seq,iF e.kind,iF e.time,sF e.id,sF e.name,sF e.other,iF e.ver,iF e.arm,iF e.val]
def evA (e:Ev):AV:= .agg ((uX e).map FV.up)
abbrev el (l:List Ev):AV:= .lst 10 (l.map uX)
structure Ev.ok (e:Ev):Prop where
 seq:I64 e.seq
 kind:I64 e.kind
 time:I64 e.time
 ver:I64 e.ver
 arm:I64 e.arm
 val:I64 e.val
 client:e.client.length<=140737488355328
 id:e.id.length<=140737488355328
 name:e.name.length<=140737488355328
 other:e.other.length<=140737488355328
end Go.Proofs.YtocckceefcmeaaaGreatDoor.Cl
namespace Go.Proofs.YtocckceefcmeaaaGreatDoor.Ax
open RowKit Vc Go.Proofs.Tryz
theorem ATr.here {i o e:Nat}{Kh:Nat->Prop}{K:Prop}(h:Kh e):ATr (some (i,o,e)) i o Kh K:=⟨fun e' he=>by injection he with he;injection he with _ he;injection he with _ he;subst he;exact h,fun hno=>(hno e rfl).elim⟩
theorem ATs.here {i o:Nat}{K:Prop}(h:K):ATs (i=i∧o=o) K:=⟨⟨rfl,rfl⟩,h⟩
def Gh (n:Nat)(H:lF)(n':Nat)(H':lF):Prop:=
 ∀(G:Glob) (lJ:World) (lN lQ:Nat->Prop) (σ:Nat->Loc) (F:Nat->Prop) (w:World),St G lJ lN lQ n σ F H w->∃σ' F',St G lJ lN lQ n' σ' F' H' w∧Ext n σ F w n' σ' F' w
theorem Gh.refl (n:Nat)(H:lF):Gh n H n H:=fun _ _ _ _ σ F w st=>⟨σ,F,st, .refl _ _ _ _⟩
theorem Gh.trans {n n' n'':Nat}{H H' rM:lF}(h:Gh n H n' H')(k:Gh n' H' n'' rM):Gh n H n'' rM:=fun G lJ lN lQ σ F w st=>by
 obtain⟨σ1,F1,s1,x1⟩:=h G lJ lN lQ σ F w st
 obtain⟨σ2,F2,s2,x2⟩:=k G lJ lN lQ σ1 F1 w s1
 exact⟨σ2,F2,s2,x1.trans x2⟩
theorem mX.gh {P:Program}{G:Glob}{f:FuncId}{args:List AV}{n n':Nat}{H H':lF}{R R':AV->Nat->lF->Prop}(g:Gh n H n' H')(h:mX P G f args n' H' R')(k : ∀a n1 H1,R' a n1 H1->∃n2 H2,Gh n1 H1 n2 H2∧R a n2 H2):mX P G f args n H R:=by
 intro w σ F vs st r
 obtain⟨σ1,F1,s1,x1⟩:=g G w _ _ σ F w st
 refine(h w σ1 F1 vs s1.start (r.mono x1)).mono fun v w' ⟨a,n2,σ2,F2,H2,hR,s2,x2,ra⟩=> ?_
 obtain⟨n3,H3,g3,hR3⟩:=k a n2 H2 hR
 obtain⟨σ3,F3,s3,x3⟩:=g3 G w _ _ σ2 F2 w' (s1.back s2)
 exact⟨a,n3,σ3,F3,H3,hR3,s3,(x1.trans x2).trans x3,ra.mono x3⟩
section
variable {G:Glob}{lJ:World}{lN lQ:Nat->Prop}{n:Nat}{σ:Nat->Loc}{F:Nat->Prop}{H:lF}{w:World}
theorem St.JA (st:St G lJ lN lQ n σ F H w){n':Nat}{σ':Nat->Loc}{F':Nat->Prop}{H':lF}(hn:n<=n')(hσ : ∀k,k<n->σ' k=σ k)(hF : ∀b,F b->F' b)
  (hF' : ∀b,F' b->F b∨∃e c,look H e=some c∧c.own=true∧qo w (σ e) c b) (hlab : ∀k b,look H' k=some b->k<n')
  (af7 : ∀k b g,look H' k=some b->b.own=true->qo w (σ' k) b g->¬F' g∧∃e c,look H e=some c∧c.own=true∧qo w (σ e) c g)
  (hinj : ∀k k' b b' g,look H' k=some b->look H' k'=some b'->b.own=true->b'.own=true->qo w (σ' k) b g->qo w (σ' k') b' g->k=k')
  (hblk:Ext n σ F w n' σ' F' w->∀k b,look H' k=some b->uo n' σ' F' w (σ' k) b):St G lJ lN lQ n' σ' F' H' w∧Ext n σ F w n' σ' F' w:=by
 have hE:Ext n σ F w n' σ' F' w:=⟨hn,hσ,fun b hb=>⟨hF b hb,rfl⟩,ay _⟩
 refine⟨⟨st.glob,st.qg,fun b hb=> ?_,hlab,fun k b g h1 h2 h3=> ?_,hinj,hblk hE⟩,hE⟩
 ·rcases hF' b hb with h|⟨e,c,h1,h2,h3⟩
  ·exact st.oC b h
  ·obtain⟨_,_,m3,m4⟩:=st.mu e c b h1 h2 h3
   exact⟨m3,m4.elim (fun h=> .inr (.inr h)) fun h=> .inr (.inl h)⟩
 ·obtain⟨nf,e,c,h4,h5,h6⟩:=af7 k b g h1 h2 h3
  obtain⟨_,m2,m3,m4⟩:=st.mu e c g h4 h5 h6
  exact⟨nf,m2,m3,m4⟩
theorem St.Vp (st:St G lJ lN lQ n σ F H w){F':Nat->Prop}{lV:Nat}{blk blk':oN}(hk:look H lV=some blk)(hm:blk.own=true)(hF : ∀b,F b->F' b)(hF' : ∀b,F' b->F b∨(qo w (σ lV) blk b∧∀g,qo w (σ lV) blk' g->g≠b))
  (ho : ∀g,qo w (σ lV) blk' g->qo w (σ lV) blk g) (hB:Ext n σ F w n σ F' w->uo n σ F' w (σ lV) blk'):St G lJ lN lQ n σ F' (setH H lV blk') w∧Ext n σ F w n σ F' w:=by
 refine st.JA (ay _) (fun _ _=>rfl) hF (fun b hb=>(hF' b hb).imp id fun h=>⟨lV,blk,hk,hm,h.1⟩) (fun k b h=> ?_) (fun k b g h h1 h2=> ?_) (fun k k' b b' g h h' m m' g1 g2=> ?_) fun hE k b h=> ?_
 ·rw [nU hk]at h
  split at h
  ·rename_i e;subst e;exact st.lab _ _ hk
  ·exact st.lab k b h
 ·rw [nU hk]at h
  split at h
  ·rename_i e
   subst e
   injection h with h
   subst h
   refine⟨fun hf=> ?_,_,_,hk,hm,ho g h2⟩
   rcases hF' g hf with hf|hf
   ·exact(st.mu _ _ g hk hm (ho g h2)).1 hf
   ·exact hf.2 g h2 rfl
  ·rename_i e
   refine⟨fun hf=> ?_,k,b,h,h1,h2⟩
   rcases hF' g hf with hf|hf
   ·exact(st.mu _ _ g h h1 h2).1 hf
   ·exact e (st.inj k lV b blk g h hk h1 hm h2 hf.1)
 ·have key : ∀k b,look (setH H lV blk') k=some b->b.own=true->qo w (σ k) b g->∃c,look H k=some c∧c.own=true∧qo w (σ k) c g:=by
   intro k b h0 m g1
   rw [nU hk]at h0
   split at h0
   ·rename_i e;subst e;injection h0 with h0;subst h0;exact⟨_,hk,hm,ho g g1⟩
   ·exact⟨_,h0,m,g1⟩
  obtain⟨c,a1,a2,a3⟩:=key k b h m g1
  obtain⟨c',b1,b2,b3⟩:=key k' b' h' m' g2
  exact st.inj k k' c c' g a1 b1 a2 b2 a3 b3
 ·rw [nU hk]at h
  split at h
  ·rename_i e;subst e;injection h with h;subst h;exact hB hE
  ·exact(st.blk k b h).mono hE fun _ _ _=>rfl
def L9 (T s:Nat):FV->TV
 | .v (.slice none 0 0)=> .n T s []
 | x=> .f x
def TV.fz:TV->FV
 | .f x=>x
 | .n _ s l=> .lst s l
theorem FT (T s:Nat)(x:FV):(x = .v (.slice none 0 0)∧L9 T s x = .n T s [])∨L9 T s x = .f x:=by
 unfold L9
 split
 ·exact .inl ⟨rfl,rfl⟩
 ·exact .inr rfl
theorem vX {α β:Type}{f:α->β}{l:List (List α)}{i j:Nat}{row:List β}{b:β}(h:(l.map fun r=>r.map f)[i]? = some row)(k:row[j]? = some b) : ∃r a,l[i]? = some r∧r[j]? = some a∧f a=b:=by
 rw [aP]at h
 cases hr:l[i]? with
 | none=>rw [hr]at h;cases h
 | some r=>
  rw [hr]at h
  injection h with h
  subst h
  rw [aP]at k
  cases ha:r[j]? with
  | none=>rw [ha]at k;cases k
  | some a=>rw [ha]at k;injection k with k;exact⟨r,a,rfl,ha,k⟩
theorem Mc {α β:Type}{f:α->β}{l:List (List α)}{sz:Nat}(h : ∀row∈l,row.length=sz) : ∀row∈l.map fun r=>r.map f,row.length=sz:=fun row hr=>by
 obtain⟨r,h1,rfl⟩:=dR.1 hr
 rw [ah];exact h r h1
theorem Gh.tree {lV t sz:Nat}{l:List (List FV)}(T s:Nat)(hk:look H lV=some (.rows t sz l)):Gh n H n (setH H lV (.tree t sz (l.map fun r=>r.map (L9 T s)) none)):=by
 intro G lJ lN lQ σ F w st
 obtain⟨h1,h2,xs,hO,hR⟩:=st.blk _ _ hk
 have noN : ∀i j g, ¬IB w (σ lV) sz (l.map fun r=>r.map (L9 T s)) i j g:=by
  rintro i j g ⟨b,row,t',s',r,m,c,n1,n2,n3,n4,n5⟩
  obtain⟨r0,a,e1,e2,e3⟩:=vX n2 n3
  rcases FT T s a with ⟨rfl,_⟩|e
  ·have hrl:=hR.1 r0 (aT e1)
   have hil:=(aG.1 e1).1
   have hjl:=(aG.1 e2).1
   have hlt:i*sz+j<xs.length:=by
    have:(i+1)*sz<=l.length*sz:=aU _ hil
    rw [bK,dA]at this
    rw [hR.2.1];omega
   have hx:=aj hlt
   obtain⟨b',hb',hc⟩:=uQ hO e1 hrl e2 hR.2.1 hx
   rw [n1]at hb'
   injection hb' with hb'
   subst hb'
   have hf:=hR.2.2.2 i j r0 _ _ e1 e2 hx
   rw [hc]at n4
   injection n4 with n4
   rw [n4]at hf
   cases hf
  ·rw [e]at e3;cases e3
 have ho : ∀g,qo w (σ lV) (.tree t sz (l.map fun r=>r.map (L9 T s)) none) g->(σ lV).b=some g:=fun g h=>h.elim id fun⟨i,j,h⟩=>(noN i j g h).elim
 obtain⟨s1,x1⟩:=st.Vp (F':=F) (blk':= .tree t sz (l.map fun r=>r.map (L9 T s)) none) hk rfl (fun _ h=>h) (fun _ h=> .inl h) (fun g h=> .inl (ho g h)) fun hE=>by
  refine⟨h1,by rw [ah];exact h2,xs,by rw [ah];exact hO,⟨Mc hR.1,by rw [ah];exact hR.2.1,hR.2.2.1,fun i j row a v hi hj hv=> ?_⟩,⟨fun i j i' j' g h=>(noN i j g h).elim,fun i j g h=>(noN i j g h).elim⟩,fun _ _ _ h=>by cases h⟩
  obtain⟨r0,a0,e1,e2,rfl⟩:=vX hi hj
  have hf:=hR.2.2.2 i j r0 a0 v e1 e2 hv
  rcases FT T s a0 with ⟨rfl,e⟩|e
  ·rw [e]
   cases hf
   exact⟨none,0,rfl, .inl ⟨rfl,rfl⟩⟩
  ·rw [e];exact hf
 exact⟨σ,F,s1,x1⟩
theorem NM {lV t sz:Nat}{l:List (List TV)}{c i j t' s':Nat}{r:List (List FV)}{row:List TV}{xs:List Value}{g m cc:Nat}(hO:Vc.Own w 0 t sz (σ lV).oa l.length c xs)(hT:QW F w sz l xs)(hi:l[i]? = some row)(hj:row[j]? = some (.n t' s' r))(hv:xs[i*sz+j]? = some (.slice (some ⟨g,0,none⟩) m cc))(hc:0<cc) :
  IB w (σ lV) sz l i j g:=by
 obtain⟨b,hb,hcell⟩:=uQ hO hi (hT.1 row (aT hi)) hj hT.2.1 hv
 exact⟨b,row,t',s',r,m,cc,hb,hi,hj,hcell,hc⟩
theorem Vq {t sz c:Nat}{oa:Option Addr}{m:Nat}{ys:List Value}(hO:Vc.Own w 0 t sz oa m c ys)(hc:0<c) : ∃g,oa=some ⟨g,0,none⟩:=by
 rcases hO.2 with ⟨hv,_⟩|⟨g',cap,cur,hv,_⟩
 ·injection hv with _ _ e;omega
 ·injection hv with e _ _;exact⟨g',e⟩
theorem Gh.freeze {lV t sz:Nat}{l:List (List TV)}(hk:look H lV=some (.tree t sz l none)):Gh n H n (setH H lV (.rows t sz (l.map fun r=>r.map TV.fz))):=by
 intro G lJ lN lQ σ F w st
 obtain⟨h1,h2,xs,hO,hT,hS,_⟩:=st.blk _ _ hk
 obtain⟨s1,x1⟩:=st.Vp (F':=fun b=>F b∨Nst w (σ lV) (.tree t sz l none) b) (blk':= .rows t sz (l.map fun r=>r.map TV.fz)) hk rfl (fun _ h=> .inl h)
  (fun b h=>h.imp id fun h=>⟨.inr h,fun g hg e=>by
   subst e
   obtain⟨i,j,h⟩:=h
   exact hS.2 i j g h (hg.flat rfl)⟩) (fun g h=> .inl (h.flat rfl)) fun hE=>by
  refine⟨h1,by rw [ah];exact h2,xs,by rw [ah];exact hO,Mc hT.1,by rw [ah];exact hT.2.1,hT.2.2.1,fun i j row a v hi hj hv=> ?_⟩
  obtain⟨r0,a0,e1,e2,rfl⟩:=vX hi hj
  have hf:=hT.2.2.2 i j r0 a0 v e1 e2 hv
  cases a0 with
  | f x=>exact oL.mono hE.f hf
  | n t' s' r=>
   obtain⟨oa,c,rfl,hf⟩:=hf
   rcases hf with ⟨rfl,rfl⟩|⟨ys,hc,hO',hR'⟩
   ·exact yj s' oa
   ·refine KL hO' hR' (fun b hb=> .inl hb) fun g hg=> .inr ⟨i,j, ?_⟩
    subst hg
    exact NM hO hT e1 e2 hv hc
 exact⟨σ,_,s1,x1⟩
theorem Aq {α:Type}{l:List (List α)}{i j i2 j2:Nat}{row uq:List α}{x y:α}(hi:l[i]? = some row)(hj:j<row.length)(h:(l.set i (row.set j x))[i2]? = some uq)(k:uq[j2]? = some y) :
  (i2=i∧j2=j∧y=x)∨(¬(i2=i∧j2=j)∧∃r,l[i2]? = some r∧r[j2]? = some y):=by
 have hil:=(aG.1 hi).1
 by_cases e:i2=i
 ·subst e
  rw [dD hil]at h
  injection h with h
  subst h
  by_cases e2:j2=j
  ·subst e2
   rw [dD hj]at k
   injection k with k
   exact .inl ⟨rfl,rfl,k.symm⟩
  ·rw [gZ (fun h=>e2 h.symm)]at k
   exact .inr ⟨fun h=>e2 h.2,row,hi,k⟩
 ·rw [gZ (fun h=>e h.symm)]at h
  exact .inr ⟨fun h=>e h.1,uq,h,k⟩
theorem Md {α:Type}{l:List (List α)}{i j sz:Nat}{row:List α}{x:α}(hi:l[i]? = some row)(h : ∀r∈l,r.length=sz) : ∀r∈l.set i (row.set j x),r.length=sz:=fun r hr=>by
 rcases gV hr with hr|rfl
 ·exact h r hr
 ·rw [bC];exact h row (aT hi)
theorem Gh.unfold {lV t sz i j T s:Nat}{l:List (List TV)}{row:List TV}{r:List (List FV)}(hk:look H lV=some (.tree t sz l none))(hi:l[i]? = some row)(hj:row[j]? = some (.n T s r)) :
  Gh n H (n+1) ((n, .rows T s r)::setH H lV (.tree t sz (l.set i (row.set j (.f .top))) (some (i,j,n)))):=by
 intro G lJ lN lQ σ F w st
 obtain⟨h1,h2,xs,hO,hT,hS,_⟩:=st.blk _ _ hk
 have hrl:=hT.1 row (aT hi)
 have hil:=(aG.1 hi).1
 have hjl:=(aG.1 hj).1
 have hlt:i*sz+j<xs.length:=by
  have:(i+1)*sz<=l.length*sz:=aU _ hil
  rw [bK,dA]at this
  rw [hT.2.1];omega
 have hx:=aj hlt
 obtain⟨oa,c,ev,hf⟩:=hT.2.2.2 i j row _ _ hi hj hx
 have hell:=st.lab _ _ hk
 have hloc : ∃L:Loc,L.n=r.length∧L.sz=s∧(∀σ',uo (n+1) σ' F w L (.rows T s r))∧(∀g,L.b=some g->IB w (σ lV) sz l i j g)∧
   ∀σ',σ' n=L->mF (n+1) σ' F w (.own n) xs[i*sz+j]:=by
  rcases hf with ⟨rfl,rfl⟩|⟨ys,hc,hO',hR'⟩
  ·refine⟨⟨none,0,0,s⟩,rfl,rfl,fun σ'=>⟨rfl,rfl,[],Vc.Own.nil _ _ _ _,pz.nil s⟩,(fun g h=>by cases h),fun σ' hσ=> ?_⟩
   rw [ev]
   exact .qP n oa (by omega) (by rw [hσ]) (by rw [hσ])
  ·obtain⟨g,rfl⟩:=Vq hO' hc
   refine⟨⟨some g,r.length,c,s⟩,rfl,rfl,fun σ'=>⟨rfl,rfl,ys,hO',hR'⟩,(fun g' h=> ?_),fun σ' hσ=> ?_⟩
   ·injection h with h
    subst h
    rw [ev]at hx
    exact NM hO hT hi hj hx hc
   ·rw [ev]
    have:=mF.own (n:=n+1) (σ:=σ') (F:=F) (w:=w) n (by omega)
    rw [hσ]at this
    exact this
 obtain⟨L,_,_,hB,hN,hA⟩:=hloc
 have nat : ∀i2 j2 g,IB w (σ lV) sz (l.set i (row.set j (.f .top))) i2 j2 g->IB w (σ lV) sz l i2 j2 g∧¬(i2=i∧j2=j):=by
  rintro i2 j2 g ⟨b,uq,t',s',r2,m,c,n1,n2,n3,n4,n5⟩
  rcases Aq hi hjl n2 n3 with ⟨_,_,e⟩|⟨hne,r3,e1,e2⟩
  ·cases e
  ·exact⟨⟨b,r3,t',s',r2,m,c,n1,e1,e2,n4,n5⟩,hne⟩
 have OG : ∀g,qo w (σ lV) (.tree t sz (l.set i (row.set j (.f .top))) (some (i,j,n))) g->qo w (σ lV) (.tree t sz l none) g∧¬IB w (σ lV) sz l i j g:=by
  rintro g (h|⟨i2,j2,h⟩)
  ·exact⟨.inl h,fun hn=>hS.2 i j g hn h⟩
  ·obtain⟨h0,hne⟩:=nat i2 j2 g h
   exact⟨.inr ⟨i2,j2,h0⟩,fun hn=>hne (hS.1 _ _ _ _ g h0 hn)⟩
 have hlook : ∀ {k b},look ((n, .rows T s r)::setH H lV (.tree t sz (l.set i (row.set j (.f .top))) (some (i,j,n)))) k=some b->
   (k=n∧b = .rows T s r)∨(k≠n∧k=lV∧b = .tree t sz (l.set i (row.set j (.f .top))) (some (i,j,n)))∨(k≠n∧k≠lV∧look H k=some b):=by
  intro k b h
  rw [l9]at h
  split at h
  ·rename_i e;injection h with h;exact .inl ⟨e.symm,h.symm⟩
  ·rename_i e
   rw [nU hk]at h
   split at h
   ·rename_i e2;injection h with h;exact .inr (.inl ⟨fun h=>e h.symm,e2,h.symm⟩)
   ·rename_i e2;exact .inr (.inr ⟨fun h=>e h.symm,e2,h⟩)
 obtain⟨s1,x1⟩:=st.JA (n':=n+1) (σ':=wX σ n L) (F':=F) (H':=(n, .rows T s r)::setH H lV (.tree t sz (l.set i (row.set j (.f .top))) (some (i,j,n)))) (by omega) (fun k hk=>oz (by omega)) (fun _ h=>h) (fun _ h=> .inl h)
  (fun k b h=>by
   rcases hlook h with ⟨e,_⟩|⟨_,e,_⟩|⟨_,_,h⟩
   ·omega
   ·omega
   ·have:=st.lab k b h;omega)
  (fun k b g h m ho=>by
   rcases hlook h with ⟨e,rfl⟩|⟨e0,e,rfl⟩|⟨e0,e,h⟩
   ·subst e
    rw [nH]at ho
    have h3:=hN g (ho.flat rfl)
    have h4:qo w (σ lV) (.tree t sz l none) g:= .inr ⟨i,j,h3⟩
    exact⟨(st.mu _ _ g hk rfl h4).1,_,_,hk,rfl,h4⟩
   ·subst e
    rw [oz e0]at ho
    have h4:=(OG g ho).1
    exact⟨(st.mu _ _ g hk rfl h4).1,_,_,hk,rfl,h4⟩
   ·rw [oz e0]at ho
    exact⟨(st.mu _ _ g h m ho).1,_,_,h,m,ho⟩)
  (fun k k' b b' g h h' m m' ho ho'=>by
   have cross : ∀ {k b},look ((n, .rows T s r)::setH H lV (.tree t sz (l.set i (row.set j (.f .top))) (some (i,j,n)))) k=some b->b.own=true->qo w (wX σ n L k) b g->L.b=some g->k=n:=by
    intro k b h m ho hL
    have h3:=hN g hL
    rcases hlook h with ⟨e,_⟩|⟨e0,e,rfl⟩|⟨e0,e,h⟩
    ·exact e
    ·subst e
     rw [oz e0]at ho
     exact((OG g ho).2 h3).elim
    ·rw [oz e0]at ho
     exact(e (st.inj k lV b _ g h hk m rfl ho (.inr ⟨i,j,h3⟩))).elim
   rcases hlook h with ⟨e,rfl⟩|⟨e0,e,rfl⟩|⟨e0,e,h0⟩
   ·subst e
    rw [nH]at ho
    exact(cross h' m' ho' (ho.flat rfl)).symm
   ·rcases hlook h' with ⟨e',rfl⟩|⟨e0',e',rfl⟩|⟨e0',e',h0'⟩
    ·subst e'
     rw [nH]at ho'
     exact cross h m ho (ho'.flat rfl)
    ·rw [e,e']
    ·subst e
     rw [oz e0]at ho
     rw [oz e0']at ho'
     exact st.inj _ _ _ _ g hk h0' rfl m' (OG g ho).1 ho'
   ·rcases hlook h' with ⟨e',rfl⟩|⟨e0',e',rfl⟩|⟨e0',e',h0'⟩
    ·subst e'
     rw [nH]at ho'
     exact cross h m ho (ho'.flat rfl)
    ·subst e'
     rw [oz e0]at ho
     rw [oz e0']at ho'
     exact st.inj _ _ _ _ g h0 hk m rfl ho (OG g ho').1
    ·rw [oz e0]at ho
     rw [oz e0']at ho'
     exact st.inj _ _ _ _ g h0 h0' m m' ho ho')
  (fun hE k b h=>by
   rcases hlook h with ⟨e,rfl⟩|⟨e0,e,rfl⟩|⟨e0,e,h⟩
   ·subst e;rw [nH];exact hB _
   ·subst e
    rw [oz e0]
    refine⟨h1,by rw [bC];exact h2,xs,by rw [bC];exact hO,⟨Md hi hT.1,by rw [bC];exact hT.2.1,hT.2.2.1,fun i2 j2 uq a v n1 n2 n3=> ?_⟩,⟨fun a b c d g x y=>hS.1 a b c d g (nat _ _ _ x).1 (nat _ _ _ y).1,fun a b g x=>hS.2 a b g (nat _ _ _ x).1⟩,fun i2 j2 e2 he=> ?_⟩
    ·rcases Aq hi hjl n1 n2 with ⟨_,_,e⟩|⟨_,r3,e1,e2⟩
     ·subst e;exact oL.top v
     ·exact hT.2.2.2 i2 j2 r3 a v e1 e2 n3
    ·injection he with he
     injection he with ee1 he
     injection he with ee2 ee3
     subst ee1;subst ee2;subst ee3
     exact⟨by omega,by rw [bC];exact hil,by omega,⟨_,dD hil,dD hjl⟩,_,hx,hA _ (nH _ _ _)⟩
   ·rw [oz e0]
    exact(st.blk k b h).mono hE fun _ _ _=>rfl)
 exact⟨_,F,s1,x1⟩
theorem Gh.fold {lV e t sz i j T s:Nat}{l:List (List TV)}{row:List TV}{r:List (List FV)}(hk:look H lV=some (.tree t sz l (some (i,j,e))))(he:look H e=some (.rows T s r))(hne:e≠lV)(hi:l[i]? = some row) :
  Gh n H n (setH (Gv H e) lV (.tree t sz (l.set i (row.set j (.n T s r))) none)):=by
 intro G lJ lN lQ σ F w st
 obtain⟨h1,h2,xs,hO,hT,hS,hh⟩:=st.blk _ _ hk
 obtain⟨_,hil,hjs,⟨row',hi',hj⟩,v0,hv0,ra⟩:=hh _ _ _ rfl
 rw [hi]at hi'
 injection hi' with hi'
 subst hi'
 have hrl:=hT.1 row (aT hi)
 have hjl:=(aG.1 hj).1
 obtain⟨q1,q2,ys,hO',hR'⟩:=st.blk _ _ he
 obtain⟨bo,hbo,hcell0⟩:=uQ hO hi hrl hj hT.2.1 hv0
 have hv : ∃oa c,v0 = .slice oa r.length c∧((c=0∧r = [])∨∃ys,0<c∧Vc.Own w 0 T s oa r.length c ys∧pz F w s r ys)∧∀g,oa=some ⟨g,0,none⟩->0<c->(σ e).b=some g:=by
  cases ra with
  | qP _ oa hl hn hc=>
   rw [hn]at q2
   have:r = []:=aF q2.symm
   subst this
   exact⟨oa,0,rfl, .inl ⟨rfl,rfl⟩,fun g _ h=>by omega⟩
  | own _ hl=>
   refine⟨(σ e).oa,(σ e).c,by rw [q2], ?_,fun g hg _=>vU hg⟩
   rcases bP (σ e).c with h0|h0
   ·have:=(Hu hO').1
    exact .inl ⟨h0,aF (by omega)⟩
   ·exact .inr ⟨ys,h0,hO',hR'⟩
 obtain⟨oa,c,rfl,hv1,hv2⟩:=hv
 have nat : ∀i2 j2 g,IB w (σ lV) sz (l.set i (row.set j (.n T s r))) i2 j2 g->(i2=i∧j2=j∧(σ e).b=some g)∨(¬(i2=i∧j2=j)∧IB w (σ lV) sz l i2 j2 g):=by
  rintro i2 j2 g ⟨b,uq,t',s',r2,m,c2,n1,n2,n3,n4,n5⟩
  rcases Aq hi hjl n2 n3 with ⟨e1,e2,e3⟩|⟨hne,r3,e1,e2⟩
  ·subst e1;subst e2
   rw [hbo]at n1
   injection n1 with n1
   subst n1
   rw [hcell0]at n4
   injection n4 with n4
   injection n4 with n4 _ n6
   subst n6
   exact .inl ⟨rfl,rfl,hv2 g n4 n5⟩
  ·exact .inr ⟨hne,b,r3,t',s',r2,m,c2,n1,e1,e2,n4,n5⟩
 have Zx : ∀ {g},(σ e).b=some g->qo w (σ e) (.rows T s r) g:=fun h=> .inl h
 have noE : ∀ {g},(σ e).b=some g->¬qo w (σ lV) (.tree t sz l (some (i,j,e))) g:=fun h ho=>hne (st.inj e lV _ _ _ he hk rfl rfl (Zx h) ho)
 have hk':look (Gv H e) lV=some (.tree t sz l (some (i,j,e))):=by
  have : ∀ {H:lF} {b:oN},look H lV=some b->look (Gv H e) lV=some b:=by
   intro H
   induction H with
   | nil=>intro b h;cases h
   | cons p q ih=>
    intro b h
    obtain⟨x,bx⟩:=p
    rw [l9]at h
    simp only [Gv]
    cases hb:Nat.beq x e with
    | true=>
     have:=aA hb
     rw [cond_true]
     rw [if_neg (by omega)]at h
     exact ih h
    | false=>
     rw [cond_false,l9]
     split at h
     ·rename_i e1;rw [if_pos e1];exact h
     ·rename_i e1;rw [if_neg e1];exact ih h
  exact this hk
 have hlook : ∀ {k b},look (setH (Gv H e) lV (.tree t sz (l.set i (row.set j (.n T s r))) none)) k=some b->
   (k=lV∧b = .tree t sz (l.set i (row.set j (.n T s r))) none)∨(k≠lV∧k≠e∧look H k=some b):=by
  intro k b h
  rw [nU hk']at h
  split at h
  ·rename_i e2;injection h with h;exact .inl ⟨e2,h.symm⟩
  ·rename_i e2;exact .inr ⟨e2,(pO h).1,(pO h).2⟩
 have OG : ∀g,qo w (σ lV) (.tree t sz (l.set i (row.set j (.n T s r))) none) g->qo w (σ lV) (.tree t sz l (some (i,j,e))) g∨(σ e).b=some g:=by
  rintro g (h|⟨i2,j2,h⟩)
  ·exact .inl (.inl h)
  ·rcases nat i2 j2 g h with ⟨_,_,h⟩|⟨_,h⟩
   ·exact .inr h
   ·exact .inl (.inr ⟨i2,j2,h⟩)
 obtain⟨s1,x1⟩:=st.JA (n':=n) (σ':=σ) (F':=F) (H':=setH (Gv H e) lV (.tree t sz (l.set i (row.set j (.n T s r))) none)) (ay _) (fun _ _=>rfl) (fun _ h=>h) (fun _ h=> .inl h)
  (fun k b h=>by
   rcases hlook h with ⟨rfl,_⟩|⟨_,_,h⟩
   ·exact st.lab _ _ hk
   ·exact st.lab k b h)
  (fun k b g h m ho=>by
   rcases hlook h with ⟨rfl,rfl⟩|⟨_,_,h⟩
   ·rcases OG g ho with h4|h4
    ·exact⟨(st.mu _ _ g hk rfl h4).1,_,_,hk,rfl,h4⟩
    ·exact⟨(st.mu _ _ g he rfl (Zx h4)).1,_,_,he,rfl,Zx h4⟩
   ·exact⟨(st.mu _ _ g h m ho).1,_,_,h,m,ho⟩)
  (fun k k' b b' g h h' m m' ho ho'=>by
   have cross : ∀ {k b},k≠lV->k≠e->look H k=some b->b.own=true->qo w (σ k) b g->qo w (σ lV) (.tree t sz (l.set i (row.set j (.n T s r))) none) g->False:=by
    intro k b e1 e2 h m ho hT
    rcases OG g hT with h4|h4
    ·exact e1 (st.inj k lV b _ g h hk m rfl ho h4)
    ·exact e2 (st.inj k e b _ g h he m rfl ho (Zx h4))
   rcases hlook h with ⟨e0,e1⟩|⟨e1,e2,h0⟩
   ·subst e0;subst e1
    rcases hlook h' with ⟨e0,e1⟩|⟨e1',e2',h0'⟩
    ·exact e0.symm
    ·exact(cross e1' e2' h0' m' ho' ho).elim
   ·rcases hlook h' with ⟨e0,e3⟩|⟨e1',e2',h0'⟩
    ·subst e0;subst e3
     exact(cross e1 e2 h0 m ho ho').elim
    ·exact st.inj k k' b b' g h0 h0' m m' ho ho')
  (fun hE k b h=>by
   rcases hlook h with ⟨rfl,rfl⟩|⟨_,_,h⟩
   ·refine⟨h1,by rw [bC];exact h2,xs,by rw [bC];exact hO,⟨Md hi hT.1,by rw [bC];exact hT.2.1,hT.2.2.1,fun i2 j2 uq a v n1 n2 n3=> ?_⟩,⟨fun a b c d g x y=> ?_,fun a b g x hb=> ?_⟩,fun _ _ _ h=>by cases h⟩
    ·rcases Aq hi hjl n1 n2 with ⟨e1,e2,e3⟩|⟨_,r3,e1,e2⟩
     ·subst e1;subst e2;subst e3
      rw [hv0]at n3
      injection n3 with n3
      subst n3
      exact⟨oa,c,rfl,hv1⟩
     ·exact hT.2.2.2 i2 j2 r3 a v e1 e2 n3
    ·rcases nat a b g x with ⟨x1,x2,x3⟩|⟨_,x1⟩
     ·rcases nat c d g y with ⟨y1,y2,_⟩|⟨_,y1⟩
      ·exact⟨x1.trans y1.symm,x2.trans y2.symm⟩
      ·exact(noE x3 (.inr ⟨c,d,y1⟩)).elim
     ·rcases nat c d g y with ⟨_,_,y3⟩|⟨_,y1⟩
      ·exact(noE y3 (.inr ⟨a,b,x1⟩)).elim
      ·exact hS.1 a b c d g x1 y1
    ·rcases nat a b g x with ⟨_,_,x3⟩|⟨_,x1⟩
     ·exact noE x3 (.inl hb)
     ·exact hS.2 a b g x1 hb
   ·exact(st.blk k b h).mono hE fun _ _ _=>rfl)
 exact⟨σ,F,s1,x1⟩
end
structure FU (n:Nat)(H:lF)(K:Nat->lF->Prop):Prop where
 ex : ∃n' H',Gh n H n' H'∧K n' H'
theorem FU.same {n:Nat}{H:lF}{K:Nat->lF->Prop}(h:K n H):FU n H K:=⟨n,H, .refl _ _,h⟩
theorem FU.mk' {n n':Nat}{H H':lF}{K:Nat->lF->Prop}(g:Gh n H n' H')(h:K n' H'):FU n H K:=⟨n',H',g,h⟩
theorem Gh.fz {n lV t sz:Nat}{H:lF}{l:List (List FV)}(hk:look H lV=some (.rows t sz l)):Gh n H n (setH H lV (.fz sz l)):=fun _ _ _ _ _ _ _ st=>⟨_,_,St.freeze st hk⟩
def Me (P:Program)(G:Glob):List Nat->Code->(Ex->lK->Nat->lF->Prop)->lK->Nat->lF->Prop
 | [],c,Q,ρ,n,H=>FU n H fun n' H'=>aC P G c Q ρ n' H'
 | k::p,c,Q,ρ,n,H=>match k,c with
  | 0, .seq a b=>Me P G p a (XD (aC P G b) Q) ρ n H
  | 1, .seq a b=>aC P G a (XD (Me P G p b) Q) ρ n H
  | 2, .block id b=>Me P G p b (Rj id Q) ρ n H
  | 3, .cond c t e=>(match oI ρ c with
   | .v (.bool b)=>Io b (Me P G p t Q ρ n H) (aC P G e Q ρ n H)
   | _=>False)
  | 4, .cond c t e=>(match oI ρ c with
   | .v (.bool b)=>Io b (aC P G t Q ρ n H) (Me P G p e Q ρ n H)
   | _=>False)
  | _,_=>False
section
variable {P:Program}{G:Glob}{lJ:World}{lN lQ:Nat->Prop}{N:Nat}{ds:List Deferred}
theorem OH (hm:P.follows .mixedOrders=true) : ∀(p:List Nat) (c:Code) (W:Nat->Bool) (Q:Ex->lK->Nat->lF->Prop) (nK:lK) (n:Nat) (H:lF) (ρ lI:lY) (a:Act) (w:World) (σ:Nat->Loc) (F:Nat->Prop) (nb:Nat) (pq:Nat->Loc) (Fb:Nat->Prop) (wb:World),
  oK N W c=true->Fits N ds ρ a->Same W lI ρ->St G lJ lN lQ n σ F H w->Ext nb pq Fb wb n σ F w->qE n σ F w nK ρ->Me P G p c Q nK n H->c.wp P (AQ G lJ lN lQ N ds W lI nb pq Fb wb Q) a w:=by
 intro p
 induction p with
 | nil=>
  intro c W Q nK n H ρ lI a w σ F nb pq Fb wb hc hf hs st x hr h
  obtain⟨n',H',g,h⟩:=h
  obtain⟨σ',F',s',x'⟩:=g G lJ lN lQ σ F w st
  exact wF hm c W Q nK n' H' ρ lI a w σ' F' nb pq Fb wb hc hf hs s' (x.trans x') (fun s=>(hr s).mono x') h
 | cons k p ih=>
  intro c W Q nK n H ρ lI a w σ F nb pq Fb wb hc hf hs st x hr h
  simp only [Me]at h
  split at h
  ·rename_i c1 c2
   simp only [oK,au]at hc
   refine wp_seq (Go.wp_mono (ih c1 W _ nK n H ρ lI a w σ F nb pq Fb wb hc.1 hf hs st x hr h) fun e a' w' hq=> ?_)
   cases e with
   | normal=>
    obtain⟨ρ',oq,n',σ',F',H',hf',hs',st',x',hr',hv⟩:=hq
    exact wF hm c2 W Q oq n' H' ρ' lI a' w' σ' F' nb pq Fb wb hc.2 hf' hs' st' x' hr' hv
   | exit id=>exact hq
   | ret=>exact hq
   | goto l=>exact hq
   | panic ch=>exact hq
   | outgrown=>exact hq
  ·rename_i c1 c2
   simp only [oK,au]at hc
   refine wp_seq (Go.wp_mono (wF hm c1 W _ nK n H ρ lI a w σ F nb pq Fb wb hc.1 hf hs st x hr h) fun e a' w' hq=> ?_)
   cases e with
   | normal=>
    obtain⟨ρ',oq,n',σ',F',H',hf',hs',st',x',hr',hv⟩:=hq
    exact ih c2 W Q oq n' H' ρ' lI a' w' σ' F' nb pq Fb wb hc.2 hf' hs' st' x' hr' hv
   | exit id=>exact hq
   | ret=>exact hq
   | goto l=>exact hq
   | panic ch=>exact hq
   | outgrown=>exact hq
  ·rename_i id b
   refine wp_block (Go.wp_mono (ih b W _ nK n H ρ lI a w σ F nb pq Fb wb hc hf hs st x hr h) fun e a' w' hq=> ?_)
   cases e with
   | normal=>exact hq
   | exit j=>
    obtain⟨ρ',oq,n',σ',F',H',hf',hs',st',x',hr',hv⟩:=hq
    simp only [Rj]at hv
    simp only [Exit.inBlock]
    by_cases hj:j=id
    ·subst hj
     rw [iC,cond_true]at hv
     simp only [if_true]
     exact⟨ρ',oq,n',σ',F',H',hf',hs',st',x',hr',hv⟩
    ·have hb:Nat.beq j id=false:=by
      cases hb:Nat.beq j id with
      | false=>rfl
      | true=>exact absurd (aA hb) hj
     rw [hb,cond_false]at hv
     rw [if_neg hj]
     exact⟨ρ',oq,n',σ',F',H',hf',hs',st',x',hr',hv⟩
   | ret=>exact hq
   | goto l=>exact hq
   | panic ch=>exact hq
   | outgrown=>exact hq
  ·rename_i c c1 c2
   simp only [oK,au]at hc
   split at h
   ·rename_i b hb
    have rc:=mV hr c
    rw [hb]at rc
    refine wp_cond (t:=b) (by rw [hf.eval];exact rc.nV) ?_
    cases b with
    | true=>exact ih c1 W Q nK n H ρ lI a w σ F nb pq Fb wb hc.1 hf hs st x hr h
    | false=>exact wF hm c2 W Q nK n H ρ lI a w σ F nb pq Fb wb hc.2 hf hs st x hr h
   ·cases h
  ·rename_i c c1 c2
   simp only [oK,au]at hc
   split at h
   ·rename_i b hb
    have rc:=mV hr c
    rw [hb]at rc
    refine wp_cond (t:=b) (by rw [hf.eval];exact rc.nV) ?_
    cases b with
    | true=>exact wF hm c1 W Q nK n H ρ lI a w σ F nb pq Fb wb hc.1 hf hs st x hr h
    | false=>exact ih c2 W Q nK n H ρ lI a w σ F nb pq Fb wb hc.2 hf hs st x hr h
   ·cases h
  ·cases h
theorem Zy (p:List Nat){f:FuncId}{fn:Func}{c:Code}{args:List AV}{n:Nat}{H:lF}{R:AV->Nat->lF->Prop}(hf:P.funcs[f]? = some fn)(hb:fn.body=some c)(hm:P.follows .mixedOrders=true)
  (hok:(Nat.ble args.length fn.ntmps&&oK fn.ntmps (fun _=>true) c)=true) (h:Me P G p c (XE P G n fn R) (uw args) n H):mX P G f args n H R:=
 Un hf hb hok fun ρ a w σ F hfit st hr=>OH hm p c (fun _=>true) _ (uw args) n H ρ ρ a w σ F n σ F w (by simp only [au]at hok;exact hok.2) hfit (Same.refl _ _) st (Ext.refl _ _ _ _) hr h
end
end Go.Proofs.YtocckceefcmeaaaGreatDoor.Ax
namespace Go.Proofs.YtocckceefcmeaaaGreatDoor.Cl
open RowKit Vc Ax Go.Proofs.Tryz
attribute [local irreducible] loadVar storeVar Instr.indexAt Instr.index Instr.sliceAt Instr.makeSlice Instr.lookup Instr.mapUpdate Instr.range Instr.next Instr.entry Instr.makeMap Builtin.append_ Builtin.copy_ Builtin.len_ Builtin.min_ Builtin.max_ Builtin.cap_ Builtin.delete_ Builtin.clear_ convert binOp eqGuard Op.unary Calls
theorem Ac {α:Type}{sz:Nat}{enc:α->List FV}{c:α->List Value}(he : ∀x,enc x=(c x).map .v)(hk : ∀a,(c a).length=sz)(h1 : ∀a, ∀v∈c a,v.oneCell'=true)(F:Nat->Prop)(w:World)(l:List α):pz F w sz (l.map enc) (recs c l):=by
 refine⟨fun row hr=> ?_, ?_,fun v hv=> ?_,fun i j row a v hi hj hv=> ?_⟩
 ·obtain⟨x,_,rfl⟩:=dR.1 hr
  rw [he,ah,hk]
 ·rw [Kq hk,ah]
 ·obtain⟨x,_,hx⟩:=List.mem_flatMap.1 hv
  exact h1 x v hx
 ·rw [aP]at hi
  cases hx:l[i]? with
  | none=>rw [hx]at hi;cases hi
  | some x=>
   rw [hx]at hi
   injection hi with hi
   subst hi
   rw [he,aP]at hj
   cases hy:(c x)[j]? with
   | none=>rw [hy]at hj;cases hj
   | some y=>
    rw [hy]at hj
    injection hj with hj
    subst hj
    rw [UM hk hx hy]at hv
    injection hv with hv
    subst hv
    exact .v _
theorem CZ {P:Program}{G:Glob}{f:FuncId}{args:List AV}{α:Type}{sz E:Nat}{enc:α->List FV}{c:α->List Value}(he : ∀x,enc x=(c x).map .v)(hk : ∀a,(c a).length=sz)(h1 : ∀a, ∀v∈c a,v.oneCell'=true){l:List α}
  (h : ∀(w:World) (F:Nat->Prop) (σ:Nat->Ax.Loc) (vs:List Value),(∀b,F b->b<w.heap.size)->ng 0 σ F w args vs->y8 P f vs.toArray w fun v w'=> ∃oa cp,v = .slice oa l.length cp∧Vc.Own w' w.heap.size E sz oa l.length cp (recs c l)∧Below w.heap.size w w') :
  mX P G f args 0 [] (wJ E sz (l.map enc)):=by
 intro w σ F vs st r
 refine(h w F σ vs (fun b hb=>(st.oC b hb).1) r).mono fun v w' ⟨oa,cp,e,hO,hB⟩=> ?_
 subst e
 have hO0:Vc.Own w' 0 E sz oa l.length cp (recs c l):=⟨hO.1,hO.2.imp id fun⟨g,cap,cur,h1,_,h2⟩=>⟨g,cap,cur,h1,aB _,h2⟩⟩
 have hR:=Ac he hk h1 F w' l
 obtain⟨s2,x2⟩:=st.new (w':=w') (yT.rW hB) ⟨oa.map (·.block),l.length,cp,sz⟩ (fun g hg=>by
   cases oa with
   | none=>cases hg
   | some a=>exact hO.ge g hg) (.rows E sz (l.map enc)) (yw hO0 (by rw [ah]) hR)
 exact⟨_,1,_,F,_,⟨rfl,rfl,rfl⟩,s2,x2,BJ hO0⟩
theorem FW (b:By):recs (fun a:UInt8=> [Value.int .u8 (a.toNat:Int)]) b=nR b:=LV _ b
theorem Vr (x:Nat):Dg.tX x 8=be 8 x:=by
 have e : ∀k,Dg.wZ x k=bt (x/2^(8*k)):=fun k=>by
  unfold Dg.wZ
  apply UInt8.toNat_inj.1
  simp
 simp only [Dg.tX,e]
 rfl
theorem Vs (G:Glob)(b:By)(x:Nat)(hl:b.length<=1000000)(hx:x<18446744073709551616):mX Tryz.prog G 68 [bs b,uv x] 0 [] (wJ 5 1 ((b++be 8 x).map oh)):=by
 refine CZ (E:=5) (c:=fun a:UInt8=> [Value.int .u8 (a.toNat:Int)]) (fun _=>rfl) (fun _=>rfl) (fun _ v hv=>by simp at hv;subst hv;rfl) fun w F σ vs hF r=> ?_
 match vs,r with
 | [u,y],⟨ru,ry,_⟩=>
  rw [ry.nV]
  cases ru with
  | lst hu=>
   obtain⟨oa,c,rfl,hc,hn,hr⟩:=Ce hu hF
   refine(Ot oa b.length c b x w rfl hl hc hn hx hr).mono fun v w' ⟨oW,c',e,hO,hB⟩=> ?_
   rw [Vr]at hO
   refine⟨oW,c', ?_, ?_,hB⟩
   ·rw [e,ak,sU]
   ·rw [FW,ak,sU];exact hO
end Go.Proofs.YtocckceefcmeaaaGreatDoor.Cl
namespace Go.Proofs.YtocckceefcmeaaaGreatDoor.Ax
open RowKit Vc Go.Proofs.Tryz
structure Vt (p:Prop):Prop where
 go:p
theorem Vu (p:Prop):Vt p=p:=propext ⟨fun h=>h.go,fun h=>⟨h⟩⟩
def pre:List Nat->Plan->Plan
 | [],p=>p
 | i::r,p=> .take i (pre r p)
section
variable {P:Program}{G:Glob}{all:List Oper}{D:List Nat}{p:Plan}{n:Nat}{H:lF}{K:lK->Nat->lF->Prop}
theorem Ic : ∀(ts:List Nat) (ρ:lK),aD P G all D (pre ts p) ρ n H K=WZ P G all (sO D H) H ts ρ (fun ρ'=>aD P G all D p ρ' n H K)
 | [],ρ=>rfl
 | i::ts,ρ=>by
  simp only [pre,aD,WZ]
  cases all[i]? with
  | none=>rfl
  | some o=>simp only [Ic ts]
theorem Vw {ρ:lK}(ts:List Nat)(h:WZ P G all (sO D H) H ts ρ (fun ρ'=>Vt (aD P G all D p ρ' n H K))):aD P G all D (pre ts p) ρ n H K:=by
 rw [Ic]
 have e:(fun ρ'=>Vt (aD P G all D p ρ' n H K))=fun ρ'=>aD P G all D p ρ' n H K:=funext fun ρ'=>Vu _
 rw [e]at h
 exact h
theorem RI (ρ:lK)(s:Nat):tH ρ s (ρ s)=ρ:=by
 funext k
 unfold tH
 cases h:Nat.beq k s with
 | true=>rw [aA h];simp
 | false=>simp
theorem P5 {ρ:lK}(s:Nat){t:Bool}(hr:ρ s = .v (.bool t))(h1:t=true->aD P G all D p (tH ρ s (.v (.bool true))) n H K)(h2:t=false->aD P G all D p (tH ρ s (.v (.bool false))) n H K):aD P G all D p ρ n H K:=by
 have e:=RI ρ s
 rw [hr]at e
 cases t with
 | true=>have:=h1 rfl;rw [e]at this;exact this
 | false=>have:=h2 rfl;rw [e]at this;exact this
end
end Go.Proofs.YtocckceefcmeaaaGreatDoor.Ax
namespace Go.Proofs.YtocckceefcmeaaaGreatDoor.Cl
open RowKit Vc Ax Go.Proofs.Tryz
attribute [local irreducible] loadVar storeVar Instr.indexAt Instr.index Instr.sliceAt Instr.makeSlice Instr.lookup Instr.mapUpdate Instr.range Instr.next Instr.entry Instr.makeMap Builtin.append_ Builtin.copy_ Builtin.len_ Builtin.min_ Builtin.max_ Builtin.cap_ Builtin.delete_ Builtin.clear_ convert binOp eqGuard Op.unary Calls
theorem acO:(2:Int)^min (Int.toNat 1) IntKind.u64.bits=2:=by decide
def l8:List UInt8:= [0,1,2,2,3,3,3,3,4,4,4,4,4,4,4,4,5,5,5,5,5,5,5,5,5,5,5,5,5,5,5,5,6,6,6,6,6,6,6,6,6,6,6,6,6,6,6,6,6,6,6,6,6,6,6,6,6,6,6,6,6,6,6,6,7,7,7,7,7,7,7,7,7,7,7,7,7,7,7,7,7,7,7,7,7,7,7,7,7,7,7,7,7,7,7,7,7,7,7,7,7,7,7,7,7,7,7,7,7,7,7,7,7,7,7,7,7,7,7,7,7,7,7,7,7,7,7,7,8,8,8,8,8,8,8,8,8,8,8,8,8,8,8,8,8,8,8,8,8,8,8,8,8,8,8,8,8,8,8,8,8,8,8,8,8,8,8,8,8,8,8,8,8,8,8,8,8,8,8,8,8,8,8,8,8,8,8,8,8,8,8,8,8,8,8,8,8,8,8,8,8,8,8,8,8,8,8,8,8,8,8,8,8,8,8,8,8,8,8,8,8,8,8,8,8,8,8,8,8,8,8,8,8,8,8,8,8,8,8,8,8,8,8,8,8,8,8,8,8,8,8,8,8,8,8,8]
theorem aeD : ∀j,j<256->(l8.getD j 0).toNat=wid 8 j:=by decide
theorem Zz : ∀(f u:Nat),u<2^f->0<u->0<wid f u∧2^(wid f u-1)<=u:=by
 intro f
 induction f with
 | zero=>intro u h h0;simp at h;omega
 | succ f ih=>
  intro u h h0
  unfold wid
  rw [if_neg (by omega)]
  refine⟨by omega, ?_⟩
  rw [jS]
  rcases bP (u/2)with e|e
  ·rw [e]
   have:wid f 0=0:=by cases f<;>simp [wid]
   rw [this];simp;omega
  ·have:=ih (u/2) (by rw [gY]at h;omega) e
   obtain⟨w,hw⟩ : ∃w,wid f (u/2)=w+1:=⟨wid f (u/2)-1,by omega⟩
   rw [hw]at this ⊢
   rw [jS]at this
   rw [gY]
   omega
theorem Vx {f u w:Nat}(hu:u<2^f)(h1:u<2^w)(h2:w=0∨2^(w-1)<=u):wid f u=w:=by
 have h3:=Zh f u w h1
 rcases dJ (wid f u) w with h|h
 ·exfalso
  have h4:=(ql f u hu).1
  have h5:2^(wid f u)<=2^(w-1):=dw (by decide) (by omega)
  omega
 ·omega
theorem Vy {u:Nat}(hu:u<18446744073709551616)(s:Nat)(h8:u/2^s<256)(h1:s=0∨1<=u/2^s):wid 64 u=s+wid 8 (u/2^s):=by
 have h2:=ql 8 (u/2^s) h8
 refine Vx hu ?_ ?_
 ·rw [Nat.pow_add]
  have:=(kT (Nat.pow_pos (by decide):0<2^s)).1 h2.1
  rwa [fU]at this
 ·rcases bP (u/2^s)with h0|h0
  ·left;rw [h0];have:s=0:=by omega
   subst this;decide
  ·right
   have h3:=Zz 8 _ h8 h0
   obtain⟨w,hw⟩ : ∃w,wid 8 (u/2^s)=w+1:=⟨wid 8 (u/2^s)-1,by omega⟩
   rw [hw]at h3 ⊢
   rw [jS]at h3
   rw [show s+(w+1)-1=s+w by omega,Nat.pow_add]
   exact dN (jP _ h3.2) (Nat.mul_div_le u _)
theorem ZA (u s:Nat)(hs:s<=64):Int.fdiv (u:Int) (2^min (Int.toNat (s:Int)) IntKind.u64.bits)=((u/2^s:Nat):Int):=by
 have e:IntKind.u64.bits=64:=rfl
 rw [e,dK,dG hs,fD _ (by exact Int.pow_nonneg (by decide))]
 simp
theorem aeE (u:Nat):Int.fdiv (u:Int) (2^min (Int.toNat 32) IntKind.u64.bits)=((u/4294967296:Nat):Int):=ZA u 32 (by decide)
theorem aaP (u:Nat):Int.fdiv (u:Int) (2^min (Int.toNat 16) IntKind.u64.bits)=((u/65536:Nat):Int):=ZA u 16 (by decide)
theorem ZB (u:Nat):Int.fdiv (u:Int) (2^min (Int.toNat 8) IntKind.u64.bits)=((u/256:Nat):Int):=ZA u 8 (by decide)
theorem leaf {u v:Nat}(hu:u<18446744073709551616)(s:Nat)(hv:v=u/2^s)(h8:v<256)(h1:s=0∨1<=v):wid 64 u=s+wid 8 v:=by
 subst hv;exact Vy hu s h8 h1
theorem C9 {j:Nat}(h:j<256):IntKind.i64.wrap (((l8.getD j 0).toNat:Nat):Int)=(wid 8 j:Int):=by
 rw [aeD j h]
 have:=(ql 8 j h).2
 exact IntWalk.i64_in _ (by omega)
theorem Vz (u:Nat)(hu:u<18446744073709551616):mX Tryz.prog GC 199 [uv u] 0 [] (Is (iv (wid 64 u))):=by
 refine lH func199 rfl mixed (by kernel_rfl) ?_
 refine lD (fun h1=> ?_) (fun h1=> ?_)<;>(simp at h1;conv=>whnf)
 ·refine lG.mk (by decide) ?_
  rw [aeE]
  refine lD (fun h2=> ?_) (fun h2=> ?_)<;>(simp at h2;conv=>whnf)
  refine lG.mk (by decide) ?_
  rw [aaP]
  refine lU.i64 (by omega) ?_
  refine lD (fun h3=> ?_) (fun h3=> ?_)<;>(simp at h3;conv=>whnf)
  ·refine lG.mk (by decide) ?_
   rw [ZB]
   refine lU.i64 (by omega) ?_
   refine lU.to (vJ (by omega)) ?_
   refine ni.mk' _ rfl (by show _<256;omega) ?_
   refine lU.to (C9 (by omega)) ?_
   refine lU.to (y:=(wid 64 u:Int)) (by
    have hw:=ql 64 u hu
    have:=leaf (v:=u/4294967296/65536/256) hu 56 (by first|rfl|(show _=u/72057594037927936;omega)) (by omega) (by omega)
    rw [IntWalk.i64_in _ (by omega)];omega) ?_
   exact mJ [] (by repeat' (first|rfl|trivial|apply And.intro))
  ·skip
   refine lU.to (vJ (by omega)) ?_
   refine ni.mk' _ rfl (by show _<256;omega) ?_
   refine lU.to (C9 (by omega)) ?_
   refine lU.to (y:=(wid 64 u:Int)) (by
    have hw:=ql 64 u hu
    have:=leaf (v:=u/4294967296/65536) hu 48 (by first|rfl|(show _=u/281474976710656;omega)) (by omega) (by omega)
    rw [IntWalk.i64_in _ (by omega)];omega) ?_
   exact mJ [] (by repeat' (first|rfl|trivial|apply And.intro))
  refine lD (fun h3=> ?_) (fun h3=> ?_)<;>(simp at h3;conv=>whnf)
  ·refine lG.mk (by decide) ?_
   rw [ZB]
   refine lU.i64 (by omega) ?_
   refine lU.to (vJ (by omega)) ?_
   refine ni.mk' _ rfl (by show _<256;omega) ?_
   refine lU.to (C9 (by omega)) ?_
   refine lU.to (y:=(wid 64 u:Int)) (by
    have hw:=ql 64 u hu
    have:=leaf (v:=u/4294967296/256) hu 40 (by first|rfl|(show _=u/1099511627776;omega)) (by omega) (by omega)
    rw [IntWalk.i64_in _ (by omega)];omega) ?_
   exact mJ [] (by repeat' (first|rfl|trivial|apply And.intro))
  ·skip
   refine lU.to (vJ (by omega)) ?_
   refine ni.mk' _ rfl (by show _<256;omega) ?_
   refine lU.to (C9 (by omega)) ?_
   refine lU.to (y:=(wid 64 u:Int)) (by
    have hw:=ql 64 u hu
    have:=leaf (v:=u/4294967296) hu 32 (by first|rfl|(show _=u/4294967296;omega)) (by omega) (by omega)
    rw [IntWalk.i64_in _ (by omega)];omega) ?_
   exact mJ [] (by repeat' (first|rfl|trivial|apply And.intro))
 ·refine lD (fun h2=> ?_) (fun h2=> ?_)<;>(simp at h2;conv=>whnf)
  refine lG.mk (by decide) ?_
  rw [aaP]
  refine lU.i64 (by omega) ?_
  refine lD (fun h3=> ?_) (fun h3=> ?_)<;>(simp at h3;conv=>whnf)
  ·refine lG.mk (by decide) ?_
   rw [ZB]
   refine lU.i64 (by omega) ?_
   refine lU.to (vJ (by omega)) ?_
   refine ni.mk' _ rfl (by show _<256;omega) ?_
   refine lU.to (C9 (by omega)) ?_
   refine lU.to (y:=(wid 64 u:Int)) (by
    have hw:=ql 64 u hu
    have:=leaf (v:=u/65536/256) hu 24 (by first|rfl|(show _=u/16777216;omega)) (by omega) (by omega)
    rw [IntWalk.i64_in _ (by omega)];omega) ?_
   exact mJ [] (by repeat' (first|rfl|trivial|apply And.intro))
  ·skip
   refine lU.to (vJ (by omega)) ?_
   refine ni.mk' _ rfl (by show _<256;omega) ?_
   refine lU.to (C9 (by omega)) ?_
   refine lU.to (y:=(wid 64 u:Int)) (by
    have hw:=ql 64 u hu
    have:=leaf (v:=u/65536) hu 16 (by first|rfl|(show _=u/65536;omega)) (by omega) (by omega)
    rw [IntWalk.i64_in _ (by omega)];omega) ?_
   exact mJ [] (by repeat' (first|rfl|trivial|apply And.intro))
  refine lD (fun h3=> ?_) (fun h3=> ?_)<;>(simp at h3;conv=>whnf)
  ·refine lG.mk (by decide) ?_
   rw [ZB]
   refine lU.i64 (by omega) ?_
   refine lU.to (vJ (by omega)) ?_
   refine ni.mk' _ rfl (by show _<256;omega) ?_
   refine lU.to (C9 (by omega)) ?_
   refine lU.to (y:=(wid 64 u:Int)) (by
    have hw:=ql 64 u hu
    have:=leaf (v:=u/256) hu 8 (by first|rfl|(show _=u/256;omega)) (by omega) (by omega)
    rw [IntWalk.i64_in _ (by omega)];omega) ?_
   exact mJ [] (by repeat' (first|rfl|trivial|apply And.intro))
  ·skip
   refine lU.to (vJ (by omega)) ?_
   refine ni.mk' _ rfl (by show _<256;omega) ?_
   refine lU.to (C9 (by omega)) ?_
   refine lU.to (y:=(wid 64 u:Int)) (by
    have hw:=ql 64 u hu
    have:=leaf (v:=u) hu 0 (by first|rfl|(show _=u/1;omega)) (by omega) (by omega)
    rw [IntWalk.i64_in _ (by omega)];omega) ?_
   exact mJ [] (by repeat' (first|rfl|trivial|apply And.intro))
theorem VA {f:FuncId}{l:List Value}{x y:Value}(h : ∀w,y8 Tryz.prog f l.toArray w fun v w'=>v = .tuple #[x,y]∧Below w.heap.size w w'):mX Tryz.prog GC f (l.map .v) 0 [] (Is (.mW [.v x, .v y])):=by
 intro w σ F vs st r
 refine(Fa (G:=GC) (x:= .tuple #[x,y]) (fun w _=>h w) w σ F vs st r).mono fun v w' ⟨a,n',σ',F',H',⟨e1,e2,e3⟩,s,x',ra⟩=> ?_
 subst e1;subst e2;subst e3
 refine⟨.mW [.v x, .v y],0,σ',F',[],⟨rfl,rfl,rfl⟩,s,x', ?_⟩
 rw [ra.nV]
 exact ng.mW («as» := [.v x, .v y]) (vs:= [x,y]) ⟨.v _, .v _,trivial⟩
theorem acP (b more:By)(hb:b.length+more.length<=4000000):mX Tryz.prog GC 65 [bs b,bs more] 0 [] (wJ 5 1 ((b++more).map oh)):=by
 refine lH func65 rfl mixed (by kernel_rfl) ?_
 conv=>whnf
 (repeat' ((first|refine And.intro ?_ ?_|(apply lD<;>intro h<;>try simp only [bl]at h)|refine lU.i64 (by first|omega|(simp only [ln]at *;omega)) ?_|refine ni.mk' _ rfl (by first|omega|(simp only [ln]at *;omega)) ?_|refine mG.lS (by assumption) ?_|refine mG.set (by first|omega|(simp only [ln]at *;omega)) ?_|refine mG.map (by first|omega|(simp only [ln]at *;omega)) ?_|refine lG.mk (by first|decide|omega) ?_|refine tY.mk (by kernel_rfl) rfl rfl ?_|refine lG.mk (lM (by first|omega|(simp only [ln]at *;omega)) (by kernel_rfl)) ?_)<;>conv=>whnf))
 refine NR.cap (qU:=1) 0 (b.length+more.length) rfl (by rw [ah,ah];omega) (aB _) (by unfold maxLen;omega) ?_
 conv=>whnf
 (repeat' ((first|refine And.intro ?_ ?_|(apply lD<;>intro h<;>try simp only [bl]at h)|refine lU.i64 (by first|omega|(simp only [ln]at *;omega)) ?_|refine ni.mk' _ rfl (by first|omega|(simp only [ln]at *;omega)) ?_|refine mG.lS (by assumption) ?_|refine mG.set (by first|omega|(simp only [ln]at *;omega)) ?_|refine mG.map (by first|omega|(simp only [ln]at *;omega)) ?_|refine lG.mk (by first|decide|omega) ?_|refine tY.mk (by kernel_rfl) rfl rfl ?_|refine lG.mk (lM (by first|omega|(simp only [ln]at *;omega)) (by kernel_rfl)) ?_)<;>conv=>whnf))
 rw [aJ]
 exact lW (.own 0) 1 _ [(0, .lab 2)] [] ⟨rfl,rfl,rfl⟩ rfl (by trivial) (by trivial)
theorem aeF:(2:Int)^min (Int.toNat 7) IntKind.u64.bits=128:=by decide
theorem aeG:(2:Int)^min (Int.toNat 63) IntKind.u64.bits=9223372036854775808:=by decide
def GI (f u:Nat)(out:By):Prop:=u<2*128^f∧f<=9∧out.length+f=9
theorem GI.next {f u:Nat}{out:By}(h:GI f u out)(hu:128<=u) : ∃g,f=g+1∧GI g (u/128) (out++ [UInt8.ofNat (128+u%128)])∧out++grp f u=(out++ [UInt8.ofNat (128+u%128)])++grp g (u/128):=by
 obtain⟨h1,h2,h3⟩:=h
 cases f with
 | zero=>simp at h1;omega
 | succ g=>
  refine⟨g,rfl,⟨?_,by omega,by simp;omega⟩, ?_⟩
  ·rw [zB]at h1;omega
  ·rw [show grp (g+1) u=UInt8.ofNat (128+u%128)::grp g (u/128) by unfold grp;rw [if_neg (by omega)];cases g<;>rfl];simp
theorem MB {f u:Nat}(h:u<128):grp f u = [UInt8.ofNat u]:=by cases f with
 | zero=>rfl
 | succ f=>unfold grp;rw [if_pos h]
theorem GI.start {n:Int}(hn:I64 n):GI 9 (zu n) []∧ []++grp 9 (zu n)=num n:=by
 have hz:=UY hn
 have e:(128:Nat)^9=9223372036854775808:=by decide
 exact⟨⟨by rw [e];omega,ay _,rfl⟩,rfl⟩
structure GX where
 f:Nat
 u:Nat
 out:By
theorem Ar (out:By)(c:UInt8):(out++ [c]).map oh=out.map oh++ [[FV.v (.int .u8 (c.toNat:Int))]]:=by rw [aJ];rfl
theorem P6 (n:Int)(hn:I64 n):mX Tryz.prog GC 66 [iv n] 0 [] (wJ 5 1 ((num n).map oh)):=by
 have hz:=UY hn
 have aeH:mD .xor .u64 (IntKind.u64.wrap (IntKind.u64.wrap n*2^min (Int.toNat 1) IntKind.u64.bits)) (IntKind.u64.wrap (n.fdiv (2^min (Int.toNat 63) IntKind.u64.bits)))=(zu n:Int):=by
  rw [acO,aeG];exact Zd n hn
 refine lH func66 rfl mixed (by kernel_rfl) ?_
 refine lU.to rfl ?_
 conv=>whnf
 (repeat' ((first|refine And.intro ?_ ?_|(apply lD<;>intro h<;>try simp only [bl]at h)|refine lU.i64 (by first|omega|(simp only [ln]at *;omega)) ?_|refine ni.mk' _ rfl (by first|omega|(simp only [ln]at *;omega)) ?_|refine mG.lS (by assumption) ?_|refine mG.set (by first|omega|(simp only [ln]at *;omega)) ?_|refine mG.map (by first|omega|(simp only [ln]at *;omega)) ?_|refine lG.mk (by first|decide|omega) ?_|refine tY.mk (by kernel_rfl) rfl rfl ?_|refine lG.mk (lM (by first|omega|(simp only [ln]at *;omega)) (by kernel_rfl)) ?_)<;>conv=>whnf))
 refine lU.to rfl ?_
 conv=>whnf
 (repeat' ((first|refine And.intro ?_ ?_|(apply lD<;>intro h<;>try simp only [bl]at h)|refine lU.i64 (by first|omega|(simp only [ln]at *;omega)) ?_|refine ni.mk' _ rfl (by first|omega|(simp only [ln]at *;omega)) ?_|refine mG.lS (by assumption) ?_|refine mG.set (by first|omega|(simp only [ln]at *;omega)) ?_|refine mG.map (by first|omega|(simp only [ln]at *;omega)) ?_|refine lG.mk (by first|decide|omega) ?_|refine tY.mk (by kernel_rfl) rfl rfl ?_|refine lG.mk (lM (by first|omega|(simp only [ln]at *;omega)) (by kernel_rfl)) ?_)<;>conv=>whnf))
 refine lU.to rfl ?_
 refine mO abS 1 [3,4] (fun x:GX=> [(3,uv x.u),(4, .own 0)]) (fun x=> [(0, .rows 5 1 (x.out.map oh))]) (fun x=>GI x.f x.u x.out∧x.out++grp x.f x.u=num n) (fun x=>x.f) [(0, .nil)] [] ⟨9,zu n,[]⟩ (by kernel_rfl) (fun _=>rfl) rfl (GI.start hn) ⟨rfl,trivial⟩ ⟨congrArg (Value.int .u64) aeH,trivial,trivial⟩ ?_
 rintro⟨f,u,out⟩ ⟨hg,hout⟩
 have hlen:=hg.2.2
 apply lD<;>intro h
 ·have hu:128<=u:=by simp at h;omega
  obtain⟨g,rfl,hg2,ho2⟩:=hg.next hu
  refine lU.to rfl ?_
  conv=>whnf
  (repeat' ((first|refine And.intro ?_ ?_|(apply lD<;>intro h<;>try simp only [bl]at h)|refine lU.i64 (by first|omega|(simp only [ln]at *;omega)) ?_|refine ni.mk' _ rfl (by first|omega|(simp only [ln]at *;omega)) ?_|refine mG.lS (by assumption) ?_|refine mG.set (by first|omega|(simp only [ln]at *;omega)) ?_|refine mG.map (by first|omega|(simp only [ln]at *;omega)) ?_|refine lG.mk (by first|decide|omega) ?_|refine tY.mk (by kernel_rfl) rfl rfl ?_|refine lG.mk (lM (by first|omega|(simp only [ln]at *;omega)) (by kernel_rfl)) ?_)<;>conv=>whnf))
  refine lX ⟨g,u/128,out++ [UInt8.ofNat (128+u%128)]⟩ [(0, .lab 2)] [] rfl (jJ g) ⟨hg2,by rw [<-ho2];exact hout⟩ ?_ ?_
  ·refine⟨⟨rfl,rfl, ?_⟩,trivial⟩
   rw [Ar, <-U0]
  ·refine⟨congrArg (Value.int .u64) (by rw [aeF];exact aev u), ?_⟩
   trivial
 ·have hu:u<128:=by simp at h;omega
  refine lU.to (Ia hu) ?_
  conv=>whnf
  (repeat' ((first|refine And.intro ?_ ?_|(apply lD<;>intro h<;>try simp only [bl]at h)|refine lU.i64 (by first|omega|(simp only [ln]at *;omega)) ?_|refine ni.mk' _ rfl (by first|omega|(simp only [ln]at *;omega)) ?_|refine mG.lS (by assumption) ?_|refine mG.set (by first|omega|(simp only [ln]at *;omega)) ?_|refine mG.map (by first|omega|(simp only [ln]at *;omega)) ?_|refine lG.mk (by first|decide|omega) ?_|refine tY.mk (by kernel_rfl) rfl rfl ?_|refine lG.mk (lM (by first|omega|(simp only [ln]at *;omega)) (by kernel_rfl)) ?_)<;>conv=>whnf))
  refine lW (.own 0) 1 _ [(0, .lab 2)] [] ⟨rfl,rfl,rfl⟩ rfl ⟨⟨rfl,rfl, ?_⟩,trivial⟩ (by trivial)
  rw [<-hout,MB hu,Ar]
theorem qx (b:By)(n:Int)(hn:I64 n)(hb:b.length<=3999990):mX Tryz.prog GC 28 [bs b,iv n] 0 [] (wJ 5 1 ((b++num n).map oh)):=by
 have hl:=(mP n).2
 refine lH func28 rfl mixed (by kernel_rfl) ?_
 refine nI [] (by kernel_rfl) (P6 n hn) (by trivial) ?_
 refine nI [0] (by kernel_rfl) (acP b (num n) (by omega)) (by trivial) ?_
 exact lW (.own 0) 1 _ [(0, .lab 1)] [] ⟨rfl,rfl,rfl⟩ rfl (by trivial) (by trivial)
theorem VB {u:Nat}(hu:u<18446744073709551616):IntKind.u8.wrap (mD .and .u64 (u:Int) 127)=((u%128:Nat):Int):=by
 have e:(127:Int)=((127:Nat):Int):=rfl
 rw [e,FD u 127 hu (by decide),UZ,vJ (by omega)]
theorem ZC {u:Nat} : mD .or .u8 ((u%128:Nat):Int) 128=((UInt8.ofNat (128+u%128)).toNat:Int):=by
 have e2:(128:Int)=((128:Nat):Int):=rfl
 rw [e2,Jw _ _ (by omega) (by omega),aaN (by omega),toNat_ofNat (by omega)]
 congr 1
 omega
theorem GI.u64 {f u:Nat}{out:By}(h:GI f u out):u<18446744073709551616:=by
 have e:(128:Nat)^9=9223372036854775808:=by decide
 have:=dw (show 0<128 by decide) h.2.1
 have:=h.1
 omega
theorem acQ (n:Int)(hn:I64 n):(n<0->mD .xor .u64 (bif IntKind.u64.signed then -1 else IntKind.u64.max) (IntKind.u64.wrap (IntKind.u64.wrap n*2^min (Int.toNat 1) IntKind.u64.bits))=(zu n:Int))∧(¬n<0->IntKind.u64.wrap (IntKind.u64.wrap n*2^min (Int.toNat 1) IntKind.u64.bits)=(zu n:Int)):=by
 have e:IntKind.u64.bits=64:=rfl
 have s:IntKind.u64.signed=false:=rfl
 have hm:IntKind.u64.max=((18446744073709551615:Nat):Int):=by decide
 rw [acO]
 unfold I64 at hn
 unfold zu
 constructor
 ·intro h
  have e1:IntKind.u64.wrap (IntKind.u64.wrap n*2)=((18446744073709551616 -(-2*n).toNat:Nat):Int):=by
   simp only [IntKind.wrap,e,s,fE,aZ,if_false];omega
  rw [if_pos h,e1,s,cond_false,hm,Aj _ _ (by omega) (by omega),Nat.xor_comm,FH (by omega)]
  omega
 ·intro h
  rw [if_neg h]
  simp only [IntKind.wrap,e,s,fE,aZ,if_false];omega
theorem aeI (b:By)(n:Int)(hn:I64 n)(hb:b.length<=3999990):mX Tryz.prog GC 30 [bs b,iv n] 0 [] (wJ 5 1 ((b++num n).map oh)):=by
 have hd:=acQ n hn
 refine lH func30 rfl mixed (by kernel_rfl) ?_
 conv=>whnf
 (repeat' ((first|refine And.intro ?_ ?_|(apply lD<;>intro h<;>try simp only [bl]at h)|refine lU.i64 (by first|omega|(simp only [ln]at *;omega)) ?_|refine ni.mk' _ rfl (by first|omega|(simp only [ln]at *;omega)) ?_|refine mG.lS (by assumption) ?_|refine mG.set (by first|omega|(simp only [ln]at *;omega)) ?_|refine mG.map (by first|omega|(simp only [ln]at *;omega)) ?_|refine lG.mk (by first|decide|omega) ?_|refine tY.mk (by kernel_rfl) rfl rfl ?_|refine lG.mk (lM (by first|omega|(simp only [ln]at *;omega)) (by kernel_rfl)) ?_)<;>conv=>whnf))
 refine lU.to rfl ?_
 refine lG.mk (by decide) ?_
 refine lU.to rfl ?_
 apply lD<;>intro h
 all_goals
  have hu0:=(by simp at h;first|exact hd.1 (by omega)|exact hd.2 (by omega))
  refine mO abI 2 [0,5] (fun x:GX=> [(0, .own 1),(5,uv x.u)]) (fun x=> [(1, .rows 5 1 ((b++x.out).map oh))]) (fun x=>GI x.f x.u x.out∧x.out++grp x.f x.u=num n) (fun x=>x.f) [(1, .lab 0)] [] ⟨9,zu n,[]⟩ (by kernel_rfl) (fun _=>rfl) rfl (GI.start hn) ⟨⟨rfl,rfl,by rw [bZ]⟩,trivial⟩ ⟨rfl,congrArg (Value.int .u64) hu0,trivial⟩ ?_
  rintro⟨f,u,out⟩ ⟨hg,hout⟩
  have hlen:=hg.2.2
  have h64:=hg.u64
  apply lD<;>intro h
  ·have hu:128<=u:=by simp at h;omega
   obtain⟨g,rfl,hg2,ho2⟩:=hg.next hu
   refine lU.to (VB h64) ?_
   conv=>whnf
   (repeat' ((first|refine And.intro ?_ ?_|(apply lD<;>intro h<;>try simp only [bl]at h)|refine lU.i64 (by first|omega|(simp only [ln]at *;omega)) ?_|refine ni.mk' _ rfl (by first|omega|(simp only [ln]at *;omega)) ?_|refine mG.lS (by assumption) ?_|refine mG.set (by first|omega|(simp only [ln]at *;omega)) ?_|refine mG.map (by first|omega|(simp only [ln]at *;omega)) ?_|refine lG.mk (by first|decide|omega) ?_|refine tY.mk (by kernel_rfl) rfl rfl ?_|refine lG.mk (lM (by first|omega|(simp only [ln]at *;omega)) (by kernel_rfl)) ?_)<;>conv=>whnf))
   refine lX ⟨g,u/128,out++ [UInt8.ofNat (128+u%128)]⟩ [(1, .lab 3)] [] rfl (jJ g) ⟨hg2,by rw [<-ho2];exact hout⟩ ?_ ?_
   ·refine⟨⟨rfl,rfl, ?_⟩,trivial⟩
    rw [<-aO,Ar, <-ZC]
   ·refine⟨rfl,congrArg (Value.int .u64) (by rw [aeF];exact aev u),trivial⟩
  ·have hu:u<128:=by simp at h;omega
   refine lU.to (Ia hu) ?_
   conv=>whnf
   (repeat' ((first|refine And.intro ?_ ?_|(apply lD<;>intro h<;>try simp only [bl]at h)|refine lU.i64 (by first|omega|(simp only [ln]at *;omega)) ?_|refine ni.mk' _ rfl (by first|omega|(simp only [ln]at *;omega)) ?_|refine mG.lS (by assumption) ?_|refine mG.set (by first|omega|(simp only [ln]at *;omega)) ?_|refine mG.map (by first|omega|(simp only [ln]at *;omega)) ?_|refine lG.mk (by first|decide|omega) ?_|refine tY.mk (by kernel_rfl) rfl rfl ?_|refine lG.mk (lM (by first|omega|(simp only [ln]at *;omega)) (by kernel_rfl)) ?_)<;>conv=>whnf))
   refine lW (.own 0) 1 _ [(0, .lab 3)] [] ⟨rfl,rfl,rfl⟩ rfl ⟨⟨rfl,rfl, ?_⟩,trivial⟩ (by trivial)
   rw [<-hout,MB hu, <-aO,Ar]
structure LX where
 k:Nat
 p:Int
 out:By
theorem ZE (l:Li)(x:Int):b1 (l++ [x])=b1 l++num x:=by simp [b1]
theorem ZF {l:Li}{k:Nat}(h:k<l.length):b1 (l.take (k+1))=b1 (l.take k)++num l[k]:=by rw [aH h,ZE]
theorem MC (l:Li)(k:Nat):(b1 (l.take k)).length<=10*l.length:=by
 have:=FN (l.take k);rw [aK]at this;omega
theorem Ie (b:By)(l:Li)(hl:nY l)(hs:b.length+10*l.length<=3000000):mX Tryz.prog GC 176 [bs b,li l] 0 [] (Is (bs (b++b1 l))):=by
 refine lH func176 rfl mixed (by kernel_rfl) ?_
 refine mO Ym 0 [0,9] (fun k:Nat=> [(0,bs (b++b1 (l.take k))),(9,iv k)]) (fun _=> []) (fun k=>k<=l.length) (fun k=>l.length-k) [] [] 0 (by kernel_rfl) (fun _=>rfl) rfl (aB _) trivial ⟨⟨rfl,by simp [b1]⟩,rfl,trivial⟩ ?_
 rintro k hk
 have hbl:=MC l k
 refine lD (fun hlt=> ?_) (fun hge=> ?_)
 ·have hlt:k<l.length:=by simpa using hlt
  conv=>whnf
  (repeat' ((first|refine And.intro ?_ ?_|(apply lD<;>intro h<;>try simp only [bl]at h)|refine lU.i64 (by first|omega|(simp only [ln]at *;omega)) ?_|refine ni.mk' _ rfl (by first|omega|(simp only [ln]at *;omega)) ?_|refine mG.lS (by assumption) ?_|refine mG.set (by first|omega|(simp only [ln]at *;omega)) ?_|refine mG.map (by first|omega|(simp only [ln]at *;omega)) ?_|refine lG.mk (by first|decide|omega) ?_|refine tY.mk (by kernel_rfl) rfl rfl ?_|refine lG.mk (lM (by first|omega|(simp only [ln]at *;omega)) (by kernel_rfl)) ?_)<;>conv=>whnf))
  refine nI [] (by kernel_rfl) (qx (b++b1 (l.take k)) l[k] (hl _ (bD hlt)) (by rw [ak];omega)) (by trivial) ?_
  conv=>whnf
  (repeat' ((first|refine And.intro ?_ ?_|(apply lD<;>intro h<;>try simp only [bl]at h)|refine lU.i64 (by first|omega|(simp only [ln]at *;omega)) ?_|refine ni.mk' _ rfl (by first|omega|(simp only [ln]at *;omega)) ?_|refine mG.lS (by assumption) ?_|refine mG.set (by first|omega|(simp only [ln]at *;omega)) ?_|refine mG.map (by first|omega|(simp only [ln]at *;omega)) ?_|refine lG.mk (by first|decide|omega) ?_|refine tY.mk (by kernel_rfl) rfl rfl ?_|refine lG.mk (lM (by first|omega|(simp only [ln]at *;omega)) (by kernel_rfl)) ?_)<;>conv=>whnf))
  refine lX (k+1) [] [0] rfl (by show l.length -(k+1)<l.length-k;omega) hlt trivial ⟨⟨rfl,rfl,by rw [ZF hlt,aO]⟩,rfl,trivial⟩
 ·have:k=l.length:=by simp at hge;omega
  subst this
  conv=>whnf
  rw [bn]
  exact mJ [] (by trivial)
theorem drop_cons {l:Li}{k:Nat}(h:k<l.length):l.drop k=l[k]::l.drop (k+1):=dM h
theorem RJ (b:By)(l:Li)(hs:b.length+10*l.length<=3000000):mX Tryz.prog GC 180 [bs b,li l] 0 [] (Is (bs (b++b3 l))):=by
 refine lH func180 rfl mixed (by kernel_rfl) ?_
 refine mO Yr 0 [0,5,10] (fun x:LX=> [(0,bs x.out),(5,iv x.p),(10,iv x.k)]) (fun _=> []) (fun x=>x.k<=l.length∧x.out++st x.p (l.drop x.k)=b++b3 l) (fun x=>l.length-x.k) [] [] ⟨0,0,b⟩ (by kernel_rfl) (fun _=>rfl) rfl ⟨aB _,rfl⟩ trivial ⟨⟨rfl,rfl⟩,rfl,rfl,trivial⟩ ?_
 rintro⟨k,p,out⟩ ⟨hk,ho⟩
 change k<=l.length at hk
 change out++st p (l.drop k)=b++b3 l at ho
 have hbl:=st_len l 0
 have hol:out.length<=b.length+10*l.length:=by have:=congrArg List.length ho;simp only [ak,b3]at this;omega
 refine lD (fun hlt=> ?_) (fun hge=> ?_)
 ·have hlt:k<l.length:=by simp at hlt;omega
  simp only [drop_cons hlt,st]at ho
  conv=>whnf
  (repeat' ((first|refine And.intro ?_ ?_|(apply lD<;>intro h<;>try simp only [bl]at h)|refine lU.i64 (by first|omega|(simp only [ln]at *;omega)) ?_|refine ni.mk' _ rfl (by first|omega|(simp only [ln]at *;omega)) ?_|refine mG.lS (by assumption) ?_|refine mG.set (by first|omega|(simp only [ln]at *;omega)) ?_|refine mG.map (by first|omega|(simp only [ln]at *;omega)) ?_|refine lG.mk (by first|decide|omega) ?_|refine tY.mk (by kernel_rfl) rfl rfl ?_|refine lG.mk (lM (by first|omega|(simp only [ln]at *;omega)) (by kernel_rfl)) ?_)<;>conv=>whnf))
  refine lU.to rfl ?_
  refine nI [] (by kernel_rfl) (qx out (FK (l[k]-p)) (PY _) (by omega)) (by trivial) ?_
  conv=>whnf
  (repeat' ((first|refine And.intro ?_ ?_|(apply lD<;>intro h<;>try simp only [bl]at h)|refine lU.i64 (by first|omega|(simp only [ln]at *;omega)) ?_|refine ni.mk' _ rfl (by first|omega|(simp only [ln]at *;omega)) ?_|refine mG.lS (by assumption) ?_|refine mG.set (by first|omega|(simp only [ln]at *;omega)) ?_|refine mG.map (by first|omega|(simp only [ln]at *;omega)) ?_|refine lG.mk (by first|decide|omega) ?_|refine tY.mk (by kernel_rfl) rfl rfl ?_|refine lG.mk (lM (by first|omega|(simp only [ln]at *;omega)) (by kernel_rfl)) ?_)<;>conv=>whnf))
  refine lX ⟨k+1,l[k],out++num (FK (l[k]-p))⟩ [] [0] rfl (by show l.length -(k+1)<l.length-k;omega) ⟨hlt,by rw [<-ho,aO]⟩ trivial ⟨⟨rfl,rfl,rfl⟩,rfl,rfl,trivial⟩
 ·have:k=l.length:=by simp at hge;omega
  subst this
  simp only [jf,st,bZ]at ho
  conv=>whnf
  rw [<-ho]
  exact mJ [] (by trivial)
def RP (l:Li)(i k:Nat):Prop:=i<=k∧k<=l.length∧l.drop i=List.replicate (k-i) (l.getD i 0)++l.drop k
theorem RP.next {l:Li}{i k:Nat}(h:RP l i k)(hk:k<l.length)(e:l[k]=l.getD i 0):RP l i (k+1):=by
 obtain⟨h1,h2,h3⟩:=h
 refine⟨by omega,hk, ?_⟩
 rw [h3,drop_cons hk,e,show k+1-i=(k-i)+1 by omega,jL]
 simp
theorem RP.fin {l:Li}{i k:Nat}(h:RP l i k)(hi:i<l.length)(e : ∀hk:k<l.length,l[k]≠l.getD i 0):i<k∧b2 (l.drop i)=num (l.getD i 0)++(num ((k-i:Nat):Int)++b2 (l.drop k)):=by
 obtain⟨h1,h2,h3⟩:=h
 have hlt:i<k:=by
  rcases dJ i k with h|h
  ·exact h
  ·have:k=i:=by omega
   subst this
   exact absurd (by rw [aW,aj hi];rfl) (e hi)
 refine⟨hlt, ?_⟩
 obtain⟨m,hm⟩ : ∃m,k-i=m+1:=⟨k-i-1,by omega⟩
 rw [h3,hm]
 unfold b2
 rw [acz _ m _ (by
  rcases dJ k l.length with h|h
  ·rw [drop_cons h];intro e2;exact e h (by simpa [aj h]using e2)
  ·rw [iT h];simp)]
 simp [enP]
theorem VD (b:By)(l:Li)(hl:nY l)(hs:b.length+20*l.length<=3000000):mX Tryz.prog GC 178 [bs b,li l] 0 [] (Is (bs (b++b2 l))):=by
 have hbl:=U4 l
 refine lH func178 rfl mixed (by kernel_rfl) ?_
 refine mO Yo 0 [0,5] (fun x:LX=> [(0,bs x.out),(5,iv x.k)]) (fun _=> []) (fun x=>x.k<=l.length∧x.out++b2 (l.drop x.k)=b++b2 l) (fun x=>l.length-x.k) [] [] ⟨0,0,b⟩ (by kernel_rfl) (fun _=>rfl) rfl ⟨aB _,rfl⟩ trivial ⟨⟨rfl,rfl⟩,rfl,trivial⟩ ?_
 rintro⟨i,p,out⟩ ⟨hi,ho⟩
 change i<=l.length at hi
 change out++b2 (l.drop i)=b++b2 l at ho
 have hol:out.length<=b.length+20*l.length:=by have:=congrArg List.length ho;simp only [ak]at this;omega
 conv=>whnf
 (repeat' ((first|refine And.intro ?_ ?_|(apply lD<;>intro h<;>try simp only [bl]at h)|refine lU.i64 (by first|omega|(simp only [ln]at *;omega)) ?_|refine ni.mk' _ rfl (by first|omega|(simp only [ln]at *;omega)) ?_|refine mG.lS (by assumption) ?_|refine mG.set (by first|omega|(simp only [ln]at *;omega)) ?_|refine mG.map (by first|omega|(simp only [ln]at *;omega)) ?_|refine lG.mk (by first|decide|omega) ?_|refine tY.mk (by kernel_rfl) rfl rfl ?_|refine lG.mk (lM (by first|omega|(simp only [ln]at *;omega)) (by kernel_rfl)) ?_)<;>conv=>whnf))
 ·have hlt:i<l.length:=by simp at h;omega
  refine mO Yp 0 [6] (fun k:Nat=> [(6,iv k)]) (fun _=> []) (fun k=>RP l i k) (fun k=>l.length-k) [] [] i (by kernel_rfl) (fun _=>rfl) rfl ⟨ay _,hi,by simp⟩ trivial ⟨rfl,trivial⟩ ?_
  rintro k hr
  have hk:=hr.2.1
  (refine nZ ab1 [] (by kernel_rfl) ?_;conv=>whnf)
  have hgi:l.getD i 0=l[i]:=by rw [aW,aj hlt];rfl
  have done:(∀hk:k<l.length,l[k]≠l.getD i 0)->i<k∧out++num l[i]++num ((k-i:Nat):Int)++b2 (l.drop k)=b++b2 l:=fun e=>by
   have:=hr.fin hlt e
   refine⟨this.1, ?_⟩
   rw [<-ho,this.2,hgi]
   simp only [aO]
  (repeat' ((first|refine And.intro ?_ ?_|(apply lD<;>intro h<;>try simp only [bl]at h)|refine lU.i64 (by first|omega|(simp only [ln]at *;omega)) ?_|refine ni.mk' _ rfl (by first|omega|(simp only [ln]at *;omega)) ?_|refine mG.lS (by assumption) ?_|refine mG.set (by first|omega|(simp only [ln]at *;omega)) ?_|refine mG.map (by first|omega|(simp only [ln]at *;omega)) ?_|refine lG.mk (by first|decide|omega) ?_|refine tY.mk (by kernel_rfl) rfl rfl ?_|refine lG.mk (lM (by first|omega|(simp only [ln]at *;omega)) (by kernel_rfl)) ?_)<;>conv=>whnf))
  ·rename_i h1
   have hkl:k<l.length:=by simp at h1;omega
   have e:l[k]=l.getD i 0:=by rw [hgi];exact h
   exact lX (k+1) [] [] rfl (by show l.length -(k+1)<l.length-k;omega) (hr.next hkl e) trivial ⟨rfl,trivial⟩
  all_goals
   have ⟨hik,hd⟩:=done (by first|(intro hkl e;rw [hgi]at e;exact absurd e h)|(intro hkl;simp at h;omega))
   have h10:=(mP l[i]).2
   have h20:=congrArg List.length hd
   simp only [ak]at h20
   refine nI [] (by kernel_rfl) (qx out l[i] (hl _ (bD hlt)) (by omega)) (by trivial) ?_
   conv=>whnf
   (repeat' ((first|refine And.intro ?_ ?_|(apply lD<;>intro h<;>try simp only [bl]at h)|refine lU.i64 (by first|omega|(simp only [ln]at *;omega)) ?_|refine ni.mk' _ rfl (by first|omega|(simp only [ln]at *;omega)) ?_|refine mG.lS (by assumption) ?_|refine mG.set (by first|omega|(simp only [ln]at *;omega)) ?_|refine mG.map (by first|omega|(simp only [ln]at *;omega)) ?_|refine lG.mk (by first|decide|omega) ?_|refine tY.mk (by kernel_rfl) rfl rfl ?_|refine lG.mk (lM (by first|omega|(simp only [ln]at *;omega)) (by kernel_rfl)) ?_)<;>conv=>whnf))
   have hp:mX Tryz.prog GC 28 [bs (out++num l[i]),iv ((k:Int) -(i:Int))] 0 [] (wJ 5 1 ((out++num l[i]++num ((k-i:Nat):Int)).map oh)):=by
    rw [<-show ((k-i:Nat):Int)=(k:Int) -(i:Int) by omega]
    exact qx (out++num l[i]) ((k-i:Nat):Int) (nD (by omega)) (by rw [ak];omega)
   refine nI [0] (by kernel_rfl) (hp) (by trivial) ?_
   conv=>whnf
   (repeat' ((first|refine And.intro ?_ ?_|(apply lD<;>intro h<;>try simp only [bl]at h)|refine lU.i64 (by first|omega|(simp only [ln]at *;omega)) ?_|refine ni.mk' _ rfl (by first|omega|(simp only [ln]at *;omega)) ?_|refine mG.lS (by assumption) ?_|refine mG.set (by first|omega|(simp only [ln]at *;omega)) ?_|refine mG.map (by first|omega|(simp only [ln]at *;omega)) ?_|refine lG.mk (by first|decide|omega) ?_|refine tY.mk (by kernel_rfl) rfl rfl ?_|refine lG.mk (lM (by first|omega|(simp only [ln]at *;omega)) (by kernel_rfl)) ?_)<;>conv=>whnf))
   exact lX ⟨k,0,out++num l[i]++num ((k-i:Nat):Int)⟩ [] [1] rfl (by show l.length-k<l.length-i;omega) ⟨hk,hd⟩ trivial ⟨⟨rfl,rfl,rfl⟩,rfl,trivial⟩
 ·have:i=l.length:=by simp at h;omega
  subst this
  simp only [jf,b2,rl,kH,bZ]at ho
  rw [ho]
  exact mJ [] (by trivial)
def fnv (f:FuncId):AV:= .v (.func (.func f) #[] #[])
def cds:List AV:= [fnv 176,fnv 177,fnv 178,fnv 179,fnv 180,fnv 181,fnv 182,fnv 183,fnv 184,fnv 185]
theorem yF:mX Tryz.prog GC 158 [] 0 [] (Is (.agg cds)):=by
 refine lH func158 rfl mixed (by kernel_rfl) ?_
 exact mJ [] (by trivial)
theorem ZG {l:Li}{m:Int}(h1:m∈l)(h2 : ∀x∈l,m<=x):m=lo l:=by
 have:=lo_le h1
 have:=h2 _ this.2
 omega
theorem ZH {l:Li}{m:Int}(h1:m∈l)(h2 : ∀x∈l,x<=m):m=hi l:=by
 have:=PU h1
 have:=h2 _ this.2
 omega
structure KX where
 k:Nat
 m:Int
theorem aga (l:Li)(hl:l≠ [])(hs:l.length<=1000000):mX Tryz.prog GC 206 [li l] 0 [] (Is (iv (lo l))):=by
 have h0:0<l.length:=dV.2 hl
 have st : ∀j (hj:j<1) (hjl:j<l.length),l[j]=l[0]:=fun j hj hjl=>by
  have:j=0:=by omega
  subst this;rfl
 refine lH func206 rfl mixed (by kernel_rfl) ?_
 apply lD<;>intro h
 ·simp at h;omega
 conv=>whnf
 (repeat' ((first|refine And.intro ?_ ?_|(apply lD<;>intro h<;>try simp only [bl]at h)|refine lU.i64 (by first|omega|(simp only [ln]at *;omega)) ?_|refine ni.mk' _ rfl (by first|omega|(simp only [ln]at *;omega)) ?_|refine mG.lS (by assumption) ?_|refine mG.set (by first|omega|(simp only [ln]at *;omega)) ?_|refine mG.map (by first|omega|(simp only [ln]at *;omega)) ?_|refine lG.mk (by first|decide|omega) ?_|refine tY.mk (by kernel_rfl) rfl rfl ?_|refine lG.mk (lM (by first|omega|(simp only [ln]at *;omega)) (by kernel_rfl)) ?_)<;>conv=>whnf))
 refine mO YD 0 [3,4] (fun x:KX=> [(3,iv x.m),(4,iv x.k)]) (fun _=> []) (fun x=>x.k<=l.length∧x.m∈l∧∀j (hj:j<x.k) (hjl:j<l.length),x.m<=l[j]) (fun x=>l.length-x.k) [] [] ⟨1,l[0]⟩ (by kernel_rfl) (fun _=>rfl) rfl ⟨h0,bD h0,fun j hj hjl=>by have:=st j hj hjl;simp only;omega⟩ trivial ⟨rfl,rfl,trivial⟩ ?_
 rintro⟨k,m⟩ ⟨hk,hm,ha⟩
 change k<=l.length at hk
 change m∈l at hm
 apply lD<;>intro h
 ·have hlt:k<l.length:=by simp at h;omega
  conv=>whnf
  (repeat' ((first|refine And.intro ?_ ?_|(apply lD<;>intro h<;>try simp only [bl]at h)|refine lU.i64 (by first|omega|(simp only [ln]at *;omega)) ?_|refine ni.mk' _ rfl (by first|omega|(simp only [ln]at *;omega)) ?_|refine mG.lS (by assumption) ?_|refine mG.set (by first|omega|(simp only [ln]at *;omega)) ?_|refine mG.map (by first|omega|(simp only [ln]at *;omega)) ?_|refine lG.mk (by first|decide|omega) ?_|refine tY.mk (by kernel_rfl) rfl rfl ?_|refine lG.mk (lM (by first|omega|(simp only [ln]at *;omega)) (by kernel_rfl)) ?_)<;>conv=>whnf))
  refine lX ⟨k+1,min m l[k]⟩ [] [] rfl (by show l.length -(k+1)<l.length-k;omega) ⟨hlt, ?_,fun j hj hjl=> ?_⟩ trivial ⟨rfl,rfl,trivial⟩
  ·show min m l[k]∈l
   have hm2:=bD hlt
   rcases Int.le_total m l[k]with h1|h1
   ·rw [Int.min_eq_left h1];exact hm
   ·rw [Int.min_eq_right h1];exact hm2
  ·rcases dJ j k with h1|h1
   ·have:=ha j h1 hjl;simp only at this ⊢;omega
   ·have hj':j<k+1:=hj
    have:j=k:=by omega
    subst this;simp only;omega
 ·have:k=l.length:=by simp at h;omega
  subst this
  conv=>whnf
  have e:m=lo l:=ZG hm fun x hx=>by
   obtain⟨j,hj,e⟩:=iM hx
   rw [<-e];exact ha j hj hj
  rw [<-e]
  exact mJ [] (by trivial)
theorem agb (l:Li)(hl:l≠ [])(hs:l.length<=1000000):mX Tryz.prog GC 207 [li l] 0 [] (Is (iv (hi l))):=by
 have h0:0<l.length:=dV.2 hl
 have st : ∀j (hj:j<1) (hjl:j<l.length),l[j]=l[0]:=fun j hj hjl=>by
  have:j=0:=by omega
  subst this;rfl
 refine lH func207 rfl mixed (by kernel_rfl) ?_
 apply lD<;>intro h
 ·simp at h;omega
 conv=>whnf
 (repeat' ((first|refine And.intro ?_ ?_|(apply lD<;>intro h<;>try simp only [bl]at h)|refine lU.i64 (by first|omega|(simp only [ln]at *;omega)) ?_|refine ni.mk' _ rfl (by first|omega|(simp only [ln]at *;omega)) ?_|refine mG.lS (by assumption) ?_|refine mG.set (by first|omega|(simp only [ln]at *;omega)) ?_|refine mG.map (by first|omega|(simp only [ln]at *;omega)) ?_|refine lG.mk (by first|decide|omega) ?_|refine tY.mk (by kernel_rfl) rfl rfl ?_|refine lG.mk (lM (by first|omega|(simp only [ln]at *;omega)) (by kernel_rfl)) ?_)<;>conv=>whnf))
 refine mO YE 0 [3,4] (fun x:KX=> [(3,iv x.m),(4,iv x.k)]) (fun _=> []) (fun x=>x.k<=l.length∧x.m∈l∧∀j (hj:j<x.k) (hjl:j<l.length),l[j]<=x.m) (fun x=>l.length-x.k) [] [] ⟨1,l[0]⟩ (by kernel_rfl) (fun _=>rfl) rfl ⟨h0,bD h0,fun j hj hjl=>by have:=st j hj hjl;simp only;omega⟩ trivial ⟨rfl,rfl,trivial⟩ ?_
 rintro⟨k,m⟩ ⟨hk,hm,ha⟩
 change k<=l.length at hk
 change m∈l at hm
 apply lD<;>intro h
 ·have hlt:k<l.length:=by simp at h;omega
  conv=>whnf
  (repeat' ((first|refine And.intro ?_ ?_|(apply lD<;>intro h<;>try simp only [bl]at h)|refine lU.i64 (by first|omega|(simp only [ln]at *;omega)) ?_|refine ni.mk' _ rfl (by first|omega|(simp only [ln]at *;omega)) ?_|refine mG.lS (by assumption) ?_|refine mG.set (by first|omega|(simp only [ln]at *;omega)) ?_|refine mG.map (by first|omega|(simp only [ln]at *;omega)) ?_|refine lG.mk (by first|decide|omega) ?_|refine tY.mk (by kernel_rfl) rfl rfl ?_|refine lG.mk (lM (by first|omega|(simp only [ln]at *;omega)) (by kernel_rfl)) ?_)<;>conv=>whnf))
  refine lX ⟨k+1,max m l[k]⟩ [] [] rfl (by show l.length -(k+1)<l.length-k;omega) ⟨hlt, ?_,fun j hj hjl=> ?_⟩ trivial ⟨rfl,rfl,trivial⟩
  ·show max m l[k]∈l
   have hm2:=bD hlt
   rcases Int.le_total m l[k]with h1|h1
   ·rw [Int.max_eq_right h1];exact hm2
   ·rw [Int.max_eq_left h1];exact hm
  ·rcases dJ j k with h1|h1
   ·have:=ha j h1 hjl;simp only at this ⊢;omega
   ·have hj':j<k+1:=hj
    have:j=k:=by omega
    subst this;simp only;omega
 ·have:k=l.length:=by simp at h;omega
  subst this
  conv=>whnf
  have e:m=hi l:=ZH hm fun x hx=>by
   obtain⟨j,hj,e⟩:=iM hx
   rw [<-e];exact ha j hj hj
  rw [<-e]
  exact mJ [] (by trivial)
theorem acR (l:Li)(hl:l≠ [])(hs:l.length<=1000000):mX Tryz.prog GC 202 [li l] 0 [] (wJ 3 1 (l.map xG)):=by
 have h0:0<l.length:=dV.2 hl
 refine lH func202 rfl mixed (by kernel_rfl) ?_
 refine⟨fun b hb=> ?_⟩
 rw [hb (sD h0)]
 conv=>whnf
 (repeat' ((first|refine And.intro ?_ ?_|(apply lD<;>intro h<;>try simp only [bl]at h)|refine lU.i64 (by first|omega|(simp only [ln]at *;omega)) ?_|refine ni.mk' _ rfl (by first|omega|(simp only [ln]at *;omega)) ?_|refine mG.lS (by assumption) ?_|refine mG.set (by first|omega|(simp only [ln]at *;omega)) ?_|refine mG.map (by first|omega|(simp only [ln]at *;omega)) ?_|refine lG.mk (by first|decide|omega) ?_|refine tY.mk (by kernel_rfl) rfl rfl ?_|refine lG.mk (lM (by first|omega|(simp only [ln]at *;omega)) (by kernel_rfl)) ?_)<;>conv=>whnf))
 exact lW (.own 0) 1 _ [(0, .lab 1)] [] ⟨rfl,rfl,rfl⟩ rfl (by trivial) (by trivial)
theorem aaQ {d:Li}(hd:SS d){i j:Nat}{x y:Int}(h:i<j)(h1:d[i]? = some x)(h2:d[j]? = some y):x<y:=by
 obtain⟨hi,e1⟩:=aG.1 h1
 obtain⟨hj,e2⟩:=aG.1 h2
 rw [<-e1, <-e2]
 exact fO.1 hd i j hi hj h
theorem vK (u:Nat):Int.fdiv (u:Int) (2^min (Int.toNat 1) IntKind.u64.bits)=((u/2:Nat):Int):=by rw [acO];exact af6 u
theorem ne_self (n:Int):(n != n)=false:=by simp
theorem aeJ (n:Int):mX Tryz.prog GC 230 [iv n] 0 [] (Is (bv false)):=by
 refine lH func230 rfl mixed (by kernel_rfl) ?_
 conv=>whnf
 rw [ne_self]
 exact mJ [] (by trivial)
theorem aeK (x y:Int):mX Tryz.prog GC 217 [iv x,iv y] 0 [] (Is (bv (decide (x<y)))):=by
 refine lH func217 rfl mixed (by kernel_rfl) ?_
 (refine mQ [] (by kernel_rfl) (aeJ x) rfl ?_ ?_;(focus trivial))
 conv=>whnf
 (repeat' ((first|refine And.intro ?_ ?_|(apply lD<;>intro h<;>try simp only [bl]at h)|refine lU.i64 (by first|omega|(simp only [ln]at *;omega)) ?_|refine ni.mk' _ rfl (by first|omega|(simp only [ln]at *;omega)) ?_|refine mG.lS (by assumption) ?_|refine mG.set (by first|omega|(simp only [ln]at *;omega)) ?_|refine mG.map (by first|omega|(simp only [ln]at *;omega)) ?_|refine lG.mk (by first|decide|omega) ?_|refine tY.mk (by kernel_rfl) rfl rfl ?_|refine lG.mk (lM (by first|omega|(simp only [ln]at *;omega)) (by kernel_rfl)) ?_)<;>conv=>whnf))
 exact mJ [] (by trivial)
theorem ZI (d:Li)(x:Int)(hd:SS d)(hx:x∈d)(hs:d.length<=1000000):mX Tryz.prog GC 205 [li d,iv x] 0 [] (Is (.mW [iv (idx d x),bv true])):=by
 have hi:=Oz hx
 refine lH func205 rfl mixed (by kernel_rfl) ?_
 refine mO YC 0 [7,8] (fun x:Nat×Nat=> [(7,iv x.1),(8,iv x.2)]) (fun _=> []) (fun y=>y.1<=idx d x∧idx d x<=y.2∧y.2<=d.length) (fun y=>y.2-y.1) [] [] (0,d.length) (by kernel_rfl) (fun _=>rfl) rfl ⟨aB _,jy hi.1,ay _⟩ trivial ⟨rfl,congrArg (fun n:Nat=>Value.int .i64 (n:Int)) (ah _),trivial⟩ ?_
 rintro⟨i,j⟩ ⟨h1,h2,h3⟩
 change i<=idx d x at h1
 change idx d x<=j at h2
 change j<=d.length at h3
 apply lD<;>intro h
 ·have hlt:i<j:=by simp at h;omega
  conv=>whnf
  (repeat' ((first|refine And.intro ?_ ?_|(apply lD<;>intro h<;>try simp only [bl]at h)|refine lU.i64 (by first|omega|(simp only [ln]at *;omega)) ?_|refine ni.mk' _ rfl (by first|omega|(simp only [ln]at *;omega)) ?_|refine mG.lS (by assumption) ?_|refine mG.set (by first|omega|(simp only [ln]at *;omega)) ?_|refine mG.map (by first|omega|(simp only [ln]at *;omega)) ?_|refine lG.mk (by first|decide|omega) ?_|refine tY.mk (by kernel_rfl) rfl rfl ?_|refine lG.mk (lM (by first|omega|(simp only [ln]at *;omega)) (by kernel_rfl)) ?_)<;>conv=>whnf))
  refine lU.to (y:=((i+j:Nat):Int)) (by rw [<-iH];exact rY (by omega)) ?_
  refine lG.mk (by decide) ?_
  rw [vK]
  refine lU.i64 (by omega) ?_
  conv=>whnf
  have hm:(i+j)/2<d.length:=by omega
  (repeat' ((first|refine And.intro ?_ ?_|(apply lD<;>intro h<;>try simp only [bl]at h)|refine lU.i64 (by first|omega|(simp only [ln]at *;omega)) ?_|refine ni.mk' _ rfl (by first|omega|(simp only [ln]at *;omega)) ?_|refine mG.lS (by assumption) ?_|refine mG.set (by first|omega|(simp only [ln]at *;omega)) ?_|refine mG.map (by first|omega|(simp only [ln]at *;omega)) ?_|refine lG.mk (by first|decide|omega) ?_|refine tY.mk (by kernel_rfl) rfl rfl ?_|refine lG.mk (lM (by first|omega|(simp only [ln]at *;omega)) (by kernel_rfl)) ?_)<;>conv=>whnf))
  (refine mQ [] (by kernel_rfl) (aeK d[(i+j)/2] x) rfl ?_ ?_;(focus trivial))
  conv=>whnf
  have hat:=aj hm
  apply lD<;>intro h
  ·refine lU.i64 (by omega) ?_
   conv=>whnf
   have hlt2:d[(i+j)/2]<x:=by simpa using h
   have hc:(i+j)/2<idx d x:=by
    rcases iY ((i+j)/2) (idx d x)with h4|h4|h4
    ·exact h4
    ·have:=hi.2;rw [<-h4,hat]at this;injection this with this;omega
    ·have:=aaQ hd h4 hi.2 hat;omega
   exact lX ((i+j)/2+1,j) [] [] rfl (by show j -((i+j)/2+1)<j-i;omega) ⟨hc,h2,h3⟩ trivial ⟨rfl,rfl,trivial⟩
  ·conv=>whnf
   have hlt2:x<=d[(i+j)/2]:=by simp at h;omega
   have hc:idx d x<=(i+j)/2:=by
    rcases dJ ((i+j)/2) (idx d x)with h4|h4
    ·have:=aaQ hd h4 hat hi.2;omega
    ·exact h4
   exact lX (i,(i+j)/2) [] [] rfl (by show (i+j)/2-i<j-i;omega) ⟨h1,hc,by show (i+j)/2<=_;omega⟩ trivial ⟨rfl,rfl,trivial⟩
 ·have hij:i=idx d x:=by simp at h;omega
  have hil:i<d.length:=by omega
  have hat:d[i]? = some x:=by rw [hij];exact hi.2
  rw [<-hij]
  conv=>whnf
  (repeat' ((first|refine And.intro ?_ ?_|(apply lD<;>intro h<;>try simp only [bl]at h)|refine lU.i64 (by first|omega|(simp only [ln]at *;omega)) ?_|refine ni.mk' _ rfl (by first|omega|(simp only [ln]at *;omega)) ?_|refine mG.lS (by assumption) ?_|refine mG.set (by first|omega|(simp only [ln]at *;omega)) ?_|refine mG.map (by first|omega|(simp only [ln]at *;omega)) ?_|refine lG.mk (by first|decide|omega) ?_|refine tY.mk (by kernel_rfl) rfl rfl ?_|refine lG.mk (lM (by first|omega|(simp only [ln]at *;omega)) (by kernel_rfl)) ?_)<;>conv=>whnf))
  all_goals first
   | (exfalso;omega)
   | (exfalso;simp only [ah]at h;omega)
   | (exfalso;simp at h;done)
   | exact mJ [] (by trivial)
end Go.Proofs.YtocckceefcmeaaaGreatDoor.Cl
