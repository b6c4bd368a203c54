/- Joined parts of the proof. Plain encodings that the walks of several chapters share -/
import Derived.Test.YtocckceefcmeaaaGreatDoorPk6
import Derived.Test.YtocckceefcmeaaaGreatDoorPk5
import Derived.Test.YtocckceefcmeaaaGreatDoorProg
import Derived.Test.YtocckceefcmeaaaGreatDoorPk4
import Derived.Sort.Grow
import Derived.Test.YtocckceefcmeaaaGreatDoorPk1
import Derived.ProofKit
import Derived.MapKept
import Derived.Laws.Strings
import Derived.OpenShut
import Derived.Test.YtocckceefcmeaaaGreatDoorRows
import Derived.LaidMore
import Derived.Stop.Joined
set_option linter.unusedVariables false
set_option linter.unusedSimpArgs false
set_option maxRecDepth 100000
set_option maxHeartbeats 16000000
namespace Go.Proofs.YtocckceefcmeaaaGreatDoor.Cl
open RowKit Vc Ax Go.Proofs.Tryz
abbrev By:=List UInt8
abbrev Tx:=List By
def I64 (n:Int):Prop:= -9223372036854775808<=n∧n<=9223372036854775807
theorem nJ {n:Nat}(h:n<=9223372036854775807):I64 (n:Int):=by unfold I64;omega
theorem toNat_ofNat {u:Nat}(h:u<256):(UInt8.ofNat u).toNat=u:=by
 simp [UInt8.toNat_ofNat',cZ h]
abbrev Li:=List Int
def nP (l:Li):Prop:= ∀x∈l,I64 x
theorem mixed:Tryz.prog.follows .mixedOrders=true:=by kernel_rfl
def GC:Glob:=⟨0,fun _=>none,fun _=>none⟩
abbrev iv (n:Int):AV:= .v (.int .i64 n)
abbrev bv (b:Bool):AV:= .v (.bool b)
abbrev uv (n:Nat):AV:= .v (.int .u64 (n:Int))
def qX (x:Int):List FV:= [.v (.int .i64 x)]
abbrev bs (b:By):AV:= .lst 1 (b.map oh)
abbrev li (l:Li):AV:= .lst 1 (l.map qX)
theorem lV.to {k:IntKind}{x y:Int}{K:Int->Prop}(h:k.wrap x=y)(c:K y):lV k x K:=⟨by rw [h];exact c⟩
theorem F7.of {s:By}{K:ByteArray->Prop}(c:K ⟨s.toArray⟩):F7 (s.map oh) K:=⟨⟨s,rfl,c⟩⟩
abbrev u8v (n:Nat):AV:= .v (.int .u8 (n:Int))
theorem qP (a b:By):yL ⟨a.toArray⟩ ⟨b.toArray⟩=decide (a=b):=by
 rw [abf]
 by_cases h:a=b
 ·subst h;simp
 ·rw [decide_eq_false h]
  refine decide_eq_false fun e=>h ?_
  injection e with e
  simpa using congrArg Array.toList e
end Go.Proofs.YtocckceefcmeaaaGreatDoor.Cl
namespace Go.Proofs.YtocckceefcmeaaaGreatDoor.Ax
open RowKit Vc Go.Proofs.Tryz
variable {P:Program}{G:Glob}
def Here (w:World)(b:Nat):Prop:=b<w.heap.size
def YB:Nat->Loc:=fun _=>⟨none,0,0,0⟩
theorem SV {f:FuncId}{args:List AV}{x:Value}(h:mQ P G f args 0 [] (Is (.v x)))(w:World)(hG:G.holds w)(vs:List Value)(r:nX 0 YB (Here w) w args vs):zC P f vs.toArray w fun v w'=>v=x∧Below w.heap.size w w':=by
 have st:St G w (wL w YB []) (Here w) 0 YB (Here w) [] w:=⟨hG,AZ.refl _ _,fun b hb=>⟨hb, .inl hb⟩,(fun mV b h=>by cases h),(fun mV b g h=>by cases h),(fun mV Bq b b' g h=>by cases h),(fun mV b h=>by cases h)⟩
 refine(h w YB (Here w) vs st r).mono fun v w' ⟨a,n',σ',F',H',⟨ha,_,_⟩,s,_,ra⟩=> ?_
 subst ha
 refine⟨ra.oJ,s.qM.os,s.qM.tape,s.qM.output,s.qM.size,fun k hk=>s.qM.block k hk fun⟨_,_,hm,_⟩=>by cases hm⟩
theorem ag2 {α:Type}{c:α->List Value}{k:Nat}(hk : ∀a,(c a).length=k){l:List α}{i j:Nat}{a:α}{v:Value}(hi:l[i]? = some a)(hj:(c a)[j]? = some v):(recs c l)[i*k+j]? = some v:=by
 obtain⟨h,rfl⟩:=aO.1 hi
 exact Xz hk l i h j v hj
section
section
variable {P:Program}{G:Glob}
def en1 {α:Type}(enc:α->Value)(a:α):List FV:= [.v (enc a)]
theorem ac5 {α:Type}{enc:α->Value}(h1 : ∀a,(enc a).oneCell'=true){F:Nat->Prop}{w:World} : ∀zs:List α,qA F w 1 (zs.map (en1 enc)) (zs.map enc):=by
 intro zs
 induction zs with
 | nil=>exact qA.nil 1
 | cons a r ih=>exact qA.cons (xs:=r.map enc) (vs:= [enc a]) (XV [enc a]) rfl (by simp [h1]) ih
theorem P7 {α:Type}(enc:α->Value) : ∀zs:List α,recs (fun a=> [enc a]) zs=zs.map enc:=by
 intro zs
 unfold recs
 induction zs with
 | nil=>rfl
 | cons a r ih=>simp only [gG,iK,ih];rfl
theorem Ap {α:Type}[Inhabited α]{enc:α->Value}(h1 : ∀a,(enc a).oneCell'=true){f:FuncId}{T:TypeId}{zs zs':List α}{A:AV}{V:Nat->Nat->Value->Prop}(hne:zs≠ [])(hl:zs'.length=zs.length)
  (h : ∀w blk cap,Sort.Holds enc w blk 0 zs.toArray->blk<w.heap.size->zs.length<=cap->zC P f #[.slice (some ⟨blk,0,none⟩) zs.length cap] w fun v w'=>V blk cap v∧∃q os,w'=Sort.grow (Sort.putRow enc (Sort.ahead w q) blk 0 zs'.toArray) os)
  (hv : ∀w (σ:Nat->Loc) F blk cap v,σ 0=⟨some blk,zs.length,cap,1⟩->zs.length<=cap->V blk cap v->nI 1 σ F w A v) :
  mQ P G f [.own 0] 1 [(0, .rows T 1 (zs.map (en1 enc)))] (fun a n H=>a=A∧n=1∧H = [(0, .rows T 1 (zs'.map (en1 enc)))]):=by
 intro w σ F vs st r
 have hpos:0<zs.length:=dX.2 hne
 obtain⟨hsz,hn,xs,hown,hrep⟩:=st.blk 0 _ rfl
 rw [ah]at hn hown
 have hxs:xs=zs.map enc:=by rw [<-P7];exact V3 (c:=fun a=> [enc a]) (fun _=>rfl) hrep
 rcases hown.2 with ⟨_,h0⟩|⟨g,cap,cur,hval,_,hb,hnc,hcm,hcs,htk⟩
 ·omega
 injection hval with e1 e2 e3
 have hLb:(σ 0).b=some g:=by
  unfold Loc.oa at e1
  cases hbb:(σ 0).b with
  | none=>rw [hbb]at e1;cases e1
  | some g'=>rw [hbb]at e1;injection e1 with e1;injection e1 with e1;rw [e1]
 have hσ:σ 0=⟨some g,zs.length,cap,1⟩:=by
  cases hs:σ 0 with
  | mk b n c sz=>rw [hs]at hLb hn e3 hsz;simp only at hLb hn e3 hsz;subst hLb;subst hn;subst e3;subst hsz;rfl
 obtain⟨v0,rfl,hv0⟩ : ∃v0,vs = [v0]∧v0 = .slice (some ⟨g,0,none⟩) zs.length cap:=by
  match vs,r with
  | [v0],r=>
   refine⟨v0,rfl, ?_⟩
   cases r.1 with
   | own _ hl=>rw [hσ];rfl
   | tC _ oa hl hn0 hc=>rw [hσ]at hn0;simp only at hn0;omega
 subst hv0
 have hg:g<w.heap.size:=(dw.1 hb).1
 have hsz2:zs.length<=cur.size:=by omega
 have hH:Sort.Holds enc w g 0 zs.toArray:=by
  intro j hj
  have hj':j<zs.length:=by simpa using hj
  refine⟨?_,by simp [World.frozen?,hb]⟩
  have h2:(cur.toList.take zs.length)[j]? = (zs.map enc)[j]? :=by rw [<-hxs, <-htk,fO]
  rw [jG hj']at h2
  simp only [World.cell?,hb,aV]
  simp only [Option.isSome_none,bf,if_false]
  rw [<-bn,h2]
  simp [hj']
 have hmu:=st.mu 0 (.rows T 1 (zs.map (en1 enc))) g rfl rfl (.inl hLb)
 refine(h w g cap hH hg hnc).mono fun v w' ⟨hV,q,os,hw'⟩=> ?_
 have hheap:w'.heap[g]? = some (.cells (Sort.putCells enc 0 zs'.toArray cur) T (0,0)):=by
  rw [hw',Sort.heap_grow_old _ _ (by simpa using hg)]
  simp [Sort.putRow,Sort.mapBlock,Sort.ahead,iP,hb,Sort.onCells]
 have hother : ∀k,k<w.heap.size->k≠g->w'.heap[k]? = w.heap[k]? :=fun k hk hne=>by
  rw [hw',Sort.heap_grow_old _ _ (by simpa using hk)]
  have:g≠k:=fun e=>hne e.symm
  simp [Sort.putRow,Sort.mapBlock,Sort.ahead,iP,this]
 have hsize:w.heap.size<=w'.heap.size:=by rw [hw'];simp
 have htake:(Sort.putCells enc 0 zs'.toArray cur).toList.take zs'.length=zs'.map enc:=by
  apply jM
  intro j
  by_cases hj:j<zs'.length
  ·rw [jG hj,bn]
   simp [Sort.putCells,hj,show j<cur.size by omega]
  ·rw [List.getElem?_take_eq_none (by omega),fG (by simp;omega)]
 have ak4 : ∀b,F b->b≠g:=fun b hb e=>hmu.1 (e▸hb)
 refine⟨A,1,σ,F,_,⟨rfl,rfl,rfl⟩,⟨?_, ?_, ?_, ?_, ?_, ?_, ?_⟩,⟨aA _,fun _ _=>rfl,fun b hb=>⟨hb,hother b (st.oW b hb).1 (ak4 b hb)⟩,hsize⟩,hv w' σ F g cap v hσ hnc hV⟩
 ·exact Glob.qM st.glob hsize fun b hb=>hother b (bg hb st.glob.1) (by omega)
 ·refine⟨by rw [hw'];rfl,by rw [hw'];rfl,by rw [hw'];rfl,hsize,fun k hk hm=>hother k hk fun e=>hm ⟨0,_,rfl,rfl,by rw [e];exact .inl hLb⟩⟩
 ·exact fun b hb=>⟨bg (st.oW b hb).1 hsize, .inl hb⟩
 ·intro k b hk
  simp only [look]at hk
  cases hb0:Nat.beq 0 k with
  | true=>have:=aF hb0;omega
  | false=>rw [hb0,cond_false]at hk;cases hk
 ·intro k b g' hk hm hg'
  simp only [look]at hk
  cases hb0:Nat.beq 0 k with
  | true=>
   have:=aF hb0
   subst this
   rw [hb0,cond_true]at hk
   injection hk with hk
   subst hk
   have hg':=hg'.flat rfl
   rw [hLb]at hg'
   injection hg' with hg'
   subst hg'
   exact⟨hmu.1,hmu.2.1,bg hg hsize, .inl ⟨0,_,rfl,rfl, .inl hLb⟩⟩
  | false=>rw [hb0,cond_false]at hk;cases hk
 ·intro k k' b b' g' hk hk' _ _ _ _
  simp only [look]at hk hk'
  cases hb0:Nat.beq 0 k with
  | true=>
   cases hb1:Nat.beq 0 k' with
   | true=>rw [<-aF hb0, <-aF hb1]
   | false=>rw [hb1,cond_false]at hk';cases hk'
  | false=>rw [hb0,cond_false]at hk;cases hk
 ·intro k b hk
  simp only [look]at hk
  cases hb0:Nat.beq 0 k with
  | true=>
   have:=aF hb0
   subst this
   rw [hb0,cond_true]at hk
   injection hk with hk
   subst hk
   refine⟨hsz,by rw [ah,hl];exact hn,zs'.map enc,⟨by simp, .inr ⟨g,cap,_, ?_,au _,hheap,by rw [ah];omega,hcm,by simp [Sort.putCells,hcs], ?_⟩⟩,ac5 h1 zs'⟩
   ·rw [hσ,ah];rfl
   ·rw [ah,fO];exact htake
  | false=>rw [hb0,cond_false]at hk;cases hk
end
end
end Go.Proofs.YtocckceefcmeaaaGreatDoor.Ax
namespace Go.Proofs.YtocckceefcmeaaaGreatDoor.Vc
open RowKit Go.ChangeShapes Go.WideShapes Go.ChangeAt Go.Proofs.Tryz
section
variable {H:Type}{enc:TypeId×Value->H}{P:Program}{w:World}{t:TypeId}{cs:List Value}
def RdD (enc:TypeId×Value->H)(P:Program)(w:World)(t:TypeId)(cs:List Value)(d:DataW H):Prop:= ∃held fuel p,DataW.trod enc P w 0 (fun _=>true) held fuel t cs=some (d,p)
def Rd (enc:TypeId×Value->H)(P:Program)(w:World)(t:TypeId)(cs:List Value):Prop:= ∃d,RdD enc P w t cs d
theorem ac7 {k:IntKind}{d:DataW H}(ht:P.underlying t=some (.int k))(h:RdD enc P w t cs d) : ∃n,cs = [.int k n]∧d = .lit (.int k n)∧(Lit.int k n).wf=true:=by
 obtain⟨held,fuel,p,hx⟩:=h
 obtain⟨n,h1,h2,h3⟩:=DataW.trod_int ht hx
 injection h2 with h2
 exact⟨n,h1,h2,h3⟩
theorem flat_get {α:Type}{sz:Nat} : ∀(css:List (List α)) (k:Nat) (v:α),(∀c∈css,c.length=sz)->css.flatten[k]? = some v->
  ∃i j c,j<sz∧k=i*sz+j∧css[i]? = some c∧c[j]? = some v:=by
 intro css
 induction css with
 | nil=>intro k v _ h;simp at h
 | cons c r ih=>
  intro k v hl h
  have hc:c.length=sz:=hl c (by simp)
  rw [iK,jw]at h
  split at h
  ·rename_i hk
   exact⟨0,k,c,by omega,by omega,by simp,h⟩
  ·rename_i hk
   obtain⟨i,j,c',hj,hk',hi,hv⟩:=ih _ v (fun c hc=>hl c (by simp [hc])) h
   refine⟨i+1,j,c',hj, ?_,by simpa using hi,hv⟩
   rw [bJ]
   omega
theorem Lc {a:Addr}{n:Nat}{cs:List Value}(h:w.cells? 0 a n=some cs):cs.length=n∧∀j v,cs[j]? = some v->w.cell? (a.add j)=some v:=by
 unfold World.cells? at h
 rw [if_pos (au _)]at h
 refine⟨by rw [mapM_some_length h];simp,fun j v hj=> ?_⟩
 have hlt:j<n:=by
  have:=(aO.1 hj).1
  rw [mapM_some_length h]at this
  simpa using this
 have:=mapM_some_get h j j (by simp [hlt])
 rw [this,hj]
theorem Wh {e:TypeId}{d:DataW H}(ht:P.underlying t=some (.slice e))(h:RdD enc P w t cs d) :
  ∃(oa:Option Addr) (len cap:Nat) (css:List (List Value)) (ds:List (DataW H)),cs = [.slice oa len cap]∧len<=cap∧cap<=maxLen∧(oa=none->cap=0)∧css.length=len∧Row w oa css.flatten∧
   (∀c∈css,c.length=P.cellsOf e∧Rd enc P w e c)∧ds.length=len∧((d = .nil∧len=0)∨∃rest,d = .slice ds rest)∧∀(i:Nat) (c:List Value) (d':DataW H),css[i]? = some c->ds[i]? = some d'->RdD enc P w e c d':=by
 obtain⟨held,fuel,pp,hx⟩:=h
 rcases DataW.trod_slice ht hx with ⟨h1,hd⟩|⟨a,len,cap,elems,rest,n,_,h1,hd,_,hlc,hcm,hlen,hel,_,_⟩
 ·injection hd with hd
  exact⟨none,0,0,[],[],h1,aA _,au _,fun _=>rfl,rfl,Row.nil _ _,by simp,rfl, .inl ⟨hd,rfl⟩,fun i c d' h=>by simp at h⟩
 ·have each : ∀i,i<len->∃ci,w.cells? 0 (a.add (i*P.cellsOf e)) (P.cellsOf e)=some ci∧Rd enc P w e ci∧∀d',(elems.map (·.1))[i]? = some d'->RdD enc P w e ci d':=by
   intro i hi
   have h1:=hel i hi
   rw [aj (by omega)]at h1
   obtain⟨ci,hc,ht⟩:=Option.bind_eq_some_iff.1 h1
   refine⟨ci,hc,⟨_,held,n,_,ht⟩,fun d' hd'=> ?_⟩
   rw [aU,aj (by omega)]at hd'
   simp only [bU,aN]at hd'
   subst hd'
   exact⟨held,n,_,ht⟩
  obtain⟨css,hcl,ac8⟩ : ∃css:List (List Value),css.length=len∧∀(i:Nat) (c:List Value),css[i]? = some c->w.cells? 0 (a.add (i*P.cellsOf e)) (P.cellsOf e)=some c∧Rd enc P w e c∧∀d',(elems.map (·.1))[i]? = some d'->RdD enc P w e c d':=by
   refine⟨(List.range len).map fun i=>(w.cells? 0 (a.add (i*P.cellsOf e)) (P.cellsOf e)).getD [],by simp,fun i c hc=> ?_⟩
   have hlt:i<len:=by simpa using (aO.1 hc).1
   obtain⟨ci,h1,h2⟩:=each i hlt
   simp only [aU,gV hlt,bU,h1,bH,aN]at hc
   subst hc
   exact⟨h1,h2⟩
  have hall : ∀c∈css,c.length=P.cellsOf e∧Rd enc P w e c:=by
   intro c hc
   obtain⟨i,hi⟩:=bZ.1 hc
   exact⟨(Lc (ac8 i c hi).1).1,(ac8 i c hi).2.1⟩
  refine⟨some a,len,cap,css,elems.map (·.1),h1,hlc,hcm,(fun e=>by cases e),hcl, ?_,hall,by simp [hlen], .inr ⟨rest.map (·.1),by injection hd⟩,fun i c d' h1 h2=>(ac8 i c h1).2.2 d' h2⟩
  by_cases hne:css.flatten = []
  ·exact .inl hne
  ·right
   have cell : ∀k v,css.flatten[k]? = some v->∃i j,j<P.cellsOf e∧k=i*P.cellsOf e+j∧w.cell? ((a.add (i*P.cellsOf e)).add j)=some v:=by
    intro k v hk
    obtain⟨i,j,c,hj,hkk,hi,hv⟩:=flat_get css k v (fun c hc=>(hall c hc).1) hk
    exact⟨i,j,hj,hkk,(Lc (ac8 i c hi).1).2 j v hv⟩
   have hspot:a.spot=none:=by
    obtain⟨v,hv⟩ : ∃v,css.flatten[0]? = some v:=by
     cases hf:css.flatten with
     | nil=>exact absurd hf hne
     | cons v r=>exact⟨v,by simp⟩
    obtain⟨i,j,hj,hk,hc⟩:=cell 0 v hv
    have hj0:j=0:=by omega
    have hi0:i*P.cellsOf e=0:=by omega
    rw [hi0,hj0]at hc
    have:(a.add 0).add 0=a:=by simp [Addr.add]
    rw [this]at hc
    cases hs:a.spot with
    | none=>rfl
    | some s=>
     unfold World.cell? at hc
     split at hc<;>simp [hs]at hc
   obtain⟨b,o,s⟩:=a
   simp only at hspot
   subst hspot
   refine⟨b,o,rfl, ?_,fun k v hk=> ?_⟩
   ·obtain⟨v,hv⟩ : ∃v,css.flatten[0]? = some v:=by
     cases hf:css.flatten with
     | nil=>exact absurd hf hne
     | cons v r=>exact⟨v,by simp⟩
    obtain⟨i,j,_,_,hc⟩:=cell 0 v hv
    rw [add0,add0]at hc
    exact World.block_lt_of_cell? w _ hc
   ·obtain⟨i,j,_,hkk,hc⟩:=cell k v hk
    rw [add0,add0]at hc
    rw [hkk, <-fZ]
    exact hc
theorem J9 {W W':World}(hl:laidOutB P=true)(hb:Below W.heap.size W W') : ∀(ts:List TypeId) (vs:List Value) (ds:List (DataW H)) (ps:List MemPlace),
  (ts.all fun t=>P.readableRec t&&Nat.blt t P.types.size)=true->(∀x∈ps,x.block<W.heap.size)->DataW.TrodAll enc P W 0 (fun _=>true) true ts vs ds ps->
  DataW.TrodAll enc P W' 0 (fun b=>decide (b<W.heap.size)) true ts vs ds ps:=by
 intro ts
 induction ts with
 | nil=>intro vs ds ps _ _ h;cases vs<;>cases ds<;>simp_all [DataW.TrodAll]
 | cons t ts ih=>
  intro vs ds ps hrd hlt h
  obtain⟨v,vs',d,ds',p,q,rfl,rfl,rfl,h1,h2⟩:=trodAll_cons h
  simp only [List.all_cons,aB]at hrd
  refine⟨p,q,Below.trod hl hrd.1.1 (aP hrd.1.2) h1 hb (fun x hx=>hlt x (by simp [hx])),ih _ _ _ hrd.2 (fun x hx=>hlt x (by simp [hx])) h2,rfl⟩
end
theorem YC {H:Type}{enc:TypeId×Value->H}{P:Program}{fn:Func}{s:ChangeSpec}{tb:TypeId}(hl:laidOutB P=true)
  (hrd:(fn.params.toList.all fun t=>P.readableRec t&&Nat.blt t P.types.size)=true) (hres:fn.resultTypes = #[tb]) (hb:P.underlying tb=some .bool) (hv:s.vars = [])
  (hfn : ∀ds:List (DataW H),ds.length=fn.params.size->s.fn H ds = {results:= [.lit (.bool true)],args:=ds})
  {W W':World} {args:Array Value} {ds gs:List (DataW H)} {before:List MemPlace} (hW:DataW.Whole enc P fn.params.toList s.vars false W args.toList ds gs before) (hB:Below W.heap.size W W') :
  s.post enc P fn false true false false W args (.bool true) W':=by
 have hlt : ∀x∈before,x.block<W.heap.size:=fun x hx=>hW.lt x hx
 have hW':=hW
 obtain⟨p,q,hA,hV,rfl,_,_⟩:=hW'
 rw [hv]at hV
 obtain⟨rfl,rfl⟩:=trodVars_none hV
 have hlen:ds.length=fn.params.size:=by
  have : ∀(ts:List TypeId) (vs:List Value) (ds:List (DataW H)) (ps:List MemPlace),DataW.TrodAll enc P W 0 (fun _=>true) true ts vs ds ps->ds.length=ts.length:=by
   intro ts
   induction ts with
   | nil=>intro vs ds ps h;cases vs<;>cases ds<;>simp_all [DataW.TrodAll]
   | cons t ts ih=>
    intro vs ds ps h
    obtain⟨v,vs',d,ds',p,q,rfl,rfl,rfl,_,h2⟩:=trodAll_cons h
    simp [ih _ _ _ h2]
  rw [this _ _ _ _ hA];simp
 have hspec:=hfn ds hlen
 refine⟨ds,[],p++ [],[],p,[],hW, ?_, ?_, ?_,World.keptBut_mono (fun x hx=>⟨hx, .inr (.inl (by simpa using hx))⟩) (hB.frame (· ∈p++ [])),(fun h=>by cases h)⟩
 ·rw [bY,hspec,hres]
  exact⟨[],[],⟨1,by unfold DataW.trod;simp [hb,Value.cells]⟩,rfl,rfl⟩
 ·rw [bY,hspec]
  exact J9 hl hB _ _ _ _ hrd (fun x hx=>hlt x (by simp [hx])) hA
 ·rw [bY,hspec,hv]
  rfl
end Go.Proofs.YtocckceefcmeaaaGreatDoor.Vc
namespace Go.Proofs.YtocckceefcmeaaaGreatDoor.Id
open Vc Go.Proofs.Tryz
theorem ac9 (a b:ByteArray):yL a b=true↔a=b:=by
 unfold yL
 rw [<-MapKept.bytes_beq a b]
 have:(a==b)=(a.toList==b.toList):=by
  rw [Go.ByteArray.toList_eq,Go.ByteArray.toList_eq]
  obtain⟨⟨x⟩⟩:=a
  obtain⟨⟨y⟩⟩:=b
  show ((⟨x⟩:Array UInt8)==⟨y⟩)=(x==y)
  simp
 rw [this]
theorem ada (a b:ByteArray):yL a b=decide (a=b):=by
 rw [Bool.eq_iff_iff,ac9];simp
theorem adb (x y:ByteArray)(h:x≠y):(FP x y=y∧FN x y=x)∨(FP x y=x∧FN x y=y):=by
 have he:yL x y=false:=by rw [ada];simpa using h
 unfold FP FN
 cases hl:OG x y with
 | true=>left;simp
 | false=>right;simp [he]
structure Lk where
 a:ByteArray
 b:ByteArray
 t:Int
 deriving DecidableEq
def jn (f:ByteArray->ByteArray)(x y:ByteArray):ByteArray->ByteArray:=
 if f x=f y then f else fun z=>if f z=FP (f x) (f y)then FN (f x) (f y)else f z
def rtF (f:ByteArray->ByteArray):List Lk->ByteArray->ByteArray
 | []=>f
 | k::l=>rtF (jn f k.a k.b) l
def rt (l:List Lk):ByteArray->ByteArray:=rtF (fun z=>z) l
theorem ai0 {f:ByteArray->ByteArray}{x y:ByteArray}(h:f x≠f y):jn f x y=fun z=>if f z=FP (f x) (f y)then FN (f x) (f y)else f z:=if_neg h
structure Fo (F:ByteArray->Option ByteArray)(R:ByteArray->ByteArray)(d:ByteArray->Nat):Prop where
 top : ∀k,F k=none->R k=k
 step : ∀k k',F k=some k'->R k'=R k∧d k'<d k
theorem Fo.nil:Fo (fun _=>none) (fun z=>z) (fun _=>0):=⟨fun _ _=>rfl,fun k k' h=>by cases h⟩
theorem Fo.root {F:ByteArray->Option ByteArray}{R:ByteArray->ByteArray}{d:ByteArray->Nat}(h:Fo F R d) : ∀(n:Nat) (k:ByteArray),d k=n->F (R k)=none:=by
 intro n
 induction n using Nat.strongRecOn with
 | _ n ih=>
  intro k hk
  cases hF:F k with
  | none=>rw [h.top k hF];exact hF
  | some k'=>
   obtain⟨h1,h2⟩:=h.step k k' hF
   rw [<-h1]
   exact ih (d k') (by omega) k' rfl
theorem Fo.rr {F:ByteArray->Option ByteArray}{R:ByteArray->ByteArray}{d:ByteArray->Nat}(h:Fo F R d)(k:ByteArray):R (R k)=R k:=h.top _ (h.root _ k rfl)
theorem Fo.join {F:ByteArray->Option ByteArray}{R:ByteArray->ByteArray}{d:ByteArray->Nat}(h:Fo F R d){x y:ByteArray}(hne:R x≠R y) :
  Fo (fun k=>if k=FP (R x) (R y)then some (FN (R x) (R y))else F k) (jn R x y) (fun k=>if R k=FP (R x) (R y)then d k+d (FN (R x) (R y))+1 else d k):=by
 rw [ai0 hne]
 obtain⟨m,hm⟩ : ∃m,m=FP (R x) (R y):=⟨_,rfl⟩
 obtain⟨n,hn⟩ : ∃n,n=FN (R x) (R y):=⟨_,rfl⟩
 rw [<-hm, <-hn]
 have hmn:m≠n∧R m=m∧R n=n:=by
  rcases adb (R x) (R y) hne with ⟨e1,e2⟩|⟨e1,e2⟩
  ·rw [hm,hn,e1,e2];exact⟨fun e=>hne e.symm,h.rr y,h.rr x⟩
  ·rw [hm,hn,e1,e2];exact⟨hne,h.rr x,h.rr y⟩
 obtain⟨h1,h2,h3⟩:=hmn
 refine⟨fun k hk=> ?_,fun k k' hk=> ?_⟩
 ·by_cases e:k=m
  ·rw [if_pos e]at hk;cases hk
  ·rw [if_neg e]at hk
   have:=h.top k hk
   show (if R k=m then n else R k)=k
   rw [this,if_neg e]
 ·show (if R k'=m then n else R k')=(if R k=m then n else R k)∧(if R k'=m then d k'+d n+1 else d k')<(if R k=m then d k+d n+1 else d k)
  by_cases e:k=m
  ·rw [if_pos e]at hk
   injection hk with hk
   subst hk;subst e
   rw [h2,h3,if_pos rfl,if_pos rfl,if_neg fun x=>h1 x.symm,if_neg fun x=>h1 x.symm]
   exact⟨rfl,by omega⟩
  ·rw [if_neg e]at hk
   obtain⟨a,b⟩:=h.step k k' hk
   rw [a]
   refine⟨rfl, ?_⟩
   split<;>omega
end Go.Proofs.YtocckceefcmeaaaGreatDoor.Id
namespace Go.Proofs.YtocckceefcmeaaaGreatDoor.Ky
open RowKit Vc Go.Proofs.YtocckceefcmeaaaGreatDoor.Id Go.Proofs.Tryz
attribute [local irreducible] loadVar storeVar Instr.indexAt Instr.index Instr.sliceAt Instr.makeSlice Instr.lookup Instr.mapUpdate Instr.range Instr.next Instr.entry Instr.makeMap Builtin.append_ Builtin.copy_ Builtin.len_ Builtin.min_ Builtin.max_ Builtin.cap_ Builtin.delete_ Builtin.clear_ convert binOp eqGuard Op.unary Calls
section
theorem mixed:Tryz.prog.follows .mixedOrders=true:=by kernel_rfl
def okB (i c:Nat):Bool:=(decide (97<=c)&&decide (c<=122))||(!decide (i=0)&&((decide (48<=c)&&decide (c<=57))||decide (c=45)||decide (c=95)))
theorem Nz (i c:Nat):okB i c=true↔(97<=c∧c<=122)∨(i≠0∧((48<=c∧c<=57)∨c=45∨c=95)):=by
 simp [okB,or_assoc]
theorem NC (i c:Nat):okB i c=false↔¬((97<=c∧c<=122)∨(i≠0∧((48<=c∧c<=57)∨c=45∨c=95))):=by
 rw [<-Nz];simp
def uw:Nat->List UInt8->Bool
 | _,[]=>true
 | i,c::l=>okB i c.toNat&&uw (i+1) l
theorem IZ (l:List UInt8)(i:Nat)(h:i<l.length):uw i (l.drop i)=(okB i l[i].toNat&&uw (i+1) (l.drop (i+1))):=by
 rw [dI h];rfl
theorem Gq (s:ByteArray)(w:World)(hs:s.size<=140737488355328) :
  zC Tryz.prog 160 #[.string s] w fun v w'=>v = .bool (uw 0 (xq s)&&decide (1<=s.size))∧w'=w:=by
 refine oz func160 rfl mixed (by kernel_rfl) ?_
 have hl:=L8 s
 refine tq (X:=Nat) ab1 (fun i=> [(3, .int .i64 i)]) (fun i w'=>i<=s.size∧w'=w∧uw 0 (xq s)=uw i ((xq s).drop i)) (fun i=>s.size-i) 0 (by kernel_rfl)
  ?_ ⟨au _,rfl,rfl⟩ ?_
 ·exact⟨rfl,trivial⟩
 rintro i w1 j ⟨hi,rfl,hp⟩
 refine lK (fun hlt=> ?_) (fun hge=> ?_)
 ·have hlt:i<s.size:=by have:=of_decide_eq_true hlt;omega
  have hst:=IZ (xq s) i (by omega)
  have hc:(xq s)[i]'(by omega)=s[i]:=by simp;rfl
  rw [hc]at hst
  have hcb:s[i].toNat<256:=s[i].toNat_lt
  obtain⟨c,hcc⟩ : ∃c,c=s[i].toNat:=⟨_,rfl⟩
  rw [hst]at hp
  rw [hp]
  have hno:=NC i c
  have hyes:=Nz i c
  rw [<-hcc]at hcb ⊢ hp
  refine Eh i rfl rfl hlt ?_
  rw [<-hcc]
  conv=>whnf
  clear hst hc hp
  have e0:okB i c=false->(okB i c&&uw (i+1) ((xq s).drop (i+1))&&decide (1<=s.size))=false:=fun h=>by rw [h];rfl
  have e1:okB i c=true->(okB i c&&uw (i+1) ((xq s).drop (i+1)))=uw (i+1) ((xq s).drop (i+1)):=fun h=>by rw [h];rfl
  (repeat' (apply lK<;>intro h;all_goals (conv=>whnf)))
  all_goals first
   | exact rX.mk ⟨congrArg Value.bool (e0 (hno.2 (by(try simp only [cond_true,cond_false,fA,fE,decide_eq_true_eq,decide_eq_false_iff_not,beq_iff_eq,bne_iff_ne,beq_eq_false_iff_ne,bne_eq_false_iff_eq,ne_eq,dR,eU,dH,bf,fF]at *)<;>omega))).symm,rfl⟩
   | exact rU.mk ⟨_,(show s.size -(i+1)<s.size-i by omega),i+1,rfl,⟨qI (incr (by omega)),trivial⟩,hlt,rfl,e1 (hyes.2 (by(try simp only [cond_true,cond_false,fA,fE,decide_eq_true_eq,decide_eq_false_iff_not,beq_iff_eq,bne_iff_ne,beq_eq_false_iff_ne,bne_eq_false_iff_eq,ne_eq,dR,eU,dH,bf,fF]at *)<;>omega))⟩
 ·have hge : ¬i<s.size:=by have:=of_decide_eq_false hge;omega
  obtain rfl:i=s.size:=by omega
  rw [jg (by omega)]at hp
  have hp2:uw 0 (xq s)=true:=hp
  rw [hp2]
  exact rX.mk ⟨by show Value.bool _=_;simp;omega,rfl⟩
def resv:List ByteArray:= [⟨#[97,110,100]⟩,⟨#[97,114,109,115]⟩,⟨#[97,116,116,114,105,98,117,116,101]⟩,⟨#[98,111,111,108]⟩,⟨#[99,108,97,105,109,115]⟩,⟨#[99,111,110,116,97,105,110,115]⟩,⟨#[99,111,111,108]⟩,⟨#[99,111,111,108,105,110,103]⟩,⟨#[100,101,102,97,117,108,116]⟩,⟨#[100,114,97,102,116]⟩,⟨#[101,110,100,115]⟩,⟨#[101,120,99,108,117,100,101]⟩,⟨#[101,120,105,115,116,115]⟩,⟨#[101,120,112,101,114,105,109,101,110,116]⟩,⟨#[102,97,108,115,101]⟩,⟨#[102,108,97,103]⟩,⟨#[104,111,108,100,111,117,116]⟩,⟨#[105,110]⟩,⟨#[105,110,99,108,117,100,101]⟩,⟨#[105,115]⟩,⟨#[108,97,121,101,114]⟩,⟨#[108,105,115,116]⟩,⟨#[109,101,109,98,101,114]⟩,⟨#[110,101,101,100,115]⟩,⟨#[110,111,116]⟩,⟨#[110,117,109,98,101,114]⟩,⟨#[111,102,102]⟩,⟨#[111,110]⟩,⟨#[111,114]⟩,⟨#[114,117,108,101]⟩,⟨#[114,117,110,110,105,110,103]⟩,⟨#[115,97,108,116]⟩,⟨#[115,101,103,109,101,110,116]⟩,⟨#[115,101,114,118,101]⟩,⟨#[115,101,116,116,105,110,103,115]⟩,⟨#[115,112,108,105,116]⟩,⟨#[115,116,97,114,116,115]⟩,⟨#[115,116,111,112,112,101,100]⟩,⟨#[116,97,114,103,101,116]⟩,⟨#[116,101,120,116]⟩,⟨#[116,111]⟩,⟨#[116,114,117,101]⟩,⟨#[117,110,116,105,108]⟩,⟨#[118,97,114,105,97,116,105,111,110,115]⟩,⟨#[118,101,114,115,105,111,110]⟩,⟨#[119,104,101,110]⟩]
def yY (s:ByteArray):Bool:=decide (1<=s.size)&&decide (s.size<=32)&&uw 0 (xq s)&& !(resv.any fun r=>yL r s)
theorem P8 (l:List ByteArray)(f:ByteArray->Bool)(i:Nat)(h:i<l.length):(l.drop i).any f=(f l[i]||(l.drop (i+1)).any f):=by
 rw [dI h];rfl
def xK (l:List ByteArray):List Value:=l.map .string
theorem Ld {l:List ByteArray}{j:Nat}(h:j<l.length):(xK l)[j]? = some (.string l[j]):=by simp [xK,h]
theorem P9 (w:World):zC Tryz.prog 161 #[] w fun v w'=>v = .slice (some ⟨w.heap.size,0,none⟩) 46 46∧At w' w.heap.size 0 (xK resv)∧w.heap.size<w'.heap.size∧Below w.heap.size w w':=by
 refine oz func161 rfl mixed (by kernel_rfl) ?_
 refine rX.mk ⟨rfl, ?_,by simp,rP (Below.refl _ _) (aA _) _⟩
 exact(tu.new w _ _).at
theorem zN:resv.length=46:=rfl
attribute [local irreducible] resv
theorem ade (s:ByteArray)(w:World)(hs:s.size<=140737488355328) :
  zC Tryz.prog 129 #[.string s] w fun v w'=>v = .bool (yY s)∧Below w.heap.size w w':=by
 refine oz func129 rfl mixed (by kernel_rfl) ?_
 have hk:yY s=(decide (1<=s.size)&&decide (s.size<=32)&&uw 0 (xq s)&& !(resv.any fun r=>yL r s)):=rfl
 obtain⟨kb,hkb⟩ : ∃b,b=yY s:=⟨_,rfl⟩
 rw [<-hkb]at hk ⊢
 refine pY (by kernel_rfl) (Gq s w hs) ?_
 rintro _ w1 ⟨rfl,rfl⟩
 obtain⟨wb,hwb⟩ : ∃b,b=uw 0 (xq s):=⟨_,rfl⟩
 rw [<-hwb]at hk ⊢
 refine lK (fun h1=> ?_) (fun h1=> ?_)
 ·have:kb=false:=by rw [hk];cases wb<;>simp_all
  subst this
  exact rX.mk ⟨rfl,Below.refl _ _⟩
 have h1:wb=true∧1<=s.size:=by cases wb<;>simp_all
 refine lK (fun h2=> ?_) (fun h2=> ?_)
 ·have h2 : ¬s.size<=32:=by have:(s.size:Int)>32:=of_decide_eq_true h2;omega
  have:kb=false:=by rw [hk];simp [h2]
  subst this
  exact rX.mk ⟨rfl,Below.refl _ _⟩
 have h2:s.size<=32:=by have : ¬(s.size:Int)>32:=of_decide_eq_false h2;omega
 have hk2:kb = !(resv.any fun r=>yL r s):=by rw [hk,h1.1];simp [h1.2,h2]
 refine pY (by kernel_rfl) (P9 w1) ?_
 rintro _ w2 ⟨rfl,hA,hlt2,hB⟩
 clear hk
 refine tq (X:=Nat) abH (fun i=> [(4, .int .i64 i)]) (fun i w'=>i<=46∧w'=w2∧(resv.any fun r=>yL r s)=(resv.drop i).any fun r=>yL r s) (fun i=>46-i) 0 (by kernel_rfl)
  ?_ ⟨au _,rfl,rfl⟩ ?_
 ·exact⟨rfl,trivial⟩
 rintro i w3 j ⟨hi,rfl,hp⟩
 refine lK (fun hlt=> ?_) (fun hge=> ?_)
 ·have hlt:i<46:=by have:=of_decide_eq_true hlt;omega
  have hil:i<resv.length:=by rw [zN];exact hlt
  rw [P8 _ _ i hil]at hp
  have hg:=Ld hil
  conv=>whnf
  (repeat (first|(refine lN.mk (by first|decide|omega) ?_;conv=>whnf)|(refine oL.mk rfl ?_;conv=>whnf)|(refine oC.keep rfl ?_;conv=>whnf)|(refine F6 _ rfl rfl rfl (by assumption) ?_;conv=>whnf)|(refine XA _ rfl rfl rfl (by assumption) ?_;conv=>whnf)|(refine Cb _ rfl rfl rfl (by assumption) ?_;conv=>whnf)|(refine OU (by with_reducible assumption) (by assumption) rfl rfl ?_;conv=>whnf)|(refine KF (by with_reducible assumption) (by assumption) rfl rfl ?_;conv=>whnf)|(refine OT (by with_reducible assumption) (by assumption) rfl ?_;conv=>whnf)|(refine nK rfl (by with_reducible assumption) (by assumption) ?_;conv=>whnf)))
  apply lK<;>intro h
  ·have:kb=false:=by rw [hk2,hp,h];rfl
   subst this
   exact rX.mk ⟨rfl,hB⟩
  ·rw [h,jE]at hp
   refine rU.mk ⟨_, ?_,(i+1),rfl, ?_, ?_⟩
   ·show 46 -(i+1)<46-i;omega
   ·exact⟨qI (incr (by omega)),trivial⟩
   ·exact⟨hlt,rfl,hp⟩
 ·have hge : ¬i<46:=by have:=of_decide_eq_false hge;omega
  obtain rfl:i=46:=by omega
  rw [jg (by rw [zN];exact aA _)]at hp
  have:kb=true:=by rw [hk2,hp];rfl
  subst this
  exact rX.mk ⟨rfl,hB⟩
end
section
def JW (c:Nat):Int:=if(9<=c∧c<=13)∨c=32 then 1 else 0
def Asc (w:World):Prop:=0<w.heap.size∧∀c,c<256->w.cell? ⟨0,c,none⟩=some (.int .u8 (JW c))
theorem Asc.below {w w':World}(h:Asc w)(hB:Below w.heap.size w w'):Asc w':=⟨bg h.1 hB.size,fun c hc=>by rw [hB.cell (p:=⟨0,c,none⟩) h.1];exact h.2 c hc⟩
theorem adf {P:Program}{w:World}{K:Value->World->Prop}{k:IntKind}{n:Int}(c:K (.int k (nD .xor k (if k.signed then -1 else k.max) n)) w):nZ P (Op.unary .xor (.int k n)) w K:=by
 refine pI ?_ c
 simp [Op.unary,Op.intBits,nD]
theorem Qa {P:Program}{w:World}{K:Value->World->Prop}{t:TypeId}{s:ByteArray}{kl:IntKind}{lo:Int}(a:Nat)(ha:lo=a)(hu:P.underlying t=some .string)(h:a<=s.size)
  (c:K (.string (s.extract a s.size)) w):nZ P (Instr.sliceAt t (.string s) (some (.int kl lo)) none none) w K:=by
 refine pI ?_ c
 subst ha
 unfold Instr.sliceAt
 rw [Sem.run_bind,mM hu]
 simp only [Result.andThen_ok]
 unfold Instr.slice
 rw [Sem.run_bind,mM hu]
 have h1:(0:Int)<=a∧(a:Int)<=s.size:=⟨by omega,by omega⟩
 simp [Instr.sliceBounds,Instr.sliceBound,asIntOf,h1,h]
theorem Gs {P:Program}{w:World}{K:Value->World->Prop}{t e:TypeId}{n b:Nat}{k:IntKind}{ix:Int}(m:Nat)(hm:ix=m)(hu:P.underlying t=some (.array n e))(hs:szB P e=some 1)(h:m<n)
  (hk:K (.pointer (some ⟨b,m,none⟩)) w):nZ P (Instr.indexAt t (.pointer (some ⟨b,0,none⟩)) (.int k ix)) w K:=
 Cb m hu hs hm h (by rw [aV];exact hk)
def c1 (l:List UInt8):Nat->Int×Int×Int
 | 0=>(0,1,0)
 | i+1=>(IntKind.i64.wrap ((c1 l i).1+nD .and .i64 (c1 l i).2.1 (nD .xor .i64 (-1) (IntKind.i64.wrap (JW (l.getD i 0).toNat)))),IntKind.i64.wrap (JW (l.getD i 0).toNat),nD .or .u8 (c1 l i).2.2 ((l.getD i 0).toNat:Nat))
theorem adg (l:List UInt8)(i:Nat):c1 l (i+1)=(IntKind.i64.wrap ((c1 l i).1+nD .and .i64 (c1 l i).2.1 (nD .xor .i64 (-1) (IntKind.i64.wrap (JW (l.getD i 0).toNat)))),IntKind.i64.wrap (JW (l.getD i 0).toNat),nD .or .u8 (c1 l i).2.2 ((l.getD i 0).toNat:Nat)):=rfl
def wl (s:ByteArray):Nat->List ByteArray×Nat
 | 0=>([],0)
 | i+1=>if JW ((xq s).getD i 0).toNat=0 then wl s i else((wl s i).1++ [s.extract (wl s i).2 i],i+1)
theorem Gt (s:ByteArray)(i:Nat):wl s (i+1)=if JW ((xq s).getD i 0).toNat=0 then wl s i else((wl s i).1++ [s.extract (wl s i).2 i],i+1):=rfl
theorem ai1 (s:ByteArray)(i:Nat):(wl s i).2<=i:=by
 induction i with
 | zero=>exact aA _
 | succ i ih=>rw [Gt];split;exact Nat.le_succ_of_le ih;exact aA _
theorem adh (s:ByteArray)(i:Nat) : ∀d,(wl s i).1.length<=(wl s (i+d)).1.length:=by
 intro d
 induction d with
 | zero=>exact aA _
 | succ d ih=>rw [<-fZ,Gt];split;exact ih;simp only [ak,bC,fK];omega
structure ai2 (s:ByteArray):Prop where
 size:s.size<=1000000
 first:0<s.size->JW ((xq s).getD 0 0).toNat=0
 next : ∀i,i<s.size->JW ((xq s).getD i 0).toNat≠0->i+1<s.size∧JW ((xq s).getD (i+1) 0).toNat=0
 plain : ¬(c1 (xq s) s.size).2.2≥128
 count:(c1 (xq s) s.size).1=((wl s s.size).1.length+1:Nat)
 some:0<s.size
 ends:(wl s s.size).2<s.size
theorem ag4 (c:Nat):JW c=0∨JW c=1:=by unfold JW;split;exact .inr rfl;exact .inl rfl
attribute [local irreducible] c1 wl JW
theorem Wi (s:ByteArray)(w:World)(hs:ai2 s)(hA:Asc w) :
  zC Tryz.prog 142 #[.string s] w fun v w'=> ∃b,v = .slice (some ⟨b,0,none⟩) ((wl s s.size).1.length+1) ((wl s s.size).1.length+1)∧At w' b 0 (xK ((wl s s.size).1++ [s.extract (wl s s.size).2 s.size]))∧b<w'.heap.size∧Below w.heap.size w w':=by
 refine oz func142 rfl mixed (by kernel_rfl) ?_
 have hl:=L8 s
 have hsz:=hs.size
 have hby : ∀i (h:i<s.size),(xq s).getD i 0=s[i]:=fun i h=>by
  rw [ay,aj (by rw [hl];exact h)];simp;rfl
 refine tq (X:=Nat) abV (fun i=> [(6, .int .i64 i),(3, .int .i64 (c1 (xq s) i).1),(4, .int .i64 (c1 (xq s) i).2.1),(5, .int .u8 (c1 (xq s) i).2.2)]) (fun i w'=>i<=s.size∧w'=w) (fun i=>s.size-i) 0 (by kernel_rfl)
  ?_ ⟨au _,rfl⟩ ?_
 ·exact⟨rfl,by unfold c1;rfl,by unfold c1;rfl,by unfold c1;rfl,trivial⟩
 rintro i w1 j ⟨hi,rfl⟩
 refine lK (fun hlt=> ?_) (fun hge=> ?_)
 ·have hlt:i<s.size:=by have:=of_decide_eq_true hlt;omega
  have hcb:s[i].toNat<256:=s[i].toNat_lt
  have hcell:=hA.2 s[i].toNat hcb
  have hsc:=adg (xq s) i
  rw [hby i hlt]at hsc
  refine Eh i rfl rfl hlt ?_
  refine Gs s[i].toNat rfl rfl rfl hcb ?_
  refine oV rfl hcell ?_
  refine adf ?_
  refine rU.mk ⟨_, ?_,(i+1),rfl, ?_, ?_⟩
  ·show s.size -(i+1)<s.size-i;omega
  ·exact⟨qI (incr (by omega)),qI (by rw [hsc];rfl),qI (by rw [hsc]),qI (by rw [hsc]),trivial⟩
  ·exact⟨hlt,rfl⟩
 have hge : ¬i<s.size:=by have:=of_decide_eq_false hge;omega
 obtain rfl:i=s.size:=by omega
 have hpl:=hs.plain
 have hcn:=hs.count
 refine zZ (by simpa using hpl) ?_
 rw [hcn]
 have hW:(wl s s.size).1.length<=s.size:=by
  have : ∀i,(wl s i).1.length<=i:=fun i=>by
   induction i with
   | zero=>unfold wl;exact aA _
   | succ i ih=>rw [Gt];split;exact Nat.le_succ_of_le ih;simp only [ak,bC,fK];omega
  exact this _
 obtain⟨N,hN⟩ : ∃N,N=(wl s s.size).1.length+1:=⟨_,rfl⟩
 rw [<-hN]
 refine aaW (n:=N) (qY:=16) (sz:=1) (zs:= [.string ⟨#[]⟩]) rfl rfl rfl rfl rfl rfl rfl rfl (by omega) (by unfold maxLen;omega) ?_
 intro w2 hw2 hb2
 rw [aaX]at hb2
 have hB2:Below w1.heap.size w1 w2:=by rw [hw2];exact rP (Below.refl _ _) (aA _) _
 clear hw2
 conv=>whnf
 have hAs : ∀w',Below w1.heap.size w1 w'->∀c,c<256->w'.cell? ⟨0,c,none⟩=some (.int .u8 (JW c)):=fun w' hB c hc=>(hA.below hB).2 c hc
 have h0s:=hs.some
 have h0:=hs.first h0s
 rw [hby 0 h0s]at h0
 refine tq (X:=Unit) abW (fun _=> [(12, .int .i64 ((0:Nat):Int))]) (fun _ w'=>w'=w2) (fun _=>0) () (by kernel_rfl) ?_ rfl ?_
 ·exact⟨rfl,trivial⟩
 rintro _ w3 j3 rfl
 refine Hl (by simpa using h0s) ?_
 refine Eh 0 rfl rfl h0s ?_
 refine Gs s[0].toNat rfl rfl rfl s[0].toNat_lt ?_
 refine oV rfl (hAs _ hB2 _ s[0].toNat_lt) ?_
 rw [h0]
 refine tq (X:=Nat×List Value) abX (fun x=> [(12, .int .i64 x.1),(10, .int .i64 ((wl s x.1).1.length:Nat)),(11, .int .i64 ((wl s x.1).2:Nat))]) (fun x w'=>x.1<=s.size∧Below w1.heap.size w1 w'∧tu w' w1.heap.size x.2 9∧x.2.length=N∧∃t,x.2=xK (wl s x.1).1++t) (fun x=>s.size-x.1) (0,List.replicate N (.string ⟨#[]⟩)) (by kernel_rfl)
  ?_ ⟨au _,hB2,hb2,by simp,_,by unfold wl;rfl⟩ ?_
 ·exact⟨rfl,by unfold wl;rfl,by unfold wl;rfl,trivial⟩
 clear hb2 hB2
 rintro⟨i,cs⟩ w4 j4 ⟨hi,hB4,hb4,hcl,t,hct⟩
 simp only at hi hb4 hcl hct ⊢
 have hws:=Gt s i
 have hle:=ai1 s i
 refine lK (fun hlt=> ?_) (fun hge=> ?_)
 ·have hlt:i<s.size:=by have:=of_decide_eq_true hlt;omega
  rw [hby i hlt]at hws
  have hcb:s[i].toNat<256:=s[i].toNat_lt
  refine Eh i rfl rfl hlt ?_
  refine Gs s[i].toNat rfl rfl rfl hcb ?_
  refine oV rfl (hAs _ hB4 _ hcb) ?_
  conv=>whnf
  rcases ag4 s[i].toNat with h1|h1
  ·rw [h1]
   rw [if_pos h1]at hws
   refine rU.mk ⟨_, ?_,(i+1,cs),rfl, ?_, ?_⟩
   ·show s.size -(i+1)<s.size-i;omega
   ·exact⟨qI (incr (by omega)),by show _=Value.int .i64 ((wl s (i+1)).1.length:Nat);rw [hws];rfl,by show _=Value.int .i64 ((wl s (i+1)).2:Nat);rw [hws];rfl,trivial⟩
   ·exact⟨hlt,hB4,hb4,hcl,t,by rw [hws];exact hct⟩
  ·rw [h1]
   rw [if_neg (by rw [h1];decide)]at hws
   obtain⟨hn1,hn2⟩:=hs.next i hlt (by rw [hby i hlt,h1];decide)
   rw [hby (i+1) hn1]at hn2
   have hm:=adh s (i+1) (s.size -(i+1))
   rw [show i+1+(s.size -(i+1))=s.size by omega,hws]at hm
   simp only [ak,bC,fK]at hm
   obtain⟨m,hmm⟩ : ∃m,m=(wl s i).1.length:=⟨_,rfl⟩
   rw [<-hmm]at hm ⊢
   have hmN:m<N:=by omega
   refine VK (wl s i).2 i rfl rfl rfl hle (by omega) ?_
   refine F6 m rfl rfl rfl hmN ?_
   refine Ee hb4 rfl rfl (by rw [hcl];omega) ?_
   intro w5 hO5 hb5
   rw [aV]at hb5
   have hB5:=hB4.trans (hO5.below (aA _))
   have hset : ∃t',cs.set m (.string (s.extract (wl s i).2 i))=xK (wl s (i+1)).1++t':=by
    rw [hct,hws]
    have hml:(xK (wl s i).1).length=m:=by rw [hmm];simp [xK]
    rw [iH _ _ (by omega),hml,gQ]
    cases t with
    | nil=>rw [hct,bY,hml]at hcl;omega
    | cons v t=>exact⟨t,by simp [xK]⟩
   clear hb4 hO5
   conv=>whnf
   have e1:IntKind.i64.wrap ((i:Int)+1)=((i+1:Nat):Int):=incr (by omega)
   have e2:IntKind.i64.wrap ((m:Int)+1)=((m+1:Nat):Int):=incr (by omega)
   refine tq (X:=Unit) abY (fun _=> [(12, .int .i64 ((i+1:Nat):Int))]) (fun _ w'=>w'=w5) (fun _=>0) () (by kernel_rfl) ?_ rfl ?_
   ·exact⟨qI e1,trivial⟩
   rintro _ w6 j6 rfl
   refine Hl (by simp only [decide_eq_true_eq];omega) ?_
   refine Eh (i+1) rfl rfl hn1 ?_
   refine Gs s[i+1].toNat rfl rfl rfl s[i+1].toNat_lt ?_
   refine oV rfl (hAs _ hB5 _ s[i+1].toNat_lt) ?_
   rw [hn2]
   conv=>whnf
   obtain⟨t',ht'⟩:=hset
   refine rU.mk ⟨_, ?_,(i+1,cs.set m (.string (s.extract (wl s i).2 i))),rfl, ?_, ?_⟩
   ·show s.size -(i+1)<s.size-i;omega
   ·refine⟨rfl, ?_, ?_,trivial⟩
    ·show Value.int .i64 (IntKind.i64.wrap ((m:Int)+1))=Value.int .i64 ((wl s (i+1)).1.length:Nat)
     rw [e2,hws,ak, <-hmm];rfl
    ·show _=Value.int .i64 ((wl s (i+1)).2:Nat)
     rw [hws];rfl
   ·exact⟨hlt,hB5,hb5,by show (cs.set m _).length=N;rw [bV];exact hcl,t',ht'⟩
 have hge : ¬i<s.size:=by have:=of_decide_eq_false hge;omega
 obtain rfl:i=s.size:=by omega
 have hend:=hs.ends
 obtain⟨m,hmm⟩ : ∃m,m=(wl s s.size).1.length:=⟨_,rfl⟩
 rw [<-hmm]
 have hmN:m<N:=by omega
 refine Hl (by simp only [decide_eq_true_eq];omega) ?_
 refine Qa (wl s s.size).2 rfl rfl hle ?_
 refine F6 m rfl rfl rfl hmN ?_
 refine Ee hb4 rfl rfl (by rw [hcl];omega) ?_
 intro w5 hO5 hb5
 rw [aV]at hb5
 have hfin:cs.set m (.string (s.extract (wl s s.size).2 s.size))=xK ((wl s s.size).1++ [s.extract (wl s s.size).2 s.size]):=by
  have hml:(xK (wl s s.size).1).length=m:=by rw [hmm];simp [xK]
  rw [hct]at hcl ⊢
  rw [iH _ _ (by omega),hml,gQ]
  rw [ak,hml]at hcl
  match t,hcl with
  | [v],_=>simp [xK]
  | [],h=>simp at h;omega
  | _::_::_,h=>simp at h;omega
 rw [hfin]at hb5
 exact rX.mk ⟨w1.heap.size,by rw [hN];rfl,hb5.at,hb5.lt,hB4.trans (hO5.below (aA _))⟩
end
section
def okW (s:ByteArray):Bool:=
 decide (s.size<=1000000)&&decide (0<s.size)&&decide (JW ((xq s).getD 0 0).toNat=0)&&
 ((List.range s.size).all fun i=>decide (JW ((xq s).getD i 0).toNat=0)||(decide (i+1<s.size)&&decide (JW ((xq s).getD (i+1) 0).toNat=0)))&&
 decide (¬(c1 (xq s) s.size).2.2≥128)&&decide ((c1 (xq s) s.size).1=((wl s s.size).1.length+1:Nat))&&decide ((wl s s.size).2<s.size)&&
 (((wl s s.size).1++ [s.extract (wl s s.size).2 s.size]).map xq==resv.map xq)
theorem adi {a b:ByteArray}(h:xq a=xq b):a=b:=by
 obtain⟨⟨x⟩⟩:=a
 obtain⟨⟨y⟩⟩:=b
 have:x=y:=h
 rw [this]
theorem Qb : ∀(l m:List ByteArray),l.map xq=m.map xq->l=m:=by
 intro l
 induction l with
 | nil=>intro m h;cases m with
  | nil=>rfl
  | cons _ _=>simp at h
 | cons a l ih=>intro m h;cases m with
  | nil=>simp at h
  | cons b m=>
   rw [gG,gG]at h
   injection h with h1 h2
   rw [adi h1,ih m h2]
theorem YD {s:ByteArray}(h:okW s=true):ai2 s∧(wl s s.size).1++ [s.extract (wl s s.size).2 s.size]=resv:=by
 unfold okW at h
 simp only [aB,decide_eq_true_eq]at h
 obtain⟨⟨⟨⟨⟨⟨⟨h1,h2⟩,h3⟩,h4⟩,h5⟩,h6⟩,h7⟩,h8⟩:=h
 refine⟨⟨h1,fun _=>h3,fun i hi hne=> ?_,h5,h6,h2,h7⟩,Qb _ _ (by simpa using h8)⟩
 have:=bP.1 h4 i (by simpa using hi)
 simp only [ji,aB,decide_eq_true_eq]at this
 rcases this with h|h
 ·exact absurd h hne
 ·exact h
theorem Qc (s:ByteArray)(w:World)(hs:okW s=true)(hA:Asc w) :
  zC Tryz.prog 142 #[.string s] w fun v w'=> ∃b,v = .slice (some ⟨b,0,none⟩) 46 46∧At w' b 0 (xK resv)∧b<w'.heap.size∧Below w.heap.size w w':=by
 obtain⟨hn,hr⟩:=YD hs
 refine(Wi s w hn hA).mono ?_
 rintro _ w' ⟨b,rfl,hat,hb⟩
 have hl:(wl s s.size).1.length+1=46:=by
  have:=congrArg List.length hr
  rw [zN]at this
  simpa using this
 rw [hr]at hat
 exact⟨b,by rw [hl],hat,hb⟩
attribute [local irreducible] resv okW
theorem adk (s:ByteArray)(w:World)(hA:Asc w)(hs:s.size<=140737488355328) :
  zC Tryz.prog 118 #[.string s] w fun v w'=>v = .bool (yY s)∧Below w.heap.size w w':=by
 refine oz func118 rfl mixed (by kernel_rfl) ?_
 have hk:yY s=(decide (1<=s.size)&&decide (s.size<=32)&&uw 0 (xq s)&& !(resv.any fun r=>yL r s)):=rfl
 obtain⟨kb,hkb⟩ : ∃b,b=yY s:=⟨_,rfl⟩
 rw [<-hkb]at hk ⊢
 have hl:=L8 s
 refine lK (fun h1=> ?_) (fun h1=> ?_)
 ·have h1 : ¬1<=s.size:=by have:(s.size:Int)<1:=of_decide_eq_true h1;omega
  have:kb=false:=by rw [hk];simp [h1]
  subst this
  exact rX.mk ⟨rfl,Below.refl _ _⟩
 have h1:1<=s.size:=by have : ¬(s.size:Int)<1:=of_decide_eq_false h1;omega
 refine lK (fun h2=> ?_) (fun h2=> ?_)
 ·have h2 : ¬s.size<=32:=by have:(s.size:Int)>32:=of_decide_eq_true h2;omega
  have:kb=false:=by rw [hk];simp [h2]
  subst this
  exact rX.mk ⟨rfl,Below.refl _ _⟩
 have h2:s.size<=32:=by have : ¬(s.size:Int)>32:=of_decide_eq_false h2;omega
 have hk2:kb=(uw 0 (xq s)&& !(resv.any fun r=>yL r s)):=by rw [hk];simp [h1,h2]
 clear hk
 refine VL rfl ?_
 intro w1 hB1 hI1
 refine tq (X:=Nat) abz (fun _=> []) (fun i w'=>i<=s.size∧Below w.heap.size w w'∧Itr w' w.heap.size s i∧uw 0 (xq s)=uw i ((xq s).drop i)) (fun i=>s.size-i) 0 (by kernel_rfl)
  ?_ ⟨au _,hB1,hI1,rfl⟩ ?_
 ·exact trivial
 rintro i w2 j ⟨hi,hB2,hI2,hp⟩
 clear hI1 hB1
 conv=>whnf
 by_cases hlt:i<s.size
 ·have hst:=IZ (xq s) i (by omega)
  have hc:(xq s)[i]'(by omega)=s[i]:=by simp;rfl
  rw [hc]at hst
  have hcb:s[i].toNat<256:=s[i].toNat_lt
  rw [hst]at hp
  refine aa0 hI2 hlt (fun hpl w3 hO3 hI3=> ?_) (fun hnp w3 c q hO3 _ hc2=> ?_)
  ·obtain⟨c,hcc⟩ : ∃c,c=s[i].toNat:=⟨_,rfl⟩
   have hno:=NC i c
   have hyes:=Nz i c
   rw [<-hcc]at hp hpl ⊢
   have hB3:=hB2.trans (hO3.below (aA _))
   have e0:okB i c=false->kb=false:=fun h=>by rw [hk2,hp,h];rfl
   have e1:okB i c=true->uw 0 (xq s)=uw (i+1) ((xq s).drop (i+1)):=fun h=>by rw [hp,h];rfl
   clear hst hc hcb hI2 hO3 hp
   conv=>whnf
   (repeat' (apply lK<;>intro h;all_goals (conv=>whnf)))
   all_goals first
    | exact rX.mk ⟨congrArg Value.bool (e0 (hno.2 (by(try simp only [cond_true,cond_false,fA,fE,decide_eq_true_eq,decide_eq_false_iff_not,beq_iff_eq,bne_iff_ne,beq_eq_false_iff_ne,bne_eq_false_iff_eq,ne_eq,dR,eU,dH,bf,fF]at *)<;>omega))).symm,hB3⟩
    | exact rU.mk ⟨_,(show s.size -(i+1)<s.size-i by omega),i+1,rfl,trivial,hlt,hB3,hI3,e1 (hyes.2 (by(try simp only [cond_true,cond_false,fA,fE,decide_eq_true_eq,decide_eq_false_iff_not,beq_iff_eq,bne_iff_ne,beq_eq_false_iff_ne,bne_eq_false_iff_eq,ne_eq,dR,eU,dH,bf,fF]at *)<;>omega))⟩
  ·have hB3:=hB2.trans (hO3.below (aA _))
   have e0:kb=false:=by
    have:okB i s[i].toNat=false:=(NC i _).2 (by omega)
    rw [hk2,hp,this];rfl
   clear hst hc hcb hI2 hO3 hp
   subst e0
   conv=>whnf
   (repeat' (apply lK<;>intro h;all_goals (conv=>whnf)))
   all_goals first
    | exact rX.mk ⟨rfl,hB3⟩
    | (exfalso;clear hk2;exact(by(try simp only [cond_true,cond_false,fA,fE,decide_eq_true_eq,decide_eq_false_iff_not,beq_iff_eq,bne_iff_ne,beq_eq_false_iff_ne,bne_eq_false_iff_eq,ne_eq,dR,eU,dH,bf,fF]at *)<;>omega))
 ·obtain rfl:i=s.size:=by omega
  rw [jg (by omega)]at hp
  have hp2:uw 0 (xq s)=true:=hp
  have hk3:kb = !(resv.any fun r=>yL r s):=by rw [hk2,hp2];rfl
  refine Rx hI2 (aA _) ?_
  refine pY (by kernel_rfl) (Qc _ w2 (by kernel_rfl) (hA.below hB2)) ?_
  rintro _ w3 ⟨b,rfl,hA3,hb3,hB3⟩
  have Wj:=hB2.trans (hB3.mono hB2.size)
  clear hB3 hI2 hk2
  refine tq (X:=Nat) abA (fun i=> [(52, .int .i64 i)]) (fun i w'=>i<=46∧w'=w3∧(resv.any fun r=>yL r s)=(resv.drop i).any fun r=>yL r s) (fun i=>46-i) 0 (by kernel_rfl)
   ?_ ⟨au _,rfl,rfl⟩ ?_
  ·exact⟨rfl,trivial⟩
  rintro i w4 j ⟨hi,rfl,hp⟩
  refine lK (fun hlt=> ?_) (fun hge=> ?_)
  ·have hlt:i<46:=by have:=of_decide_eq_true hlt;omega
   have hil:i<resv.length:=by rw [zN];exact hlt
   rw [P8 _ _ i hil]at hp
   have hg:=Ld hil
   conv=>whnf
   (repeat (first|(refine lN.mk (by first|decide|omega) ?_;conv=>whnf)|(refine oL.mk rfl ?_;conv=>whnf)|(refine oC.keep rfl ?_;conv=>whnf)|(refine F6 _ rfl rfl rfl (by assumption) ?_;conv=>whnf)|(refine XA _ rfl rfl rfl (by assumption) ?_;conv=>whnf)|(refine Cb _ rfl rfl rfl (by assumption) ?_;conv=>whnf)|(refine OU (by with_reducible assumption) (by assumption) rfl rfl ?_;conv=>whnf)|(refine KF (by with_reducible assumption) (by assumption) rfl rfl ?_;conv=>whnf)|(refine OT (by with_reducible assumption) (by assumption) rfl ?_;conv=>whnf)|(refine nK rfl (by with_reducible assumption) (by assumption) ?_;conv=>whnf)))
   apply lK<;>intro h
   ·have:kb=false:=by rw [hk3,hp,h];rfl
    subst this
    exact rX.mk ⟨rfl,Wj⟩
   ·rw [h,jE]at hp
    refine rU.mk ⟨_, ?_,(i+1),rfl, ?_, ?_⟩
    ·show 46 -(i+1)<46-i;omega
    ·exact⟨qI (incr (by omega)),trivial⟩
    ·exact⟨hlt,rfl,hp⟩
  ·have hge : ¬i<46:=by have:=of_decide_eq_false hge;omega
   obtain rfl:i=46:=by omega
   rw [jg (by rw [zN];exact aA _)]at hp
   have:kb=true:=by rw [hk3,hp];rfl
   subst this
   exact rX.mk ⟨rfl,Wj⟩
end
end Go.Proofs.YtocckceefcmeaaaGreatDoor.Ky
namespace Go.Proofs.YtocckceefcmeaaaGreatDoor.Cl
open RowKit Vc Ax Ky Go.Proofs.YtocckceefcmeaaaGreatDoor.Id Go.Proofs.Tryz
def spL:List Value:=(List.range 256).map fun c=> .int .u8 (JW c)
def GS:Glob:=⟨0+1,fun g=>if g=0 then some spL else none,fun _=>none⟩
theorem ag6 {w:World}(h:GS.holds w):Asc w:=by
 refine⟨bg (jU _) h.1,fun c hc=> ?_⟩
 have:=(h.2.1 0 spL (by simp [GS])).2 c (.int .u8 (JW c)) (by unfold spL;rw [aU,gV hc];rfl)
 exact this
theorem UA (s:ByteArray)(h:s.size<=140737488355328):mQ Tryz.prog GS 118 [.v (.string s)] 0 [] (Is (.v (.bool (yY s)))):=BH (l:= [.string s]) fun w hG=>adk s w (ag6 hG) h
theorem UC (s:ByteArray)(h:s.size<=140737488355328):mQ Tryz.prog GS 129 [.v (.string s)] 0 [] (Is (.v (.bool (yY s)))):=BH (l:= [.string s]) fun w hG=>ade s w h
theorem Wn {s:ByteArray}(h:yY s=true):s.size<=32:=by
 unfold yY at h
 simp only [aB,decide_eq_true_eq]at h
 omega
section
variable {P:Program}{H:Type}{enc:TypeId×Value->H}{w:World}
theorem ae3 {n:Int}(h:(Lit.int .u8 n).wf=true) : ∃k:Nat,n=k∧k<256:=by
 have:0<=n∧n<=255:=by simpa [Lit.wf,IntKind.min,IntKind.max,IntKind.signed,IntKind.bits]using h
 exact⟨n.toNat,by omega,by omega⟩
end
theorem ak5:Tryz.prog.globalNamed "strings.asciiSpace" = some 0:=by kernel_rfl
theorem ak6:(Tryz.prog.globals[0]?).map (·.type)=some 203:=by kernel_rfl
theorem ak7:(Rows.laid_strings_asciiSpace:DataW Unit) = .agg ((List.range 256).map fun c=> .lit (.int .u8 (JW c))):=by kernel_rfl
theorem ai3 {W:World}(h:laidMetH Tryz.prog [("unicode.White_Space",Rows.laid_unicode_White_Space),("strings.asciiSpace",Rows.laid_strings_asciiSpace)] W):GS.holds W:=by
 rw [MakeChecks.laidMetH_plain _ _ _ (by kernel_rfl)]at h
 obtain⟨ps,⟨_,_,_,_,_,_,_,_,_,_,⟨g0,t0,cs0,f0,p0,q0,hg0,ht0,hv0,hd0,_⟩,_⟩,_,_⟩:=h
 obtain rfl:=jZ (ak5.symm.trans hg0)
 obtain rfl:=jZ (ak6.symm.trans ht0)
 rw [ak7]at hd0
 obtain⟨xs,m,rfl,hd,hcl,hxl,hel⟩:=DataW.trod_array (e:=5) (n:=256) rfl hd0
 injection hd with hd _
 injection hd with hd
 have key : ∀i,i<256->W.cell? ⟨0,i,none⟩=some (.int .u8 (JW i)):=fun i hi=>by
  have h1:=hel i hi
  have hx:xs[i]? = some xs[i]:=aj (by omega)
  rw [hx]at h1
  obtain⟨k,e,f,_⟩:=DataW.trod_int (t:=5) (k:= .u8) rfl h1
  have hf:(xs.map (·.1))[i]? = some (.lit (.int .u8 k)):=by rw [aU,hx,f];rfl
  rw [<-hd,aU,gV hi]at hf
  simp only [bU,aN,DataW.lit.injEq,Lit.int.injEq,true_and]at hf
  rw [World.var?_cell hg0 hv0 i, <-bn]
  have e1:Tryz.prog.cellsOf 5=1:=by kernel_rfl
  rw [e1,fO]at e
  have:(cs0.toList.drop i)[0]? = some (.int .u8 k):=by
   cases hdr:cs0.toList.drop i with
   | nil=>rw [hdr]at e;cases e
   | cons a r=>rw [hdr]at e;injection e with e;rw [e];rfl
  rw [dA,dS]at this
  rw [this,hf]
 have hsz:0<W.heap.size:=World.block_lt_of_cell? W _ (key 0 (by decide))
 refine⟨hsz,fun g cs hg=> ?_,fun _ _ h=>by cases h⟩
 simp only [GS]at hg
 split at hg
 ·rename_i e
  injection hg with hg
  subst e;subst hg
  refine⟨jU _,fun j v hj=> ?_⟩
  unfold spL at hj
  rw [aU]at hj
  rcases dP j 256 with h1|h1
  ·rw [gV h1]at hj
   simp only [bU,aN]at hj
   rw [key j h1,hj]
  ·rw [fG (by simpa using h1)]at hj
   cases hj
 ·cases hg
def zu (n:Int):Nat:=if n<0 then(-2*n-1).toNat else(2*n).toNat
def zz (u:Nat):Int:=if u%2=1 then -((u/2:Nat):Int)-1 else((u/2:Nat):Int)
theorem ai4 (n:Int):zz (zu n)=n:=by
 unfold zz zu
 by_cases h:n<0
 ·rw [if_pos h];split<;>omega
 ·rw [if_neg h];split<;>omega
theorem ai5 (u:Nat):zu (zz u)=u:=by
 unfold zz zu
 split<;>split<;>omega
theorem YE {n:Int}(h:I64 n):zu n<18446744073709551616:=by
 unfold zu I64 at *
 split<;>omega
theorem ag7 {u:Nat}(h:u<18446744073709551616):I64 (zz u):=by
 unfold zz I64
 split<;>omega
def grp:Nat->Nat->By
 | 0,u=> [UInt8.ofNat u]
 | f+1,u=>if u<128 then [UInt8.ofNat u]else UInt8.ofNat (128+u%128)::grp f (u/128)
def num (n:Int):By:=grp 9 (zu n)
inductive RN where
 | bad (e:Int)
 | ok (n:Int) (k:Nat)
def DW:By->Nat->Nat->RN
 | [],_,_=> .bad 16
 | c::r,i,u=>if i=9∧1<c.toNat then .bad 3 else if 128<=c.toNat then DW r (i+1) (u+c.toNat%128*128^i)else if c.toNat=0∧0<i then .bad 1 else .ok (zz (u+c.toNat%128*128^i)) (i+1)
theorem ag8 (f u:Nat):grp f u≠ []:=by
 cases f with
 | zero=>simp [grp]
 | succ f=>unfold grp;split<;>simp
theorem adl (f u:Nat):0<(grp f u).length:=by
 have:=ag8 f u
 cases h:grp f u with
 | nil=>exact absurd h this
 | cons a r=>simp
theorem adn (f u:Nat):(grp f u).length<=f+1:=by
 induction f generalizing u with
 | zero=>simp [grp]
 | succ f ih=>
  unfold grp
  split
  ·simp
  ·have:=ih (u/128);simp;omega
theorem BK (i:Nat):128^(i+1)=128*128^i:=by rw [gZ,gY]
theorem ag9 (r:By) : ∀(f u i acc:Nat),i+f=9->u<2*128^f->(i=0∨u≠0)->DW (grp f u++r) i acc = .ok (zz (acc+u*128^i)) (i+(grp f u).length):=by
 intro f
 induction f with
 | zero=>
  intro u i acc hi hu h0
  have hu2:u<2:=by simpa using hu
  simp only [grp,iq,dO,DW]
  rw [toNat_ofNat (by omega)]
  rw [if_neg (by omega),if_neg (by omega),if_neg (by omega),cZ (by omega:u<128)]
  simp
 | succ f ih=>
  intro u i acc hi hu h0
  unfold grp
  by_cases h:u<128
  ·rw [if_pos h]
   simp only [iq,dO,DW]
   rw [toNat_ofNat (by omega)]
   rw [if_neg (by omega),if_neg (by omega),if_neg (by omega),cZ h]
   simp
  ·rw [if_neg h]
   have hm:u%128<128:=iM _ (by decide)
   simp only [iq,DW]
   rw [toNat_ofNat (by omega)]
   rw [if_neg (by omega),if_pos (by omega)]
   rw [BK]at hu
   rw [ih (u/128) (i+1) _ (by omega) (by omega) (by omega)]
   have e1:(128+u%128)%128=u%128:=by omega
   have e2:u%128*128^i+u/128*128^(i+1)=u*128^i:=by
    rw [BK, <-Nat.mul_assoc, <-bJ]
    have:u%128+u/128*128=u:=by omega
    rw [this]
   rw [e1,fZ,e2]
   simp only [bC]
   congr 1
   omega
theorem aha (n:Int)(hn:I64 n)(r:By):DW (num n++r) 0 0 = .ok n (num n).length:=by
 unfold num
 rw [ag9 r 9 (zu n) 0 0 rfl (by have:=YE hn;omega) (.inl rfl)]
 simp [ai4]
theorem ado : ∀(b:By) (i acc:Nat) (n:Int) (k:Nat),i<=9->DW b i acc = .ok n k->∃u,u<2*128^(9-i)∧b.take (k-i)=grp (9-i) u∧n=zz (acc+u*128^i)∧i<k∧k-i<=b.length∧(i=0∨u≠0):=by
 intro b
 induction b with
 | nil=>intro i acc n k _ h;cases h
 | cons c r ih=>
  intro i acc n k hi h
  simp only [DW]at h
  have hc:c.toNat<256:=c.toNat_lt
  have ec:UInt8.ofNat c.toNat=c:=by simp
  split at h
  ·cases h
  rename_i h9
  split at h
  ·rename_i h128
   have hi9:i≠9:=fun e=>h9 ⟨e,by omega⟩
   obtain⟨u,h1,h2,h3,h4,h5,h6⟩:=ih (i+1) _ n k (by omega) h
   obtain⟨f,hf⟩ : ∃f,9-i=f+1:=⟨8-i,by omega⟩
   have hf':9 -(i+1)=f:=by omega
   rw [hf']at h1 h2
   have hu:u≠0:=h6.resolve_left (by omega)
   refine⟨c.toNat-128+128*u, ?_, ?_, ?_,by omega,by simp only [bC];omega, .inr (by omega)⟩
   ·rw [hf,BK];omega
   ·rw [hf]
    have ek:k-i=(k -(i+1))+1:=by omega
    rw [ek,iL,h2]
    unfold grp
    rw [if_neg (by omega)]
    have e1:128+(c.toNat-128+128*u)%128=c.toNat:=by omega
    have e2:(c.toNat-128+128*u)/128=u:=by omega
    rw [e1,e2,ec]
    cases f<;>rfl
   ·rw [h3]
    have e1:c.toNat%128=c.toNat-128:=by omega
    rw [e1,BK,bJ,fZ]
    congr 2
    rw [<-Nat.mul_assoc,gY u 128]
  ·rename_i h128
   split at h
   ·cases h
   ·rename_i h0
    injection h with e1 e2
    subst e2
    have hc1:c.toNat<128:=by omega
    refine⟨c.toNat, ?_, ?_, ?_,by omega,by simp,by omega⟩
    ·rcases dP i 9 with hl|hl
     ·obtain⟨f,hf⟩ : ∃f,9-i=f+1:=⟨8-i,by omega⟩
      rw [hf,BK]
      have:0<128^f:=Nat.pow_pos (by decide)
      omega
     ·have:i=9:=by omega
      subst this
      have : ¬1<c.toNat:=fun h=>h9 ⟨rfl,h⟩
      simp;omega
    ·have e3:i+1-i=1:=by omega
     rw [e3]
     simp only [iL,jv]
     cases hf:9-i with
     | zero=>simp [grp]
     | succ f=>unfold grp;rw [if_pos hc1,ec]
    ·rw [<-e1,cZ hc1]
theorem Wp {b:By}{n:Int}{k:Nat}(h:DW b 0 0 = .ok n k):b=num n++b.drop k∧k=(num n).length∧I64 n∧0<k∧k<=b.length:=by
 obtain⟨u,h1,h2,h3,h4,h5,_⟩:=ado b 0 0 n k (by omega) h
 have e:n=zz u:=by simpa using h3
 have hg:num n=grp 9 u:=by unfold num;rw [e,ai5]
 simp only [iU]at h2 h5
 refine⟨by rw [hg, <-h2,gy], ?_, ?_,h4,h5⟩
 ·rw [hg, <-h2,aK];omega
 ·rw [e];exact ag7 (by simp only [iU]at h1;omega)
theorem ni (n:Int):0<(num n).length∧(num n).length<=10:=⟨adl _ _,adn _ _⟩
def ny (b:By)(e:Int):Int×Nat×Int:=
 if e=0 then(match DW b 0 0 with
  | .bad e'=>(0,0,e')
  | .ok n k=>(n,k,0))else(0,0,e)
theorem adp : ∀ {b:By} {i u:Nat} {e:Int},DW b i u = .bad e->e=16∨e=3∨e=1:=by
 intro b
 induction b with
 | nil=>intro i u e h;injection h with h;exact .inl h.symm
 | cons c r ih=>
  intro i u e h
  simp only [DW]at h
  split at h
  ·injection h with h;exact .inr (.inl h.symm)
  ·split at h
   ·exact ih h
   ·split at h
    ·injection h with h;exact .inr (.inr h.symm)
    ·cases h
theorem rV {n:Int}(hn:I64 n)(r:By):ny (num n++r) 0=(n,(num n).length,0):=by
 unfold ny
 rw [if_pos rfl,aha n hn r]
theorem oN (b:By)(e:Int):I64 (ny b e).1∧(ny b e).2.1<=b.length∧((ny b e).2.2=0->e=0∧b=num (ny b e).1++b.drop (ny b e).2.1∧(ny b e).2.1=(num (ny b e).1).length)∧((ny b e).2.2≠0->(ny b e).1=0∧(ny b e).2.1=0):=by
 have z:I64 0:=by unfold I64;omega
 unfold ny
 by_cases h:e=0
 ·rw [if_pos h]
  cases hr:DW b 0 0 with
  | bad e'=>exact⟨z,au _,fun h=>by have:=adp hr;simp only at h;omega,fun _=>⟨rfl,rfl⟩⟩
  | ok n k=>
   have:=Wp hr
   exact⟨this.2.2.1,this.2.2.2.2,fun _=>⟨h,this.1,this.2.1⟩,fun h=>absurd rfl h⟩
 ·rw [if_neg h]
  exact⟨z,au _,fun h'=>absurd h' h,fun _=>⟨rfl,rfl⟩⟩
def qg (b:By)(e most em:Int):Int×Nat×Int:=
 let t:=ny b e
 let e1:=if t.2.2=0 then(if t.1<0 then 3 else if most<t.1 then em else 0)else t.2.2
 (if e1=0 then t.1 else 0,t.2.1,e1)
theorem sH {n:Nat}(h:n<18446744073709551616):IntKind.u64.wrap (n:Int)=n:=by
 have e:IntKind.u64.bits=64:=rfl
 have s:IntKind.u64.signed=false:=rfl
 simp only [IntKind.wrap,e,s,dY,bf,if_false]
 omega
theorem yH {n:Nat}(h:n<256):IntKind.u8.wrap (n:Int)=n:=by
 have e:IntKind.u8.bits=8:=rfl
 have s:IntKind.u8.signed=false:=rfl
 simp only [IntKind.wrap,e,s,dY,bf,if_false]
 omega
theorem wP (k n:Nat):BitVec.ofInt k (n:Int)=BitVec.ofNat k n:=by
 apply jR
 simp
theorem ND (a b:Nat)(ha:a<18446744073709551616)(hb:b<18446744073709551616):nD .or .u64 a b=((a ||| b:Nat):Int):=by
 have e:IntKind.u64.bits=64:=rfl
 have h:=jP (n:=64) ha hb
 simp only [nD,e,wP,kW,fQ]
 rw [cZ ha,cZ hb,sH h]
theorem I4 (a b:Nat)(ha:a<18446744073709551616)(hb:b<18446744073709551616):nD .and .u64 a b=((a &&& b:Nat):Int):=by
 have e:IntKind.u64.bits=64:=rfl
 have h:=Nat.and_lt_two_pow (n:=64) a hb
 simp only [nD,e,wP,BitVec.toNat_and,fQ]
 rw [cZ ha,cZ hb,sH h]
theorem Dh (a b:Nat)(ha:a<18446744073709551616)(hb:b<18446744073709551616):nD .xor .u64 a b=((a ^^^ b:Nat):Int):=by
 have e:IntKind.u64.bits=64:=rfl
 have h:=Nat.xor_lt_two_pow (n:=64) ha hb
 simp only [nD,e,wP,BitVec.toNat_xor,fQ]
 rw [cZ ha,cZ hb,sH h]
theorem NG (a b:Nat)(ha:a<256)(hb:b<256):nD .or .u8 a b=((a ||| b:Nat):Int):=by
 have e:IntKind.u8.bits=8:=rfl
 have h:=jP (n:=8) ha hb
 simp only [nD,e,wP,kW,fQ]
 rw [cZ ha,cZ hb,yH h]
theorem UD (a b:Nat)(ha:a<256)(hb:b<256):nD .and .u8 a b=((a &&& b:Nat):Int):=by
 have e:IntKind.u8.bits=8:=rfl
 have h:=Nat.and_lt_two_pow (n:=8) a hb
 simp only [nD,e,wP,BitVec.toNat_and,fQ]
 rw [cZ ha,cZ hb,yH h]
theorem YF (a:Nat):a &&& 127=a%128:=jV a 7
theorem and1 (a:Nat):a &&& 1=a%2:=jV a 1
theorem EH {a:Nat}(k c:Nat)(ha:a<2^k):a ||| c*2^k=a+c*2^k:=by
 rw [Nat.or_comm,gY, <-Nat.two_pow_add_eq_or_of_lt ha,lH]
theorem ae4 {a:Nat}(h:a<256):a ||| 128=128+a%128:=by
 have e:a ||| 128=(a%128) ||| 1*2^7 ||| (a/128)*2^7:=by
  have h1:a=a%128 ||| (a/128)*2^7:=by rw [EH 7 _ (by omega)];omega
  have h2:a ||| 128=(a%128 ||| (a/128)*2^7) ||| 128:=by rw [<-h1]
  rw [h2,lI,lI,Nat.or_comm (a/128*2^7)]
 rw [e,EH 7 1 (by omega)]
 have:a/128=0∨a/128=1:=by omega
 rcases this with h0|h0
 ·rw [h0];simp;omega
 ·rw [h0]
  have e2:a%128+1*2^7=a%128 ||| 1*2^7:=(EH 7 1 (by omega)).symm
  rw [e2,lI,Nat.or_self, <-e2];omega
theorem I5 {a:Nat}(h:a<18446744073709551616):a ^^^ 18446744073709551615=18446744073709551615-a:=by
 have h1:(BitVec.ofNat 64 a ^^^ BitVec.allOnes 64).toNat=(~~~ (BitVec.ofNat 64 a)).toNat:=by rw [BitVec.xor_allOnes]
 simp only [BitVec.toNat_xor,BitVec.toNat_not,fQ,BitVec.toNat_allOnes]at h1
 have e:(2:Nat)^64=18446744073709551616:=by decide
 rw [e,cZ h]at h1
 omega
def pat (n:Int):Nat:=(n%18446744073709551616).toNat
theorem I7 (n:Int)(h : -9223372036854775808<=n∧n<=9223372036854775807):IntKind.i64.wrap ((pat n:Nat):Int)=n:=by
 have e:IntKind.i64.bits=64:=rfl
 have s:IntKind.i64.signed=true:=rfl
 unfold pat
 simp only [IntKind.wrap,e,s,gW,decide_eq_true_eq]
 split<;>omega
theorem Le (n:Int):BitVec.ofInt 64 n=BitVec.ofNat 64 (pat n):=by
 apply jR
 simp only [kF,fQ,pat]
 omega
theorem ahb (a:Int)(h : -9223372036854775808<=a∧a<=9223372036854775807):nD .xor .i64 a 0=a:=by
 show IntKind.i64.wrap ((BitVec.ofInt 64 a ^^^ BitVec.ofInt 64 0).toNat:Int)=a
 have:BitVec.ofInt 64 a ^^^ BitVec.ofInt 64 0=BitVec.ofInt 64 a:=by simp
 rw [this,Le,fQ,cZ (by unfold pat;omega),I7 a h]
theorem ahc (a:Int)(h : -9223372036854775808<=a∧a<=9223372036854775807):nD .xor .i64 a (-1) = -a-1:=by
 show IntKind.i64.wrap ((BitVec.ofInt 64 a ^^^ BitVec.ofInt 64 (-1)).toNat:Int) = -a-1
 have h1:BitVec.ofInt 64 (-1)=BitVec.allOnes 64:=by decide
 rw [h1,BitVec.xor_allOnes,BitVec.toNat_not,Le,fQ]
 have e2:2^64-1-pat a%2^64=pat (-a-1):=by unfold pat;omega
 rw [e2,I7 _ (by omega)]
theorem ae5 (i:Nat):2^(7*i)=128^i:=by rw [Nat.pow_mul]
theorem NH {x i:Nat}(hi:i<=9)(hx:x<128)(h9:i=9->x<=1):IntKind.u64.wrap ((x:Int)*2^min (7*(i:Int)).toNat IntKind.u64.bits)=((x*128^i:Nat):Int)∧x*128^i<18446744073709551616:=by
 have e:IntKind.u64.bits=64:=rfl
 have e2:(7*(i:Int)).toNat=7*i:=by omega
 have e3:min (7*i) 64=7*i:=by omega
 have hb:x*128^i<18446744073709551616:=by
  rcases dP i 9 with h|h
  ·have:128^i<=128^8:=dL (by decide) (by omega)
   calc x*128^i<128*128^i:=Nat.mul_lt_mul_of_pos_right hx (Nat.pow_pos (by decide))
    _<=128*128^8:=iD _ this
    _<=18446744073709551616:=by decide
  ·have:i=9:=by omega
   subst this
   have:=h9 rfl
   calc x*128^9<=1*128^9:=aX _ this
    _<18446744073709551616:=by decide
 refine⟨?_,hb⟩
 rw [e,e2,e3]
 have e4:(x:Int)*2^(7*i)=((x*128^i:Nat):Int):=by rw [<-ae5];simp
 rw [e4,sH hb]
theorem UE {u x i:Nat}(hu:u<128^i)(hi:i<=9)(hx:x*128^i<18446744073709551616):nD .or .u64 (u:Int) ((x*128^i:Nat):Int)=((u+x*128^i:Nat):Int):=by
 have h1:128^i<=128^9:=dL (by decide) hi
 have h2:(128:Nat)^9<18446744073709551616:=by decide
 rw [ND u _ (by omega) hx]
 rw [<-ae5]at hu ⊢
 rw [EH _ _ hu]
theorem Gu {u:Nat}(h:u<18446744073709551616):nD .xor .i64 ((u/2:Nat):Int) (0 -((u%2:Nat):Int))=zz u:=by
 unfold zz
 have hr : -9223372036854775808<=((u/2:Nat):Int)∧((u/2:Nat):Int)<=9223372036854775807:=by omega
 by_cases h1:u%2=1
 ·rw [if_pos h1,h1];exact ahc _ hr
 ·have h0:u%2=0:=by omega
  rw [if_neg h1,h0];exact ahb _ hr
theorem adq (n:Int)(h:I64 n):nD .xor .u64 (IntKind.u64.wrap (IntKind.u64.wrap n*2)) (IntKind.u64.wrap (n.fdiv 9223372036854775808))=(zu n:Int):=by
 have e:IntKind.u64.bits=64:=rfl
 have s:IntKind.u64.signed=false:=rfl
 unfold I64 at h
 unfold zu
 by_cases hn:n<0
 ·rw [if_pos hn]
  have e1:IntKind.u64.wrap (IntKind.u64.wrap n*2)=((18446744073709551616 -(-2*n).toNat:Nat):Int):=by
   simp only [IntKind.wrap,e,s,dY,bf,if_false];omega
  have e2:n.fdiv 9223372036854775808 = -1:=by rw [Int.fdiv_eq_ediv];simp;omega
  have e3:IntKind.u64.wrap (-1)=((18446744073709551615:Nat):Int):=by decide
  rw [e1,e2,e3,Dh _ _ (by omega) (by omega),I5 (by omega)]
  omega
 ·rw [if_neg hn]
  have e1:IntKind.u64.wrap (IntKind.u64.wrap n*2)=(((2*n).toNat:Nat):Int):=by
   simp only [IntKind.wrap,e,s,dY,bf,if_false];omega
  have e2:n.fdiv 9223372036854775808=0:=by rw [Int.fdiv_eq_ediv];simp;omega
  have e3:IntKind.u64.wrap 0=((0:Nat):Int):=by decide
  rw [e1,e2,e3,Dh _ _ (by omega) (by omega),Nat.xor_zero]
theorem YG {u:Nat} : nD .or .u8 (IntKind.u8.wrap (u:Int)) 128=((UInt8.ofNat (128+u%128)).toNat:Int):=by
 have e:IntKind.u8.wrap (u:Int)=((u%256:Nat):Int):=by
  have e:IntKind.u8.bits=8:=rfl
  have s:IntKind.u8.signed=false:=rfl
  simp only [IntKind.wrap,e,s,dY,bf,if_false]
  omega
 have e2:(128:Int)=((128:Nat):Int):=rfl
 rw [e,e2,NG _ _ (by omega) (by omega),ae4 (by omega),toNat_ofNat (by omega)]
 congr 1
 omega
theorem Lh {u:Nat}(h:u<128):IntKind.u8.wrap (u:Int)=((UInt8.ofNat u).toNat:Int):=by
 rw [yH (by omega),toNat_ofNat (by omega)]
theorem ai6 (u:Nat):Int.fdiv (u:Int) 128=((u/128:Nat):Int):=by rw [gB _ (by decide)];rfl
theorem ak8 (u:Nat):Int.fdiv (u:Int) 2=((u/2:Nat):Int):=by rw [gB _ (by decide)];rfl
def wQ (n:Int):Int:=Go.IntKind.i64.wrap n
def b1 (l:Li):By:=l.flatMap num
def rl:Li->List (Int×Nat)
 | []=> []
 | x::r=>match rl r with
  | []=> [(x,1)]
  | p::t=>if x=p.1 then(x,p.2+1)::t else(x,1)::p::t
def enP (p:Int×Nat):By:=num p.1++num p.2
def b2 (l:Li):By:=(rl l).flatMap enP
def st:Int->Li->By
 | _,[]=> []
 | p,x::r=>num (wQ (x-p))++st x r
def b3 (l:Li):By:=st 0 l
def ins (d:Li)(x:Int):Li:=
 match d with
 | []=> [x]
 | y::r=>if y<x then y::ins r x else if y=x then y::r else x::y::r
def ds (l:Li):Li:=l.foldl ins []
def idx:Li->Int->Nat
 | [],_=>0
 | y::r,x=>if y=x then 0 else idx r x+1
def b4 (l:Li):By:=num (ds l).length++b1 (ds l)++l.flatMap fun x=>num (idx (ds l) x)
def wid:Nat->Nat->Nat
 | 0,_=>0
 | f+1,u=>if u=0 then 0 else wid f (u/2)+1
def dif (lo x:Int):Nat:=(x-lo).toNat
def x9 (lo:Int)(w:Nat)(l:Li)(p:Nat):Bool:=(dif lo (l.getD (p/w) 0)).testBit (p%w)
def Ko (bit:Nat->Bool)(p j:Nat):Nat->Nat
 | 0=>0
 | t+1=>Ko bit p j t+(if 8*j+t<p∧bit (8*j+t)=true then 2^t else 0)
def pk (bit:Nat->Bool)(n p:Nat):By:=(List.range n).map fun j=>UInt8.ofNat (Ko bit p j 8)
def lo (l:Li):Int:=(ds l).headD 0
def hi (l:Li):Int:=(ds l).getLastD 0
def wd (l:Li):Nat:=wid 64 (dif (lo l) (hi l))
def vZ (n w:Nat):Nat:=(n*w+7)/8
def b5 (l:Li):By:=num (lo l)++num (wd l)++pk (x9 (lo l) (wd l) l) (vZ l.length (wd l)) (l.length*wd l)
def bd:Nat->Li->By
 | 1,l=>b1 l
 | 2,l=>b2 l
 | 3,l=>b3 l
 | 4,l=>b4 l
 | _,l=>b5 l
def en (k:Nat)(l:Li):By:=num k++num l.length++bd k l
def sh (a b:By):By:=if b.length<a.length then b else a
def best (l:Li):Nat->By
 | 0=>en 1 l
 | k+1=>sh (best l k) (en (k+2) l)
def ints (l:Li):By:=if l = []then num 1++num 0 else best l 4
example:ints [7,7,7,7] = [4,8,14,8]:=by decide
example:ints [] = [2,0]:=by decide
theorem ai7 {x:Int}{r:Li} : ∃k t,rl (x::r)=(x,k+1)::t:=by
 simp only [rl]
 split
 ·exact⟨0,[],rfl⟩
 ·rename_i p t _
  split
  ·exact⟨p.2,t,rfl⟩
  ·exact⟨0,p::t,rfl⟩
theorem ahd (x:Int)(m:Nat)(r:Li)(h:r.head? ≠some x):rl (List.replicate (m+1) x++r)=(x,m+1)::rl r:=by
 induction m with
 | zero=>
  simp only [List.replicate,iq,dO,rl]
  cases r with
  | nil=>rfl
  | cons y r=>
   obtain⟨k,t,e⟩:=ai7 (x:=y) (r:=r)
   rw [e]
   have hne:x≠y:=fun e=>h (by rw [e];rfl)
   simp only [hne,if_false]
 | succ m ih=>
  rw [gu,iq]
  simp only [rl]
  rw [ih]
  simp
def SS (d:Li):Prop:=d.Pairwise (· < ·)
theorem UF (d:Li)(x y:Int):y∈ins d x↔y∈d∨y=x:=by
 induction d with
 | nil=>simp [ins]
 | cons z r ih=>
  unfold ins
  split
  ·simp only [bD,ih,or_assoc]
  ·split
   ·rename_i e;subst e;simp only [bD];constructor
    ·intro h;exact .inl h
    ·rintro(h|rfl)
     ·exact h
     ·exact .inl rfl
   ·simp only [bD];constructor
    ·rintro(h|h|h)
     ·exact .inr h
     ·exact .inl (.inl h)
     ·exact .inl (.inr h)
    ·rintro((h|h)|h)
     ·exact .inr (.inl h)
     ·exact .inr (.inr h)
     ·exact .inl h
theorem ahe {d:Li}{x:Int}(h:SS d):SS (ins d x):=by
 induction d with
 | nil=>simp [ins,SS]
 | cons z r ih=>
  have h1:=eu.1 h
  unfold ins
  split
  ·rename_i hz
   refine eu.2 ⟨fun a ha=> ?_,ih h1.2⟩
   rcases(UF r x a).1 ha with h2|h2
   ·exact h1.1 a h2
   ·omega
  ·split
   ·exact h
   ·refine eu.2 ⟨fun a ha=> ?_,h⟩
    rcases bD.1 ha with h2|h2
    ·omega
    ·have:=h1.1 a h2;omega
theorem adr (l:Li)(x:Int):ds (l++ [x])=ins (ds l) x:=by simp [ds]
theorem UG (l:Li) : ∀d,SS d->SS (l.foldl ins d)∧∀y,y∈l.foldl ins d↔y∈d∨y∈l:=by
 induction l with
 | nil=>intro d h;simp [h]
 | cons x r ih=>
  intro d h
  have:=ih (ins d x) (ahe h)
  refine⟨this.1,fun y=> ?_⟩
  rw [eX,this.2 y,UF,bD,or_assoc]
theorem UH (l:Li):SS (ds l):=(UG l [] List.Pairwise.nil).1
theorem uU (l:Li)(y:Int):y∈ds l↔y∈l:=by rw [ds,(UG l [] List.Pairwise.nil).2 y];simp
theorem ads {a:Li} : ∀ {b:Li},SS a->SS b->(∀y,y∈a↔y∈b)->a=b:=by
 induction a with
 | nil=>intro b _ _ h;cases b with
  | nil=>rfl
  | cons y r=>exact absurd ((h y).2 bG) (by simp)
 | cons x r ih=>
  intro b ha hb h
  have h1:=eu.1 ha
  cases b with
  | nil=>exact absurd ((h x).1 bG) (by simp)
  | cons y s=>
   have h2:=eu.1 hb
   have e:x=y:=by
    have m1:=(h x).1 bG
    have m2:=(h y).2 bG
    rcases bD.1 m1 with e|e
    ·exact e
    ·rcases bD.1 m2 with e2|e2
     ·exact e2.symm
     ·have:=h1.1 y e2;have:=h2.1 x e;omega
   subst e
   congr 1
   refine ih h1.2 h2.2 fun z=>⟨fun hz=> ?_,fun hz=> ?_⟩
   ·rcases bD.1 ((h z).1 (dK _ hz))with e|e
    ·have:=h1.1 z hz;omega
    ·exact e
   ·rcases bD.1 ((h z).2 (dK _ hz))with e|e
    ·have:=h2.1 z hz;omega
    ·exact e
theorem ai8 {l d:Li}(h1:SS d)(h2 : ∀y,y∈d↔y∈l):d=ds l:=ads h1 (UH l) fun y=>by rw [h2,uU]
theorem adt (d:Li)(x:Int):(ins d x).length<=d.length+1:=by
 induction d with
 | nil=>simp [ins]
 | cons y r ih=>
  unfold ins
  split
  ·simp only [bC];omega
  ·split<;>simp
theorem yZ (l:Li):(ds l).length<=l.length:=by
 have : ∀(l d:Li),(l.foldl ins d).length<=d.length+l.length:=by
  intro l
  induction l with
  | nil=>intro d;simp
  | cons x r ih=>intro d;have h1:=ih (ins d x);have h2:=adt d x;simp only [eX,bC];omega
 have:=this l []
 simpa [ds]using this
theorem I8 {d:Li}{x:Int}(h:x∈d):idx d x<d.length∧d[idx d x]? = some x:=by
 induction d with
 | nil=>cases h
 | cons y r ih=>
  unfold idx
  by_cases e:y=x
  ·rw [if_pos e];simp [e]
  ·rw [if_neg e]
   have:=ih (by rcases bD.1 h with h|h;exact absurd h.symm e;exact h)
   simp only [bC,dV]
   exact⟨by omega,this.2⟩
theorem ai9 {l:Li}(h:l≠ []):ds l≠ []:=by
 cases l with
 | nil=>exact absurd rfl h
 | cons x r=>intro e;have:=(uU (x::r) x).2 bG;rw [e]at this;cases this
theorem lo_le {l:Li}{x:Int}(h:x∈l):lo l<=x∧lo l∈l:=by
 have hm:=(uU l x).2 h
 have hs:=UH l
 have hb:=fun y=>(uU l y)
 unfold lo
 cases hd:ds l with
 | nil=>rw [hd]at hm;cases hm
 | cons y r=>
  rw [hd]at hm hs
  have h1:=eu.1 hs
  refine⟨?_,(hb y).1 (by rw [hd];exact bG)⟩
  show y<=x
  rcases bD.1 hm with e|e
  ·omega
  ·have:=h1.1 x e;omega
theorem adu {d:Li}(hs:SS d){x:Int}(h:x∈d):x<=d.getLastD 0∧d.getLastD 0∈d:=by
 induction d generalizing x with
 | nil=>cases h
 | cons y r ih=>
  have h1:=eu.1 hs
  cases r with
  | nil=>simp at h ⊢;omega
  | cons z s=>
   have e:(y::z::s).getLastD 0=(z::s).getLastD 0:=by simp [List.getLastD]
   rw [e]
   have hz:=ih h1.2 (x:=z) bG
   rcases bD.1 h with h2|h2
   ·have:=h1.1 z bG
    exact⟨by omega,dK _ hz.2⟩
   ·have:=ih h1.2 h2
    exact⟨this.1,dK _ this.2⟩
theorem Qd {l:Li}{x:Int}(h:x∈l):x<=hi l∧hi l∈l:=by
 have:=adu (UH l) ((uU l x).2 h)
 exact⟨this.1,(uU l _).1 this.2⟩
theorem qQ : ∀(f u:Nat),u<2^f->u<2^wid f u∧wid f u<=f:=by
 intro f
 induction f with
 | zero=>intro u h;simp [wid]at h ⊢;omega
 | succ f ih=>
  intro u h
  unfold wid
  split
  ·simp [*]
  ·have:=ih (u/2) (by rw [gZ]at h;omega)
   refine⟨?_,by omega⟩
   rw [gZ]
   omega
theorem adv : ∀(f u k:Nat),u<2^k->wid f u<=k:=by
 intro f
 induction f with
 | zero=>intro u k _;simp [wid]
 | succ f ih=>
  intro u k h
  unfold wid
  split
  ·omega
  ·cases k with
   | zero=>simp at h;omega
   | succ k=>have:=ih (u/2) k (by rw [gZ]at h;omega);omega
theorem SY (bit:Nat->Bool)(p j:Nat) : ∀t,Ko bit p j t<2^t:=by
 intro t
 induction t with
 | zero=>simp [Ko]
 | succ t ih=>unfold Ko;rw [gZ];split<;>omega
theorem UJ (bit:Nat->Bool)(p j:Nat) : ∀t s,s<t->(Ko bit p j t).testBit s=(decide (8*j+s<p)&&bit (8*j+s)):=by
 intro t
 induction t with
 | zero=>intro s h;omega
 | succ t ih=>
  intro s hs
  unfold Ko
  have hl:=SY bit p j t
  have key : ∀c:Nat,c<=1->(Ko bit p j t+c*2^t).testBit s=if s<t then(Ko bit p j t).testBit s else decide (c=1):=by
   intro c hc
   rw [lH,gY,Nat.testBit_two_pow_mul_add c hl]
   split
   ·rfl
   ·have:s-t=0:=by omega
    rw [this]
    have:c=0∨c=1:=by omega
    rcases this with rfl|rfl<;>rfl
  by_cases hb:8*j+t<p∧bit (8*j+t)=true
  ·rw [if_pos hb]
   have:=key 1 (aA _)
   rw [dF]at this
   rw [this]
   split
   ·exact ih s (by assumption)
   ·have e:s=t:=by omega
    subst e
    simp [hb.1,hb.2]
  ·rw [if_neg hb]
   have:=key 0 (au _)
   rw [fJ]at this
   rw [this]
   split
   ·exact ih s (by assumption)
   ·have e:s=t:=by omega
    subst e
    by_cases h1:8*j+s<p
    ·have:bit (8*j+s)=false:=by
      cases hbb:bit (8*j+s)with
      | false=>rfl
      | true=>exact absurd ⟨h1,hbb⟩ hb
     simp [this]
    ·simp [h1]
theorem YH (bit:Nat->Bool)(p j:Nat) : ∀t,Ko bit (p+1) j t=Ko bit p j t+(if 8*j<=p∧p<8*j+t∧bit p=true then 2^(p-8*j)else 0):=by
 intro t
 induction t with
 | zero=>simp only [Ko];rw [if_neg (by omega)]
 | succ t ih=>
  unfold Ko
  rw [ih]
  by_cases hp:p=8*j+t
  ·subst hp
   have e:8*j+t-8*j=t:=by omega
   rw [e,if_neg (show ¬(8*j<=8*j+t∧8*j+t<8*j+t∧bit (8*j+t)=true) by omega),if_neg (show ¬(8*j+t<8*j+t∧bit (8*j+t)=true) by omega)]
   by_cases hb:bit (8*j+t)=true
   ·rw [if_pos ⟨by omega,hb⟩,if_pos ⟨by omega,by omega,hb⟩]
   ·rw [if_neg (by simp [hb]),if_neg (by simp [hb])]
  ·have e1:(8*j+t<p+1∧bit (8*j+t)=true)↔(8*j+t<p∧bit (8*j+t)=true):=by
    constructor<;>rintro⟨a,b⟩<;>exact⟨by omega,b⟩
   have e2:(8*j<=p∧p<8*j+(t+1)∧bit p=true)↔(8*j<=p∧p<8*j+t∧bit p=true):=by
    constructor<;>rintro⟨a,b,c⟩<;>exact⟨by omega,by omega,c⟩
   simp only [e1,e2]
   omega
theorem YI (bit:Nat->Bool)(j:Nat) : ∀t,Ko bit 0 j t=0:=by
 intro t
 induction t with
 | zero=>rfl
 | succ t ih=>unfold Ko;rw [ih,if_neg (by omega)]
theorem pk_len (bit:Nat->Bool)(n p:Nat):(pk bit n p).length=n:=by simp [pk]
theorem UK (bit:Nat->Bool)(n:Nat):pk bit n 0=List.replicate n 0:=by
 apply jy
 ·simp [pk]
 ·intro i h1 h2;simp [pk,YI]
theorem adw (bit:Nat->Bool)(n p:Nat):pk bit n (p+1)=(pk bit n p).set (p/8) (UInt8.ofNat (Ko bit p (p/8) 8+(if bit p=true then 2^(p%8)else 0))):=by
 apply jy
 ·simp [pk]
 ·intro i h1 h2
  rw [List.getElem_set]
  simp only [pk,kM,jH]
  rw [YH]
  by_cases e:p/8=i
  ·rw [if_pos e]
   subst e
   have e1:p-8*(p/8)=p%8:=by omega
   rw [e1]
   by_cases hb:bit p=true
   ·rw [if_pos ⟨by omega,by omega,hb⟩,if_pos hb]
   ·rw [if_neg (by simp [hb]),if_neg hb]
  ·rw [if_neg e,if_neg (by omega)];rfl
theorem YJ (n:Nat):zu (n:Int)=2*n:=by unfold zu;rw [if_neg (by omega)];omega
theorem adx {n:Int}(h:zu n<128):(num n).length=1:=by unfold num grp;rw [if_pos h];rfl
theorem ady {n:Int}(h:zu n<16384):(num n).length<=2:=by
 unfold num grp
 split
 ·simp
 ·unfold grp;rw [if_pos (by omega)];simp
theorem EJ {α:Type}(f:α->By)(c:Nat) : ∀l:List α,(∀x∈l,(f x).length<=c)->(l.flatMap f).length<=c*l.length:=by
 intro l
 induction l with
 | nil=>intro _;simp
 | cons x r ih=>
  intro h
  have h1:=h x bG
  have h2:=ih fun y hy=>h y (dK _ hy)
  rw [iC,ak,bC,Nat.mul_succ]
  omega
theorem I9 (l:Li):(b1 l).length<=10*l.length:=EJ num 10 l fun x _=>(ni x).2
theorem ahf (l:Li):(rl l).length<=l.length:=by
 induction l with
 | nil=>simp [rl]
 | cons x r ih=>
  simp only [rl]
  split
  ·simp
  ·rename_i p t e
   rw [e]at ih
   simp only [bC]at ih
   split<;>simp only [bC]<;>omega
theorem adz (p:Int×Nat):(enP p).length<=20:=by
 have h1:=ni p.1;have h2:=ni p.2
 unfold enP;rw [ak];omega
theorem S9 (l:Li):(b2 l).length<=20*l.length:=by
 have h1:=EJ enP 20 (rl l) fun x _=>adz x
 have h2:=ahf l
 unfold b2;omega
theorem st_len (l:Li) : ∀p,(st p l).length<=10*l.length:=by
 induction l with
 | nil=>intro p;simp [st]
 | cons x r ih=>intro p;have h1:=ih x;have h2:=ni (wQ (x-p));simp only [st,ak,bC];omega
theorem ahg (l:Li):(b4 l).length<=10+20*l.length:=by
 have h1:=ni (ds l).length
 have h2:=I9 (ds l)
 have h3:=yZ l
 have h4:=EJ (fun x=>num (idx (ds l) x)) 10 l fun x _=>(ni _).2
 unfold b4
 simp only [ak]
 omega
theorem Lj (l:Li)(h:nP l):wd l<=64:=by
 unfold wd
 cases l with
 | nil=>decide
 | cons x r=>
  have h1:=lo_le (l:=x::r) (x:=x) bG
  have h2:=Qd (l:=x::r) (x:=x) bG
  have h3:=h _ h1.2
  have h4:=h _ h2.2
  unfold I64 at h3 h4
  exact(qQ 64 _ (by unfold dif;omega)).2
theorem ahh (n w:Nat)(h:w<=64):vZ n w<=8*n+1:=by
 unfold vZ
 have:=iD n h
 omega
theorem ahi (l:Li)(h:nP l):(b5 l).length<=21+8*l.length:=by
 have h1:=ni (lo l)
 have h2:=ni (wd l)
 have h3:=ahh l.length (wd l) (Lj l h)
 unfold b5
 simp only [ak,pk_len]
 omega
theorem ahj (k:Nat)(l:Li)(h:nP l):(bd k l).length<=21+20*l.length:=by
 have h1:=I9 l;have h2:=S9 l;have h3:=st_len l 0;have h4:=ahg l;have h5:=ahi l h
 unfold bd
 split
 ·omega
 ·omega
 ·unfold b3;omega
 ·omega
 ·omega
theorem ahk (k:Nat)(l:Li)(h:nP l):(en k l).length<=41+20*l.length:=by
 have h1:=ahj k l h;have h2:=ni k;have h3:=ni l.length
 unfold en;simp only [ak];omega
theorem ahl (k:Nat)(l:Li):0<(en k l).length:=by
 have h2:=ni k
 unfold en;simp only [ak];omega
theorem aja (a b:By):(sh a b).length<=a.length∧(sh a b).length<=b.length:=by unfold sh;split<;>omega
theorem ajb (a b:By):sh a b=a∨sh a b=b:=by unfold sh;split;exact .inr rfl;exact .inl rfl
theorem adA (l:Li) : ∀k j,j<=k->(best l k).length<=(en (j+1) l).length:=by
 intro k
 induction k with
 | zero=>
  intro j h
  have:j=0:=by omega
  subst this;exact aA _
 | succ k ih=>
  intro j h
  have h1:=aja (best l k) (en (k+2) l)
  show (sh _ _).length<=_
  by_cases e:j=k+1
  ·subst e;exact h1.2
  ·exact dM h1.1 (ih j (by omega))
theorem UL (l:Li) : ∀k, ∃j,j<=k∧best l k=en (j+1) l:=by
 intro k
 induction k with
 | zero=>exact⟨0,aA _,rfl⟩
 | succ k ih=>
  obtain⟨j,h1,h2⟩:=ih
  rcases ajb (best l k) (en (k+2) l)with e|e
  ·exact⟨j,by omega,by rw [<-h2];exact e⟩
  ·exact⟨k+1,aA _,e⟩
theorem adB {l:Li}(h:l≠ []){k:Nat}(h1:1<=k)(h2:k<=5):(ints l).length<=(en k l).length:=by
 unfold ints
 rw [if_neg h]
 obtain⟨j,rfl⟩ : ∃j,k=j+1:=⟨k-1,by omega⟩
 exact adA l 4 j (by omega)
theorem UM {l:Li}(h:l≠ []) : ∃k:Nat,1<=k∧k<=5∧ints l=en k l:=by
 unfold ints
 rw [if_neg h]
 obtain⟨j,h1,h2⟩:=UL l 4
 exact⟨j+1,by omega,by omega,h2⟩
theorem YK (l:Li)(h:l.length<=512):(ints l).length<=10*l.length+4:=by
 by_cases e:l = []
 ·subst e;decide
 ·refine dM (adB e (k:=1) (by omega) (by omega)) ?_
  have h1:=I9 l
  have h2:(num (1:Nat)).length=1:=adx (by rw [YJ];omega)
  have h3:(num l.length).length<=2:=ady (by rw [YJ];omega)
  show (num (1:Nat)++num l.length++b1 l).length<=_
  simp only [ak]
  omega
theorem nR (l:Li)(h:l.length<=512):(ints l).length<=5124:=by have:=YK l h;omega
theorem yc (n:Int):wQ n=(n+9223372036854775808)%18446744073709551616-9223372036854775808:=by
 have e:Go.IntKind.i64.bits=64:=rfl
 have s:Go.IntKind.i64.signed=true:=rfl
 simp only [wQ,Go.IntKind.wrap,e,s,gW,decide_eq_true_eq]
 split<;>omega
theorem Ll (n:Int):I64 (wQ n):=by rw [yc];unfold I64;omega
theorem NJ {n:Int}(h:I64 n):wQ n=n:=by rw [yc];unfold I64 at h;omega
def Pr (b:By)(n:Nat)(body:Li->By)(Q:Li->By->Prop):Prop:= ∀l0 r,nP l0->l0.length=n->b=body l0++r->Q l0 r
theorem Pr.mono {b:By}{n:Nat}{body:Li->By}{Q Q':Li->By->Prop}(h:Pr b n body Q)(k : ∀l0 r,nP l0->l0.length=n->Q l0 r->Q' l0 r):Pr b n body Q':=
 fun l0 r h1 h2 h3=>k l0 r h1 h2 (h l0 r h1 h2 h3)
theorem Pr.start (b:By)(n:Nat)(body:Li->By):Pr b n body fun l0 r=>b=body l0++r:=fun _ _ _ _ h=>h
def Tc (body:Li->By)(b:By)(n:Nat)(l:Li)(ok:Bool):Prop:=nP l∧l.length<=n∧Pr b n body fun l0 _=>ok=true∧l=l0
theorem Lm {y:Int}{z b:By}{e:Int}(hy:I64 y)(he:e=0)(h:b=num y++z):(ny b e).1=y∧(ny b e).2.2=0∧b.drop (ny b e).2.1=z:=by
 subst he;subst h
 rw [rV hy]
 exact⟨rfl,rfl,lD⟩
theorem nP.at {l:Li}{i:Nat}{x:Int}(h:nP l)(e:l[i]? = some x):I64 x:=h x (aZ e)
theorem nP.snoc {l:Li}{x:Int}(h:nP l)(hx:I64 x):nP (l++ [x]):=fun y hy=>by
 rcases bK.1 hy with e|e
 ·exact h y e
 ·rw [bF.1 e];exact hx
theorem nP.app {l m:Li}(h:nP l)(hm:nP m):nP (l++m):=fun y hy=>(bK.1 hy).elim (h y) (hm y)
theorem nP.nil:nP []:=fun _ h=>absurd h (by simp)
theorem nP.rep {x:Int}(hx:I64 x)(k:Nat):nP (List.replicate k x):=fun y hy=>by rw [iY hy];exact hx
def Q1 (b':By)(out:Li)(e:Int)(l0:Li)(r:By):Prop:=e=0∧∃rest,l0=out++rest∧b'=b1 rest++r
theorem Q1.start {b:By}{l0:Li}{r:By}(h:b=b1 l0++r):Q1 b [] 0 l0 r:=⟨rfl,l0,rfl,h⟩
theorem Q1.step {b':By}{out:Li}{e:Int}{l0:Li}{r:By}(ha:nP l0)(hlt:out.length<l0.length)(h:Q1 b' out e l0 r) :
  Q1 (b'.drop (ny b' e).2.1) (out++ [(ny b' e).1]) (ny b' e).2.2 l0 r:=by
 obtain⟨he,rest,h1,h2⟩:=h
 cases rest with
 | nil=>rw [h1]at hlt;simp at hlt
 | cons y rest=>
  have hy:I64 y:=ha y (by rw [h1];simp)
  have:=Lm (b:=b') (z:=b1 rest++r) hy he (by rw [h2];simp [b1])
  rw [this.1,this.2.1,this.2.2]
  exact⟨rfl,rest,by rw [h1];simp,rfl⟩
theorem Q1.fin {b':By}{out:Li}{e:Int}{l0:Li}{r:By}(hlen:e=0->out.length=l0.length)(h:Q1 b' out e l0 r):e=0∧out=l0∧b'=r:=by
 obtain⟨he,rest,h1,h2⟩:=h
 have:=hlen he
 have hr:rest = []:=by
  rw [h1,ak]at this
  exact aI (by omega)
 subst hr
 exact⟨he,by rw [h1];simp,by rw [h2];simp [b1]⟩
def dl:Int->Li->Li
 | _,[]=> []
 | p,x::r=>wQ (x-p)::dl x r
theorem ae6 (l:Li) : ∀p,st p l=b1 (dl p l):=by
 induction l with
 | nil=>intro p;rfl
 | cons x r ih=>intro p;simp only [st,dl,b1,iC];rw [ih x];rfl
theorem Td (l:Li) : ∀p,(dl p l).length=l.length:=by
 induction l with
 | nil=>intro p;rfl
 | cons x r ih=>intro p;simp [dl,ih]
theorem YL (l:Li) : ∀p,nP (dl p l):=by
 induction l with
 | nil=>intro p;exact nP.nil
 | cons x r ih=>
  intro p y hy
  rcases bD.1 hy with e|e
  ·rw [e];exact Ll _
  ·exact ih x y e
def sm:Int->Li->Li
 | _,[]=> []
 | p,y::r=>wQ (p+y)::sm (wQ (p+y)) r
theorem YM {p x:Int}(h:I64 x):wQ (p+wQ (x-p))=x:=by simp only [yc];unfold I64 at h;omega
theorem ae7 (l:Li) : ∀p,nP l->sm p (dl p l)=l:=by
 induction l with
 | nil=>intro p _;rfl
 | cons x r ih=>
  intro p h
  have hx:I64 x:=h x bG
  simp only [dl,sm,YM hx]
  rw [ih x fun y hy=>h y (dK _ hy)]
theorem yg (d:Li) : ∀p,(sm p d).length=d.length:=by
 induction d with
 | nil=>intro p;rfl
 | cons x r ih=>intro p;simp [sm,ih]
theorem YN (d:Li) : ∀p,nP (sm p d):=by
 induction d with
 | nil=>intro p;exact nP.nil
 | cons x r ih=>
  intro p y hy
  rcases bD.1 hy with e|e
  ·rw [e];exact Ll _
  ·exact ih _ y e
theorem sm_at (d:Li) : ∀(p:Int) (i:Nat),i+1<d.length->(sm p d)[i+1]? = some (wQ ((sm p d).getD i 0+d.getD (i+1) 0)):=by
 induction d with
 | nil=>intro p i h;simp at h
 | cons x r ih=>
  intro p i h
  cases i with
  | zero=>
   cases r with
   | nil=>simp at h
   | cons y r=>simp [sm]
  | succ i=>
   have:=ih (wQ (p+x)) i (by simp at h ⊢;omega)
   simp only [sm,dV]
   rw [this]
   simp
theorem YO (l:Li)(h:l≠ []) : ∃y m t,l=List.replicate (m+1) y++t∧rl l=(y,m+1)::rl t:=by
 induction l with
 | nil=>exact absurd rfl h
 | cons x r ih=>
  by_cases hr:r = []
  ·subst hr;exact⟨x,0,[],rfl,rfl⟩
  ·obtain⟨y,m,t,h1,h2⟩:=ih hr
   by_cases e:x=y
   ·subst e
    refine⟨x,m+1,t, ?_, ?_⟩
    ·rw [h1,gu (n:=m+1)];rfl
    ·simp only [rl,h2];simp
   ·refine⟨x,0,r,rfl, ?_⟩
    simp only [rl,h2]
    rw [if_neg e]
def Q2 (b':By)(out:Li)(e:Int)(l0:Li)(r:By):Prop:=e=0∧∃rest,l0=out++rest∧b'=b2 rest++r
theorem Q2.start {b:By}{l0:Li}{r:By}(h:b=b2 l0++r):Q2 b [] 0 l0 r:=⟨rfl,l0,rfl,h⟩
theorem Q2.step {b':By}{out:Li}{e:Int}{l0:Li}{r:By}(ha:nP l0)(hl:l0.length<=9223372036854775807)(hlt:out.length<l0.length)(h:Q2 b' out e l0 r) :
  ∃m:Nat,(ny (b'.drop (ny b' e).2.1) (ny b' e).2.2).2.2=0∧(ny (b'.drop (ny b' e).2.1) (ny b' e).2.2).1=((m+1:Nat):Int)∧m+1+out.length<=l0.length∧
   Q2 ((b'.drop (ny b' e).2.1).drop (ny (b'.drop (ny b' e).2.1) (ny b' e).2.2).2.1) (out++List.replicate (m+1) (ny b' e).1) 0 l0 r:=by
 obtain⟨he,rest,h1,h2⟩:=h
 have hne:rest≠ []:=by rintro rfl;rw [h1]at hlt;simp at hlt
 obtain⟨y,m,t,h3,h4⟩:=YO rest hne
 have hy:I64 y:=ha y (by rw [h1,h3];simp)
 have hlen:m+1+out.length<=l0.length:=by rw [h1,h3];simp;omega
 have r1:=Lm (b:=b') (z:=num ((m+1:Nat):Int)++(b2 t++r)) hy he (by rw [h2,b2,h4];simp [enP,b2])
 rw [r1.1,r1.2.1,r1.2.2]
 have r2:=Lm (e:=0) (nJ (by omega:m+1<=9223372036854775807)) rfl (rfl:num ((m+1:Nat):Int)++(b2 t++r)=_)
 refine⟨m,r2.2.1,r2.1,hlen, ?_⟩
 rw [r2.2.2]
 exact⟨rfl,t,by rw [h1,h3];simp,rfl⟩
theorem Q2.fin {b':By}{out:Li}{e:Int}{l0:Li}{r:By}(hlen:out.length=l0.length)(h:Q2 b' out e l0 r):out=l0∧b'=r:=by
 obtain⟨_,rest,h1,h2⟩:=h
 have hr:rest = []:=by
  rw [h1,ak]at hlen
  exact aI (by omega)
 subst hr
 exact⟨by rw [h1];simp,by rw [h2];simp [b2,rl]⟩
def ixs (d l:Li):By:=l.flatMap fun x=>num (idx d x)
def Q4k (k:Int)(b':By)(keys:Li)(e:Int)(l0:Li)(r:By):Prop:=k=(ds l0).length∧Q1 b' keys e (ds l0) (ixs (ds l0) l0++r)
theorem Q4k.start {b:By}{n:Nat}(hn:n<=512){most em:Int}(hm:(n:Int)<=most):Pr b n b4 fun l0 r=>(qg b 0 most em).2.2=0∧Q4k (qg b 0 most em).1 (b.drop (qg b 0 most em).2.1) [] (qg b 0 most em).2.2 l0 r:=fun l0 r _ hl h=>by
 have hd:=yZ l0
 have r1:=Lm (b:=b) (z:=b1 (ds l0)++(ixs (ds l0) l0++r)) (e:=0) (nJ (by omega:(ds l0).length<=9223372036854775807)) rfl (by rw [h];simp [b4,ixs])
 have e1:(qg b 0 most em).2.2=0:=by
  simp only [qg]
  rw [r1.1,r1.2.1,if_pos rfl,if_neg (by omega),if_neg (by omega)]
 have e2:(qg b 0 most em).1=(ds l0).length:=by
  have:(qg b 0 most em).1=if(qg b 0 most em).2.2=0 then(ny b 0).1 else 0:=rfl
  rw [this,if_pos e1,r1.1]
 have e3:(qg b 0 most em).2.1=(ny b 0).2.1:=rfl
 refine⟨e1, ?_⟩
 rw [e2,e1,e3,r1.2.2]
 exact⟨rfl,Q1.start rfl⟩
def Q4 (keys:Li)(b':By)(out:Li)(e:Int)(l0:Li)(r:By):Prop:=keys=ds l0∧e=0∧∃rest,l0=out++rest∧b'=ixs (ds l0) rest++r
theorem Q4.start {k:Int}{b':By}{keys:Li}{e:Int}{l0:Li}{r:By}(hlen:e=0->(keys.length:Int)=k)(h:Q4k k b' keys e l0 r):Q4 keys b' [] e l0 r:=by
 obtain⟨h1,h2⟩:=h
 have:=h2.fin fun he=>by have:=hlen he;omega
 exact⟨this.2.1,this.1,l0,rfl,this.2.2⟩
theorem Q4.step {keys:Li}{b':By}{out:Li}{e:Int}{l0:Li}{r:By}(hl:l0.length<=512)(hlt:out.length<l0.length)(h:Q4 keys b' out e l0 r) :
  ∃(i:Nat) (x:Int),(ny b' e).2.2=0∧(ny b' e).1=(i:Int)∧keys[i]? = some x∧Q4 keys (b'.drop (ny b' e).2.1) (out++ [x]) 0 l0 r:=by
 obtain⟨hk,he,rest,h1,h2⟩:=h
 cases rest with
 | nil=>rw [h1]at hlt;simp at hlt
 | cons y rest=>
  have hm:y∈ds l0:=(uU l0 y).2 (by rw [h1];simp)
  have hi:=I8 hm
  have hd:=yZ l0
  have r1:=Lm (b:=b') (z:=ixs (ds l0) rest++r) (nJ (by omega:idx (ds l0) y<=9223372036854775807)) he (by rw [h2];simp [ixs])
  refine⟨idx (ds l0) y,y,r1.2.1,r1.1,by rw [hk];exact hi.2,hk,rfl,rest,by rw [h1];simp,r1.2.2⟩
theorem Q4.fin {keys:Li}{b':By}{out:Li}{e:Int}{l0:Li}{r:By}(hlen:out.length=l0.length)(h:Q4 keys b' out e l0 r):out=l0∧b'=r:=by
 obtain⟨_,_,rest,h1,h2⟩:=h
 have hr:rest = []:=by
  rw [h1,ak]at hlen
  exact aI (by omega)
 subst hr
 exact⟨by rw [h1];simp,by rw [h2];simp [ixs]⟩
def Q5 (least:Int)(w:Nat)(b':By)(l0:Li)(r:By):Prop:=least=lo l0∧w=wd l0∧b'=pk (x9 (lo l0) (wd l0) l0) (vZ l0.length (wd l0)) (l0.length*wd l0)++r
theorem ahm {l:Li}(h:nP l){x:Int}(hx:x∈l):dif (lo l) x<2^wd l:=by
 have h1:=lo_le hx
 have h2:=Qd hx
 have h3:=h _ h1.2
 have h4:=h _ h2.2
 unfold I64 at h3 h4
 have h5:=(qQ 64 (dif (lo l) (hi l)) (by unfold dif;omega)).1
 refine Nat.lt_of_le_of_lt ?_ h5
 unfold dif;omega
theorem Q5.bit {least:Int}{w:Nat}{b':By}{l0:Li}{r:By}(h:Q5 least w b' l0 r){i k:Nat}(hi:i<l0.length)(hk:k<w) :
  ∃c,b'[(i*w+k)/8]? = some c∧c.toNat.testBit ((i*w+k)%8)=(dif least (l0.getD i 0)).testBit k:=by
 obtain⟨h1,h2,h3⟩:=h
 subst h2
 have hw:0<wd l0:=by omega
 have hat:i*wd l0+k<l0.length*wd l0:=by
  have:=aX (wd l0) (show i+1<=l0.length from hi)
  rw [bJ,dF]at this;omega
 have h8:(i*wd l0+k)/8<vZ l0.length (wd l0):=by unfold vZ;omega
 refine⟨UInt8.ofNat (Ko (x9 (lo l0) (wd l0) l0) (l0.length*wd l0) ((i*wd l0+k)/8) 8),by rw [h3,dQ (by rw [pk_len];exact h8)];simp only [pk,aU,gV h8,bU], ?_⟩
 have hlt:=SY (x9 (lo l0) (wd l0) l0) (l0.length*wd l0) ((i*wd l0+k)/8) 8
 rw [toNat_ofNat (by omega),UJ _ _ _ _ _ (by omega)]
 have e:8*((i*wd l0+k)/8)+(i*wd l0+k)%8=i*wd l0+k:=by omega
 rw [e,decide_eq_true hat,gW,h1]
 unfold x9
 have e1:(i*wd l0+k)/wd l0=i:=by rw [gY,Nat.mul_add_div hw,Nat.div_eq_of_lt hk,dS]
 have e2:(i*wd l0+k)%wd l0=k:=by rw [gY,kV,cZ hk]
 rw [e1,e2]
theorem Tf (c s:Nat):c/2^s%2=if c.testBit s=true then 1 else 0:=by
 rw [Nat.testBit_eq_decide_div_mod_eq]
 by_cases h:c/2^s%2=1
 ·simp [h]
 ·have:c/2^s%2=0:=by omega
  simp [this]
theorem UN (x k:Nat):x%2^(k+1)=x%2^k+(if x.testBit k=true then 1 else 0)*2^k:=by
 rw [gZ,Nat.mod_mul,Tf,gY (2^k)]
theorem Q5.val {least:Int}{w:Nat}{b':By}{l0:Li}{r:By}(h:Q5 least w b' l0 r)(ha:nP l0){i:Nat}{x:Int}(hx:l0[i]? = some x):wQ (least+(dif least (l0.getD i 0)%2^w:Nat))=x:=by
 obtain⟨h1,h2,_⟩:=h
 have hm:=aZ hx
 have e:l0.getD i 0=x:=by rw [ay,hx];rfl
 have h3:=ahm ha hm
 have h4:=lo_le hm
 rw [e,h1,h2,cZ h3]
 have:lo l0+(dif (lo l0) x:Nat)=x:=by unfold dif;omega
 rw [this]
 exact NJ (ha x hm)
theorem Q5.size {least:Int}{w:Nat}{b':By}{l0:Li}{r:By}(h:Q5 least w b' l0 r):vZ l0.length w<=b'.length:=by
 obtain⟨_,h2,h3⟩:=h
 rw [h3,h2,ak,pk_len];omega
attribute [local irreducible] loadVar storeVar Instr.indexAt Instr.index Instr.sliceAt Instr.makeSlice Instr.lookup Instr.mapUpdate Instr.range Instr.next Instr.entry Instr.makeMap Builtin.append_ Builtin.copy_ Builtin.len_ Builtin.min_ Builtin.max_ Builtin.cap_ Builtin.delete_ Builtin.clear_ convert binOp eqGuard Op.unary Calls
def FB (b:By):List FV:= [.lst 1 (b.map oh)]
abbrev ss (l:List By):AV:= .lst 1 (l.map FB)
theorem EK {F:Nat->Prop}{w:World}{b:By}{v:Value}(h:pJ F w (.lst 1 (b.map oh)) v)(hF : ∀b,F b->b<w.heap.size) :
  ∃oa c,v = .slice oa b.length c∧b.length<=c∧(oa=none->c=0)∧Row w oa (oH b):=by
 obtain⟨oa,m,c,news,rfl,hm,hc,hn,hr,h1,h2,h3,h4⟩:=CJ h hF
 rw [ah]at hm h2
 subst hm
 refine⟨oa,c,rfl,hc,hn, ?_⟩
 have e:news=oH b:=by
  refine jM fun i=> ?_
  by_cases hi:i<b.length
  ·have hl:i<news.length:=by omega
   have hx:=h4 i 0 (oh b[i]) _ news[i] (by rw [aU,aj hi];rfl) rfl (by rw [fO,dS];exact aj hl)
   rw [aj hl]
   generalize news[i]=x at hx
   cases hx
   simp [oH,hi]
  ·rw [fG (by omega),fG (by simp [oH];omega)]
 rw [<-e];exact hr
theorem adC {F:Nat->Prop}{w:World}{ls:List By}{v:Value}(h:pJ F w (.lst 1 (ls.map FB)) v)(hF : ∀b,F b->b<w.heap.size) :
  ∃oa c vs,v = .slice oa ls.length c∧Row w oa vs∧Dg.Fld w vs ls:=by
 obtain⟨oa,m,c,news,rfl,hm,hc,hn,hr,h1,h2,h3,h4⟩:=CJ h hF
 rw [ah]at hm h2
 subst hm
 refine⟨oa,c,news,rfl,hr,by omega,fun i hi=> ?_⟩
 have hl:i<news.length:=by omega
 have hx:=h4 i 0 (FB ls[i]) _ news[i] (by rw [aU,aj hi];rfl) rfl (by rw [fO,dS];exact aj hl)
 obtain⟨qy,c',e,q1,q2,q3⟩:=EK hx hF
 exact⟨qy,c',by rw [aj hl,e],q1,q2,q3⟩
def hsh (d:Int)(ls:List By):Int:=Dg.CY d 0 (Dg.frame ls)
theorem YP {P:Program}{G:Glob}{f:FuncId}{d:Int}{ls:List By}(h : ∀(oa:Option Addr) (c:Nat) (vs:List Value) (w:World),Row w oa vs->Dg.Fld w vs ls->zC P f #[.int .u64 d, .slice oa ls.length c] w fun v w'=>v = .int .u64 (Dg.CY d 0 (Dg.frame ls))∧Below w.heap.size w w') :
  mQ P G f [.v (.int .u64 d),ss ls] 0 [] (Is (.v (.int .u64 (hsh d ls)))):=by
 intro w σ F vs st r
 match vs,r with
 | [x,y],⟨rx,ry,_⟩=>
  rw [rx.oJ]
  cases ry with
  | lst hy=>
   obtain⟨oa,c,us,rfl,hr,hf⟩:=adC hy fun b hb=>(st.oW b hb).1
   refine(h oa c us w hr hf).mono fun v w' ⟨e,hB⟩=> ?_
   subst e
   have hE:Ext 0 σ F w 0 σ F w':=⟨aA _,fun _ _=>rfl,fun b hb=>⟨hb,hB.block b (st.oW b hb).1⟩,hB.size⟩
   exact⟨_,0,σ,F,[],⟨rfl,rfl,rfl⟩,⟨Glob.qM st.glob hB.size fun b hb=>hB.block b (bg hb st.glob.1),(AZ.uH hB).mono fun _ _ h=>h.elim,fun b hb=>⟨bg (st.oW b hb).1 hB.size, .inl hb⟩,
    (fun mV b h=>by cases h),(fun mV b g h=>by cases h),(fun mV Bq b b' g h=>by cases h),(fun mV b h=>by cases h)⟩,hE, .v _⟩
theorem ajc (G:Glob)(d:Int)(ls:List By)(h1:ls.length<=1000)(h2:(Dg.frame ls).length<=140737488355328):mQ Tryz.prog G 69 [.v (.int .u64 d),ss ls] 0 [] (Is (.v (.int .u64 (hsh d ls)))):=
 YP fun oa c vs w hr hf=>Dg.acP d oa c vs ls w (by omega) h2 hr hf
abbrev bt (n:Nat):UInt8:=UInt8.ofNat n
def be (k n:Nat):By:=(List.range k).map fun j=>bt (n/2^(8*(k-1-j)))
theorem uV (k n:Nat):(be k n).length=k:=by simp [be]
theorem adD (k n:Nat):be (k+1) n=be k (n/256)++ [bt n]:=by
 unfold be
 rw [iQ,aJ]
 congr 1
 ·refine jD fun j hj=> ?_
  have hj:=lu.1 hj
  rw [Nat.div_div_eq_div_mul,show 8*(k+1-1-j)=8*(k-1-j)+8 by omega,Nat.pow_add,gY]
 ·simp
def Lr (b:By):Nat:=b.foldl (fun n c=>n*256+c.toNat) 0
theorem Ja (b:By)(c:UInt8):Lr (b++ [c])=Lr b*256+c.toNat:=by simp [Lr]
theorem Jb (n:Nat):(bt n).toNat=n%256:=by simp
theorem YQ : ∀(k n:Nat),n<256^k->Lr (be k n)=n:=by
 intro k
 induction k with
 | zero=>
  intro n h
  have:n=0:=by simpa using h
  subst this;rfl
 | succ k ih=>
  intro n h
  rw [gZ]at h
  rw [adD,Ja,ih _ (by omega),Jb]
  omega
theorem NK : ∀(b:By),Lr b<256^b.length:=by
 intro b
 suffices h : ∀(r:By),Lr r.reverse<256^r.length by
  have:=h b.reverse
  rwa [List.reverse_reverse,List.length_reverse]at this
 intro r
 induction r with
 | nil=>decide
 | cons c r ih=>
  rw [List.reverse_cons,Ja,bC,gZ]
  have:=c.toNat_lt
  omega
def hd (g f i n:Nat):By:=be 4 g++be 2 f++ [bt i,bt n]
theorem Aq (g f i n:Nat):(hd g f i n).length=8:=by simp [hd,uV]
def hw (g f i n:Nat)(d:By):Nat:=(hsh 101 [hd g f i n,d]).toNat
def sec (g f i n:Nat)(d:By):By:=hd g f i n++be 8 (hw g f i n d)++d
theorem Gv (g f i n:Nat)(d:By):(sec g f i n d).length=16+d.length:=by
 unfold sec;rw [ak,ak,Aq,uV]
theorem Qe (g f i n:Nat)(d:By):(sec g f i n d).drop 16=d:=by
 unfold sec;rw [eY (by rw [ak,Aq,uV])]
theorem YR (g f i n:Nat)(d:By):(sec g f i n d).take 8=hd g f i n:=by
 unfold sec;rw [aH,dZ (Aq _ _ _ _)]
def hG (s:By):Nat:=Lr (s.take 4)
def hF (s:By):Nat:=Lr ((s.drop 4).take 2)
def hI (s:By):Nat:=(s.getD 6 0).toNat
def hN (s:By):Nat:=(s.getD 7 0).toNat
theorem YS {g f i n:Nat}(d:By)(h:g<4294967296):hG (sec g f i n d)=g:=by
 have e:(sec g f i n d).take 4=be 4 g:=by
  have:=congrArg (List.take 4) (YR g f i n d)
  rw [kE,show min 4 8=4 from rfl]at this
  rw [this];unfold hd;rw [aH,dZ (uV _ _)]
 unfold hG;rw [e];exact YQ 4 g h
theorem YT {g f i n:Nat}(d:By)(h:f<65536):hF (sec g f i n d)=f:=by
 have e:((sec g f i n d).drop 4).take 2=be 2 f:=by
  unfold sec hd
  rw [aH,aH,aH,eY (uV _ _),dZ (uV _ _)]
 unfold hF;rw [e];exact YQ 2 f h
theorem YU (g f i n:Nat)(d:By):(sec g f i n d)[6]? = some (bt i)∧(sec g f i n d)[7]? = some (bt n):=by
 have e : ∀k,k<2->(sec g f i n d)[6+k]? = [bt i,bt n][k]? :=fun k hk=>by
  unfold sec hd
  have hl:(be 4 g++be 2 f).length=6:=by rw [ak,uV,uV]
  rw [aH (be 4 g++be 2 f),aH (be 4 g++be 2 f),dG (by omega),hl,jJ,aH,dQ (by simpa using hk)]
 exact⟨e 0 (by decide),e 1 (by decide)⟩
theorem YV {g f i n:Nat}(d:By)(h:i<256):hI (sec g f i n d)=i:=by
 unfold hI
 rw [ay,(YU g f i n d).1,bH,Jb];omega
theorem YW {g f i n:Nat}(d:By)(h:n<256):hN (sec g f i n d)=n:=by
 unfold hN
 rw [ay,(YU g f i n d).2,bH,Jb];omega
def wo (s:By):Bool:=decide (s.length=64)&&(decide (0<hG s)&&(decide (hI s<hN s)&&decide (s=sec (hG s) (hF s) (hI s) (hN s) (s.drop 16))))
def dat (b:By):By:=num (b.length:Int)++b
def nS (b:By):Nat:=((dat b).length+47)/48
def pad (b:By):By:=dat b++List.replicate (nS b*48 -(dat b).length) 0
def prt (b:By)(i:Nat):By:=((pad b).drop (i*48)).take 48
def Di (g f:Nat)(b:By)(i:Nat):List By:=(List.range i).map fun j=>sec g f j (nS b) (prt b j)
def secs (g f:Nat)(b:By):List By:=Di g f b (nS b)
def uz (g f:Int)(b:By):Int:=if g<1∨4294967295<g∨f<0∨65535<f then 3 else if 255<nS b then 4 else 0
def zy (g f:Int)(b:By):List By:=if uz g f b=0 then secs g.toNat f.toNat b else []
theorem adE (b:By):0<(dat b).length:=by
 unfold dat;rw [ak];have:=(ni (b.length:Int)).1;omega
theorem NM (b:By):0<nS b:=by unfold nS;have:=adE b;omega
theorem Gw (b:By):(pad b).length=nS b*48:=by
 unfold pad nS;rw [ak,cu];omega
theorem Gx {b:By}{i:Nat}(h:i<nS b):(prt b i).length=48:=by
 unfold prt;rw [aK,aS,Gw];omega
theorem Dj (g f:Nat)(b:By)(i:Nat):(Di g f b i).length=i:=by simp [Di]
theorem Ls (g f:Nat)(b:By)(i:Nat):Di g f b (i+1)=Di g f b i++ [sec g f i (nS b) (prt b i)]:=by simp [Di,iQ]
theorem YX {g f:Nat}{b:By}{i j:Nat}(h:j<i):(Di g f b i)[j]? = some (sec g f j (nS b) (prt b j)):=by
 simp [Di,h]
theorem yI (g f:Nat)(b:By):(secs g f b).length=nS b:=Dj _ _ _ _
theorem Qg {g f:Nat}{b s:By}(h:s∈secs g f b):s.length=64:=by
 simp only [secs,Di,eP,lu]at h
 obtain⟨j,hj,rfl⟩:=h
 rw [Gv,Gx hj]
theorem YZ (b:By) : ∀i,i<=nS b->(List.range i).flatMap (prt b)=(pad b).take (i*48):=by
 intro i
 induction i with
 | zero=>intro _;simp
 | succ i ih=>
  intro h
  rw [iQ,iZ,ih (by omega),kT,bJ,dF,lG]
  rfl
theorem Wq (g f:Nat)(b:By)(i:Nat):(Di g f b i).flatMap (·.drop 16)=(List.range i).flatMap (prt b):=by
 unfold Di
 rw [List.flatMap_map]
 simp only [Qe]
theorem Ar (g f:Nat)(b:By):(secs g f b).flatMap (·.drop 16)=pad b:=by
 unfold secs
 rw [Wq,YZ b _ (aA _), <-Gw,aW]
def EL (l:List By)(g f:Nat)(b:By):Prop:=uz g f b=0∧l=secs g f b
theorem zO {g f:Int}{b:By}(h:uz g f b=0):1<=g∧g<=4294967295∧0<=f∧f<=65535∧nS b<=255:=by
 unfold uz at h
 split at h
 ·simp at h
 ·split at h
  ·simp at h
  ·omega
theorem Y0 {g f:Int}{b:By}(h1:1<=g)(h2:g<=4294967295)(h3:0<=f)(h4:f<=65535)(h5:nS b<=255):uz g f b=0:=by
 unfold uz;rw [if_neg (by omega),if_neg (by omega)]
theorem adF {g f i n:Nat}{d:By}(hg:0<g)(hg2:g<4294967296)(hf:f<65536)(hi:i<n)(hn:n<256)(hd:d.length=48):wo (sec g f i n d)=true:=by
 unfold wo
 rw [YS d hg2,YT d hf,YV d (by omega),YW d hn,Qe,Gv,hd]
 simp [hg,hi]
theorem EL.at {l:List By}{g f:Nat}{b:By}(h:EL l g f b){i:Nat}(hi:i<l.length):l[i]=sec g f i (nS b) (prt b i)∧wo l[i]=true∧hG l[i]=g∧hF l[i]=f∧hI l[i]=i∧hN l[i]=nS b:=by
 obtain⟨h0,rfl⟩:=h
 have hs:=zO h0
 rw [yI]at hi
 have e:(secs g f b)[i]'(by rw [yI];exact hi)=sec g f i (nS b) (prt b i):=by
  have:=YX (g:=g) (f:=f) (b:=b) hi
  rw [aj (by rw [Dj];exact hi)]at this
  injection this
 rw [e]
 exact⟨rfl,adF (by omega) (by omega) (by omega) hi (by omega) (Gx hi),YS _ (by omega),YT _ (by omega),YV _ (by omega),YW _ (by omega)⟩
theorem EL.len {l:List By}{g f:Nat}{b:By}(h:EL l g f b):l.length=nS b∧0<nS b∧nS b<=255:=by
 obtain⟨h0,rfl⟩:=h
 exact⟨yI _ _ _,NM b,(zO h0).2.2.2.2⟩
theorem adG {a b:By}{x y:By}(ha:I64 (a.length:Int))(hb:I64 (b.length:Int))(h:dat a++x=dat b++y):a=b:=by
 have h1:=rV ha (a++x)
 have h2:=rV hb (b++y)
 rw [<-aH]at h1 h2
 unfold dat at h
 rw [h,h2]at h1
 injection h1 with e1 e2
 have e1:b.length=a.length:=by omega
 rw [e1,aH,aH]at h
 exact(List.append_inj (bM h) e1.symm).1
theorem EL.inj {l:List By}{g f g' f':Nat}{b b':By}(h:EL l g f b)(h':EL l g' f' b'):g=g'∧f=f'∧b=b':=by
 obtain⟨hl,hp,hq⟩:=h.len
 obtain⟨_,_,hq'⟩:=h'.len
 obtain⟨_,_,a1,a2,_⟩:=h.at (i:=0) (by omega)
 obtain⟨_,_,b1,b2,_⟩:=h'.at (i:=0) (by omega)
 refine⟨a1.symm.trans b1,a2.symm.trans b2, ?_⟩
 have e1:=Ar g f b
 have e2:=Ar g' f' b'
 rw [<-h.2]at e1
 rw [<-h'.2,e1]at e2
 have bl : ∀x:By,nS x<=255->I64 (x.length:Int):=fun x hx=>by
  unfold nS dat at hx;rw [ak]at hx;unfold I64;omega
 exact adG (bl b hq) (bl b' hq') e2
noncomputable def AU (l:List By):Int×Int×By×Bool:=
 open Classical in if h : ∃x:Nat×Nat×By,EL l x.1 x.2.1 x.2.2 then(((Classical.choose h).1:Nat),((Classical.choose h).2.1:Nat),(Classical.choose h).2.2,true)else(0,0,[],false)
theorem Y1 {l:List By}{g f:Nat}{b:By}(h:EL l g f b):AU l=(((g:Nat):Int),((f:Nat):Int),b,true):=by
 have hx : ∃x:Nat×Nat×By,EL l x.1 x.2.1 x.2.2:=⟨(g,f,b),h⟩
 unfold AU
 rw [dif_pos hx]
 obtain⟨e1,e2,e3⟩:=(jS hx).inj h
 rw [e1,e2,e3]
theorem Y2 {l:List By}(h : ∀g f b, ¬EL l g f b):AU l=(0,0,[],false):=by
 unfold AU
 rw [dif_neg fun⟨x,hx⟩=>h _ _ _ hx]
theorem Au (l:List By):(∃g f b,EL l g f b∧AU l=(((g:Nat):Int),((f:Nat):Int),b,true))∨((∀g f b, ¬EL l g f b)∧AU l=(0,0,[],false)):=by
 by_cases h : ∃g f b,EL l g f b
 ·obtain⟨g,f,b,h⟩:=h
  exact .inl ⟨g,f,b,h,Y1 h⟩
 ·exact .inr ⟨fun g f b hx=>h ⟨g,f,b,hx⟩,Y2 fun g f b hx=>h ⟨g,f,b,hx⟩⟩
structure Ev where
 client:By
 seq:Int
 kind:Int
 time:Int
 id:By
 name:By
 other:By
 ver:Int
 arm:Int
 val:Int
abbrev sF (s:By):FV:= .v (.string ⟨s.toArray⟩)
abbrev iF (n:Int):FV:= .v (.int .i64 n)
def rO (e:Ev):List FV:= [sF e.client,iF e.seq,iF e.kind,iF e.time,sF e.id,sF e.name,sF e.other,iF e.ver,iF e.arm,iF e.val]
def evA (e:Ev):AV:= .agg ((rO e).map FV.up)
abbrev el (l:List Ev):AV:= .lst 10 (l.map rO)
structure Ev.ok (e:Ev):Prop where
 seq:I64 e.seq
 kind:I64 e.kind
 time:I64 e.time
 ver:I64 e.ver
 arm:I64 e.arm
 val:I64 e.val
 client:e.client.length<=140737488355328
 id:e.id.length<=140737488355328
 name:e.name.length<=140737488355328
 other:e.other.length<=140737488355328
end Go.Proofs.YtocckceefcmeaaaGreatDoor.Cl
namespace Go.Proofs.YtocckceefcmeaaaGreatDoor.Ax
open RowKit Vc Go.Proofs.Tryz
def Gh (n:Nat)(H:lM)(n':Nat)(H':lM):Prop:=
 ∀(G:Glob) (lY:World) (mG mJ:Nat->Prop) (σ:Nat->Loc) (F:Nat->Prop) (w:World),St G lY mG mJ n σ F H w->∃σ' F',St G lY mG mJ n' σ' F' H' w∧Ext n σ F w n' σ' F' w
theorem Gh.refl (n:Nat)(H:lM):Gh n H n H:=fun _ _ _ _ σ F w st=>⟨σ,F,st, .refl _ _ _ _⟩
theorem Gh.trans {n n' n'':Nat}{H H' um:lM}(h:Gh n H n' H')(k:Gh n' H' n'' um):Gh n H n'' um:=fun G lY mG mJ σ F w st=>by
 obtain⟨σ1,F1,s1,x1⟩:=h G lY mG mJ σ F w st
 obtain⟨σ2,F2,s2,x2⟩:=k G lY mG mJ σ1 F1 w s1
 exact⟨σ2,F2,s2,x1.trans x2⟩
section
variable {G:Glob}{lY:World}{mG mJ:Nat->Prop}{n:Nat}{σ:Nat->Loc}{F:Nat->Prop}{H:lM}{w:World}
theorem St.UO (st:St G lY mG mJ n σ F H w){n':Nat}{σ':Nat->Loc}{F':Nat->Prop}{H':lM}(hn:n<=n')(hσ : ∀k,k<n->σ' k=σ k)(hF : ∀b,F b->F' b)
  (hF' : ∀b,F' b->F b∨∃e c,look H e=some c∧c.own=true∧rY w (σ e) c b) (hlab : ∀k b,look H' k=some b->k<n')
  (ak9 : ∀k b g,look H' k=some b->b.own=true->rY w (σ' k) b g->¬F' g∧∃e c,look H e=some c∧c.own=true∧rY w (σ e) c g)
  (hinj : ∀k k' b b' g,look H' k=some b->look H' k'=some b'->b.own=true->b'.own=true->rY w (σ' k) b g->rY w (σ' k') b' g->k=k')
  (hblk:Ext n σ F w n' σ' F' w->∀k b,look H' k=some b->vU n' σ' F' w (σ' k) b):St G lY mG mJ n' σ' F' H' w∧Ext n σ F w n' σ' F' w:=by
 have hE:Ext n σ F w n' σ' F' w:=⟨hn,hσ,fun b hb=>⟨hF b hb,rfl⟩,aA _⟩
 refine⟨⟨st.glob,st.qM,fun b hb=> ?_,hlab,fun k b g h1 h2 h3=> ?_,hinj,hblk hE⟩,hE⟩
 ·rcases hF' b hb with h|⟨e,c,h1,h2,h3⟩
  ·exact st.oW b h
  ·obtain⟨_,_,m3,m4⟩:=st.mu e c b h1 h2 h3
   exact⟨m3,m4.elim (fun h=> .inr (.inr h)) fun h=> .inr (.inl h)⟩
 ·obtain⟨nf,e,c,h4,h5,h6⟩:=ak9 k b g h1 h2 h3
  obtain⟨_,m2,m3,m4⟩:=st.mu e c g h4 h5 h6
  exact⟨nf,m2,m3,m4⟩
theorem St.Y3 (st:St G lY mG mJ n σ F H w){F':Nat->Prop}{mV:Nat}{blk blk':oZ}(hk:look H mV=some blk)(hm:blk.own=true)(hF : ∀b,F b->F' b)(hF' : ∀b,F' b->F b∨(rY w (σ mV) blk b∧∀g,rY w (σ mV) blk' g->g≠b))
  (ho : ∀g,rY w (σ mV) blk' g->rY w (σ mV) blk g) (hB:Ext n σ F w n σ F' w->vU n σ F' w (σ mV) blk'):St G lY mG mJ n σ F' (setH H mV blk') w∧Ext n σ F w n σ F' w:=by
 refine st.UO (aA _) (fun _ _=>rfl) hF (fun b hb=>(hF' b hb).imp id fun h=>⟨mV,blk,hk,hm,h.1⟩) (fun k b h=> ?_) (fun k b g h h1 h2=> ?_) (fun k k' b b' g h h' m m' g1 g2=> ?_) fun hE k b h=> ?_
 ·rw [oM hk]at h
  split at h
  ·rename_i e;subst e;exact st.lab _ _ hk
  ·exact st.lab k b h
 ·rw [oM hk]at h
  split at h
  ·rename_i e
   subst e
   injection h with h
   subst h
   refine⟨fun hf=> ?_,_,_,hk,hm,ho g h2⟩
   rcases hF' g hf with hf|hf
   ·exact(st.mu _ _ g hk hm (ho g h2)).1 hf
   ·exact hf.2 g h2 rfl
  ·rename_i e
   refine⟨fun hf=> ?_,k,b,h,h1,h2⟩
   rcases hF' g hf with hf|hf
   ·exact(st.mu _ _ g h h1 h2).1 hf
   ·exact e (st.inj k mV b blk g h hk h1 hm h2 hf.1)
 ·have key : ∀k b,look (setH H mV blk') k=some b->b.own=true->rY w (σ k) b g->∃c,look H k=some c∧c.own=true∧rY w (σ k) c g:=by
   intro k b h0 m g1
   rw [oM hk]at h0
   split at h0
   ·rename_i e;subst e;injection h0 with h0;subst h0;exact⟨_,hk,hm,ho g g1⟩
   ·exact⟨_,h0,m,g1⟩
  obtain⟨c,a1,a2,a3⟩:=key k b h m g1
  obtain⟨c',b1,b2,b3⟩:=key k' b' h' m' g2
  exact st.inj k k' c c' g a1 b1 a2 b2 a3 b3
 ·rw [oM hk]at h
  split at h
  ·rename_i e;subst e;injection h with h;subst h;exact hB hE
  ·exact(st.blk k b h).mono hE fun _ _ _=>rfl
def Ti (T s:Nat):FV->TV
 | .v (.slice none 0 0)=> .n T s []
 | x=> .f x
def TV.fz:TV->FV
 | .f x=>x
 | .n _ s l=> .lst s l
theorem Jc (T s:Nat)(x:FV):(x = .v (.slice none 0 0)∧Ti T s x = .n T s [])∨Ti T s x = .f x:=by
 unfold Ti
 split
 ·exact .inl ⟨rfl,rfl⟩
 ·exact .inr rfl
theorem yh {α β:Type}{f:α->β}{l:List (List α)}{i j:Nat}{row:List β}{b:β}(h:(l.map fun r=>r.map f)[i]? = some row)(k:row[j]? = some b) : ∃r a,l[i]? = some r∧r[j]? = some a∧f a=b:=by
 rw [aU]at h
 cases hr:l[i]? with
 | none=>rw [hr]at h;cases h
 | some r=>
  rw [hr]at h
  injection h with h
  subst h
  rw [aU]at k
  cases ha:r[j]? with
  | none=>rw [ha]at k;cases k
  | some a=>rw [ha]at k;injection k with k;exact⟨r,a,rfl,ha,k⟩
theorem Qh {α β:Type}{f:α->β}{l:List (List α)}{sz:Nat}(h : ∀row∈l,row.length=sz) : ∀row∈l.map fun r=>r.map f,row.length=sz:=fun row hr=>by
 obtain⟨r,h1,rfl⟩:=eP.1 hr
 rw [ah];exact h r h1
theorem Gh.tree {mV t sz:Nat}{l:List (List FV)}(T s:Nat)(hk:look H mV=some (.rows t sz l)):Gh n H n (setH H mV (.tree t sz (l.map fun r=>r.map (Ti T s)) none)):=by
 intro G lY mG mJ σ F w st
 obtain⟨h1,h2,xs,hO,hR⟩:=st.blk _ _ hk
 have noN : ∀i j g, ¬Ry w (σ mV) sz (l.map fun r=>r.map (Ti T s)) i j g:=by
  rintro i j g ⟨b,row,t',s',r,m,c,n1,n2,n3,n4,n5⟩
  obtain⟨r0,a,e1,e2,e3⟩:=yh n2 n3
  rcases Jc T s a with ⟨rfl,_⟩|e
  ·have hrl:=hR.1 r0 (aZ e1)
   have hil:=(aO.1 e1).1
   have hjl:=(aO.1 e2).1
   have hlt:i*sz+j<xs.length:=by
    have:(i+1)*sz<=l.length*sz:=aX _ hil
    rw [bJ,dF]at this
    rw [hR.2.1];omega
   have hx:=aj hlt
   obtain⟨b',hb',hc⟩:=yC hO e1 hrl e2 hR.2.1 hx
   rw [n1]at hb'
   injection hb' with hb'
   subst hb'
   have hf:=hR.2.2.2 i j r0 _ _ e1 e2 hx
   rw [hc]at n4
   injection n4 with n4
   rw [n4]at hf
   cases hf
  ·rw [e]at e3;cases e3
 have ho : ∀g,rY w (σ mV) (.tree t sz (l.map fun r=>r.map (Ti T s)) none) g->(σ mV).b=some g:=fun g h=>h.elim id fun⟨i,j,h⟩=>(noN i j g h).elim
 obtain⟨s1,x1⟩:=st.Y3 (F':=F) (blk':= .tree t sz (l.map fun r=>r.map (Ti T s)) none) hk rfl (fun _ h=>h) (fun _ h=> .inl h) (fun g h=> .inl (ho g h)) fun hE=>by
  refine⟨h1,by rw [ah];exact h2,xs,by rw [ah];exact hO,⟨Qh hR.1,by rw [ah];exact hR.2.1,hR.2.2.1,fun i j row a v hi hj hv=> ?_⟩,⟨fun i j i' j' g h=>(noN i j g h).elim,fun i j g h=>(noN i j g h).elim⟩,fun _ _ _ h=>by cases h⟩
  obtain⟨r0,a0,e1,e2,rfl⟩:=yh hi hj
  have hf:=hR.2.2.2 i j r0 a0 v e1 e2 hv
  rcases Jc T s a0 with ⟨rfl,e⟩|e
  ·rw [e]
   cases hf
   exact⟨none,0,rfl, .inl ⟨rfl,rfl⟩⟩
  ·rw [e];exact hf
 exact⟨σ,F,s1,x1⟩
theorem Y4 {t sz c:Nat}{oa:Option Addr}{l:List (List FV)}{ys:List Value}{F':Nat->Prop}(hO:Vc.Own w 0 t sz oa l.length c ys)(hR:qA F w sz l ys)(hF : ∀b,F b->F' b)(hg : ∀g,oa=some ⟨g,0,none⟩->F' g):pJ F' w (.lst sz l) (.slice oa l.length c):=by
 have hb:vU 0 (fun _=>⟨oa.map (·.block),l.length,c,sz⟩) F w ⟨oa.map (·.block),l.length,c,sz⟩ (.rows t sz l):=⟨rfl,rfl,ys,by
  have:(Loc.mk (oa.map (·.block)) l.length c sz).oa=oa:=MN hO
  rw [this];exact hO,hR⟩
 have:=uS hb hF fun g hgb=>by
  refine hg g ?_
  rcases hO.2 with ⟨hv,_⟩|⟨g',cap,cur,hv,_⟩
  ·injection hv with e _ _;subst e;cases hgb
  ·injection hv with e _ _;subst e;simp at hgb;rw [hgb]
 have h3:=this.2.2.1
 have e:(Loc.mk (oa.map (·.block)) l.length c sz).oa=oa:=MN hO
 rw [e]at h3
 exact h3
theorem Ru {mV t sz:Nat}{l:List (List TV)}{c i j t' s':Nat}{r:List (List FV)}{row:List TV}{xs:List Value}{g m cc:Nat}(hO:Vc.Own w 0 t sz (σ mV).oa l.length c xs)(hT:XE F w sz l xs)(hi:l[i]? = some row)(hj:row[j]? = some (.n t' s' r))(hv:xs[i*sz+j]? = some (.slice (some ⟨g,0,none⟩) m cc))(hc:0<cc) :
  Ry w (σ mV) sz l i j g:=by
 obtain⟨b,hb,hcell⟩:=yC hO hi (hT.1 row (aZ hi)) hj hT.2.1 hv
 exact⟨b,row,t',s',r,m,cc,hb,hi,hj,hcell,hc⟩
theorem Y5 {t sz c:Nat}{oa:Option Addr}{m:Nat}{ys:List Value}(hO:Vc.Own w 0 t sz oa m c ys)(hc:0<c) : ∃g,oa=some ⟨g,0,none⟩:=by
 rcases hO.2 with ⟨hv,_⟩|⟨g',cap,cur,hv,_⟩
 ·injection hv with _ _ e;omega
 ·injection hv with e _ _;exact⟨g',e⟩
theorem Gh.freeze {mV t sz:Nat}{l:List (List TV)}(hk:look H mV=some (.tree t sz l none)):Gh n H n (setH H mV (.rows t sz (l.map fun r=>r.map TV.fz))):=by
 intro G lY mG mJ σ F w st
 obtain⟨h1,h2,xs,hO,hT,hS,_⟩:=st.blk _ _ hk
 obtain⟨s1,x1⟩:=st.Y3 (F':=fun b=>F b∨Nst w (σ mV) (.tree t sz l none) b) (blk':= .rows t sz (l.map fun r=>r.map TV.fz)) hk rfl (fun _ h=> .inl h)
  (fun b h=>h.imp id fun h=>⟨.inr h,fun g hg e=>by
   subst e
   obtain⟨i,j,h⟩:=h
   exact hS.2 i j g h (hg.flat rfl)⟩) (fun g h=> .inl (h.flat rfl)) fun hE=>by
  refine⟨h1,by rw [ah];exact h2,xs,by rw [ah];exact hO,Qh hT.1,by rw [ah];exact hT.2.1,hT.2.2.1,fun i j row a v hi hj hv=> ?_⟩
  obtain⟨r0,a0,e1,e2,rfl⟩:=yh hi hj
  have hf:=hT.2.2.2 i j r0 a0 v e1 e2 hv
  cases a0 with
  | f x=>exact pJ.mono hE.f hf
  | n t' s' r=>
   obtain⟨oa,c,rfl,hf⟩:=hf
   rcases hf with ⟨rfl,rfl⟩|⟨ys,hc,hO',hR'⟩
   ·exact Af s' oa
   ·refine Y4 hO' hR' (fun b hb=> .inl hb) fun g hg=> .inr ⟨i,j, ?_⟩
    subst hg
    exact Ru hO hT e1 e2 hv hc
 exact⟨σ,_,s1,x1⟩
theorem Qi {α:Type}{l:List (List α)}{i j i2 j2:Nat}{row Ep:List α}{x y:α}(hi:l[i]? = some row)(hj:j<row.length)(h:(l.set i (row.set j x))[i2]? = some Ep)(k:Ep[j2]? = some y) :
  (i2=i∧j2=j∧y=x)∨(¬(i2=i∧j2=j)∧∃r,l[i2]? = some r∧r[j2]? = some y):=by
 have hil:=(aO.1 hi).1
 by_cases e:i2=i
 ·subst e
  rw [fC hil]at h
  injection h with h
  subst h
  by_cases e2:j2=j
  ·subst e2
   rw [fC hj]at k
   injection k with k
   exact .inl ⟨rfl,rfl,k.symm⟩
  ·rw [iJ (fun h=>e2 h.symm)]at k
   exact .inr ⟨fun h=>e2 h.2,row,hi,k⟩
 ·rw [iJ (fun h=>e h.symm)]at h
  exact .inr ⟨fun h=>e h.1,Ep,h,k⟩
theorem Y6 {α:Type}{l:List (List α)}{i j sz:Nat}{row:List α}{x:α}(hi:l[i]? = some row)(h : ∀r∈l,r.length=sz) : ∀r∈l.set i (row.set j x),r.length=sz:=fun r hr=>by
 rcases iG hr with hr|rfl
 ·exact h r hr
 ·rw [bV];exact h row (aZ hi)
theorem Gh.unfold {mV t sz i j T s:Nat}{l:List (List TV)}{row:List TV}{r:List (List FV)}(hk:look H mV=some (.tree t sz l none))(hi:l[i]? = some row)(hj:row[j]? = some (.n T s r)) :
  Gh n H (n+1) ((n, .rows T s r)::setH H mV (.tree t sz (l.set i (row.set j (.f .top))) (some (i,j,n)))):=by
 intro G lY mG mJ σ F w st
 obtain⟨h1,h2,xs,hO,hT,hS,_⟩:=st.blk _ _ hk
 have hrl:=hT.1 row (aZ hi)
 have hil:=(aO.1 hi).1
 have hjl:=(aO.1 hj).1
 have hlt:i*sz+j<xs.length:=by
  have:(i+1)*sz<=l.length*sz:=aX _ hil
  rw [bJ,dF]at this
  rw [hT.2.1];omega
 have hx:=aj hlt
 obtain⟨oa,c,ev,hf⟩:=hT.2.2.2 i j row _ _ hi hj hx
 have hell:=st.lab _ _ hk
 have hloc : ∃L:Loc,L.n=r.length∧L.sz=s∧(∀σ',vU (n+1) σ' F w L (.rows T s r))∧(∀g,L.b=some g->Ry w (σ mV) sz l i j g)∧
   ∀σ',σ' n=L->nI (n+1) σ' F w (.own n) xs[i*sz+j]:=by
  rcases hf with ⟨rfl,rfl⟩|⟨ys,hc,hO',hR'⟩
  ·refine⟨⟨none,0,0,s⟩,rfl,rfl,fun σ'=>⟨rfl,rfl,[],Vc.Own.nil _ _ _ _,qA.nil s⟩,(fun g h=>by cases h),fun σ' hσ=> ?_⟩
   rw [ev]
   exact .tC n oa (by omega) (by rw [hσ]) (by rw [hσ])
  ·obtain⟨g,rfl⟩:=Y5 hO' hc
   refine⟨⟨some g,r.length,c,s⟩,rfl,rfl,fun σ'=>⟨rfl,rfl,ys,hO',hR'⟩,(fun g' h=> ?_),fun σ' hσ=> ?_⟩
   ·injection h with h
    subst h
    rw [ev]at hx
    exact Ru hO hT hi hj hx hc
   ·rw [ev]
    have:=nI.own (n:=n+1) (σ:=σ') (F:=F) (w:=w) n (by omega)
    rw [hσ]at this
    exact this
 obtain⟨L,_,_,hB,hN,hA⟩:=hloc
 have nat : ∀i2 j2 g,Ry w (σ mV) sz (l.set i (row.set j (.f .top))) i2 j2 g->Ry w (σ mV) sz l i2 j2 g∧¬(i2=i∧j2=j):=by
  rintro i2 j2 g ⟨b,Ep,t',s',r2,m,c,n1,n2,n3,n4,n5⟩
  rcases Qi hi hjl n2 n3 with ⟨_,_,e⟩|⟨hne,r3,e1,e2⟩
  ·cases e
  ·exact⟨⟨b,r3,t',s',r2,m,c,n1,e1,e2,n4,n5⟩,hne⟩
 have adH : ∀g,rY w (σ mV) (.tree t sz (l.set i (row.set j (.f .top))) (some (i,j,n))) g->rY w (σ mV) (.tree t sz l none) g∧¬Ry w (σ mV) sz l i j g:=by
  rintro g (h|⟨i2,j2,h⟩)
  ·exact⟨.inl h,fun hn=>hS.2 i j g hn h⟩
  ·obtain⟨h0,hne⟩:=nat i2 j2 g h
   exact⟨.inr ⟨i2,j2,h0⟩,fun hn=>hne (hS.1 _ _ _ _ g h0 hn)⟩
 have hlook : ∀ {k b},look ((n, .rows T s r)::setH H mV (.tree t sz (l.set i (row.set j (.f .top))) (some (i,j,n)))) k=some b->
   (k=n∧b = .rows T s r)∨(k≠n∧k=mV∧b = .tree t sz (l.set i (row.set j (.f .top))) (some (i,j,n)))∨(k≠n∧k≠mV∧look H k=some b):=by
  intro k b h
  rw [nG]at h
  split at h
  ·rename_i e;injection h with h;exact .inl ⟨e.symm,h.symm⟩
  ·rename_i e
   rw [oM hk]at h
   split at h
   ·rename_i e2;injection h with h;exact .inr (.inl ⟨fun h=>e h.symm,e2,h.symm⟩)
   ·rename_i e2;exact .inr (.inr ⟨fun h=>e h.symm,e2,h⟩)
 obtain⟨s1,x1⟩:=st.UO (n':=n+1) (σ':=yU σ n L) (F':=F) (H':=(n, .rows T s r)::setH H mV (.tree t sz (l.set i (row.set j (.f .top))) (some (i,j,n)))) (by omega) (fun k hk=>oP (by omega)) (fun _ h=>h) (fun _ h=> .inl h)
  (fun k b h=>by
   rcases hlook h with ⟨e,_⟩|⟨_,e,_⟩|⟨_,_,h⟩
   ·omega
   ·omega
   ·have:=st.lab k b h;omega)
  (fun k b g h m ho=>by
   rcases hlook h with ⟨e,rfl⟩|⟨e0,e,rfl⟩|⟨e0,e,h⟩
   ·subst e
    rw [og]at ho
    have h3:=hN g (ho.flat rfl)
    have h4:rY w (σ mV) (.tree t sz l none) g:= .inr ⟨i,j,h3⟩
    exact⟨(st.mu _ _ g hk rfl h4).1,_,_,hk,rfl,h4⟩
   ·subst e
    rw [oP e0]at ho
    have h4:=(adH g ho).1
    exact⟨(st.mu _ _ g hk rfl h4).1,_,_,hk,rfl,h4⟩
   ·rw [oP e0]at ho
    exact⟨(st.mu _ _ g h m ho).1,_,_,h,m,ho⟩)
  (fun k k' b b' g h h' m m' ho ho'=>by
   have cross : ∀ {k b},look ((n, .rows T s r)::setH H mV (.tree t sz (l.set i (row.set j (.f .top))) (some (i,j,n)))) k=some b->b.own=true->rY w (yU σ n L k) b g->L.b=some g->k=n:=by
    intro k b h m ho hL
    have h3:=hN g hL
    rcases hlook h with ⟨e,_⟩|⟨e0,e,rfl⟩|⟨e0,e,h⟩
    ·exact e
    ·subst e
     rw [oP e0]at ho
     exact((adH g ho).2 h3).elim
    ·rw [oP e0]at ho
     exact(e (st.inj k mV b _ g h hk m rfl ho (.inr ⟨i,j,h3⟩))).elim
   rcases hlook h with ⟨e,rfl⟩|⟨e0,e,rfl⟩|⟨e0,e,h0⟩
   ·subst e
    rw [og]at ho
    exact(cross h' m' ho' (ho.flat rfl)).symm
   ·rcases hlook h' with ⟨e',rfl⟩|⟨e0',e',rfl⟩|⟨e0',e',h0'⟩
    ·subst e'
     rw [og]at ho'
     exact cross h m ho (ho'.flat rfl)
    ·rw [e,e']
    ·subst e
     rw [oP e0]at ho
     rw [oP e0']at ho'
     exact st.inj _ _ _ _ g hk h0' rfl m' (adH g ho).1 ho'
   ·rcases hlook h' with ⟨e',rfl⟩|⟨e0',e',rfl⟩|⟨e0',e',h0'⟩
    ·subst e'
     rw [og]at ho'
     exact cross h m ho (ho'.flat rfl)
    ·subst e'
     rw [oP e0]at ho
     rw [oP e0']at ho'
     exact st.inj _ _ _ _ g h0 hk m rfl ho (adH g ho').1
    ·rw [oP e0]at ho
     rw [oP e0']at ho'
     exact st.inj _ _ _ _ g h0 h0' m m' ho ho')
  (fun hE k b h=>by
   rcases hlook h with ⟨e,rfl⟩|⟨e0,e,rfl⟩|⟨e0,e,h⟩
   ·subst e;rw [og];exact hB _
   ·subst e
    rw [oP e0]
    refine⟨h1,by rw [bV];exact h2,xs,by rw [bV];exact hO,⟨Y6 hi hT.1,by rw [bV];exact hT.2.1,hT.2.2.1,fun i2 j2 Ep a v n1 n2 n3=> ?_⟩,⟨fun a b c d g x y=>hS.1 a b c d g (nat _ _ _ x).1 (nat _ _ _ y).1,fun a b g x=>hS.2 a b g (nat _ _ _ x).1⟩,fun i2 j2 e2 he=> ?_⟩
    ·rcases Qi hi hjl n1 n2 with ⟨_,_,e⟩|⟨_,r3,e1,e2⟩
     ·subst e;exact pJ.top v
     ·exact hT.2.2.2 i2 j2 r3 a v e1 e2 n3
    ·injection he with he
     injection he with ee1 he
     injection he with ee2 ee3
     subst ee1;subst ee2;subst ee3
     exact⟨by omega,by rw [bV];exact hil,by omega,⟨_,fC hil,fC hjl⟩,_,hx,hA _ (og _ _ _)⟩
   ·rw [oP e0]
    exact(st.blk k b h).mono hE fun _ _ _=>rfl)
 exact⟨_,F,s1,x1⟩
end
end Go.Proofs.YtocckceefcmeaaaGreatDoor.Ax
namespace Go.Proofs.YtocckceefcmeaaaGreatDoor.Cl
open RowKit Vc Ax Go.Proofs.Tryz
attribute [local irreducible] loadVar storeVar Instr.indexAt Instr.index Instr.sliceAt Instr.makeSlice Instr.lookup Instr.mapUpdate Instr.range Instr.next Instr.entry Instr.makeMap Builtin.append_ Builtin.copy_ Builtin.len_ Builtin.min_ Builtin.max_ Builtin.cap_ Builtin.delete_ Builtin.clear_ convert binOp eqGuard Op.unary Calls
theorem CW {α:Type}{sz:Nat}{enc:α->List FV}{c:α->List Value}(he : ∀x,enc x=(c x).map .v)(hk : ∀a,(c a).length=sz)(h1 : ∀a, ∀v∈c a,v.oneCell'=true)(F:Nat->Prop)(w:World)(l:List α):qA F w sz (l.map enc) (recs c l):=by
 refine⟨fun row hr=> ?_, ?_,fun v hv=> ?_,fun i j row a v hi hj hv=> ?_⟩
 ·obtain⟨x,_,rfl⟩:=eP.1 hr
  rw [he,ah,hk]
 ·rw [Xy hk,ah]
 ·obtain⟨x,_,hx⟩:=List.mem_flatMap.1 hv
  exact h1 x v hx
 ·rw [aU]at hi
  cases hx:l[i]? with
  | none=>rw [hx]at hi;cases hi
  | some x=>
   rw [hx]at hi
   injection hi with hi
   subst hi
   rw [he,aU]at hj
   cases hy:(c x)[j]? with
   | none=>rw [hy]at hj;cases hj
   | some y=>
    rw [hy]at hj
    injection hj with hj
    subst hj
    rw [ag2 hk hx hy]at hv
    injection hv with hv
    subst hv
    exact .v _
theorem zQ {P:Program}{G:Glob}{f:FuncId}{args:List AV}{α:Type}{sz E:Nat}{enc:α->List FV}{c:α->List Value}(he : ∀x,enc x=(c x).map .v)(hk : ∀a,(c a).length=sz)(h1 : ∀a, ∀v∈c a,v.oneCell'=true){l:List α}
  (h : ∀(w:World) (F:Nat->Prop) (σ:Nat->Ax.Loc) (vs:List Value),(∀b,F b->b<w.heap.size)->nX 0 σ F w args vs->zC P f vs.toArray w fun v w'=> ∃oa cp,v = .slice oa l.length cp∧Vc.Own w' w.heap.size E sz oa l.length cp (recs c l)∧Below w.heap.size w w') :
  mQ P G f args 0 [] (sW E sz (l.map enc)):=by
 intro w σ F vs st r
 refine(h w F σ vs (fun b hb=>(st.oW b hb).1) r).mono fun v w' ⟨oa,cp,e,hO,hB⟩=> ?_
 subst e
 have hO0:Vc.Own w' 0 E sz oa l.length cp (recs c l):=⟨hO.1,hO.2.imp id fun⟨g,cap,cur,h1,_,h2⟩=>⟨g,cap,cur,h1,au _,h2⟩⟩
 have hR:=CW he hk h1 F w' l
 obtain⟨s2,x2⟩:=st.new (w':=w') (AZ.uH hB) ⟨oa.map (·.block),l.length,cp,sz⟩ (fun g hg=>by
   cases oa with
   | none=>cases hg
   | some a=>exact hO.ge g hg) (.rows E sz (l.map enc)) (Ag hO0 (by rw [ah]) hR)
 exact⟨_,1,_,F,_,⟨rfl,rfl,rfl⟩,s2,x2,Es hO0⟩
theorem Jd (b:By):recs (fun a:UInt8=> [Value.int .u8 (a.toNat:Int)]) b=oH b:=P7 _ b
theorem Y7 (x:Nat):Dg.vM x 8=be 8 x:=by
 have e : ∀k,Dg.yX x k=bt (x/2^(8*k)):=fun k=>by
  unfold Dg.yX
  apply UInt8.toNat_inj.1
  simp
 simp only [Dg.vM,e]
 rfl
theorem Y8 (G:Glob)(b:By)(x:Nat)(hl:b.length<=1000000)(hx:x<18446744073709551616):mQ Tryz.prog G 68 [bs b,uv x] 0 [] (sW 5 1 ((b++be 8 x).map oh)):=by
 refine zQ (E:=5) (c:=fun a:UInt8=> [Value.int .u8 (a.toNat:Int)]) (fun _=>rfl) (fun _=>rfl) (fun _ v hv=>by simp at hv;subst hv;rfl) fun w F σ vs hF r=> ?_
 match vs,r with
 | [u,y],⟨ru,ry,_⟩=>
  rw [ry.oJ]
  cases ru with
  | lst hu=>
   obtain⟨oa,c,rfl,hc,hn,hr⟩:=EK hu hF
   refine(SI oa b.length c b x w rfl hl hc hn hx hr).mono fun v w' ⟨qy,c',e,hO,hB⟩=> ?_
   rw [Y7]at hO
   refine⟨qy,c', ?_, ?_,hB⟩
   ·rw [e,ak,uV]
   ·rw [Jd,ak,uV];exact hO
end Go.Proofs.YtocckceefcmeaaaGreatDoor.Cl
namespace Go.Proofs.YtocckceefcmeaaaGreatDoor.Ax
open RowKit Vc Go.Proofs.Tryz
structure Y9 (p:Prop):Prop where
 go:p
theorem Za (p:Prop):Y9 p=p:=propext ⟨fun h=>h.go,fun h=>⟨h⟩⟩
def pre:List Nat->Plan->Plan
 | [],p=>p
 | i::r,p=> .take i (pre r p)
section
variable {P:Program}{G:Glob}{all:List Oper}{D:List Nat}{p:Plan}{n:Nat}{H:lM}{K:l9->Nat->lM->Prop}
theorem Lu : ∀(ts:List Nat) (ρ:l9),aD P G all D (pre ts p) ρ n H K=X0 P G all (uJ D H) H ts ρ (fun ρ'=>aD P G all D p ρ' n H K)
 | [],ρ=>rfl
 | i::ts,ρ=>by
  simp only [pre,aD,X0]
  cases all[i]? with
  | none=>rfl
  | some o=>simp only [Lu ts]
theorem NP {ρ:l9}(ts:List Nat)(h:X0 P G all (uJ D H) H ts ρ (fun ρ'=>Y9 (aD P G all D p ρ' n H K))):aD P G all D (pre ts p) ρ n H K:=by
 rw [Lu]
 have e:(fun ρ'=>Y9 (aD P G all D p ρ' n H K))=fun ρ'=>aD P G all D p ρ' n H K:=funext fun ρ'=>Za _
 rw [e]at h
 exact h
theorem Ws (ρ:l9)(s:Nat):vH ρ s (ρ s)=ρ:=by
 funext k
 unfold vH
 cases h:Nat.beq k s with
 | true=>rw [aF h];simp
 | false=>simp
theorem Gy {ρ:l9}(s:Nat){t:Bool}(hr:ρ s = .v (.bool t))(h1:t=true->aD P G all D p (vH ρ s (.v (.bool true))) n H K)(h2:t=false->aD P G all D p (vH ρ s (.v (.bool false))) n H K):aD P G all D p ρ n H K:=by
 have e:=Ws ρ s
 rw [hr]at e
 cases t with
 | true=>have:=h1 rfl;rw [e]at this;exact this
 | false=>have:=h2 rfl;rw [e]at this;exact this
end
end Go.Proofs.YtocckceefcmeaaaGreatDoor.Ax
namespace Go.Proofs.YtocckceefcmeaaaGreatDoor.Cl
open RowKit Vc Ax Go.Proofs.Tryz
attribute [local irreducible] loadVar storeVar Instr.indexAt Instr.index Instr.sliceAt Instr.makeSlice Instr.lookup Instr.mapUpdate Instr.range Instr.next Instr.entry Instr.makeMap Builtin.append_ Builtin.copy_ Builtin.len_ Builtin.min_ Builtin.max_ Builtin.cap_ Builtin.delete_ Builtin.clear_ convert binOp eqGuard Op.unary Calls
theorem ahn:(2:Int)^min (Int.toNat 1) IntKind.u64.bits=2:=by decide
def l8:List UInt8:= [0,1,2,2,3,3,3,3,4,4,4,4,4,4,4,4,5,5,5,5,5,5,5,5,5,5,5,5,5,5,5,5,6,6,6,6,6,6,6,6,6,6,6,6,6,6,6,6,6,6,6,6,6,6,6,6,6,6,6,6,6,6,6,6,7,7,7,7,7,7,7,7,7,7,7,7,7,7,7,7,7,7,7,7,7,7,7,7,7,7,7,7,7,7,7,7,7,7,7,7,7,7,7,7,7,7,7,7,7,7,7,7,7,7,7,7,7,7,7,7,7,7,7,7,7,7,7,7,8,8,8,8,8,8,8,8,8,8,8,8,8,8,8,8,8,8,8,8,8,8,8,8,8,8,8,8,8,8,8,8,8,8,8,8,8,8,8,8,8,8,8,8,8,8,8,8,8,8,8,8,8,8,8,8,8,8,8,8,8,8,8,8,8,8,8,8,8,8,8,8,8,8,8,8,8,8,8,8,8,8,8,8,8,8,8,8,8,8,8,8,8,8,8,8,8,8,8,8,8,8,8,8,8,8,8,8,8,8,8,8,8,8,8,8,8,8,8,8,8,8,8,8,8,8,8,8]
theorem ajd : ∀j,j<256->(l8.getD j 0).toNat=wid 8 j:=by decide
theorem adI : ∀(f u:Nat),u<2^f->0<u->0<wid f u∧2^(wid f u-1)<=u:=by
 intro f
 induction f with
 | zero=>intro u h h0;simp at h;omega
 | succ f ih=>
  intro u h h0
  unfold wid
  rw [if_neg (by omega)]
  refine⟨by omega, ?_⟩
  rw [jI]
  rcases cO (u/2)with e|e
  ·rw [e]
   have:wid f 0=0:=by cases f<;>simp [wid]
   rw [this];simp;omega
  ·have:=ih (u/2) (by rw [gZ]at h;omega) e
   obtain⟨w,hw⟩ : ∃w,wid f (u/2)=w+1:=⟨wid f (u/2)-1,by omega⟩
   rw [hw]at this ⊢
   rw [jI]at this
   rw [gZ]
   omega
theorem Zb {f u w:Nat}(hu:u<2^f)(h1:u<2^w)(h2:w=0∨2^(w-1)<=u):wid f u=w:=by
 have h3:=adv f u w h1
 rcases dP (wid f u) w with h|h
 ·exfalso
  have h4:=(qQ f u hu).1
  have h5:2^(wid f u)<=2^(w-1):=dL (by decide) (by omega)
  omega
 ·omega
theorem Zc {u:Nat}(hu:u<18446744073709551616)(s:Nat)(h8:u/2^s<256)(h1:s=0∨1<=u/2^s):wid 64 u=s+wid 8 (u/2^s):=by
 have h2:=qQ 8 (u/2^s) h8
 refine Zb hu ?_ ?_
 ·rw [Nat.pow_add]
  have:=(kY (Nat.pow_pos (by decide):0<2^s)).1 h2.1
  rwa [gY]at this
 ·rcases cO (u/2^s)with h0|h0
  ·left;rw [h0];have:s=0:=by omega
   subst this;decide
  ·right
   have h3:=adI 8 _ h8 h0
   obtain⟨w,hw⟩ : ∃w,wid 8 (u/2^s)=w+1:=⟨wid 8 (u/2^s)-1,by omega⟩
   rw [hw]at h3 ⊢
   rw [jI]at h3
   rw [show s+(w+1)-1=s+w by omega,Nat.pow_add]
   exact dM (iD _ h3.2) (Nat.mul_div_le u _)
theorem adJ (u s:Nat)(hs:s<=64):Int.fdiv (u:Int) (2^min (Int.toNat (s:Int)) IntKind.u64.bits)=((u/2^s:Nat):Int):=by
 have e:IntKind.u64.bits=64:=rfl
 rw [e,dh,dW hs,gB _ (by exact Int.pow_nonneg (by decide))]
 simp
theorem aje (u:Nat):Int.fdiv (u:Int) (2^min (Int.toNat 32) IntKind.u64.bits)=((u/4294967296:Nat):Int):=adJ u 32 (by decide)
theorem ae8 (u:Nat):Int.fdiv (u:Int) (2^min (Int.toNat 16) IntKind.u64.bits)=((u/65536:Nat):Int):=adJ u 16 (by decide)
theorem adK (u:Nat):Int.fdiv (u:Int) (2^min (Int.toNat 8) IntKind.u64.bits)=((u/256:Nat):Int):=adJ u 8 (by decide)
theorem leaf {u v:Nat}(hu:u<18446744073709551616)(s:Nat)(hv:v=u/2^s)(h8:v<256)(h1:s=0∨1<=v):wid 64 u=s+wid 8 v:=by
 subst hv;exact Zc hu s h8 h1
theorem FC {j:Nat}(h:j<256):IntKind.i64.wrap (((l8.getD j 0).toNat:Nat):Int)=(wid 8 j:Int):=by
 rw [ajd j h]
 have:=(qQ 8 j h).2
 exact IntWalk.i64_in _ (by omega)
theorem Zd (u:Nat)(hu:u<18446744073709551616):mQ Tryz.prog GC 199 [uv u] 0 [] (Is (iv (wid 64 u))):=by
 refine lQ func199 rfl mixed (by kernel_rfl) ?_
 refine lK (fun h1=> ?_) (fun h1=> ?_)<;>(simp at h1;conv=>whnf)
 ·refine lN.mk (by decide) ?_
  rw [aje]
  refine lK (fun h2=> ?_) (fun h2=> ?_)<;>(simp at h2;conv=>whnf)
  refine lN.mk (by decide) ?_
  rw [ae8]
  refine lV.i64 (by omega) ?_
  refine lK (fun h3=> ?_) (fun h3=> ?_)<;>(simp at h3;conv=>whnf)
  ·refine lN.mk (by decide) ?_
   rw [adK]
   refine lV.i64 (by omega) ?_
   refine lV.to (yH (by omega)) ?_
   refine mZ.mk' _ rfl (by show _<256;omega) ?_
   refine lV.to (FC (by omega)) ?_
   refine lV.to (y:=(wid 64 u:Int)) (by
    have hw:=qQ 64 u hu
    have:=leaf (v:=u/4294967296/65536/256) hu 56 (by first|rfl|(show _=u/72057594037927936;omega)) (by omega) (by omega)
    rw [IntWalk.i64_in _ (by omega)];omega) ?_
   exact lZ [] (by repeat' (first|rfl|trivial|apply And.intro))
  ·skip
   refine lV.to (yH (by omega)) ?_
   refine mZ.mk' _ rfl (by show _<256;omega) ?_
   refine lV.to (FC (by omega)) ?_
   refine lV.to (y:=(wid 64 u:Int)) (by
    have hw:=qQ 64 u hu
    have:=leaf (v:=u/4294967296/65536) hu 48 (by first|rfl|(show _=u/281474976710656;omega)) (by omega) (by omega)
    rw [IntWalk.i64_in _ (by omega)];omega) ?_
   exact lZ [] (by repeat' (first|rfl|trivial|apply And.intro))
  refine lK (fun h3=> ?_) (fun h3=> ?_)<;>(simp at h3;conv=>whnf)
  ·refine lN.mk (by decide) ?_
   rw [adK]
   refine lV.i64 (by omega) ?_
   refine lV.to (yH (by omega)) ?_
   refine mZ.mk' _ rfl (by show _<256;omega) ?_
   refine lV.to (FC (by omega)) ?_
   refine lV.to (y:=(wid 64 u:Int)) (by
    have hw:=qQ 64 u hu
    have:=leaf (v:=u/4294967296/256) hu 40 (by first|rfl|(show _=u/1099511627776;omega)) (by omega) (by omega)
    rw [IntWalk.i64_in _ (by omega)];omega) ?_
   exact lZ [] (by repeat' (first|rfl|trivial|apply And.intro))
  ·skip
   refine lV.to (yH (by omega)) ?_
   refine mZ.mk' _ rfl (by show _<256;omega) ?_
   refine lV.to (FC (by omega)) ?_
   refine lV.to (y:=(wid 64 u:Int)) (by
    have hw:=qQ 64 u hu
    have:=leaf (v:=u/4294967296) hu 32 (by first|rfl|(show _=u/4294967296;omega)) (by omega) (by omega)
    rw [IntWalk.i64_in _ (by omega)];omega) ?_
   exact lZ [] (by repeat' (first|rfl|trivial|apply And.intro))
 ·refine lK (fun h2=> ?_) (fun h2=> ?_)<;>(simp at h2;conv=>whnf)
  refine lN.mk (by decide) ?_
  rw [ae8]
  refine lV.i64 (by omega) ?_
  refine lK (fun h3=> ?_) (fun h3=> ?_)<;>(simp at h3;conv=>whnf)
  ·refine lN.mk (by decide) ?_
   rw [adK]
   refine lV.i64 (by omega) ?_
   refine lV.to (yH (by omega)) ?_
   refine mZ.mk' _ rfl (by show _<256;omega) ?_
   refine lV.to (FC (by omega)) ?_
   refine lV.to (y:=(wid 64 u:Int)) (by
    have hw:=qQ 64 u hu
    have:=leaf (v:=u/65536/256) hu 24 (by first|rfl|(show _=u/16777216;omega)) (by omega) (by omega)
    rw [IntWalk.i64_in _ (by omega)];omega) ?_
   exact lZ [] (by repeat' (first|rfl|trivial|apply And.intro))
  ·skip
   refine lV.to (yH (by omega)) ?_
   refine mZ.mk' _ rfl (by show _<256;omega) ?_
   refine lV.to (FC (by omega)) ?_
   refine lV.to (y:=(wid 64 u:Int)) (by
    have hw:=qQ 64 u hu
    have:=leaf (v:=u/65536) hu 16 (by first|rfl|(show _=u/65536;omega)) (by omega) (by omega)
    rw [IntWalk.i64_in _ (by omega)];omega) ?_
   exact lZ [] (by repeat' (first|rfl|trivial|apply And.intro))
  refine lK (fun h3=> ?_) (fun h3=> ?_)<;>(simp at h3;conv=>whnf)
  ·refine lN.mk (by decide) ?_
   rw [adK]
   refine lV.i64 (by omega) ?_
   refine lV.to (yH (by omega)) ?_
   refine mZ.mk' _ rfl (by show _<256;omega) ?_
   refine lV.to (FC (by omega)) ?_
   refine lV.to (y:=(wid 64 u:Int)) (by
    have hw:=qQ 64 u hu
    have:=leaf (v:=u/256) hu 8 (by first|rfl|(show _=u/256;omega)) (by omega) (by omega)
    rw [IntWalk.i64_in _ (by omega)];omega) ?_
   exact lZ [] (by repeat' (first|rfl|trivial|apply And.intro))
  ·skip
   refine lV.to (yH (by omega)) ?_
   refine mZ.mk' _ rfl (by show _<256;omega) ?_
   refine lV.to (FC (by omega)) ?_
   refine lV.to (y:=(wid 64 u:Int)) (by
    have hw:=qQ 64 u hu
    have:=leaf (v:=u) hu 0 (by first|rfl|(show _=u/1;omega)) (by omega) (by omega)
    rw [IntWalk.i64_in _ (by omega)];omega) ?_
   exact lZ [] (by repeat' (first|rfl|trivial|apply And.intro))
theorem Ze {f:FuncId}{l:List Value}{x y:Value}(h : ∀w,zC Tryz.prog f l.toArray w fun v w'=>v = .tuple #[x,y]∧Below w.heap.size w w'):mQ Tryz.prog GC f (l.map .v) 0 [] (Is (.nN [.v x, .v y])):=by
 intro w σ F vs st r
 refine(BH (G:=GC) (x:= .tuple #[x,y]) (fun w _=>h w) w σ F vs st r).mono fun v w' ⟨a,n',σ',F',H',⟨e1,e2,e3⟩,s,x',ra⟩=> ?_
 subst e1;subst e2;subst e3
 refine⟨.nN [.v x, .v y],0,σ',F',[],⟨rfl,rfl,rfl⟩,s,x', ?_⟩
 rw [ra.oJ]
 exact nX.nN («as» := [.v x, .v y]) (vs:= [x,y]) ⟨.v _, .v _,trivial⟩
theorem aho (b more:By)(hb:b.length+more.length<=4000000):mQ Tryz.prog GC 65 [bs b,bs more] 0 [] (sW 5 1 ((b++more).map oh)):=by
 refine lQ func65 rfl mixed (by kernel_rfl) ?_
 conv=>whnf
 (repeat' ((first|refine And.intro ?_ ?_|(apply lK<;>intro h<;>try simp only [bl]at h)|refine lV.i64 (by first|omega|(simp only [ln]at *;omega)) ?_|refine mZ.mk' _ rfl (by first|omega|(simp only [ln]at *;omega)) ?_|refine mD.lT (by assumption) ?_|refine mD.set (by first|omega|(simp only [ln]at *;omega)) ?_|refine mD.map (by first|omega|(simp only [ln]at *;omega)) ?_|refine lN.mk (by first|decide|omega) ?_|refine sO.mk (by kernel_rfl) rfl rfl ?_|refine lN.mk (lS (by first|omega|(simp only [ln]at *;omega)) (by kernel_rfl)) ?_)<;>conv=>whnf))
 refine KG.cap (qY:=1) 0 (b.length+more.length) rfl (by rw [ah,ah];omega) (au _) (by unfold maxLen;omega) ?_
 conv=>whnf
 (repeat' ((first|refine And.intro ?_ ?_|(apply lK<;>intro h<;>try simp only [bl]at h)|refine lV.i64 (by first|omega|(simp only [ln]at *;omega)) ?_|refine mZ.mk' _ rfl (by first|omega|(simp only [ln]at *;omega)) ?_|refine mD.lT (by assumption) ?_|refine mD.set (by first|omega|(simp only [ln]at *;omega)) ?_|refine mD.map (by first|omega|(simp only [ln]at *;omega)) ?_|refine lN.mk (by first|decide|omega) ?_|refine sO.mk (by kernel_rfl) rfl rfl ?_|refine lN.mk (lS (by first|omega|(simp only [ln]at *;omega)) (by kernel_rfl)) ?_)<;>conv=>whnf))
 rw [aJ]
 exact lX (.own 0) 1 _ [(0, .lab 2)] [] ⟨rfl,rfl,rfl⟩ rfl (by trivial) (by trivial)
theorem ajf:(2:Int)^min (Int.toNat 7) IntKind.u64.bits=128:=by decide
theorem ajg:(2:Int)^min (Int.toNat 63) IntKind.u64.bits=9223372036854775808:=by decide
def GI (f u:Nat)(out:By):Prop:=u<2*128^f∧f<=9∧out.length+f=9
theorem GI.next {f u:Nat}{out:By}(h:GI f u out)(hu:128<=u) : ∃g,f=g+1∧GI g (u/128) (out++ [UInt8.ofNat (128+u%128)])∧out++grp f u=(out++ [UInt8.ofNat (128+u%128)])++grp g (u/128):=by
 obtain⟨h1,h2,h3⟩:=h
 cases f with
 | zero=>simp at h1;omega
 | succ g=>
  refine⟨g,rfl,⟨?_,by omega,by simp;omega⟩, ?_⟩
  ·rw [BK]at h1;omega
  ·rw [show grp (g+1) u=UInt8.ofNat (128+u%128)::grp g (u/128) by unfold grp;rw [if_neg (by omega)];cases g<;>rfl];simp
theorem Qj {f u:Nat}(h:u<128):grp f u = [UInt8.ofNat u]:=by cases f with
 | zero=>rfl
 | succ f=>unfold grp;rw [if_pos h]
theorem GI.start {n:Int}(hn:I64 n):GI 9 (zu n) []∧ []++grp 9 (zu n)=num n:=by
 have hz:=YE hn
 have e:(128:Nat)^9=9223372036854775808:=by decide
 exact⟨⟨by rw [e];omega,aA _,rfl⟩,rfl⟩
structure GX where
 f:Nat
 u:Nat
 out:By
theorem Dl (out:By)(c:UInt8):(out++ [c]).map oh=out.map oh++ [[FV.v (.int .u8 (c.toNat:Int))]]:=by rw [aJ];rfl
theorem UQ (n:Int)(hn:I64 n):mQ Tryz.prog GC 66 [iv n] 0 [] (sW 5 1 ((num n).map oh)):=by
 have hz:=YE hn
 have ajh:nD .xor .u64 (IntKind.u64.wrap (IntKind.u64.wrap n*2^min (Int.toNat 1) IntKind.u64.bits)) (IntKind.u64.wrap (n.fdiv (2^min (Int.toNat 63) IntKind.u64.bits)))=(zu n:Int):=by
  rw [ahn,ajg];exact adq n hn
 refine lQ func66 rfl mixed (by kernel_rfl) ?_
 refine lV.to rfl ?_
 conv=>whnf
 (repeat' ((first|refine And.intro ?_ ?_|(apply lK<;>intro h<;>try simp only [bl]at h)|refine lV.i64 (by first|omega|(simp only [ln]at *;omega)) ?_|refine mZ.mk' _ rfl (by first|omega|(simp only [ln]at *;omega)) ?_|refine mD.lT (by assumption) ?_|refine mD.set (by first|omega|(simp only [ln]at *;omega)) ?_|refine mD.map (by first|omega|(simp only [ln]at *;omega)) ?_|refine lN.mk (by first|decide|omega) ?_|refine sO.mk (by kernel_rfl) rfl rfl ?_|refine lN.mk (lS (by first|omega|(simp only [ln]at *;omega)) (by kernel_rfl)) ?_)<;>conv=>whnf))
 refine lV.to rfl ?_
 conv=>whnf
 (repeat' ((first|refine And.intro ?_ ?_|(apply lK<;>intro h<;>try simp only [bl]at h)|refine lV.i64 (by first|omega|(simp only [ln]at *;omega)) ?_|refine mZ.mk' _ rfl (by first|omega|(simp only [ln]at *;omega)) ?_|refine mD.lT (by assumption) ?_|refine mD.set (by first|omega|(simp only [ln]at *;omega)) ?_|refine mD.map (by first|omega|(simp only [ln]at *;omega)) ?_|refine lN.mk (by first|decide|omega) ?_|refine sO.mk (by kernel_rfl) rfl rfl ?_|refine lN.mk (lS (by first|omega|(simp only [ln]at *;omega)) (by kernel_rfl)) ?_)<;>conv=>whnf))
 refine lV.to rfl ?_
 refine mO agy 1 [3,4] (fun x:GX=> [(3,uv x.u),(4, .own 0)]) (fun x=> [(0, .rows 5 1 (x.out.map oh))]) (fun x=>GI x.f x.u x.out∧x.out++grp x.f x.u=num n) (fun x=>x.f) [(0, .nil)] [] ⟨9,zu n,[]⟩ (by kernel_rfl) (fun _=>rfl) rfl (GI.start hn) ⟨rfl,trivial⟩ ⟨congrArg (Value.int .u64) ajh,trivial,trivial⟩ ?_
 rintro⟨f,u,out⟩ ⟨hg,hout⟩
 have hlen:=hg.2.2
 apply lK<;>intro h
 ·have hu:128<=u:=by simp at h;omega
  obtain⟨g,rfl,hg2,ho2⟩:=hg.next hu
  refine lV.to rfl ?_
  conv=>whnf
  (repeat' ((first|refine And.intro ?_ ?_|(apply lK<;>intro h<;>try simp only [bl]at h)|refine lV.i64 (by first|omega|(simp only [ln]at *;omega)) ?_|refine mZ.mk' _ rfl (by first|omega|(simp only [ln]at *;omega)) ?_|refine mD.lT (by assumption) ?_|refine mD.set (by first|omega|(simp only [ln]at *;omega)) ?_|refine mD.map (by first|omega|(simp only [ln]at *;omega)) ?_|refine lN.mk (by first|decide|omega) ?_|refine sO.mk (by kernel_rfl) rfl rfl ?_|refine lN.mk (lS (by first|omega|(simp only [ln]at *;omega)) (by kernel_rfl)) ?_)<;>conv=>whnf))
  refine lU ⟨g,u/128,out++ [UInt8.ofNat (128+u%128)]⟩ [(0, .lab 2)] [] rfl (jU g) ⟨hg2,by rw [<-ho2];exact hout⟩ ?_ ?_
  ·refine⟨⟨rfl,rfl, ?_⟩,trivial⟩
   rw [Dl, <-YG]
  ·refine⟨congrArg (Value.int .u64) (by rw [ajf];exact ai6 u), ?_⟩
   trivial
 ·have hu:u<128:=by simp at h;omega
  refine lV.to (Lh hu) ?_
  conv=>whnf
  (repeat' ((first|refine And.intro ?_ ?_|(apply lK<;>intro h<;>try simp only [bl]at h)|refine lV.i64 (by first|omega|(simp only [ln]at *;omega)) ?_|refine mZ.mk' _ rfl (by first|omega|(simp only [ln]at *;omega)) ?_|refine mD.lT (by assumption) ?_|refine mD.set (by first|omega|(simp only [ln]at *;omega)) ?_|refine mD.map (by first|omega|(simp only [ln]at *;omega)) ?_|refine lN.mk (by first|decide|omega) ?_|refine sO.mk (by kernel_rfl) rfl rfl ?_|refine lN.mk (lS (by first|omega|(simp only [ln]at *;omega)) (by kernel_rfl)) ?_)<;>conv=>whnf))
  refine lX (.own 0) 1 _ [(0, .lab 2)] [] ⟨rfl,rfl,rfl⟩ rfl ⟨⟨rfl,rfl, ?_⟩,trivial⟩ (by trivial)
  rw [<-hout,Qj hu,Dl]
theorem rE (b:By)(n:Int)(hn:I64 n)(hb:b.length<=3999990):mQ Tryz.prog GC 28 [bs b,iv n] 0 [] (sW 5 1 ((b++num n).map oh)):=by
 have hl:=(ni n).2
 refine lQ func28 rfl mixed (by kernel_rfl) ?_
 refine mY [] (by kernel_rfl) (UQ n hn) (by trivial) ?_
 refine mY [0] (by kernel_rfl) (aho b (num n) (by omega)) (by trivial) ?_
 exact lX (.own 0) 1 _ [(0, .lab 1)] [] ⟨rfl,rfl,rfl⟩ rfl (by trivial) (by trivial)
theorem Zf {u:Nat}(hu:u<18446744073709551616):IntKind.u8.wrap (nD .and .u64 (u:Int) 127)=((u%128:Nat):Int):=by
 have e:(127:Int)=((127:Nat):Int):=rfl
 rw [e,I4 u 127 hu (by decide),YF,yH (by omega)]
theorem adL {u:Nat} : nD .or .u8 ((u%128:Nat):Int) 128=((UInt8.ofNat (128+u%128)).toNat:Int):=by
 have e2:(128:Int)=((128:Nat):Int):=rfl
 rw [e2,NG _ _ (by omega) (by omega),ae4 (by omega),toNat_ofNat (by omega)]
 congr 1
 omega
theorem GI.u64 {f u:Nat}{out:By}(h:GI f u out):u<18446744073709551616:=by
 have e:(128:Nat)^9=9223372036854775808:=by decide
 have:=dL (show 0<128 by decide) h.2.1
 have:=h.1
 omega
theorem ahp (n:Int)(hn:I64 n):(n<0->nD .xor .u64 (bif IntKind.u64.signed then -1 else IntKind.u64.max) (IntKind.u64.wrap (IntKind.u64.wrap n*2^min (Int.toNat 1) IntKind.u64.bits))=(zu n:Int))∧(¬n<0->IntKind.u64.wrap (IntKind.u64.wrap n*2^min (Int.toNat 1) IntKind.u64.bits)=(zu n:Int)):=by
 have e:IntKind.u64.bits=64:=rfl
 have s:IntKind.u64.signed=false:=rfl
 have hm:IntKind.u64.max=((18446744073709551615:Nat):Int):=by decide
 rw [ahn]
 unfold I64 at hn
 unfold zu
 constructor
 ·intro h
  have e1:IntKind.u64.wrap (IntKind.u64.wrap n*2)=((18446744073709551616 -(-2*n).toNat:Nat):Int):=by
   simp only [IntKind.wrap,e,s,dY,bf,if_false];omega
  rw [if_pos h,e1,s,cond_false,hm,Dh _ _ (by omega) (by omega),Nat.xor_comm,I5 (by omega)]
  omega
 ·intro h
  rw [if_neg h]
  simp only [IntKind.wrap,e,s,dY,bf,if_false];omega
theorem sJ (b:By)(n:Int)(hn:I64 n)(hb:b.length<=3999990):mQ Tryz.prog GC 30 [bs b,iv n] 0 [] (sW 5 1 ((b++num n).map oh)):=by
 have hd:=ahp n hn
 refine lQ func30 rfl mixed (by kernel_rfl) ?_
 conv=>whnf
 (repeat' ((first|refine And.intro ?_ ?_|(apply lK<;>intro h<;>try simp only [bl]at h)|refine lV.i64 (by first|omega|(simp only [ln]at *;omega)) ?_|refine mZ.mk' _ rfl (by first|omega|(simp only [ln]at *;omega)) ?_|refine mD.lT (by assumption) ?_|refine mD.set (by first|omega|(simp only [ln]at *;omega)) ?_|refine mD.map (by first|omega|(simp only [ln]at *;omega)) ?_|refine lN.mk (by first|decide|omega) ?_|refine sO.mk (by kernel_rfl) rfl rfl ?_|refine lN.mk (lS (by first|omega|(simp only [ln]at *;omega)) (by kernel_rfl)) ?_)<;>conv=>whnf))
 refine lV.to rfl ?_
 refine lN.mk (by decide) ?_
 refine lV.to rfl ?_
 apply lK<;>intro h
 all_goals
  have hu0:=(by simp at h;first|exact hd.1 (by omega)|exact hd.2 (by omega))
  refine mO agd 2 [0,5] (fun x:GX=> [(0, .own 1),(5,uv x.u)]) (fun x=> [(1, .rows 5 1 ((b++x.out).map oh))]) (fun x=>GI x.f x.u x.out∧x.out++grp x.f x.u=num n) (fun x=>x.f) [(1, .lab 0)] [] ⟨9,zu n,[]⟩ (by kernel_rfl) (fun _=>rfl) rfl (GI.start hn) ⟨⟨rfl,rfl,by rw [bY]⟩,trivial⟩ ⟨rfl,congrArg (Value.int .u64) hu0,trivial⟩ ?_
  rintro⟨f,u,out⟩ ⟨hg,hout⟩
  have hlen:=hg.2.2
  have h64:=hg.u64
  apply lK<;>intro h
  ·have hu:128<=u:=by simp at h;omega
   obtain⟨g,rfl,hg2,ho2⟩:=hg.next hu
   refine lV.to (Zf h64) ?_
   conv=>whnf
   (repeat' ((first|refine And.intro ?_ ?_|(apply lK<;>intro h<;>try simp only [bl]at h)|refine lV.i64 (by first|omega|(simp only [ln]at *;omega)) ?_|refine mZ.mk' _ rfl (by first|omega|(simp only [ln]at *;omega)) ?_|refine mD.lT (by assumption) ?_|refine mD.set (by first|omega|(simp only [ln]at *;omega)) ?_|refine mD.map (by first|omega|(simp only [ln]at *;omega)) ?_|refine lN.mk (by first|decide|omega) ?_|refine sO.mk (by kernel_rfl) rfl rfl ?_|refine lN.mk (lS (by first|omega|(simp only [ln]at *;omega)) (by kernel_rfl)) ?_)<;>conv=>whnf))
   refine lU ⟨g,u/128,out++ [UInt8.ofNat (128+u%128)]⟩ [(1, .lab 3)] [] rfl (jU g) ⟨hg2,by rw [<-ho2];exact hout⟩ ?_ ?_
   ·refine⟨⟨rfl,rfl, ?_⟩,trivial⟩
    rw [<-aH,Dl, <-adL]
   ·refine⟨rfl,congrArg (Value.int .u64) (by rw [ajf];exact ai6 u),trivial⟩
  ·have hu:u<128:=by simp at h;omega
   refine lV.to (Lh hu) ?_
   conv=>whnf
   (repeat' ((first|refine And.intro ?_ ?_|(apply lK<;>intro h<;>try simp only [bl]at h)|refine lV.i64 (by first|omega|(simp only [ln]at *;omega)) ?_|refine mZ.mk' _ rfl (by first|omega|(simp only [ln]at *;omega)) ?_|refine mD.lT (by assumption) ?_|refine mD.set (by first|omega|(simp only [ln]at *;omega)) ?_|refine mD.map (by first|omega|(simp only [ln]at *;omega)) ?_|refine lN.mk (by first|decide|omega) ?_|refine sO.mk (by kernel_rfl) rfl rfl ?_|refine lN.mk (lS (by first|omega|(simp only [ln]at *;omega)) (by kernel_rfl)) ?_)<;>conv=>whnf))
   refine lX (.own 0) 1 _ [(0, .lab 3)] [] ⟨rfl,rfl,rfl⟩ rfl ⟨⟨rfl,rfl, ?_⟩,trivial⟩ (by trivial)
   rw [<-hout,Qj hu, <-aH,Dl]
structure LX where
 k:Nat
 p:Int
 out:By
theorem adM (l:Li)(x:Int):b1 (l++ [x])=b1 l++num x:=by simp [b1]
theorem NQ {l:Li}{k:Nat}(h:k<l.length):b1 (l.take (k+1))=b1 (l.take k)++num l[k]:=by rw [aG h,adM]
theorem zS (l:Li)(k:Nat):(b1 (l.take k)).length<=10*l.length:=by
 have:=I9 (l.take k);rw [aK]at this;omega
theorem LC (b:By)(l:Li)(hl:nP l)(hs:b.length+10*l.length<=3000000):mQ Tryz.prog GC 176 [bs b,li l] 0 [] (Is (bs (b++b1 l))):=by
 refine lQ func176 rfl mixed (by kernel_rfl) ?_
 refine mO aco 0 [0,9] (fun k:Nat=> [(0,bs (b++b1 (l.take k))),(9,iv k)]) (fun _=> []) (fun k=>k<=l.length) (fun k=>l.length-k) [] [] 0 (by kernel_rfl) (fun _=>rfl) rfl (au _) trivial ⟨⟨rfl,by simp [b1]⟩,rfl,trivial⟩ ?_
 rintro k hk
 have hbl:=zS l k
 refine lK (fun hlt=> ?_) (fun hge=> ?_)
 ·have hlt:k<l.length:=by simpa using hlt
  conv=>whnf
  (repeat' ((first|refine And.intro ?_ ?_|(apply lK<;>intro h<;>try simp only [bl]at h)|refine lV.i64 (by first|omega|(simp only [ln]at *;omega)) ?_|refine mZ.mk' _ rfl (by first|omega|(simp only [ln]at *;omega)) ?_|refine mD.lT (by assumption) ?_|refine mD.set (by first|omega|(simp only [ln]at *;omega)) ?_|refine mD.map (by first|omega|(simp only [ln]at *;omega)) ?_|refine lN.mk (by first|decide|omega) ?_|refine sO.mk (by kernel_rfl) rfl rfl ?_|refine lN.mk (lS (by first|omega|(simp only [ln]at *;omega)) (by kernel_rfl)) ?_)<;>conv=>whnf))
  refine mY [] (by kernel_rfl) (rE (b++b1 (l.take k)) l[k] (hl _ (aT hlt)) (by rw [ak];omega)) (by trivial) ?_
  conv=>whnf
  (repeat' ((first|refine And.intro ?_ ?_|(apply lK<;>intro h<;>try simp only [bl]at h)|refine lV.i64 (by first|omega|(simp only [ln]at *;omega)) ?_|refine mZ.mk' _ rfl (by first|omega|(simp only [ln]at *;omega)) ?_|refine mD.lT (by assumption) ?_|refine mD.set (by first|omega|(simp only [ln]at *;omega)) ?_|refine mD.map (by first|omega|(simp only [ln]at *;omega)) ?_|refine lN.mk (by first|decide|omega) ?_|refine sO.mk (by kernel_rfl) rfl rfl ?_|refine lN.mk (lS (by first|omega|(simp only [ln]at *;omega)) (by kernel_rfl)) ?_)<;>conv=>whnf))
  refine lU (k+1) [] [0] rfl (by show l.length -(k+1)<l.length-k;omega) hlt trivial ⟨⟨rfl,rfl,by rw [NQ hlt,aH]⟩,rfl,trivial⟩
 ·have:k=l.length:=by simp at hge;omega
  subst this
  conv=>whnf
  rw [aW]
  exact lZ [] (by trivial)
theorem drop_cons {l:Li}{k:Nat}(h:k<l.length):l.drop k=l[k]::l.drop (k+1):=dI h
theorem Wu (b:By)(l:Li)(hs:b.length+10*l.length<=3000000):mQ Tryz.prog GC 180 [bs b,li l] 0 [] (Is (bs (b++b3 l))):=by
 refine lQ func180 rfl mixed (by kernel_rfl) ?_
 refine mO acv 0 [0,5,10] (fun x:LX=> [(0,bs x.out),(5,iv x.p),(10,iv x.k)]) (fun _=> []) (fun x=>x.k<=l.length∧x.out++st x.p (l.drop x.k)=b++b3 l) (fun x=>l.length-x.k) [] [] ⟨0,0,b⟩ (by kernel_rfl) (fun _=>rfl) rfl ⟨au _,rfl⟩ trivial ⟨⟨rfl,rfl⟩,rfl,rfl,trivial⟩ ?_
 rintro⟨k,p,out⟩ ⟨hk,ho⟩
 change k<=l.length at hk
 change out++st p (l.drop k)=b++b3 l at ho
 have hbl:=st_len l 0
 have hol:out.length<=b.length+10*l.length:=by have:=congrArg List.length ho;simp only [ak,b3]at this;omega
 refine lK (fun hlt=> ?_) (fun hge=> ?_)
 ·have hlt:k<l.length:=by simp at hlt;omega
  simp only [drop_cons hlt,st]at ho
  conv=>whnf
  (repeat' ((first|refine And.intro ?_ ?_|(apply lK<;>intro h<;>try simp only [bl]at h)|refine lV.i64 (by first|omega|(simp only [ln]at *;omega)) ?_|refine mZ.mk' _ rfl (by first|omega|(simp only [ln]at *;omega)) ?_|refine mD.lT (by assumption) ?_|refine mD.set (by first|omega|(simp only [ln]at *;omega)) ?_|refine mD.map (by first|omega|(simp only [ln]at *;omega)) ?_|refine lN.mk (by first|decide|omega) ?_|refine sO.mk (by kernel_rfl) rfl rfl ?_|refine lN.mk (lS (by first|omega|(simp only [ln]at *;omega)) (by kernel_rfl)) ?_)<;>conv=>whnf))
  refine lV.to rfl ?_
  refine mY [] (by kernel_rfl) (rE out (wQ (l[k]-p)) (Ll _) (by omega)) (by trivial) ?_
  conv=>whnf
  (repeat' ((first|refine And.intro ?_ ?_|(apply lK<;>intro h<;>try simp only [bl]at h)|refine lV.i64 (by first|omega|(simp only [ln]at *;omega)) ?_|refine mZ.mk' _ rfl (by first|omega|(simp only [ln]at *;omega)) ?_|refine mD.lT (by assumption) ?_|refine mD.set (by first|omega|(simp only [ln]at *;omega)) ?_|refine mD.map (by first|omega|(simp only [ln]at *;omega)) ?_|refine lN.mk (by first|decide|omega) ?_|refine sO.mk (by kernel_rfl) rfl rfl ?_|refine lN.mk (lS (by first|omega|(simp only [ln]at *;omega)) (by kernel_rfl)) ?_)<;>conv=>whnf))
  refine lU ⟨k+1,l[k],out++num (wQ (l[k]-p))⟩ [] [0] rfl (by show l.length -(k+1)<l.length-k;omega) ⟨hlt,by rw [<-ho,aH]⟩ trivial ⟨⟨rfl,rfl,rfl⟩,rfl,rfl,trivial⟩
 ·have:k=l.length:=by simp at hge;omega
  subst this
  simp only [iI,st,bY]at ho
  conv=>whnf
  rw [<-ho]
  exact lZ [] (by trivial)
def Tj (l:Li)(i k:Nat):Prop:=i<=k∧k<=l.length∧l.drop i=List.replicate (k-i) (l.getD i 0)++l.drop k
theorem Tj.next {l:Li}{i k:Nat}(h:Tj l i k)(hk:k<l.length)(e:l[k]=l.getD i 0):Tj l i (k+1):=by
 obtain⟨h1,h2,h3⟩:=h
 refine⟨by omega,hk, ?_⟩
 rw [h3,drop_cons hk,e,show k+1-i=(k-i)+1 by omega,jq]
 simp
theorem Tj.fin {l:Li}{i k:Nat}(h:Tj l i k)(hi:i<l.length)(e : ∀hk:k<l.length,l[k]≠l.getD i 0):i<k∧b2 (l.drop i)=num (l.getD i 0)++(num ((k-i:Nat):Int)++b2 (l.drop k)):=by
 obtain⟨h1,h2,h3⟩:=h
 have hlt:i<k:=by
  rcases dP i k with h|h
  ·exact h
  ·have:k=i:=by omega
   subst this
   exact absurd (by rw [ay,aj hi];rfl) (e hi)
 refine⟨hlt, ?_⟩
 obtain⟨m,hm⟩ : ∃m,k-i=m+1:=⟨k-i-1,by omega⟩
 rw [h3,hm]
 unfold b2
 rw [ahd _ m _ (by
  rcases dP k l.length with h|h
  ·rw [drop_cons h];intro e2;exact e h (by simpa [aj h]using e2)
  ·rw [jh h];simp)]
 simp [enP]
theorem Zg (b:By)(l:Li)(hl:nP l)(hs:b.length+20*l.length<=3000000):mQ Tryz.prog GC 178 [bs b,li l] 0 [] (Is (bs (b++b2 l))):=by
 have hbl:=S9 l
 refine lQ func178 rfl mixed (by kernel_rfl) ?_
 refine mO acr 0 [0,5] (fun x:LX=> [(0,bs x.out),(5,iv x.k)]) (fun _=> []) (fun x=>x.k<=l.length∧x.out++b2 (l.drop x.k)=b++b2 l) (fun x=>l.length-x.k) [] [] ⟨0,0,b⟩ (by kernel_rfl) (fun _=>rfl) rfl ⟨au _,rfl⟩ trivial ⟨⟨rfl,rfl⟩,rfl,trivial⟩ ?_
 rintro⟨i,p,out⟩ ⟨hi,ho⟩
 change i<=l.length at hi
 change out++b2 (l.drop i)=b++b2 l at ho
 have hol:out.length<=b.length+20*l.length:=by have:=congrArg List.length ho;simp only [ak]at this;omega
 conv=>whnf
 (repeat' ((first|refine And.intro ?_ ?_|(apply lK<;>intro h<;>try simp only [bl]at h)|refine lV.i64 (by first|omega|(simp only [ln]at *;omega)) ?_|refine mZ.mk' _ rfl (by first|omega|(simp only [ln]at *;omega)) ?_|refine mD.lT (by assumption) ?_|refine mD.set (by first|omega|(simp only [ln]at *;omega)) ?_|refine mD.map (by first|omega|(simp only [ln]at *;omega)) ?_|refine lN.mk (by first|decide|omega) ?_|refine sO.mk (by kernel_rfl) rfl rfl ?_|refine lN.mk (lS (by first|omega|(simp only [ln]at *;omega)) (by kernel_rfl)) ?_)<;>conv=>whnf))
 ·have hlt:i<l.length:=by simp at h;omega
  refine mO acs 0 [6] (fun k:Nat=> [(6,iv k)]) (fun _=> []) (fun k=>Tj l i k) (fun k=>l.length-k) [] [] i (by kernel_rfl) (fun _=>rfl) rfl ⟨aA _,hi,by simp⟩ trivial ⟨rfl,trivial⟩ ?_
  rintro k hr
  have hk:=hr.2.1
  (refine mP agO [] (by kernel_rfl) ?_;conv=>whnf)
  have hgi:l.getD i 0=l[i]:=by rw [ay,aj hlt];rfl
  have done:(∀hk:k<l.length,l[k]≠l.getD i 0)->i<k∧out++num l[i]++num ((k-i:Nat):Int)++b2 (l.drop k)=b++b2 l:=fun e=>by
   have:=hr.fin hlt e
   refine⟨this.1, ?_⟩
   rw [<-ho,this.2,hgi]
   simp only [aH]
  (repeat' ((first|refine And.intro ?_ ?_|(apply lK<;>intro h<;>try simp only [bl]at h)|refine lV.i64 (by first|omega|(simp only [ln]at *;omega)) ?_|refine mZ.mk' _ rfl (by first|omega|(simp only [ln]at *;omega)) ?_|refine mD.lT (by assumption) ?_|refine mD.set (by first|omega|(simp only [ln]at *;omega)) ?_|refine mD.map (by first|omega|(simp only [ln]at *;omega)) ?_|refine lN.mk (by first|decide|omega) ?_|refine sO.mk (by kernel_rfl) rfl rfl ?_|refine lN.mk (lS (by first|omega|(simp only [ln]at *;omega)) (by kernel_rfl)) ?_)<;>conv=>whnf))
  ·rename_i h1
   have hkl:k<l.length:=by simp at h1;omega
   have e:l[k]=l.getD i 0:=by rw [hgi];exact h
   exact lU (k+1) [] [] rfl (by show l.length -(k+1)<l.length-k;omega) (hr.next hkl e) trivial ⟨rfl,trivial⟩
  all_goals
   have ⟨hik,hd⟩:=done (by first|(intro hkl e;rw [hgi]at e;exact absurd e h)|(intro hkl;simp at h;omega))
   have h10:=(ni l[i]).2
   have h20:=congrArg List.length hd
   simp only [ak]at h20
   refine mY [] (by kernel_rfl) (rE out l[i] (hl _ (aT hlt)) (by omega)) (by trivial) ?_
   conv=>whnf
   (repeat' ((first|refine And.intro ?_ ?_|(apply lK<;>intro h<;>try simp only [bl]at h)|refine lV.i64 (by first|omega|(simp only [ln]at *;omega)) ?_|refine mZ.mk' _ rfl (by first|omega|(simp only [ln]at *;omega)) ?_|refine mD.lT (by assumption) ?_|refine mD.set (by first|omega|(simp only [ln]at *;omega)) ?_|refine mD.map (by first|omega|(simp only [ln]at *;omega)) ?_|refine lN.mk (by first|decide|omega) ?_|refine sO.mk (by kernel_rfl) rfl rfl ?_|refine lN.mk (lS (by first|omega|(simp only [ln]at *;omega)) (by kernel_rfl)) ?_)<;>conv=>whnf))
   have hp:mQ Tryz.prog GC 28 [bs (out++num l[i]),iv ((k:Int) -(i:Int))] 0 [] (sW 5 1 ((out++num l[i]++num ((k-i:Nat):Int)).map oh)):=by
    rw [<-show ((k-i:Nat):Int)=(k:Int) -(i:Int) by omega]
    exact rE (out++num l[i]) ((k-i:Nat):Int) (nJ (by omega)) (by rw [ak];omega)
   refine mY [0] (by kernel_rfl) (hp) (by trivial) ?_
   conv=>whnf
   (repeat' ((first|refine And.intro ?_ ?_|(apply lK<;>intro h<;>try simp only [bl]at h)|refine lV.i64 (by first|omega|(simp only [ln]at *;omega)) ?_|refine mZ.mk' _ rfl (by first|omega|(simp only [ln]at *;omega)) ?_|refine mD.lT (by assumption) ?_|refine mD.set (by first|omega|(simp only [ln]at *;omega)) ?_|refine mD.map (by first|omega|(simp only [ln]at *;omega)) ?_|refine lN.mk (by first|decide|omega) ?_|refine sO.mk (by kernel_rfl) rfl rfl ?_|refine lN.mk (lS (by first|omega|(simp only [ln]at *;omega)) (by kernel_rfl)) ?_)<;>conv=>whnf))
   exact lU ⟨k,0,out++num l[i]++num ((k-i:Nat):Int)⟩ [] [1] rfl (by show l.length-k<l.length-i;omega) ⟨hk,hd⟩ trivial ⟨⟨rfl,rfl,rfl⟩,rfl,trivial⟩
 ·have:i=l.length:=by simp at h;omega
  subst this
  simp only [iI,b2,rl,jW,bY]at ho
  rw [ho]
  exact lZ [] (by trivial)
def fnv (f:FuncId):AV:= .v (.func (.func f) #[] #[])
def cds:List AV:= [fnv 176,fnv 177,fnv 178,fnv 179,fnv 180,fnv 181,fnv 182,fnv 183,fnv 184,fnv 185]
theorem Aw:mQ Tryz.prog GC 158 [] 0 [] (Is (.agg cds)):=by
 refine lQ func158 rfl mixed (by kernel_rfl) ?_
 exact lZ [] (by trivial)
theorem adN {l:Li}{m:Int}(h1:m∈l)(h2 : ∀x∈l,m<=x):m=lo l:=by
 have:=lo_le h1
 have:=h2 _ this.2
 omega
theorem adO {l:Li}{m:Int}(h1:m∈l)(h2 : ∀x∈l,x<=m):m=hi l:=by
 have:=Qd h1
 have:=h2 _ this.2
 omega
structure KX where
 k:Nat
 m:Int
theorem alb (l:Li)(hl:l≠ [])(hs:l.length<=1000000):mQ Tryz.prog GC 206 [li l] 0 [] (Is (iv (lo l))):=by
 have h0:0<l.length:=dX.2 hl
 have st : ∀j (hj:j<1) (hjl:j<l.length),l[j]=l[0]:=fun j hj hjl=>by
  have:j=0:=by omega
  subst this;rfl
 refine lQ func206 rfl mixed (by kernel_rfl) ?_
 apply lK<;>intro h
 ·simp at h;omega
 conv=>whnf
 (repeat' ((first|refine And.intro ?_ ?_|(apply lK<;>intro h<;>try simp only [bl]at h)|refine lV.i64 (by first|omega|(simp only [ln]at *;omega)) ?_|refine mZ.mk' _ rfl (by first|omega|(simp only [ln]at *;omega)) ?_|refine mD.lT (by assumption) ?_|refine mD.set (by first|omega|(simp only [ln]at *;omega)) ?_|refine mD.map (by first|omega|(simp only [ln]at *;omega)) ?_|refine lN.mk (by first|decide|omega) ?_|refine sO.mk (by kernel_rfl) rfl rfl ?_|refine lN.mk (lS (by first|omega|(simp only [ln]at *;omega)) (by kernel_rfl)) ?_)<;>conv=>whnf))
 refine mO acM 0 [3,4] (fun x:KX=> [(3,iv x.m),(4,iv x.k)]) (fun _=> []) (fun x=>x.k<=l.length∧x.m∈l∧∀j (hj:j<x.k) (hjl:j<l.length),x.m<=l[j]) (fun x=>l.length-x.k) [] [] ⟨1,l[0]⟩ (by kernel_rfl) (fun _=>rfl) rfl ⟨h0,aT h0,fun j hj hjl=>by have:=st j hj hjl;simp only;omega⟩ trivial ⟨rfl,rfl,trivial⟩ ?_
 rintro⟨k,m⟩ ⟨hk,hm,ha⟩
 change k<=l.length at hk
 change m∈l at hm
 apply lK<;>intro h
 ·have hlt:k<l.length:=by simp at h;omega
  conv=>whnf
  (repeat' ((first|refine And.intro ?_ ?_|(apply lK<;>intro h<;>try simp only [bl]at h)|refine lV.i64 (by first|omega|(simp only [ln]at *;omega)) ?_|refine mZ.mk' _ rfl (by first|omega|(simp only [ln]at *;omega)) ?_|refine mD.lT (by assumption) ?_|refine mD.set (by first|omega|(simp only [ln]at *;omega)) ?_|refine mD.map (by first|omega|(simp only [ln]at *;omega)) ?_|refine lN.mk (by first|decide|omega) ?_|refine sO.mk (by kernel_rfl) rfl rfl ?_|refine lN.mk (lS (by first|omega|(simp only [ln]at *;omega)) (by kernel_rfl)) ?_)<;>conv=>whnf))
  refine lU ⟨k+1,min m l[k]⟩ [] [] rfl (by show l.length -(k+1)<l.length-k;omega) ⟨hlt, ?_,fun j hj hjl=> ?_⟩ trivial ⟨rfl,rfl,trivial⟩
  ·show min m l[k]∈l
   have hm2:=aT hlt
   rcases Int.le_total m l[k]with h1|h1
   ·rw [Int.min_eq_left h1];exact hm
   ·rw [Int.min_eq_right h1];exact hm2
  ·rcases dP j k with h1|h1
   ·have:=ha j h1 hjl;simp only at this ⊢;omega
   ·have hj':j<k+1:=hj
    have:j=k:=by omega
    subst this;simp only;omega
 ·have:k=l.length:=by simp at h;omega
  subst this
  conv=>whnf
  have e:m=lo l:=adN hm fun x hx=>by
   obtain⟨j,hj,e⟩:=jc hx
   rw [<-e];exact ha j hj hj
  rw [<-e]
  exact lZ [] (by trivial)
theorem alc (l:Li)(hl:l≠ [])(hs:l.length<=1000000):mQ Tryz.prog GC 207 [li l] 0 [] (Is (iv (hi l))):=by
 have h0:0<l.length:=dX.2 hl
 have st : ∀j (hj:j<1) (hjl:j<l.length),l[j]=l[0]:=fun j hj hjl=>by
  have:j=0:=by omega
  subst this;rfl
 refine lQ func207 rfl mixed (by kernel_rfl) ?_
 apply lK<;>intro h
 ·simp at h;omega
 conv=>whnf
 (repeat' ((first|refine And.intro ?_ ?_|(apply lK<;>intro h<;>try simp only [bl]at h)|refine lV.i64 (by first|omega|(simp only [ln]at *;omega)) ?_|refine mZ.mk' _ rfl (by first|omega|(simp only [ln]at *;omega)) ?_|refine mD.lT (by assumption) ?_|refine mD.set (by first|omega|(simp only [ln]at *;omega)) ?_|refine mD.map (by first|omega|(simp only [ln]at *;omega)) ?_|refine lN.mk (by first|decide|omega) ?_|refine sO.mk (by kernel_rfl) rfl rfl ?_|refine lN.mk (lS (by first|omega|(simp only [ln]at *;omega)) (by kernel_rfl)) ?_)<;>conv=>whnf))
 refine mO acN 0 [3,4] (fun x:KX=> [(3,iv x.m),(4,iv x.k)]) (fun _=> []) (fun x=>x.k<=l.length∧x.m∈l∧∀j (hj:j<x.k) (hjl:j<l.length),l[j]<=x.m) (fun x=>l.length-x.k) [] [] ⟨1,l[0]⟩ (by kernel_rfl) (fun _=>rfl) rfl ⟨h0,aT h0,fun j hj hjl=>by have:=st j hj hjl;simp only;omega⟩ trivial ⟨rfl,rfl,trivial⟩ ?_
 rintro⟨k,m⟩ ⟨hk,hm,ha⟩
 change k<=l.length at hk
 change m∈l at hm
 apply lK<;>intro h
 ·have hlt:k<l.length:=by simp at h;omega
  conv=>whnf
  (repeat' ((first|refine And.intro ?_ ?_|(apply lK<;>intro h<;>try simp only [bl]at h)|refine lV.i64 (by first|omega|(simp only [ln]at *;omega)) ?_|refine mZ.mk' _ rfl (by first|omega|(simp only [ln]at *;omega)) ?_|refine mD.lT (by assumption) ?_|refine mD.set (by first|omega|(simp only [ln]at *;omega)) ?_|refine mD.map (by first|omega|(simp only [ln]at *;omega)) ?_|refine lN.mk (by first|decide|omega) ?_|refine sO.mk (by kernel_rfl) rfl rfl ?_|refine lN.mk (lS (by first|omega|(simp only [ln]at *;omega)) (by kernel_rfl)) ?_)<;>conv=>whnf))
  refine lU ⟨k+1,max m l[k]⟩ [] [] rfl (by show l.length -(k+1)<l.length-k;omega) ⟨hlt, ?_,fun j hj hjl=> ?_⟩ trivial ⟨rfl,rfl,trivial⟩
  ·show max m l[k]∈l
   have hm2:=aT hlt
   rcases Int.le_total m l[k]with h1|h1
   ·rw [Int.max_eq_right h1];exact hm2
   ·rw [Int.max_eq_left h1];exact hm
  ·rcases dP j k with h1|h1
   ·have:=ha j h1 hjl;simp only at this ⊢;omega
   ·have hj':j<k+1:=hj
    have:j=k:=by omega
    subst this;simp only;omega
 ·have:k=l.length:=by simp at h;omega
  subst this
  conv=>whnf
  have e:m=hi l:=adO hm fun x hx=>by
   obtain⟨j,hj,e⟩:=jc hx
   rw [<-e];exact ha j hj hj
  rw [<-e]
  exact lZ [] (by trivial)
theorem ahq (l:Li)(hl:l≠ [])(hs:l.length<=1000000):mQ Tryz.prog GC 202 [li l] 0 [] (sW 3 1 (l.map qX)):=by
 have h0:0<l.length:=dX.2 hl
 refine lQ func202 rfl mixed (by kernel_rfl) ?_
 refine⟨fun b hb=> ?_⟩
 rw [hb (pU h0)]
 conv=>whnf
 (repeat' ((first|refine And.intro ?_ ?_|(apply lK<;>intro h<;>try simp only [bl]at h)|refine lV.i64 (by first|omega|(simp only [ln]at *;omega)) ?_|refine mZ.mk' _ rfl (by first|omega|(simp only [ln]at *;omega)) ?_|refine mD.lT (by assumption) ?_|refine mD.set (by first|omega|(simp only [ln]at *;omega)) ?_|refine mD.map (by first|omega|(simp only [ln]at *;omega)) ?_|refine lN.mk (by first|decide|omega) ?_|refine sO.mk (by kernel_rfl) rfl rfl ?_|refine lN.mk (lS (by first|omega|(simp only [ln]at *;omega)) (by kernel_rfl)) ?_)<;>conv=>whnf))
 exact lX (.own 0) 1 _ [(0, .lab 1)] [] ⟨rfl,rfl,rfl⟩ rfl (by trivial) (by trivial)
theorem ae9 {d:Li}(hd:SS d){i j:Nat}{x y:Int}(h:i<j)(h1:d[i]? = some x)(h2:d[j]? = some y):x<y:=by
 obtain⟨hi,e1⟩:=aO.1 h1
 obtain⟨hj,e2⟩:=aO.1 h2
 rw [<-e1, <-e2]
 exact gU.1 hd i j hi hj h
theorem wZ (u:Nat):Int.fdiv (u:Int) (2^min (Int.toNat 1) IntKind.u64.bits)=((u/2:Nat):Int):=by rw [ahn];exact ak8 u
theorem ne_self (n:Int):(n != n)=false:=by simp
theorem aji (n:Int):mQ Tryz.prog GC 230 [iv n] 0 [] (Is (bv false)):=by
 refine lQ func230 rfl mixed (by kernel_rfl) ?_
 conv=>whnf
 rw [ne_self]
 exact lZ [] (by trivial)
theorem ajj (x y:Int):mQ Tryz.prog GC 217 [iv x,iv y] 0 [] (Is (bv (decide (x<y)))):=by
 refine lQ func217 rfl mixed (by kernel_rfl) ?_
 (refine mF [] (by kernel_rfl) (aji x) rfl ?_ ?_;(focus trivial))
 conv=>whnf
 (repeat' ((first|refine And.intro ?_ ?_|(apply lK<;>intro h<;>try simp only [bl]at h)|refine lV.i64 (by first|omega|(simp only [ln]at *;omega)) ?_|refine mZ.mk' _ rfl (by first|omega|(simp only [ln]at *;omega)) ?_|refine mD.lT (by assumption) ?_|refine mD.set (by first|omega|(simp only [ln]at *;omega)) ?_|refine mD.map (by first|omega|(simp only [ln]at *;omega)) ?_|refine lN.mk (by first|decide|omega) ?_|refine sO.mk (by kernel_rfl) rfl rfl ?_|refine lN.mk (lS (by first|omega|(simp only [ln]at *;omega)) (by kernel_rfl)) ?_)<;>conv=>whnf))
 exact lZ [] (by trivial)
theorem adP (d:Li)(x:Int)(hd:SS d)(hx:x∈d)(hs:d.length<=1000000):mQ Tryz.prog GC 205 [li d,iv x] 0 [] (Is (.nN [iv (idx d x),bv true])):=by
 have hi:=I8 hx
 refine lQ func205 rfl mixed (by kernel_rfl) ?_
 refine mO acL 0 [7,8] (fun x:Nat×Nat=> [(7,iv x.1),(8,iv x.2)]) (fun _=> []) (fun y=>y.1<=idx d x∧idx d x<=y.2∧y.2<=d.length) (fun y=>y.2-y.1) [] [] (0,d.length) (by kernel_rfl) (fun _=>rfl) rfl ⟨au _,jO hi.1,aA _⟩ trivial ⟨rfl,congrArg (fun n:Nat=>Value.int .i64 (n:Int)) (ah _),trivial⟩ ?_
 rintro⟨i,j⟩ ⟨h1,h2,h3⟩
 change i<=idx d x at h1
 change idx d x<=j at h2
 change j<=d.length at h3
 apply lK<;>intro h
 ·have hlt:i<j:=by simp at h;omega
  conv=>whnf
  (repeat' ((first|refine And.intro ?_ ?_|(apply lK<;>intro h<;>try simp only [bl]at h)|refine lV.i64 (by first|omega|(simp only [ln]at *;omega)) ?_|refine mZ.mk' _ rfl (by first|omega|(simp only [ln]at *;omega)) ?_|refine mD.lT (by assumption) ?_|refine mD.set (by first|omega|(simp only [ln]at *;omega)) ?_|refine mD.map (by first|omega|(simp only [ln]at *;omega)) ?_|refine lN.mk (by first|decide|omega) ?_|refine sO.mk (by kernel_rfl) rfl rfl ?_|refine lN.mk (lS (by first|omega|(simp only [ln]at *;omega)) (by kernel_rfl)) ?_)<;>conv=>whnf))
  refine lV.to (y:=((i+j:Nat):Int)) (by rw [<-fM];exact sH (by omega)) ?_
  refine lN.mk (by decide) ?_
  rw [wZ]
  refine lV.i64 (by omega) ?_
  conv=>whnf
  have hm:(i+j)/2<d.length:=by omega
  (repeat' ((first|refine And.intro ?_ ?_|(apply lK<;>intro h<;>try simp only [bl]at h)|refine lV.i64 (by first|omega|(simp only [ln]at *;omega)) ?_|refine mZ.mk' _ rfl (by first|omega|(simp only [ln]at *;omega)) ?_|refine mD.lT (by assumption) ?_|refine mD.set (by first|omega|(simp only [ln]at *;omega)) ?_|refine mD.map (by first|omega|(simp only [ln]at *;omega)) ?_|refine lN.mk (by first|decide|omega) ?_|refine sO.mk (by kernel_rfl) rfl rfl ?_|refine lN.mk (lS (by first|omega|(simp only [ln]at *;omega)) (by kernel_rfl)) ?_)<;>conv=>whnf))
  (refine mF [] (by kernel_rfl) (ajj d[(i+j)/2] x) rfl ?_ ?_;(focus trivial))
  conv=>whnf
  have hat:=aj hm
  apply lK<;>intro h
  ·refine lV.i64 (by omega) ?_
   conv=>whnf
   have hlt2:d[(i+j)/2]<x:=by simpa using h
   have hc:(i+j)/2<idx d x:=by
    rcases jl ((i+j)/2) (idx d x)with h4|h4|h4
    ·exact h4
    ·have:=hi.2;rw [<-h4,hat]at this;injection this with this;omega
    ·have:=ae9 hd h4 hi.2 hat;omega
   exact lU ((i+j)/2+1,j) [] [] rfl (by show j -((i+j)/2+1)<j-i;omega) ⟨hc,h2,h3⟩ trivial ⟨rfl,rfl,trivial⟩
  ·conv=>whnf
   have hlt2:x<=d[(i+j)/2]:=by simp at h;omega
   have hc:idx d x<=(i+j)/2:=by
    rcases dP ((i+j)/2) (idx d x)with h4|h4
    ·have:=ae9 hd h4 hat hi.2;omega
    ·exact h4
   exact lU (i,(i+j)/2) [] [] rfl (by show (i+j)/2-i<j-i;omega) ⟨h1,hc,by show (i+j)/2<=_;omega⟩ trivial ⟨rfl,rfl,trivial⟩
 ·have hij:i=idx d x:=by simp at h;omega
  have hil:i<d.length:=by omega
  have hat:d[i]? = some x:=by rw [hij];exact hi.2
  rw [<-hij]
  conv=>whnf
  (repeat' ((first|refine And.intro ?_ ?_|(apply lK<;>intro h<;>try simp only [bl]at h)|refine lV.i64 (by first|omega|(simp only [ln]at *;omega)) ?_|refine mZ.mk' _ rfl (by first|omega|(simp only [ln]at *;omega)) ?_|refine mD.lT (by assumption) ?_|refine mD.set (by first|omega|(simp only [ln]at *;omega)) ?_|refine mD.map (by first|omega|(simp only [ln]at *;omega)) ?_|refine lN.mk (by first|decide|omega) ?_|refine sO.mk (by kernel_rfl) rfl rfl ?_|refine lN.mk (lS (by first|omega|(simp only [ln]at *;omega)) (by kernel_rfl)) ?_)<;>conv=>whnf))
  all_goals first
   | (exfalso;omega)
   | (exfalso;simp only [ah]at h;omega)
   | (exfalso;simp at h;done)
   | exact lZ [] (by trivial)
end Go.Proofs.YtocckceefcmeaaaGreatDoor.Cl
