/- Joined parts of the proof. Plain encodings that the walks of several chapters share -/
import Derived.Test.YtnandbihiceihaaGreatDoorPk11
import Derived.Test.YtnandbihiceihaaGreatDoorPk10
import Derived.Test.YtnandbihiceihaaGreatDoorProg
import Derived.Test.YtnandbihiceihaaGreatDoorPk9
import Derived.Sort.Grow
import Derived.Test.YtnandbihiceihaaGreatDoorPk2
import Derived.ProofKit
import Derived.Test.YtnandbihiceihaaGreatDoorPk1
import Derived.MapKept
import Derived.Laws.Strings
import Derived.Test.YtnandbihiceihaaGreatDoorPk3
import Derived.OpenShut
import Derived.Test.YtnandbihiceihaaGreatDoorRows
import Derived.LaidMore
import Derived.Stop.Joined
set_option linter.unusedVariables false
set_option linter.unusedSimpArgs false
set_option maxRecDepth 100000
set_option maxHeartbeats 16000000
namespace Go.Proofs.YtnandbihiceihaaGreatDoor.Cl
open RowKit Vc Ax Go.Proofs.Tryz
abbrev By:=List UInt8
abbrev Tx:=List By
def I64 (n:Int):Prop:= -9223372036854775808<=n∧n<=9223372036854775807
theorem CU {n:Nat}(h:n<=9223372036854775807):I64 (n:Int):=by unfold I64;omega
theorem toNat_ofNat {u:Nat}(h:u<256):(UInt8.ofNat u).toNat=u:=by
 simp [UInt8.toNat_ofNat',dL h]
abbrev Li:=List Int
def Bd (l:Li):Prop:= ∀x∈l,I64 x
theorem mixed:Tryz.prog.follows .mixedOrders=true:=aag
def GC:Glob:=⟨0,fun _=>none,fun _=>none⟩
abbrev iv (n:Int):AV:= .v (.int .i64 n)
abbrev bv (b:Bool):AV:= .v (.bool b)
abbrev uv (n:Nat):AV:= .v (.int .u64 (n:Int))
def zx (x:Int):List FV:= [.v (.int .i64 x)]
abbrev bs (b:By):AV:= .lst 1 (b.map wJ)
abbrev li (l:Li):AV:= .lst 1 (l.map zx)
theorem lN.to {k:IntKind}{x y:Int}{K:Int->Prop}(h:k.wrap x=y)(c:K y):lN k x K:=⟨by rw [h];exact c⟩
theorem ABy.of {s:By}{K:ByteArray->Prop}(c:K ⟨s.toArray⟩):ABy (s.map wJ) K:=⟨⟨s,rfl,c⟩⟩
abbrev Yj (n:Nat):AV:= .v (.int .u8 (n:Int))
theorem mW (a b:By):uN ⟨a.toArray⟩ ⟨b.toArray⟩=decide (a=b):=by
 rw [aiq]
 by_cases h:a=b
 ·subst h;simp
 ·rw [decide_eq_false h]
  refine decide_eq_false fun e=>h ?_
  injection e with e
  simpa using congrArg Array.toList e
end Go.Proofs.YtnandbihiceihaaGreatDoor.Cl
namespace Go.Proofs.YtnandbihiceihaaGreatDoor.Ax
open RowKit Vc Go.Proofs.Tryz
variable {P:Program}{G:Glob}
def Here (w:World)(b:Nat):Prop:=b<w.heap.size
def VL:Nat->Loc:=fun _=>⟨none,0,0,0⟩
theorem RS {f:FuncId}{args:List AV}{x:Value}(h:mP P G f args 0 [] (Is (.v x)))(w:World)(hG:G.holds w)(vs:List Value)(r:mZ 0 VL (Here w) w args vs):zO P f vs.toArray w fun v w'=>v=x∧Below w.heap.size w w':=by
 have st:St G w (uJ w VL []) (Here w) 0 VL (Here w) [] w:=⟨hG,y7.refl _ _,fun b hb=>⟨hb, .inl hb⟩,(fun mD b h=>by cases h),(fun mD b g h=>by cases h),(fun mD y8 b b' g h=>by cases h),(fun mD b h=>by cases h)⟩
 refine(h w VL (Here w) vs st r).mono fun v w' ⟨a,n',σ',F',H',⟨ha,_,_⟩,s,_,ra⟩=> ?_
 subst ha
 refine⟨ra.nY,s.qF.os,s.qF.tape,s.qF.output,s.qF.size,fun k hk=>s.qF.block k hk fun⟨_,_,hm,_⟩=>by cases hm⟩
theorem Yk {α:Type}{c:α->List Value}{k:Nat}(hk : ∀a,(c a).length=k){l:List α}{i j:Nat}{a:α}{v:Value}(hi:l[i]? = some a)(hj:(c a)[j]? = some v):(recs c l)[i*k+j]? = some v:=by
 obtain⟨h,rfl⟩:=aB.1 hi
 exact Gp hk l i h j v hj
theorem VN {α:Type}{F:Nat->Prop}{w:World}{sz:Nat}{enc:α->List FV}{c:α->List Value}(he : ∀x,enc x=(c x).map .v)(hk : ∀a,(c a).length=sz)(h1 : ∀a, ∀v∈c a,v.oneCell'=true){l:List α}{oa:Option Addr}{cap:Nat}(hc:l.length<=cap)(hnil:oa=none->cap=0)(hr:Row w oa (recs c l))(hF : ∀b,b<w.heap.size->F b)(hz:0<sz) :
  oV F w (.lst sz (l.map enc)) (.slice oa l.length cap):=by
 have hlen : ∀row∈l.map enc,row.length=sz:=fun row hrow=>by
  obtain⟨a,_,rfl⟩:=dW.1 hrow
  rw [he,aj,hk]
 rcases bM l.length with h0|h0
 ·have hl:l = []:=aK h0
  subst hl
  exact .lst sz [] oa 0 cap 0 0 rfl hc hnil (fun h=>absurd h (jv 0)) (fun row hr=>by cases hr) (fun i j hi=>absurd hi (dQ i)) (fun i j row a v hi=>by simp at hi)
 ·rcases hr with hr|⟨b,o,rfl,hb,hcell⟩
  ·have:=BL hk l
   rw [hr,dP]at this
   have:=jP h0 hz
   omega
  ·have row : ∀i j,i<l.length->j<sz->∃a v,l[i]? = some a∧(c a)[j]? = some v∧w.cell? ⟨b,o+(i*sz+j),none⟩=some v:=fun i j hi hj=>by
    have hjl:j<(c l[i]).length:=by rw [hk];exact hj
    exact⟨l[i],(c l[i])[j],ah hi,ah hjl,hcell _ _ (Yk hk (ah hi) (ah hjl))⟩
   refine .lst sz (l.map enc) _ l.length cap b o ahM hc hnil (fun _=>⟨rfl,hF b hb⟩) hlen (fun i j hi hj=> ?_) (fun i j rw_ a v hi hj hv=> ?_)
   ·obtain⟨a,v,_,h2,h3⟩:=row i j hi hj
    exact⟨v,h3,h1 a v (aU h2)⟩
   ·rw [aJ]at hi
    cases hl:l[i]? with
    | none=>rw [hl]at hi;cases hi
    | some x=>
     rw [hl]at hi
     simp only [bD,aI]at hi
     subst hi
     have hil:=(aB.1 hl).1
     have hjs:j<sz:=by have:=(aB.1 hj).1;rw [he,aj,hk]at this;exact this
     obtain⟨a',v',h4,h5,h6⟩:=row i j hil hjs
     rw [hl]at h4
     injection h4 with h4
     subst h4
     rw [he,aJ,h5]at hj
     simp only [bD,aI]at hj
     rw [h6]at hv
     injection hv with hv
     subst hv;subst hj
     exact .v _
section
section
variable {P:Program}{G:Glob}
def en1 {α:Type}(enc:α->Value)(a:α):List FV:= [.v (enc a)]
theorem acB {α:Type}{enc:α->Value}(h1 : ∀a,(enc a).oneCell'=true){F:Nat->Prop}{w:World} : ∀zs:List α,qh F w 1 (zs.map (en1 enc)) (zs.map enc):=by
 intro zs
 induction zs with
 | nil=>exact qh.nil 1
 | cons a r ih=>exact qh.cons (xs:=r.map enc) (vs:= [enc a]) (Xy [enc a]) rfl (by simp [h1]) ih
theorem OL {α:Type}(enc:α->Value) : ∀zs:List α,recs (fun a=> [enc a]) zs=zs.map enc:=by
 intro zs
 unfold recs
 induction zs with
 | nil=>rfl
 | cons a r ih=>simp only [gW,gZ,ih];rfl
theorem JI {α:Type}[Inhabited α]{enc:α->Value}(h1 : ∀a,(enc a).oneCell'=true){f:FuncId}{T:TypeId}{zs zs':List α}{A:AV}{V:Nat->Nat->Value->Prop}(hne:zs≠ [])(hl:zs'.length=zs.length)
  (h : ∀w blk cap,Sort.Holds enc w blk 0 zs.toArray->blk<w.heap.size->zs.length<=cap->zO P f #[.slice (some ⟨blk,0,none⟩) zs.length cap] w fun v w'=>V blk cap v∧∃q os,w'=Sort.grow (Sort.putRow enc (Sort.ahead w q) blk 0 zs'.toArray) os)
  (hv : ∀w (σ:Nat->Loc) F blk cap v,σ 0=⟨some blk,zs.length,cap,1⟩->zs.length<=cap->V blk cap v->mM 1 σ F w A v) :
  mP P G f [.own 0] 1 [(0, .rows T 1 (zs.map (en1 enc)))] (fun a n H=>a=A∧n=1∧H = [(0, .rows T 1 (zs'.map (en1 enc)))]):=by
 intro w σ F vs st r
 have hpos:0<zs.length:=List.length_pos_iff.2 hne
 obtain⟨hsz,hn,xs,hown,hrep⟩:=st.blk 0 _ rfl
 rw [aj]at hn hown
 have hxs:xs=zs.map enc:=by rw [<-OL];exact JG (c:=fun a=> [enc a]) (fun _=>rfl) hrep
 rcases hown.2 with ⟨_,h0⟩|⟨g,cap,cur,hval,_,hb,hnc,hcm,hcs,htk⟩
 ·omega
 injection hval with e1 e2 e3
 have hLb:(σ 0).b=some g:=by
  unfold Loc.oa at e1
  cases hbb:(σ 0).b with
  | none=>rw [hbb]at e1;cases e1
  | some g'=>rw [hbb]at e1;injection e1 with e1;injection e1 with e1;rw [e1]
 have hσ:σ 0=⟨some g,zs.length,cap,1⟩:=by
  cases hs:σ 0 with
  | mk b n c sz=>rw [hs]at hLb hn e3 hsz;simp only at hLb hn e3 hsz;subst hLb;subst hn;subst e3;subst hsz;rfl
 obtain⟨v0,rfl,hv0⟩ : ∃v0,vs = [v0]∧v0 = .slice (some ⟨g,0,none⟩) zs.length cap:=by
  match vs,r with
  | [v0],r=>
   refine⟨v0,rfl, ?_⟩
   cases r.1 with
   | own _ hl=>rw [hσ];rfl
   | rH _ oa hl hn0 hc=>rw [hσ]at hn0;simp only at hn0;omega
 subst hv0
 have hg:g<w.heap.size:=(dG.1 hb).1
 have hsz2:zs.length<=cur.size:=aai
 have hH:Sort.Holds enc w g 0 zs.toArray:=by
  intro j hj
  have hj':j<zs.length:=by simpa using hj
  refine⟨?_,by simp [World.frozen?,hb]⟩
  have h2:(cur.toList.take zs.length)[j]? = (zs.map enc)[j]? :=by rw [<-hxs, <-htk,dZ]
  rw [kL hj']at h2
  simp only [World.cell?,hb,aO]
  simp only [iC,aX,if_false]
  rw [<-bF,h2]
  simp [hj']
 have hmu:=st.mu 0 (.rows T 1 (zs.map (en1 enc))) g rfl rfl (.inl hLb)
 refine(h w g cap hH hg hnc).mono fun v w' ⟨hV,q,os,hw'⟩=> ?_
 have hheap:w'.heap[g]? = some (.cells (Sort.putCells enc 0 zs'.toArray cur) T (0,0)):=by
  rw [hw',Sort.heap_grow_old _ _ (by simpa using hg)]
  simp [Sort.putRow,Sort.mapBlock,Sort.ahead,iE,hb,Sort.onCells]
 have hother : ∀k,k<w.heap.size->k≠g->w'.heap[k]? = w.heap[k]? :=fun k hk hne=>by
  rw [hw',Sort.heap_grow_old _ _ (by simpa using hk)]
  have:g≠k:=fun e=>hne e.symm
  simp [Sort.putRow,Sort.mapBlock,Sort.ahead,iE,this]
 have hsize:w.heap.size<=w'.heap.size:=by rw [hw'];simp
 have htake:(Sort.putCells enc 0 zs'.toArray cur).toList.take zs'.length=zs'.map enc:=by
  apply eu
  intro j
  by_cases hj:j<zs'.length
  ·rw [kL hj,bF]
   simp [Sort.putCells,hj,show j<cur.size by omega]
  ·rw [List.getElem?_take_eq_none aai,dN aev]
 have akW : ∀b,F b->b≠g:=fun b hb e=>hmu.1 (e▸hb)
 refine⟨A,1,σ,F,_,⟨rfl,rfl,rfl⟩,⟨?_, ?_, ?_, ?_, ?_, ?_, ?_⟩,⟨au _,fun _ _=>rfl,fun b hb=>⟨hb,hother b (st.oG b hb).1 (akW b hb)⟩,hsize⟩,hv w' σ F g cap v hσ hnc hV⟩
 ·exact Glob.qF st.glob hsize fun b hb=>hother b (aP hb st.glob.1) aai
 ·refine⟨by rw [hw'];rfl,by rw [hw'];rfl,by rw [hw'];rfl,hsize,fun k hk hm=>hother k hk fun e=>hm ⟨0,_,rfl,rfl,by rw [e];exact .inl hLb⟩⟩
 ·exact fun b hb=>⟨aP (st.oG b hb).1 hsize, .inl hb⟩
 ·intro k b hk
  simp only [look]at hk
  cases hb0:Nat.beq 0 k with
  | true=>have:=aA hb0;omega
  | false=>rw [hb0,cond_false]at hk;cases hk
 ·intro k b g' hk hm hg'
  simp only [look]at hk
  cases hb0:Nat.beq 0 k with
  | true=>
   have:=aA hb0
   subst this
   rw [hb0,cond_true]at hk
   injection hk with hk
   subst hk
   have hg':=hg'.flat rfl
   rw [hLb]at hg'
   injection hg' with hg'
   subst hg'
   exact⟨hmu.1,hmu.2.1,aP hg hsize, .inl ⟨0,_,rfl,rfl, .inl hLb⟩⟩
  | false=>rw [hb0,cond_false]at hk;cases hk
 ·intro k k' b b' g' hk hk' _ _ _ _
  simp only [look]at hk hk'
  cases hb0:Nat.beq 0 k with
  | true=>
   cases hb1:Nat.beq 0 k' with
   | true=>rw [<-aA hb0, <-aA hb1]
   | false=>rw [hb1,cond_false]at hk';cases hk'
  | false=>rw [hb0,cond_false]at hk;cases hk
 ·intro k b hk
  simp only [look]at hk
  cases hb0:Nat.beq 0 k with
  | true=>
   have:=aA hb0
   subst this
   rw [hb0,cond_true]at hk
   injection hk with hk
   subst hk
   refine⟨hsz,by rw [aj,hl];exact hn,zs'.map enc,⟨by simp, .inr ⟨g,cap,_, ?_,aH _,hheap,by rw [aj];omega,hcm,by simp [Sort.putCells,hcs], ?_⟩⟩,acB h1 zs'⟩
   ·rw [hσ,aj];rfl
   ·rw [aj,dZ];exact htake
  | false=>rw [hb0,cond_false]at hk;cases hk
end
end
end Go.Proofs.YtnandbihiceihaaGreatDoor.Ax
namespace Go.Proofs.YtnandbihiceihaaGreatDoor.Vc
open RowKit Go.ChangeShapes Go.WideShapes Go.ChangeAt Go.Proofs.Tryz
section
variable {H:Type}{enc:TypeId×Value->H}{P:Program}{w:World}{t:TypeId}{cs:List Value}
def RdD (enc:TypeId×Value->H)(P:Program)(w:World)(t:TypeId)(cs:List Value)(d:DataW H):Prop:= ∃held fuel p,DataW.trod enc P w 0 (fun _=>true) held fuel t cs=some (d,p)
def Rd (enc:TypeId×Value->H)(P:Program)(w:World)(t:TypeId)(cs:List Value):Prop:= ∃d,RdD enc P w t cs d
theorem acC {k:IntKind}{d:DataW H}(ht:P.underlying t=some (.int k))(h:RdD enc P w t cs d) : ∃n,cs = [.int k n]∧d = .lit (.int k n)∧(Lit.int k n).wf=true:=by
 obtain⟨held,fuel,p,hx⟩:=h
 obtain⟨n,h1,h2,h3⟩:=DataW.trod_int ht hx
 injection h2 with h2
 exact⟨n,h1,h2,h3⟩
theorem agh {k:IntKind}(ht:P.underlying t=some (.int k))(h:Rd enc P w t cs) : ∃n,cs = [.int k n]∧(Lit.int k n).wf=true:=by
 obtain⟨d,h⟩:=h
 obtain⟨n,h1,_,h2⟩:=acC ht h
 exact⟨n,h1,h2⟩
theorem flat_get {α:Type}{sz:Nat} : ∀(css:List (List α)) (k:Nat) (v:α),(∀c∈css,c.length=sz)->css.flatten[k]? = some v->
  ∃i j c,j<sz∧k=i*sz+j∧css[i]? = some c∧c[j]? = some v:=by
 intro css
 induction css with
 | nil=>intro k v _ h;simp at h
 | cons c r ih=>
  intro k v hl h
  have hc:c.length=sz:=hl c abb
  rw [gZ,List.getElem?_append]at h
  split at h
  ·rename_i hk
   exact⟨0,k,c,by omega,by omega,by simp,h⟩
  ·rename_i hk
   obtain⟨i,j,c',hj,hk',hi,hv⟩:=ih _ v (fun c hc=>hl c (by simp [hc])) h
   refine⟨i+1,j,c',hj, ?_,by simpa using hi,hv⟩
   rw [bK]
   omega
theorem JJ {a:Addr}{n:Nat}{cs:List Value}(h:w.cells? 0 a n=some cs):cs.length=n∧∀j v,cs[j]? = some v->w.cell? (a.add j)=some v:=by
 unfold World.cells? at h
 rw [if_pos (aH _)]at h
 refine⟨by rw [mapM_some_length h];simp,fun j v hj=> ?_⟩
 have hlt:j<n:=by
  have:=(aB.1 hj).1
  rw [mapM_some_length h]at this
  simpa using this
 have:=mapM_some_get h j j (by simp [hlt])
 rw [this,hj]
theorem VO {e:TypeId}{d:DataW H}(ht:P.underlying t=some (.slice e))(h:RdD enc P w t cs d) :
  ∃(oa:Option Addr) (len cap:Nat) (css:List (List Value)) (ds:List (DataW H)),cs = [.slice oa len cap]∧len<=cap∧cap<=maxLen∧(oa=none->cap=0)∧css.length=len∧Row w oa css.flatten∧
   (∀c∈css,c.length=P.cellsOf e∧Rd enc P w e c)∧ds.length=len∧((d = .nil∧len=0)∨∃rest,d = .slice ds rest)∧∀(i:Nat) (c:List Value) (d':DataW H),css[i]? = some c->ds[i]? = some d'->RdD enc P w e c d':=by
 obtain⟨held,fuel,pp,hx⟩:=h
 rcases DataW.trod_slice ht hx with ⟨h1,hd⟩|⟨a,len,cap,elems,rest,n,_,h1,hd,_,hlc,hcm,hlen,hel,_,_⟩
 ·injection hd with hd
  exact⟨none,0,0,[],[],h1,au _,aH _,fun _=>rfl,rfl,Row.nil _ _,by simp,rfl, .inl ⟨hd,rfl⟩,fun i c d' h=>by simp at h⟩
 ·have each : ∀i,i<len->∃ci,w.cells? 0 (a.add (i*P.cellsOf e)) (P.cellsOf e)=some ci∧Rd enc P w e ci∧∀d',(elems.map (·.1))[i]? = some d'->RdD enc P w e ci d':=by
   intro i hi
   have h1:=hel i hi
   rw [ah aai]at h1
   obtain⟨ci,hc,ht⟩:=Option.bind_eq_some_iff.1 h1
   refine⟨ci,hc,⟨_,held,n,_,ht⟩,fun d' hd'=> ?_⟩
   rw [aJ,ah aai]at hd'
   simp only [bD,aI]at hd'
   subst hd'
   exact⟨held,n,_,ht⟩
  obtain⟨css,hcl,acD⟩ : ∃css:List (List Value),css.length=len∧∀(i:Nat) (c:List Value),css[i]? = some c->w.cells? 0 (a.add (i*P.cellsOf e)) (P.cellsOf e)=some c∧Rd enc P w e c∧∀d',(elems.map (·.1))[i]? = some d'->RdD enc P w e c d':=by
   refine⟨(List.range len).map fun i=>(w.cells? 0 (a.add (i*P.cellsOf e)) (P.cellsOf e)).getD [],by simp,fun i c hc=> ?_⟩
   have hlt:i<len:=by simpa using (aB.1 hc).1
   obtain⟨ci,h1,h2⟩:=each i hlt
   simp only [aJ,ig hlt,bD,h1,cO,aI]at hc
   subst hc
   exact⟨h1,h2⟩
  have hall : ∀c∈css,c.length=P.cellsOf e∧Rd enc P w e c:=by
   intro c hc
   obtain⟨i,hi⟩:=cu.1 hc
   exact⟨(JJ (acD i c hi).1).1,(acD i c hi).2.1⟩
  refine⟨some a,len,cap,css,elems.map (·.1),h1,hlc,hcm,(fun e=>by cases e),hcl, ?_,hall,by simp [hlen], .inr ⟨rest.map (·.1),by injection hd⟩,fun i c d' h1 h2=>(acD i c h1).2.2 d' h2⟩
  by_cases hne:css.flatten = []
  ·exact .inl hne
  ·right
   have cell : ∀k v,css.flatten[k]? = some v->∃i j,j<P.cellsOf e∧k=i*P.cellsOf e+j∧w.cell? ((a.add (i*P.cellsOf e)).add j)=some v:=by
    intro k v hk
    obtain⟨i,j,c,hj,hkk,hi,hv⟩:=flat_get css k v (fun c hc=>(hall c hc).1) hk
    exact⟨i,j,hj,hkk,(JJ (acD i c hi).1).2 j v hv⟩
   have hspot:a.spot=none:=by
    obtain⟨v,hv⟩ : ∃v,css.flatten[0]? = some v:=by
     cases hf:css.flatten with
     | nil=>exact absurd hf hne
     | cons v r=>exact⟨v,by simp⟩
    obtain⟨i,j,hj,hk,hc⟩:=cell 0 v hv
    have hj0:j=0:=aai
    have hi0:i*P.cellsOf e=0:=aai
    rw [hi0,hj0]at hc
    have:(a.add 0).add 0=a:=by simp [Addr.add]
    rw [this]at hc
    cases hs:a.spot with
    | none=>rfl
    | some s=>
     unfold World.cell? at hc
     split at hc<;>simp [hs]at hc
   obtain⟨b,o,s⟩:=a
   simp only at hspot
   subst hspot
   refine⟨b,o,rfl, ?_,fun k v hk=> ?_⟩
   ·obtain⟨v,hv⟩ : ∃v,css.flatten[0]? = some v:=by
     cases hf:css.flatten with
     | nil=>exact absurd hf hne
     | cons v r=>exact⟨v,by simp⟩
    obtain⟨i,j,_,_,hc⟩:=cell 0 v hv
    rw [add0,add0]at hc
    exact World.block_lt_of_cell? w _ hc
   ·obtain⟨i,j,_,hkk,hc⟩:=cell k v hk
    rw [add0,add0]at hc
    rw [hkk, <-fF]
    exact hc
theorem Yl {e:TypeId}(ht:P.underlying t=some (.slice e))(h:Rd enc P w t cs) :
  ∃(oa:Option Addr) (len cap:Nat) (css:List (List Value)),cs = [.slice oa len cap]∧len<=cap∧cap<=maxLen∧(oa=none->cap=0)∧css.length=len∧Row w oa css.flatten∧
   ∀c∈css,c.length=P.cellsOf e∧Rd enc P w e c:=by
 obtain⟨d,h⟩:=h
 obtain⟨oa,len,cap,css,_,a,b,c,d,e,f,g,_⟩:=VO ht h
 exact⟨oa,len,cap,css,a,b,c,d,e,f,g⟩
theorem Ym {v:Value}{d:DataW H}{p:List MemPlace}(h:DataW.Trod enc P w 0 (fun _=>true) true t v d p):Rd enc P w t v.cells.toList:=⟨_,true,h.choose,_,h.choose_spec⟩
theorem JK {r:Reach}{b0:Nat}{e:TypeId}{v:Value}{oa:Option Addr}{n c:Nat}(ht:P.underlying t=some (.slice e))(hval:Value.okWide P w r b0 t v)(h:v.cells.toList = [.slice oa n c]):v = .slice oa n c:=by
 obtain⟨a,len,cap,rfl⟩:=okWide_slice ht hval
 simpa [Value.cells]using h
theorem Jh {W W':World}(hl:laidOutB P=true)(hb:Below W.heap.size W W') : ∀(ts:List TypeId) (vs:List Value) (ds:List (DataW H)) (ps:List MemPlace),
  (ts.all fun t=>P.readableRec t&&Nat.blt t P.types.size)=true->(∀x∈ps,x.block<W.heap.size)->DataW.TrodAll enc P W 0 (fun _=>true) true ts vs ds ps->
  DataW.TrodAll enc P W' 0 (fun b=>decide (b<W.heap.size)) true ts vs ds ps:=by
 intro ts
 induction ts with
 | nil=>intro vs ds ps _ _ h;cases vs<;>cases ds<;>simp_all [DataW.TrodAll]
 | cons t ts ih=>
  intro vs ds ps hrd hlt h
  obtain⟨v,vs',d,ds',p,q,rfl,rfl,rfl,h1,h2⟩:=trodAll_cons h
  simp only [List.all_cons,ak]at hrd
  refine⟨p,q,Below.trod hl hrd.1.1 (aF hrd.1.2) h1 hb (fun x hx=>hlt x aia),ih _ _ _ hrd.2 (fun x hx=>hlt x aia) h2,rfl⟩
end
theorem Yn {H:Type}{enc:TypeId×Value->H}{P:Program}{fn:Func}{s:ChangeSpec}{tb:TypeId}(hl:laidOutB P=true)
  (hrd:(fn.params.toList.all fun t=>P.readableRec t&&Nat.blt t P.types.size)=true) (hres:fn.resultTypes = #[tb]) (hb:P.underlying tb=some .bool) (hv:s.vars = [])
  (hfn : ∀ds:List (DataW H),ds.length=fn.params.size->s.fn H ds = {results:= [.lit (.bool true)],args:=ds})
  {W W':World} {args:Array Value} {ds gs:List (DataW H)} {before:List MemPlace} (hW:DataW.Whole enc P fn.params.toList s.vars false W args.toList ds gs before) (hB:Below W.heap.size W W') :
  s.post enc P fn false true false false W args (.bool true) W':=by
 have hlt : ∀x∈before,x.block<W.heap.size:=fun x hx=>hW.lt x hx
 have hW':=hW
 obtain⟨p,q,hA,hV,rfl,_,_⟩:=hW'
 rw [hv]at hV
 obtain⟨rfl,rfl⟩:=trodVars_none hV
 have hlen:ds.length=fn.params.size:=by
  have : ∀(ts:List TypeId) (vs:List Value) (ds:List (DataW H)) (ps:List MemPlace),DataW.TrodAll enc P W 0 (fun _=>true) true ts vs ds ps->ds.length=ts.length:=by
   intro ts
   induction ts with
   | nil=>intro vs ds ps h;cases vs<;>cases ds<;>simp_all [DataW.TrodAll]
   | cons t ts ih=>
    intro vs ds ps h
    obtain⟨v,vs',d,ds',p,q,rfl,rfl,rfl,_,h2⟩:=trodAll_cons h
    simp [ih _ _ _ h2]
  rw [this _ _ _ _ hA];simp
 have hspec:=hfn ds hlen
 refine⟨ds,[],p++ [],[],p,[],hW, ?_, ?_, ?_,World.keptBut_mono (fun x hx=>⟨hx, .inr (.inl (by simpa using hx))⟩) (hB.frame (· ∈p++ [])),(fun h=>by cases h)⟩
 ·rw [gK,hspec,hres]
  exact⟨[],[],⟨1,by unfold DataW.trod;simp [hb,Value.cells]⟩,rfl,rfl⟩
 ·rw [gK,hspec]
  exact Jh hl hB _ _ _ _ hrd (fun x hx=>hlt x aia) hA
 ·rw [gK,hspec,hv]
  rfl
end Go.Proofs.YtnandbihiceihaaGreatDoor.Vc
namespace Go.Proofs.YtnandbihiceihaaGreatDoor.Id
open Vc Go.Proofs.Tryz
theorem pX (a b:ByteArray):uN a b=true↔a=b:=by
 unfold uN
 rw [<-MapKept.bytes_beq a b]
 have:(a==b)=(a.toList==b.toList):=by
  rw [Go.ByteArray.toList_eq,Go.ByteArray.toList_eq]
  obtain⟨⟨x⟩⟩:=a
  obtain⟨⟨y⟩⟩:=b
  show ((⟨x⟩:Array UInt8)==⟨y⟩)=(x==y)
  simp
 rw [this]
theorem Ug (a b:ByteArray):uN a b=decide (a=b):=by
 rw [jA,pX];simp
theorem Uh (x y:ByteArray)(h:x≠y):(uH x y=y∧vH x y=x)∨(uH x y=x∧vH x y=y):=by
 have he:uN x y=false:=by rw [Ug];simpa using h
 unfold uH vH
 cases hl:BA x y with
 | true=>left;simp
 | false=>right;simp [he]
structure Lk where
 a:ByteArray
 b:ByteArray
 t:Int
 deriving DecidableEq
def jn (f:ByteArray->ByteArray)(x y:ByteArray):ByteArray->ByteArray:=
 if f x=f y then f else fun z=>if f z=uH (f x) (f y)then vH (f x) (f y)else f z
def rtF (f:ByteArray->ByteArray):List Lk->ByteArray->ByteArray
 | []=>f
 | k::l=>rtF (jn f k.a k.b) l
def rt (l:List Lk):ByteArray->ByteArray:=rtF (fun z=>z) l
theorem RU (l m:List Lk) : ∀f:ByteArray->ByteArray,rtF f (l++m)=rtF (rtF f l) m:=by
 induction l with
 | nil=>intro f;rfl
 | cons k l ih=>intro f;simp only [gu,rtF,ih]
theorem yJ (l:List Lk)(k:Lk):rt (l++ [k])=jn (rt l) k.a k.b:=by unfold rt;rw [RU];rfl
theorem OM {f:ByteArray->ByteArray}{x y:ByteArray}(h:f x=f y):jn f x y=f:=if_pos h
theorem Ui {f:ByteArray->ByteArray}{x y:ByteArray}(h:f x≠f y):jn f x y=fun z=>if f z=uH (f x) (f y)then vH (f x) (f y)else f z:=if_neg h
theorem agi {f:ByteArray->ByteArray}{x y:ByteArray}(u v:ByteArray):jn f x y u=jn f x y v↔f u=f v∨(f u=f x∧f v=f y)∨(f u=f y∧f v=f x):=by
 by_cases h:f x=f y
 ·rw [OM h]
  constructor
  ·exact .inl
  ·rintro(h1|⟨h1,h2⟩|⟨h1,h2⟩)
   ·exact h1
   ·rw [h1,h2,h]
   ·rw [h1,h2,h]
 ·rw [Ui h]
  simp only
  rcases Uh (f x) (f y) h with ⟨e1,e2⟩|⟨e1,e2⟩
  ·rw [e1,e2]
   by_cases hu:f u=f y
   ·rw [if_pos hu]
    by_cases hv:f v=f y
    ·rw [if_pos hv];simp [hu,hv]
    ·rw [if_neg hv]
     constructor
     ·intro e;exact .inr (.inr ⟨hu,e.symm⟩)
     ·rintro(h1|⟨h1,h2⟩|⟨h1,h2⟩)
      ·exact absurd (h1.symm.trans hu) hv
      ·exact absurd h2 hv
      ·exact h2.symm
   ·rw [if_neg hu]
    by_cases hv:f v=f y
    ·rw [if_pos hv]
     constructor
     ·intro e;exact .inr (.inl ⟨e,hv⟩)
     ·rintro(h1|⟨h1,h2⟩|⟨h1,h2⟩)
      ·exact absurd (h1.trans hv) hu
      ·exact h1
      ·exact absurd h1 hu
    ·rw [if_neg hv]
     constructor
     ·exact .inl
     ·rintro(h1|⟨h1,h2⟩|⟨h1,h2⟩)
      ·exact h1
      ·exact absurd h2 hv
      ·exact absurd h1 hu
  ·rw [e1,e2]
   by_cases hu:f u=f x
   ·rw [if_pos hu]
    by_cases hv:f v=f x
    ·rw [if_pos hv];simp [hu,hv]
    ·rw [if_neg hv]
     constructor
     ·intro e;exact .inr (.inl ⟨hu,e.symm⟩)
     ·rintro(h1|⟨h1,h2⟩|⟨h1,h2⟩)
      ·exact absurd (h1.symm.trans hu) hv
      ·exact h2.symm
      ·exact absurd h2 hv
   ·rw [if_neg hu]
    by_cases hv:f v=f x
    ·rw [if_pos hv]
     constructor
     ·intro e;exact .inr (.inr ⟨e,hv⟩)
     ·rintro(h1|⟨h1,h2⟩|⟨h1,h2⟩)
      ·exact absurd (h1.trans hv) hu
      ·exact absurd h1 hu
      ·exact h1
    ·rw [if_neg hv]
     constructor
     ·exact .inl
     ·rintro(h1|⟨h1,h2⟩|⟨h1,h2⟩)
      ·exact h1
      ·exact absurd h1 hu
      ·exact absurd h2 hv
def con (l:List Lk)(u v:ByteArray):Prop:=rt l u=rt l v
theorem OO (l:List Lk)(k:Lk)(u v:ByteArray):con (l++ [k]) u v↔con l u v∨(con l u k.a∧con l v k.b)∨(con l u k.b∧con l v k.a):=by
 unfold con;rw [yJ];exact agi u v
theorem Uj (u v:ByteArray):con [] u v↔u=v:=Iff.rfl
theorem Bf (S:ByteArray->Prop) : ∀(n:Nat) (l:List Lk),l.length=n->(∀k∈l,S k.a↔S k.b)->∀u v,con l u v->(S u↔S v):=by
 intro n
 induction n with
 | zero=>intro l hl _ u v h;have:l = []:=aK hl;subst this;rw [(Uj u v).1 h]
 | succ n ih=>
  intro l hl hS u v h
  have hne:l≠ []:=fun e=>by simp [e]at hl
  obtain⟨m,k,rfl⟩ : ∃m k,l=m++ [k]:=⟨l.dropLast,l.getLast hne,(iZ hne).symm⟩
  have ih':=ih m ahV fun k' hk=>hS k' ahT
  have hk:=hS k abb
  rcases(OO m k u v).1 h with h|⟨h1,h2⟩|⟨h1,h2⟩
  ·exact ih' u v h
  ·rw [ih' u k.a h1,ih' v k.b h2];exact hk
  ·rw [ih' u k.b h1,ih' v k.a h2];exact hk.symm
theorem OQ : ∀(n:Nat) (l:List Lk),l.length=n->∀k∈l,con l k.a k.b:=by
 intro n
 induction n with
 | zero=>intro l hl k hk;have:l = []:=aK hl;subst this;simp at hk
 | succ n ih=>
  intro l hl k hk
  have hne:l≠ []:=fun e=>by simp [e]at hl
  obtain⟨m,k',rfl⟩ : ∃m k,l=m++ [k]:=⟨l.dropLast,l.getLast hne,(iZ hne).symm⟩
  rw [OO]
  rcases bC.1 hk with h|h
  ·exact .inl (ih m ahV k h)
  ·have:k=k':=aaE
   subst this
   exact .inr (.inl ⟨rfl,rfl⟩)
structure Fo (F:ByteArray->Option ByteArray)(R:ByteArray->ByteArray)(d:ByteArray->Nat):Prop where
 top : ∀k,F k=none->R k=k
 step : ∀k k',F k=some k'->R k'=R k∧d k'<d k
theorem Fo.nil:Fo (fun _=>none) (fun z=>z) (fun _=>0):=⟨fun _ _=>rfl,fun k k' h=>by cases h⟩
theorem Fo.root {F:ByteArray->Option ByteArray}{R:ByteArray->ByteArray}{d:ByteArray->Nat}(h:Fo F R d) : ∀(n:Nat) (k:ByteArray),d k=n->F (R k)=none:=by
 intro n
 induction n using Nat.strongRecOn with
 | _ n ih=>
  intro k hk
  cases hF:F k with
  | none=>rw [h.top k hF];exact hF
  | some k'=>
   obtain⟨h1,h2⟩:=h.step k k' hF
   rw [<-h1]
   exact ih (d k') aai k' rfl
theorem Fo.rr {F:ByteArray->Option ByteArray}{R:ByteArray->ByteArray}{d:ByteArray->Nat}(h:Fo F R d)(k:ByteArray):R (R k)=R k:=h.top _ (h.root _ k rfl)
theorem Fo.join {F:ByteArray->Option ByteArray}{R:ByteArray->ByteArray}{d:ByteArray->Nat}(h:Fo F R d){x y:ByteArray}(hne:R x≠R y) :
  Fo (fun k=>if k=uH (R x) (R y)then some (vH (R x) (R y))else F k) (jn R x y) (fun k=>if R k=uH (R x) (R y)then d k+d (vH (R x) (R y))+1 else d k):=by
 rw [Ui hne]
 obtain⟨m,hm⟩ : ∃m,m=uH (R x) (R y):=⟨_,rfl⟩
 obtain⟨n,hn⟩ : ∃n,n=vH (R x) (R y):=⟨_,rfl⟩
 rw [<-hm, <-hn]
 have hmn:m≠n∧R m=m∧R n=n:=by
  rcases Uh (R x) (R y) hne with ⟨e1,e2⟩|⟨e1,e2⟩
  ·rw [hm,hn,e1,e2];exact⟨fun e=>hne e.symm,h.rr y,h.rr x⟩
  ·rw [hm,hn,e1,e2];exact⟨hne,h.rr x,h.rr y⟩
 obtain⟨h1,h2,h3⟩:=hmn
 refine⟨fun k hk=> ?_,fun k k' hk=> ?_⟩
 ·by_cases e:k=m
  ·rw [if_pos e]at hk;cases hk
  ·rw [if_neg e]at hk
   have:=h.top k hk
   show (if R k=m then n else R k)=k
   rw [this,if_neg e]
 ·show (if R k'=m then n else R k')=(if R k=m then n else R k)∧(if R k'=m then d k'+d n+1 else d k')<(if R k=m then d k+d n+1 else d k)
  by_cases e:k=m
  ·rw [if_pos e]at hk
   injection hk with hk
   subst hk;subst e
   rw [h2,h3,if_pos rfl,if_pos rfl,if_neg fun x=>h1 x.symm,if_neg fun x=>h1 x.symm]
   exact⟨rfl,by omega⟩
  ·rw [if_neg e]at hk
   obtain⟨a,b⟩:=h.step k k' hk
   rw [a]
   refine⟨rfl, ?_⟩
   split<;>omega
end Go.Proofs.YtnandbihiceihaaGreatDoor.Id
namespace Go.Proofs.YtnandbihiceihaaGreatDoor.Ky
open RowKit Vc Go.Proofs.YtnandbihiceihaaGreatDoor.Id Go.Proofs.Tryz
attribute [local irreducible] loadVar storeVar Instr.indexAt Instr.index Instr.sliceAt Instr.makeSlice Instr.lookup Instr.mapUpdate Instr.range Instr.next Instr.entry Instr.makeMap Builtin.append_ Builtin.copy_ Builtin.len_ Builtin.min_ Builtin.max_ Builtin.cap_ Builtin.delete_ Builtin.clear_ convert binOp eqGuard Op.unary Calls
section
theorem mixed:Tryz.prog.follows .mixedOrders=true:=aag
def okB (i c:Nat):Bool:=(decide (97<=c)&&decide (c<=122))||(!decide (i=0)&&((decide (48<=c)&&decide (c<=57))||decide (c=45)||decide (c=95)))
theorem L8 (i c:Nat):okB i c=true↔(97<=c∧c<=122)∨(i≠0∧((48<=c∧c<=57)∨c=45∨c=95)):=by
 simp [okB,or_assoc]
theorem L9 (i c:Nat):okB i c=false↔¬((97<=c∧c<=122)∨(i≠0∧((48<=c∧c<=57)∨c=45∨c=95))):=by
 rw [<-L8];simp
def sS:Nat->List UInt8->Bool
 | _,[]=>true
 | i,c::l=>okB i c.toNat&&sS (i+1) l
theorem H7 (l:List UInt8)(i:Nat)(h:i<l.length):sS i (l.drop i)=(okB i l[i].toNat&&sS (i+1) (l.drop (i+1))):=by
 rw [dH h];rfl
theorem FK (s:ByteArray)(w:World)(hs:s.size<=140737488355328) :
  zO Tryz.prog 148 #[.string s] w fun v w'=>v = .bool (sS 0 (wz s)&&decide (1<=s.size))∧w'=w:=by
 refine ou func148 rfl mixed aag ?_
 have hl:=KL s
 refine su (X:=Nat) abD (fun i=> [(3, .int .i64 i)]) (fun i w'=>i<=s.size∧w'=w∧sS 0 (wz s)=sS i ((wz s).drop i)) (fun i=>s.size-i) 0 aag
  ?_ ⟨aH _,rfl,rfl⟩ ?_
 ·exact⟨rfl,trivial⟩
 rintro i w1 j ⟨hi,rfl,hp⟩
 refine lH (fun hlt=> ?_) (fun hge=> ?_)
 ·have hlt:i<s.size:=adU
  have hst:=H7 (wz s) i aai
  have hc:(wz s)[i]'aai=s[i]:=by simp;rfl
  rw [hc]at hst
  have hcb:s[i].toNat<256:=s[i].toNat_lt
  obtain⟨c,hcc⟩ : ∃c,c=s[i].toNat:=⟨_,rfl⟩
  rw [hst]at hp
  rw [hp]
  have hno:=L9 i c
  have hyes:=L8 i c
  rw [<-hcc]at hcb ⊢ hp
  refine DR i rfl rfl hlt ?_
  rw [<-hcc]
  conv=>whnf
  clear hst hc hp
  have e0:okB i c=false->(okB i c&&sS (i+1) ((wz s).drop (i+1))&&decide (1<=s.size))=false:=fun h=>by rw [h];rfl
  have e1:okB i c=true->(okB i c&&sS (i+1) ((wz s).drop (i+1)))=sS (i+1) ((wz s).drop (i+1)):=fun h=>by rw [h];rfl
  (repeat' (apply lH<;>intro h;all_goals (conv=>whnf)))
  all_goals first
   | exact qM.mk ⟨congrArg Value.bool (e0 (hno.2 (by(try simp only [cond_true,cond_false,dD,dA,decide_eq_true_eq,decide_eq_false_iff_not,beq_iff_eq,bne_iff_ne,beq_eq_false_iff_ne,bne_eq_false_iff_eq,ne_eq,bV,bY,bT,aX,dB]at *)<;>omega))).symm,rfl⟩
   | exact qV.mk ⟨_,(show s.size -(i+1)<s.size-i by omega),i+1,rfl,⟨rE (incr aai),trivial⟩,hlt,rfl,e1 (hyes.2 (by(try simp only [cond_true,cond_false,dD,dA,decide_eq_true_eq,decide_eq_false_iff_not,beq_iff_eq,bne_iff_ne,beq_eq_false_iff_ne,bne_eq_false_iff_eq,ne_eq,bV,bY,bT,aX,dB]at *)<;>omega))⟩
 ·have hge : ¬i<s.size:=adB
  obtain rfl:i=s.size:=aai
  rw [iU aai]at hp
  have hp2:sS 0 (wz s)=true:=hp
  rw [hp2]
  exact qM.mk ⟨by show Value.bool _=_;simp;omega,rfl⟩
def resv:List ByteArray:= [⟨#[97,110,100]⟩,⟨#[97,114,109,115]⟩,⟨#[97,116,116,114,105,98,117,116,101]⟩,⟨#[98,111,111,108]⟩,⟨#[99,108,97,105,109,115]⟩,⟨#[99,111,110,116,97,105,110,115]⟩,⟨#[99,111,111,108]⟩,⟨#[99,111,111,108,105,110,103]⟩,⟨#[100,101,102,97,117,108,116]⟩,⟨#[100,114,97,102,116]⟩,⟨#[101,110,100,115]⟩,⟨#[101,120,99,108,117,100,101]⟩,⟨#[101,120,105,115,116,115]⟩,⟨#[101,120,112,101,114,105,109,101,110,116]⟩,⟨#[102,97,108,115,101]⟩,⟨#[102,108,97,103]⟩,⟨#[104,111,108,100,111,117,116]⟩,⟨#[105,110]⟩,⟨#[105,110,99,108,117,100,101]⟩,⟨#[105,115]⟩,⟨#[108,97,121,101,114]⟩,⟨#[108,105,115,116]⟩,⟨#[109,101,109,98,101,114]⟩,⟨#[110,101,101,100,115]⟩,⟨#[110,111,116]⟩,⟨#[110,117,109,98,101,114]⟩,⟨#[111,102,102]⟩,⟨#[111,110]⟩,⟨#[111,114]⟩,⟨#[114,117,108,101]⟩,⟨#[114,117,110,110,105,110,103]⟩,⟨#[115,97,108,116]⟩,⟨#[115,101,103,109,101,110,116]⟩,⟨#[115,101,114,118,101]⟩,⟨#[115,101,116,116,105,110,103,115]⟩,⟨#[115,112,108,105,116]⟩,⟨#[115,116,97,114,116,115]⟩,⟨#[115,116,111,112,112,101,100]⟩,⟨#[116,97,114,103,101,116]⟩,⟨#[116,101,120,116]⟩,⟨#[116,111]⟩,⟨#[116,114,117,101]⟩,⟨#[117,110,116,105,108]⟩,⟨#[118,97,114,105,97,116,105,111,110,115]⟩,⟨#[118,101,114,115,105,111,110]⟩,⟨#[119,104,101,110]⟩]
def xO (s:ByteArray):Bool:=decide (1<=s.size)&&decide (s.size<=32)&&sS 0 (wz s)&& !(resv.any fun r=>uN r s)
theorem OT (l:List ByteArray)(f:ByteArray->Bool)(i:Nat)(h:i<l.length):(l.drop i).any f=(f l[i]||(l.drop (i+1)).any f):=by
 rw [dH h];rfl
def nD (l:List ByteArray):List Value:=l.map .string
theorem Aa {l:List ByteArray}{j:Nat}(h:j<l.length):(nD l)[j]? = some (.string l[j]):=by simp [nD,h]
theorem OU (w:World):zO Tryz.prog 149 #[] w fun v w'=>v = .slice (some ⟨w.heap.size,0,none⟩) 46 46∧At w' w.heap.size 0 (nD resv)∧w.heap.size<w'.heap.size∧Below w.heap.size w w':=by
 refine ou func149 rfl mixed aag ?_
 refine qM.mk ⟨rfl, ?_,by simp,pW (Below.refl _ _) (au _) _⟩
 exact(rU.new w _ _).at
theorem zy:resv.length=46:=rfl
attribute [local irreducible] resv
theorem acE (s:ByteArray)(w:World)(hs:s.size<=140737488355328) :
  zO Tryz.prog 68 #[.string s] w fun v w'=>v = .bool (xO s)∧Below w.heap.size w w':=by
 refine ou func68 rfl mixed aag ?_
 have hk:xO s=(decide (1<=s.size)&&decide (s.size<=32)&&sS 0 (wz s)&& !(resv.any fun r=>uN r s)):=rfl
 obtain⟨kb,hkb⟩ : ∃b,b=xO s:=⟨_,rfl⟩
 rw [<-hkb]at hk ⊢
 refine qW aag (FK s w hs) ?_
 rintro _ w1 ⟨rfl,rfl⟩
 obtain⟨wb,hwb⟩ : ∃b,b=sS 0 (wz s):=⟨_,rfl⟩
 rw [<-hwb]at hk ⊢
 refine lH (fun h1=> ?_) (fun h1=> ?_)
 ·have:kb=false:=by rw [hk];cases wb<;>simp_all
  subst this
  exact qM.mk ⟨rfl,Below.refl _ _⟩
 have h1:wb=true∧1<=s.size:=by cases wb<;>simp_all
 refine lH (fun h2=> ?_) (fun h2=> ?_)
 ·have h2 : ¬s.size<=32:=by have:(s.size:Int)>32:=of_decide_eq_true h2;omega
  have:kb=false:=by rw [hk];simp [h2]
  subst this
  exact qM.mk ⟨rfl,Below.refl _ _⟩
 have h2:s.size<=32:=by have : ¬(s.size:Int)>32:=of_decide_eq_false h2;omega
 have hk2:kb = !(resv.any fun r=>uN r s):=by rw [hk,h1.1];simp [h1.2,h2]
 refine qW aag (OU w1) ?_
 rintro _ w2 ⟨rfl,hA,hlt2,hB⟩
 clear hk
 refine su (X:=Nat) afw (fun i=> [(4, .int .i64 i)]) (fun i w'=>i<=46∧w'=w2∧(resv.any fun r=>uN r s)=(resv.drop i).any fun r=>uN r s) (fun i=>46-i) 0 aag
  ?_ ⟨aH _,rfl,rfl⟩ ?_
 ·exact⟨rfl,trivial⟩
 rintro i w3 j ⟨hi,rfl,hp⟩
 refine lH (fun hlt=> ?_) (fun hge=> ?_)
 ·have hlt:i<46:=adU
  have hil:i<resv.length:=by rw [zy];exact hlt
  rw [OT _ _ i hil]at hp
  have hg:=Aa hil
  conv=>whnf
  (repeat (first|(refine lW.mk aaR ?_;conv=>whnf)|(refine nO.mk rfl ?_;conv=>whnf)|(refine ng.keep rfl ?_;conv=>whnf)|(refine uQ _ rfl rfl rfl aaH ?_;conv=>whnf)|(refine vS _ rfl rfl rfl aaH ?_;conv=>whnf)|(refine uf _ rfl rfl rfl aaH ?_;conv=>whnf)|(refine rG aaP aaH rfl rfl ?_;conv=>whnf)|(refine tN aaP aaH rfl rfl ?_;conv=>whnf)|(refine vP aaP aaH rfl ?_;conv=>whnf)|(refine nH rfl aaP aaH ?_;conv=>whnf)))
  apply lH<;>intro h
  ·have:kb=false:=by rw [hk2,hp,h];rfl
   subst this
   exact qM.mk ⟨rfl,hB⟩
  ·rw [h,jO]at hp
   refine qV.mk ⟨_, ?_,(i+1),rfl, ?_, ?_⟩
   ·show 46 -(i+1)<46-i;omega
   ·exact⟨rE (incr aai),trivial⟩
   ·exact⟨hlt,rfl,hp⟩
 ·have hge : ¬i<46:=adB
  obtain rfl:i=46:=aai
  rw [iU (by rw [zy];exact au _)]at hp
  have:kb=true:=by rw [hk2,hp];rfl
  subst this
  exact qM.mk ⟨rfl,hB⟩
end
section
def I5 (c:Nat):Int:=if(9<=c∧c<=13)∨c=32 then 1 else 0
def Asc (w:World):Prop:=0<w.heap.size∧∀c,c<256->w.cell? ⟨0,c,none⟩=some (.int .u8 (I5 c))
theorem Asc.below {w w':World}(h:Asc w)(hB:Below w.heap.size w w'):Asc w':=⟨aP h.1 hB.size,fun c hc=>by rw [hB.cell (p:=⟨0,c,none⟩) h.1];exact h.2 c hc⟩
theorem acF {P:Program}{w:World}{K:Value->World->Prop}{k:IntKind}{n:Int}(c:K (.int k (nV .xor k (if k.signed then -1 else k.max) n)) w):nM P (Op.unary .xor (.int k n)) w K:=by
 refine oQ ?_ c
 simp [Op.unary,Op.intBits,nV]
theorem OV {P:Program}{w:World}{K:Value->World->Prop}{t:TypeId}{s:ByteArray}{kl:IntKind}{lo:Int}(a:Nat)(ha:lo=a)(hu:P.underlying t=some .string)(h:a<=s.size)
  (c:K (.string (s.extract a s.size)) w):nM P (Instr.sliceAt t (.string s) (some (.int kl lo)) none none) w K:=by
 refine oQ ?_ c
 subst ha
 unfold Instr.sliceAt
 rw [Sem.run_bind,l7 hu]
 simp only [Result.andThen_ok]
 unfold Instr.slice
 rw [Sem.run_bind,l7 hu]
 have h1:(0:Int)<=a∧(a:Int)<=s.size:=⟨by omega,by omega⟩
 simp [Instr.sliceBounds,Instr.sliceBound,asIntOf,h1,h]
theorem FM {P:Program}{w:World}{K:Value->World->Prop}{t e:TypeId}{n b:Nat}{k:IntKind}{ix:Int}(m:Nat)(hm:ix=m)(hu:P.underlying t=some (.array n e))(hs:szB P e=some 1)(h:m<n)
  (hk:K (.pointer (some ⟨b,m,none⟩)) w):nM P (Instr.indexAt t (.pointer (some ⟨b,0,none⟩)) (.int k ix)) w K:=
 uf m hu hs hm h (by rw [aO];exact hk)
def c1 (l:List UInt8):Nat->Int×Int×Int
 | 0=>(0,1,0)
 | i+1=>(IntKind.i64.wrap ((c1 l i).1+nV .and .i64 (c1 l i).2.1 (nV .xor .i64 (-1) (IntKind.i64.wrap (I5 (l.getD i 0).toNat)))),IntKind.i64.wrap (I5 (l.getD i 0).toNat),nV .or .u8 (c1 l i).2.2 ((l.getD i 0).toNat:Nat))
theorem acG (l:List UInt8)(i:Nat):c1 l (i+1)=(IntKind.i64.wrap ((c1 l i).1+nV .and .i64 (c1 l i).2.1 (nV .xor .i64 (-1) (IntKind.i64.wrap (I5 (l.getD i 0).toNat)))),IntKind.i64.wrap (I5 (l.getD i 0).toNat),nV .or .u8 (c1 l i).2.2 ((l.getD i 0).toNat:Nat)):=rfl
def wl (s:ByteArray):Nat->List ByteArray×Nat
 | 0=>([],0)
 | i+1=>if I5 ((wz s).getD i 0).toNat=0 then wl s i else((wl s i).1++ [s.extract (wl s i).2 i],i+1)
theorem FN (s:ByteArray)(i:Nat):wl s (i+1)=if I5 ((wz s).getD i 0).toNat=0 then wl s i else((wl s i).1++ [s.extract (wl s i).2 i],i+1):=rfl
theorem aiR (s:ByteArray)(i:Nat):(wl s i).2<=i:=by
 induction i with
 | zero=>exact au _
 | succ i ih=>rw [FN];split;exact Nat.le_succ_of_le ih;exact au _
theorem acH (s:ByteArray)(i:Nat) : ∀d,(wl s i).1.length<=(wl s (i+d)).1.length:=by
 intro d
 induction d with
 | zero=>exact au _
 | succ d ih=>rw [<-fF,FN];split;exact ih;simp only [ay,bn,dP];omega
structure aiS (s:ByteArray):Prop where
 size:s.size<=1000000
 first:0<s.size->I5 ((wz s).getD 0 0).toNat=0
 next : ∀i,i<s.size->I5 ((wz s).getD i 0).toNat≠0->i+1<s.size∧I5 ((wz s).getD (i+1) 0).toNat=0
 plain : ¬(c1 (wz s) s.size).2.2≥128
 count:(c1 (wz s) s.size).1=((wl s s.size).1.length+1:Nat)
 some:0<s.size
 ends:(wl s s.size).2<s.size
theorem agj (c:Nat):I5 c=0∨I5 c=1:=by unfold I5;split;exact .inr rfl;exact .inl rfl
attribute [local irreducible] c1 wl I5
theorem VP (s:ByteArray)(w:World)(hs:aiS s)(hA:Asc w) :
  zO Tryz.prog 138 #[.string s] w fun v w'=> ∃b,v = .slice (some ⟨b,0,none⟩) ((wl s s.size).1.length+1) ((wl s s.size).1.length+1)∧At w' b 0 (nD ((wl s s.size).1++ [s.extract (wl s s.size).2 s.size]))∧b<w'.heap.size∧Below w.heap.size w w':=by
 refine ou func138 rfl mixed aag ?_
 have hl:=KL s
 have hsz:=hs.size
 have hby : ∀i (h:i<s.size),(wz s).getD i 0=s[i]:=fun i h=>by
  rw [aT,ah (by rw [hl];exact h)];simp;rfl
 refine su (X:=Nat) abw (fun i=> [(6, .int .i64 i),(3, .int .i64 (c1 (wz s) i).1),(4, .int .i64 (c1 (wz s) i).2.1),(5, .int .u8 (c1 (wz s) i).2.2)]) (fun i w'=>i<=s.size∧w'=w) (fun i=>s.size-i) 0 aag
  ?_ ⟨aH _,rfl⟩ ?_
 ·exact⟨rfl,by unfold c1;rfl,by unfold c1;rfl,by unfold c1;rfl,trivial⟩
 rintro i w1 j ⟨hi,rfl⟩
 refine lH (fun hlt=> ?_) (fun hge=> ?_)
 ·have hlt:i<s.size:=adU
  have hcb:s[i].toNat<256:=s[i].toNat_lt
  have hcell:=hA.2 s[i].toNat hcb
  have hsc:=acG (wz s) i
  rw [hby i hlt]at hsc
  refine DR i rfl rfl hlt ?_
  refine FM s[i].toNat rfl rfl rfl hcb ?_
  refine oZ rfl hcell ?_
  refine acF ?_
  refine qV.mk ⟨_, ?_,(i+1),rfl, ?_, ?_⟩
  ·show s.size -(i+1)<s.size-i;omega
  ·exact⟨rE (incr aai),rE (by rw [hsc];rfl),rE (by rw [hsc]),rE (by rw [hsc]),trivial⟩
  ·exact⟨hlt,rfl⟩
 have hge : ¬i<s.size:=adB
 obtain rfl:i=s.size:=aai
 have hpl:=hs.plain
 have hcn:=hs.count
 refine zL (by simpa using hpl) ?_
 rw [hcn]
 have hW:(wl s s.size).1.length<=s.size:=by
  have : ∀i,(wl s i).1.length<=i:=fun i=>by
   induction i with
   | zero=>unfold wl;exact au _
   | succ i ih=>rw [FN];split;exact Nat.le_succ_of_le ih;simp only [ay,bn,dP];omega
  exact this _
 obtain⟨N,hN⟩ : ∃N,N=(wl s s.size).1.length+1:=⟨_,rfl⟩
 rw [<-hN]
 refine aa0 (n:=N) (qp:=16) (sz:=1) (zs:= [.string ⟨#[]⟩]) rfl rfl rfl rfl rfl rfl rfl rfl aai aa5 ?_
 intro w2 hw2 hb2
 rw [aa1]at hb2
 have hB2:Below w1.heap.size w1 w2:=by rw [hw2];exact pW (Below.refl _ _) (au _) _
 clear hw2
 conv=>whnf
 have hAs : ∀w',Below w1.heap.size w1 w'->∀c,c<256->w'.cell? ⟨0,c,none⟩=some (.int .u8 (I5 c)):=fun w' hB c hc=>(hA.below hB).2 c hc
 have h0s:=hs.some
 have h0:=hs.first h0s
 rw [hby 0 h0s]at h0
 refine su (X:=Unit) abx (fun _=> [(12, .int .i64 ((0:Nat):Int))]) (fun _ w'=>w'=w2) (fun _=>0) () aag ?_ rfl ?_
 ·exact⟨rfl,trivial⟩
 rintro _ w3 j3 rfl
 refine F8 (by simpa using h0s) ?_
 refine DR 0 rfl rfl h0s ?_
 refine FM s[0].toNat rfl rfl rfl s[0].toNat_lt ?_
 refine oZ rfl (hAs _ hB2 _ s[0].toNat_lt) ?_
 rw [h0]
 refine su (X:=Nat×List Value) aby (fun x=> [(12, .int .i64 x.1),(10, .int .i64 ((wl s x.1).1.length:Nat)),(11, .int .i64 ((wl s x.1).2:Nat))]) (fun x w'=>x.1<=s.size∧Below w1.heap.size w1 w'∧rU w' w1.heap.size x.2 9∧x.2.length=N∧∃t,x.2=nD (wl s x.1).1++t) (fun x=>s.size-x.1) (0,List.replicate N (.string ⟨#[]⟩)) aag
  ?_ ⟨aH _,hB2,hb2,by simp,_,by unfold wl;rfl⟩ ?_
 ·exact⟨rfl,by unfold wl;rfl,by unfold wl;rfl,trivial⟩
 clear hb2 hB2
 rintro⟨i,cs⟩ w4 j4 ⟨hi,hB4,hb4,hcl,t,hct⟩
 simp only at hi hb4 hcl hct ⊢
 have hws:=FN s i
 have hle:=aiR s i
 refine lH (fun hlt=> ?_) (fun hge=> ?_)
 ·have hlt:i<s.size:=adU
  rw [hby i hlt]at hws
  have hcb:s[i].toNat<256:=s[i].toNat_lt
  refine DR i rfl rfl hlt ?_
  refine FM s[i].toNat rfl rfl rfl hcb ?_
  refine oZ rfl (hAs _ hB4 _ hcb) ?_
  conv=>whnf
  rcases agj s[i].toNat with h1|h1
  ·rw [h1]
   rw [if_pos h1]at hws
   refine qV.mk ⟨_, ?_,(i+1,cs),rfl, ?_, ?_⟩
   ·show s.size -(i+1)<s.size-i;omega
   ·exact⟨rE (incr aai),by show _=Value.int .i64 ((wl s (i+1)).1.length:Nat);rw [hws];rfl,by show _=Value.int .i64 ((wl s (i+1)).2:Nat);rw [hws];rfl,trivial⟩
   ·exact⟨hlt,hB4,hb4,hcl,t,by rw [hws];exact hct⟩
  ·rw [h1]
   rw [if_neg (by rw [h1];decide)]at hws
   obtain⟨hn1,hn2⟩:=hs.next i hlt (by rw [hby i hlt,h1];decide)
   rw [hby (i+1) hn1]at hn2
   have hm:=acH s (i+1) (s.size -(i+1))
   rw [show i+1+(s.size -(i+1))=s.size by omega,hws]at hm
   simp only [ay,bn,dP]at hm
   obtain⟨m,hmm⟩ : ∃m,m=(wl s i).1.length:=⟨_,rfl⟩
   rw [<-hmm]at hm ⊢
   have hmN:m<N:=aai
   refine Vu (wl s i).2 i rfl rfl rfl hle aai ?_
   refine uQ m rfl rfl rfl hmN ?_
   refine DL hb4 rfl rfl (by rw [hcl];omega) ?_
   intro w5 hO5 hb5
   rw [aO]at hb5
   have hB5:=hB4.trans (hO5.below (au _))
   have hset : ∃t',cs.set m (.string (s.extract (wl s i).2 i))=nD (wl s (i+1)).1++t':=by
    rw [hct,hws]
    have hml:(nD (wl s i).1).length=m:=by rw [hmm];simp [nD]
    rw [jd _ _ aai,hml,iT]
    cases t with
    | nil=>rw [hct,gK,hml]at hcl;omega
    | cons v t=>exact⟨t,by simp [nD]⟩
   clear hb4 hO5
   conv=>whnf
   have e1:IntKind.i64.wrap ((i:Int)+1)=((i+1:Nat):Int):=incr aai
   have e2:IntKind.i64.wrap ((m:Int)+1)=((m+1:Nat):Int):=incr aai
   refine su (X:=Unit) abz (fun _=> [(12, .int .i64 ((i+1:Nat):Int))]) (fun _ w'=>w'=w5) (fun _=>0) () aag ?_ rfl ?_
   ·exact⟨rE e1,trivial⟩
   rintro _ w6 j6 rfl
   refine F8 (by simp only [decide_eq_true_eq];omega) ?_
   refine DR (i+1) rfl rfl hn1 ?_
   refine FM s[i+1].toNat rfl rfl rfl s[i+1].toNat_lt ?_
   refine oZ rfl (hAs _ hB5 _ s[i+1].toNat_lt) ?_
   rw [hn2]
   conv=>whnf
   obtain⟨t',ht'⟩:=hset
   refine qV.mk ⟨_, ?_,(i+1,cs.set m (.string (s.extract (wl s i).2 i))),rfl, ?_, ?_⟩
   ·show s.size -(i+1)<s.size-i;omega
   ·refine⟨rfl, ?_, ?_,trivial⟩
    ·show Value.int .i64 (IntKind.i64.wrap ((m:Int)+1))=Value.int .i64 ((wl s (i+1)).1.length:Nat)
     rw [e2,hws,ay, <-hmm];rfl
    ·show _=Value.int .i64 ((wl s (i+1)).2:Nat)
     rw [hws];rfl
   ·exact⟨hlt,hB5,hb5,by show (cs.set m _).length=N;rw [bJ];exact hcl,t',ht'⟩
 have hge : ¬i<s.size:=adB
 obtain rfl:i=s.size:=aai
 have hend:=hs.ends
 obtain⟨m,hmm⟩ : ∃m,m=(wl s s.size).1.length:=⟨_,rfl⟩
 rw [<-hmm]
 have hmN:m<N:=aai
 refine F8 (by simp only [decide_eq_true_eq];omega) ?_
 refine OV (wl s s.size).2 rfl rfl hle ?_
 refine uQ m rfl rfl rfl hmN ?_
 refine DL hb4 rfl rfl (by rw [hcl];omega) ?_
 intro w5 hO5 hb5
 rw [aO]at hb5
 have hfin:cs.set m (.string (s.extract (wl s s.size).2 s.size))=nD ((wl s s.size).1++ [s.extract (wl s s.size).2 s.size]):=by
  have hml:(nD (wl s s.size).1).length=m:=by rw [hmm];simp [nD]
  rw [hct]at hcl ⊢
  rw [jd _ _ aai,hml,iT]
  rw [ay,hml]at hcl
  match t,hcl with
  | [v],_=>simp [nD]
  | [],h=>simp at h;omega
  | _::_::_,h=>simp at h;omega
 rw [hfin]at hb5
 exact qM.mk ⟨w1.heap.size,by rw [hN];rfl,hb5.at,hb5.lt,hB4.trans (hO5.below (au _))⟩
end
section
def okW (s:ByteArray):Bool:=
 decide (s.size<=1000000)&&decide (0<s.size)&&decide (I5 ((wz s).getD 0 0).toNat=0)&&
 ((List.range s.size).all fun i=>decide (I5 ((wz s).getD i 0).toNat=0)||(decide (i+1<s.size)&&decide (I5 ((wz s).getD (i+1) 0).toNat=0)))&&
 decide (¬(c1 (wz s) s.size).2.2≥128)&&decide ((c1 (wz s) s.size).1=((wl s s.size).1.length+1:Nat))&&decide ((wl s s.size).2<s.size)&&
 (((wl s s.size).1++ [s.extract (wl s s.size).2 s.size]).map wz==resv.map wz)
theorem acI {a b:ByteArray}(h:wz a=wz b):a=b:=by
 obtain⟨⟨x⟩⟩:=a
 obtain⟨⟨y⟩⟩:=b
 have:x=y:=h
 rw [this]
theorem OW : ∀(l m:List ByteArray),l.map wz=m.map wz->l=m:=by
 intro l
 induction l with
 | nil=>intro m h;cases m with
  | nil=>rfl
  | cons _ _=>simp at h
 | cons a l ih=>intro m h;cases m with
  | nil=>simp at h
  | cons b m=>
   rw [gW,gW]at h
   injection h with h1 h2
   rw [acI h1,ih m h2]
theorem Yo {s:ByteArray}(h:okW s=true):aiS s∧(wl s s.size).1++ [s.extract (wl s s.size).2 s.size]=resv:=by
 unfold okW at h
 simp only [ak,decide_eq_true_eq]at h
 obtain⟨⟨⟨⟨⟨⟨⟨h1,h2⟩,h3⟩,h4⟩,h5⟩,h6⟩,h7⟩,h8⟩:=h
 refine⟨⟨h1,fun _=>h3,fun i hi hne=> ?_,h5,h6,h2,h7⟩,OW _ _ (by simpa using h8)⟩
 have:=bP.1 h4 i (by simpa using hi)
 simp only [jy,ak,decide_eq_true_eq]at this
 rcases this with h|h
 ·exact absurd h hne
 ·exact h
theorem OX (s:ByteArray)(w:World)(hs:okW s=true)(hA:Asc w) :
  zO Tryz.prog 138 #[.string s] w fun v w'=> ∃b,v = .slice (some ⟨b,0,none⟩) 46 46∧At w' b 0 (nD resv)∧b<w'.heap.size∧Below w.heap.size w w':=by
 obtain⟨hn,hr⟩:=Yo hs
 refine(VP s w hn hA).mono ?_
 rintro _ w' ⟨b,rfl,hat,hb⟩
 have hl:(wl s s.size).1.length+1=46:=by
  have:=congrArg List.length hr
  rw [zy]at this
  simpa using this
 rw [hr]at hat
 exact⟨b,by rw [hl],hat,hb⟩
attribute [local irreducible] resv okW
theorem acJ (s:ByteArray)(w:World)(hA:Asc w)(hs:s.size<=140737488355328) :
  zO Tryz.prog 58 #[.string s] w fun v w'=>v = .bool (xO s)∧Below w.heap.size w w':=by
 refine ou func58 rfl mixed aag ?_
 have hk:xO s=(decide (1<=s.size)&&decide (s.size<=32)&&sS 0 (wz s)&& !(resv.any fun r=>uN r s)):=rfl
 obtain⟨kb,hkb⟩ : ∃b,b=xO s:=⟨_,rfl⟩
 rw [<-hkb]at hk ⊢
 have hl:=KL s
 refine lH (fun h1=> ?_) (fun h1=> ?_)
 ·have h1 : ¬1<=s.size:=by have:(s.size:Int)<1:=of_decide_eq_true h1;omega
  have:kb=false:=by rw [hk];simp [h1]
  subst this
  exact qM.mk ⟨rfl,Below.refl _ _⟩
 have h1:1<=s.size:=by have : ¬(s.size:Int)<1:=of_decide_eq_false h1;omega
 refine lH (fun h2=> ?_) (fun h2=> ?_)
 ·have h2 : ¬s.size<=32:=by have:(s.size:Int)>32:=of_decide_eq_true h2;omega
  have:kb=false:=by rw [hk];simp [h2]
  subst this
  exact qM.mk ⟨rfl,Below.refl _ _⟩
 have h2:s.size<=32:=by have : ¬(s.size:Int)>32:=of_decide_eq_false h2;omega
 have hk2:kb=(sS 0 (wz s)&& !(resv.any fun r=>uN r s)):=by rw [hk];simp [h1,h2]
 clear hk
 refine Vw rfl ?_
 intro w1 hB1 hI1
 refine su (X:=Nat) afs (fun _=> []) (fun i w'=>i<=s.size∧Below w.heap.size w w'∧Itr w' w.heap.size s i∧sS 0 (wz s)=sS i ((wz s).drop i)) (fun i=>s.size-i) 0 aag
  ?_ ⟨aH _,hB1,hI1,rfl⟩ ?_
 ·exact trivial
 rintro i w2 j ⟨hi,hB2,hI2,hp⟩
 clear hI1 hB1
 conv=>whnf
 by_cases hlt:i<s.size
 ·have hst:=H7 (wz s) i aai
  have hc:(wz s)[i]'aai=s[i]:=by simp;rfl
  rw [hc]at hst
  have hcb:s[i].toNat<256:=s[i].toNat_lt
  rw [hst]at hp
  refine aa3 hI2 hlt (fun hpl w3 hO3 hI3=> ?_) (fun hnp w3 c q hO3 _ hc2=> ?_)
  ·obtain⟨c,hcc⟩ : ∃c,c=s[i].toNat:=⟨_,rfl⟩
   have hno:=L9 i c
   have hyes:=L8 i c
   rw [<-hcc]at hp hpl ⊢
   have hB3:=hB2.trans (hO3.below (au _))
   have e0:okB i c=false->kb=false:=fun h=>by rw [hk2,hp,h];rfl
   have e1:okB i c=true->sS 0 (wz s)=sS (i+1) ((wz s).drop (i+1)):=fun h=>by rw [hp,h];rfl
   clear hst hc hcb hI2 hO3 hp
   conv=>whnf
   (repeat' (apply lH<;>intro h;all_goals (conv=>whnf)))
   all_goals first
    | exact qM.mk ⟨congrArg Value.bool (e0 (hno.2 (by(try simp only [cond_true,cond_false,dD,dA,decide_eq_true_eq,decide_eq_false_iff_not,beq_iff_eq,bne_iff_ne,beq_eq_false_iff_ne,bne_eq_false_iff_eq,ne_eq,bV,bY,bT,aX,dB]at *)<;>omega))).symm,hB3⟩
    | exact qV.mk ⟨_,(show s.size -(i+1)<s.size-i by omega),i+1,rfl,trivial,hlt,hB3,hI3,e1 (hyes.2 (by(try simp only [cond_true,cond_false,dD,dA,decide_eq_true_eq,decide_eq_false_iff_not,beq_iff_eq,bne_iff_ne,beq_eq_false_iff_ne,bne_eq_false_iff_eq,ne_eq,bV,bY,bT,aX,dB]at *)<;>omega))⟩
  ·have hB3:=hB2.trans (hO3.below (au _))
   have e0:kb=false:=by
    have:okB i s[i].toNat=false:=(L9 i _).2 aai
    rw [hk2,hp,this];rfl
   clear hst hc hcb hI2 hO3 hp
   subst e0
   conv=>whnf
   (repeat' (apply lH<;>intro h;all_goals (conv=>whnf)))
   all_goals first
    | exact qM.mk ⟨rfl,hB3⟩
    | (exfalso;clear hk2;exact(by(try simp only [cond_true,cond_false,dD,dA,decide_eq_true_eq,decide_eq_false_iff_not,beq_iff_eq,bne_iff_ne,beq_eq_false_iff_ne,bne_eq_false_iff_eq,ne_eq,bV,bY,bT,aX,dB]at *)<;>omega))
 ·obtain rfl:i=s.size:=aai
  rw [iU aai]at hp
  have hp2:sS 0 (wz s)=true:=hp
  have hk3:kb = !(resv.any fun r=>uN r s):=by rw [hk2,hp2];rfl
  refine QO hI2 (au _) ?_
  refine qW aag (OX _ w2 aag (hA.below hB2)) ?_
  rintro _ w3 ⟨b,rfl,hA3,hb3,hB3⟩
  have aiT:=hB2.trans (hB3.mono hB2.size)
  clear hB3 hI2 hk2
  refine su (X:=Nat) aft (fun i=> [(52, .int .i64 i)]) (fun i w'=>i<=46∧w'=w3∧(resv.any fun r=>uN r s)=(resv.drop i).any fun r=>uN r s) (fun i=>46-i) 0 aag
   ?_ ⟨aH _,rfl,rfl⟩ ?_
  ·exact⟨rfl,trivial⟩
  rintro i w4 j ⟨hi,rfl,hp⟩
  refine lH (fun hlt=> ?_) (fun hge=> ?_)
  ·have hlt:i<46:=adU
   have hil:i<resv.length:=by rw [zy];exact hlt
   rw [OT _ _ i hil]at hp
   have hg:=Aa hil
   conv=>whnf
   (repeat (first|(refine lW.mk aaR ?_;conv=>whnf)|(refine nO.mk rfl ?_;conv=>whnf)|(refine ng.keep rfl ?_;conv=>whnf)|(refine uQ _ rfl rfl rfl aaH ?_;conv=>whnf)|(refine vS _ rfl rfl rfl aaH ?_;conv=>whnf)|(refine uf _ rfl rfl rfl aaH ?_;conv=>whnf)|(refine rG aaP aaH rfl rfl ?_;conv=>whnf)|(refine tN aaP aaH rfl rfl ?_;conv=>whnf)|(refine vP aaP aaH rfl ?_;conv=>whnf)|(refine nH rfl aaP aaH ?_;conv=>whnf)))
   apply lH<;>intro h
   ·have:kb=false:=by rw [hk3,hp,h];rfl
    subst this
    exact qM.mk ⟨rfl,aiT⟩
   ·rw [h,jO]at hp
    refine qV.mk ⟨_, ?_,(i+1),rfl, ?_, ?_⟩
    ·show 46 -(i+1)<46-i;omega
    ·exact⟨rE (incr aai),trivial⟩
    ·exact⟨hlt,rfl,hp⟩
  ·have hge : ¬i<46:=adB
   obtain rfl:i=46:=aai
   rw [iU (by rw [zy];exact au _)]at hp
   have:kb=true:=by rw [hk3,hp];rfl
   subst this
   exact qM.mk ⟨rfl,aiT⟩
end
end Go.Proofs.YtnandbihiceihaaGreatDoor.Ky
namespace Go.Proofs.YtnandbihiceihaaGreatDoor.Cl
open RowKit Vc Ax Ky Go.Proofs.YtnandbihiceihaaGreatDoor.Id Go.Proofs.Tryz
def spL:List Value:=(List.range 256).map fun c=> .int .u8 (I5 c)
def GS:Glob:=⟨0+1,fun g=>if g=0 then some spL else none,fun _=>none⟩
theorem agk {w:World}(h:GS.holds w):Asc w:=by
 refine⟨aP (jm _) h.1,fun c hc=> ?_⟩
 have:=(h.2.1 0 spL (by simp [GS])).2 c (.int .u8 (I5 c)) (by unfold spL;rw [aJ,ig hc];rfl)
 exact this
theorem H8 (s:ByteArray)(h:s.size<=140737488355328):mP Tryz.prog GS 58 [.v (.string s)] 0 [] (Is (.v (.bool (xO s)))):=Ba (l:= [.string s]) fun w hG=>acJ s w (agk hG) h
theorem Yp (s:ByteArray)(h:s.size<=140737488355328):mP Tryz.prog GS 68 [.v (.string s)] 0 [] (Is (.v (.bool (xO s)))):=Ba (l:= [.string s]) fun w hG=>acE s w h
theorem JL {s:ByteArray}(h:xO s=true):s.size<=32:=by
 unfold xO at h
 simp only [ak,decide_eq_true_eq]at h
 omega
section
variable {P:Program}{H:Type}{enc:TypeId×Value->H}{w:World}
theorem agl {α:Type}{en:α->Value}{Q:α->Prop}{t e:TypeId}{cs:List Value}(ht:P.underlying t=some (.slice e))(one : ∀c,Rd enc P w e c->∃a:α,c = [en a]∧Q a)(h1 : ∀a,(en a).oneCell'=true)(h:Rd enc P w t cs) :
  ∃(oa:Option Addr) (l:List α) (cap:Nat),cs = [.slice oa l.length cap]∧(∀a∈l,Q a)∧mM 0 VL (Here w) w (.lst 1 (l.map (Ax.en1 en))) (.slice oa l.length cap):=by
 obtain⟨oa,len,cap,css,hcs,hlc,hcm,hn,hcl,hr,hall⟩:=Yl ht h
 have : ∃l:List α,l.length=css.length∧css.flatten=recs (fun a=> [en a]) l∧∀a∈l,Q a:=by
  clear hr hcl
  induction css with
  | nil=>exact⟨[],rfl,rfl,fun x h=>by cases h⟩
  | cons c r ih=>
   obtain⟨l,h2,h3,h4⟩:=ih fun c hc=>hall c (by simp [hc])
   obtain⟨x,e,hx⟩:=one c (hall c abb).2
   refine⟨x::l,by simp [h2],by rw [gZ,h3,e];rfl,fun y hy=> ?_⟩
   rcases bI.1 hy with rfl|hy
   ·exact hx
   ·exact h4 y hy
 obtain⟨l,h2,h3,h4⟩:=this
 rw [h3]at hr
 have e:len=l.length:=aai
 subst e
 exact⟨oa,l,cap,hcs,h4, .lst (VN (enc:=Ax.en1 en) (c:=fun a=> [en a]) (fun _=>rfl) (fun _=>rfl) (fun a v hv=>by rw [aW.1 hv];exact h1 a) hlc hn hr (fun b hb=>hb) aaw)⟩
theorem QM {n:Int}(h:(Lit.int .i64 n).wf=true):I64 n:=by
 have : -9223372036854775808<=n∧n<=9223372036854775807:=by simpa [Lit.wf,IntKind.min,IntKind.max,IntKind.signed,IntKind.bits]using h
 exact this
theorem EK {n:Int}(h:(Lit.int .u8 n).wf=true) : ∃k:Nat,n=k∧k<256:=by
 have:0<=n∧n<=255:=by simpa [Lit.wf,IntKind.min,IntKind.max,IntKind.signed,IntKind.bits]using h
 exact⟨n.toNat,by omega,by omega⟩
theorem Yq {t e:TypeId}{cs:List Value}(ht:P.underlying t=some (.slice e))(he:P.underlying e=some (.int .u8))(h:Rd enc P w t cs) :
  ∃(oa:Option Addr) (l:By) (cap:Nat),cs = [.slice oa l.length cap]∧True∧mM 0 VL (Here w) w (bs l) (.slice oa l.length cap):=by
 obtain⟨oa,l,cap,h1,_,h3⟩:=agl (en:=fun c:UInt8=>Value.int .u8 (c.toNat:Int)) (Q:=fun _=>True) ht (fun c hc=>by
  obtain⟨n,e,hw⟩:=agh he hc
  obtain⟨k,rfl,hk⟩:=EK hw
  exact⟨UInt8.ofNat k,by rw [e,toNat_ofNat hk],trivial⟩) (fun _=>rfl) h
 exact⟨oa,l,cap,h1,trivial,h3⟩
end
theorem akX:Tryz.prog.globalNamed "strings.asciiSpace" = some 0:=aag
theorem akY:(Tryz.prog.globals[0]?).map (·.type)=some 289:=aag
theorem akZ:(Rows.laid_strings_asciiSpace:DataW Unit) = .agg ((List.range 256).map fun c=> .lit (.int .u8 (I5 c))):=aag
theorem OY {P:Program}{w:World}{n:String}{d:DataW Unit} : ∀ {l:List (String×DataW Unit)} {ps:List MemPlace},DataW.LaidVars P w l ps->(n,d)∈l->∃g t cs fuel p,P.globalNamed n=some g∧(P.globals[g]?).map (·.type)=some t∧w.var? P n=some cs∧DataW.trod (fun _=>()) P w 0 (fun _=>true) false fuel t cs.toList=some (d,p)
 | [],_,_,h=>by cases h
 | x::r,ps,h0,h=>by
  obtain⟨g,t,cs,fuel,p,q,h1,h2,h3,h4,h5,_⟩:=h0
  rcases bI.1 h with h|h
  ·subst h
   exact⟨g,t,cs,fuel,p,h1,h2,h3,h4⟩
  ·exact OY h5 h
theorem aiU {W:World}{l:List (String×DataW Unit)}(h:laidMetH Tryz.prog l W)(hp:(l.all fun x=>x.2.handleName?.isNone)=true:=by kernel_rfl)(hm:l.getLast? = some ("strings.asciiSpace",Rows.laid_strings_asciiSpace):=by rfl):GS.holds W:=by
 rw [MakeChecks.laidMetH_plain _ _ _ hp]at h
 obtain⟨ps,h,_,_⟩:=h
 obtain⟨g0,t0,cs0,f0,p0,hg0,ht0,hv0,hd0⟩:=OY h (List.mem_of_getLast? hm)
 obtain rfl:=jT (akX.symm.trans hg0)
 obtain rfl:=jT (akY.symm.trans ht0)
 rw [akZ]at hd0
 obtain⟨xs,m,rfl,hd,hcl,hxl,hel⟩:=DataW.trod_array (e:=5) (n:=256) rfl hd0
 injection hd with hd _
 injection hd with hd
 have key : ∀i,i<256->W.cell? ⟨0,i,none⟩=some (.int .u8 (I5 i)):=fun i hi=>by
  have h1:=hel i hi
  have hx:xs[i]? = some xs[i]:=ah aai
  rw [hx]at h1
  obtain⟨k,e,f,_⟩:=DataW.trod_int (t:=5) (k:= .u8) rfl h1
  have hf:(xs.map (·.1))[i]? = some (.lit (.int .u8 k)):=by rw [aJ,hx,f];rfl
  rw [<-hd,aJ,ig hi]at hf
  simp only [bD,aI,DataW.lit.injEq,Lit.int.injEq,true_and]at hf
  rw [World.var?_cell hg0 hv0 i, <-bF]
  have e1:Tryz.prog.cellsOf 5=1:=aag
  rw [e1,dZ]at e
  have:(cs0.toList.drop i)[0]? = some (.int .u8 k):=by
   cases hdr:cs0.toList.drop i with
   | nil=>rw [hdr]at e;cases e
   | cons a r=>rw [hdr]at e;injection e with e;rw [e];rfl
  rw [dO,dV]at this
  rw [this,hf]
 have hsz:0<W.heap.size:=World.block_lt_of_cell? W _ (key 0 aaw)
 refine⟨hsz,fun g cs hg=> ?_,fun _ _ h=>by cases h⟩
 simp only [GS]at hg
 split at hg
 ·rename_i e
  injection hg with hg
  subst e;subst hg
  refine⟨jm _,fun j v hj=> ?_⟩
  unfold spL at hj
  rw [aJ]at hj
  rcases eG j 256 with h1|h1
  ·rw [ig h1]at hj
   simp only [bD,aI]at hj
   rw [key j h1,hj]
  ·rw [dN aaJ]at hj
   cases hj
 ·cases hg
end Go.Proofs.YtnandbihiceihaaGreatDoor.Cl
