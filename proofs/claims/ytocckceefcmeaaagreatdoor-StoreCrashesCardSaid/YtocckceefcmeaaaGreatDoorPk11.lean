/- Joined parts of the proof. Plain encodings that the walks of several chapters share -/
import Derived.Test.YtocckceefcmeaaaGreatDoorPk10
import Derived.Test.YtocckceefcmeaaaGreatDoorPk9
import Derived.Test.YtocckceefcmeaaaGreatDoorProg
import Derived.Test.YtocckceefcmeaaaGreatDoorPk8
import Derived.Sort.Grow
import Derived.Test.YtocckceefcmeaaaGreatDoorPk2
import Derived.ProofKit
import Derived.Test.YtocckceefcmeaaaGreatDoorPk1
import Derived.MapKept
import Derived.Laws.Strings
import Derived.Test.YtocckceefcmeaaaGreatDoorPk3
import Derived.OpenShut
import Derived.Test.YtocckceefcmeaaaGreatDoorRows
import Derived.LaidMore
import Derived.Stop.Joined
set_option linter.unusedVariables false
set_option linter.unusedSimpArgs false
set_option maxRecDepth 100000
set_option maxHeartbeats 16000000
namespace Go.Proofs.YtocckceefcmeaaaGreatDoor.Cl
open Go Go.RowKit Go.Proofs Go.Proofs.YtocckceefcmeaaaGreatDoor.Vc Go.Proofs.YtocckceefcmeaaaGreatDoor.Ax
abbrev By:=List UInt8
abbrev Tx:=List By
def I64 (n:Int):Prop:= -9223372036854775808≤n∧n≤9223372036854775807
theorem bW {n:Nat}(h:n≤9223372036854775807):I64 (n:Int):=by unfold I64;omega
theorem toNat_ofNat {u:Nat}(h:u<256):(UInt8.ofNat u).toNat=u:=by
 simp [UInt8.toNat_ofNat',Nat.mod_eq_of_lt h]
abbrev Li:=List Int
def cO (l:Li):Prop:= ∀x∈l,I64 x
theorem mixed:Tryz.prog.follows .mixedOrders=true:=by kernel_rfl
def GC:Glob:=⟨0,fun _=>none,fun _=>none⟩
abbrev iv (n:Int):AV:= .v (.int .i64 n)
abbrev bv (b:Bool):AV:= .v (.bool b)
abbrev uv (n:Nat):AV:= .v (.int .u64 (n:Int))
def oM (x:Int):List FV:= [.v (.int .i64 x)]
abbrev bs (b:By):AV:= .lst 1 (b.map dW)
abbrev li (l:Li):AV:= .lst 1 (l.map oM)
theorem aI.to {k:IntKind}{x y:Int}{K:Int→Prop}(h:k.wrap x=y)(c:K y):aI k x K:=⟨by rw [h];exact c⟩
theorem IX.of {s:By}{K:ByteArray→Prop}(c:K ⟨s.toArray⟩):IX (s.map dW) K:=⟨⟨s,rfl,c⟩⟩
abbrev u8v (n:Nat):AV:= .v (.int .u8 (n:Int))
theorem kH (a b:By):oU ⟨a.toArray⟩ ⟨b.toArray⟩=decide (a=b):=by
 rw [UW]
 by_cases h:a=b
 ·subst h;simp
 ·rw [decide_eq_false h]
  refine decide_eq_false fun e=>h ?_
  injection e with e
  simpa using congrArg Array.toList e
end Go.Proofs.YtocckceefcmeaaaGreatDoor.Cl
namespace Go.Proofs.YtocckceefcmeaaaGreatDoor.Ax
open Go Go.RowKit Go.Proofs.YtocckceefcmeaaaGreatDoor.Vc
variable {P:Program}{G:Glob}
def Here (w:World)(b:Nat):Prop:=b<w.heap.size
def JB:Nat→Loc:=fun _=>⟨none,0,0,0⟩
theorem JC {f:FuncId}{args:List AV}{x:Value}(h:bD P G f args 0 [] (Is (.v x)))(w:World)(hG:G.holds w)(vs:List Value)(r:bJ 0 JB (Here w) w args vs):wQ P f vs.toArray w fun v w'=>v=x∧Below w.heap.size w w':=by
 have st:St G w (kQ w JB []) (Here w) 0 JB (Here w) [] w:=⟨hG,qE.refl _ _,fun b hb=>⟨hb, .inl hb⟩,(fun aT b h=>by cases h),(fun aT b g h=>by cases h),(fun aT qF b b' g h=>by cases h),(fun aT b h=>by cases h)⟩
 refine(h w JB (Here w) vs st r).mono fun v w' ⟨a,n',σ',F',H',⟨ha,_,_⟩,s,_,ra⟩=> ?_
 subst ha
 refine⟨ra.dH,s.gI.os,s.gI.tape,s.gI.output,s.gI.size,fun k hk=>s.gI.block k hk fun⟨_,_,hm,_⟩=>by cases hm⟩
theorem QF {α:Type}{c:α→List Value}{k:Nat}(hk : ∀a,(c a).length=k){l:List α}{i j:Nat}{a:α}{v:Value}(hi:l[i]? = some a)(hj:(c a)[j]? = some v):(recs c l)[i*k+j]? = some v:=by
 obtain⟨h,rfl⟩:=List.getElem?_eq_some_iff.1 hi
 exact Pv hk l i h j v hj
theorem NW {α:Type}{F:Nat→Prop}{w:World}{sz:Nat}{enc:α→List FV}{c:α→List Value}(he : ∀x,enc x=(c x).map .v)(hk : ∀a,(c a).length=sz)(h1 : ∀a, ∀v∈c a,v.oneCell'=true){l:List α}{oa:Option Addr}{cap:Nat}(hc:l.length≤cap)(hnil:oa=none→cap=0)(hr:Row w oa (recs c l))(hF : ∀b,b<w.heap.size→F b)(hz:0<sz) :
  dV F w (.lst sz (l.map enc)) (.slice oa l.length cap):=by
 have hlen : ∀row∈l.map enc,row.length=sz:=fun row hrow=>by
  obtain⟨a,_,rfl⟩:=List.mem_map.1 hrow
  rw [he,List.length_map,hk]
 rcases Nat.eq_zero_or_pos l.length with h0 | h0
 ·have hl:l = []:=List.eq_nil_of_length_eq_zero h0
  subst hl
  exact .lst sz [] oa 0 cap 0 0 rfl hc hnil (fun h=>absurd h (Nat.lt_irrefl 0)) (fun row hr=>by cases hr) (fun i j hi=>absurd hi (Nat.not_lt_zero i)) (fun i j row a v hi=>by simp at hi)
 ·rcases hr with hr | ⟨b,o,rfl,hb,hcell⟩
  ·have:=Fp hk l
   rw [hr,List.length_nil]at this
   have:=Nat.mul_pos h0 hz
   omega
  ·have row : ∀i j,i<l.length→j<sz→∃a v,l[i]? = some a∧(c a)[j]? = some v∧w.cell? ⟨b,o+(i*sz+j),none⟩=some v:=fun i j hi hj=>by
    have hjl:j<(c l[i]).length:=by rw [hk];exact hj
    exact⟨l[i],(c l[i])[j],List.getElem?_eq_getElem hi,List.getElem?_eq_getElem hjl,hcell _ _ (QF hk (List.getElem?_eq_getElem hi) (List.getElem?_eq_getElem hjl))⟩
   refine .lst sz (l.map enc) _ l.length cap b o (by rw [List.length_map]) hc hnil (fun _=>⟨rfl,hF b hb⟩) hlen (fun i j hi hj=> ?_) (fun i j rw_ a v hi hj hv=> ?_)
   ·obtain⟨a,v,_,h2,h3⟩:=row i j hi hj
    exact⟨v,h3,h1 a v (List.mem_of_getElem? h2)⟩
   ·rw [List.getElem?_map]at hi
    cases hl:l[i]? with
    | none=>rw [hl]at hi;cases hi
    | some x=>
     rw [hl]at hi
     simp only [Option.map_some,Option.some.injEq]at hi
     subst hi
     have hil:=(List.getElem?_eq_some_iff.1 hl).1
     have hjs:j<sz:=by have:=(List.getElem?_eq_some_iff.1 hj).1;rw [he,List.length_map,hk]at this;exact this
     obtain⟨a',v',h4,h5,h6⟩:=row i j hil hjs
     rw [hl]at h4
     injection h4 with h4
     subst h4
     rw [he,List.getElem?_map,h5]at hj
     simp only [Option.map_some,Option.some.injEq]at hj
     rw [h6]at hv
     injection hv with hv
     subst hv;subst hj
     exact .v _
section
open Go.Proofs
section
variable {P:Program}{G:Glob}
def en1 {α:Type}(enc:α→Value)(a:α):List FV:= [.v (enc a)]
theorem Wi {α:Type}{enc:α→Value}(h1 : ∀a,(enc a).oneCell'=true){F:Nat→Prop}{w:World} : ∀zs:List α,fU F w 1 (zs.map (en1 enc)) (zs.map enc):=by
 intro zs
 induction zs with
 | nil=>exact fU.nil 1
 | cons a r ih=>exact fU.cons (xs:=r.map enc) (vs:= [enc a]) (P8 [enc a]) rfl (by simp [h1]) ih
theorem GL {α:Type}(enc:α→Value) : ∀zs:List α,recs (fun a=> [enc a]) zs=zs.map enc:=by
 intro zs
 unfold recs
 induction zs with
 | nil=>rfl
 | cons a r ih=>simp only [List.map_cons,List.flatten_cons,ih];rfl
theorem qo {α:Type}[Inhabited α]{enc:α→Value}(h1 : ∀a,(enc a).oneCell'=true){f:FuncId}{T:TypeId}{zs zs':List α}{A:AV}{V:Nat→Nat→Value→Prop}(hne:zs≠ [])(hl:zs'.length=zs.length)
  (h : ∀w blk cap,Sort.Holds enc w blk 0 zs.toArray→blk<w.heap.size→zs.length≤cap→wQ P f #[.slice (some ⟨blk,0,none⟩) zs.length cap] w fun v w'=>V blk cap v∧∃q os,w'=Sort.grow (Sort.putRow enc (Sort.ahead w q) blk 0 zs'.toArray) os)
  (hv : ∀w (σ:Nat→Loc) F blk cap v,σ 0=⟨some blk,zs.length,cap,1⟩→zs.length≤cap→V blk cap v→aZ 1 σ F w A v) :
  bD P G f [.own 0] 1 [(0, .rows T 1 (zs.map (en1 enc)))] (fun a n H=>a=A∧n=1∧H = [(0, .rows T 1 (zs'.map (en1 enc)))]):=by
 intro w σ F vs st r
 have hpos:0<zs.length:=List.length_pos_iff.2 hne
 obtain⟨hsz,hn,xs,hown,hrep⟩:=st.blk 0 _ rfl
 rw [List.length_map]at hn hown
 have hxs:xs=zs.map enc:=by rw [←GL];exact NT (c:=fun a=> [enc a]) (fun _=>rfl) hrep
 rcases hown.2 with ⟨_,h0⟩ | ⟨g,cap,cur,hval,_,hb,hnc,hcm,hcs,htk⟩
 ·omega
 injection hval with e1 e2 e3
 have hLb:(σ 0).b=some g:=by
  unfold Loc.oa at e1
  cases hbb:(σ 0).b with
  | none=>rw [hbb]at e1;cases e1
  | some g'=>rw [hbb]at e1;injection e1 with e1;injection e1 with e1;rw [e1]
 have hσ:σ 0=⟨some g,zs.length,cap,1⟩:=by
  cases hs:σ 0 with
  | mk b n c sz=>rw [hs]at hLb hn e3 hsz;simp only at hLb hn e3 hsz;subst hLb;subst hn;subst e3;subst hsz;rfl
 obtain⟨v0,rfl,hv0⟩ : ∃v0,vs = [v0]∧v0 = .slice (some ⟨g,0,none⟩) zs.length cap:=by
  match vs,r with
  | [v0],r=>
   refine⟨v0,rfl, ?_⟩
   cases r.1 with
   | own _ hl=>rw [hσ];rfl
   | je _ oa hl hn0 hc=>rw [hσ]at hn0;simp only at hn0;omega
 subst hv0
 have hg:g<w.heap.size:=(Array.getElem?_eq_some_iff.1 hb).1
 have hsz2:zs.length≤cur.size:=by omega
 have hH:Sort.Holds enc w g 0 zs.toArray:=by
  intro j hj
  have hj':j<zs.length:=by simpa using hj
  refine⟨?_,by simp [World.frozen?,hb]⟩
  have h2:(cur.toList.take zs.length)[j]? = (zs.map enc)[j]? :=by rw [←hxs, ←htk,Nat.mul_one]
  rw [List.getElem?_take_of_lt hj']at h2
  simp only [World.cell?,hb,Nat.zero_add]
  simp only [Option.isSome_none,Bool.false_eq_true,if_false]
  rw [←Array.getElem?_toList,h2]
  simp [hj']
 have hmu:=st.mu 0 (.rows T 1 (zs.map (en1 enc))) g rfl rfl (.inl hLb)
 refine(h w g cap hH hg hnc).mono fun v w' ⟨hV,q,os,hw'⟩=> ?_
 have hheap:w'.heap[g]? = some (.cells (Sort.putCells enc 0 zs'.toArray cur) T (0,0)):=by
  rw [hw',Sort.heap_grow_old _ _ (by simpa using hg)]
  simp [Sort.putRow,Sort.mapBlock,Sort.ahead,Array.getElem?_modify,hb,Sort.onCells]
 have hother : ∀k,k<w.heap.size→k≠g→w'.heap[k]? = w.heap[k]? :=fun k hk hne=>by
  rw [hw',Sort.heap_grow_old _ _ (by simpa using hk)]
  have:g≠k:=fun e=>hne e.symm
  simp [Sort.putRow,Sort.mapBlock,Sort.ahead,Array.getElem?_modify,this]
 have hsize:w.heap.size≤w'.heap.size:=by rw [hw'];simp
 have htake:(Sort.putCells enc 0 zs'.toArray cur).toList.take zs'.length=zs'.map enc:=by
  apply List.ext_getElem?
  intro j
  by_cases hj:j<zs'.length
  ·rw [List.getElem?_take_of_lt hj,Array.getElem?_toList]
   simp [Sort.putCells,hj,show j<cur.size by omega]
  ·rw [List.getElem?_take_eq_none (by omega),List.getElem?_eq_none (by simp;omega)]
 have aek : ∀b,F b→b≠g:=fun b hb e=>hmu.1 (e▸hb)
 refine⟨A,1,σ,F,_,⟨rfl,rfl,rfl⟩,⟨?_, ?_, ?_, ?_, ?_, ?_, ?_⟩,⟨Nat.le_refl _,fun _ _=>rfl,fun b hb=>⟨hb,hother b (st.dL b hb).1 (aek b hb)⟩,hsize⟩,hv w' σ F g cap v hσ hnc hV⟩
 ·exact Glob.gI st.glob hsize fun b hb=>hother b (Nat.lt_of_lt_of_le hb st.glob.1) (by omega)
 ·refine⟨by rw [hw'];rfl,by rw [hw'];rfl,by rw [hw'];rfl,hsize,fun k hk hm=>hother k hk fun e=>hm ⟨0,_,rfl,rfl,by rw [e];exact .inl hLb⟩⟩
 ·exact fun b hb=>⟨Nat.lt_of_lt_of_le (st.dL b hb).1 hsize, .inl hb⟩
 ·intro k b hk
  simp only [look]at hk
  cases hb0:Nat.beq 0 k with
  | true=>have:=Nat.eq_of_beq_eq_true hb0;omega
  | false=>rw [hb0,cond_false]at hk;cases hk
 ·intro k b g' hk hm hg'
  simp only [look]at hk
  cases hb0:Nat.beq 0 k with
  | true=>
   have:=Nat.eq_of_beq_eq_true hb0
   subst this
   rw [hb0,cond_true]at hk
   injection hk with hk
   subst hk
   have hg':=hg'.flat rfl
   rw [hLb]at hg'
   injection hg' with hg'
   subst hg'
   exact⟨hmu.1,hmu.2.1,Nat.lt_of_lt_of_le hg hsize, .inl ⟨0,_,rfl,rfl, .inl hLb⟩⟩
  | false=>rw [hb0,cond_false]at hk;cases hk
 ·intro k k' b b' g' hk hk' _ _ _ _
  simp only [look]at hk hk'
  cases hb0:Nat.beq 0 k with
  | true=>
   cases hb1:Nat.beq 0 k' with
   | true=>rw [←Nat.eq_of_beq_eq_true hb0, ←Nat.eq_of_beq_eq_true hb1]
   | false=>rw [hb1,cond_false]at hk';cases hk'
  | false=>rw [hb0,cond_false]at hk;cases hk
 ·intro k b hk
  simp only [look]at hk
  cases hb0:Nat.beq 0 k with
  | true=>
   have:=Nat.eq_of_beq_eq_true hb0
   subst this
   rw [hb0,cond_true]at hk
   injection hk with hk
   subst hk
   refine⟨hsz,by rw [List.length_map,hl];exact hn,zs'.map enc,⟨by simp, .inr ⟨g,cap,_, ?_,Nat.zero_le _,hheap,by rw [List.length_map];omega,hcm,by simp [Sort.putCells,hcs], ?_⟩⟩,Wi h1 zs'⟩
   ·rw [hσ,List.length_map];rfl
   ·rw [List.length_map,Nat.mul_one];exact htake
  | false=>rw [hb0,cond_false]at hk;cases hk
end
end
end Go.Proofs.YtocckceefcmeaaaGreatDoor.Ax
namespace Go.Proofs.YtocckceefcmeaaaGreatDoor.Vc
open Go Go.RowKit Go.ChangeShapes Go.WideShapes Go.ChangeAt
section
variable {H:Type}{enc:TypeId×Value→H}{P:Program}{w:World}{t:TypeId}{cs:List Value}
def Wj (enc:TypeId×Value→H)(P:Program)(w:World)(t:TypeId)(cs:List Value)(d:DataW H):Prop:= ∃held fuel p,DataW.trod enc P w 0 (fun _=>true) held fuel t cs=some (d,p)
def Rd (enc:TypeId×Value→H)(P:Program)(w:World)(t:TypeId)(cs:List Value):Prop:= ∃d,Wj enc P w t cs d
theorem Wn {k:IntKind}{d:DataW H}(ht:P.underlying t=some (.int k))(h:Wj enc P w t cs d) : ∃n,cs = [.int k n]∧d = .lit (.int k n)∧(Lit.int k n).wf=true:=by
 obtain⟨held,fuel,p,hx⟩:=h
 obtain⟨n,h1,h2,h3⟩:=DataW.trod_int ht hx
 injection h2 with h2
 exact⟨n,h1,h2,h3⟩
theorem flat_get {α:Type}{sz:Nat} : ∀(css:List (List α)) (k:Nat) (v:α),(∀c∈css,c.length=sz)→css.flatten[k]? = some v→
  ∃i j c,j<sz∧k=i*sz+j∧css[i]? = some c∧c[j]? = some v:=by
 intro css
 induction css with
 | nil=>intro k v _ h;simp at h
 | cons c r ih=>
  intro k v hl h
  have hc:c.length=sz:=hl c (by simp)
  rw [List.flatten_cons,List.getElem?_append]at h
  split at h
  ·rename_i hk
   exact⟨0,k,c,by omega,by omega,by simp,h⟩
  ·rename_i hk
   obtain⟨i,j,c',hj,hk',hi,hv⟩:=ih _ v (fun c hc=>hl c (by simp [hc])) h
   refine⟨i+1,j,c',hj, ?_,by simpa using hi,hv⟩
   rw [Nat.add_mul]
   omega
theorem CU {a:Addr}{n:Nat}{cs:List Value}(h:w.cells? 0 a n=some cs):cs.length=n∧∀j v,cs[j]? = some v→w.cell? (a.add j)=some v:=by
 unfold World.cells? at h
 rw [if_pos (Nat.zero_le _)]at h
 refine⟨by rw [mapM_some_length h];simp,fun j v hj=> ?_⟩
 have hlt:j<n:=by
  have:=(List.getElem?_eq_some_iff.1 hj).1
  rw [mapM_some_length h]at this
  simpa using this
 have:=mapM_some_get h j j (by simp [hlt])
 rw [this,hj]
theorem NY {e:TypeId}{d:DataW H}(ht:P.underlying t=some (.slice e))(h:Wj enc P w t cs d) :
  ∃(oa:Option Addr) (len cap:Nat) (css:List (List Value)) (ds:List (DataW H)),cs = [.slice oa len cap]∧len≤cap∧cap≤maxLen∧(oa=none→cap=0)∧css.length=len∧Row w oa css.flatten∧
   (∀c∈css,c.length=P.cellsOf e∧Rd enc P w e c)∧ds.length=len∧((d = .nil∧len=0)∨∃rest,d = .slice ds rest)∧∀(i:Nat) (c:List Value) (d':DataW H),css[i]? = some c→ds[i]? = some d'→Wj enc P w e c d':=by
 obtain⟨held,fuel,pp,hx⟩:=h
 rcases DataW.trod_slice ht hx with ⟨h1,hd⟩ | ⟨a,len,cap,elems,rest,n,_,h1,hd,_,hlc,hcm,hlen,hel,_,_⟩
 ·injection hd with hd
  exact⟨none,0,0,[],[],h1,Nat.le_refl _,Nat.zero_le _,fun _=>rfl,rfl,Row.nil _ _,by simp,rfl, .inl ⟨hd,rfl⟩,fun i c d' h=>by simp at h⟩
 ·have each : ∀i,i<len→∃ci,w.cells? 0 (a.add (i*P.cellsOf e)) (P.cellsOf e)=some ci∧Rd enc P w e ci∧∀d',(elems.map (·.1))[i]? = some d'→Wj enc P w e ci d':=by
   intro i hi
   have h1:=hel i hi
   rw [List.getElem?_eq_getElem (by omega)]at h1
   obtain⟨ci,hc,ht⟩:=Option.bind_eq_some_iff.1 h1
   refine⟨ci,hc,⟨_,held,n,_,ht⟩,fun d' hd'=> ?_⟩
   rw [List.getElem?_map,List.getElem?_eq_getElem (by omega)]at hd'
   simp only [Option.map_some,Option.some.injEq]at hd'
   subst hd'
   exact⟨held,n,_,ht⟩
  obtain⟨css,hcl,Wp⟩ : ∃css:List (List Value),css.length=len∧∀(i:Nat) (c:List Value),css[i]? = some c→w.cells? 0 (a.add (i*P.cellsOf e)) (P.cellsOf e)=some c∧Rd enc P w e c∧∀d',(elems.map (·.1))[i]? = some d'→Wj enc P w e c d':=by
   refine⟨(List.range len).map fun i=>(w.cells? 0 (a.add (i*P.cellsOf e)) (P.cellsOf e)).getD [],by simp,fun i c hc=> ?_⟩
   have hlt:i<len:=by simpa using (List.getElem?_eq_some_iff.1 hc).1
   obtain⟨ci,h1,h2⟩:=each i hlt
   simp only [List.getElem?_map,List.getElem?_range hlt,Option.map_some,h1,Option.getD_some,Option.some.injEq]at hc
   subst hc
   exact⟨h1,h2⟩
  have hall : ∀c∈css,c.length=P.cellsOf e∧Rd enc P w e c:=by
   intro c hc
   obtain⟨i,hi⟩:=List.mem_iff_getElem?.1 hc
   exact⟨(CU (Wp i c hi).1).1,(Wp i c hi).2.1⟩
  refine⟨some a,len,cap,css,elems.map (·.1),h1,hlc,hcm,(fun e=>by cases e),hcl, ?_,hall,by simp [hlen], .inr ⟨rest.map (·.1),by injection hd⟩,fun i c d' h1 h2=>(Wp i c h1).2.2 d' h2⟩
  by_cases hne:css.flatten = []
  ·exact .inl hne
  ·right
   have cell : ∀k v,css.flatten[k]? = some v→∃i j,j<P.cellsOf e∧k=i*P.cellsOf e+j∧w.cell? ((a.add (i*P.cellsOf e)).add j)=some v:=by
    intro k v hk
    obtain⟨i,j,c,hj,hkk,hi,hv⟩:=flat_get css k v (fun c hc=>(hall c hc).1) hk
    exact⟨i,j,hj,hkk,(CU (Wp i c hi).1).2 j v hv⟩
   have hspot:a.spot=none:=by
    obtain⟨v,hv⟩ : ∃v,css.flatten[0]? = some v:=by
     cases hf:css.flatten with
     | nil=>exact absurd hf hne
     | cons v r=>exact⟨v,by simp⟩
    obtain⟨i,j,hj,hk,hc⟩:=cell 0 v hv
    have hj0:j=0:=by omega
    have hi0:i*P.cellsOf e=0:=by omega
    rw [hi0,hj0]at hc
    have:(a.add 0).add 0=a:=by simp [Addr.add]
    rw [this]at hc
    cases hs:a.spot with
    | none=>rfl
    | some s=>
     unfold World.cell? at hc
     split at hc<;>simp [hs]at hc
   obtain⟨b,o,s⟩:=a
   simp only at hspot
   subst hspot
   refine⟨b,o,rfl, ?_,fun k v hk=> ?_⟩
   ·obtain⟨v,hv⟩ : ∃v,css.flatten[0]? = some v:=by
     cases hf:css.flatten with
     | nil=>exact absurd hf hne
     | cons v r=>exact⟨v,by simp⟩
    obtain⟨i,j,_,_,hc⟩:=cell 0 v hv
    rw [add0,add0]at hc
    exact World.block_lt_of_cell? w _ hc
   ·obtain⟨i,j,_,hkk,hc⟩:=cell k v hk
    rw [add0,add0]at hc
    rw [hkk, ←Nat.add_assoc]
    exact hc
theorem BJ {W W':World}(hl:laidOutB P=true)(hb:Below W.heap.size W W') : ∀(ts:List TypeId) (vs:List Value) (ds:List (DataW H)) (ps:List MemPlace),
  (ts.all fun t=>P.readableRec t&&Nat.blt t P.types.size)=true→(∀x∈ps,x.block<W.heap.size)→DataW.TrodAll enc P W 0 (fun _=>true) true ts vs ds ps→
  DataW.TrodAll enc P W' 0 (fun b=>decide (b<W.heap.size)) true ts vs ds ps:=by
 intro ts
 induction ts with
 | nil=>intro vs ds ps _ _ h;cases vs<;>cases ds<;>simp_all [DataW.TrodAll]
 | cons t ts ih=>
  intro vs ds ps hrd hlt h
  obtain⟨v,vs',d,ds',p,q,rfl,rfl,rfl,h1,h2⟩:=trodAll_cons h
  simp only [List.all_cons,Bool.and_eq_true]at hrd
  refine⟨p,q,Below.trod hl hrd.1.1 (Nat.le_of_ble_eq_true hrd.1.2) h1 hb (fun x hx=>hlt x (by simp [hx])),ih _ _ _ hrd.2 (fun x hx=>hlt x (by simp [hx])) h2,rfl⟩
end
theorem QG {H:Type}{enc:TypeId×Value→H}{P:Program}{fn:Func}{s:ChangeSpec}{tb:TypeId}(hl:laidOutB P=true)
  (hrd:(fn.params.toList.all fun t=>P.readableRec t&&Nat.blt t P.types.size)=true) (hres:fn.resultTypes = #[tb]) (hb:P.underlying tb=some .bool) (hv:s.vars = [])
  (hfn : ∀ds:List (DataW H),ds.length=fn.params.size→s.fn H ds = {results:= [.lit (.bool true)],args:=ds})
  {W W':World} {args:Array Value} {ds gs:List (DataW H)} {before:List MemPlace} (hW:DataW.Whole enc P fn.params.toList s.vars false W args.toList ds gs before) (hB:Below W.heap.size W W') :
  s.post enc P fn false true false false W args (.bool true) W':=by
 have hlt : ∀x∈before,x.block<W.heap.size:=fun x hx=>hW.lt x hx
 have hW':=hW
 obtain⟨p,q,hA,hV,rfl,_,_⟩:=hW'
 rw [hv]at hV
 obtain⟨rfl,rfl⟩:=trodVars_none hV
 have hlen:ds.length=fn.params.size:=by
  have : ∀(ts:List TypeId) (vs:List Value) (ds:List (DataW H)) (ps:List MemPlace),DataW.TrodAll enc P W 0 (fun _=>true) true ts vs ds ps→ds.length=ts.length:=by
   intro ts
   induction ts with
   | nil=>intro vs ds ps h;cases vs<;>cases ds<;>simp_all [DataW.TrodAll]
   | cons t ts ih=>
    intro vs ds ps h
    obtain⟨v,vs',d,ds',p,q,rfl,rfl,rfl,_,h2⟩:=trodAll_cons h
    simp [ih _ _ _ h2]
  rw [this _ _ _ _ hA];simp
 have hspec:=hfn ds hlen
 refine⟨ds,[],p++ [],[],p,[],hW, ?_, ?_, ?_,World.keptBut_mono (fun x hx=>⟨hx, .inr (.inl (by simpa using hx))⟩) (hB.frame (· ∈p++ [])),(fun h=>by cases h)⟩
 ·rw [List.append_nil,hspec,hres]
  exact⟨[],[],⟨1,by unfold DataW.trod;simp [hb,Value.cells]⟩,rfl,rfl⟩
 ·rw [List.append_nil,hspec]
  exact BJ hl hB _ _ _ _ hrd (fun x hx=>hlt x (by simp [hx])) hA
 ·rw [List.append_nil,hspec,hv]
  rfl
end Go.Proofs.YtocckceefcmeaaaGreatDoor.Vc
namespace Go.Proofs.YtocckceefcmeaaaGreatDoor.Id
open Go Go.Proofs.YtocckceefcmeaaaGreatDoor.Vc
theorem Wq (a b:ByteArray):oU a b=true↔a=b:=by
 unfold oU
 rw [←MapKept.bytes_beq a b]
 have:(a==b)=(a.toList==b.toList):=by
  rw [Go.ByteArray.toList_eq,Go.ByteArray.toList_eq]
  obtain⟨⟨x⟩⟩:=a
  obtain⟨⟨y⟩⟩:=b
  show ((⟨x⟩:Array UInt8)==⟨y⟩)=(x==y)
  simp
 rw [this]
theorem Ws (a b:ByteArray):oU a b=decide (a=b):=by
 rw [Bool.eq_iff_iff,Wq];simp
theorem Wu (x y:ByteArray)(h:x≠y):(xH x y=y∧xG x y=x)∨(xH x y=x∧xG x y=y):=by
 have he:oU x y=false:=by rw [Ws];simpa using h
 unfold xH xG
 cases hl:E8 x y with
 | true=>left;simp
 | false=>right;simp [he]
structure Lk where
 a:ByteArray
 b:ByteArray
 t:Int
 deriving DecidableEq
def jn (f:ByteArray→ByteArray)(x y:ByteArray):ByteArray→ByteArray:=
 if f x=f y then f else fun z=>if f z=xH (f x) (f y)then xG (f x) (f y)else f z
def rtF (f:ByteArray→ByteArray):List Lk→ByteArray→ByteArray
 | []=>f
 | k::l=>rtF (jn f k.a k.b) l
def rt (l:List Lk):ByteArray→ByteArray:=rtF (fun z=>z) l
theorem acv {f:ByteArray→ByteArray}{x y:ByteArray}(h:f x≠f y):jn f x y=fun z=>if f z=xH (f x) (f y)then xG (f x) (f y)else f z:=if_neg h
structure Fo (F:ByteArray→Option ByteArray)(R:ByteArray→ByteArray)(d:ByteArray→Nat):Prop where
 top : ∀k,F k=none→R k=k
 step : ∀k k',F k=some k'→R k'=R k∧d k'<d k
theorem Fo.nil:Fo (fun _=>none) (fun z=>z) (fun _=>0):=⟨fun _ _=>rfl,fun k k' h=>by cases h⟩
theorem Fo.root {F:ByteArray→Option ByteArray}{R:ByteArray→ByteArray}{d:ByteArray→Nat}(h:Fo F R d) : ∀(n:Nat) (k:ByteArray),d k=n→F (R k)=none:=by
 intro n
 induction n using Nat.strongRecOn with
 | _ n ih=>
  intro k hk
  cases hF:F k with
  | none=>rw [h.top k hF];exact hF
  | some k'=>
   obtain⟨h1,h2⟩:=h.step k k' hF
   rw [←h1]
   exact ih (d k') (by omega) k' rfl
theorem Fo.rr {F:ByteArray→Option ByteArray}{R:ByteArray→ByteArray}{d:ByteArray→Nat}(h:Fo F R d)(k:ByteArray):R (R k)=R k:=h.top _ (h.root _ k rfl)
theorem Fo.join {F:ByteArray→Option ByteArray}{R:ByteArray→ByteArray}{d:ByteArray→Nat}(h:Fo F R d){x y:ByteArray}(hne:R x≠R y) :
  Fo (fun k=>if k=xH (R x) (R y)then some (xG (R x) (R y))else F k) (jn R x y) (fun k=>if R k=xH (R x) (R y)then d k+d (xG (R x) (R y))+1 else d k):=by
 rw [acv hne]
 obtain⟨m,hm⟩ : ∃m,m=xH (R x) (R y):=⟨_,rfl⟩
 obtain⟨n,hn⟩ : ∃n,n=xG (R x) (R y):=⟨_,rfl⟩
 rw [←hm, ←hn]
 have hmn:m≠n∧R m=m∧R n=n:=by
  rcases Wu (R x) (R y) hne with ⟨e1,e2⟩ | ⟨e1,e2⟩
  ·rw [hm,hn,e1,e2];exact⟨fun e=>hne e.symm,h.rr y,h.rr x⟩
  ·rw [hm,hn,e1,e2];exact⟨hne,h.rr x,h.rr y⟩
 obtain⟨h1,h2,h3⟩:=hmn
 refine⟨fun k hk=> ?_,fun k k' hk=> ?_⟩
 ·by_cases e:k=m
  ·rw [if_pos e]at hk;cases hk
  ·rw [if_neg e]at hk
   have:=h.top k hk
   show (if R k=m then n else R k)=k
   rw [this,if_neg e]
 ·show (if R k'=m then n else R k')=(if R k=m then n else R k)∧(if R k'=m then d k'+d n+1 else d k')<(if R k=m then d k+d n+1 else d k)
  by_cases e:k=m
  ·rw [if_pos e]at hk
   injection hk with hk
   subst hk;subst e
   rw [h2,h3,if_pos rfl,if_pos rfl,if_neg fun x=>h1 x.symm,if_neg fun x=>h1 x.symm]
   exact⟨rfl,by omega⟩
  ·rw [if_neg e]at hk
   obtain⟨a,b⟩:=h.step k k' hk
   rw [a]
   refine⟨rfl, ?_⟩
   split<;>omega
end Go.Proofs.YtocckceefcmeaaaGreatDoor.Id
namespace Go.Proofs.YtocckceefcmeaaaGreatDoor.Ky
open Go Go.RowKit Go.Proofs.YtocckceefcmeaaaGreatDoor.Vc Go.Proofs.YtocckceefcmeaaaGreatDoor.Id
attribute [local irreducible] loadVar storeVar Instr.indexAt Instr.index Instr.sliceAt Instr.makeSlice Instr.lookup Instr.mapUpdate Instr.range Instr.next Instr.entry Instr.makeMap Builtin.append_ Builtin.copy_ Builtin.len_ Builtin.min_ Builtin.max_ Builtin.cap_ Builtin.delete_ Builtin.clear_ convert binOp eqGuard Op.unary Calls
section
theorem mixed:Tryz.prog.follows .mixedOrders=true:=by kernel_rfl
def okB (i c:Nat):Bool:=(decide (97≤c)&&decide (c≤122))||(!decide (i=0)&&((decide (48≤c)&&decide (c≤57))||decide (c=45)||decide (c=95)))
theorem Ep (i c:Nat):okB i c=true↔(97≤c∧c≤122)∨(i≠0∧((48≤c∧c≤57)∨c=45∨c=95)):=by
 simp [okB,or_assoc]
theorem Es (i c:Nat):okB i c=false↔¬((97≤c∧c≤122)∨(i≠0∧((48≤c∧c≤57)∨c=45∨c=95))):=by
 rw [←Ep];simp
def jL:Nat→List UInt8→Bool
 | _,[]=>true
 | i,c::l=>okB i c.toNat&&jL (i+1) l
theorem zW (l:List UInt8)(i:Nat)(h:i<l.length):jL i (l.drop i)=(okB i l[i].toNat&&jL (i+1) (l.drop (i+1))):=by
 rw [List.drop_eq_getElem_cons h];rfl
theorem Eh (s:ByteArray)(w:World)(hs:s.size≤140737488355328) :
  wQ Tryz.prog 160 #[.string s] w fun v w'=>v = .bool (jL 0 (mQ s)&&decide (1≤s.size))∧w'=w:=by
 refine fE Tryz.func160 rfl mixed (by kernel_rfl) ?_
 have hl:=Dx s
 conv=>whnf
 refine lD (X:=Nat) Vw (fun i=> [(3, .int .i64 i)]) (fun i w'=>i≤s.size∧w'=w∧jL 0 (mQ s)=jL i ((mQ s).drop i)) (fun i=>s.size-i) 0 (by kernel_rfl)
  ?_ ⟨Nat.zero_le _,rfl,rfl⟩ ?_
 ·exact⟨rfl,trivial⟩
 rintro i w1 j ⟨hi,rfl,hp⟩
 conv=>whnf
 refine ah (fun hlt=> ?_) (fun hge=> ?_)
 ·have hlt:i<s.size:=by have:=of_decide_eq_true hlt;omega
  have hst:=zW (mQ s) i (by omega)
  have hc:(mQ s)[i]'(by omega)=s[i]:=by simp;rfl
  rw [hc]at hst
  have hcb:s[i].toNat<256:=s[i].toNat_lt
  obtain⟨c,hcc⟩ : ∃c,c=s[i].toNat:=⟨_,rfl⟩
  rw [hst]at hp
  rw [hp]
  have hno:=Es i c
  have hyes:=Ep i c
  rw [←hcc]at hcb ⊢ hp
  conv=>whnf
  refine vF i rfl rfl hlt ?_
  rw [←hcc]
  conv=>whnf
  clear hst hc hp
  have e0:okB i c=false→(okB i c&&jL (i+1) ((mQ s).drop (i+1))&&decide (1≤s.size))=false:=fun h=>by rw [h];rfl
  have e1:okB i c=true→(okB i c&&jL (i+1) ((mQ s).drop (i+1)))=jL (i+1) ((mQ s).drop (i+1)):=fun h=>by rw [h];rfl
  (repeat' (apply ah<;>intro h;all_goals (conv=>whnf)))
  all_goals first
   | exact kN.mk ⟨congrArg Value.bool (e0 (hno.2 (by(try simp only [cond_true,cond_false,Bool.not_eq_true',Bool.not_eq_false',decide_eq_true_eq,decide_eq_false_iff_not,beq_iff_eq,bne_iff_ne,beq_eq_false_iff_ne,bne_eq_false_iff_eq,ne_eq,Bool.not_eq_eq_eq_not,Bool.not_true,Bool.not_false,Bool.false_eq_true,Bool.true_eq_false]at *)<;>omega))).symm,rfl⟩
   | exact kM.mk ⟨_,(show s.size -(i+1)<s.size-i by omega),i+1,rfl,⟨jJ (incr (by omega)),trivial⟩,hlt,rfl,e1 (hyes.2 (by(try simp only [cond_true,cond_false,Bool.not_eq_true',Bool.not_eq_false',decide_eq_true_eq,decide_eq_false_iff_not,beq_iff_eq,bne_iff_ne,beq_eq_false_iff_ne,bne_eq_false_iff_eq,ne_eq,Bool.not_eq_eq_eq_not,Bool.not_true,Bool.not_false,Bool.false_eq_true,Bool.true_eq_false]at *)<;>omega))⟩
 ·have hge : ¬i<s.size:=by have:=of_decide_eq_false hge;omega
  obtain rfl:i=s.size:=by omega
  rw [List.drop_of_length_le (by omega)]at hp
  have hp2:jL 0 (mQ s)=true:=hp
  rw [hp2]
  conv=>whnf
  exact kN.mk ⟨by show Value.bool _=_;simp;omega,rfl⟩
def resv:List ByteArray:= [⟨#[97,110,100]⟩,⟨#[97,114,109,115]⟩,⟨#[97,116,116,114,105,98,117,116,101]⟩,⟨#[98,111,111,108]⟩,⟨#[99,108,97,105,109,115]⟩,⟨#[99,111,110,116,97,105,110,115]⟩,⟨#[99,111,111,108]⟩,⟨#[99,111,111,108,105,110,103]⟩,⟨#[100,101,102,97,117,108,116]⟩,⟨#[100,114,97,102,116]⟩,⟨#[101,110,100,115]⟩,⟨#[101,120,99,108,117,100,101]⟩,⟨#[101,120,105,115,116,115]⟩,⟨#[101,120,112,101,114,105,109,101,110,116]⟩,⟨#[102,97,108,115,101]⟩,⟨#[102,108,97,103]⟩,⟨#[104,111,108,100,111,117,116]⟩,⟨#[105,110]⟩,⟨#[105,110,99,108,117,100,101]⟩,⟨#[105,115]⟩,⟨#[108,97,121,101,114]⟩,⟨#[108,105,115,116]⟩,⟨#[109,101,109,98,101,114]⟩,⟨#[110,101,101,100,115]⟩,⟨#[110,111,116]⟩,⟨#[110,117,109,98,101,114]⟩,⟨#[111,102,102]⟩,⟨#[111,110]⟩,⟨#[111,114]⟩,⟨#[114,117,108,101]⟩,⟨#[114,117,110,110,105,110,103]⟩,⟨#[115,97,108,116]⟩,⟨#[115,101,103,109,101,110,116]⟩,⟨#[115,101,114,118,101]⟩,⟨#[115,101,116,116,105,110,103,115]⟩,⟨#[115,112,108,105,116]⟩,⟨#[115,116,97,114,116,115]⟩,⟨#[115,116,111,112,112,101,100]⟩,⟨#[116,97,114,103,101,116]⟩,⟨#[116,101,120,116]⟩,⟨#[116,111]⟩,⟨#[116,114,117,101]⟩,⟨#[117,110,116,105,108]⟩,⟨#[118,97,114,105,97,116,105,111,110,115]⟩,⟨#[118,101,114,115,105,111,110]⟩,⟨#[119,104,101,110]⟩]
def zX (s:ByteArray):Bool:=decide (1≤s.size)&&decide (s.size≤32)&&jL 0 (mQ s)&& !(resv.any fun r=>oU r s)
theorem QH (l:List ByteArray)(f:ByteArray→Bool)(i:Nat)(h:i<l.length):(l.drop i).any f=(f l[i]||(l.drop (i+1)).any f):=by
 rw [List.drop_eq_getElem_cons h];rfl
def nN (l:List ByteArray):List Value:=l.map .string
theorem NZ {l:List ByteArray}{j:Nat}(h:j<l.length):(nN l)[j]? = some (.string l[j]):=by simp [nN,h]
theorem zY:resv.length=46:=rfl
attribute [local irreducible] resv
end
section
def Bl (c:Nat):Int:=if(9≤c∧c≤13)∨c=32 then 1 else 0
def Asc (w:World):Prop:=0<w.heap.size∧∀c,c<256→w.cell? ⟨0,c,none⟩=some (.int .u8 (Bl c))
theorem Asc.below {w w':World}(h:Asc w)(hB:Below w.heap.size w w'):Asc w':=⟨Nat.lt_of_lt_of_le h.1 hB.size,fun c hc=>by rw [hB.cell (p:=⟨0,c,none⟩) h.1];exact h.2 c hc⟩
theorem Wv {P:Program}{w:World}{K:Value→World→Prop}{k:IntKind}{n:Int}(c:K (.int k (bn .xor k (if k.signed then -1 else k.max) n)) w):bQ P (Op.unary .xor (.int k n)) w K:=by
 refine dZ ?_ c
 simp [Op.unary,Op.intBits,bn]
theorem GN {P:Program}{w:World}{K:Value→World→Prop}{t:TypeId}{s:ByteArray}{kl:IntKind}{lo:Int}(a:Nat)(ha:lo=a)(hu:P.underlying t=some .string)(h:a≤s.size)
  (c:K (.string (s.extract a s.size)) w):bQ P (Instr.sliceAt t (.string s) (some (.int kl lo)) none none) w K:=by
 refine dZ ?_ c
 subst ha
 unfold Instr.sliceAt
 rw [Sem.run_bind,aO hu]
 simp only [Result.andThen_ok]
 unfold Instr.slice
 rw [Sem.run_bind,aO hu]
 have h1:(0:Int)≤a∧(a:Int)≤s.size:=⟨by omega,by omega⟩
 simp [Instr.sliceBounds,Instr.sliceBound,asIntOf,h1,h]
theorem yh {P:Program}{w:World}{K:Value→World→Prop}{t e:TypeId}{n b:Nat}{k:IntKind}{ix:Int}(m:Nat)(hm:ix=m)(hu:P.underlying t=some (.array n e))(hs:szB P e=some 1)(h:m<n)
  (hk:K (.pointer (some ⟨b,m,none⟩)) w):bQ P (Instr.indexAt t (.pointer (some ⟨b,0,none⟩)) (.int k ix)) w K:=
 xQ m hu hs hm h (by rw [Nat.zero_add];exact hk)
def c1 (l:List UInt8):Nat→Int×Int×Int
 | 0=>(0,1,0)
 | i+1=>(IntKind.i64.wrap ((c1 l i).1+bn .and .i64 (c1 l i).2.1 (bn .xor .i64 (-1) (IntKind.i64.wrap (Bl (l.getD i 0).toNat)))),IntKind.i64.wrap (Bl (l.getD i 0).toNat),bn .or .u8 (c1 l i).2.2 ((l.getD i 0).toNat:Nat))
theorem Wx (l:List UInt8)(i:Nat):c1 l (i+1)=(IntKind.i64.wrap ((c1 l i).1+bn .and .i64 (c1 l i).2.1 (bn .xor .i64 (-1) (IntKind.i64.wrap (Bl (l.getD i 0).toNat)))),IntKind.i64.wrap (Bl (l.getD i 0).toNat),bn .or .u8 (c1 l i).2.2 ((l.getD i 0).toNat:Nat)):=rfl
def wl (s:ByteArray):Nat→List ByteArray×Nat
 | 0=>([],0)
 | i+1=>if Bl ((mQ s).getD i 0).toNat=0 then wl s i else((wl s i).1++ [s.extract (wl s i).2 i],i+1)
theorem yj (s:ByteArray)(i:Nat):wl s (i+1)=if Bl ((mQ s).getD i 0).toNat=0 then wl s i else((wl s i).1++ [s.extract (wl s i).2 i],i+1):=rfl
theorem acw (s:ByteArray)(i:Nat):(wl s i).2≤i:=by
 induction i with
 | zero=>exact Nat.le_refl _
 | succ i ih=>rw [yj];split;exact Nat.le_succ_of_le ih;exact Nat.le_refl _
theorem Wy (s:ByteArray)(i:Nat) : ∀d,(wl s i).1.length≤(wl s (i+d)).1.length:=by
 intro d
 induction d with
 | zero=>exact Nat.le_refl _
 | succ d ih=>rw [←Nat.add_assoc,yj];split;exact ih;simp only [List.length_append,List.length_cons,List.length_nil];omega
structure acy (s:ByteArray):Prop where
 size:s.size≤1000000
 first:0<s.size→Bl ((mQ s).getD 0 0).toNat=0
 next : ∀i,i<s.size→Bl ((mQ s).getD i 0).toNat≠0→i+1<s.size∧Bl ((mQ s).getD (i+1) 0).toNat=0
 plain : ¬(c1 (mQ s) s.size).2.2≥128
 count:(c1 (mQ s) s.size).1=((wl s s.size).1.length+1:Nat)
 some:0<s.size
 ends:(wl s s.size).2<s.size
theorem aai (c:Nat):Bl c=0∨Bl c=1:=by unfold Bl;split;exact .inr rfl;exact .inl rfl
attribute [local irreducible] c1 wl Bl
theorem N7 (s:ByteArray)(w:World)(hs:acy s)(hA:Asc w) :
  wQ Tryz.prog 142 #[.string s] w fun v w'=> ∃b,v = .slice (some ⟨b,0,none⟩) ((wl s s.size).1.length+1) ((wl s s.size).1.length+1)∧At w' b 0 (nN ((wl s s.size).1++ [s.extract (wl s s.size).2 s.size]))∧b<w'.heap.size∧Below w.heap.size w w':=by
 refine fE Tryz.func142 rfl mixed (by kernel_rfl) ?_
 have hl:=Dx s
 have hsz:=hs.size
 have hby : ∀i (h:i<s.size),(mQ s).getD i 0=s[i]:=fun i h=>by
  rw [List.getD_eq_getElem?_getD,List.getElem?_eq_getElem (by rw [hl];exact h)];simp;rfl
 conv=>whnf
 refine lD (X:=Nat) Vq (fun i=> [(6, .int .i64 i),(3, .int .i64 (c1 (mQ s) i).1),(4, .int .i64 (c1 (mQ s) i).2.1),(5, .int .u8 (c1 (mQ s) i).2.2)]) (fun i w'=>i≤s.size∧w'=w) (fun i=>s.size-i) 0 (by kernel_rfl)
  ?_ ⟨Nat.zero_le _,rfl⟩ ?_
 ·exact⟨rfl,by unfold c1;rfl,by unfold c1;rfl,by unfold c1;rfl,trivial⟩
 rintro i w1 j ⟨hi,rfl⟩
 conv=>whnf
 refine ah (fun hlt=> ?_) (fun hge=> ?_)
 ·have hlt:i<s.size:=by have:=of_decide_eq_true hlt;omega
  have hcb:s[i].toNat<256:=s[i].toNat_lt
  have hcell:=hA.2 s[i].toNat hcb
  have hsc:=Wx (mQ s) i
  rw [hby i hlt]at hsc
  conv=>whnf
  refine vF i rfl rfl hlt ?_
  conv=>whnf
  refine yh s[i].toNat rfl rfl rfl hcb ?_
  conv=>whnf
  refine eP rfl hcell ?_
  conv=>whnf
  refine Wv ?_
  conv=>whnf
  refine kM.mk ⟨_, ?_,(i+1),rfl, ?_, ?_⟩
  ·show s.size -(i+1)<s.size-i;omega
  ·exact⟨jJ (incr (by omega)),jJ (by rw [hsc];rfl),jJ (by rw [hsc]),jJ (by rw [hsc]),trivial⟩
  ·exact⟨hlt,rfl⟩
 have hge : ¬i<s.size:=by have:=of_decide_eq_false hge;omega
 obtain rfl:i=s.size:=by omega
 have hpl:=hs.plain
 have hcn:=hs.count
 conv=>whnf
 refine pV (by simpa using hpl) ?_
 rw [hcn]
 have hW:(wl s s.size).1.length≤s.size:=by
  have : ∀i,(wl s i).1.length≤i:=fun i=>by
   induction i with
   | zero=>unfold wl;exact Nat.le_refl _
   | succ i ih=>rw [yj];split;exact Nat.le_succ_of_le ih;simp only [List.length_append,List.length_cons,List.length_nil];omega
  exact this _
 obtain⟨N,hN⟩ : ∃N,N=(wl s s.size).1.length+1:=⟨_,rfl⟩
 rw [←hN]
 conv=>whnf
 refine Uz (n:=N) (iQ:=16) (sz:=1) (zs:= [.string ⟨#[]⟩]) rfl rfl rfl rfl rfl rfl rfl rfl (by omega) (by unfold maxLen;omega) ?_
 intro w2 hw2 hb2
 rw [UA]at hb2
 have hB2:Below w1.heap.size w1 w2:=by rw [hw2];exact lG (Below.refl _ _) (Nat.le_refl _) _
 clear hw2
 conv=>whnf
 have hAs : ∀w',Below w1.heap.size w1 w'→∀c,c<256→w'.cell? ⟨0,c,none⟩=some (.int .u8 (Bl c)):=fun w' hB c hc=>(hA.below hB).2 c hc
 have h0s:=hs.some
 have h0:=hs.first h0s
 rw [hby 0 h0s]at h0
 refine lD (X:=Unit) Vr (fun _=> [(12, .int .i64 ((0:Nat):Int))]) (fun _ w'=>w'=w2) (fun _=>0) () (by kernel_rfl) ?_ rfl ?_
 ·exact⟨rfl,trivial⟩
 rintro _ w3 j3 rfl
 conv=>whnf
 refine yO (by simpa using h0s) ?_
 conv=>whnf
 refine vF 0 rfl rfl h0s ?_
 conv=>whnf
 refine yh s[0].toNat rfl rfl rfl s[0].toNat_lt ?_
 conv=>whnf
 refine eP rfl (hAs _ hB2 _ s[0].toNat_lt) ?_
 rw [h0]
 conv=>whnf
 refine lD (X:=Nat×List Value) Vs (fun x=> [(12, .int .i64 x.1),(10, .int .i64 ((wl s x.1).1.length:Nat)),(11, .int .i64 ((wl s x.1).2:Nat))]) (fun x w'=>x.1≤s.size∧Below w1.heap.size w1 w'∧jC w' w1.heap.size x.2 9∧x.2.length=N∧∃t,x.2=nN (wl s x.1).1++t) (fun x=>s.size-x.1) (0,List.replicate N (.string ⟨#[]⟩)) (by kernel_rfl)
  ?_ ⟨Nat.zero_le _,hB2,hb2,by simp,_,by unfold wl;rfl⟩ ?_
 ·exact⟨rfl,by unfold wl;rfl,by unfold wl;rfl,trivial⟩
 clear hb2 hB2
 rintro⟨i,cs⟩ w4 j4 ⟨hi,hB4,hb4,hcl,t,hct⟩
 simp only at hi hb4 hcl hct ⊢
 have hws:=yj s i
 have hle:=acw s i
 conv=>whnf
 refine ah (fun hlt=> ?_) (fun hge=> ?_)
 ·have hlt:i<s.size:=by have:=of_decide_eq_true hlt;omega
  rw [hby i hlt]at hws
  have hcb:s[i].toNat<256:=s[i].toNat_lt
  conv=>whnf
  refine vF i rfl rfl hlt ?_
  conv=>whnf
  refine yh s[i].toNat rfl rfl rfl hcb ?_
  conv=>whnf
  refine eP rfl (hAs _ hB4 _ hcb) ?_
  conv=>whnf
  rcases aai s[i].toNat with h1 | h1
  ·rw [h1]
   rw [if_pos h1]at hws
   conv=>whnf
   refine kM.mk ⟨_, ?_,(i+1,cs),rfl, ?_, ?_⟩
   ·show s.size -(i+1)<s.size-i;omega
   ·exact⟨jJ (incr (by omega)),by show _=Value.int .i64 ((wl s (i+1)).1.length:Nat);rw [hws];rfl,by show _=Value.int .i64 ((wl s (i+1)).2:Nat);rw [hws];rfl,trivial⟩
   ·exact⟨hlt,hB4,hb4,hcl,t,by rw [hws];exact hct⟩
  ·rw [h1]
   rw [if_neg (by rw [h1];decide)]at hws
   obtain⟨hn1,hn2⟩:=hs.next i hlt (by rw [hby i hlt,h1];decide)
   rw [hby (i+1) hn1]at hn2
   have hm:=Wy s (i+1) (s.size -(i+1))
   rw [show i+1+(s.size -(i+1))=s.size by omega,hws]at hm
   simp only [List.length_append,List.length_cons,List.length_nil]at hm
   obtain⟨m,hmm⟩ : ∃m,m=(wl s i).1.length:=⟨_,rfl⟩
   rw [←hmm]at hm ⊢
   have hmN:m<N:=by omega
   conv=>whnf
   refine Nw (wl s i).2 i rfl rfl rfl hle (by omega) ?_
   conv=>whnf
   refine Dw m rfl rfl rfl hmN ?_
   conv=>whnf
   refine uZ hb4 rfl rfl (by rw [hcl];omega) ?_
   intro w5 hO5 hb5
   rw [Nat.zero_add]at hb5
   have hB5:=hB4.trans (hO5.below (Nat.le_refl _))
   have hset : ∃t',cs.set m (.string (s.extract (wl s i).2 i))=nN (wl s (i+1)).1++t':=by
    rw [hct,hws]
    have hml:(nN (wl s i).1).length=m:=by rw [hmm];simp [nN]
    rw [List.set_append_right _ _ (by omega),hml,Nat.sub_self]
    cases t with
    | nil=>rw [hct,List.append_nil,hml]at hcl;omega
    | cons v t=>exact⟨t,by simp [nN]⟩
   clear hb4 hO5
   conv=>whnf
   have e1:IntKind.i64.wrap ((i:Int)+1)=((i+1:Nat):Int):=incr (by omega)
   have e2:IntKind.i64.wrap ((m:Int)+1)=((m+1:Nat):Int):=incr (by omega)
   refine lD (X:=Unit) Vt (fun _=> [(12, .int .i64 ((i+1:Nat):Int))]) (fun _ w'=>w'=w5) (fun _=>0) () (by kernel_rfl) ?_ rfl ?_
   ·exact⟨jJ e1,trivial⟩
   rintro _ w6 j6 rfl
   conv=>whnf
   refine yO (by simp only [decide_eq_true_eq];omega) ?_
   conv=>whnf
   refine vF (i+1) rfl rfl hn1 ?_
   conv=>whnf
   refine yh s[i+1].toNat rfl rfl rfl s[i+1].toNat_lt ?_
   conv=>whnf
   refine eP rfl (hAs _ hB5 _ s[i+1].toNat_lt) ?_
   rw [hn2]
   conv=>whnf
   obtain⟨t',ht'⟩:=hset
   refine kM.mk ⟨_, ?_,(i+1,cs.set m (.string (s.extract (wl s i).2 i))),rfl, ?_, ?_⟩
   ·show s.size -(i+1)<s.size-i;omega
   ·refine⟨rfl, ?_, ?_,trivial⟩
    ·show Value.int .i64 (IntKind.i64.wrap ((m:Int)+1))=Value.int .i64 ((wl s (i+1)).1.length:Nat)
     rw [e2,hws,List.length_append, ←hmm];rfl
    ·show _=Value.int .i64 ((wl s (i+1)).2:Nat)
     rw [hws];rfl
   ·exact⟨hlt,hB5,hb5,by show (cs.set m _).length=N;rw [List.length_set];exact hcl,t',ht'⟩
 have hge : ¬i<s.size:=by have:=of_decide_eq_false hge;omega
 obtain rfl:i=s.size:=by omega
 have hend:=hs.ends
 obtain⟨m,hmm⟩ : ∃m,m=(wl s s.size).1.length:=⟨_,rfl⟩
 rw [←hmm]
 have hmN:m<N:=by omega
 conv=>whnf
 refine yO (by simp only [decide_eq_true_eq];omega) ?_
 conv=>whnf
 refine GN (wl s s.size).2 rfl rfl hle ?_
 conv=>whnf
 refine Dw m rfl rfl rfl hmN ?_
 conv=>whnf
 refine uZ hb4 rfl rfl (by rw [hcl];omega) ?_
 intro w5 hO5 hb5
 rw [Nat.zero_add]at hb5
 have hfin:cs.set m (.string (s.extract (wl s s.size).2 s.size))=nN ((wl s s.size).1++ [s.extract (wl s s.size).2 s.size]):=by
  have hml:(nN (wl s s.size).1).length=m:=by rw [hmm];simp [nN]
  rw [hct]at hcl ⊢
  rw [List.set_append_right _ _ (by omega),hml,Nat.sub_self]
  rw [List.length_append,hml]at hcl
  match t,hcl with
  | [v],_=>simp [nN]
  | [],h=>simp at h;omega
  | _::_::_,h=>simp at h;omega
 rw [hfin]at hb5
 conv=>whnf
 exact kN.mk ⟨w1.heap.size,by rw [hN];rfl,hb5.at,hb5.lt,hB4.trans (hO5.below (Nat.le_refl _))⟩
end
section
def okW (s:ByteArray):Bool:=
 decide (s.size≤1000000)&&decide (0<s.size)&&decide (Bl ((mQ s).getD 0 0).toNat=0)&&
 ((List.range s.size).all fun i=>decide (Bl ((mQ s).getD i 0).toNat=0)||(decide (i+1<s.size)&&decide (Bl ((mQ s).getD (i+1) 0).toNat=0)))&&
 decide (¬(c1 (mQ s) s.size).2.2≥128)&&decide ((c1 (mQ s) s.size).1=((wl s s.size).1.length+1:Nat))&&decide ((wl s s.size).2<s.size)&&
 (((wl s s.size).1++ [s.extract (wl s s.size).2 s.size]).map mQ==resv.map mQ)
theorem WA {a b:ByteArray}(h:mQ a=mQ b):a=b:=by
 obtain⟨⟨x⟩⟩:=a
 obtain⟨⟨y⟩⟩:=b
 have:x=y:=h
 rw [this]
theorem GR : ∀(l m:List ByteArray),l.map mQ=m.map mQ→l=m:=by
 intro l
 induction l with
 | nil=>intro m h;cases m with
  | nil=>rfl
  | cons _ _=>simp at h
 | cons a l ih=>intro m h;cases m with
  | nil=>simp at h
  | cons b m=>
   rw [List.map_cons,List.map_cons]at h
   injection h with h1 h2
   rw [WA h1,ih m h2]
theorem QI {s:ByteArray}(h:okW s=true):acy s∧(wl s s.size).1++ [s.extract (wl s s.size).2 s.size]=resv:=by
 unfold okW at h
 simp only [Bool.and_eq_true,decide_eq_true_eq]at h
 obtain⟨⟨⟨⟨⟨⟨⟨h1,h2⟩,h3⟩,h4⟩,h5⟩,h6⟩,h7⟩,h8⟩:=h
 refine⟨⟨h1,fun _=>h3,fun i hi hne=> ?_,h5,h6,h2,h7⟩,GR _ _ (by simpa using h8)⟩
 have:=List.all_eq_true.1 h4 i (by simpa using hi)
 simp only [Bool.or_eq_true,Bool.and_eq_true,decide_eq_true_eq]at this
 rcases this with h | h
 ·exact absurd h hne
 ·exact h
theorem GU (s:ByteArray)(w:World)(hs:okW s=true)(hA:Asc w) :
  wQ Tryz.prog 142 #[.string s] w fun v w'=> ∃b,v = .slice (some ⟨b,0,none⟩) 46 46∧At w' b 0 (nN resv)∧b<w'.heap.size∧Below w.heap.size w w':=by
 obtain⟨hn,hr⟩:=QI hs
 refine(N7 s w hn hA).mono ?_
 rintro _ w' ⟨b,rfl,hat,hb⟩
 have hl:(wl s s.size).1.length+1=46:=by
  have:=congrArg List.length hr
  rw [zY]at this
  simpa using this
 rw [hr]at hat
 exact⟨b,by rw [hl],hat,hb⟩
attribute [local irreducible] resv okW
theorem WB (s:ByteArray)(w:World)(hA:Asc w)(hs:s.size≤140737488355328) :
  wQ Tryz.prog 118 #[.string s] w fun v w'=>v = .bool (zX s)∧Below w.heap.size w w':=by
 refine fE Tryz.func118 rfl mixed (by kernel_rfl) ?_
 have hk:zX s=(decide (1≤s.size)&&decide (s.size≤32)&&jL 0 (mQ s)&& !(resv.any fun r=>oU r s)):=rfl
 obtain⟨kb,hkb⟩ : ∃b,b=zX s:=⟨_,rfl⟩
 rw [←hkb]at hk ⊢
 have hl:=Dx s
 conv=>whnf
 refine ah (fun h1=> ?_) (fun h1=> ?_)
 ·have h1 : ¬1≤s.size:=by have:(s.size:Int)<1:=of_decide_eq_true h1;omega
  have:kb=false:=by rw [hk];simp [h1]
  subst this
  conv=>whnf
  exact kN.mk ⟨rfl,Below.refl _ _⟩
 have h1:1≤s.size:=by have : ¬(s.size:Int)<1:=of_decide_eq_false h1;omega
 conv=>whnf
 refine ah (fun h2=> ?_) (fun h2=> ?_)
 ·have h2 : ¬s.size≤32:=by have:(s.size:Int)>32:=of_decide_eq_true h2;omega
  have:kb=false:=by rw [hk];simp [h2]
  subst this
  conv=>whnf
  exact kN.mk ⟨rfl,Below.refl _ _⟩
 have h2:s.size≤32:=by have : ¬(s.size:Int)>32:=of_decide_eq_false h2;omega
 have hk2:kb=(jL 0 (mQ s)&& !(resv.any fun r=>oU r s)):=by rw [hk];simp [h1,h2]
 clear hk
 conv=>whnf
 refine Ny rfl ?_
 intro w1 hB1 hI1
 conv=>whnf
 refine lD (X:=Nat) Vd (fun _=> []) (fun i w'=>i≤s.size∧Below w.heap.size w w'∧Uj w' w.heap.size s i∧jL 0 (mQ s)=jL i ((mQ s).drop i)) (fun i=>s.size-i) 0 (by kernel_rfl)
  ?_ ⟨Nat.zero_le _,hB1,hI1,rfl⟩ ?_
 ·exact trivial
 rintro i w2 j ⟨hi,hB2,hI2,hp⟩
 clear hI1 hB1
 conv=>whnf
 by_cases hlt:i<s.size
 ·have hst:=zW (mQ s) i (by omega)
  have hc:(mQ s)[i]'(by omega)=s[i]:=by simp;rfl
  rw [hc]at hst
  have hcb:s[i].toNat<256:=s[i].toNat_lt
  rw [hst]at hp
  refine UE hI2 hlt (fun hpl w3 hO3 hI3=> ?_) (fun hnp w3 c q hO3 _ hc2=> ?_)
  ·obtain⟨c,hcc⟩ : ∃c,c=s[i].toNat:=⟨_,rfl⟩
   have hno:=Es i c
   have hyes:=Ep i c
   rw [←hcc]at hp hpl ⊢
   have hB3:=hB2.trans (hO3.below (Nat.le_refl _))
   have e0:okB i c=false→kb=false:=fun h=>by rw [hk2,hp,h];rfl
   have e1:okB i c=true→jL 0 (mQ s)=jL (i+1) ((mQ s).drop (i+1)):=fun h=>by rw [hp,h];rfl
   clear hst hc hcb hI2 hO3 hp
   conv=>whnf
   (repeat' (apply ah<;>intro h;all_goals (conv=>whnf)))
   all_goals first
    | exact kN.mk ⟨congrArg Value.bool (e0 (hno.2 (by(try simp only [cond_true,cond_false,Bool.not_eq_true',Bool.not_eq_false',decide_eq_true_eq,decide_eq_false_iff_not,beq_iff_eq,bne_iff_ne,beq_eq_false_iff_ne,bne_eq_false_iff_eq,ne_eq,Bool.not_eq_eq_eq_not,Bool.not_true,Bool.not_false,Bool.false_eq_true,Bool.true_eq_false]at *)<;>omega))).symm,hB3⟩
    | exact kM.mk ⟨_,(show s.size -(i+1)<s.size-i by omega),i+1,rfl,trivial,hlt,hB3,hI3,e1 (hyes.2 (by(try simp only [cond_true,cond_false,Bool.not_eq_true',Bool.not_eq_false',decide_eq_true_eq,decide_eq_false_iff_not,beq_iff_eq,bne_iff_ne,beq_eq_false_iff_ne,bne_eq_false_iff_eq,ne_eq,Bool.not_eq_eq_eq_not,Bool.not_true,Bool.not_false,Bool.false_eq_true,Bool.true_eq_false]at *)<;>omega))⟩
  ·have hB3:=hB2.trans (hO3.below (Nat.le_refl _))
   have e0:kb=false:=by
    have:okB i s[i].toNat=false:=(Es i _).2 (by omega)
    rw [hk2,hp,this];rfl
   clear hst hc hcb hI2 hO3 hp
   subst e0
   conv=>whnf
   (repeat' (apply ah<;>intro h;all_goals (conv=>whnf)))
   all_goals first
    | exact kN.mk ⟨rfl,hB3⟩
    | (exfalso;clear hk2;exact(by(try simp only [cond_true,cond_false,Bool.not_eq_true',Bool.not_eq_false',decide_eq_true_eq,decide_eq_false_iff_not,beq_iff_eq,bne_iff_ne,beq_eq_false_iff_ne,bne_eq_false_iff_eq,ne_eq,Bool.not_eq_eq_eq_not,Bool.not_true,Bool.not_false,Bool.false_eq_true,Bool.true_eq_false]at *)<;>omega))
 ·obtain rfl:i=s.size:=by omega
  rw [List.drop_of_length_le (by omega)]at hp
  have hp2:jL 0 (mQ s)=true:=hp
  have hk3:kb = !(resv.any fun r=>oU r s):=by rw [hk2,hp2];rfl
  refine IV hI2 (Nat.le_refl _) ?_
  conv=>whnf
  refine lF (by kernel_rfl) (GU _ w2 (by kernel_rfl) (hA.below hB2)) ?_
  rintro _ w3 ⟨b,rfl,hA3,hb3,hB3⟩
  have acz:=hB2.trans (hB3.mono hB2.size)
  clear hB3 hI2 hk2
  conv=>whnf
  refine lD (X:=Nat) Ve (fun i=> [(52, .int .i64 i)]) (fun i w'=>i≤46∧w'=w3∧(resv.any fun r=>oU r s)=(resv.drop i).any fun r=>oU r s) (fun i=>46-i) 0 (by kernel_rfl)
   ?_ ⟨Nat.zero_le _,rfl,rfl⟩ ?_
  ·exact⟨rfl,trivial⟩
  rintro i w4 j ⟨hi,rfl,hp⟩
  conv=>whnf
  refine ah (fun hlt=> ?_) (fun hge=> ?_)
  ·have hlt:i<46:=by have:=of_decide_eq_true hlt;omega
   have hil:i<resv.length:=by rw [zY];exact hlt
   rw [QH _ _ i hil]at hp
   have hg:=NZ hil
   conv=>whnf
   (repeat (first | (refine ay.mk (by first | decide | omega) ?_;conv=>whnf) | (refine gK.mk rfl ?_;conv=>whnf) | (refine eY.keep rfl ?_;conv=>whnf) | (refine Dw _ rfl rfl rfl (by assumption) ?_;conv=>whnf) | (refine Y6 _ rfl rfl rfl (by assumption) ?_;conv=>whnf) | (refine xQ _ rfl rfl rfl (by assumption) ?_;conv=>whnf) | (refine Py (by with_reducible assumption) (by assumption) rfl rfl ?_;conv=>whnf) | (refine Nu (by with_reducible assumption) (by assumption) rfl rfl ?_;conv=>whnf) | (refine Px (by with_reducible assumption) (by assumption) rfl ?_;conv=>whnf) | (refine dh rfl (by with_reducible assumption) (by assumption) ?_;conv=>whnf)))
   apply ah<;>intro h
   ·have:kb=false:=by rw [hk3,hp,h];rfl
    subst this
    conv=>whnf
    exact kN.mk ⟨rfl,acz⟩
   ·rw [h,Bool.false_or]at hp
    conv=>whnf
    refine kM.mk ⟨_, ?_,(i+1),rfl, ?_, ?_⟩
    ·show 46 -(i+1)<46-i;omega
    ·exact⟨jJ (incr (by omega)),trivial⟩
    ·exact⟨hlt,rfl,hp⟩
  ·have hge : ¬i<46:=by have:=of_decide_eq_false hge;omega
   obtain rfl:i=46:=by omega
   rw [List.drop_of_length_le (by rw [zY];exact Nat.le_refl _)]at hp
   have:kb=true:=by rw [hk3,hp];rfl
   subst this
   conv=>whnf
   exact kN.mk ⟨rfl,acz⟩
end
end Go.Proofs.YtocckceefcmeaaaGreatDoor.Ky
namespace Go.Proofs.YtocckceefcmeaaaGreatDoor.Cl
open Go Go.RowKit Go.Proofs Go.Proofs.YtocckceefcmeaaaGreatDoor.Vc Go.Proofs.YtocckceefcmeaaaGreatDoor.Ax Go.Proofs.YtocckceefcmeaaaGreatDoor.Ky Go.Proofs.YtocckceefcmeaaaGreatDoor.Id
def spL:List Value:=(List.range 256).map fun c=> .int .u8 (Bl c)
def GS:Glob:=⟨0+1,fun g=>if g=0 then some spL else none,fun _=>none⟩
theorem aaj {w:World}(h:GS.holds w):Asc w:=by
 refine⟨Nat.lt_of_lt_of_le (Nat.lt_succ_self _) h.1,fun c hc=> ?_⟩
 have:=(h.2.1 0 spL (by simp [GS])).2 c (.int .u8 (Bl c)) (by unfold spL;rw [List.getElem?_map,List.getElem?_range hc];rfl)
 exact this
theorem Lr (s:ByteArray)(h:s.size≤140737488355328):bD Tryz.prog GS 118 [.v (.string s)] 0 [] (Is (.v (.bool (zX s)))):=zN (l:= [.string s]) fun w hG=>WB s w (aaj hG) h
theorem N8 {s:ByteArray}(h:zX s=true):s.size≤32:=by
 unfold zX at h
 simp only [Bool.and_eq_true,decide_eq_true_eq]at h
 omega
section
variable {P:Program}{H:Type}{enc:TypeId×Value→H}{w:World}
theorem YF {n:Int}(h:(Lit.int .u8 n).wf=true) : ∃k:Nat,n=k∧k<256:=by
 have:0≤n∧n≤255:=by simpa [Lit.wf,IntKind.min,IntKind.max,IntKind.signed,IntKind.bits]using h
 exact⟨n.toNat,by omega,by omega⟩
end
theorem ael:Tryz.prog.globalNamed "strings.asciiSpace" = some 0:=by kernel_rfl
theorem aem:(Tryz.prog.globals[0]?).map (·.type)=some 203:=by kernel_rfl
theorem aen:(Rows.laid_strings_asciiSpace:DataW Unit) = .agg ((List.range 256).map fun c=> .lit (.int .u8 (Bl c))):=by kernel_rfl
theorem YG {W:World}(h:laidMetH Tryz.prog [("unicode.White_Space",Rows.laid_unicode_White_Space),("strings.asciiSpace",Rows.laid_strings_asciiSpace)] W):GS.holds W:=by
 rw [MakeChecks.laidMetH_plain _ _ _ (by kernel_rfl)]at h
 obtain⟨ps,⟨_,_,_,_,_,_,_,_,_,_,⟨g0,t0,cs0,f0,p0,q0,hg0,ht0,hv0,hd0,_⟩,_⟩,_,_⟩:=h
 obtain rfl:=Option.some.inj (ael.symm.trans hg0)
 obtain rfl:=Option.some.inj (aem.symm.trans ht0)
 rw [aen]at hd0
 obtain⟨xs,m,rfl,hd,hcl,hxl,hel⟩:=DataW.trod_array (e:=5) (n:=256) rfl hd0
 injection hd with hd _
 injection hd with hd
 have key : ∀i,i<256→W.cell? ⟨0,i,none⟩=some (.int .u8 (Bl i)):=fun i hi=>by
  have h1:=hel i hi
  have hx:xs[i]? = some xs[i]:=List.getElem?_eq_getElem (by omega)
  rw [hx]at h1
  obtain⟨k,e,f,_⟩:=DataW.trod_int (t:=5) (k:= .u8) rfl h1
  have hf:(xs.map (·.1))[i]? = some (.lit (.int .u8 k)):=by rw [List.getElem?_map,hx,f];rfl
  rw [←hd,List.getElem?_map,List.getElem?_range hi]at hf
  simp only [Option.map_some,Option.some.injEq,DataW.lit.injEq,Lit.int.injEq,true_and]at hf
  rw [World.var?_cell hg0 hv0 i, ←Array.getElem?_toList]
  have e1:Tryz.prog.cellsOf 5=1:=by kernel_rfl
  rw [e1,Nat.mul_one]at e
  have:(cs0.toList.drop i)[0]? = some (.int .u8 k):=by
   cases hdr:cs0.toList.drop i with
   | nil=>rw [hdr]at e;cases e
   | cons a r=>rw [hdr]at e;injection e with e;rw [e];rfl
  rw [List.getElem?_drop,Nat.add_zero]at this
  rw [this,hf]
 have hsz:0<W.heap.size:=World.block_lt_of_cell? W _ (key 0 (by decide))
 refine⟨hsz,fun g cs hg=> ?_,fun _ _ h=>by cases h⟩
 simp only [GS]at hg
 split at hg
 ·rename_i e
  injection hg with hg
  subst e;subst hg
  refine⟨Nat.lt_succ_self _,fun j v hj=> ?_⟩
  unfold spL at hj
  rw [List.getElem?_map]at hj
  rcases Nat.lt_or_ge j 256 with h1 | h1
  ·rw [List.getElem?_range h1]at hj
   simp only [Option.map_some,Option.some.injEq]at hj
   rw [key j h1,hj]
  ·rw [List.getElem?_eq_none (by simpa using h1)]at hj
   cases hj
 ·cases hg
end Go.Proofs.YtocckceefcmeaaaGreatDoor.Cl
