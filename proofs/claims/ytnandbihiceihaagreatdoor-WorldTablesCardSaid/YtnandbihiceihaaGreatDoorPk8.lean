/- Joined parts of the proof. A quick reckoning of what an operation waits for: masks of bits, built once in the order of the operations -/
import Derived.Test.YtnandbihiceihaaGreatDoorPk1
import Derived.Scope
import Derived.Test.YtnandbihiceihaaGreatDoorPk7
set_option linter.unusedVariables false
set_option linter.unusedSimpArgs false
set_option maxRecDepth 100000
set_option maxHeartbeats 16000000
namespace Go.Proofs.YtnandbihiceihaaGreatDoor.Vc
open Go.RowKit
def GR (ms:List Nat):List Edge->Nat
 | []=>0
 | e::r=>bif Region.binds .any e then Nat.lor (Nat.lor (Nat.shiftLeft 1 e.on) (ms.getD e.on 0)) (GR ms r)else GR ms r
def XA (ms:List Nat):List Oper->List Nat
 | []=>ms
 | o::r=>XA (ms++ [GR ms o.after.toList]) r
def XB (ops:Array Oper)(ms:List Nat):Prop:= ∀i j,(ms.getD i 0).testBit j=true->Tq ops i j
theorem D6 {ms:List Nat}{j:Nat} : ∀ {es:List Edge},(GR ms es).testBit j=true->∃e∈es,Region.binds .any e=true∧(e.on=j∨(ms.getD e.on 0).testBit j=true)
 | [],h=>by simp [GR]at h
 | e::r,h=>by
  unfold GR at h
  cases hb:Region.binds .any e with
  | false=>
   rw [hb,cond_false]at h
   obtain⟨x,hx,h1,h2⟩:=D6 h
   exact⟨x,by simp [hx],h1,h2⟩
  | true=>
   rw [hb,cond_true]at h
   have h:((1 <<< e.on ||| ms.getD e.on 0) ||| GR ms r).testBit j=true:=h
   simp only [Nat.testBit_or,jy]at h
   rcases h with (h|h)|h
   ·refine⟨e,by simp,hb, .inl ?_⟩
    rw [Nat.one_shiftLeft,Nat.testBit_two_pow]at h
    simpa using h
   ·exact⟨e,by simp,hb, .inr h⟩
   ·obtain⟨x,hx,h1,h2⟩:=D6 h
    exact⟨x,by simp [hx],h1,h2⟩
theorem VF {ops:Array Oper}{i j k:Nat}(h:Tq ops i j)(h':Tq ops j k):Tq ops i k:=by
 induction h' with
 | one ho he hb=>exact .more h ho he hb
 | more _ ho he hb ih=>exact .more ih ho he hb
theorem TG {ops:Array Oper} : ∀(os:List Oper) (ms:List Nat),XB ops ms->(∀k,os[k]? = ops[ms.length+k]?)->XB ops (XA ms os)
 | [],ms,h,_=>h
 | o::r,ms,h,ho=>by
  refine TG r _ ?_ (fun k=>by have:=ho (k+1);simp only [fD]at this;rw [this,ay,List.length_singleton];congr 1;omega)
  intro i j hb
  rcases kC i ms.length with hi|hi|hi
  ·rw [aT,eP hi, <-aT]at hb
   exact h i j hb
  ·subst hi
   rw [aT,dS (au _)]at hb
   simp only [iT,bZ,cO]at hb
   obtain⟨e,he,h1,h2⟩:=D6 hb
   have h0:=ho 0
   simp only [bZ,dV]at h0
   have hx:Tq ops ms.length e.on:= .one h0.symm (by simpa using he) h1
   rcases h2 with rfl|h2
   ·exact hx
   ·exact VF hx (h _ _ h2)
  ·rw [aT,dN aev]at hb
   simp at hb
def Lr (ms:List Nat)(T:List Nat)(i:Nat):Bool:=T.all fun j=>Nat.beq j i||(ms.getD i 0).testBit j
theorem Og {ops:Array Oper}{T:List Nat}{i j:Nat}(h:Lr (XA [] ops.toList) T i=true)(hj:j∈T)(hne:j≠i):Tq ops i j:=by
 have hok:XB ops (XA [] ops.toList):=TG ops.toList [] (fun i j h=>by simp at h) (fun k=>by simp)
 simp only [Lr,bP,jy]at h
 rcases h j hj with e|e
 ·exact absurd (aA e) hne
 ·exact hok _ _ e
end Go.Proofs.YtnandbihiceihaaGreatDoor.Vc
namespace Go.Proofs.YtnandbihiceihaaGreatDoor.Ax
open RowKit Vc
def GU (all:List Oper)(o:Oper)(ρ:lV)(A Tj:lV->Prop):Prop:=
 match o.guard with
 | none=>A ρ
 | some (g,want)=>(match AA all g with
  | some s=>(match ρ s with
   | .v (.bool t)=>Ku t
     (bif want then A (um ρ s (.v (.bool true)))else Tj (um ρ s (.v (.bool true))))
     (bif want then Tj (um ρ s (.v (.bool false)))else A (um ρ s (.v (.bool false))))
   | .v _=>Tj ρ
   | _=>False)
  | none=>Tj ρ)
def tH (P:Program)(G:Glob)(all:List Oper)(o:Oper)(ρ:lV)(n:Nat)(H:lI)(K:lV->AV->Nat->lI->Prop)(rP:lV->Prop):Prop:=
 match o.guard with
 | none=>aE P G o ρ n H fun a n' H'=>K ρ a n' H'
 | some (g,want)=>(match AA all g with
  | some s=>(match ρ s with
   | .v (.bool t)=>Ku t
     (bif want then aE P G o (um ρ s (.v (.bool true))) n H fun a n' H'=>K (um ρ s (.v (.bool true))) a n' H' else rP (um ρ s (.v (.bool true))))
     (bif want then rP (um ρ s (.v (.bool false)))else aE P G o (um ρ s (.v (.bool false))) n H fun a n' H'=>K (um ρ s (.v (.bool false))) a n' H')
   | .v _=>rP ρ
   | _=>False)
  | none=>rP ρ)
theorem rJ (P:Program)(G:Glob)(all:List Oper)(o:Oper)(ρ:lV)(n:Nat)(H:lI)(K:lV->AV->Nat->lI->Prop)(rP:lV->Prop) :
  tH P G all o ρ n H K rP=GU all o ρ (fun ρ'=>aE P G o ρ' n H fun a n' H'=>K ρ' a n' H') rP:=rfl
def Ls (P:Program)(all:List Oper)(o:Oper)(ρ:lV)(Hr H:lI)(K:lV->AV->Prop)(rP:lV->Prop):Prop:=
 match o.guard with
 | none=>aQ P Hr H o ρ fun a=>K ρ a
 | some (g,want)=>(match AA all g with
  | some s=>(match ρ s with
   | .v (.bool t)=>Ku t
     (bif want then aQ P Hr H o (um ρ s (.v (.bool true))) fun a=>K (um ρ s (.v (.bool true))) a else rP (um ρ s (.v (.bool true))))
     (bif want then rP (um ρ s (.v (.bool false)))else aQ P Hr H o (um ρ s (.v (.bool false))) fun a=>K (um ρ s (.v (.bool false))) a)
   | .v _=>rP ρ
   | _=>False)
  | none=>rP ρ)
theorem sJ (P:Program)(all:List Oper)(o:Oper)(ρ:lV)(Hr H:lI)(K:lV->AV->Prop)(rP:lV->Prop) :
  Ls P all o ρ Hr H K rP=GU all o ρ (fun ρ'=>aQ P Hr H o ρ' fun a=>K ρ' a) rP:=rfl
def VG (P:Program)(G:Glob)(all:List Oper)(l:List Oper)(ρ:lV)(n:Nat)(H:lI)(K:lV->Nat->lI->Prop):Prop:=
 match l with
 | []=>K ρ n H
 | o::rest=>tH P G all o ρ n H (fun ρ' a n' H'=>VG P G all rest (qm ρ' o.dst a) n' H' K) fun ρ'=>VG P G all rest (qm ρ' o.dst (.v undef)) n H K
def vV (D:List Nat)(x:Nat):Bool:=
 match D with
 | []=>false
 | d::r=>bif Nat.beq d x then true else vV r x
def vW (D:List Nat)(H:lI):lI:=
 match H with
 | []=> []
 | p::r=>bif vV D p.1 then p::vW D r else vW D r
def tX (D:List Nat)(H:lI):lI:=
 match H with
 | []=> []
 | p::r=>bif vV D p.1 then tX D r else p::tX D r
def dx (o:Oper)(n:Nat)(D:List Nat):List Nat:=
 match o.op with
 | .alloc _=>n::D
 | .box _ _=>n::D
 | _=>D
theorem ae1 {o:Oper}{n k:Nat}{D:List Nat}(hk:k<n)(h:vV (dx o n D) k=true):vV D k=true:=by
 have key:vV (n::D) k=true->vV D k=true:=fun h=>by
  unfold vV at h
  cases hb:Nat.beq n k with
  | true=>have:=aA hb;omega
  | false=>simpa [hb]using h
 unfold dx at h
 split at h
 ·exact key h
 ·exact key h
 ·exact h
def aD (P:Program)(G:Glob)(all:List Oper)(D:List Nat)(p:Plan)(ρ:lV)(n:Nat)(H:lI)(K:lV->Nat->lI->Prop):Prop:=
 match p with
 | .done=>K ρ n H
 | .take i p=>(match all[i]? with
  | some o=>Ls P all o ρ (tX D H) H (fun ρ' a=>aD P G all D p (qm ρ' o.dst a) n H K) fun ρ'=>aD P G all D p (qm ρ' o.dst (.v undef)) n H K
  | none=>False)
 | .one i p=>(match all[i]? with
  | some o=>tH P G all o ρ n (vW D H) (fun ρ' a n' H'=>spine (H'++tX D H) fun rW=>aD P G all (dx o n D) p (qm ρ' o.dst a) n' rW K) fun ρ'=>aD P G all D p (qm ρ' o.dst (.v undef)) n H K
  | none=>False)
 | .two i p j r=>(match all[i]?,all[j]? with
  | some o,some o'=>
   (tH P G all o ρ n (vW D H) (fun ρ' a n' H'=>spine (H'++tX D H) fun rW=>aD P G all (dx o n D) p (qm ρ' o.dst a) n' rW K) fun ρ'=>aD P G all D p (qm ρ' o.dst (.v undef)) n H K)∧
   (tH P G all o' ρ n (vW D H) (fun ρ' a n' H'=>spine (H'++tX D H) fun rW=>aD P G all (dx o' n D) r (qm ρ' o'.dst a) n' rW K) fun ρ'=>aD P G all D r (qm ρ' o'.dst (.v undef)) n H K)
  | _,_=>False)
 | .three i p j r k q=>(match all[i]?,all[j]?,all[k]? with
  | some o,some o',some o''=>
   (tH P G all o ρ n (vW D H) (fun ρ' a n' H'=>spine (H'++tX D H) fun rW=>aD P G all (dx o n D) p (qm ρ' o.dst a) n' rW K) fun ρ'=>aD P G all D p (qm ρ' o.dst (.v undef)) n H K)∧
   (tH P G all o' ρ n (vW D H) (fun ρ' a n' H'=>spine (H'++tX D H) fun rW=>aD P G all (dx o' n D) r (qm ρ' o'.dst a) n' rW K) fun ρ'=>aD P G all D r (qm ρ' o'.dst (.v undef)) n H K)∧
   (tH P G all o'' ρ n (vW D H) (fun ρ' a n' H'=>spine (H'++tX D H) fun rW=>aD P G all (dx o'' n D) q (qm ρ' o''.dst a) n' rW K) fun ρ'=>aD P G all D q (qm ρ' o''.dst (.v undef)) n H K)
  | _,_,_=>False)
 | .sink i=>(match all[i]? with
  | some o=>tH P G all o ρ n H (fun ρ' a n' H'=>K (qm ρ' o.dst a) n' H') fun ρ'=>K (qm ρ' o.dst (.v undef)) n H
  | none=>False)
 | .post i p=>(match all[i]? with
  | some o=>tH P G all o ρ n H (fun ρ' a n' H'=>aD P G all D p (qm ρ' o.dst a) n' H' K) fun ρ'=>aD P G all D p (qm ρ' o.dst (.v undef)) n H K
  | none=>False)
def takes:Plan->List Nat
 | .done=> []
 | .take i p=>i::takes p
 | .one _ p=>takes p
 | .two _ p _ r=>takes p++takes r
 | .three _ p _ r _ q=>takes p++takes r++takes q
 | .sink _=> []
 | .post _ _=> []
def postAt (ops:Array Oper)(T:List Nat)(i:Nat):Bool:=Lr (XA [] ops.toList) T i
def qy (ops:Array Oper)(T:List Nat):Plan->Bool
 | .done=>true
 | .take i p=>T.contains i&&qy ops T p
 | .one _ p=>qy ops T p
 | .two _ p _ r=>qy ops T p&&qy ops T r
 | .three _ p _ r _ q=>qy ops T p&&qy ops T r&&qy ops T q
 | .sink i=>postAt ops T i
 | .post i p=>postAt ops T i&&qy ops (takes p) p
def uV (ops:Array Oper)(p:Plan):Bool:=vK ops p&&qy ops (takes p) p
def JE (G:Glob)(ws:Nat->Bool)(nb:Nat)(ρ:lV)(n:Nat)(H:lI)(ρ':lV)(n':Nat)(H':lI):Prop:=
 ∀lT lY lZ σ F w (ρc:mG),St G lT lY lZ n σ F H w->(∀s,ws s=true->mM n σ F w (ρ s) (ρc s))->
  ∃σ' F',St G lT lY lZ n' σ' F' H' w∧(∀s,ws s=true->mM n' σ' F' w (ρ' s) (ρc s))∧(∀l,l<nb->σ' l=σ l)∧∀b,F b->F' b
structure Oh (p:Prop):Prop where
 holds:p
structure Nd where
 listed:Array Bool
 dep:Nat
 succ:List (Nat×Nat)
structure NS where
 ρ:lV
 n:Nat
 H:lI
def aeb (ops:Array Oper)(ns:List Nd):Bool:=
 ns.all fun nd=>nd.succ.isEmpty||((Region.ready .any ops nd.listed==nd.succ.map (·.1))&&nd.succ.all fun s=>match ns[s.2]? with
  | some nj=>(nj.listed==nd.listed.setIfInBounds s.1 true)&&Nat.blt nj.dep nd.dep
  | none=>false)
def TI (P:Program)(G:Glob)(all:List Oper)(ws:Nat->Bool)(nb:Nat)(A:Nat->NS)(k:Nat)(s:Nat×Nat):Prop:=
 match all[s.1]? with
 | some o=>tH P G all o (A k).ρ (A k).n (A k).H (fun ρ' a n' H'=>Oh (JE G ws nb (qm ρ' o.dst a) n' H' (A s.2).ρ (A s.2).n (A s.2).H)) fun ρ'=>Oh (JE G ws nb (qm ρ' o.dst (.v undef)) (A k).n (A k).H (A s.2).ρ (A s.2).n (A s.2).H)
 | none=>False
def aDT (P:Program)(G:Glob)(all:List Oper)(Hh H:lI):List Nat->lV->(lV->Prop)->Prop
 | [],ρ,K=>K ρ
 | i::ts,ρ,K=>(match all[i]? with
  | some o=>Ls P all o ρ Hh H (fun ρ' a=>aDT P G all Hh H ts (qm ρ' o.dst a) K) fun ρ'=>aDT P G all Hh H ts (qm ρ' o.dst (.v undef)) K
  | none=>False)
def TJ (ops:Array Oper)(T:List Nat):List Nat->Array Bool->(Array Bool->Bool)->Bool
 | [],l,k=>k l
 | i::ts,l,k=>(match ops[i]? with|some o=>pG o|none=>false)&&(Region.ready .any ops l).contains i&&Region.free .any ops l i&&T.contains i&&TJ ops T ts (l.setIfInBounds i true) k
def D7 (ops:Array Oper)(T ts:List Nat)(ns:List Nd)(p:Plan)(e:Nat):Bool:=
 Nat.ble ts.length ops.size&&Region.noSelect ops&&aeb ops ns&&qy ops T p&&Nat.ble p.depth e&&(ns.all fun nd=> !nd.succ.isEmpty||pz ops p nd.listed)&&
  TJ ops T ts (Array.replicate ops.size false) fun l=>match ns[0]? with
   | some n0=>(n0.listed==l)&&Nat.ble (n0.dep+e+ts.length) ops.size
   | none=>false
structure zk (P:Program)(G:Glob)(id:Nat)(ops:Array Oper)(K:lV->Nat->lI->Prop)(ρ:lV)(n:Nat)(H:lI):Prop where
 ex:(∃(p:Plan) (D:List Nat),uV ops p=true∧aD P G ops.toList D p ρ n H K)∨
  (∃(p:Plan) (D:List Nat) (ws:Nat->Bool) (ρ':lV) (n':Nat) (H':lI),uV ops p=true∧(ops.toList.all fun o=>match o.dst with|some d=>ws d|none=>true)=true∧n<=n'∧(∀s,ws s=false->ρ' s=ρ s)∧
   aD P G ops.toList D p ρ n H (fun pK Tn qL=>Oh (JE G ws n pK Tn qL ρ' n' H'))∧K ρ' n' H')∨
  ∃(T ts:List Nat) (ns:List Nd) (p:Plan) (e:Nat) (D:List Nat) (ws:Nat->Bool) (A:Nat->NS),D7 ops T ts ns p e=true∧(ops.toList.all fun o=>match o.dst with|some d=>ws d|none=>true)=true∧(∀j,n<=(A j).n)∧(∀j s,ws s=false->(A j).ρ s=ρ s)∧
   aDT P G ops.toList (tX D H) H ts ρ (fun ρ'=>Oh (JE G ws n ρ' n (vW D H) (A 0).ρ (A 0).n (A 0).H))∧(∀k nd,ns[k]? = some nd->∀s∈nd.succ,TI P G ops.toList ws n A k s)∧
   ∀k nd,ns[k]? = some nd->nd.succ = []->aD P G ops.toList D p (A k).ρ (A k).n ((A k).H++tX D H) K
theorem rV {D:List Nat}{H:lI}{k:Nat}{b:oI}(h:look (vW D H) k=some b):vV D k=true∧look H k=some b:=by
 induction H with
 | nil=>cases h
 | cons p r ih=>
  obtain⟨x,bx⟩:=p
  simp only [vW]at h
  cases hm:vV D x with
  | true=>
   rw [hm,cond_true,mO]at h
   rw [mO]
   split at h
   ·rename_i e;subst e;rw [if_pos rfl];exact⟨hm,h⟩
   ·rename_i e;rw [if_neg e];exact ih h
  | false=>
   rw [hm,cond_false]at h
   obtain⟨h1,h2⟩:=ih h
   refine⟨h1, ?_⟩
   rw [mO,if_neg (fun e=>by subst e;rw [hm]at h1;cases h1)]
   exact h2
theorem vg {D:List Nat}{H:lI}{k:Nat}{b:oI}(h:look (tX D H) k=some b):vV D k=false∧look H k=some b:=by
 induction H with
 | nil=>cases h
 | cons p r ih=>
  obtain⟨x,bx⟩:=p
  simp only [tX]at h
  cases hm:vV D x with
  | false=>
   rw [hm,cond_false,mO]at h
   rw [mO]
   split at h
   ·rename_i e;subst e;rw [if_pos rfl];exact⟨hm,h⟩
   ·rename_i e;rw [if_neg e];exact ih h
  | true=>
   rw [hm,cond_true]at h
   obtain⟨h1,h2⟩:=ih h
   refine⟨h1, ?_⟩
   rw [mO,if_neg (fun e=>by subst e;rw [hm]at h1;cases h1)]
   exact h2
theorem nK {A B:lI}{k:Nat}{b:oI}(h:look (A++B) k=some b):look A k=some b∨(look A k=none∧look B k=some b):=by
 induction A with
 | nil=>exact .inr ⟨rfl,h⟩
 | cons p r ih=>
  obtain⟨x,bx⟩:=p
  rw [gu,mO]at h
  rw [mO]
  split at h
  ·rename_i e;rw [if_pos e];exact .inl h
  ·rename_i e;rw [if_neg e];exact ih h
section
variable {P:Program}{G:Glob}{lT:World}{lY lZ:Nat->Prop}{n:Nat}{σ:Nat->Loc}{F:Nat->Prop}{H:lI}{w:World}
theorem St.sub (st:St G lT lY lZ n σ F H w){H':lI}(h : ∀k b,look H' k=some b->look H k=some b):St G lT lY lZ n σ F H' w:=
 ⟨st.glob,st.qF,st.oG,fun k b hk=>st.lab k b (h k b hk),fun k b g hk=>st.mu k b g (h k b hk),fun k k' b b' g hk hk'=>st.inj k k' b b' g (h k b hk) (h k' b' hk'),fun k b hk=>st.blk k b (h k b hk)⟩
theorem St.join (st:St G lT lY lZ n σ F H w){Hd Hh H':lI}(hd : ∀k b,look Hd k=some b->look H k=some b)(hh : ∀k b,look Hh k=some b->look H k=some b∧look Hd k=none)
  {n':Nat} {σ':Nat->Loc} {F':Nat->Prop} {w':World} (s:St G w (uJ w σ Hd) F n' σ' F' H' w') (x:Ext n σ F w n' σ' F' w'):St G lT lY lZ n' σ' F' (H'++Hh) w':=by
 have s0:=(st.sub hd).back s
 have aik : ∀k b g,look Hh k=some b->b.own=true->qO w (σ k) b g->¬F g∧G.nb<=g∧g<w.heap.size∧(lY g∨lT.heap.size<=g)∧¬uJ w σ Hd g:=by
  intro k b g hk hm hg
  obtain⟨hk,hn⟩:=hh k b hk
  obtain⟨h1,h2,h3,h4⟩:=st.mu k b g hk hm hg
  refine⟨h1,h2,h3,h4,fun⟨k',b',e1,e2,e3⟩=> ?_⟩
  have:=st.inj k k' b b' g hk (hd k' b' e1) hm e2 hg e3
  subst this
  rw [hn]at e1;cases e1
 have hid : ∀k b g,look Hh k=some b->b.own=true->qO w' (σ' k) b g->qO w (σ k) b g∧¬F g∧G.nb<=g∧g<w.heap.size∧(lY g∨lT.heap.size<=g)∧¬uJ w σ Hd g:=by
  intro k b g hk0 hm hg
  obtain⟨hk,hn⟩:=hh k b hk0
  rw [x.s k (st.lab k b hk)]at hg
  have hg:=hg.back fun y hy=>(let ⟨_,_,a3,_,a5⟩:=aik k b y hk0 hm (.inl hy);s.qF.block y a3 a5)
  obtain⟨h1,h2,h3,h4⟩:=st.mu k b g hk hm hg
  refine⟨hg,h1,h2,h3,h4,fun⟨k',b',e1,e2,e3⟩=> ?_⟩
  have:=st.inj k k' b b' g hk (hd k' b' e1) hm e2 hg e3
  subst this
  rw [hn]at e1;cases e1
 have cross : ∀k k' b b' g,look H' k=some b->look Hh k'=some b'->b.own=true->b'.own=true->qO w' (σ' k) b g->qO w' (σ' k') b' g->False:=by
  intro k k' b b' g h h' hm hm' hg hg'
  obtain⟨_,_,_,h3,_,h5⟩:=hid k' b' g h' hm' hg'
  rcases(s.mu k b g h hm hg).2.2.2 with e|e
  ·exact h5 e
  ·omega
 refine⟨s0.glob,s0.qF,s0.oG,fun k b hk=> ?_,fun k b g hk hm hg=> ?_,fun k k' b b' g hk hk' hm hm' hg hg'=> ?_,fun k b hk=> ?_⟩
 ·rcases nK hk with hk|⟨_,hk⟩
  ·exact s0.lab k b hk
  ·have:=st.lab k b (hh k b hk).1
   have:=x.le
   omega
 ·rcases nK hk with hk|⟨_,hk⟩
  ·exact s0.mu k b g hk hm hg
  ·obtain⟨h0,h1,h2,h3,h4,h5⟩:=hid k b g hk hm hg
   refine⟨fun hf=> ?_,h2,aP h3 x.sz,h4⟩
   rcases(s.oG g hf).2 with e|e|e
   ·exact h1 e
   ·omega
   ·exact h5 e
 ·rcases nK hk with hk|⟨_,hk⟩
  ·rcases nK hk' with hk'|⟨_,hk'⟩
   ·exact s0.inj k k' b b' g hk hk' hm hm' hg hg'
   ·exact(cross k k' b b' g hk hk' hm hm' hg hg').elim
  ·rcases nK hk' with hk'|⟨_,hk'⟩
   ·exact(cross k' k b' b g hk' hk hm' hm hg' hg).elim
   ·exact st.inj k k' b b' g (hh k b hk).1 (hh k' b' hk').1 hm hm' (hid k b g hk hm hg).1 (hid k' b' g hk' hm' hg').1
 ·rcases nK hk with hk|⟨_,hk⟩
  ·exact s0.blk k b hk
  ·have hk1:=(hh k b hk).1
   rw [x.s k (st.lab k b hk1)]
   refine(st.blk k b hk1).mono x fun hm g hg=> ?_
   obtain⟨_,_,h3,_,h5⟩:=aik k b g hk hm hg
   exact s.qF.block g h3 h5
end
section
variable {P:Program}{G:Glob}{lT:World}{lY lZ:Nat->Prop}{N:Nat}{ds:List Deferred}{W:Nat->Bool}{ops:Array Oper}{lS:mG}
abbrev rC (n:Nat)(σ:Nat->Loc)(F:Nat->Prop)(w:World)(nZ:lV)(ρ:mG):Prop:= ∀s,mM n σ F w (nZ s) (ρ s)
theorem qH {n n':Nat}{σ σ':Nat->Loc}{F F':Nat->Prop}{w w':World}{nZ:lV}{ρ:mG}{d:Option Nat}{a:AV}{v:Value}(h:rC n σ F w nZ ρ)(x:Ext n σ F w n' σ' F' w')(r:mM n' σ' F' w' a v) :
  rC n' σ' F' w' (qm nZ d a) (oN ρ d v):=by
 intro s
 cases d with
 | none=>exact(h s).mono x
 | some d=>
  simp only [qm,oN,um,upd]
  cases Nat.beq s d with
  | true=>exact r
  | false=>exact(h s).mono x
theorem zZ {n:Nat}{σ:Nat->Loc}{F:Nat->Prop}{w:World}{nZ:lV}{ρ:mG}{s:Nat}{v:Value}(h:rC n σ F w nZ ρ)(e:ρ s=v):rC n σ F w (um nZ s (.v v)) ρ:=by
 intro k
 simp only [um]
 cases hb:Nat.beq k s with
 | true=>rw [aA hb,e];exact .v v
 | false=>exact h k
theorem qP {n:Nat}{σ:Nat->Loc}{F:Nat->Prop}{w:World}{nZ:lV}{ρ:mG}{a:Act}{o:Oper}{A Tj:lV->Prop}(hf:Fits N ds ρ a)(hr:rC n σ F w nZ ρ)(h:GU ops.toList o nZ A Tj) :
  ∃oL,rC n σ F w oL ρ∧((Region.wanted o (yielded ops a.tmps)=true∧A oL)∨(Region.wanted o (yielded ops a.tmps)=false∧Tj oL)):=by
 unfold GU at h
 unfold Region.wanted
 split at h
 ·rename_i hg;rw [hg];exact⟨nZ,hr, .inl ⟨rfl,h⟩⟩
 ·rename_i g want hg
  rw [hg]
  simp only [AB hf g]
  split at h
  ·rename_i s hs
   simp only [hs]
   have rs:=hr s
   split at h
   ·rename_i t ht
    rw [ht]at rs
    have e:=rs.nY
    simp only [e]
    cases t<;>cases want<;>simp only [Ku,cond_true,cond_false]at h
    ·exact⟨_,zZ hr e, .inl ⟨rfl,h⟩⟩
    ·exact⟨_,zZ hr e, .inr ⟨rfl,h⟩⟩
    ·exact⟨_,zZ hr e, .inr ⟨rfl,h⟩⟩
    ·exact⟨_,zZ hr e, .inl ⟨rfl,h⟩⟩
   ·rename_i x hne ht
    rw [ht]at rs
    simp only [rs.nY]
    refine⟨_,hr, .inr ⟨?_,h⟩⟩
    cases x<;>first|rfl|exact(hne _ ht).elim
   ·cases h
  ·rename_i hs
   simp only [hs]
   exact⟨_,hr, .inr ⟨rfl,h⟩⟩
structure Lu (G:Glob)(lT:World)(lY lZ:Nat->Prop)(N:Nat)(ds:List Deferred)(W:Nat->Bool)(lS:mG)(nb:Nat)(qI:Nat->Loc)(Fb:Nat->Prop)(wb:World)(K:lV->Nat->lI->Prop)(a:Act)(w:World):Prop where
 ex : ∃ρ nZ n σ F H,Fits N ds ρ a∧Same W lS ρ∧St G lT lY lZ n σ F H w∧Ext nb qI Fb wb n σ F w∧rC n σ F w nZ ρ∧K nZ n H
def AQ (G:Glob)(lT:World)(lY lZ:Nat->Prop)(N:Nat)(ds:List Deferred)(W:Nat->Bool)(lS:mG)(nb:Nat)(qI:Nat->Loc)(Fb:Nat->Prop)(wb:World)(Q:Ex->lV->Nat->lI->Prop):Exit->Act->World->Prop
 | .normal,a,w=>Lu G lT lY lZ N ds W lS nb qI Fb wb (Q .normal) a w
 | .exit id,a,w=>Lu G lT lY lZ N ds W lS nb qI Fb wb (Q (.exit id)) a w
 | .ret,a,w=>Lu G lT lY lZ N ds W lS nb qI Fb wb (Q .ret) a w
 | _,_,_=>False
variable {nb:Nat}{qI:Nat->Loc}{Fb:Nat->Prop}{wb:World}
theorem GV {K:lV->Nat->lI->Prop}{Q:Exit->Act->World->Prop}(hQ : ∀a w,Lu G lT lY lZ N ds W lS nb qI Fb wb K a w->Q .normal a w) :
  ∀(l:List Oper) (k:Nat) (nZ:lV) (n:Nat) (σ:Nat->Loc) (F:Nat->Prop) (H:lI) (ρ:mG) (a:Act) (w:World),(∀j,l[j]? = ops.toList[k+j]?)->(∀o∈l,qU N W o=true∧wV o=true)->
   Fits N ds ρ a->Same W lS ρ->St G lT lY lZ n σ F H w->Ext nb qI Fb wb n σ F w->rC n σ F w nZ ρ->VG P G ops.toList l nZ n H K->wpOps P ops Q (List.range' k l.length) a w:=by
 intro l
 induction l with
 | nil=>intro k nZ n σ F H ρ a w _ _ hf hs st x hr h;exact hQ a w ⟨ρ,nZ,n,σ,F,H,hf,hs,st,x,hr,h⟩
 | cons o rest ih=>
  intro k nZ n σ F H ρ a w hl hok hf hs st x hr h
  have ho:ops[k]? = some o:=by
   have:=hl 0
   simp only [bZ,dV]at this
   rw [<-bF];exact this.symm
  obtain⟨ho1,hi1⟩:=hok o abb
  have next : ∀j,rest[j]? = ops.toList[k+1+j]? :=fun j=>by have:=hl (j+1);simp only [fD]at this;rw [this];congr 1;omega
  simp only [bn,jM]
  simp only [wpOps,ho]
  simp only [VG,rJ]at h
  obtain⟨oL,hr',h⟩:=qP hf hr h
  rcases h with ⟨hw,hv⟩|⟨hw,hv⟩
  ·simp only [hw,if_true]
   refine .inl ((sD (zi hv hi1 st hr')).wp hf.eval fun v w' ⟨a',n',σ',F',H',hk,s,x',ra⟩=> ?_)
   exact ih (k+1) _ _ _ _ _ _ _ _ next (fun o' ho'=>hok o' (by simp [ho'])) (hf.put o.dst v (oC ho1)) (hs.oN ho1) s (x.trans x') (qH hr' x' ra) hk
  ·simp only [hw,aX,if_false]
   exact ih (k+1) _ _ _ _ _ _ _ _ next (fun o' ho'=>hok o' (by simp [ho'])) (hf.put o.dst undef (oC ho1)) (hs.oN ho1) st x (qH hr' (Ext.refl _ _ _ _) (.v undef)) hv
def Keeps (σ:Nat->Loc)(D:List Nat)(H:lI)(w u:World):Prop:=w.heap.size<=u.heap.size∧∀b,b<w.heap.size->¬uJ w σ (vW D H) b->u.heap[b]? = w.heap[b]?
theorem GY {n:Nat}{σ:Nat->Loc}{F:Nat->Prop}{H:lI}{D:List Nat}{w u:World}(st:St G lT lY lZ n σ F H w)(h:Keeps σ D H w u):uq σ F (tX D H) w u:=by
 have hF : ∀b,F b->u.heap[b]? = w.heap[b]? :=fun b hb=>h.2 b (st.oG b hb).1 fun⟨k,c,e1,e2,e3⟩=>(st.mu k c b (rV e1).2 e2 e3).1 hb
 refine⟨hF,fun mD blk g hk ho hg=> ?_⟩
 obtain⟨hm,hk⟩:=vg hk
 refine h.2 g (st.mu mD blk g hk ho hg).2.2.1 fun⟨k,c,e1,e2,e3⟩=> ?_
 obtain⟨f1,f2⟩:=rV e1
 have:=st.inj mD k blk c g hk f2 ho e2 hg e3
 subst this
 rw [hm]at f1;cases f1
theorem XC {D:List Nat}{H:lI} : ∀k b,look (tX D H) k=some b->look H k=some b∧look (vW D H) k=none:=fun k b h=>by
 obtain⟨h1,h2⟩:=vg h
 refine⟨h2, ?_⟩
 cases hv:look (vW D H) k with
 | none=>rfl
 | some c=>have:=(rV hv).1;rw [h1]at this;cases this
theorem XD {n:Nat}{σ:Nat->Loc}{F:Nat->Prop}{H:lI}{w w':World}{D:List Nat}(D':List Nat)(hD : ∀k,k<n->vV D' k=true->vV D k=true){v:Value}{K:AV->Nat->lI->Prop}(st:St G lT lY lZ n σ F H w)(h:Le G w (uJ w σ (vW D H)) F n σ F w K v w') :
  ∃a n' σ' F' H',K a n' H'∧St G lT lY lZ n' σ' F' (H'++tX D H) w'∧Ext n σ F w n' σ' F' w'∧mM n' σ' F' w' a v∧∀u,Keeps σ' D' (H'++tX D H) w' u->Keeps σ D H w u:=by
 obtain⟨a,n',σ',F',H',hk,s,x,ra⟩:=h
 refine⟨a,n',σ',F',H',hk,st.join (fun k b hk=>(rV hk).2) XC s x,x,ra,fun u hu=>⟨bG x.sz hu.1,fun b hb hn=> ?_⟩⟩
 rw [hu.2 b (aP hb x.sz) fun⟨k,c,e1,e2,e3⟩=> ?_]
 ·exact s.qF.block b hb hn
 ·obtain⟨f1,f2⟩:=rV e1
  rcases nK f2 with g1|⟨_,g1⟩
  ·rcases(s.mu k c b g1 e2 e3).2.2.2 with e|e
   ·exact hn e
   ·omega
  ·have h0:=vg g1
   have:=h0.1
   rw [hD k (st.lab k c h0.2) f1]at this;cases this
theorem yE (σ:Nat->Loc)(D:List Nat)(H:lI)(w:World):Keeps σ D H w w:=⟨au _,fun _ _ _=>rfl⟩
def RA (K:Act->World->Prop):Exit->Act->World->Prop
 | .normal,a,w=>K a w
 | _,_,_=>False
theorem Rq {ops:Array Oper}{T:List Nat}{i j:Nat}(h:postAt ops T i=true)(hj:j∈T)(hne:j≠i):Tq ops i j:=Og h hj hne
def qJ (P:Program)(ops:Array Oper)(Q:Exit->Act->World->Prop):Nat->List Nat->(World->Prop)->Array Bool->Act->World->Prop
 | 0,_,_,listed,a,w=>Region.ready .any ops listed = []∧Q .normal a w
 | fuel+1,T,S,listed,a,w=>
  (Region.ready .any ops listed = []->Q .normal a w)∧
  ∀i∈Region.ready .any ops listed,wpOp P ops Q i (fun a' w'=>(postAt ops T i=true∧∃T' S',qJ P ops Q fuel T' S' (listed.setIfInBounds i true) a' w')∨(S w'∧qJ P ops Q fuel T S (listed.setIfInBounds i true) a' w')) a w
theorem sK {Q:Exit->Act->World->Prop} : ∀(fuel:Nat) (T:List Nat) (S:World->Prop) (listed:Array Bool) (a:Act) (w:World),qJ P ops Q fuel T S listed a w->wpAny P .any ops Q fuel listed a w
 | 0,_,_,_,_,_,h=>h
 | fuel+1,_,_,_,_,_,h=>⟨h.1,fun i hi=>wpOp_mono (fun a' w' h'=>h'.elim (fun⟨_,_,_,hh⟩=>sK fuel _ _ _ a' w' hh) fun h'=>sK fuel _ _ _ a' w' h'.2) (h.2 i hi)⟩
theorem zl {Q:Exit->Act->World->Prop}{T:List Nat}{S S':World->Prop}(h : ∀u,S' u->S u) : ∀(fuel:Nat) (listed:Array Bool) (a:Act) (w:World),qJ P ops Q fuel T S' listed a w->qJ P ops Q fuel T S listed a w
 | 0,_,_,_,hh=>hh
 | fuel+1,_,_,_,hh=>⟨hh.1,fun i hi=>wpOp_mono (fun a' w' h'=>h'.imp id fun h'=>⟨h w' h'.1,zl h fuel _ a' w' h'.2⟩) (hh.2 i hi)⟩
theorem Ce {Q:Exit->Act->World->Prop}{T:List Nat}{S:World->Prop}{i:Nat}{oi:Oper}{v:Value}(hi:ops[i]? = some oi)(hT:i∈T)(hsel : ∀(j:Nat) (o:Oper) cs b,ops[j]? = some o->o.op≠ .select cs b)
  (hQ : ∀c a w,Q (.panic c) (a.put oi.dst v) w->Q (.panic c) a w) :
  ∀(fuel:Nat) (listed:Array Bool) (a:Act) (w:World),
   (∀j oj,ops[j]? = some oj->j≠i->listed.getD j true=false->(∀e∈oj.after,Region.binds .any e=true->e.on≠i)->oi.apart ops oj=true)->
   Down ops listed->i∈Region.ready .any ops listed->YieldsIf P ops S oi v a->S w->
   qJ P ops Q fuel T S (listed.setIfInBounds i true) (a.put oi.dst v) w->qJ P ops Q (fuel+1) T S listed a w:=by
 intro fuel
 induction fuel with
 | zero=>
  intro listed a w _ _ hr hy hS H
  refine⟨fun h=>aiY,fun j hj=> ?_⟩
  by_cases hji:j=i
  ·subst hji;exact hy.wpOp hi hS (.inr ⟨hS,H⟩)
  ·have:=ready_mono hj hji
   rw [H.1]at this
   cases this
 | succ fuel ih=>
  intro listed a w hfree hdown hr hy hS H
  refine⟨fun h=>aiY,fun j hj=> ?_⟩
  by_cases hji:j=i
  ·subst hji;exact hy.wpOp hi hS (.inr ⟨hS,H⟩)
  ·have h1:=H.2 j (ready_mono hj hji)
   obtain⟨hjun,oj,hoj,hall⟩:=mem_ready.1 hj
   have hnot : ∀e∈oj.after,Region.binds .any e=true->e.on≠i:=fun e he hb heq=>by
    have h1:=hall e he hb
    have h0:=(mem_ready.1 hr).1
    rw [heq]at h1
    rcases eG i listed.size with h'|h'
    ·simp [h']at h0 h1;rw [h0]at h1;cases h1
    ·simp [fV h']at h1
   have h2:=wpOp_putIf hoj (hfree j oj hoj hji hjun hnot) (fun cs b=>hsel i oi cs b hi) (fun cs b=>hsel j oj cs b hoj) hQ hy h1
   have hfree' : ∀k ok,ops[k]? = some ok->k≠i->(listed.setIfInBounds j true).getD k true=false->
     (∀e∈ok.after,Region.binds .any e=true->e.on≠i)->oi.apart ops ok=true:=fun k ok hk hki hun hno=>by
    refine hfree k ok hk hki ?_ hno
    by_cases hjk:j=k
    ·subst hjk;exact hjun
    ·rw [getD_set_ne true hjk]at hun;exact hun
   have hri:i∈Region.ready .any ops (listed.setIfInBounds j true):=ready_mono hr (lD hji)
   have hns:postAt ops T j=true->False:=fun hsk=>by
    have h1:=hdown.anc hj (Rq hsk hT (lD hji))
    have h0:=(mem_ready.1 hr).1
    rcases eG i listed.size with h'|h'
    ·simp [h']at h0 h1;rw [h0]at h1;cases h1
    ·simp [fV h']at h1
   refine wpOp_mono (fun a' w' h3=> ?_) h2
   have h4:=h3.2.resolve_left fun hh=>hns hh.1
   refine .inr ⟨h4.1,ih (listed.setIfInBounds j true) a' w' hfree' (hdown.set hj) hri h3.1 h4.1 ?_⟩
   rw [kJ _ _ hji]
   exact h4.2
theorem zn (hsel:Region.noSelect ops=true)(hok : ∀o∈ops.toList,qU N W o=true∧wV o=true){K:lV->Nat->lI->Prop} :
  ∀(p:Plan) (D:List Nat) (T:List Nat) (listed:Array Bool) (nZ:lV) (n:Nat) (σ:Nat->Loc) (F:Nat->Prop) (H:lI) (ρ:mG) (a:Act) (w:World),pz ops p listed=true->qy ops T p=true->Down ops listed->Fits N ds ρ a->Same W lS ρ->St G lT lY lZ n σ F H w->Ext nb qI Fb wb n σ F w->rC n σ F w nZ ρ->
   aD P G ops.toList D p nZ n H K->∀fuel,p.depth<=fuel->qJ P ops (RA (Lu G lT lY lZ N ds W lS nb qI Fb wb K)) fuel T (Keeps σ D H w) listed a w:=by
 have mem : ∀ {i:Nat} {o:Oper},ops.toList[i]? = some o->ops[i]? = some o∧qU N W o=true∧wV o=true:=fun {i o} h=>
  ⟨by rw [<-bF];exact h,hok o (aU h)⟩
 have fin : ∀ {T:List Nat} {S:World->Prop} {listed:Array Bool} {nZ:lV} {n:Nat} {σ:Nat->Loc} {F:Nat->Prop} {H:lI} {ρ:mG} {a:Act} {w:World},Region.ready .any ops listed = []->Fits N ds ρ a->Same W lS ρ->St G lT lY lZ n σ F H w->Ext nb qI Fb wb n σ F w->rC n σ F w nZ ρ->K nZ n H->
   ∀fuel,qJ P ops (RA (Lu G lT lY lZ N ds W lS nb qI Fb wb K)) fuel T S listed a w:=by
  intro T S listed nZ n σ F H ρ a w hr hf hs st x hrep h fuel
  cases fuel with
  | zero=>exact⟨hr,ρ,nZ,n,σ,F,H,hf,hs,st,x,hrep,h⟩
  | succ m=>exact⟨fun _=>⟨ρ,nZ,n,σ,F,H,hf,hs,st,x,hrep,h⟩,by rw [hr];simp⟩
 intro p
 have one : ∀(p:Plan),(∀(D:List Nat) (T:List Nat) (listed:Array Bool) (nZ:lV) (n:Nat) (σ:Nat->Loc) (F:Nat->Prop) (H:lI) (ρ:mG) (a:Act) (w:World),pz ops p listed=true->qy ops T p=true->Down ops listed->Fits N ds ρ a->Same W lS ρ->St G lT lY lZ n σ F H w->Ext nb qI Fb wb n σ F w->rC n σ F w nZ ρ->
   aD P G ops.toList D p nZ n H K->∀fuel,p.depth<=fuel->qJ P ops (RA (Lu G lT lY lZ N ds W lS nb qI Fb wb K)) fuel T (Keeps σ D H w) listed a w)->
   ∀(i:Nat) (o:Oper) (D:List Nat) (T:List Nat) (listed:Array Bool) (nZ:lV) (n:Nat) (σ:Nat->Loc) (F:Nat->Prop) (H:lI) (ρ:mG) (a:Act) (w:World),ops.toList[i]? = some o->pz ops p (listed.setIfInBounds i true)=true->qy ops T p=true->Down ops (listed.setIfInBounds i true)->Fits N ds ρ a->Same W lS ρ->St G lT lY lZ n σ F H w->Ext nb qI Fb wb n σ F w->rC n σ F w nZ ρ->
   (GU ops.toList o nZ (fun ρ'=>aE P G o ρ' n (vW D H) fun a n' H'=>aD P G ops.toList (dx o n D) p (qm ρ' o.dst a) n' (H'++tX D H) K) fun ρ'=>aD P G ops.toList D p (qm ρ' o.dst (.v undef)) n H K)->
   ∀fuel,p.depth<=fuel->wpOp P ops (RA (Lu G lT lY lZ N ds W lS nb qI Fb wb K)) i (fun a' w'=>(postAt ops T i=true∧∃T' S',qJ P ops (RA (Lu G lT lY lZ N ds W lS nb qI Fb wb K)) fuel T' S' (listed.setIfInBounds i true) a' w')∨(Keeps σ D H w w'∧qJ P ops (RA (Lu G lT lY lZ N ds W lS nb qI Fb wb K)) fuel T (Keeps σ D H w) (listed.setIfInBounds i true) a' w')) a w:=by
  intro p ih i o D T listed nZ n σ F H ρ a w DI hp hpo hdn hf hs st x hr h fuel hfu
  obtain⟨hi,ho,GZ⟩:=mem DI
  obtain⟨oL,hr',h⟩:=qP hf hr h
  unfold Go.wpOp
  simp only [hi]
  rcases h with ⟨hw,hv⟩|⟨hw,hv⟩
  ·simp only [hw,if_true]
   refine .inl ((sD (zi hv GZ (st.sub fun k b hk=>(rV hk).2).start hr')).wp hf.eval fun v w' ht=> ?_)
   obtain⟨a',n',σ',F',H',hk,s,x',ra,hkeep⟩:=XD (dx o n D) (fun k hk=>ae1 hk) st ht
   exact .inr ⟨hkeep w' (yE _ _ _ _),zl hkeep _ _ _ _ (ih _ _ _ _ _ _ _ _ _ _ _ hp hpo hdn (hf.put o.dst v (oC ho)) (hs.oN ho) s (x.trans x') (qH hr' x' ra) hk fuel hfu)⟩
  ·simp only [hw,aX,if_false]
   exact .inr ⟨yE _ _ _ _,ih _ _ _ _ _ _ _ _ _ _ _ hp hpo hdn (hf.put o.dst undef (oC ho)) (hs.oN ho) st x (qH hr' (Ext.refl _ _ _ _) (.v undef)) hv fuel hfu⟩
 induction p with
 | done=>
  intro D T listed nZ n σ F H ρ a w hp hpo hdn hf hs st x hr h fuel _
  exact fin (by simpa [pz]using hp) hf hs st x hr h fuel
 | take i p ih=>
  intro D T listed nZ n σ F H ρ a w hp hpo hdn hf hs st x hr h fuel hfu
  simp only [pz,ak]at hp
  obtain⟨⟨⟨hq,hrd⟩,hfree⟩,hp'⟩:=hp
  simp only [qy,ak]at hpo
  have hTi:i∈T:=by simpa using hpo.1
  simp only [aD,rJ,sJ,pq]at h
  split at h
  ·rename_i o DI
   obtain⟨hi,ho,GZ⟩:=mem DI
   simp only [hi]at hq
   cases fuel with
   | zero=>simp [Plan.depth]at hfu
   | succ fuel=>
    have DJ:p.depth<=fuel:=abk
    obtain⟨oL,hr',h⟩:=qP hf hr h
    have go : ∀(v:Value) (av:AV),YieldsIf P ops (Keeps σ D H w) o v a->mM n σ F w av v->aD P G ops.toList D p (qm oL o.dst av) n H K->qJ P ops (RA (Lu G lT lY lZ N ds W lS nb qI Fb wb K)) (fuel+1) T (Keeps σ D H w) listed a w:=fun v av hy ra hv=>
     Ce hi hTi (Region.noSelect_spec hsel) (fun c a w hq=>hq) fuel listed a w (Region.free_spec hi hfree) hdn ake hy (yE _ _ _ _)
      (ih _ _ _ _ _ _ _ _ _ _ _ hp' hpo.2 (hdn.set ake) (hf.put o.dst v (oC ho)) (hs.oN ho) st x (qH hr' (Ext.refl _ _ _ _) ra) hv fuel DJ)
    rcases h with ⟨hw,hv⟩|⟨hw,hv⟩
    ·have hH:wC n σ F w (tX D H):=fun k b hk=>st.blk k b (vg hk).2
     obtain⟨av,v,hk,ra,hrun⟩:=Gz hv GZ hH st.hrep hr'
     refine go v av (.inl ⟨hw,fun u hu=> ?_⟩) ra hk
     rw [hf.eval]
     obtain⟨v',he,hvv,_⟩:=(sD (hrun u true (fun v' u'=>v'=v∧u'=u) (GY st hu) ⟨rfl,rfl⟩)).quiet hq
     rw [he,hvv]
    ·exact go undef (.v undef) (.inr ⟨hw,rfl⟩) (.v undef) hv
  ·cases h
 | one i p ih=>
  intro D T listed nZ n σ F H ρ a w hp hpo hdn hf hs st x hr h fuel hfu
  simp only [pz,ak,beq_iff_eq]at hp
  obtain⟨hrd,hp'⟩:=hp
  simp only [aD,rJ,sJ,pq]at h
  split at h
  ·rename_i o DI
   cases fuel with
   | zero=>simp [Plan.depth]at hfu
   | succ fuel=>
    have DJ:p.depth<=fuel:=abk
    refine⟨fun e=>ahY,fun j hj=> ?_⟩
    rw [hrd]at hj
    simp only [aW]at hj
    subst hj
    exact one p ih j o D T listed nZ n σ F H ρ a w DI hp' hpo (hdn.set (i:=j) ah8) hf hs st x hr h fuel DJ
  ·cases h
 | two i p j r ihp ihr=>
  intro D T listed nZ n σ F H ρ a w hp hpo hdn hf hs st x hr h fuel hfu
  simp only [pz,ak,beq_iff_eq]at hp
  obtain⟨⟨hrd,hp'⟩,hr'⟩:=hp
  simp only [qy,ak]at hpo
  simp only [aD,rJ,sJ,pq]at h
  split at h
  ·rename_i o o' DI hjo
   obtain⟨ha,hb⟩:=h
   cases fuel with
   | zero=>simp [Plan.depth]at hfu
   | succ fuel=>
    have KF:p.depth<=fuel:=abk
    have hfu2:r.depth<=fuel:=abk
    refine⟨fun e=>ahY,fun k hk=> ?_⟩
    rw [hrd]at hk
    simp only [bI,iL,or_false]at hk
    rcases hk with rfl|rfl
    ·exact one p ihp k o D T listed nZ n σ F H ρ a w DI hp' hpo.1 (hdn.set (i:=k) ah8) hf hs st x hr ha fuel KF
    ·exact one r ihr k o' D T listed nZ n σ F H ρ a w hjo hr' hpo.2 (hdn.set (i:=k) ah8) hf hs st x hr hb fuel hfu2
  ·cases h
 | three i p j r k q ihp ihr ihq=>
  intro D T listed nZ n σ F H ρ a w hp hpo hdn hf hs st x hr h fuel hfu
  simp only [pz,ak,beq_iff_eq]at hp
  obtain⟨⟨⟨hrd,hp'⟩,hr'⟩,hq'⟩:=hp
  simp only [qy,ak]at hpo
  simp only [aD,rJ,sJ,pq]at h
  split at h
  ·rename_i o o' o'' DI hjo hko
   obtain⟨ha,hb,hc⟩:=h
   cases fuel with
   | zero=>simp [Plan.depth]at hfu
   | succ fuel=>
    have KF:p.depth<=fuel:=abk
    have hfu2:r.depth<=fuel:=abk
    have aaW:q.depth<=fuel:=abk
    refine⟨fun e=>ahY,fun k hk=> ?_⟩
    rw [hrd]at hk
    simp only [bI,iL,or_false]at hk
    rcases hk with rfl|rfl|rfl
    ·exact one p ihp k o D T listed nZ n σ F H ρ a w DI hp' hpo.1.1 (hdn.set (i:=k) ah8) hf hs st x hr ha fuel KF
    ·exact one r ihr k o' D T listed nZ n σ F H ρ a w hjo hr' hpo.1.2 (hdn.set (i:=k) ah8) hf hs st x hr hb fuel hfu2
    ·exact one q ihq k o'' D T listed nZ n σ F H ρ a w hko hq' hpo.2 (hdn.set (i:=k) ah8) hf hs st x hr hc fuel aaW
  ·cases h
 | sink i=>
  intro D T listed nZ n σ F H ρ a w hp hpo hdn hf hs st x hr h fuel hfu
  simp only [pz,ak,beq_iff_eq]at hp
  obtain⟨⟨hrd,hsk⟩,he⟩:=hp
  simp only [aD,rJ,sJ,pq]at h
  split at h
  ·rename_i o DI
   obtain⟨hi,ho,GZ⟩:=mem DI
   cases fuel with
   | zero=>simp [Plan.depth]at hfu
   | succ fuel=>
    refine⟨fun e=>ahY,fun j hj=> ?_⟩
    rw [hrd]at hj
    simp only [aW]at hj
    subst hj
    have he':Region.ready .any ops (listed.setIfInBounds j true) = []:=by simpa using he
    obtain⟨oL,hr',h⟩:=qP hf hr h
    unfold Go.wpOp
    simp only [hi]
    rcases h with ⟨hw,hv⟩|⟨hw,hv⟩
    ·simp only [hw,if_true]
     refine .inl ((sD (zi hv GZ st hr')).wp hf.eval fun v w' ⟨a',n',σ',F',H',hk,s,x',ra⟩=> ?_)
     exact .inl ⟨hpo,[],fun _=>True,fin he' (hf.put o.dst v (oC ho)) (hs.oN ho) s (x.trans x') (qH hr' x' ra) hk fuel⟩
    ·simp only [hw,aX,if_false]
     exact .inl ⟨hpo,[],fun _=>True,fin he' (hf.put o.dst undef (oC ho)) (hs.oN ho) st x (qH hr' (Ext.refl _ _ _ _) (.v undef)) hv fuel⟩
  ·cases h
 | post i p ih=>
  intro D T listed nZ n σ F H ρ a w hp hpo hdn hf hs st x hr h fuel hfu
  simp only [pz,ak,beq_iff_eq]at hp
  obtain⟨hrd,hp'⟩:=hp
  simp only [qy,ak]at hpo
  simp only [aD,rJ,sJ,pq]at h
  split at h
  ·rename_i o DI
   obtain⟨hi,ho,GZ⟩:=mem DI
   cases fuel with
   | zero=>simp [Plan.depth]at hfu
   | succ fuel=>
    have DJ:p.depth<=fuel:=abk
    refine⟨fun e=>ahY,fun j hj=> ?_⟩
    rw [hrd]at hj
    simp only [aW]at hj
    subst hj
    have xq:=hdn.set (i:=j) ah8
    obtain⟨oL,hr',h⟩:=qP hf hr h
    unfold Go.wpOp
    simp only [hi]
    rcases h with ⟨hw,hv⟩|⟨hw,hv⟩
    ·simp only [hw,if_true]
     refine .inl ((sD (zi hv GZ st hr')).wp hf.eval fun v w' ⟨a',n',σ',F',H',hk,s,x',ra⟩=> ?_)
     exact .inl ⟨hpo.1,takes p,_,ih _ _ _ _ _ _ _ _ _ _ _ hp' hpo.2 xq (hf.put o.dst v (oC ho)) (hs.oN ho) s (x.trans x') (qH hr' x' ra) hk fuel DJ⟩
    ·simp only [hw,aX,if_false]
     exact .inl ⟨hpo.1,takes p,_,ih _ _ _ _ _ _ _ _ _ _ _ hp' hpo.2 xq (hf.put o.dst undef (oC ho)) (hs.oN ho) st x (qH hr' (Ext.refl _ _ _ _) (.v undef)) hv fuel DJ⟩
  ·cases h
theorem St.drew {n:Nat}{σ:Nat->Loc}{F:Nat->Prop}{H:lI}{w:World}(st:St G lT lY lZ n σ F H w):St G lT lY lZ n σ F H w.drew:=
 ⟨st.glob,⟨st.qF.os,st.qF.tape,st.qF.output,st.qF.size,st.qF.block⟩,st.oG,st.lab,st.mu,st.inj,fun k b hk=>uS.mono (n:=n) (σ:=σ) (F:=F) (w:=w) (w':=w.drew) ⟨au _,fun _ _=>rfl,fun _ h=>⟨h,rfl⟩,au _⟩ (st.blk k b hk) fun _ _ _=>rfl⟩
theorem G5 (n:Nat)(σ:Nat->Loc)(F:Nat->Prop)(w:World):Ext n σ F w n σ F w.drew:=⟨au _,fun _ _=>rfl,fun _ h=>⟨h,rfl⟩,au _⟩
theorem VH {Q:Exit->Act->World->Prop}{ns:List Nd}{ws:Nat->Bool}{nb:Nat}{A:Nat->NS}{σs:Nat->Loc}{Fs:Nat->Prop}{Hs:lI}{D:List Nat}{wb:World}{ρs:lV}{ρc:mG}{T:List Nat}{e:Nat}
  (abg:aeb ops ns=true) (hok : ∀o∈ops.toList,qU N (fun k=>W k&&ws k) o=true∧wV o=true)
  (hle : ∀j,nb<=(A j).n) (hun : ∀j s,ws s=false->(A j).ρ s=ρs s) (hrs:rC nb σs Fs wb ρs ρc)
  (hstep : ∀k nd,ns[k]? = some nd->∀s∈nd.succ,TI P G ops.toList ws nb A k s)
  (hend : ∀k nd,ns[k]? = some nd->nd.succ = []->∀(σ:Nat->Loc) (F:Nat->Prop) (ρ:mG) (a:Act) (w:World),Down ops nd.listed->Fits N ds ρ a->Same (fun k=>W k&&ws k) ρc ρ->St G wb (uJ wb σs (vW D Hs)) Fs (A k).n σ F (A k).H w->Ext nb σs Fs wb (A k).n σ F w->rC (A k).n σ F w (A k).ρ ρ->∀fuel,e<=fuel->qJ P ops Q fuel T (Keeps σs D Hs wb) nd.listed a w) :
  ∀(m:Nat) (k:Nat) (nd:Nd),ns[k]? = some nd->nd.dep<=m->∀(σ:Nat->Loc) (F:Nat->Prop) (ρ:mG) (a:Act) (w:World),Down ops nd.listed->Fits N ds ρ a->Same (fun k=>W k&&ws k) ρc ρ->St G wb (uJ wb σs (vW D Hs)) Fs (A k).n σ F (A k).H w->Ext nb σs Fs wb (A k).n σ F w->rC (A k).n σ F w (A k).ρ ρ->∀fuel,m+e<=fuel->qJ P ops Q fuel T (Keeps σs D Hs wb) nd.listed a w:=by
 have mem : ∀ {i:Nat} {o:Oper},ops.toList[i]? = some o->ops[i]? = some o∧qU N (fun k=>W k&&ws k) o=true∧wV o=true:=fun {i o} h=>
  ⟨by rw [<-bF];exact h,hok o (aU h)⟩
 intro m
 induction m with
 | zero=>
  intro k nd hk hd σ F ρ a w hdn hf hs st x hr fuel hfu
  cases hsu:nd.succ with
  | nil=>exact hend k nd hk hsu σ F ρ a w hdn hf hs st x hr fuel aai
  | cons s r=>
   exfalso
   have h1:=bP.1 abg nd (aU hk)
   rw [hsu]at h1
   simp only [List.isEmpty_cons,jO,ak,bP]at h1
   have h2:=h1.2 s dw
   split at h2
   ·simp only [ak]at h2
    have h3:=h2.2
    rw [Nat.blt_eq]at h3
    omega
   ·cases h2
 | succ m ih=>
  intro k nd hk hd σ F ρ a w hdn hf hs st x hr fuel hfu
  cases hsu:nd.succ with
  | nil=>exact hend k nd hk hsu σ F ρ a w hdn hf hs st x hr fuel aai
  | cons s0 r0=>
   have h1:=bP.1 abg nd (aU hk)
   have hne:nd.succ.isEmpty=false:=by rw [hsu];rfl
   rw [hne]at h1
   simp only [jO,ak,bP,beq_iff_eq]at h1
   obtain⟨hrd,hall⟩:=h1
   cases fuel with
   | zero=>omega
   | succ fuel=>
    refine⟨fun e=> ?_,fun i hi=> ?_⟩
    ·rw [hrd,hsu]at e;cases e
    rw [hrd]at hi
    have hin:i∈Region.ready .any ops nd.listed:=by rw [hrd];exact hi
    obtain⟨s,hsm,rfl⟩:=dW.1 hi
    have h2:=hall s hsm
    split at h2
    ·rename_i nj hj
     simp only [ak,beq_iff_eq]at h2
     obtain⟨hlj,hdj⟩:=h2
     rw [Nat.blt_eq]at hdj
     have h:=hstep k nd hk s hsm
     unfold TI at h
     split at h
     ·rename_i o DI
      obtain⟨hi',ho,GZ⟩:=mem DI
      simp only [rJ]at h
      obtain⟨oL,hr',h⟩:=qP hf hr h
      have next : ∀(v:Value) (w':World) (n':Nat) (σ':Nat->Loc) (F':Nat->Prop) (H':lI) (vX:lV),St G wb (uJ wb σs (vW D Hs)) Fs n' σ' F' H' w'->Ext (A k).n σ F w n' σ' F' w'->rC n' σ' F' w' vX (oN ρ o.dst v)->Oh (JE G ws nb vX n' H' (A s.2).ρ (A s.2).n (A s.2).H)->Keeps σs D Hs wb w'∧qJ P ops Q fuel T (Keeps σs D Hs wb) (nd.listed.setIfInBounds s.1 true) (a.put o.dst v) w':=by
       intro v w' n' σ' F' H' vX s' x' r' hb
       obtain⟨σ2,F2,s2,r2,l2,f2⟩:=hb.holds wb (uJ wb σs (vW D Hs)) Fs σ' F' w' (oN ρ o.dst v) s' fun t _=>r' t
       have xx:=x.trans x'
       have x2:Ext nb σs Fs wb (A s.2).n σ2 F2 w':=⟨hle _,fun l hl=>(l2 l hl).trans (xx.s l hl),fun b hb=>⟨f2 b (xx.f b hb).1,(xx.f b hb).2⟩,xx.sz⟩
       refine⟨⟨xx.sz,fun b hb hn=>s2.qF.block b hb hn⟩, ?_⟩
       rw [<-hlj]
       refine ih s.2 nj hj aai σ2 F2 _ _ w' (by rw [hlj];exact hdn.set hin) (hf.put o.dst v (oC ho)) (hs.oN ho) s2 x2 (fun t=> ?_) fuel aai
       cases hws:ws t with
       | true=>exact r2 t hws
       | false=>
        have hsame:=hs.oN (v:=v) ho t (by simp [hws])
        rw [hun _ t hws,hsame]
        exact(hrs t).mono x2
      unfold Go.wpOp
      simp only [hi']
      rcases h with ⟨hw,hv⟩|⟨hw,hv⟩
      ·simp only [hw,if_true]
       refine .inl ((sD (zi hv GZ st hr')).wp hf.eval fun v w' ⟨a',n',σ',F',H',hk',s',x',ra⟩=> ?_)
       exact .inr (next v w' n' σ' F' H' _ s' x' (qH hr' x' ra) hk')
      ·simp only [hw,aX,if_false]
       exact .inr (next undef w _ σ F _ _ st (Ext.refl _ _ _ _) (qH hr' (Ext.refl _ _ _ _) (.v undef)) hv)
     ·cases h
    ·cases h2
theorem Oi {K:lV->Prop}{Kw:Act->World->Prop}{T:List Nat}{D:List Nat}{n:Nat}{σ:Nat->Loc}{F:Nat->Prop}{H:lI}{w:World}{k:Array Bool->Bool}{fuel:Nat}
  (hsel:Region.noSelect ops=true) (hok : ∀o∈ops.toList,qU N W o=true∧wV o=true) (st:St G lT lY lZ n σ F H w)
  (hend : ∀(listed:Array Bool) (nZ:lV) (ρ:mG) (a:Act),k listed=true->Down ops listed->Fits N ds ρ a->Same W lS ρ->rC n σ F w nZ ρ->K nZ->qJ P ops (RA Kw) fuel T (Keeps σ D H w) listed a w) :
  ∀(ts:List Nat) (listed:Array Bool) (nZ:lV) (ρ:mG) (a:Act),TJ ops T ts listed k=true->Down ops listed->Fits N ds ρ a->Same W lS ρ->rC n σ F w nZ ρ->aDT P G ops.toList (tX D H) H ts nZ K->qJ P ops (RA Kw) (fuel+ts.length) T (Keeps σ D H w) listed a w:=by
 have mem : ∀ {i:Nat} {o:Oper},ops.toList[i]? = some o->ops[i]? = some o∧qU N W o=true∧wV o=true:=fun {i o} h=>
  ⟨by rw [<-bF];exact h,hok o (aU h)⟩
 intro ts
 induction ts with
 | nil=>intro listed nZ ρ a hk hdn hf hs hr h;exact hend listed nZ ρ a hk hdn hf hs hr h
 | cons i ts ih=>
  intro listed nZ ρ a hp hdn hf hs hr h
  simp only [TJ,ak]at hp
  obtain⟨⟨⟨⟨hq,hrd⟩,hfree⟩,hT⟩,hp'⟩:=hp
  have hTi:i∈T:=by simpa using hT
  simp only [aDT,sJ]at h
  split at h
  ·rename_i o DI
   obtain⟨hi,ho,GZ⟩:=mem DI
   simp only [hi]at hq
   obtain⟨oL,hr',h⟩:=qP hf hr h
   have go : ∀(v:Value) (av:AV),YieldsIf P ops (Keeps σ D H w) o v a->mM n σ F w av v->aDT P G ops.toList (tX D H) H ts (qm oL o.dst av) K->qJ P ops (RA Kw) (fuel+ts.length+1) T (Keeps σ D H w) listed a w:=fun v av hy ra hv=>
    Ce hi hTi (Region.noSelect_spec hsel) (fun c a w hq=>hq) (fuel+ts.length) listed a w (Region.free_spec hi hfree) hdn ake hy (yE _ _ _ _)
     (ih _ _ _ _ hp' (hdn.set ake) (hf.put o.dst v (oC ho)) (hs.oN ho) (qH hr' (Ext.refl _ _ _ _) ra) hv)
   rcases h with ⟨hw,hv⟩|⟨hw,hv⟩
   ·have hH:wC n σ F w (tX D H):=fun k b hk=>st.blk k b (vg hk).2
    obtain⟨av,v,hk,ra,hrun⟩:=Gz hv GZ hH st.hrep hr'
    refine go v av (.inl ⟨hw,fun u hu=> ?_⟩) ra hk
    rw [hf.eval]
    obtain⟨v',he,hvv,_⟩:=(sD (hrun u true (fun v' u'=>v'=v∧u'=u) (GY st hu) ⟨rfl,rfl⟩)).quiet hq
    rw [he,hvv]
   ·exact go undef (.v undef) (.inr ⟨hw,rfl⟩) (.v undef) hv
  ·cases h
theorem VI {n:Nat}{σ:Nat->Loc}{F:Nat->Prop}{H:lI}{w w':World}{D:List Nat}(st:St G lT lY lZ n σ F H w){n':Nat}{σ':Nat->Loc}{F':Nat->Prop}{H':lI}(s:St G w (uJ w σ (vW D H)) F n' σ' F' H' w')(x:Ext n σ F w n' σ' F' w') :
  ∀u,Keeps σ' D (H'++tX D H) w' u->Keeps σ D H w u:=by
 intro u hu
 refine⟨bG x.sz hu.1,fun b hb hn=> ?_⟩
 rw [hu.2 b (aP hb x.sz) fun⟨k,c,e1,e2,e3⟩=> ?_]
 ·exact s.qF.block b hb hn
 ·obtain⟨f1,f2⟩:=rV e1
  rcases nK f2 with g1|⟨_,g1⟩
  ·rcases(s.mu k c b g1 e2 e3).2.2.2 with e|e
   ·exact hn e
   ·omega
  ·have h0:=vg g1
   have:=h0.1
   rw [f1]at this;cases this
theorem TK {K:lV->Nat->lI->Prop}{nZ:lV}{n:Nat}{σ:Nat->Loc}{F:Nat->Prop}{H:lI}{ρ:mG}{a:Act}{w:World}(hok : ∀o∈ops.toList,qU N W o=true∧wV o=true)
  (hf:Fits N ds ρ a) (hs:Same W lS ρ) (st:St G lT lY lZ n σ F H w) (x:Ext nb qI Fb wb n σ F w) (hr:rC n σ F w nZ ρ)
  {T ts:List Nat} {ns:List Nd} {p:Plan} {e:Nat} {D:List Nat} {ws:Nat->Bool} {A:Nat->NS} (hd:D7 ops T ts ns p e=true) (hws:(ops.toList.all fun o=>match o.dst with|some d=>ws d|none=>true)=true)
  (hle : ∀j,n<=(A j).n) (hun : ∀j s,ws s=false->(A j).ρ s=nZ s)
  (h0:aDT P G ops.toList (tX D H) H ts nZ fun ρ'=>Oh (JE G ws n ρ' n (vW D H) (A 0).ρ (A 0).n (A 0).H))
  (hstep : ∀k nd,ns[k]? = some nd->∀s∈nd.succ,TI P G ops.toList ws n A k s)
  (hE : ∀k nd,ns[k]? = some nd->nd.succ = []->aD P G ops.toList D p (A k).ρ (A k).n ((A k).H++tX D H) K) :
  wpAny P .any ops (RA (Lu G lT lY lZ N ds W lS nb qI Fb wb K)) ops.size (Array.replicate ops.size false) a w.drew:=by
 have e1:=G5 n σ F w
 simp only [D7,ak]at hd
 obtain⟨⟨⟨⟨⟨⟨htl,hsel⟩,abg⟩,hpo⟩,DK⟩,hpl⟩,htk⟩:=hd
 have htl:=aF htl
 have hok2 : ∀o∈ops.toList,qU N (fun k=>W k&&ws k) o=true∧wV o=true:=fun o ho=>by
  refine⟨?_,(hok o ho).2⟩
  have h1:=(hok o ho).1
  have h2:=bP.1 hws o ho
  unfold qU at h1 ⊢
  cases hd:o.dst with
  | none=>rfl
  | some d=>
   rw [hd]at h1 h2
   simp only [ak]at h1 ⊢
   exact⟨h1.1,h1.2,h2⟩
 have hr1:rC n σ F w.drew nZ ρ:=fun s=>(hr s).mono e1
 have st1:=st.drew
 have main : ∀fuel,ops.size<=fuel+ts.length->qJ P ops (RA (Lu G lT lY lZ N ds W lS nb qI Fb wb K)) (fuel+ts.length) T (Keeps σ D H w.drew) (Array.replicate ops.size false) a w.drew:=by
  intro fuel hfuel
  refine Oi (W:=fun k=>W k&&ws k) (lS:=ρ) hsel hok2 st1 (fun listed oL ρ' a' hk hdn hf' hs' hr' hK=> ?_) ts _ nZ ρ a htk (fun j o _ hl=>by rw [vM]at hl;cases hl) hf (Same.refl _ _) hr1 h0
  split at hk
  ·rename_i n0 hn0
   simp only [ak,beq_iff_eq]at hk
   obtain⟨rfl,hsz⟩:=hk
   have hsz:=aF hsz
   obtain⟨σ2,F2,s2,r2,l2,f2⟩:=hK.holds w.drew (uJ w.drew σ (vW D H)) F σ F w.drew ρ' (st1.sub fun k b hk=>(rV hk).2).start fun t _=>hr' t
   have x2:Ext n σ F w.drew (A 0).n σ2 F2 w.drew:=⟨hle 0,l2,fun b hb=>⟨f2 b hb,rfl⟩,au _⟩
   refine VH (e:=e) abg hok2 hle hun hr1 hstep (fun k nd hk hnil σ' F' ρ3 a3 w3 akK hf3 hs3 s3 x3 hr3 fuel' DJ=> ?_) n0.dep 0 n0 hn0 (au _) σ2 F2 ρ' a' w.drew hdn hf' hs' s2 x2 (fun t=> ?_) fuel aai
   ·have akL:pz ops p nd.listed=true:=by
     have:=bP.1 hpl nd (aU hk)
     rw [hnil]at this
     simpa using this
    have hj:=st1.join (fun k b hk=>(rV hk).2) XC s3 x3
    refine zl (VI st1 s3 x3) _ _ _ _ ?_
    have:=zn (nb:=nb) (qI:=qI) (Fb:=Fb) (wb:=wb) (W:=W) (lS:=lS) hsel hok p D T nd.listed (A k).ρ (A k).n σ' F' _ ρ3 a3 w3 akL hpo akK hf3 (hs.trans fun t ht=>hs3 t (by simp [ht])) hj ((x.trans e1).trans x3) hr3 (hE k nd hk hnil) fuel' (bG (aF DK) DJ)
    exact this
   ·cases hw:ws t with
    | true=>exact r2 t hw
    | false=>
     rw [hun _ t hw,hs' t (by simp [hw])]
     exact(hr1 t).mono x2
  ·cases hk
 have h:=main (ops.size-ts.length) aai
 rw [Nat.sub_add_cancel htl]at h
 exact sK _ _ _ _ _ _ h
theorem zk.sound {id:Nat}{K:lV->Nat->lI->Prop}{nZ:lV}{n:Nat}{σ:Nat->Loc}{F:Nat->Prop}{H:lI}{ρ:mG}{a:Act}{w:World}(hm:P.follows .mixedOrders=true)(hok : ∀o∈ops.toList,qU N W o=true∧wV o=true)
  (hf:Fits N ds ρ a) (hs:Same W lS ρ) (st:St G lT lY lZ n σ F H w) (x:Ext nb qI Fb wb n σ F w) (hr:rC n σ F w nZ ρ) (h:zk P G id ops K nZ n H) :
  (Code.region id ops true).wp P (RA (Lu G lT lY lZ N ds W lS nb qI Fb wb K)) a w:=by
 have e:=G5 n σ F w
 rcases h.ex with ⟨p,D,hd,hv⟩|⟨p,D,ws,ρ',n',H',hd,hws,hle,hun,hv,hk⟩|⟨T,ts,ns,p,e',D,ws,A,hd,hws,hle,hun,h0,hstep,hE⟩
 ·simp only [uV,vK,ak]at hd
  obtain⟨⟨⟨hsel,DK⟩,hp⟩,hpo⟩:=hd
  exact wp_region_any hm (sK _ _ _ _ _ _ (zn hsel hok p D (takes p) _ nZ n σ F H ρ a w.drew hp hpo (fun j o _ hl=>by rw [vM]at hl;cases hl) hf hs st.drew (x.trans e) (fun s=>(hr s).mono e) hv ops.size (aF DK)))
 ·simp only [uV,vK,ak]at hd
  obtain⟨⟨⟨hsel,DK⟩,hp⟩,hpo⟩:=hd
  have hok2 : ∀o∈ops.toList,qU N (fun k=>W k&&ws k) o=true∧wV o=true:=fun o ho=>by
   refine⟨?_,(hok o ho).2⟩
   have h1:=(hok o ho).1
   have h2:=bP.1 hws o ho
   unfold qU at h1 ⊢
   cases hd:o.dst with
   | none=>rfl
   | some d=>
    rw [hd]at h1 h2
    simp only [ak]at h1 ⊢
    exact⟨h1.1,h1.2,h2⟩
  have hr':rC n σ F w.drew nZ ρ:=fun s=>(hr s).mono e
  refine Go.wp_mono (wp_region_any hm (sK _ _ _ _ _ _ (zn (W:=fun k=>W k&&ws k) (lS:=ρ) (nb:=n) (qI:=σ) (Fb:=F) (wb:=w.drew) hsel hok2 p D (takes p) _ nZ n σ F H ρ a w.drew hp hpo (fun j o _ hl=>by rw [vM]at hl;cases hl) hf (Same.refl _ _) st.drew (Ext.refl _ _ _ _) hr' hv ops.size (aF DK)))) fun ex a' w' hq=> ?_
  cases ex with
  | normal=>
   obtain⟨Oj,ae3,Tn,Dv,LC,qL,XE,hs₁,XF,Nk,XG,XH⟩:=hq
   obtain⟨σ',F',s',r',l',f'⟩:=XH.holds lT lY lZ Dv LC w' Oj XF fun s _=>XG s
   have x':Ext n σ F w.drew n' σ' F' w':=⟨hle,fun l hl=>(l' l hl).trans (Nk.s l hl),fun b hb=>⟨f' b (Nk.f b hb).1,(Nk.f b hb).2⟩,Nk.sz⟩
   refine⟨Oj,ρ',n',σ',F',H',XE,hs.trans fun k hk=>hs₁ k ahT,s',(x.trans e).trans x',fun s=> ?_,hk⟩
   cases Rt:ws s with
   | true=>exact r' s Rt
   | false=>
    rw [hun s Rt,hs₁ s (by simp [Rt])]
    exact(hr' s).mono x'
  | exit id=>exact hq.elim
  | ret=>exact hq.elim
  | goto l=>exact hq.elim
  | panic ch=>exact hq.elim
  | outgrown=>exact hq.elim
 ·exact wp_region_any hm (TK hok hf hs st x hr hd hws hle hun h0 hstep hE)
end
def ain (V:(Ex->lV->Nat->lI->Prop)->lV->Nat->lI->Prop)(Q:Ex->lV->Nat->lI->Prop)(e:Ex)(ρ:lV)(n:Nat)(H:lI):Prop:=
 match e with
 | .normal=>V Q ρ n H
 | .exit id=>Q (.exit id) ρ n H
 | .ret=>Q .ret ρ n H
def abh (id:Nat)(Q:Ex->lV->Nat->lI->Prop)(e:Ex)(ρ:lV)(n:Nat)(H:lI):Prop:=
 match e with
 | .normal=>Q .normal ρ n H
 | .exit j=>Q (bif Nat.beq j id then .normal else .exit j) ρ n H
 | .ret=>Q .ret ρ n H
def LD (R:lV->Nat->lI->Prop)(Q:Ex->lV->Nat->lI->Prop)(e:Ex)(ρ:lV)(n:Nat)(H:lI):Prop:=
 match e with
 | .normal=>R ρ n H
 | .exit id=>Q (.exit id) ρ n H
 | .ret=>Q .ret ρ n H
structure G6 (p:Prop):Prop where
 holds:p
def XI (B:(Ex->lV->Nat->lI->Prop)->lV->Nat->lI->Prop)(Q:Ex->lV->Nat->lI->Prop):Nat->lV->Nat->lI->Prop
 | 0,_,_,_=>False
 | k+1,ρ,n,H=>B (LD (XI B Q k) Q) ρ n H
structure Ol (G:Glob)(body:Code)(B:(Ex->lV->Nat->lI->Prop)->lV->Nat->lI->Prop)(Q:Ex->lV->Nat->lI->Prop)(ρ:lV)(n:Nat)(H:lI):Prop where
 ex:(∃k,XI B Q k ρ n H)∨∃(ws:Nat->Bool) (I:Nat->lV->lI->Prop) (nl:Nat),writesIn ws body=true∧n<=nl∧(∀m ρ' H',I m ρ' H'->∀s,ws s=false->ρ' s=ρ s)∧(∃m ρ' H',I m ρ' H'∧JE G ws n ρ n H ρ' nl H')∧
  ∀m ρ' H',I m ρ' H'->
   B (LD (fun pY n'' rW=>G6 (∃m',m'<m∧∃pK qL,I m' pK qL∧JE G ws n pY n'' rW pK nl qL)) Q) ρ' nl H'
def aC (P:Program)(G:Glob)(c:Code)(Q:Ex->lV->Nat->lI->Prop)(ρ:lV)(n:Nat)(H:lI):Prop:=
 match c with
 | .skip=>Q .normal ρ n H
 | .region id ops draw=>(match draw with
  | false=>VG P G ops.toList ops.toList ρ n H (Q .normal)
  | true=>zk P G id ops (Q .normal) ρ n H)
 | .seq a b=>aC P G a (ain (aC P G b) Q) ρ n H
 | .cond c t e=>(match oW ρ c with
  | .v (.bool b)=>Ku b (aC P G t Q ρ n H) (aC P G e Q ρ n H)
  | _=>False)
 | .block id body=>aC P G body (abh id Q) ρ n H
 | .loop body=>Ol G body (aC P G body) Q ρ n H
 | .exit id=>Q (.exit id) ρ n H
 | .ret=>Q .ret ρ n H
 | .label _=>Q .normal ρ n H
 | .scope body=>aC P G body Q ρ n H
 | _=>False
def qj (N:Nat)(W:Nat->Bool):Code->Bool
 | .region _ ops _=>ops.toList.all fun o=>qU N W o&&wV o
 | .seq a b=>qj N W a&&qj N W b
 | .cond _ a b=>qj N W a&&qj N W b
 | .block _ b=>qj N W b
 | .loop b=>qj N W b
 | .scope b=>qj N W b
 | .skip | .exit _ | .ret | .label _=>true
 | _=>false
theorem LG {N:Nat}{W ws:Nat->Bool} : ∀c:Code,qj N W c=true->writesIn ws c=true->qj N (fun k=>W k&&ws k) c=true:=by
 intro c
 induction c with
 | region id ops d=>
  intro h1 h2
  simp only [qj,writesIn,bP,ak]at *
  intro o ho
  obtain⟨a1,a3⟩:=h1 o ho
  have a2:=h2 o ho
  refine⟨?_,a3⟩
  unfold qU at *
  unfold aaX at a2
  cases hd:o.dst with
  | none=>rfl
  | some d=>simp only [hd,ak]at a1 a2 ⊢;exact⟨a1.1,a1.2,a2⟩
 | seq a b iha ihb=>intro h1 h2;simp only [qj,writesIn,ak]at *;exact⟨iha h1.1 h2.1,ihb h1.2 h2.2⟩
 | cond c a b iha ihb=>intro h1 h2;simp only [qj,writesIn,ak]at *;exact⟨iha h1.1 h2.1,ihb h1.2 h2.2⟩
 | block id b ih=>intro h1 h2;simp only [qj,writesIn]at *;exact ih h1 h2
 | loop b ih=>intro h1 h2;simp only [qj,writesIn]at *;exact ih h1 h2
 | scope b ih=>intro h1 h2;simp only [qj,writesIn]at *;exact ih h1 h2
 | label l=>intro _ _;rfl
 | skip=>intro _ _;rfl
 | exit id=>intro _ _;rfl
 | ret=>intro _ _;rfl
 | _=>intro h1 _;simp [qj]at h1
section
variable {P:Program}{G:Glob}{lT:World}{lY lZ:Nat->Prop}{N:Nat}{ds:List Deferred}
theorem XJ (hm:P.follows .mixedOrders=true) : ∀(c:Code) (W:Nat->Bool) (Q:Ex->lV->Nat->lI->Prop) (nZ:lV) (n:Nat) (H:lI) (ρ lS:mG) (a:Act) (w:World) (σ:Nat->Loc) (F:Nat->Prop) (nb:Nat) (qI:Nat->Loc) (Fb:Nat->Prop) (wb:World),
  qj N W c=true->Fits N ds ρ a->Same W lS ρ->St G lT lY lZ n σ F H w->Ext nb qI Fb wb n σ F w->rC n σ F w nZ ρ->aC P G c Q nZ n H->c.wp P (AQ G lT lY lZ N ds W lS nb qI Fb wb Q) a w:=by
 intro c
 induction c with
 | skip=>intro W Q nZ n H ρ lS a w σ F nb qI Fb wb _ hf hs st x hr h;exact wp_skip ⟨ρ,nZ,n,σ,F,H,hf,hs,st,x,hr,h⟩
 | region id ops draw=>
  intro W Q nZ n H ρ lS a w σ F nb qI Fb wb hc hf hs st x hr h
  have hok : ∀o∈ops.toList,qU N W o=true∧wV o=true:=by simpa only [qj,bP,ak]using hc
  have mono : ∀e a w,RA (Lu G lT lY lZ N ds W lS nb qI Fb wb (Q .normal)) e a w->AQ G lT lY lZ N ds W lS nb qI Fb wb Q e a w:=fun e a w hq=>ahS
  cases draw with
  | false=>
   refine Go.wp_mono (wp_region ?_) mono
   have hlen:ops.toList.length=ops.size:=abb
   rw [jh, <-hlen]
   exact GV (K:=Q .normal) (Q:=RA (Lu G lT lY lZ N ds W lS nb qI Fb wb (Q .normal))) (fun a' w' h=>h) ops.toList 0 nZ n σ F H ρ a w (fun j=>by rw [aO]) hok hf hs st x hr h
  | true=>exact Go.wp_mono (zk.sound hm hok hf hs st x hr h) mono
 | seq c1 c2 ih1 ih2=>
  intro W Q nZ n H ρ lS a w σ F nb qI Fb wb hc hf hs st x hr h
  simp only [qj,ak]at hc
  refine wp_seq (Go.wp_mono (ih1 W _ nZ n H ρ lS a w σ F nb qI Fb wb hc.1 hf hs st x hr h) fun e a' w' hq=> ?_)
  cases e with
  | normal=>
   obtain⟨ρ',oL,n',σ',F',H',hf',hs',st',x',hr',hv⟩:=hq
   exact ih2 W Q oL n' H' ρ' lS a' w' σ' F' nb qI Fb wb hc.2 hf' hs' st' x' hr' hv
  | exit id=>exact hq
  | ret=>exact hq
  | goto l=>exact hq
  | panic ch=>exact hq
  | outgrown=>exact hq
 | cond c c1 c2 ih1 ih2=>
  intro W Q nZ n H ρ lS a w σ F nb qI Fb wb hc hf hs st x hr h
  simp only [qj,ak]at hc
  simp only [aC]at h
  split at h
  ·rename_i b hb
   have rc:=ni hr c
   rw [hb]at rc
   refine wp_cond (t:=b) (by rw [hf.eval];exact rc.nY) ?_
   cases b with
   | true=>exact ih1 W Q nZ n H ρ lS a w σ F nb qI Fb wb hc.1 hf hs st x hr h
   | false=>exact ih2 W Q nZ n H ρ lS a w σ F nb qI Fb wb hc.2 hf hs st x hr h
  ·cases h
 | block id b ih=>
  intro W Q nZ n H ρ lS a w σ F nb qI Fb wb hc hf hs st x hr h
  refine wp_block (Go.wp_mono (ih W _ nZ n H ρ lS a w σ F nb qI Fb wb hc hf hs st x hr h) fun e a' w' hq=> ?_)
  cases e with
  | normal=>exact hq
  | exit j=>
   obtain⟨ρ',oL,n',σ',F',H',hf',hs',st',x',hr',hv⟩:=hq
   simp only [abh]at hv
   simp only [Exit.inBlock]
   by_cases hj:j=id
   ·subst hj
    rw [iI,cond_true]at hv
    simp only [if_true]
    exact⟨ρ',oL,n',σ',F',H',hf',hs',st',x',hr',hv⟩
   ·have hb:Nat.beq j id=false:=by
     cases hb:Nat.beq j id with
     | false=>rfl
     | true=>exact absurd (aA hb) hj
    rw [hb,cond_false]at hv
    rw [if_neg hj]
    exact⟨ρ',oL,n',σ',F',H',hf',hs',st',x',hr',hv⟩
  | ret=>exact hq
  | goto l=>exact hq
  | panic ch=>exact hq
  | outgrown=>exact hq
 | loop b ih=>
  intro W Q nZ n H ρ lS a w σ F nb qI Fb wb hc hf hs st x hr h
  rcases h.ex with ⟨k,hk⟩|⟨ws,I,nl,hw,hle,ae4,⟨m0,ρ0,H0,hI0,Om⟩,Ru⟩
  ·refine AO (fun m a' w'=>AQ G lT lY lZ N ds W lS nb qI Fb wb (fun _=>XI (aC P G b) Q m) .normal a' w') k ⟨ρ,nZ,n,σ,F,H,hf,hs,st,x,hr,hk⟩ fun m a' w' ⟨ρ',oL,n',σ',F',H',hf',hs',st',x',hr',hv⟩=> ?_
   cases m with
   | zero=>exact hv.elim
   | succ m=>
    refine Go.wp_mono (ih W _ oL n' H' ρ' lS a' w' σ' F' nb qI Fb wb hc hf' hs' st' x' hr' hv) fun e a'' w'' hq=> ?_
    cases e with
    | normal=>exact⟨m,jm m,hq⟩
    | exit id=>exact hq
    | ret=>exact hq
    | goto l=>exact hq
    | panic ch=>exact hq
    | outgrown=>exact hq
  have hc':=LG b hc hw
  let J:Nat->Act->World->Prop:=fun m a' w'=> ∃ρ' oL σ' F' H',Fits N ds ρ' a'∧Same (fun k=>W k&&ws k) ρ ρ'∧I m oL H'∧St G lT lY lZ nl σ' F' H' w'∧Ext n σ F w nl σ' F' w'∧rC nl σ' F' w' oL ρ'
  have mk : ∀m (ρ':mG) (oL pK:lV) n' (σ':Nat->Loc) (F':Nat->Prop) H' qL a' w',Fits N ds ρ' a'->Same (fun k=>W k&&ws k) ρ ρ'->St G lT lY lZ n' σ' F' H' w'->Ext n σ F w n' σ' F' w'->rC n' σ' F' w' oL ρ'->
    I m pK qL->JE G ws n oL n' H' pK nl qL->J m a' w':=by
   intro m ρ' oL pK n' σ' F' H' qL a' w' hf' hs' st' x' hr' hI ae5
   obtain⟨Dv,LC,s1,r1,l1,f1⟩:=ae5 lT lY lZ σ' F' w' ρ' st' fun s _=>hr' s
   have x1:Ext n σ F w nl Dv LC w':=⟨hle,fun l hl=>(l1 l hl).trans (x'.s l hl),fun b hb=>⟨f1 b (x'.f b hb).1,(x'.f b hb).2⟩,x'.sz⟩
   refine⟨ρ',pK,Dv,LC,qL,hf',hs',hI,s1,x1,fun s=> ?_⟩
   cases hws:ws s with
   | true=>exact r1 s hws
   | false=>
    rw [ae4 m pK qL hI s hws,hs' s (by simp [hws])]
    exact(hr s).mono x1
  refine AO J m0 (mk m0 ρ nZ ρ0 n σ F H H0 a w hf (Same.refl _ _) st (Ext.refl _ _ _ _) hr hI0 Om) fun m a' w' ⟨ρ',oL,σ',F',H',hf',hs',hI,st',x',hr'⟩=> ?_
  refine Go.wp_mono (ih (fun k=>W k&&ws k) _ oL nl H' ρ' ρ a' w' σ' F' n σ F w hc' hf' hs' st' x' hr' (Ru m oL H' hI)) fun e a'' w'' hq=> ?_
  have up : ∀ {pY},Same (fun k=>W k&&ws k) ρ pY->Same W lS pY:=fun h'=>hs.trans fun k hk=>h' k ahT
  cases e with
  | normal=>
   obtain⟨pY,vX,n'',yR,Nl,rW,vN,vO,G7,x'',G8,hv⟩:=hq
   obtain⟨m',hlt,pK,qL,hI₁,LH⟩:=hv.holds
   exact⟨m',hlt,mk m' pY vX pK n'' yR Nl rW qL a'' w'' vN vO G7 x'' G8 hI₁ LH⟩
  | exit id=>obtain⟨pY,vX,n'',yR,Nl,rW,vN,vO,G7,x'',G8,hv⟩:=hq;exact⟨pY,vX,n'',yR,Nl,rW,vN,up vO,G7,x.trans x'',G8,hv⟩
  | ret=>obtain⟨pY,vX,n'',yR,Nl,rW,vN,vO,G7,x'',G8,hv⟩:=hq;exact⟨pY,vX,n'',yR,Nl,rW,vN,up vO,G7,x.trans x'',G8,hv⟩
  | goto l=>exact hq
  | panic ch=>exact hq
  | outgrown=>exact hq
 | exit id=>intro W Q nZ n H ρ lS a w σ F nb qI Fb wb _ hf hs st x hr h;exact Go.wp_exit ⟨ρ,nZ,n,σ,F,H,hf,hs,st,x,hr,h⟩
 | ret=>intro W Q nZ n H ρ lS a w σ F nb qI Fb wb _ hf hs st x hr h;exact Go.wp_ret ⟨ρ,nZ,n,σ,F,H,hf,hs,st,x,hr,h⟩
 | label l=>intro W Q nZ n H ρ lS a w σ F nb qI Fb wb _ hf hs st x hr h;exact Go.wp_label ⟨ρ,nZ,n,σ,F,H,hf,hs,st,x,hr,h⟩
 | scope b ih=>
  intro W Q nZ n H ρ lS a w σ F nb qI Fb wb hc hf hs st x hr h
  refine Go.wp_scope_straight (Go.wp_mono (ih W Q nZ n H ρ lS a w σ F nb qI Fb wb hc hf hs st x hr h) fun e a' w' hq=> ?_)
  cases e with
  | normal=>exact hq
  | exit id=>exact hq
  | ret=>exact hq
  | goto l=>exact hq
  | panic ch=>exact hq
  | outgrown=>exact hq
 | _=>intro W Q nZ n H ρ lS a w σ F nb qI Fb wb hc;simp [qj]at hc
end
structure G9 (G:Glob)(nb:Nat)(R:AV->Nat->lI->Prop)(a:AV)(n:Nat)(H:lI):Prop where
 ex : ∃a' n' H',R a' n' H'∧nb<=n'∧∀lT lY lZ σ F w v,St G lT lY lZ n σ F H w->mM n σ F w a v->∃σ' F',St G lT lY lZ n' σ' F' H' w∧mM n' σ' F' w a' v∧(∀l,l<nb->σ' l=σ l)∧∀b,F b->F' b
def LJ (P:Program)(rs:List ResultVar)(ρ:lV)(H:lI)(k:List AV->Prop):Prop:=
 match rs with
 | []=>k []
 | .tmp t::r=>af (ρ t) fun v=>LJ P r ρ H fun vs=>k (v::vs)
 | .cell a t::r=>Tz P H t (ρ a) fun v=>LJ P r ρ H fun vs=>k (v::vs)
def XK (vs:List AV):AV:=match vs with | [v]=>v|vs=> .og vs
def ae6 (P:Program)(G:Glob)(nb:Nat)(fn:Func)(R:AV->Nat->lI->Prop)(e:Ex)(ρ:lV)(n:Nat)(H:lI):Prop:=
 match e with
 | .normal=>LJ P fn.results.toList ρ H fun vs=>G9 G nb R (XK vs) n H
 | .ret=>LJ P fn.results.toList ρ H fun vs=>G9 G nb R (XK vs) n H
 | .exit _=>False
def abj (l:List AV)(n:Nat):AV:=
 match l,n with
 | [],_=> .top
 | v::_,0=>v
 | _::r,n+1=>abj r n
def yF (args:List AV):lV:=fun n=>abj args n
section
variable {P:Program}{G:Glob}{lT:World}{lY lZ:Nat->Prop}{n:Nat}{σ:Nat->Loc}{F:Nat->Prop}{H:lI}{w:World}
theorem Oo : ∀ {as:List AV} {vs:List Value},mZ n σ F w as vs->∀k,mM n σ F w (abj as k) (nth vs k):=by
 intro as
 induction as with
 | nil=>intro vs _ k;simp only [abj];exact .top _
 | cons a as ih=>intro vs h k;cases vs with
  | nil=>exact h.elim
  | cons v vs=>cases k with
   | zero=>exact h.1
   | succ k=>exact ih h.2 k
theorem He {nZ:lV}{ρ:mG}(hH:wC n σ F w H)(hr:rC n σ F w nZ ρ) : ∀(rs:List ResultVar) (k:List AV->Prop) (kv:List Value->Prop),LJ P rs nZ H k->(∀as vs,k as->mZ n σ F w as vs->kv vs)->Gl P rs ρ w kv:=by
 intro rs
 induction rs with
 | nil=>intro k kv h hk;exact hk [] [] h trivial
 | cons r rs ih=>
  intro k kv h hk
  cases r with
  | tmp t=>
   simp only [LJ,qY]at h
   simp only [Gl,force_eq]
   exact ih _ _ h fun as vs h1 h2=>hk _ _ h1 ⟨hr t,h2⟩
  | cell a t=>
   simp only [LJ]at h
   obtain⟨p,hp,av,v,h1,h2,h3⟩:=Ey h (hr a) hH
   simp only [Gl,hp]
   exact h3 w true _ (uq.refl _ _ _ _) (ih _ _ h1 fun as vs g1 g2=>hk _ _ g1 ⟨h2,g2⟩)
theorem Oq {as:List AV}{vs:List Value}(r:mZ n σ F w as vs):mM n σ F w (XK as) (og vs):=by
 match as,vs,r with
 | [],[],r=>exact r.og
 | [a],[v],r=>exact r.1
 | a::b::as,u::v::vs,r=>exact r.og
theorem ae7 {f:FuncId}{fn:Func}{c:Code}{args:List AV}{R:AV->Nat->lI->Prop}(hf:P.funcs[f]? = some fn)(hb:fn.body=some c)
  (hok:(Nat.ble args.length fn.ntmps&&qj fn.ntmps (fun _=>true) c)=true)
  (h : ∀(ρ:mG) (a:Act) (w:World) (σ:Nat->Loc) (F:Nat->Prop),Fits fn.ntmps [] ρ a->St G w (uJ w σ H) F n σ F H w->rC n σ F w (yF args) ρ->c.wp P (AQ G w (uJ w σ H) F fn.ntmps [] (fun _=>true) ρ n σ F w (ae6 P G n fn R)) a w):mP P G f args n H R:=by
 intro w σ F vs st r
 simp only [ak]at hok
 have hN:=aF hok.1
 have hl:=r.len
 refine calls_of_wp hf hb ?_
 have hfit:Fits fn.ntmps [] (sH vs.toArray) {tmps:=vs.toArray++Array.replicate (fn.ntmps-vs.toArray.size) undef,defers:= []}:=by
  refine⟨by simp;omega,fun t=> ?_,rfl⟩
  simp only [sH,BJ]
  rw [gB,aT,jc]
  by_cases ht:t<vs.toArray.size
  ·simp only [if_pos ht,kX]
  ·simp only [ht,if_false]
   have ht':vs.length<=t:=by simpa using ht
   rw [dN ht']
   rw [kK]
   split<;>rfl
 refine Go.wp_mono (h (sH vs.toArray) _ w σ F hfit st (fun s=>by
  have:=Oo r s
  simpa [sH,yF]using this)) fun e a' w' hq=> ?_
 have res : ∀ {ρ':mG} {oL:lV} {n':Nat} {σ':Nat->Loc} {F':Nat->Prop} {H':lI},Fits fn.ntmps [] ρ' a'->St G w (uJ w σ H) F n' σ' F' H' w'->Ext n σ F w n' σ' F' w'->rC n' σ' F' w' oL ρ'->
   (LJ P fn.results.toList oL H' fun vs=>G9 G n R (XK vs) n' H')->
   a'.defers = []∧∃v,(results fn a'.tmps).run P w' = .ok v w'∧∃u,Ending.returned v = .returned u∧∃a n' σ' F' H',R a n' H'∧St G w (uJ w σ H) F n' σ' F' H' w'∧Ext n σ F w n' σ' F' w'∧mM n' σ' F' w' a u:=by
  intro ρ' oL n' σ' F' H' hf' st' x' hr' hv
  obtain⟨vs,hrun,hk⟩:=Gm hf'.get _ _ (He st'.hrep hr' _ _ (fun vs=> ∃a n' σ' F' H',R a n' H'∧St G w (uJ w σ H) F n' σ' F' H' w'∧Ext n σ F w n' σ' F' w'∧mM n' σ' F' w' a (og vs)) hv fun as vs he hl=>by
   obtain⟨a1,n1,H1,hR,hn,hco⟩:=he.ex
   obtain⟨σ1,F1,s1,r1,l1,f1⟩:=hco _ _ _ _ _ _ _ st' (Oq hl)
   exact⟨a1,n1,σ1,F1,H1,hR,s1,⟨hn,fun l hl=>(l1 l hl).trans (x'.s l hl),fun b hb=>⟨f1 b (x'.f b hb).1,(x'.f b hb).2⟩,x'.sz⟩,r1⟩)
  refine⟨hf'.defers,og vs, ?_,og vs,rfl,hk⟩
  rw [yw,Sem.run_bind,jo,Sem.run_map]
  rw [hrun]
  simp only [Result.andThen_ok,Sem.run_pure]
  congr 1
  match vs with
  | []=>rfl
  | [v]=>rfl
  | v::u::r=>simp [og]
 cases e with
 | normal=>obtain⟨ρ',oL,n',σ',F',H',hf',_,st',x',hr',hv⟩:=hq;exact res hf' st' x' hr' hv
 | ret=>obtain⟨ρ',oL,n',σ',F',H',hf',_,st',x',hr',hv⟩:=hq;exact res hf' st' x' hr' hv
 | exit id=>obtain⟨ρ',oL,n',σ',F',H',hf',_,st',x',hr',hv⟩:=hq;exact hv.elim
 | goto l=>exact hq.elim
 | panic ch=>exact hq.elim
 | outgrown=>exact hq.elim
theorem lJ {f:FuncId}{fn:Func}{c:Code}{args:List AV}{R:AV->Nat->lI->Prop}(hf:P.funcs[f]? = some fn)(hb:fn.body=some c)(hm:P.follows .mixedOrders=true)
  (hok:(Nat.ble args.length fn.ntmps&&qj fn.ntmps (fun _=>true) c)=true) (h:aC P G c (ae6 P G n fn R) (yF args) n H):mP P G f args n H R:=
 ae7 hf hb hok fun ρ a w σ F hfit st hr=>XJ hm c (fun _=>true) _ (yF args) n H ρ ρ a w σ F n σ F w (by simp only [ak]at hok;exact hok.2) hfit (Same.refl _ _) st (Ext.refl _ _ _ _) hr h
end
end Go.Proofs.YtnandbihiceihaaGreatDoor.Ax
