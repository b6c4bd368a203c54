/- Joined parts of the proof. A quick reckoning of what an operation waits for: masks of bits, built once in the order of the operations -/
import Derived.Test.YtnandbihiceihaaGreatDoorNk1
import Derived.Scope
import Derived.Test.YtnandbihiceihaaGreatDoorNk7
set_option linter.unusedVariables false
set_option linter.unusedSimpArgs false
set_option maxRecDepth 100000
set_option maxHeartbeats 16000000
namespace Go.Proofs.YtnandbihiceihaaGreatDoor.Vc
open Go.RowKit
def Ap (ms:List Nat):List Edge->Nat
 | []=>0
 | e::r=>bif Region.binds .any e then Nat.lor (Nat.lor (Nat.shiftLeft 1 e.on) (ms.getD e.on 0)) (Ap ms r)else Ap ms r
def NQ (ms:List Nat):List Oper->List Nat
 | []=>ms
 | o::r=>NQ (ms++ [Ap ms o.after.toList]) r
def NR (ops:Array Oper)(ms:List Nat):Prop:= ∀i j,(ms.getD i 0).testBit j=true->Jv ops i j
theorem yC {ms:List Nat}{j:Nat} : ∀ {es:List Edge},(Ap ms es).testBit j=true->∃e∈es,Region.binds .any e=true∧(e.on=j∨(ms.getD e.on 0).testBit j=true)
 | [],h=>by simp [Ap]at h
 | e::r,h=>by
  unfold Ap at h
  cases hb:Region.binds .any e with
  | false=>
   rw [hb,cond_false]at h
   obtain⟨x,hx,h1,h2⟩:=yC h
   exact⟨x,by simp [hx],h1,h2⟩
  | true=>
   rw [hb,cond_true]at h
   have h:((1 <<< e.on ||| ms.getD e.on 0) ||| Ap ms r).testBit j=true:=h
   simp only [Nat.testBit_or,iQ]at h
   rcases h with (h|h)|h
   ·refine⟨e,by simp,hb, .inl ?_⟩
    rw [Nat.one_shiftLeft,Nat.testBit_two_pow]at h
    simpa using h
   ·exact⟨e,by simp,hb, .inr h⟩
   ·obtain⟨x,hx,h1,h2⟩:=yC h
    exact⟨x,by simp [hx],h1,h2⟩
theorem Lh {ops:Array Oper}{i j k:Nat}(h:Jv ops i j)(h':Jv ops j k):Jv ops i k:=by
 induction h' with
 | one ho he hb=>exact .more h ho he hb
 | more _ ho he hb ih=>exact .more ih ho he hb
theorem JF {ops:Array Oper} : ∀(os:List Oper) (ms:List Nat),NR ops ms->(∀k,os[k]? = ops[ms.length+k]?)->NR ops (NQ ms os)
 | [],ms,h,_=>h
 | o::r,ms,h,ho=>by
  refine JF r _ ?_ (fun k=>by have:=ho (k+1);simp only [dL]at this;rw [this,aG,List.length_singleton];congr 1;omega)
  intro i j hb
  rcases jf i ms.length with hi|hi|hi
  ·rw [aV,cO hi, <-aV]at hb
   exact h i j hb
  ·subst hi
   rw [aV,bY (ay _)]at hb
   simp only [gY,bJ,jm]at hb
   obtain⟨e,he,h1,h2⟩:=yC hb
   have h0:=ho 0
   simp only [bJ,bU]at h0
   have hx:Jv ops ms.length e.on:= .one h0.symm (by simpa using he) h1
   rcases h2 with rfl|h2
   ·exact hx
   ·exact Lh hx (h _ _ h2)
  ·rw [aV,fA aaT]at hb
   simp at hb
def Eb (ms:List Nat)(T:List Nat)(i:Nat):Bool:=T.all fun j=>Nat.beq j i||(ms.getD i 0).testBit j
theorem F7 {ops:Array Oper}{T:List Nat}{i j:Nat}(h:Eb (NQ [] ops.toList) T i=true)(hj:j∈T)(hne:j≠i):Jv ops i j:=by
 have hok:NR ops (NQ [] ops.toList):=JF ops.toList [] (fun i j h=>by simp at h) (fun k=>by simp)
 simp only [Eb,bf,iQ]at h
 rcases h j hj with e|e
 ·exact absurd (aj e) hne
 ·exact hok _ _ e
end Go.Proofs.YtnandbihiceihaaGreatDoor.Vc
namespace Go.Proofs.YtnandbihiceihaaGreatDoor.Ax
open RowKit Vc
def Aq (all:List Oper)(o:Oper)(ρ:jM)(A Ju:jM->Prop):Prop:=
 match o.guard with
 | none=>A ρ
 | some (g,want)=>(match vK all g with
  | some s=>(match ρ s with
   | .v (.bool t)=>BO t
     (bif want then A (qc ρ s (.v (.bool true)))else Ju (qc ρ s (.v (.bool true))))
     (bif want then Ju (qc ρ s (.v (.bool false)))else A (qc ρ s (.v (.bool false))))
   | .v _=>Ju ρ
   | _=>False)
  | none=>Ju ρ)
def pG (P:Program)(G:Glob)(all:List Oper)(o:Oper)(ρ:jM)(n:Nat)(H:jI)(K:jM->AV->Nat->jI->Prop)(oz:jM->Prop):Prop:=
 match o.guard with
 | none=>aE P G o ρ n H fun a n' H'=>K ρ a n' H'
 | some (g,want)=>(match vK all g with
  | some s=>(match ρ s with
   | .v (.bool t)=>BO t
     (bif want then aE P G o (qc ρ s (.v (.bool true))) n H fun a n' H'=>K (qc ρ s (.v (.bool true))) a n' H' else oz (qc ρ s (.v (.bool true))))
     (bif want then oz (qc ρ s (.v (.bool false)))else aE P G o (qc ρ s (.v (.bool false))) n H fun a n' H'=>K (qc ρ s (.v (.bool false))) a n' H')
   | .v _=>oz ρ
   | _=>False)
  | none=>oz ρ)
theorem nZ (P:Program)(G:Glob)(all:List Oper)(o:Oper)(ρ:jM)(n:Nat)(H:jI)(K:jM->AV->Nat->jI->Prop)(oz:jM->Prop) :
  pG P G all o ρ n H K oz=Aq all o ρ (fun ρ'=>aE P G o ρ' n H fun a n' H'=>K ρ' a n' H') oz:=rfl
def Ec (P:Program)(all:List Oper)(o:Oper)(ρ:jM)(Hr H:jI)(K:jM->AV->Prop)(oz:jM->Prop):Prop:=
 match o.guard with
 | none=>aQ P Hr H o ρ fun a=>K ρ a
 | some (g,want)=>(match vK all g with
  | some s=>(match ρ s with
   | .v (.bool t)=>BO t
     (bif want then aQ P Hr H o (qc ρ s (.v (.bool true))) fun a=>K (qc ρ s (.v (.bool true))) a else oz (qc ρ s (.v (.bool true))))
     (bif want then oz (qc ρ s (.v (.bool false)))else aQ P Hr H o (qc ρ s (.v (.bool false))) fun a=>K (qc ρ s (.v (.bool false))) a)
   | .v _=>oz ρ
   | _=>False)
  | none=>oz ρ)
theorem oQ (P:Program)(all:List Oper)(o:Oper)(ρ:jM)(Hr H:jI)(K:jM->AV->Prop)(oz:jM->Prop) :
  Ec P all o ρ Hr H K oz=Aq all o ρ (fun ρ'=>aQ P Hr H o ρ' fun a=>K ρ' a) oz:=rfl
def Lj (P:Program)(G:Glob)(all:List Oper)(l:List Oper)(ρ:jM)(n:Nat)(H:jI)(K:jM->Nat->jI->Prop):Prop:=
 match l with
 | []=>K ρ n H
 | o::rest=>pG P G all o ρ n H (fun ρ' a n' H'=>Lj P G all rest (mF ρ' o.dst a) n' H' K) fun ρ'=>Lj P G all rest (mF ρ' o.dst (.v undef)) n H K
def qP (D:List Nat)(x:Nat):Bool:=
 match D with
 | []=>false
 | d::r=>bif Nat.beq d x then true else qP r x
def qQ (D:List Nat)(H:jI):jI:=
 match H with
 | []=> []
 | p::r=>bif qP D p.1 then p::qQ D r else qQ D r
def pU (D:List Nat)(H:jI):jI:=
 match H with
 | []=> []
 | p::r=>bif qP D p.1 then pU D r else p::pU D r
def dx (o:Oper)(n:Nat)(D:List Nat):List Nat:=
 match o.op with
 | .alloc _=>n::D
 | .box _ _=>n::D
 | _=>D
theorem VK {o:Oper}{n k:Nat}{D:List Nat}(hk:k<n)(h:qP (dx o n D) k=true):qP D k=true:=by
 have key:qP (n::D) k=true->qP D k=true:=fun h=>by
  unfold qP at h
  cases hb:Nat.beq n k with
  | true=>have:=aj hb;omega
  | false=>simpa [hb]using h
 unfold dx at h
 split at h
 ·exact key h
 ·exact key h
 ·exact h
def aD (P:Program)(G:Glob)(all:List Oper)(D:List Nat)(p:Plan)(ρ:jM)(n:Nat)(H:jI)(K:jM->Nat->jI->Prop):Prop:=
 match p with
 | .done=>K ρ n H
 | .take i p=>(match all[i]? with
  | some o=>Ec P all o ρ (pU D H) H (fun ρ' a=>aD P G all D p (mF ρ' o.dst a) n H K) fun ρ'=>aD P G all D p (mF ρ' o.dst (.v undef)) n H K
  | none=>False)
 | .one i p=>(match all[i]? with
  | some o=>pG P G all o ρ n (qQ D H) (fun ρ' a n' H'=>spine (H'++pU D H) fun oN=>aD P G all (dx o n D) p (mF ρ' o.dst a) n' oN K) fun ρ'=>aD P G all D p (mF ρ' o.dst (.v undef)) n H K
  | none=>False)
 | .two i p j r=>(match all[i]?,all[j]? with
  | some o,some o'=>
   (pG P G all o ρ n (qQ D H) (fun ρ' a n' H'=>spine (H'++pU D H) fun oN=>aD P G all (dx o n D) p (mF ρ' o.dst a) n' oN K) fun ρ'=>aD P G all D p (mF ρ' o.dst (.v undef)) n H K)∧
   (pG P G all o' ρ n (qQ D H) (fun ρ' a n' H'=>spine (H'++pU D H) fun oN=>aD P G all (dx o' n D) r (mF ρ' o'.dst a) n' oN K) fun ρ'=>aD P G all D r (mF ρ' o'.dst (.v undef)) n H K)
  | _,_=>False)
 | .three i p j r k q=>(match all[i]?,all[j]?,all[k]? with
  | some o,some o',some o''=>
   (pG P G all o ρ n (qQ D H) (fun ρ' a n' H'=>spine (H'++pU D H) fun oN=>aD P G all (dx o n D) p (mF ρ' o.dst a) n' oN K) fun ρ'=>aD P G all D p (mF ρ' o.dst (.v undef)) n H K)∧
   (pG P G all o' ρ n (qQ D H) (fun ρ' a n' H'=>spine (H'++pU D H) fun oN=>aD P G all (dx o' n D) r (mF ρ' o'.dst a) n' oN K) fun ρ'=>aD P G all D r (mF ρ' o'.dst (.v undef)) n H K)∧
   (pG P G all o'' ρ n (qQ D H) (fun ρ' a n' H'=>spine (H'++pU D H) fun oN=>aD P G all (dx o'' n D) q (mF ρ' o''.dst a) n' oN K) fun ρ'=>aD P G all D q (mF ρ' o''.dst (.v undef)) n H K)
  | _,_,_=>False)
 | .sink i=>(match all[i]? with
  | some o=>pG P G all o ρ n H (fun ρ' a n' H'=>K (mF ρ' o.dst a) n' H') fun ρ'=>K (mF ρ' o.dst (.v undef)) n H
  | none=>False)
 | .post i p=>(match all[i]? with
  | some o=>pG P G all o ρ n H (fun ρ' a n' H'=>aD P G all D p (mF ρ' o.dst a) n' H' K) fun ρ'=>aD P G all D p (mF ρ' o.dst (.v undef)) n H K
  | none=>False)
def takes:Plan->List Nat
 | .done=> []
 | .take i p=>i::takes p
 | .one _ p=>takes p
 | .two _ p _ r=>takes p++takes r
 | .three _ p _ r _ q=>takes p++takes r++takes q
 | .sink _=> []
 | .post _ _=> []
def postAt (ops:Array Oper)(T:List Nat)(i:Nat):Bool:=Eb (NQ [] ops.toList) T i
def mO (ops:Array Oper)(T:List Nat):Plan->Bool
 | .done=>true
 | .take i p=>T.contains i&&mO ops T p
 | .one _ p=>mO ops T p
 | .two _ p _ r=>mO ops T p&&mO ops T r
 | .three _ p _ r _ q=>mO ops T p&&mO ops T r&&mO ops T q
 | .sink i=>postAt ops T i
 | .post i p=>postAt ops T i&&mO ops (takes p) p
def rG (ops:Array Oper)(p:Plan):Bool:=rO ops p&&mO ops (takes p) p
def ET (G:Glob)(ws:Nat->Bool)(nb:Nat)(ρ:jM)(n:Nat)(H:jI)(ρ':jM)(n':Nat)(H':jI):Prop:=
 ∀jL jO jQ σ F w (VL:jU),St G jL jO jQ n σ F H w->(∀s,ws s=true->jX n σ F w (ρ s) (VL s))->
  ∃σ' F',St G jL jO jQ n' σ' F' H' w∧(∀s,ws s=true->jX n' σ' F' w (ρ' s) (VL s))∧(∀l,l<nb->σ' l=σ l)∧∀b,F b->F' b
structure Ll (p:Prop):Prop where
 holds:p
structure Nd where
 listed:Array Bool
 dep:Nat
 succ:List (Nat×Nat)
structure NS where
 ρ:jM
 n:Nat
 H:jI
def UY (ops:Array Oper)(ns:List Nd):Bool:=
 ns.all fun nd=>nd.succ.isEmpty||((Region.ready .any ops nd.listed==nd.succ.map (·.1))&&nd.succ.all fun s=>match ns[s.2]? with
  | some nj=>(nj.listed==nd.listed.setIfInBounds s.1 true)&&Nat.blt nj.dep nd.dep
  | none=>false)
def JG (P:Program)(G:Glob)(all:List Oper)(ws:Nat->Bool)(nb:Nat)(A:Nat->NS)(k:Nat)(s:Nat×Nat):Prop:=
 match all[s.1]? with
 | some o=>pG P G all o (A k).ρ (A k).n (A k).H (fun ρ' a n' H'=>Ll (ET G ws nb (mF ρ' o.dst a) n' H' (A s.2).ρ (A s.2).n (A s.2).H)) fun ρ'=>Ll (ET G ws nb (mF ρ' o.dst (.v undef)) (A k).n (A k).H (A s.2).ρ (A s.2).n (A s.2).H)
 | none=>False
def Qn (P:Program)(G:Glob)(all:List Oper)(Hh H:jI):List Nat->jM->(jM->Prop)->Prop
 | [],ρ,K=>K ρ
 | i::ts,ρ,K=>(match all[i]? with
  | some o=>Ec P all o ρ Hh H (fun ρ' a=>Qn P G all Hh H ts (mF ρ' o.dst a) K) fun ρ'=>Qn P G all Hh H ts (mF ρ' o.dst (.v undef)) K
  | none=>False)
def JH (ops:Array Oper)(T:List Nat):List Nat->Array Bool->(Array Bool->Bool)->Bool
 | [],l,k=>k l
 | i::ts,l,k=>(match ops[i]? with|some o=>lS o|none=>false)&&(Region.ready .any ops l).contains i&&Region.free .any ops l i&&T.contains i&&JH ops T ts (l.setIfInBounds i true) k
def yD (ops:Array Oper)(T ts:List Nat)(ns:List Nd)(p:Plan)(e:Nat):Bool:=
 Nat.ble ts.length ops.size&&Region.noSelect ops&&UY ops ns&&mO ops T p&&Nat.ble p.depth e&&(ns.all fun nd=> !nd.succ.isEmpty||lM ops p nd.listed)&&
  JH ops T ts (Array.replicate ops.size false) fun l=>match ns[0]? with
   | some n0=>(n0.listed==l)&&Nat.ble (n0.dep+e+ts.length) ops.size
   | none=>false
structure vG (P:Program)(G:Glob)(id:Nat)(ops:Array Oper)(K:jM->Nat->jI->Prop)(ρ:jM)(n:Nat)(H:jI):Prop where
 ex:(∃(p:Plan) (D:List Nat),rG ops p=true∧aD P G ops.toList D p ρ n H K)∨
  (∃(p:Plan) (D:List Nat) (ws:Nat->Bool) (ρ':jM) (n':Nat) (H':jI),rG ops p=true∧(ops.toList.all fun o=>match o.dst with|some d=>ws d|none=>true)=true∧n<=n'∧(∀s,ws s=false->ρ' s=ρ s)∧
   aD P G ops.toList D p ρ n H (fun mP XL oq=>Ll (ET G ws n mP XL oq ρ' n' H'))∧K ρ' n' H')∨
  ∃(T ts:List Nat) (ns:List Nd) (p:Plan) (e:Nat) (D:List Nat) (ws:Nat->Bool) (A:Nat->NS),yD ops T ts ns p e=true∧(ops.toList.all fun o=>match o.dst with|some d=>ws d|none=>true)=true∧(∀j,n<=(A j).n)∧(∀j s,ws s=false->(A j).ρ s=ρ s)∧
   Qn P G ops.toList (pU D H) H ts ρ (fun ρ'=>Ll (ET G ws n ρ' n (qQ D H) (A 0).ρ (A 0).n (A 0).H))∧(∀k nd,ns[k]? = some nd->∀s∈nd.succ,JG P G ops.toList ws n A k s)∧
   ∀k nd,ns[k]? = some nd->nd.succ = []->aD P G ops.toList D p (A k).ρ (A k).n ((A k).H++pU D H) K
theorem oD {D:List Nat}{H:jI}{k:Nat}{b:mD}(h:look (qQ D H) k=some b):qP D k=true∧look H k=some b:=by
 induction H with
 | nil=>cases h
 | cons p r ih=>
  obtain⟨x,bx⟩:=p
  simp only [qQ]at h
  cases hm:qP D x with
  | true=>
   rw [hm,cond_true,jY]at h
   rw [jY]
   split at h
   ·rename_i e;subst e;rw [if_pos rfl];exact⟨hm,h⟩
   ·rename_i e;rw [if_neg e];exact ih h
  | false=>
   rw [hm,cond_false]at h
   obtain⟨h1,h2⟩:=ih h
   refine⟨h1, ?_⟩
   rw [jY,if_neg (fun e=>by subst e;rw [hm]at h1;cases h1)]
   exact h2
theorem qG {D:List Nat}{H:jI}{k:Nat}{b:mD}(h:look (pU D H) k=some b):qP D k=false∧look H k=some b:=by
 induction H with
 | nil=>cases h
 | cons p r ih=>
  obtain⟨x,bx⟩:=p
  simp only [pU]at h
  cases hm:qP D x with
  | false=>
   rw [hm,cond_false,jY]at h
   rw [jY]
   split at h
   ·rename_i e;subst e;rw [if_pos rfl];exact⟨hm,h⟩
   ·rename_i e;rw [if_neg e];exact ih h
  | true=>
   rw [hm,cond_true]at h
   obtain⟨h1,h2⟩:=ih h
   refine⟨h1, ?_⟩
   rw [jY,if_neg (fun e=>by subst e;rw [hm]at h1;cases h1)]
   exact h2
theorem lq {A B:jI}{k:Nat}{b:mD}(h:look (A++B) k=some b):look A k=some b∨(look A k=none∧look B k=some b):=by
 induction A with
 | nil=>exact .inr ⟨rfl,h⟩
 | cons p r ih=>
  obtain⟨x,bx⟩:=p
  rw [fE,jY]at h
  rw [jY]
  split at h
  ·rename_i e;rw [if_pos e];exact .inl h
  ·rename_i e;rw [if_neg e];exact ih h
section
variable {P:Program}{G:Glob}{jL:World}{jO jQ:Nat->Prop}{n:Nat}{σ:Nat->Loc}{F:Nat->Prop}{H:jI}{w:World}
theorem St.sub (st:St G jL jO jQ n σ F H w){H':jI}(h : ∀k b,look H' k=some b->look H k=some b):St G jL jO jQ n σ F H' w:=
 ⟨st.glob,st.nN,st.lI,fun k b hk=>st.lab k b (h k b hk),fun k b g hk=>st.mu k b g (h k b hk),fun k k' b b' g hk hk'=>st.inj k k' b b' g (h k b hk) (h k' b' hk'),fun k b hk=>st.blk k b (h k b hk)⟩
theorem St.join (st:St G jL jO jQ n σ F H w){Hd Hh H':jI}(hd : ∀k b,look Hd k=some b->look H k=some b)(hh : ∀k b,look Hh k=some b->look H k=some b∧look Hd k=none)
  {n':Nat} {σ':Nat->Loc} {F':Nat->Prop} {w':World} (s:St G w (qX w σ Hd) F n' σ' F' H' w') (x:Ext n σ F w n' σ' F' w'):St G jL jO jQ n' σ' F' (H'++Hh) w':=by
 have s0:=(st.sub hd).back s
 have Yj : ∀k b g,look Hh k=some b->b.own=true->oW w (σ k) b g->¬F g∧G.nb<=g∧g<w.heap.size∧(jO g∨jL.heap.size<=g)∧¬qX w σ Hd g:=by
  intro k b g hk hm hg
  obtain⟨hk,hn⟩:=hh k b hk
  obtain⟨h1,h2,h3,h4⟩:=st.mu k b g hk hm hg
  refine⟨h1,h2,h3,h4,fun⟨k',b',e1,e2,e3⟩=> ?_⟩
  have:=st.inj k k' b b' g hk (hd k' b' e1) hm e2 hg e3
  subst this
  rw [hn]at e1;cases e1
 have hid : ∀k b g,look Hh k=some b->b.own=true->oW w' (σ' k) b g->oW w (σ k) b g∧¬F g∧G.nb<=g∧g<w.heap.size∧(jO g∨jL.heap.size<=g)∧¬qX w σ Hd g:=by
  intro k b g hk0 hm hg
  obtain⟨hk,hn⟩:=hh k b hk0
  rw [x.s k (st.lab k b hk)]at hg
  have hg:=hg.back fun y hy=>(let ⟨_,_,a3,_,a5⟩:=Yj k b y hk0 hm (.inl hy);s.nN.block y a3 a5)
  obtain⟨h1,h2,h3,h4⟩:=st.mu k b g hk hm hg
  refine⟨hg,h1,h2,h3,h4,fun⟨k',b',e1,e2,e3⟩=> ?_⟩
  have:=st.inj k k' b b' g hk (hd k' b' e1) hm e2 hg e3
  subst this
  rw [hn]at e1;cases e1
 have cross : ∀k k' b b' g,look H' k=some b->look Hh k'=some b'->b.own=true->b'.own=true->oW w' (σ' k) b g->oW w' (σ' k') b' g->False:=by
  intro k k' b b' g h h' hm hm' hg hg'
  obtain⟨_,_,_,h3,_,h5⟩:=hid k' b' g h' hm' hg'
  rcases(s.mu k b g h hm hg).2.2.2 with e|e
  ·exact h5 e
  ·omega
 refine⟨s0.glob,s0.nN,s0.lI,fun k b hk=> ?_,fun k b g hk hm hg=> ?_,fun k k' b b' g hk hk' hm hm' hg hg'=> ?_,fun k b hk=> ?_⟩
 ·rcases lq hk with hk|⟨_,hk⟩
  ·exact s0.lab k b hk
  ·have:=st.lab k b (hh k b hk).1
   have:=x.le
   omega
 ·rcases lq hk with hk|⟨_,hk⟩
  ·exact s0.mu k b g hk hm hg
  ·obtain⟨h0,h1,h2,h3,h4,h5⟩:=hid k b g hk hm hg
   refine⟨fun hf=> ?_,h2,aN h3 x.sz,h4⟩
   rcases(s.lI g hf).2 with e|e|e
   ·exact h1 e
   ·omega
   ·exact h5 e
 ·rcases lq hk with hk|⟨_,hk⟩
  ·rcases lq hk' with hk'|⟨_,hk'⟩
   ·exact s0.inj k k' b b' g hk hk' hm hm' hg hg'
   ·exact(cross k k' b b' g hk hk' hm hm' hg hg').elim
  ·rcases lq hk' with hk'|⟨_,hk'⟩
   ·exact(cross k' k b' b g hk' hk hm' hm hg' hg).elim
   ·exact st.inj k k' b b' g (hh k b hk).1 (hh k' b' hk').1 hm hm' (hid k b g hk hm hg).1 (hid k' b' g hk' hm' hg').1
 ·rcases lq hk with hk|⟨_,hk⟩
  ·exact s0.blk k b hk
  ·have hk1:=(hh k b hk).1
   rw [x.s k (st.lab k b hk1)]
   refine(st.blk k b hk1).mono x fun hm g hg=> ?_
   obtain⟨_,_,h3,_,h5⟩:=Yj k b g hk hm hg
   exact s.nN.block g h3 h5
end
section
variable {P:Program}{G:Glob}{jL:World}{jO jQ:Nat->Prop}{N:Nat}{ds:List Deferred}{W:Nat->Bool}{ops:Array Oper}{jK:jU}
abbrev nT (n:Nat)(σ:Nat->Loc)(F:Nat->Prop)(w:World)(kS:jM)(ρ:jU):Prop:= ∀s,jX n σ F w (kS s) (ρ s)
theorem ni {n n':Nat}{σ σ':Nat->Loc}{F F':Nat->Prop}{w w':World}{kS:jM}{ρ:jU}{d:Option Nat}{a:AV}{v:Value}(h:nT n σ F w kS ρ)(x:Ext n σ F w n' σ' F' w')(r:jX n' σ' F' w' a v) :
  nT n' σ' F' w' (mF kS d a) (lG ρ d v):=by
 intro s
 cases d with
 | none=>exact(h s).mono x
 | some d=>
  simp only [mF,lG,qc,upd]
  cases Nat.beq s d with
  | true=>exact r
  | false=>exact(h s).mono x
theorem uP {n:Nat}{σ:Nat->Loc}{F:Nat->Prop}{w:World}{kS:jM}{ρ:jU}{s:Nat}{v:Value}(h:nT n σ F w kS ρ)(e:ρ s=v):nT n σ F w (qc kS s (.v v)) ρ:=by
 intro k
 simp only [qc]
 cases hb:Nat.beq k s with
 | true=>rw [aj hb,e];exact .v v
 | false=>exact h k
theorem nJ {n:Nat}{σ:Nat->Loc}{F:Nat->Prop}{w:World}{kS:jM}{ρ:jU}{a:Act}{o:Oper}{A Ju:jM->Prop}(hf:Fits N ds ρ a)(hr:nT n σ F w kS ρ)(h:Aq ops.toList o kS A Ju) :
  ∃lF,nT n σ F w lF ρ∧((Region.wanted o (yielded ops a.tmps)=true∧A lF)∨(Region.wanted o (yielded ops a.tmps)=false∧Ju lF)):=by
 unfold Aq at h
 unfold Region.wanted
 split at h
 ·rename_i hg;rw [hg];exact⟨kS,hr, .inl ⟨rfl,h⟩⟩
 ·rename_i g want hg
  rw [hg]
  simp only [vM hf g]
  split at h
  ·rename_i s hs
   simp only [hs]
   have rs:=hr s
   split at h
   ·rename_i t ht
    rw [ht]at rs
    have e:=rs.kR
    simp only [e]
    cases t<;>cases want<;>simp only [BO,cond_true,cond_false]at h
    ·exact⟨_,uP hr e, .inl ⟨rfl,h⟩⟩
    ·exact⟨_,uP hr e, .inr ⟨rfl,h⟩⟩
    ·exact⟨_,uP hr e, .inr ⟨rfl,h⟩⟩
    ·exact⟨_,uP hr e, .inl ⟨rfl,h⟩⟩
   ·rename_i x hne ht
    rw [ht]at rs
    simp only [rs.kR]
    refine⟨_,hr, .inr ⟨?_,h⟩⟩
    cases x<;>first|rfl|exact(hne _ ht).elim
   ·cases h
  ·rename_i hs
   simp only [hs]
   exact⟨_,hr, .inr ⟨rfl,h⟩⟩
structure Ed (G:Glob)(jL:World)(jO jQ:Nat->Prop)(N:Nat)(ds:List Deferred)(W:Nat->Bool)(jK:jU)(nb:Nat)(ny:Nat->Loc)(Fb:Nat->Prop)(wb:World)(K:jM->Nat->jI->Prop)(a:Act)(w:World):Prop where
 ex : ∃ρ kS n σ F H,Fits N ds ρ a∧Same W jK ρ∧St G jL jO jQ n σ F H w∧Ext nb ny Fb wb n σ F w∧nT n σ F w kS ρ∧K kS n H
def AQ (G:Glob)(jL:World)(jO jQ:Nat->Prop)(N:Nat)(ds:List Deferred)(W:Nat->Bool)(jK:jU)(nb:Nat)(ny:Nat->Loc)(Fb:Nat->Prop)(wb:World)(Q:Ex->jM->Nat->jI->Prop):Exit->Act->World->Prop
 | .normal,a,w=>Ed G jL jO jQ N ds W jK nb ny Fb wb (Q .normal) a w
 | .exit id,a,w=>Ed G jL jO jQ N ds W jK nb ny Fb wb (Q (.exit id)) a w
 | .ret,a,w=>Ed G jL jO jQ N ds W jK nb ny Fb wb (Q .ret) a w
 | _,_,_=>False
variable {nb:Nat}{ny:Nat->Loc}{Fb:Nat->Prop}{wb:World}
theorem Ar {K:jM->Nat->jI->Prop}{Q:Exit->Act->World->Prop}(hQ : ∀a w,Ed G jL jO jQ N ds W jK nb ny Fb wb K a w->Q .normal a w) :
  ∀(l:List Oper) (k:Nat) (kS:jM) (n:Nat) (σ:Nat->Loc) (F:Nat->Prop) (H:jI) (ρ:jU) (a:Act) (w:World),(∀j,l[j]? = ops.toList[k+j]?)->(∀o∈l,nM N W o=true∧rP o=true)->
   Fits N ds ρ a->Same W jK ρ->St G jL jO jQ n σ F H w->Ext nb ny Fb wb n σ F w->nT n σ F w kS ρ->Lj P G ops.toList l kS n H K->wpOps P ops Q (List.range' k l.length) a w:=by
 intro l
 induction l with
 | nil=>intro k kS n σ F H ρ a w _ _ hf hs st x hr h;exact hQ a w ⟨ρ,kS,n,σ,F,H,hf,hs,st,x,hr,h⟩
 | cons o rest ih=>
  intro k kS n σ F H ρ a w hl hok hf hs st x hr h
  have ho:ops[k]? = some o:=by
   have:=hl 0
   simp only [bJ,bU]at this
   rw [<-aT];exact this.symm
  obtain⟨ho1,hi1⟩:=hok o aaA
  have next : ∀j,rest[j]? = ops.toList[k+1+j]? :=fun j=>by have:=hl (j+1);simp only [dL]at this;rw [this];congr 1;omega
  simp only [aZ,iL]
  simp only [wpOps,ho]
  simp only [Lj,nZ]at h
  obtain⟨lF,hr',h⟩:=nJ hf hr h
  rcases h with ⟨hw,hv⟩|⟨hw,hv⟩
  ·simp only [hw,if_true]
   refine .inl ((oM (ug hv hi1 st hr')).wp hf.eval fun v w' ⟨a',n',σ',F',H',hk,s,x',ra⟩=> ?_)
   exact ih (k+1) _ _ _ _ _ _ _ _ next (fun o' ho'=>hok o' (by simp [ho'])) (hf.put o.dst v (kX ho1)) (hs.lG ho1) s (x.trans x') (ni hr' x' ra) hk
  ·simp only [hw,aS,if_false]
   exact ih (k+1) _ _ _ _ _ _ _ _ next (fun o' ho'=>hok o' (by simp [ho'])) (hf.put o.dst undef (kX ho1)) (hs.lG ho1) st x (ni hr' (Ext.refl _ _ _ _) (.v undef)) hv
def Keeps (σ:Nat->Loc)(D:List Nat)(H:jI)(w u:World):Prop:=w.heap.size<=u.heap.size∧∀b,b<w.heap.size->¬qX w σ (qQ D H) b->u.heap[b]? = w.heap[b]?
theorem Au {n:Nat}{σ:Nat->Loc}{F:Nat->Prop}{H:jI}{D:List Nat}{w u:World}(st:St G jL jO jQ n σ F H w)(h:Keeps σ D H w u):qh σ F (pU D H) w u:=by
 have hF : ∀b,F b->u.heap[b]? = w.heap[b]? :=fun b hb=>h.2 b (st.lI b hb).1 fun⟨k,c,e1,e2,e3⟩=>(st.mu k c b (oD e1).2 e2 e3).1 hb
 refine⟨hF,fun jT blk g hk ho hg=> ?_⟩
 obtain⟨hm,hk⟩:=qG hk
 refine h.2 g (st.mu jT blk g hk ho hg).2.2.1 fun⟨k,c,e1,e2,e3⟩=> ?_
 obtain⟨f1,f2⟩:=oD e1
 have:=st.inj jT k blk c g hk f2 ho e2 hg e3
 subst this
 rw [hm]at f1;cases f1
theorem NT {D:List Nat}{H:jI} : ∀k b,look (pU D H) k=some b->look H k=some b∧look (qQ D H) k=none:=fun k b h=>by
 obtain⟨h1,h2⟩:=qG h
 refine⟨h2, ?_⟩
 cases hv:look (qQ D H) k with
 | none=>rfl
 | some c=>have:=(oD hv).1;rw [h1]at this;cases this
theorem NU {n:Nat}{σ:Nat->Loc}{F:Nat->Prop}{H:jI}{w w':World}{D:List Nat}(D':List Nat)(hD : ∀k,k<n->qP D' k=true->qP D k=true){v:Value}{K:AV->Nat->jI->Prop}(st:St G jL jO jQ n σ F H w)(h:D6 G w (qX w σ (qQ D H)) F n σ F w K v w') :
  ∃a n' σ' F' H',K a n' H'∧St G jL jO jQ n' σ' F' (H'++pU D H) w'∧Ext n σ F w n' σ' F' w'∧jX n' σ' F' w' a v∧∀u,Keeps σ' D' (H'++pU D H) w' u->Keeps σ D H w u:=by
 obtain⟨a,n',σ',F',H',hk,s,x,ra⟩:=h
 refine⟨a,n',σ',F',H',hk,st.join (fun k b hk=>(oD hk).2) NT s x,x,ra,fun u hu=>⟨bZ x.sz hu.1,fun b hb hn=> ?_⟩⟩
 rw [hu.2 b (aN hb x.sz) fun⟨k,c,e1,e2,e3⟩=> ?_]
 ·exact s.nN.block b hb hn
 ·obtain⟨f1,f2⟩:=oD e1
  rcases lq f2 with g1|⟨_,g1⟩
  ·rcases(s.mu k c b g1 e2 e3).2.2.2 with e|e
   ·exact hn e
   ·omega
  ·have h0:=qG g1
   have:=h0.1
   rw [hD k (st.lab k c h0.2) f1]at this;cases this
theorem sU (σ:Nat->Loc)(D:List Nat)(H:jI)(w:World):Keeps σ D H w w:=⟨ay _,fun _ _ _=>rfl⟩
def RA (K:Act->World->Prop):Exit->Act->World->Prop
 | .normal,a,w=>K a w
 | _,_,_=>False
theorem IX {ops:Array Oper}{T:List Nat}{i j:Nat}(h:postAt ops T i=true)(hj:j∈T)(hne:j≠i):Jv ops i j:=F7 h hj hne
def nD (P:Program)(ops:Array Oper)(Q:Exit->Act->World->Prop):Nat->List Nat->(World->Prop)->Array Bool->Act->World->Prop
 | 0,_,_,listed,a,w=>Region.ready .any ops listed = []∧Q .normal a w
 | fuel+1,T,S,listed,a,w=>
  (Region.ready .any ops listed = []->Q .normal a w)∧
  ∀i∈Region.ready .any ops listed,wpOp P ops Q i (fun a' w'=>(postAt ops T i=true∧∃T' S',nD P ops Q fuel T' S' (listed.setIfInBounds i true) a' w')∨(S w'∧nD P ops Q fuel T S (listed.setIfInBounds i true) a' w')) a w
theorem oU {Q:Exit->Act->World->Prop} : ∀(fuel:Nat) (T:List Nat) (S:World->Prop) (listed:Array Bool) (a:Act) (w:World),nD P ops Q fuel T S listed a w->wpAny P .any ops Q fuel listed a w
 | 0,_,_,_,_,_,h=>h
 | fuel+1,_,_,_,_,_,h=>⟨h.1,fun i hi=>wpOp_mono (fun a' w' h'=>h'.elim (fun⟨_,_,_,hh⟩=>oU fuel _ _ _ a' w' hh) fun h'=>oU fuel _ _ _ a' w' h'.2) (h.2 i hi)⟩
theorem uh {Q:Exit->Act->World->Prop}{T:List Nat}{S S':World->Prop}(h : ∀u,S' u->S u) : ∀(fuel:Nat) (listed:Array Bool) (a:Act) (w:World),nD P ops Q fuel T S' listed a w->nD P ops Q fuel T S listed a w
 | 0,_,_,_,hh=>hh
 | fuel+1,_,_,_,hh=>⟨hh.1,fun i hi=>wpOp_mono (fun a' w' h'=>h'.imp id fun h'=>⟨h w' h'.1,uh h fuel _ a' w' h'.2⟩) (hh.2 i hi)⟩
theorem xw {Q:Exit->Act->World->Prop}{T:List Nat}{S:World->Prop}{i:Nat}{oi:Oper}{v:Value}(hi:ops[i]? = some oi)(hT:i∈T)(hsel : ∀(j:Nat) (o:Oper) cs b,ops[j]? = some o->o.op≠ .select cs b)
  (hQ : ∀c a w,Q (.panic c) (a.put oi.dst v) w->Q (.panic c) a w) :
  ∀(fuel:Nat) (listed:Array Bool) (a:Act) (w:World),
   (∀j oj,ops[j]? = some oj->j≠i->listed.getD j true=false->(∀e∈oj.after,Region.binds .any e=true->e.on≠i)->oi.apart ops oj=true)->
   Down ops listed->i∈Region.ready .any ops listed->YieldsIf P ops S oi v a->S w->
   nD P ops Q fuel T S (listed.setIfInBounds i true) (a.put oi.dst v) w->nD P ops Q (fuel+1) T S listed a w:=by
 intro fuel
 induction fuel with
 | zero=>
  intro listed a w _ _ hr hy hS H
  refine⟨fun h=>abj,fun j hj=> ?_⟩
  by_cases hji:j=i
  ·subst hji;exact hy.wpOp hi hS (.inr ⟨hS,H⟩)
  ·have:=ready_mono hj hji
   rw [H.1]at this
   cases this
 | succ fuel ih=>
  intro listed a w hfree hdown hr hy hS H
  refine⟨fun h=>abj,fun j hj=> ?_⟩
  by_cases hji:j=i
  ·subst hji;exact hy.wpOp hi hS (.inr ⟨hS,H⟩)
  ·have h1:=H.2 j (ready_mono hj hji)
   obtain⟨hjun,oj,hoj,hall⟩:=mem_ready.1 hj
   have hnot : ∀e∈oj.after,Region.binds .any e=true->e.on≠i:=fun e he hb heq=>by
    have h1:=hall e he hb
    have h0:=(mem_ready.1 hr).1
    rw [heq]at h1
    rcases gB i listed.size with h'|h'
    ·simp [h']at h0 h1;rw [h0]at h1;cases h1
    ·simp [dP h']at h1
   have h2:=wpOp_putIf hoj (hfree j oj hoj hji hjun hnot) (fun cs b=>hsel i oi cs b hi) (fun cs b=>hsel j oj cs b hoj) hQ hy h1
   have hfree' : ∀k ok,ops[k]? = some ok->k≠i->(listed.setIfInBounds j true).getD k true=false->
     (∀e∈ok.after,Region.binds .any e=true->e.on≠i)->oi.apart ops ok=true:=fun k ok hk hki hun hno=>by
    refine hfree k ok hk hki ?_ hno
    by_cases hjk:j=k
    ·subst hjk;exact hjun
    ·rw [getD_set_ne true hjk]at hun;exact hun
   have ZU:i∈Region.ready .any ops (listed.setIfInBounds j true):=ready_mono hr (jE hji)
   have hns:postAt ops T j=true->False:=fun hsk=>by
    have h1:=hdown.anc hj (IX hsk hT (jE hji))
    have h0:=(mem_ready.1 hr).1
    rcases gB i listed.size with h'|h'
    ·simp [h']at h0 h1;rw [h0]at h1;cases h1
    ·simp [dP h']at h1
   refine wpOp_mono (fun a' w' h3=> ?_) h2
   have h4:=h3.2.resolve_left fun hh=>hns hh.1
   refine .inr ⟨h4.1,ih (listed.setIfInBounds j true) a' w' hfree' (hdown.set hj) ZU h3.1 h4.1 ?_⟩
   rw [jh _ _ hji]
   exact h4.2
theorem uj (hsel:Region.noSelect ops=true)(hok : ∀o∈ops.toList,nM N W o=true∧rP o=true){K:jM->Nat->jI->Prop} :
  ∀(p:Plan) (D:List Nat) (T:List Nat) (listed:Array Bool) (kS:jM) (n:Nat) (σ:Nat->Loc) (F:Nat->Prop) (H:jI) (ρ:jU) (a:Act) (w:World),lM ops p listed=true->mO ops T p=true->Down ops listed->Fits N ds ρ a->Same W jK ρ->St G jL jO jQ n σ F H w->Ext nb ny Fb wb n σ F w->nT n σ F w kS ρ->
   aD P G ops.toList D p kS n H K->∀fuel,p.depth<=fuel->nD P ops (RA (Ed G jL jO jQ N ds W jK nb ny Fb wb K)) fuel T (Keeps σ D H w) listed a w:=by
 have mem : ∀ {i:Nat} {o:Oper},ops.toList[i]? = some o->ops[i]? = some o∧nM N W o=true∧rP o=true:=fun {i o} h=>
  ⟨by rw [<-aT];exact h,hok o (aO h)⟩
 have fin : ∀ {T:List Nat} {S:World->Prop} {listed:Array Bool} {kS:jM} {n:Nat} {σ:Nat->Loc} {F:Nat->Prop} {H:jI} {ρ:jU} {a:Act} {w:World},Region.ready .any ops listed = []->Fits N ds ρ a->Same W jK ρ->St G jL jO jQ n σ F H w->Ext nb ny Fb wb n σ F w->nT n σ F w kS ρ->K kS n H->
   ∀fuel,nD P ops (RA (Ed G jL jO jQ N ds W jK nb ny Fb wb K)) fuel T S listed a w:=by
  intro T S listed kS n σ F H ρ a w hr hf hs st x hrep h fuel
  cases fuel with
  | zero=>exact⟨hr,ρ,kS,n,σ,F,H,hf,hs,st,x,hrep,h⟩
  | succ m=>exact⟨fun _=>⟨ρ,kS,n,σ,F,H,hf,hs,st,x,hrep,h⟩,by rw [hr];simp⟩
 intro p
 have one : ∀(p:Plan),(∀(D:List Nat) (T:List Nat) (listed:Array Bool) (kS:jM) (n:Nat) (σ:Nat->Loc) (F:Nat->Prop) (H:jI) (ρ:jU) (a:Act) (w:World),lM ops p listed=true->mO ops T p=true->Down ops listed->Fits N ds ρ a->Same W jK ρ->St G jL jO jQ n σ F H w->Ext nb ny Fb wb n σ F w->nT n σ F w kS ρ->
   aD P G ops.toList D p kS n H K->∀fuel,p.depth<=fuel->nD P ops (RA (Ed G jL jO jQ N ds W jK nb ny Fb wb K)) fuel T (Keeps σ D H w) listed a w)->
   ∀(i:Nat) (o:Oper) (D:List Nat) (T:List Nat) (listed:Array Bool) (kS:jM) (n:Nat) (σ:Nat->Loc) (F:Nat->Prop) (H:jI) (ρ:jU) (a:Act) (w:World),ops.toList[i]? = some o->lM ops p (listed.setIfInBounds i true)=true->mO ops T p=true->Down ops (listed.setIfInBounds i true)->Fits N ds ρ a->Same W jK ρ->St G jL jO jQ n σ F H w->Ext nb ny Fb wb n σ F w->nT n σ F w kS ρ->
   (Aq ops.toList o kS (fun ρ'=>aE P G o ρ' n (qQ D H) fun a n' H'=>aD P G ops.toList (dx o n D) p (mF ρ' o.dst a) n' (H'++pU D H) K) fun ρ'=>aD P G ops.toList D p (mF ρ' o.dst (.v undef)) n H K)->
   ∀fuel,p.depth<=fuel->wpOp P ops (RA (Ed G jL jO jQ N ds W jK nb ny Fb wb K)) i (fun a' w'=>(postAt ops T i=true∧∃T' S',nD P ops (RA (Ed G jL jO jQ N ds W jK nb ny Fb wb K)) fuel T' S' (listed.setIfInBounds i true) a' w')∨(Keeps σ D H w w'∧nD P ops (RA (Ed G jL jO jQ N ds W jK nb ny Fb wb K)) fuel T (Keeps σ D H w) (listed.setIfInBounds i true) a' w')) a w:=by
  intro p ih i o D T listed kS n σ F H ρ a w xX hp hpo hdn hf hs st x hr h fuel hfu
  obtain⟨hi,ho,Aw⟩:=mem xX
  obtain⟨lF,hr',h⟩:=nJ hf hr h
  unfold Go.wpOp
  simp only [hi]
  rcases h with ⟨hw,hv⟩|⟨hw,hv⟩
  ·simp only [hw,if_true]
   refine .inl ((oM (ug hv Aw (st.sub fun k b hk=>(oD hk).2).start hr')).wp hf.eval fun v w' ht=> ?_)
   obtain⟨a',n',σ',F',H',hk,s,x',ra,hkeep⟩:=NU (dx o n D) (fun k hk=>VK hk) st ht
   exact .inr ⟨hkeep w' (sU _ _ _ _),uh hkeep _ _ _ _ (ih _ _ _ _ _ _ _ _ _ _ _ hp hpo hdn (hf.put o.dst v (kX ho)) (hs.lG ho) s (x.trans x') (ni hr' x' ra) hk fuel hfu)⟩
  ·simp only [hw,aS,if_false]
   exact .inr ⟨sU _ _ _ _,ih _ _ _ _ _ _ _ _ _ _ _ hp hpo hdn (hf.put o.dst undef (kX ho)) (hs.lG ho) st x (ni hr' (Ext.refl _ _ _ _) (.v undef)) hv fuel hfu⟩
 induction p with
 | done=>
  intro D T listed kS n σ F H ρ a w hp hpo hdn hf hs st x hr h fuel _
  exact fin (by simpa [lM]using hp) hf hs st x hr h fuel
 | take i p ih=>
  intro D T listed kS n σ F H ρ a w hp hpo hdn hf hs st x hr h fuel hfu
  simp only [lM,ah]at hp
  obtain⟨⟨⟨hq,hrd⟩,hfree⟩,hp'⟩:=hp
  simp only [mO,ah]at hpo
  have hTi:i∈T:=by simpa using hpo.1
  simp only [aD,nZ,oQ,lQ]at h
  split at h
  ·rename_i o xX
   obtain⟨hi,ho,Aw⟩:=mem xX
   simp only [hi]at hq
   cases fuel with
   | zero=>simp [Plan.depth]at hfu
   | succ fuel=>
    have xY:p.depth<=fuel:=aau
    obtain⟨lF,hr',h⟩:=nJ hf hr h
    have go : ∀(v:Value) (av:AV),YieldsIf P ops (Keeps σ D H w) o v a->jX n σ F w av v->aD P G ops.toList D p (mF lF o.dst av) n H K->nD P ops (RA (Ed G jL jO jQ N ds W jK nb ny Fb wb K)) (fuel+1) T (Keeps σ D H w) listed a w:=fun v av hy ra hv=>
     xw hi hTi (Region.noSelect_spec hsel) (fun c a w hq=>hq) fuel listed a w (Region.free_spec hi hfree) hdn abp hy (sU _ _ _ _)
      (ih _ _ _ _ _ _ _ _ _ _ _ hp' hpo.2 (hdn.set abp) (hf.put o.dst v (kX ho)) (hs.lG ho) st x (ni hr' (Ext.refl _ _ _ _) ra) hv fuel xY)
    rcases h with ⟨hw,hv⟩|⟨hw,hv⟩
    ·have hH:qZ n σ F w (pU D H):=fun k b hk=>st.blk k b (qG hk).2
     obtain⟨av,v,hk,ra,hrun⟩:=Ah hv Aw hH st.hrep hr'
     refine go v av (.inl ⟨hw,fun u hu=> ?_⟩) ra hk
     rw [hf.eval]
     obtain⟨v',he,hvv,_⟩:=(oM (hrun u true (fun v' u'=>v'=v∧u'=u) (Au st hu) ⟨rfl,rfl⟩)).quiet hq
     rw [he,hvv]
    ·exact go undef (.v undef) (.inr ⟨hw,rfl⟩) (.v undef) hv
  ·cases h
 | one i p ih=>
  intro D T listed kS n σ F H ρ a w hp hpo hdn hf hs st x hr h fuel hfu
  simp only [lM,ah,beq_iff_eq]at hp
  obtain⟨hrd,hp'⟩:=hp
  simp only [aD,nZ,oQ,lQ]at h
  split at h
  ·rename_i o xX
   cases fuel with
   | zero=>simp [Plan.depth]at hfu
   | succ fuel=>
    have xY:p.depth<=fuel:=aau
    refine⟨fun e=>aa9,fun j hj=> ?_⟩
    rw [hrd]at hj
    simp only [bP]at hj
    subst hj
    exact one p ih j o D T listed kS n σ F H ρ a w xX hp' hpo (hdn.set (i:=j) abb) hf hs st x hr h fuel xY
  ·cases h
 | two i p j r Qx ihr=>
  intro D T listed kS n σ F H ρ a w hp hpo hdn hf hs st x hr h fuel hfu
  simp only [lM,ah,beq_iff_eq]at hp
  obtain⟨⟨hrd,hp'⟩,hr'⟩:=hp
  simp only [mO,ah]at hpo
  simp only [aD,nZ,oQ,lQ]at h
  split at h
  ·rename_i o o' xX hjo
   obtain⟨ha,hb⟩:=h
   cases fuel with
   | zero=>simp [Plan.depth]at hfu
   | succ fuel=>
    have DC:p.depth<=fuel:=aau
    have hfu2:r.depth<=fuel:=aau
    refine⟨fun e=>aa9,fun k hk=> ?_⟩
    rw [hrd]at hk
    simp only [bG,gX,or_false]at hk
    rcases hk with rfl|rfl
    ·exact one p Qx k o D T listed kS n σ F H ρ a w xX hp' hpo.1 (hdn.set (i:=k) abb) hf hs st x hr ha fuel DC
    ·exact one r ihr k o' D T listed kS n σ F H ρ a w hjo hr' hpo.2 (hdn.set (i:=k) abb) hf hs st x hr hb fuel hfu2
  ·cases h
 | three i p j r k q Qx ihr ZC=>
  intro D T listed kS n σ F H ρ a w hp hpo hdn hf hs st x hr h fuel hfu
  simp only [lM,ah,beq_iff_eq]at hp
  obtain⟨⟨⟨hrd,hp'⟩,hr'⟩,hq'⟩:=hp
  simp only [mO,ah]at hpo
  simp only [aD,nZ,oQ,lQ]at h
  split at h
  ·rename_i o o' o'' xX hjo hko
   obtain⟨ha,hb,hc⟩:=h
   cases fuel with
   | zero=>simp [Plan.depth]at hfu
   | succ fuel=>
    have DC:p.depth<=fuel:=aau
    have hfu2:r.depth<=fuel:=aau
    have Qz:q.depth<=fuel:=aau
    refine⟨fun e=>aa9,fun k hk=> ?_⟩
    rw [hrd]at hk
    simp only [bG,gX,or_false]at hk
    rcases hk with rfl|rfl|rfl
    ·exact one p Qx k o D T listed kS n σ F H ρ a w xX hp' hpo.1.1 (hdn.set (i:=k) abb) hf hs st x hr ha fuel DC
    ·exact one r ihr k o' D T listed kS n σ F H ρ a w hjo hr' hpo.1.2 (hdn.set (i:=k) abb) hf hs st x hr hb fuel hfu2
    ·exact one q ZC k o'' D T listed kS n σ F H ρ a w hko hq' hpo.2 (hdn.set (i:=k) abb) hf hs st x hr hc fuel Qz
  ·cases h
 | sink i=>
  intro D T listed kS n σ F H ρ a w hp hpo hdn hf hs st x hr h fuel hfu
  simp only [lM,ah,beq_iff_eq]at hp
  obtain⟨⟨hrd,hsk⟩,he⟩:=hp
  simp only [aD,nZ,oQ,lQ]at h
  split at h
  ·rename_i o xX
   obtain⟨hi,ho,Aw⟩:=mem xX
   cases fuel with
   | zero=>simp [Plan.depth]at hfu
   | succ fuel=>
    refine⟨fun e=>aa9,fun j hj=> ?_⟩
    rw [hrd]at hj
    simp only [bP]at hj
    subst hj
    have he':Region.ready .any ops (listed.setIfInBounds j true) = []:=by simpa using he
    obtain⟨lF,hr',h⟩:=nJ hf hr h
    unfold Go.wpOp
    simp only [hi]
    rcases h with ⟨hw,hv⟩|⟨hw,hv⟩
    ·simp only [hw,if_true]
     refine .inl ((oM (ug hv Aw st hr')).wp hf.eval fun v w' ⟨a',n',σ',F',H',hk,s,x',ra⟩=> ?_)
     exact .inl ⟨hpo,[],fun _=>True,fin he' (hf.put o.dst v (kX ho)) (hs.lG ho) s (x.trans x') (ni hr' x' ra) hk fuel⟩
    ·simp only [hw,aS,if_false]
     exact .inl ⟨hpo,[],fun _=>True,fin he' (hf.put o.dst undef (kX ho)) (hs.lG ho) st x (ni hr' (Ext.refl _ _ _ _) (.v undef)) hv fuel⟩
  ·cases h
 | post i p ih=>
  intro D T listed kS n σ F H ρ a w hp hpo hdn hf hs st x hr h fuel hfu
  simp only [lM,ah,beq_iff_eq]at hp
  obtain⟨hrd,hp'⟩:=hp
  simp only [mO,ah]at hpo
  simp only [aD,nZ,oQ,lQ]at h
  split at h
  ·rename_i o xX
   obtain⟨hi,ho,Aw⟩:=mem xX
   cases fuel with
   | zero=>simp [Plan.depth]at hfu
   | succ fuel=>
    have xY:p.depth<=fuel:=aau
    refine⟨fun e=>aa9,fun j hj=> ?_⟩
    rw [hrd]at hj
    simp only [bP]at hj
    subst hj
    have rW:=hdn.set (i:=j) abb
    obtain⟨lF,hr',h⟩:=nJ hf hr h
    unfold Go.wpOp
    simp only [hi]
    rcases h with ⟨hw,hv⟩|⟨hw,hv⟩
    ·simp only [hw,if_true]
     refine .inl ((oM (ug hv Aw st hr')).wp hf.eval fun v w' ⟨a',n',σ',F',H',hk,s,x',ra⟩=> ?_)
     exact .inl ⟨hpo.1,takes p,_,ih _ _ _ _ _ _ _ _ _ _ _ hp' hpo.2 rW (hf.put o.dst v (kX ho)) (hs.lG ho) s (x.trans x') (ni hr' x' ra) hk fuel xY⟩
    ·simp only [hw,aS,if_false]
     exact .inl ⟨hpo.1,takes p,_,ih _ _ _ _ _ _ _ _ _ _ _ hp' hpo.2 rW (hf.put o.dst undef (kX ho)) (hs.lG ho) st x (ni hr' (Ext.refl _ _ _ _) (.v undef)) hv fuel xY⟩
  ·cases h
theorem St.drew {n:Nat}{σ:Nat->Loc}{F:Nat->Prop}{H:jI}{w:World}(st:St G jL jO jQ n σ F H w):St G jL jO jQ n σ F H w.drew:=
 ⟨st.glob,⟨st.nN.os,st.nN.tape,st.nN.output,st.nN.size,st.nN.block⟩,st.lI,st.lab,st.mu,st.inj,fun k b hk=>qW.mono (n:=n) (σ:=σ) (F:=F) (w:=w) (w':=w.drew) ⟨ay _,fun _ _=>rfl,fun _ h=>⟨h,rfl⟩,ay _⟩ (st.blk k b hk) fun _ _ _=>rfl⟩
theorem Az (n:Nat)(σ:Nat->Loc)(F:Nat->Prop)(w:World):Ext n σ F w n σ F w.drew:=⟨ay _,fun _ _=>rfl,fun _ h=>⟨h,rfl⟩,ay _⟩
theorem Lm {Q:Exit->Act->World->Prop}{ns:List Nd}{ws:Nat->Bool}{nb:Nat}{A:Nat->NS}{σs:Nat->Loc}{Fs:Nat->Prop}{Hs:jI}{D:List Nat}{wb:World}{ρs:jM}{VL:jU}{T:List Nat}{e:Nat}
  (QU:UY ops ns=true) (hok : ∀o∈ops.toList,nM N (fun k=>W k&&ws k) o=true∧rP o=true)
  (hle : ∀j,nb<=(A j).n) (hun : ∀j s,ws s=false->(A j).ρ s=ρs s) (hrs:nT nb σs Fs wb ρs VL)
  (hstep : ∀k nd,ns[k]? = some nd->∀s∈nd.succ,JG P G ops.toList ws nb A k s)
  (hend : ∀k nd,ns[k]? = some nd->nd.succ = []->∀(σ:Nat->Loc) (F:Nat->Prop) (ρ:jU) (a:Act) (w:World),Down ops nd.listed->Fits N ds ρ a->Same (fun k=>W k&&ws k) VL ρ->St G wb (qX wb σs (qQ D Hs)) Fs (A k).n σ F (A k).H w->Ext nb σs Fs wb (A k).n σ F w->nT (A k).n σ F w (A k).ρ ρ->∀fuel,e<=fuel->nD P ops Q fuel T (Keeps σs D Hs wb) nd.listed a w) :
  ∀(m:Nat) (k:Nat) (nd:Nd),ns[k]? = some nd->nd.dep<=m->∀(σ:Nat->Loc) (F:Nat->Prop) (ρ:jU) (a:Act) (w:World),Down ops nd.listed->Fits N ds ρ a->Same (fun k=>W k&&ws k) VL ρ->St G wb (qX wb σs (qQ D Hs)) Fs (A k).n σ F (A k).H w->Ext nb σs Fs wb (A k).n σ F w->nT (A k).n σ F w (A k).ρ ρ->∀fuel,m+e<=fuel->nD P ops Q fuel T (Keeps σs D Hs wb) nd.listed a w:=by
 have mem : ∀ {i:Nat} {o:Oper},ops.toList[i]? = some o->ops[i]? = some o∧nM N (fun k=>W k&&ws k) o=true∧rP o=true:=fun {i o} h=>
  ⟨by rw [<-aT];exact h,hok o (aO h)⟩
 intro m
 induction m with
 | zero=>
  intro k nd hk hd σ F ρ a w hdn hf hs st x hr fuel hfu
  cases hsu:nd.succ with
  | nil=>exact hend k nd hk hsu σ F ρ a w hdn hf hs st x hr fuel aad
  | cons s r=>
   exfalso
   have h1:=bf.1 QU nd (aO hk)
   rw [hsu]at h1
   simp only [List.isEmpty_cons,iM,ah,bf]at h1
   have h2:=h1.2 s dN
   split at h2
   ·simp only [ah]at h2
    have h3:=h2.2
    rw [Nat.blt_eq]at h3
    omega
   ·cases h2
 | succ m ih=>
  intro k nd hk hd σ F ρ a w hdn hf hs st x hr fuel hfu
  cases hsu:nd.succ with
  | nil=>exact hend k nd hk hsu σ F ρ a w hdn hf hs st x hr fuel aad
  | cons s0 r0=>
   have h1:=bf.1 QU nd (aO hk)
   have hne:nd.succ.isEmpty=false:=by rw [hsu];rfl
   rw [hne]at h1
   simp only [iM,ah,bf,beq_iff_eq]at h1
   obtain⟨hrd,hall⟩:=h1
   cases fuel with
   | zero=>omega
   | succ fuel=>
    refine⟨fun e=> ?_,fun i hi=> ?_⟩
    ·rw [hrd,hsu]at e;cases e
    rw [hrd]at hi
    have hin:i∈Region.ready .any ops nd.listed:=by rw [hrd];exact hi
    obtain⟨s,hsm,rfl⟩:=dH.1 hi
    have h2:=hall s hsm
    split at h2
    ·rename_i nj hj
     simp only [ah,beq_iff_eq]at h2
     obtain⟨hlj,hdj⟩:=h2
     rw [Nat.blt_eq]at hdj
     have h:=hstep k nd hk s hsm
     unfold JG at h
     split at h
     ·rename_i o xX
      obtain⟨hi',ho,Aw⟩:=mem xX
      simp only [nZ]at h
      obtain⟨lF,hr',h⟩:=nJ hf hr h
      have next : ∀(v:Value) (w':World) (n':Nat) (σ':Nat->Loc) (F':Nat->Prop) (H':jI) (qR:jM),St G wb (qX wb σs (qQ D Hs)) Fs n' σ' F' H' w'->Ext (A k).n σ F w n' σ' F' w'->nT n' σ' F' w' qR (lG ρ o.dst v)->Ll (ET G ws nb qR n' H' (A s.2).ρ (A s.2).n (A s.2).H)->Keeps σs D Hs wb w'∧nD P ops Q fuel T (Keeps σs D Hs wb) (nd.listed.setIfInBounds s.1 true) (a.put o.dst v) w':=by
       intro v w' n' σ' F' H' qR s' x' r' hb
       obtain⟨σ2,F2,s2,r2,l2,f2⟩:=hb.holds wb (qX wb σs (qQ D Hs)) Fs σ' F' w' (lG ρ o.dst v) s' fun t _=>r' t
       have xx:=x.trans x'
       have x2:Ext nb σs Fs wb (A s.2).n σ2 F2 w':=⟨hle _,fun l hl=>(l2 l hl).trans (xx.s l hl),fun b hb=>⟨f2 b (xx.f b hb).1,(xx.f b hb).2⟩,xx.sz⟩
       refine⟨⟨xx.sz,fun b hb hn=>s2.nN.block b hb hn⟩, ?_⟩
       rw [<-hlj]
       refine ih s.2 nj hj aad σ2 F2 _ _ w' (by rw [hlj];exact hdn.set hin) (hf.put o.dst v (kX ho)) (hs.lG ho) s2 x2 (fun t=> ?_) fuel aad
       cases hws:ws t with
       | true=>exact r2 t hws
       | false=>
        have hsame:=hs.lG (v:=v) ho t (by simp [hws])
        rw [hun _ t hws,hsame]
        exact(hrs t).mono x2
      unfold Go.wpOp
      simp only [hi']
      rcases h with ⟨hw,hv⟩|⟨hw,hv⟩
      ·simp only [hw,if_true]
       refine .inl ((oM (ug hv Aw st hr')).wp hf.eval fun v w' ⟨a',n',σ',F',H',hk',s',x',ra⟩=> ?_)
       exact .inr (next v w' n' σ' F' H' _ s' x' (ni hr' x' ra) hk')
      ·simp only [hw,aS,if_false]
       exact .inr (next undef w _ σ F _ _ st (Ext.refl _ _ _ _) (ni hr' (Ext.refl _ _ _ _) (.v undef)) hv)
     ·cases h
    ·cases h2
theorem F8 {K:jM->Prop}{Kw:Act->World->Prop}{T:List Nat}{D:List Nat}{n:Nat}{σ:Nat->Loc}{F:Nat->Prop}{H:jI}{w:World}{k:Array Bool->Bool}{fuel:Nat}
  (hsel:Region.noSelect ops=true) (hok : ∀o∈ops.toList,nM N W o=true∧rP o=true) (st:St G jL jO jQ n σ F H w)
  (hend : ∀(listed:Array Bool) (kS:jM) (ρ:jU) (a:Act),k listed=true->Down ops listed->Fits N ds ρ a->Same W jK ρ->nT n σ F w kS ρ->K kS->nD P ops (RA Kw) fuel T (Keeps σ D H w) listed a w) :
  ∀(ts:List Nat) (listed:Array Bool) (kS:jM) (ρ:jU) (a:Act),JH ops T ts listed k=true->Down ops listed->Fits N ds ρ a->Same W jK ρ->nT n σ F w kS ρ->Qn P G ops.toList (pU D H) H ts kS K->nD P ops (RA Kw) (fuel+ts.length) T (Keeps σ D H w) listed a w:=by
 have mem : ∀ {i:Nat} {o:Oper},ops.toList[i]? = some o->ops[i]? = some o∧nM N W o=true∧rP o=true:=fun {i o} h=>
  ⟨by rw [<-aT];exact h,hok o (aO h)⟩
 intro ts
 induction ts with
 | nil=>intro listed kS ρ a hk hdn hf hs hr h;exact hend listed kS ρ a hk hdn hf hs hr h
 | cons i ts ih=>
  intro listed kS ρ a hp hdn hf hs hr h
  simp only [JH,ah]at hp
  obtain⟨⟨⟨⟨hq,hrd⟩,hfree⟩,hT⟩,hp'⟩:=hp
  have hTi:i∈T:=by simpa using hT
  simp only [Qn,oQ]at h
  split at h
  ·rename_i o xX
   obtain⟨hi,ho,Aw⟩:=mem xX
   simp only [hi]at hq
   obtain⟨lF,hr',h⟩:=nJ hf hr h
   have go : ∀(v:Value) (av:AV),YieldsIf P ops (Keeps σ D H w) o v a->jX n σ F w av v->Qn P G ops.toList (pU D H) H ts (mF lF o.dst av) K->nD P ops (RA Kw) (fuel+ts.length+1) T (Keeps σ D H w) listed a w:=fun v av hy ra hv=>
    xw hi hTi (Region.noSelect_spec hsel) (fun c a w hq=>hq) (fuel+ts.length) listed a w (Region.free_spec hi hfree) hdn abp hy (sU _ _ _ _)
     (ih _ _ _ _ hp' (hdn.set abp) (hf.put o.dst v (kX ho)) (hs.lG ho) (ni hr' (Ext.refl _ _ _ _) ra) hv)
   rcases h with ⟨hw,hv⟩|⟨hw,hv⟩
   ·have hH:qZ n σ F w (pU D H):=fun k b hk=>st.blk k b (qG hk).2
    obtain⟨av,v,hk,ra,hrun⟩:=Ah hv Aw hH st.hrep hr'
    refine go v av (.inl ⟨hw,fun u hu=> ?_⟩) ra hk
    rw [hf.eval]
    obtain⟨v',he,hvv,_⟩:=(oM (hrun u true (fun v' u'=>v'=v∧u'=u) (Au st hu) ⟨rfl,rfl⟩)).quiet hq
    rw [he,hvv]
   ·exact go undef (.v undef) (.inr ⟨hw,rfl⟩) (.v undef) hv
  ·cases h
theorem Lr {n:Nat}{σ:Nat->Loc}{F:Nat->Prop}{H:jI}{w w':World}{D:List Nat}(st:St G jL jO jQ n σ F H w){n':Nat}{σ':Nat->Loc}{F':Nat->Prop}{H':jI}(s:St G w (qX w σ (qQ D H)) F n' σ' F' H' w')(x:Ext n σ F w n' σ' F' w') :
  ∀u,Keeps σ' D (H'++pU D H) w' u->Keeps σ D H w u:=by
 intro u hu
 refine⟨bZ x.sz hu.1,fun b hb hn=> ?_⟩
 rw [hu.2 b (aN hb x.sz) fun⟨k,c,e1,e2,e3⟩=> ?_]
 ·exact s.nN.block b hb hn
 ·obtain⟨f1,f2⟩:=oD e1
  rcases lq f2 with g1|⟨_,g1⟩
  ·rcases(s.mu k c b g1 e2 e3).2.2.2 with e|e
   ·exact hn e
   ·omega
  ·have h0:=qG g1
   have:=h0.1
   rw [f1]at this;cases this
theorem JI {K:jM->Nat->jI->Prop}{kS:jM}{n:Nat}{σ:Nat->Loc}{F:Nat->Prop}{H:jI}{ρ:jU}{a:Act}{w:World}(hok : ∀o∈ops.toList,nM N W o=true∧rP o=true)
  (hf:Fits N ds ρ a) (hs:Same W jK ρ) (st:St G jL jO jQ n σ F H w) (x:Ext nb ny Fb wb n σ F w) (hr:nT n σ F w kS ρ)
  {T ts:List Nat} {ns:List Nd} {p:Plan} {e:Nat} {D:List Nat} {ws:Nat->Bool} {A:Nat->NS} (hd:yD ops T ts ns p e=true) (hws:(ops.toList.all fun o=>match o.dst with|some d=>ws d|none=>true)=true)
  (hle : ∀j,n<=(A j).n) (hun : ∀j s,ws s=false->(A j).ρ s=kS s)
  (h0:Qn P G ops.toList (pU D H) H ts kS fun ρ'=>Ll (ET G ws n ρ' n (qQ D H) (A 0).ρ (A 0).n (A 0).H))
  (hstep : ∀k nd,ns[k]? = some nd->∀s∈nd.succ,JG P G ops.toList ws n A k s)
  (hE : ∀k nd,ns[k]? = some nd->nd.succ = []->aD P G ops.toList D p (A k).ρ (A k).n ((A k).H++pU D H) K) :
  wpAny P .any ops (RA (Ed G jL jO jQ N ds W jK nb ny Fb wb K)) ops.size (Array.replicate ops.size false) a w.drew:=by
 have e1:=Az n σ F w
 simp only [yD,ah]at hd
 obtain⟨⟨⟨⟨⟨⟨htl,hsel⟩,QU⟩,hpo⟩,xZ⟩,hpl⟩,htk⟩:=hd
 have htl:=ak htl
 have hok2 : ∀o∈ops.toList,nM N (fun k=>W k&&ws k) o=true∧rP o=true:=fun o ho=>by
  refine⟨?_,(hok o ho).2⟩
  have h1:=(hok o ho).1
  have h2:=bf.1 hws o ho
  unfold nM at h1 ⊢
  cases hd:o.dst with
  | none=>rfl
  | some d=>
   rw [hd]at h1 h2
   simp only [ah]at h1 ⊢
   exact⟨h1.1,h1.2,h2⟩
 have hr1:nT n σ F w.drew kS ρ:=fun s=>(hr s).mono e1
 have st1:=st.drew
 have main : ∀fuel,ops.size<=fuel+ts.length->nD P ops (RA (Ed G jL jO jQ N ds W jK nb ny Fb wb K)) (fuel+ts.length) T (Keeps σ D H w.drew) (Array.replicate ops.size false) a w.drew:=by
  intro fuel hfuel
  refine F8 (W:=fun k=>W k&&ws k) (jK:=ρ) hsel hok2 st1 (fun listed lF ρ' a' hk hdn hf' hs' hr' hK=> ?_) ts _ kS ρ a htk (fun j o _ hl=>by rw [qK]at hl;cases hl) hf (Same.refl _ _) hr1 h0
  split at hk
  ·rename_i n0 hn0
   simp only [ah,beq_iff_eq]at hk
   obtain⟨rfl,hsz⟩:=hk
   have hsz:=ak hsz
   obtain⟨σ2,F2,s2,r2,l2,f2⟩:=hK.holds w.drew (qX w.drew σ (qQ D H)) F σ F w.drew ρ' (st1.sub fun k b hk=>(oD hk).2).start fun t _=>hr' t
   have x2:Ext n σ F w.drew (A 0).n σ2 F2 w.drew:=⟨hle 0,l2,fun b hb=>⟨f2 b hb,rfl⟩,ay _⟩
   refine Lm (e:=e) QU hok2 hle hun hr1 hstep (fun k nd hk hnil σ' F' Yk a3 w3 aaf hf3 hs3 s3 x3 hr3 fuel' xY=> ?_) n0.dep 0 n0 hn0 (ay _) σ2 F2 ρ' a' w.drew hdn hf' hs' s2 x2 (fun t=> ?_) fuel aad
   ·have aag:lM ops p nd.listed=true:=by
     have:=bf.1 hpl nd (aO hk)
     rw [hnil]at this
     simpa using this
    have hj:=st1.join (fun k b hk=>(oD hk).2) NT s3 x3
    refine uh (Lr st1 s3 x3) _ _ _ _ ?_
    have:=uj (nb:=nb) (ny:=ny) (Fb:=Fb) (wb:=wb) (W:=W) (jK:=jK) hsel hok p D T nd.listed (A k).ρ (A k).n σ' F' _ Yk a3 w3 aag hpo aaf hf3 (hs.trans fun t ht=>hs3 t (by simp [ht])) hj ((x.trans e1).trans x3) hr3 (hE k nd hk hnil) fuel' (bZ (ak xZ) xY)
    exact this
   ·cases hw:ws t with
    | true=>exact r2 t hw
    | false=>
     rw [hun _ t hw,hs' t (by simp [hw])]
     exact(hr1 t).mono x2
  ·cases hk
 have h:=main (ops.size-ts.length) aad
 rw [Nat.sub_add_cancel htl]at h
 exact oU _ _ _ _ _ _ h
theorem vG.sound {id:Nat}{K:jM->Nat->jI->Prop}{kS:jM}{n:Nat}{σ:Nat->Loc}{F:Nat->Prop}{H:jI}{ρ:jU}{a:Act}{w:World}(hm:P.follows .mixedOrders=true)(hok : ∀o∈ops.toList,nM N W o=true∧rP o=true)
  (hf:Fits N ds ρ a) (hs:Same W jK ρ) (st:St G jL jO jQ n σ F H w) (x:Ext nb ny Fb wb n σ F w) (hr:nT n σ F w kS ρ) (h:vG P G id ops K kS n H) :
  (Code.region id ops true).wp P (RA (Ed G jL jO jQ N ds W jK nb ny Fb wb K)) a w:=by
 have e:=Az n σ F w
 rcases h.ex with ⟨p,D,hd,hv⟩|⟨p,D,ws,ρ',n',H',hd,hws,hle,hun,hv,hk⟩|⟨T,ts,ns,p,e',D,ws,A,hd,hws,hle,hun,h0,hstep,hE⟩
 ·simp only [rG,rO,ah]at hd
  obtain⟨⟨⟨hsel,xZ⟩,hp⟩,hpo⟩:=hd
  exact wp_region_any hm (oU _ _ _ _ _ _ (uj hsel hok p D (takes p) _ kS n σ F H ρ a w.drew hp hpo (fun j o _ hl=>by rw [qK]at hl;cases hl) hf hs st.drew (x.trans e) (fun s=>(hr s).mono e) hv ops.size (ak xZ)))
 ·simp only [rG,rO,ah]at hd
  obtain⟨⟨⟨hsel,xZ⟩,hp⟩,hpo⟩:=hd
  have hok2 : ∀o∈ops.toList,nM N (fun k=>W k&&ws k) o=true∧rP o=true:=fun o ho=>by
   refine⟨?_,(hok o ho).2⟩
   have h1:=(hok o ho).1
   have h2:=bf.1 hws o ho
   unfold nM at h1 ⊢
   cases hd:o.dst with
   | none=>rfl
   | some d=>
    rw [hd]at h1 h2
    simp only [ah]at h1 ⊢
    exact⟨h1.1,h1.2,h2⟩
  have hr':nT n σ F w.drew kS ρ:=fun s=>(hr s).mono e
  refine Go.wp_mono (wp_region_any hm (oU _ _ _ _ _ _ (uj (W:=fun k=>W k&&ws k) (jK:=ρ) (nb:=n) (ny:=σ) (Fb:=F) (wb:=w.drew) hsel hok2 p D (takes p) _ kS n σ F H ρ a w.drew hp hpo (fun j o _ hl=>by rw [qK]at hl;cases hl) hf (Same.refl _ _) st.drew (Ext.refl _ _ _ _) hr' hv ops.size (ak xZ)))) fun ex a' w' hq=> ?_
  cases ex with
  | normal=>
   obtain⟨F9,VN,XL,xM,Ee,oq,NV,hs₁,NW,ER,NY,NZ⟩:=hq
   obtain⟨σ',F',s',r',l',f'⟩:=NZ.holds jL jO jQ xM Ee w' F9 NW fun s _=>NY s
   have x':Ext n σ F w.drew n' σ' F' w':=⟨hle,fun l hl=>(l' l hl).trans (ER.s l hl),fun b hb=>⟨f' b (ER.f b hb).1,(ER.f b hb).2⟩,ER.sz⟩
   refine⟨F9,ρ',n',σ',F',H',NV,hs.trans fun k hk=>hs₁ k abh,s',(x.trans e).trans x',fun s=> ?_,hk⟩
   cases IY:ws s with
   | true=>exact r' s IY
   | false=>
    rw [hun s IY,hs₁ s (by simp [IY])]
    exact(hr' s).mono x'
  | exit id=>exact hq.elim
  | ret=>exact hq.elim
  | goto l=>exact hq.elim
  | panic ch=>exact hq.elim
  | outgrown=>exact hq.elim
 ·exact wp_region_any hm (JI hok hf hs st x hr hd hws hle hun h0 hstep hE)
end
def Yl (V:(Ex->jM->Nat->jI->Prop)->jM->Nat->jI->Prop)(Q:Ex->jM->Nat->jI->Prop)(e:Ex)(ρ:jM)(n:Nat)(H:jI):Prop:=
 match e with
 | .normal=>V Q ρ n H
 | .exit id=>Q (.exit id) ρ n H
 | .ret=>Q .ret ρ n H
def QV (id:Nat)(Q:Ex->jM->Nat->jI->Prop)(e:Ex)(ρ:jM)(n:Nat)(H:jI):Prop:=
 match e with
 | .normal=>Q .normal ρ n H
 | .exit j=>Q (bif Nat.beq j id then .normal else .exit j) ρ n H
 | .ret=>Q .ret ρ n H
def Ef (R:jM->Nat->jI->Prop)(Q:Ex->jM->Nat->jI->Prop)(e:Ex)(ρ:jM)(n:Nat)(H:jI):Prop:=
 match e with
 | .normal=>R ρ n H
 | .exit id=>Q (.exit id) ρ n H
 | .ret=>Q .ret ρ n H
structure AA (p:Prop):Prop where
 holds:p
def N7 (B:(Ex->jM->Nat->jI->Prop)->jM->Nat->jI->Prop)(Q:Ex->jM->Nat->jI->Prop):Nat->jM->Nat->jI->Prop
 | 0,_,_,_=>False
 | k+1,ρ,n,H=>B (Ef (N7 B Q k) Q) ρ n H
structure Gf (G:Glob)(body:Code)(B:(Ex->jM->Nat->jI->Prop)->jM->Nat->jI->Prop)(Q:Ex->jM->Nat->jI->Prop)(ρ:jM)(n:Nat)(H:jI):Prop where
 ex:(∃k,N7 B Q k ρ n H)∨∃(ws:Nat->Bool) (I:Nat->jM->jI->Prop) (nl:Nat),writesIn ws body=true∧n<=nl∧(∀m ρ' H',I m ρ' H'->∀s,ws s=false->ρ' s=ρ s)∧(∃m ρ' H',I m ρ' H'∧ET G ws n ρ n H ρ' nl H')∧
  ∀m ρ' H',I m ρ' H'->
   B (Ef (fun lZ n'' oN=>AA (∃m',m'<m∧∃mP oq,I m' mP oq∧ET G ws n lZ n'' oN mP nl oq)) Q) ρ' nl H'
def aC (P:Program)(G:Glob)(c:Code)(Q:Ex->jM->Nat->jI->Prop)(ρ:jM)(n:Nat)(H:jI):Prop:=
 match c with
 | .skip=>Q .normal ρ n H
 | .region id ops draw=>(match draw with
  | false=>Lj P G ops.toList ops.toList ρ n H (Q .normal)
  | true=>vG P G id ops (Q .normal) ρ n H)
 | .seq a b=>aC P G a (Yl (aC P G b) Q) ρ n H
 | .cond c t e=>(match lK ρ c with
  | .v (.bool b)=>BO b (aC P G t Q ρ n H) (aC P G e Q ρ n H)
  | _=>False)
 | .block id body=>aC P G body (QV id Q) ρ n H
 | .loop body=>Gf G body (aC P G body) Q ρ n H
 | .exit id=>Q (.exit id) ρ n H
 | .ret=>Q .ret ρ n H
 | .label _=>Q .normal ρ n H
 | .scope body=>aC P G body Q ρ n H
 | _=>False
def l9 (N:Nat)(W:Nat->Bool):Code->Bool
 | .region _ ops _=>ops.toList.all fun o=>nM N W o&&rP o
 | .seq a b=>l9 N W a&&l9 N W b
 | .cond _ a b=>l9 N W a&&l9 N W b
 | .block _ b=>l9 N W b
 | .loop b=>l9 N W b
 | .scope b=>l9 N W b
 | .skip | .exit _ | .ret | .label _=>true
 | _=>false
theorem Eh {N:Nat}{W ws:Nat->Bool} : ∀c:Code,l9 N W c=true->writesIn ws c=true->l9 N (fun k=>W k&&ws k) c=true:=by
 intro c
 induction c with
 | region id ops d=>
  intro h1 h2
  simp only [l9,writesIn,bf,ah]at *
  intro o ho
  obtain⟨a1,a3⟩:=h1 o ho
  have a2:=h2 o ho
  refine⟨?_,a3⟩
  unfold nM at *
  unfold QA at a2
  cases hd:o.dst with
  | none=>rfl
  | some d=>simp only [hd,ah]at a1 a2 ⊢;exact⟨a1.1,a1.2,a2⟩
 | seq a b iha ihb=>intro h1 h2;simp only [l9,writesIn,ah]at *;exact⟨iha h1.1 h2.1,ihb h1.2 h2.2⟩
 | cond c a b iha ihb=>intro h1 h2;simp only [l9,writesIn,ah]at *;exact⟨iha h1.1 h2.1,ihb h1.2 h2.2⟩
 | block id b ih=>intro h1 h2;simp only [l9,writesIn]at *;exact ih h1 h2
 | loop b ih=>intro h1 h2;simp only [l9,writesIn]at *;exact ih h1 h2
 | scope b ih=>intro h1 h2;simp only [l9,writesIn]at *;exact ih h1 h2
 | label l=>intro _ _;rfl
 | skip=>intro _ _;rfl
 | exit id=>intro _ _;rfl
 | ret=>intro _ _;rfl
 | _=>intro h1 _;simp [l9]at h1
section
variable {P:Program}{G:Glob}{jL:World}{jO jQ:Nat->Prop}{N:Nat}{ds:List Deferred}
theorem N8 (hm:P.follows .mixedOrders=true) : ∀(c:Code) (W:Nat->Bool) (Q:Ex->jM->Nat->jI->Prop) (kS:jM) (n:Nat) (H:jI) (ρ jK:jU) (a:Act) (w:World) (σ:Nat->Loc) (F:Nat->Prop) (nb:Nat) (ny:Nat->Loc) (Fb:Nat->Prop) (wb:World),
  l9 N W c=true->Fits N ds ρ a->Same W jK ρ->St G jL jO jQ n σ F H w->Ext nb ny Fb wb n σ F w->nT n σ F w kS ρ->aC P G c Q kS n H->c.wp P (AQ G jL jO jQ N ds W jK nb ny Fb wb Q) a w:=by
 intro c
 induction c with
 | skip=>intro W Q kS n H ρ jK a w σ F nb ny Fb wb _ hf hs st x hr h;exact wp_skip ⟨ρ,kS,n,σ,F,H,hf,hs,st,x,hr,h⟩
 | region id ops draw=>
  intro W Q kS n H ρ jK a w σ F nb ny Fb wb hc hf hs st x hr h
  have hok : ∀o∈ops.toList,nM N W o=true∧rP o=true:=by simpa only [l9,bf,ah]using hc
  have mono : ∀e a w,RA (Ed G jL jO jQ N ds W jK nb ny Fb wb (Q .normal)) e a w->AQ G jL jO jQ N ds W jK nb ny Fb wb Q e a w:=fun e a w hq=>aa8
  cases draw with
  | false=>
   refine Go.wp_mono (wp_region ?_) mono
   have hlen:ops.toList.length=ops.size:=aaA
   rw [gV, <-hlen]
   exact Ar (K:=Q .normal) (Q:=RA (Ed G jL jO jQ N ds W jK nb ny Fb wb (Q .normal))) (fun a' w' h=>h) ops.toList 0 kS n σ F H ρ a w (fun j=>by rw [aJ]) hok hf hs st x hr h
  | true=>exact Go.wp_mono (vG.sound hm hok hf hs st x hr h) mono
 | seq c1 c2 ih1 ih2=>
  intro W Q kS n H ρ jK a w σ F nb ny Fb wb hc hf hs st x hr h
  simp only [l9,ah]at hc
  refine wp_seq (Go.wp_mono (ih1 W _ kS n H ρ jK a w σ F nb ny Fb wb hc.1 hf hs st x hr h) fun e a' w' hq=> ?_)
  cases e with
  | normal=>
   obtain⟨ρ',lF,n',σ',F',H',hf',hs',st',x',hr',hv⟩:=hq
   exact ih2 W Q lF n' H' ρ' jK a' w' σ' F' nb ny Fb wb hc.2 hf' hs' st' x' hr' hv
  | exit id=>exact hq
  | ret=>exact hq
  | goto l=>exact hq
  | panic ch=>exact hq
  | outgrown=>exact hq
 | cond c c1 c2 ih1 ih2=>
  intro W Q kS n H ρ jK a w σ F nb ny Fb wb hc hf hs st x hr h
  simp only [l9,ah]at hc
  simp only [aC]at h
  split at h
  ·rename_i b hb
   have rc:=kC hr c
   rw [hb]at rc
   refine wp_cond (t:=b) (by rw [hf.eval];exact rc.kR) ?_
   cases b with
   | true=>exact ih1 W Q kS n H ρ jK a w σ F nb ny Fb wb hc.1 hf hs st x hr h
   | false=>exact ih2 W Q kS n H ρ jK a w σ F nb ny Fb wb hc.2 hf hs st x hr h
  ·cases h
 | block id b ih=>
  intro W Q kS n H ρ jK a w σ F nb ny Fb wb hc hf hs st x hr h
  refine wp_block (Go.wp_mono (ih W _ kS n H ρ jK a w σ F nb ny Fb wb hc hf hs st x hr h) fun e a' w' hq=> ?_)
  cases e with
  | normal=>exact hq
  | exit j=>
   obtain⟨ρ',lF,n',σ',F',H',hf',hs',st',x',hr',hv⟩:=hq
   simp only [QV]at hv
   simp only [Exit.inBlock]
   by_cases hj:j=id
   ·subst hj
    rw [fU,cond_true]at hv
    simp only [if_true]
    exact⟨ρ',lF,n',σ',F',H',hf',hs',st',x',hr',hv⟩
   ·have hb:Nat.beq j id=false:=by
     cases hb:Nat.beq j id with
     | false=>rfl
     | true=>exact absurd (aj hb) hj
    rw [hb,cond_false]at hv
    rw [if_neg hj]
    exact⟨ρ',lF,n',σ',F',H',hf',hs',st',x',hr',hv⟩
  | ret=>exact hq
  | goto l=>exact hq
  | panic ch=>exact hq
  | outgrown=>exact hq
 | loop b ih=>
  intro W Q kS n H ρ jK a w σ F nb ny Fb wb hc hf hs st x hr h
  rcases h.ex with ⟨k,hk⟩|⟨ws,I,nl,hw,hle,VO,⟨m0,ρ0,H0,hI0,Gg⟩,IZ⟩
  ·refine vO (fun m a' w'=>AQ G jL jO jQ N ds W jK nb ny Fb wb (fun _=>N7 (aC P G b) Q m) .normal a' w') k ⟨ρ,kS,n,σ,F,H,hf,hs,st,x,hr,hk⟩ fun m a' w' ⟨ρ',lF,n',σ',F',H',hf',hs',st',x',hr',hv⟩=> ?_
   cases m with
   | zero=>exact hv.elim
   | succ m=>
    refine Go.wp_mono (ih W _ lF n' H' ρ' jK a' w' σ' F' nb ny Fb wb hc hf' hs' st' x' hr' hv) fun e a'' w'' hq=> ?_
    cases e with
    | normal=>exact⟨m,gu m,hq⟩
    | exit id=>exact hq
    | ret=>exact hq
    | goto l=>exact hq
    | panic ch=>exact hq
    | outgrown=>exact hq
  have hc':=Eh b hc hw
  let J:Nat->Act->World->Prop:=fun m a' w'=> ∃ρ' lF σ' F' H',Fits N ds ρ' a'∧Same (fun k=>W k&&ws k) ρ ρ'∧I m lF H'∧St G jL jO jQ nl σ' F' H' w'∧Ext n σ F w nl σ' F' w'∧nT nl σ' F' w' lF ρ'
  have mk : ∀m (ρ':jU) (lF mP:jM) n' (σ':Nat->Loc) (F':Nat->Prop) H' oq a' w',Fits N ds ρ' a'->Same (fun k=>W k&&ws k) ρ ρ'->St G jL jO jQ n' σ' F' H' w'->Ext n σ F w n' σ' F' w'->nT n' σ' F' w' lF ρ'->
    I m mP oq->ET G ws n lF n' H' mP nl oq->J m a' w':=by
   intro m ρ' lF mP n' σ' F' H' oq a' w' hf' hs' st' x' hr' hI VP
   obtain⟨xM,Ee,s1,r1,l1,f1⟩:=VP jL jO jQ σ' F' w' ρ' st' fun s _=>hr' s
   have x1:Ext n σ F w nl xM Ee w':=⟨hle,fun l hl=>(l1 l hl).trans (x'.s l hl),fun b hb=>⟨f1 b (x'.f b hb).1,(x'.f b hb).2⟩,x'.sz⟩
   refine⟨ρ',mP,xM,Ee,oq,hf',hs',hI,s1,x1,fun s=> ?_⟩
   cases hws:ws s with
   | true=>exact r1 s hws
   | false=>
    rw [VO m mP oq hI s hws,hs' s (by simp [hws])]
    exact(hr s).mono x1
  refine vO J m0 (mk m0 ρ kS ρ0 n σ F H H0 a w hf (Same.refl _ _) st (Ext.refl _ _ _ _) hr hI0 Gg) fun m a' w' ⟨ρ',lF,σ',F',H',hf',hs',hI,st',x',hr'⟩=> ?_
  refine Go.wp_mono (ih (fun k=>W k&&ws k) _ lF nl H' ρ' ρ a' w' σ' F' n σ F w hc' hf' hs' st' x' hr' (IZ m lF H' hI)) fun e a'' w'' hq=> ?_
  have up : ∀ {lZ},Same (fun k=>W k&&ws k) ρ lZ->Same W jK lZ:=fun h'=>hs.trans fun k hk=>h' k abh
  cases e with
  | normal=>
   obtain⟨lZ,qR,n'',uX,HY,oN,qL,qM,AB,x'',AL,hv⟩:=hq
   obtain⟨m',hlt,mP,oq,hI₁,Ei⟩:=hv.holds
   exact⟨m',hlt,mk m' lZ qR mP n'' uX HY oN oq a'' w'' qL qM AB x'' AL hI₁ Ei⟩
  | exit id=>obtain⟨lZ,qR,n'',uX,HY,oN,qL,qM,AB,x'',AL,hv⟩:=hq;exact⟨lZ,qR,n'',uX,HY,oN,qL,up qM,AB,x.trans x'',AL,hv⟩
  | ret=>obtain⟨lZ,qR,n'',uX,HY,oN,qL,qM,AB,x'',AL,hv⟩:=hq;exact⟨lZ,qR,n'',uX,HY,oN,qL,up qM,AB,x.trans x'',AL,hv⟩
  | goto l=>exact hq
  | panic ch=>exact hq
  | outgrown=>exact hq
 | exit id=>intro W Q kS n H ρ jK a w σ F nb ny Fb wb _ hf hs st x hr h;exact Go.wp_exit ⟨ρ,kS,n,σ,F,H,hf,hs,st,x,hr,h⟩
 | ret=>intro W Q kS n H ρ jK a w σ F nb ny Fb wb _ hf hs st x hr h;exact Go.wp_ret ⟨ρ,kS,n,σ,F,H,hf,hs,st,x,hr,h⟩
 | label l=>intro W Q kS n H ρ jK a w σ F nb ny Fb wb _ hf hs st x hr h;exact Go.wp_label ⟨ρ,kS,n,σ,F,H,hf,hs,st,x,hr,h⟩
 | scope b ih=>
  intro W Q kS n H ρ jK a w σ F nb ny Fb wb hc hf hs st x hr h
  refine Go.wp_scope_straight (Go.wp_mono (ih W Q kS n H ρ jK a w σ F nb ny Fb wb hc hf hs st x hr h) fun e a' w' hq=> ?_)
  cases e with
  | normal=>exact hq
  | exit id=>exact hq
  | ret=>exact hq
  | goto l=>exact hq
  | panic ch=>exact hq
  | outgrown=>exact hq
 | _=>intro W Q kS n H ρ jK a w σ F nb ny Fb wb hc;simp [l9]at hc
end
structure BU (G:Glob)(nb:Nat)(R:AV->Nat->jI->Prop)(a:AV)(n:Nat)(H:jI):Prop where
 ex : ∃a' n' H',R a' n' H'∧nb<=n'∧∀jL jO jQ σ F w v,St G jL jO jQ n σ F H w->jX n σ F w a v->∃σ' F',St G jL jO jQ n' σ' F' H' w∧jX n' σ' F' w a' v∧(∀l,l<nb->σ' l=σ l)∧∀b,F b->F' b
def Ej (P:Program)(rs:List ResultVar)(ρ:jM)(H:jI)(k:List AV->Prop):Prop:=
 match rs with
 | []=>k []
 | .tmp t::r=>af (ρ t) fun v=>Ej P r ρ H fun vs=>k (v::vs)
 | .cell a t::r=>JA P H t (ρ a) fun v=>Ej P r ρ H fun vs=>k (v::vs)
def N9 (vs:List AV):AV:=match vs with | [v]=>v|vs=> .kZ vs
def VQ (P:Program)(G:Glob)(nb:Nat)(fn:Func)(R:AV->Nat->jI->Prop)(e:Ex)(ρ:jM)(n:Nat)(H:jI):Prop:=
 match e with
 | .normal=>Ej P fn.results.toList ρ H fun vs=>BU G nb R (N9 vs) n H
 | .ret=>Ej P fn.results.toList ρ H fun vs=>BU G nb R (N9 vs) n H
 | .exit _=>False
def QW (l:List AV)(n:Nat):AV:=
 match l,n with
 | [],_=> .top
 | v::_,0=>v
 | _::r,n+1=>QW r n
def sV (args:List AV):jM:=fun n=>QW args n
section
variable {P:Program}{G:Glob}{jL:World}{jO jQ:Nat->Prop}{n:Nat}{σ:Nat->Loc}{F:Nat->Prop}{H:jI}{w:World}
theorem Gi : ∀ {as:List AV} {vs:List Value},kD n σ F w as vs->∀k,jX n σ F w (QW as k) (nth vs k):=by
 intro as
 induction as with
 | nil=>intro vs _ k;simp only [QW];exact .top _
 | cons a as ih=>intro vs h k;cases vs with
  | nil=>exact h.elim
  | cons v vs=>cases k with
   | zero=>exact h.1
   | succ k=>exact ih h.2 k
theorem AO {kS:jM}{ρ:jU}(hH:qZ n σ F w H)(hr:nT n σ F w kS ρ) : ∀(rs:List ResultVar) (k:List AV->Prop) (kv:List Value->Prop),Ej P rs kS H k->(∀as vs,k as->kD n σ F w as vs->kv vs)->zV P rs ρ w kv:=by
 intro rs
 induction rs with
 | nil=>intro k kv h hk;exact hk [] [] h trivial
 | cons r rs ih=>
  intro k kv h hk
  cases r with
  | tmp t=>
   simp only [Ej,nO]at h
   simp only [zV,force_eq]
   exact ih _ _ h fun as vs h1 h2=>hk _ _ h1 ⟨hr t,h2⟩
  | cell a t=>
   simp only [Ej]at h
   obtain⟨p,hp,av,v,h1,h2,h3⟩:=yR h (hr a) hH
   simp only [zV,hp]
   exact h3 w true _ (qh.refl _ _ _ _) (ih _ _ h1 fun as vs g1 g2=>hk _ _ g1 ⟨h2,g2⟩)
theorem Gj {as:List AV}{vs:List Value}(r:kD n σ F w as vs):jX n σ F w (N9 as) (kZ vs):=by
 match as,vs,r with
 | [],[],r=>exact r.kZ
 | [a],[v],r=>exact r.1
 | a::b::as,u::v::vs,r=>exact r.kZ
theorem VR {f:FuncId}{fn:Func}{c:Code}{args:List AV}{R:AV->Nat->jI->Prop}(hf:P.funcs[f]? = some fn)(hb:fn.body=some c)
  (hok:(Nat.ble args.length fn.ntmps&&l9 fn.ntmps (fun _=>true) c)=true)
  (h : ∀(ρ:jU) (a:Act) (w:World) (σ:Nat->Loc) (F:Nat->Prop),Fits fn.ntmps [] ρ a->St G w (qX w σ H) F n σ F H w->nT n σ F w (sV args) ρ->c.wp P (AQ G w (qX w σ H) F fn.ntmps [] (fun _=>true) ρ n σ F w (VQ P G n fn R)) a w):kQ P G f args n H R:=by
 intro w σ F vs st r
 simp only [ah]at hok
 have hN:=ak hok.1
 have hl:=r.len
 refine calls_of_wp hf hb ?_
 have hfit:Fits fn.ntmps [] (oO vs.toArray) {tmps:=vs.toArray++Array.replicate (fn.ntmps-vs.toArray.size) undef,defers:= []}:=by
  refine⟨by simp;omega,fun t=> ?_,rfl⟩
  simp only [oO,wM]
  rw [dZ,aV,gJ]
  by_cases ht:t<vs.toArray.size
  ·simp only [if_pos ht,jw]
  ·simp only [ht,if_false]
   have ht':vs.length<=t:=by simpa using ht
   rw [fA ht']
   rw [ji]
   split<;>rfl
 refine Go.wp_mono (h (oO vs.toArray) _ w σ F hfit st (fun s=>by
  have:=Gi r s
  simpa [oO,sV]using this)) fun e a' w' hq=> ?_
 have res : ∀ {ρ':jU} {lF:jM} {n':Nat} {σ':Nat->Loc} {F':Nat->Prop} {H':jI},Fits fn.ntmps [] ρ' a'->St G w (qX w σ H) F n' σ' F' H' w'->Ext n σ F w n' σ' F' w'->nT n' σ' F' w' lF ρ'->
   (Ej P fn.results.toList lF H' fun vs=>BU G n R (N9 vs) n' H')->
   a'.defers = []∧∃v,(results fn a'.tmps).run P w' = .ok v w'∧∃u,Ending.returned v = .returned u∧∃a n' σ' F' H',R a n' H'∧St G w (qX w σ H) F n' σ' F' H' w'∧Ext n σ F w n' σ' F' w'∧jX n' σ' F' w' a u:=by
  intro ρ' lF n' σ' F' H' hf' st' x' hr' hv
  obtain⟨vs,hrun,hk⟩:=zW hf'.get _ _ (AO st'.hrep hr' _ _ (fun vs=> ∃a n' σ' F' H',R a n' H'∧St G w (qX w σ H) F n' σ' F' H' w'∧Ext n σ F w n' σ' F' w'∧jX n' σ' F' w' a (kZ vs)) hv fun as vs he hl=>by
   obtain⟨a1,n1,H1,hR,hn,hco⟩:=he.ex
   obtain⟨σ1,F1,s1,r1,l1,f1⟩:=hco _ _ _ _ _ _ _ st' (Gj hl)
   exact⟨a1,n1,σ1,F1,H1,hR,s1,⟨hn,fun l hl=>(l1 l hl).trans (x'.s l hl),fun b hb=>⟨f1 b (x'.f b hb).1,(x'.f b hb).2⟩,x'.sz⟩,r1⟩)
  refine⟨hf'.defers,kZ vs, ?_,kZ vs,rfl,hk⟩
  rw [sN,Sem.run_bind,gZ,Sem.run_map]
  rw [hrun]
  simp only [Result.andThen_ok,Sem.run_pure]
  congr 1
  match vs with
  | []=>rfl
  | [v]=>rfl
  | v::u::r=>simp [kZ]
 cases e with
 | normal=>obtain⟨ρ',lF,n',σ',F',H',hf',_,st',x',hr',hv⟩:=hq;exact res hf' st' x' hr' hv
 | ret=>obtain⟨ρ',lF,n',σ',F',H',hf',_,st',x',hr',hv⟩:=hq;exact res hf' st' x' hr' hv
 | exit id=>obtain⟨ρ',lF,n',σ',F',H',hf',_,st',x',hr',hv⟩:=hq;exact hv.elim
 | goto l=>exact hq.elim
 | panic ch=>exact hq.elim
 | outgrown=>exact hq.elim
theorem jJ {f:FuncId}{fn:Func}{c:Code}{args:List AV}{R:AV->Nat->jI->Prop}(hf:P.funcs[f]? = some fn)(hb:fn.body=some c)(hm:P.follows .mixedOrders=true)
  (hok:(Nat.ble args.length fn.ntmps&&l9 fn.ntmps (fun _=>true) c)=true) (h:aC P G c (VQ P G n fn R) (sV args) n H):kQ P G f args n H R:=
 VR hf hb hok fun ρ a w σ F hfit st hr=>N8 hm c (fun _=>true) _ (sV args) n H ρ ρ a w σ F n σ F w (by simp only [ah]at hok;exact hok.2) hfit (Same.refl _ _) st (Ext.refl _ _ _ _) hr h
end
end Go.Proofs.YtnandbihiceihaaGreatDoor.Ax
