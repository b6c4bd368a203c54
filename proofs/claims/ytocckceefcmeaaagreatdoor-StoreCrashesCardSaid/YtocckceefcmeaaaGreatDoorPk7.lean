/- Joined parts of the proof. Regions, code, loops and functions over abstract values, with their soundness -/
import Derived.Scope
import Derived.Test.YtocckceefcmeaaaGreatDoorPk6
set_option linter.unusedVariables false
set_option linter.unusedSimpArgs false
set_option maxRecDepth 100000
set_option maxHeartbeats 16000000
namespace Go.Proofs.YtocckceefcmeaaaGreatDoor.Ax
open Go Go.RowKit Go.Proofs.YtocckceefcmeaaaGreatDoor.Vc
def zy (all:List Oper)(o:Oper)(ρ:aJ)(A A₀:aJ→Prop):Prop:=
 match o.guard with
 | none=>A ρ
 | some (g,want)=>(match qQ all g with
  | some s=>(match ρ s with
   | .v (.bool t)=>E5 t
     (bif want then A (jW ρ s (.v (.bool true)))else A₀ (jW ρ s (.v (.bool true))))
     (bif want then A₀ (jW ρ s (.v (.bool false)))else A (jW ρ s (.v (.bool false))))
   | .v _=>A₀ ρ
   | _=>False)
  | none=>A₀ ρ)
def jG (P:Program)(G:Glob)(all:List Oper)(o:Oper)(ρ:aJ)(n:Nat)(H:ak)(K:aJ→AV→Nat→ak→Prop)(iW:aJ→Prop):Prop:=
 match o.guard with
 | none=>aE P G o ρ n H fun a n' H'=>K ρ a n' H'
 | some (g,want)=>(match qQ all g with
  | some s=>(match ρ s with
   | .v (.bool t)=>E5 t
     (bif want then aE P G o (jW ρ s (.v (.bool true))) n H fun a n' H'=>K (jW ρ s (.v (.bool true))) a n' H' else iW (jW ρ s (.v (.bool true))))
     (bif want then iW (jW ρ s (.v (.bool false)))else aE P G o (jW ρ s (.v (.bool false))) n H fun a n' H'=>K (jW ρ s (.v (.bool false))) a n' H')
   | .v _=>iW ρ
   | _=>False)
  | none=>iW ρ)
theorem iR (P:Program)(G:Glob)(all:List Oper)(o:Oper)(ρ:aJ)(n:Nat)(H:ak)(K:aJ→AV→Nat→ak→Prop)(iW:aJ→Prop) :
  jG P G all o ρ n H K iW=zy all o ρ (fun ρ'=>aE P G o ρ' n H fun a n' H'=>K ρ' a n' H') iW:=rfl
def DY (P:Program)(all:List Oper)(o:Oper)(ρ:aJ)(Hr H:ak)(K:aJ→AV→Prop)(iW:aJ→Prop):Prop:=
 match o.guard with
 | none=>aQ P Hr H o ρ fun a=>K ρ a
 | some (g,want)=>(match qQ all g with
  | some s=>(match ρ s with
   | .v (.bool t)=>E5 t
     (bif want then aQ P Hr H o (jW ρ s (.v (.bool true))) fun a=>K (jW ρ s (.v (.bool true))) a else iW (jW ρ s (.v (.bool true))))
     (bif want then iW (jW ρ s (.v (.bool false)))else aQ P Hr H o (jW ρ s (.v (.bool false))) fun a=>K (jW ρ s (.v (.bool false))) a)
   | .v _=>iW ρ
   | _=>False)
  | none=>iW ρ)
theorem jq (P:Program)(all:List Oper)(o:Oper)(ρ:aJ)(Hr H:ak)(K:aJ→AV→Prop)(iW:aJ→Prop) :
  DY P all o ρ Hr H K iW=zy all o ρ (fun ρ'=>aQ P Hr H o ρ' fun a=>K ρ' a) iW:=rfl
def NP (P:Program)(G:Glob)(all:List Oper)(l:List Oper)(ρ:aJ)(n:Nat)(H:ak)(K:aJ→Nat→ak→Prop):Prop:=
 match l with
 | []=>K ρ n H
 | o::rest=>jG P G all o ρ n H (fun ρ' a n' H'=>NP P G all rest (fJ ρ' o.dst a) n' H' K) fun ρ'=>NP P G all rest (fJ ρ' o.dst (.v undef)) n H K
def lI (D:List Nat)(x:Nat):Bool:=
 match D with
 | []=>false
 | d::r=>bif Nat.beq d x then true else lI r x
def lJ (D:List Nat)(H:ak):ak:=
 match H with
 | []=> []
 | p::r=>bif lI D p.1 then p::lJ D r else lJ D r
def jO (D:List Nat)(H:ak):ak:=
 match H with
 | []=> []
 | p::r=>bif lI D p.1 then jO D r else p::jO D r
def dx (o:Oper)(n:Nat)(D:List Nat):List Nat:=
 match o.op with
 | .alloc _=>n::D
 | .box _ _=>n::D
 | _=>D
theorem Zn {o:Oper}{n k:Nat}{D:List Nat}(hk:k<n)(h:lI (dx o n D) k=true):lI D k=true:=by
 have key:lI (n::D) k=true→lI D k=true:=fun h=>by
  unfold lI at h
  cases hb:Nat.beq n k with
  | true=>have:=Nat.eq_of_beq_eq_true hb;omega
  | false=>simpa [hb]using h
 unfold dx at h
 split at h
 ·exact key h
 ·exact key h
 ·exact h
def aD (P:Program)(G:Glob)(all:List Oper)(D:List Nat)(p:Plan)(ρ:aJ)(n:Nat)(H:ak)(K:aJ→Nat→ak→Prop):Prop:=
 match p with
 | .done=>K ρ n H
 | .take i p=>(match all[i]? with
  | some o=>DY P all o ρ (jO D H) H (fun ρ' a=>aD P G all D p (fJ ρ' o.dst a) n H K) fun ρ'=>aD P G all D p (fJ ρ' o.dst (.v undef)) n H K
  | none=>False)
 | .one i p=>(match all[i]? with
  | some o=>jG P G all o ρ n (lJ D H) (fun ρ' a n' H'=>spine (H'++jO D H) fun jI=>aD P G all (dx o n D) p (fJ ρ' o.dst a) n' jI K) fun ρ'=>aD P G all D p (fJ ρ' o.dst (.v undef)) n H K
  | none=>False)
 | .two i p j r=>(match all[i]?,all[j]? with
  | some o,some o'=>
   (jG P G all o ρ n (lJ D H) (fun ρ' a n' H'=>spine (H'++jO D H) fun jI=>aD P G all (dx o n D) p (fJ ρ' o.dst a) n' jI K) fun ρ'=>aD P G all D p (fJ ρ' o.dst (.v undef)) n H K)∧
   (jG P G all o' ρ n (lJ D H) (fun ρ' a n' H'=>spine (H'++jO D H) fun jI=>aD P G all (dx o' n D) r (fJ ρ' o'.dst a) n' jI K) fun ρ'=>aD P G all D r (fJ ρ' o'.dst (.v undef)) n H K)
  | _,_=>False)
 | .three i p j r k q=>(match all[i]?,all[j]?,all[k]? with
  | some o,some o',some o''=>
   (jG P G all o ρ n (lJ D H) (fun ρ' a n' H'=>spine (H'++jO D H) fun jI=>aD P G all (dx o n D) p (fJ ρ' o.dst a) n' jI K) fun ρ'=>aD P G all D p (fJ ρ' o.dst (.v undef)) n H K)∧
   (jG P G all o' ρ n (lJ D H) (fun ρ' a n' H'=>spine (H'++jO D H) fun jI=>aD P G all (dx o' n D) r (fJ ρ' o'.dst a) n' jI K) fun ρ'=>aD P G all D r (fJ ρ' o'.dst (.v undef)) n H K)∧
   (jG P G all o'' ρ n (lJ D H) (fun ρ' a n' H'=>spine (H'++jO D H) fun jI=>aD P G all (dx o'' n D) q (fJ ρ' o''.dst a) n' jI K) fun ρ'=>aD P G all D q (fJ ρ' o''.dst (.v undef)) n H K)
  | _,_,_=>False)
 | .sink i=>(match all[i]? with
  | some o=>jG P G all o ρ n H (fun ρ' a n' H'=>K (fJ ρ' o.dst a) n' H') fun ρ'=>K (fJ ρ' o.dst (.v undef)) n H
  | none=>False)
 | .post i p=>(match all[i]? with
  | some o=>jG P G all o ρ n H (fun ρ' a n' H'=>aD P G all D p (fJ ρ' o.dst a) n' H' K) fun ρ'=>aD P G all D p (fJ ρ' o.dst (.v undef)) n H K
  | none=>False)
def takes:Plan→List Nat
 | .done=> []
 | .take i p=>i::takes p
 | .one _ p=>takes p
 | .two _ p _ r=>takes p++takes r
 | .three _ p _ r _ q=>takes p++takes r++takes q
 | .sink _=> []
 | .post _ _=> []
def postAt (ops:Array Oper)(T:List Nat)(i:Nat):Bool:=DW (Qa [] ops.toList) T i
def fZ (ops:Array Oper)(T:List Nat):Plan→Bool
 | .done=>true
 | .take i p=>T.contains i&&fZ ops T p
 | .one _ p=>fZ ops T p
 | .two _ p _ r=>fZ ops T p&&fZ ops T r
 | .three _ p _ r _ q=>fZ ops T p&&fZ ops T r&&fZ ops T q
 | .sink i=>postAt ops T i
 | .post i p=>postAt ops T i&&fZ ops (takes p) p
def mF (ops:Array Oper)(p:Plan):Bool:=mO ops p&&fZ ops (takes p) p
def CJ (G:Glob)(ws:Nat→Bool)(nb:Nat)(ρ:aJ)(n:Nat)(H:ak)(ρ':aJ)(n':Nat)(H':ak):Prop:=
 ∀w₀ aK aN σ F w (Zo:aU),St G w₀ aK aN n σ F H w→(∀s,ws s=true→aZ n σ F w (ρ s) (Zo s))→
  ∃σ' F',St G w₀ aK aN n' σ' F' H' w∧(∀s,ws s=true→aZ n' σ' F' w (ρ' s) (Zo s))∧(∀l,l<nb→σ' l=σ l)∧∀b,F b→F' b
structure F9 (p:Prop):Prop where
 holds:p
structure Nd where
 listed:Array Bool
 dep:Nat
 succ:List (Nat×Nat)
structure NS where
 ρ:aJ
 n:Nat
 H:ak
def Yw (ops:Array Oper)(ns:List Nd):Bool:=
 ns.all fun nd=>nd.succ.isEmpty||((Region.ready .any ops nd.listed==nd.succ.map (·.1))&&nd.succ.all fun s=>match ns[s.2]? with
  | some nj=>(nj.listed==nd.listed.setIfInBounds s.1 true)&&Nat.blt nj.dep nd.dep
  | none=>false)
def KP (P:Program)(G:Glob)(all:List Oper)(ws:Nat→Bool)(nb:Nat)(A:Nat→NS)(k:Nat)(s:Nat×Nat):Prop:=
 match all[s.1]? with
 | some o=>jG P G all o (A k).ρ (A k).n (A k).H (fun ρ' a n' H'=>F9 (CJ G ws nb (fJ ρ' o.dst a) n' H' (A s.2).ρ (A s.2).n (A s.2).H)) fun ρ'=>F9 (CJ G ws nb (fJ ρ' o.dst (.v undef)) (A k).n (A k).H (A s.2).ρ (A s.2).n (A s.2).H)
 | none=>False
def Uk (P:Program)(G:Glob)(all:List Oper)(Hh H:ak):List Nat→aJ→(aJ→Prop)→Prop
 | [],ρ,K=>K ρ
 | i::ts,ρ,K=>(match all[i]? with
  | some o=>DY P all o ρ Hh H (fun ρ' a=>Uk P G all Hh H ts (fJ ρ' o.dst a) K) fun ρ'=>Uk P G all Hh H ts (fJ ρ' o.dst (.v undef)) K
  | none=>False)
def KQ (ops:Array Oper)(T:List Nat):List Nat→Array Bool→(Array Bool→Bool)→Bool
 | [],l,k=>k l
 | i::ts,l,k=>(match ops[i]? with | some o=>dY o | none=>false)&&(Region.ready .any ops l).contains i&&Region.free .any ops l i&&T.contains i&&KQ ops T ts (l.setIfInBounds i true) k
def vS (ops:Array Oper)(T ts:List Nat)(ns:List Nd)(p:Plan)(e:Nat):Bool:=
 Nat.ble ts.length ops.size&&Region.noSelect ops&&Yw ops ns&&fZ ops T p&&Nat.ble p.depth e&&(ns.all fun nd=> !nd.succ.isEmpty||dS ops p nd.listed)&&
  KQ ops T ts (Array.replicate ops.size false) fun l=>match ns[0]? with
   | some n0=>(n0.listed==l)&&Nat.ble (n0.dep+e+ts.length) ops.size
   | none=>false
structure qN (P:Program)(G:Glob)(id:Nat)(ops:Array Oper)(K:aJ→Nat→ak→Prop)(ρ:aJ)(n:Nat)(H:ak):Prop where
 ex:(∃(p:Plan) (D:List Nat),mF ops p=true∧aD P G ops.toList D p ρ n H K)∨
  (∃(p:Plan) (D:List Nat) (ws:Nat→Bool) (ρ':aJ) (n':Nat) (H':ak),mF ops p=true∧(ops.toList.all fun o=>match o.dst with | some d=>ws d | none=>true)=true∧n≤n'∧(∀s,ws s=false→ρ' s=ρ s)∧
   aD P G ops.toList D p ρ n H (fun fA n₁ H₁=>F9 (CJ G ws n fA n₁ H₁ ρ' n' H'))∧K ρ' n' H')∨
  ∃(T ts:List Nat) (ns:List Nd) (p:Plan) (e:Nat) (D:List Nat) (ws:Nat→Bool) (A:Nat→NS),vS ops T ts ns p e=true∧(ops.toList.all fun o=>match o.dst with | some d=>ws d | none=>true)=true∧(∀j,n≤(A j).n)∧(∀j s,ws s=false→(A j).ρ s=ρ s)∧
   Uk P G ops.toList (jO D H) H ts ρ (fun ρ'=>F9 (CJ G ws n ρ' n (lJ D H) (A 0).ρ (A 0).n (A 0).H))∧(∀k nd,ns[k]? = some nd→∀s∈nd.succ,KP P G ops.toList ws n A k s)∧
   ∀k nd,ns[k]? = some nd→nd.succ = []→aD P G ops.toList D p (A k).ρ (A k).n ((A k).H++jO D H) K
theorem jc {D:List Nat}{H:ak}{k:Nat}{b:dU}(h:look (lJ D H) k=some b):lI D k=true∧look H k=some b:=by
 induction H with
 | nil=>cases h
 | cons p r ih=>
  obtain⟨x,bx⟩:=p
  simp only [lJ]at h
  cases hm:lI D x with
  | true=>
   rw [hm,cond_true,aW]at h
   rw [aW]
   split at h
   ·rename_i e;subst e;rw [if_pos rfl];exact⟨hm,h⟩
   ·rename_i e;rw [if_neg e];exact ih h
  | false=>
   rw [hm,cond_false]at h
   obtain⟨h1,h2⟩:=ih h
   refine⟨h1, ?_⟩
   rw [aW,if_neg (fun e=>by subst e;rw [hm]at h1;cases h1)]
   exact h2
theorem kX {D:List Nat}{H:ak}{k:Nat}{b:dU}(h:look (jO D H) k=some b):lI D k=false∧look H k=some b:=by
 induction H with
 | nil=>cases h
 | cons p r ih=>
  obtain⟨x,bx⟩:=p
  simp only [jO]at h
  cases hm:lI D x with
  | false=>
   rw [hm,cond_false,aW]at h
   rw [aW]
   split at h
   ·rename_i e;subst e;rw [if_pos rfl];exact⟨hm,h⟩
   ·rename_i e;rw [if_neg e];exact ih h
  | true=>
   rw [hm,cond_true]at h
   obtain⟨h1,h2⟩:=ih h
   refine⟨h1, ?_⟩
   rw [aW,if_neg (fun e=>by subst e;rw [hm]at h1;cases h1)]
   exact h2
theorem bM {A B:ak}{k:Nat}{b:dU}(h:look (A++B) k=some b):look A k=some b∨(look A k=none∧look B k=some b):=by
 induction A with
 | nil=>exact .inr ⟨rfl,h⟩
 | cons p r ih=>
  obtain⟨x,bx⟩:=p
  rw [List.cons_append,aW]at h
  rw [aW]
  split at h
  ·rename_i e;rw [if_pos e];exact .inl h
  ·rename_i e;rw [if_neg e];exact ih h
section
variable {P:Program}{G:Glob}{w₀:World}{aK aN:Nat→Prop}{n:Nat}{σ:Nat→Loc}{F:Nat→Prop}{H:ak}{w:World}
theorem St.sub (st:St G w₀ aK aN n σ F H w){H':ak}(h : ∀k b,look H' k=some b→look H k=some b):St G w₀ aK aN n σ F H' w:=
 ⟨st.glob,st.gI,st.dL,fun k b hk=>st.lab k b (h k b hk),fun k b g hk=>st.mu k b g (h k b hk),fun k k' b b' g hk hk'=>st.inj k k' b b' g (h k b hk) (h k' b' hk'),fun k b hk=>st.blk k b (h k b hk)⟩
theorem St.join (st:St G w₀ aK aN n σ F H w){Hd Hh H':ak}(hd : ∀k b,look Hd k=some b→look H k=some b)(hh : ∀k b,look Hh k=some b→look H k=some b∧look Hd k=none)
  {n':Nat} {σ':Nat→Loc} {F':Nat→Prop} {w':World} (s:St G w (kQ w σ Hd) F n' σ' F' H' w') (x:Ext n σ F w n' σ' F' w'):St G w₀ aK aN n' σ' F' (H'++Hh) w':=by
 have s0:=(st.sub hd).back s
 have ab3 : ∀k b g,look Hh k=some b→b.own=true→iL w (σ k) b g→¬F g∧G.nb≤g∧g<w.heap.size∧(aK g∨w₀.heap.size≤g)∧¬kQ w σ Hd g:=by
  intro k b g hk hm hg
  obtain⟨hk,hn⟩:=hh k b hk
  obtain⟨h1,h2,h3,h4⟩:=st.mu k b g hk hm hg
  refine⟨h1,h2,h3,h4,fun⟨k',b',e1,e2,e3⟩=> ?_⟩
  have:=st.inj k k' b b' g hk (hd k' b' e1) hm e2 hg e3
  subst this
  rw [hn]at e1;cases e1
 have hid : ∀k b g,look Hh k=some b→b.own=true→iL w' (σ' k) b g→iL w (σ k) b g∧¬F g∧G.nb≤g∧g<w.heap.size∧(aK g∨w₀.heap.size≤g)∧¬kQ w σ Hd g:=by
  intro k b g hk0 hm hg
  obtain⟨hk,hn⟩:=hh k b hk0
  rw [x.s k (st.lab k b hk)]at hg
  have hg:=hg.back fun y hy=>(let ⟨_,_,a3,_,a5⟩:=ab3 k b y hk0 hm (.inl hy);s.gI.block y a3 a5)
  obtain⟨h1,h2,h3,h4⟩:=st.mu k b g hk hm hg
  refine⟨hg,h1,h2,h3,h4,fun⟨k',b',e1,e2,e3⟩=> ?_⟩
  have:=st.inj k k' b b' g hk (hd k' b' e1) hm e2 hg e3
  subst this
  rw [hn]at e1;cases e1
 have cross : ∀k k' b b' g,look H' k=some b→look Hh k'=some b'→b.own=true→b'.own=true→iL w' (σ' k) b g→iL w' (σ' k') b' g→False:=by
  intro k k' b b' g h h' hm hm' hg hg'
  obtain⟨_,_,_,h3,_,h5⟩:=hid k' b' g h' hm' hg'
  rcases(s.mu k b g h hm hg).2.2.2 with e | e
  ·exact h5 e
  ·omega
 refine⟨s0.glob,s0.gI,s0.dL,fun k b hk=> ?_,fun k b g hk hm hg=> ?_,fun k k' b b' g hk hk' hm hm' hg hg'=> ?_,fun k b hk=> ?_⟩
 ·rcases bM hk with hk | ⟨_,hk⟩
  ·exact s0.lab k b hk
  ·have:=st.lab k b (hh k b hk).1
   have:=x.le
   omega
 ·rcases bM hk with hk | ⟨_,hk⟩
  ·exact s0.mu k b g hk hm hg
  ·obtain⟨h0,h1,h2,h3,h4,h5⟩:=hid k b g hk hm hg
   refine⟨fun hf=> ?_,h2,Nat.lt_of_lt_of_le h3 x.sz,h4⟩
   rcases(s.dL g hf).2 with e | e | e
   ·exact h1 e
   ·omega
   ·exact h5 e
 ·rcases bM hk with hk | ⟨_,hk⟩
  ·rcases bM hk' with hk' | ⟨_,hk'⟩
   ·exact s0.inj k k' b b' g hk hk' hm hm' hg hg'
   ·exact(cross k k' b b' g hk hk' hm hm' hg hg').elim
  ·rcases bM hk' with hk' | ⟨_,hk'⟩
   ·exact(cross k' k b' b g hk' hk hm' hm hg' hg).elim
   ·exact st.inj k k' b b' g (hh k b hk).1 (hh k' b' hk').1 hm hm' (hid k b g hk hm hg).1 (hid k' b' g hk' hm' hg').1
 ·rcases bM hk with hk | ⟨_,hk⟩
  ·exact s0.blk k b hk
  ·have hk1:=(hh k b hk).1
   rw [x.s k (st.lab k b hk1)]
   refine(st.blk k b hk1).mono x fun hm g hg=> ?_
   obtain⟨_,_,h3,_,h5⟩:=ab3 k b g hk hm hg
   exact s.gI.block g h3 h5
end
section
variable {P:Program}{G:Glob}{w₀:World}{aK aN:Nat→Prop}{N:Nat}{ds:List Deferred}{W:Nat→Bool}{ops:Array Oper}{aB:aU}
abbrev iM (n:Nat)(σ:Nat→Loc)(F:Nat→Prop)(w:World)(cZ:aJ)(ρ:aU):Prop:= ∀s,aZ n σ F w (cZ s) (ρ s)
theorem gV {n n':Nat}{σ σ':Nat→Loc}{F F':Nat→Prop}{w w':World}{cZ:aJ}{ρ:aU}{d:Option Nat}{a:AV}{v:Value}(h:iM n σ F w cZ ρ)(x:Ext n σ F w n' σ' F' w')(r:aZ n' σ' F' w' a v) :
  iM n' σ' F' w' (fJ cZ d a) (dK ρ d v):=by
 intro s
 cases d with
 | none=>exact(h s).mono x
 | some d=>
  simp only [fJ,dK,jW,upd]
  cases Nat.beq s d with
  | true=>exact r
  | false=>exact(h s).mono x
theorem qj {n:Nat}{σ:Nat→Loc}{F:Nat→Prop}{w:World}{cZ:aJ}{ρ:aU}{s:Nat}{v:Value}(h:iM n σ F w cZ ρ)(e:ρ s=v):iM n σ F w (jW cZ s (.v v)) ρ:=by
 intro k
 simp only [jW]
 cases hb:Nat.beq k s with
 | true=>rw [Nat.eq_of_beq_eq_true hb,e];exact .v v
 | false=>exact h k
theorem iw {n:Nat}{σ:Nat→Loc}{F:Nat→Prop}{w:World}{cZ:aJ}{ρ:aU}{a:Act}{o:Oper}{A A₀:aJ→Prop}(hf:Fits N ds ρ a)(hr:iM n σ F w cZ ρ)(h:zy ops.toList o cZ A A₀) :
  ∃dQ,iM n σ F w dQ ρ∧((Region.wanted o (yielded ops a.tmps)=true∧A dQ)∨(Region.wanted o (yielded ops a.tmps)=false∧A₀ dQ)):=by
 unfold zy at h
 unfold Region.wanted
 split at h
 ·rename_i hg;rw [hg];exact⟨cZ,hr, .inl ⟨rfl,h⟩⟩
 ·rename_i g want hg
  rw [hg]
  simp only [qR hf g]
  split at h
  ·rename_i s hs
   simp only [hs]
   have rs:=hr s
   split at h
   ·rename_i t ht
    rw [ht]at rs
    have e:=rs.dH
    simp only [e]
    cases t<;>cases want<;>simp only [E5,cond_true,cond_false]at h
    ·exact⟨_,qj hr e, .inl ⟨rfl,h⟩⟩
    ·exact⟨_,qj hr e, .inr ⟨rfl,h⟩⟩
    ·exact⟨_,qj hr e, .inr ⟨rfl,h⟩⟩
    ·exact⟨_,qj hr e, .inl ⟨rfl,h⟩⟩
   ·rename_i x hne ht
    rw [ht]at rs
    simp only [rs.dH]
    refine⟨_,hr, .inr ⟨?_,h⟩⟩
    cases x<;>first | rfl | exact(hne _ ht).elim
   ·exact h.elim
  ·rename_i hs
   simp only [hs]
   exact⟨_,hr, .inr ⟨rfl,h⟩⟩
structure DZ (G:Glob)(w₀:World)(aK aN:Nat→Prop)(N:Nat)(ds:List Deferred)(W:Nat→Bool)(aB:aU)(nb:Nat)(iy:Nat→Loc)(Fb:Nat→Prop)(wb:World)(K:aJ→Nat→ak→Prop)(a:Act)(w:World):Prop where
 ex : ∃ρ cZ n σ F H,Fits N ds ρ a∧Same W aB ρ∧St G w₀ aK aN n σ F H w∧Ext nb iy Fb wb n σ F w∧iM n σ F w cZ ρ∧K cZ n H
def AQ (G:Glob)(w₀:World)(aK aN:Nat→Prop)(N:Nat)(ds:List Deferred)(W:Nat→Bool)(aB:aU)(nb:Nat)(iy:Nat→Loc)(Fb:Nat→Prop)(wb:World)(Q:Ex→aJ→Nat→ak→Prop):Exit→Act→World→Prop
 | .normal,a,w=>DZ G w₀ aK aN N ds W aB nb iy Fb wb (Q .normal) a w
 | .exit id,a,w=>DZ G w₀ aK aN N ds W aB nb iy Fb wb (Q (.exit id)) a w
 | .ret,a,w=>DZ G w₀ aK aN N ds W aB nb iy Fb wb (Q .ret) a w
 | _,_,_=>False
variable {nb:Nat}{iy:Nat→Loc}{Fb:Nat→Prop}{wb:World}
theorem zA {K:aJ→Nat→ak→Prop}{Q:Exit→Act→World→Prop}(hQ : ∀a w,DZ G w₀ aK aN N ds W aB nb iy Fb wb K a w→Q .normal a w) :
  ∀(l:List Oper) (k:Nat) (cZ:aJ) (n:Nat) (σ:Nat→Loc) (F:Nat→Prop) (H:ak) (ρ:aU) (a:Act) (w:World),(∀j,l[j]? = ops.toList[k+j]?)→(∀o∈l,iG N W o=true∧mV o=true)→
   Fits N ds ρ a→Same W aB ρ→St G w₀ aK aN n σ F H w→Ext nb iy Fb wb n σ F w→iM n σ F w cZ ρ→NP P G ops.toList l cZ n H K→wpOps P ops Q (List.range' k l.length) a w:=by
 intro l
 induction l with
 | nil=>intro k cZ n σ F H ρ a w _ _ hf hs st x hr h;exact hQ a w ⟨ρ,cZ,n,σ,F,H,hf,hs,st,x,hr,h⟩
 | cons o rest ih=>
  intro k cZ n σ F H ρ a w hl hok hf hs st x hr h
  have ho:ops[k]? = some o:=by
   have:=hl 0
   simp only [List.getElem?_cons_zero,Nat.add_zero]at this
   rw [←Array.getElem?_toList];exact this.symm
  obtain⟨ho1,hi1⟩:=hok o (by simp)
  have next : ∀j,rest[j]? = ops.toList[k+1+j]? :=fun j=>by have:=hl (j+1);simp only [List.getElem?_cons_succ]at this;rw [this];congr 1;omega
  simp only [List.length_cons,List.range'_succ]
  simp only [wpOps,ho]
  simp only [NP,iR]at h
  obtain⟨dQ,hr',h⟩:=iw hf hr h
  rcases h with ⟨hw,hv⟩ | ⟨hw,hv⟩
  ·simp only [hw,if_true]
   refine .inl ((jk (pq hv hi1 st hr')).wp hf.eval fun v w' ⟨a',n',σ',F',H',hk,s,x',ra⟩=> ?_)
   exact ih (k+1) _ _ _ _ _ _ _ _ next (fun o' ho'=>hok o' (by simp [ho'])) (hf.put o.dst v (dA ho1)) (hs.dK ho1) s (x.trans x') (gV hr' x' ra) hk
  ·simp only [hw,Bool.false_eq_true,if_false]
   exact ih (k+1) _ _ _ _ _ _ _ _ next (fun o' ho'=>hok o' (by simp [ho'])) (hf.put o.dst undef (dA ho1)) (hs.dK ho1) st x (gV hr' (Ext.refl _ _ _ _) (.v undef)) hv
def Keeps (σ:Nat→Loc)(D:List Nat)(H:ak)(w u:World):Prop:=w.heap.size≤u.heap.size∧∀b,b<w.heap.size→¬kQ w σ (lJ D H) b→u.heap[b]? = w.heap[b]?
theorem zB {n:Nat}{σ:Nat→Loc}{F:Nat→Prop}{H:ak}{D:List Nat}{w u:World}(st:St G w₀ aK aN n σ F H w)(h:Keeps σ D H w u):jX σ F (jO D H) w u:=by
 have hF : ∀b,F b→u.heap[b]? = w.heap[b]? :=fun b hb=>h.2 b (st.dL b hb).1 fun⟨k,c,e1,e2,e3⟩=>(st.mu k c b (jc e1).2 e2 e3).1 hb
 refine⟨hF,fun aT blk g hk ho hg=> ?_⟩
 obtain⟨hm,hk⟩:=kX hk
 refine h.2 g (st.mu aT blk g hk ho hg).2.2.1 fun⟨k,c,e1,e2,e3⟩=> ?_
 obtain⟨f1,f2⟩:=jc e1
 have:=st.inj aT k blk c g hk f2 ho e2 hg e3
 subst this
 rw [hm]at f1;cases f1
theorem Qc {D:List Nat}{H:ak} : ∀k b,look (jO D H) k=some b→look H k=some b∧look (lJ D H) k=none:=fun k b h=>by
 obtain⟨h1,h2⟩:=kX h
 refine⟨h2, ?_⟩
 cases hv:look (lJ D H) k with
 | none=>rfl
 | some c=>have:=(jc hv).1;rw [h1]at this;cases this
theorem Qd {n:Nat}{σ:Nat→Loc}{F:Nat→Prop}{H:ak}{w w':World}{D:List Nat}(D':List Nat)(hD : ∀k,k<n→lI D' k=true→lI D k=true){v:Value}{K:AV→Nat→ak→Prop}(st:St G w₀ aK aN n σ F H w)(h:FN G w (kQ w σ (lJ D H)) F n σ F w K v w') :
  ∃a n' σ' F' H',K a n' H'∧St G w₀ aK aN n' σ' F' (H'++jO D H) w'∧Ext n σ F w n' σ' F' w'∧aZ n' σ' F' w' a v∧∀u,Keeps σ' D' (H'++jO D H) w' u→Keeps σ D H w u:=by
 obtain⟨a,n',σ',F',H',hk,s,x,ra⟩:=h
 refine⟨a,n',σ',F',H',hk,st.join (fun k b hk=>(jc hk).2) Qc s x,x,ra,fun u hu=>⟨Nat.le_trans x.sz hu.1,fun b hb hn=> ?_⟩⟩
 rw [hu.2 b (Nat.lt_of_lt_of_le hb x.sz) fun⟨k,c,e1,e2,e3⟩=> ?_]
 ·exact s.gI.block b hb hn
 ·obtain⟨f1,f2⟩:=jc e1
  rcases bM f2 with g1 | ⟨_,g1⟩
  ·rcases(s.mu k c b g1 e2 e3).2.2.2 with e | e
   ·exact hn e
   ·omega
  ·have h0:=kX g1
   have:=h0.1
   rw [hD k (st.lab k c h0.2) f1]at this;cases this
theorem ou (σ:Nat→Loc)(D:List Nat)(H:ak)(w:World):Keeps σ D H w w:=⟨Nat.le_refl _,fun _ _ _=>rfl⟩
def RA (K:Act→World→Prop):Exit→Act→World→Prop
 | .normal,a,w=>K a w
 | _,_,_=>False
theorem Jk {ops:Array Oper}{T:List Nat}{i j:Nat}(h:postAt ops T i=true)(hj:j∈T)(hne:j≠i):KE ops i j:=F8 h hj hne
def gW (P:Program)(ops:Array Oper)(Q:Exit→Act→World→Prop):Nat→List Nat→(World→Prop)→Array Bool→Act→World→Prop
 | 0,_,_,listed,a,w=>Region.ready .any ops listed = []∧Q .normal a w
 | fuel+1,T,S,listed,a,w=>
  (Region.ready .any ops listed = []→Q .normal a w)∧
  ∀i∈Region.ready .any ops listed,wpOp P ops Q i (fun a' w'=>(postAt ops T i=true∧∃T' S',gW P ops Q fuel T' S' (listed.setIfInBounds i true) a' w')∨(S w'∧gW P ops Q fuel T S (listed.setIfInBounds i true) a' w')) a w
theorem jr {Q:Exit→Act→World→Prop} : ∀(fuel:Nat) (T:List Nat) (S:World→Prop) (listed:Array Bool) (a:Act) (w:World),gW P ops Q fuel T S listed a w→wpAny P .any ops Q fuel listed a w
 | 0,_,_,_,_,_,h=>h
 | fuel+1,_,_,_,_,_,h=>⟨h.1,fun i hi=>wpOp_mono (fun a' w' h'=>h'.elim (fun⟨_,_,_,hh⟩=>jr fuel _ _ _ a' w' hh) fun h'=>jr fuel _ _ _ a' w' h'.2) (h.2 i hi)⟩
theorem pz {Q:Exit→Act→World→Prop}{T:List Nat}{S S':World→Prop}(h : ∀u,S' u→S u) : ∀(fuel:Nat) (listed:Array Bool) (a:Act) (w:World),gW P ops Q fuel T S' listed a w→gW P ops Q fuel T S listed a w
 | 0,_,_,_,hh=>hh
 | fuel+1,_,_,_,hh=>⟨hh.1,fun i hi=>wpOp_mono (fun a' w' h'=>h'.imp id fun h'=>⟨h w' h'.1,pz h fuel _ a' w' h'.2⟩) (hh.2 i hi)⟩
theorem sK {Q:Exit→Act→World→Prop}{T:List Nat}{S:World→Prop}{i:Nat}{oi:Oper}{v:Value}(hi:ops[i]? = some oi)(hT:i∈T)(hsel : ∀(j:Nat) (o:Oper) cs b,ops[j]? = some o→o.op≠ .select cs b)
  (hQ : ∀c a w,Q (.panic c) (a.put oi.dst v) w→Q (.panic c) a w) :
  ∀(fuel:Nat) (listed:Array Bool) (a:Act) (w:World),
   (∀j oj,ops[j]? = some oj→j≠i→listed.getD j true=false→(∀e∈oj.after,Region.binds .any e=true→e.on≠i)→oi.apart ops oj=true)→
   Down ops listed→i∈Region.ready .any ops listed→YieldsIf P ops S oi v a→S w→
   gW P ops Q fuel T S (listed.setIfInBounds i true) (a.put oi.dst v) w→gW P ops Q (fuel+1) T S listed a w:=by
 intro fuel
 induction fuel with
 | zero=>
  intro listed a w _ _ hr hy hS H
  refine⟨fun h=>(by rw [h]at hr;cases hr),fun j hj=> ?_⟩
  by_cases hji:j=i
  ·subst hji;exact hy.wpOp hi hS (.inr ⟨hS,H⟩)
  ·have:=ready_mono hj hji
   rw [H.1]at this
   cases this
 | succ fuel ih=>
  intro listed a w hfree hdown hr hy hS H
  refine⟨fun h=>(by rw [h]at hr;cases hr),fun j hj=> ?_⟩
  by_cases hji:j=i
  ·subst hji;exact hy.wpOp hi hS (.inr ⟨hS,H⟩)
  ·have h1:=H.2 j (ready_mono hj hji)
   obtain⟨hjun,oj,hoj,hall⟩:=mem_ready.1 hj
   have hnot : ∀e∈oj.after,Region.binds .any e=true→e.on≠i:=fun e he hb heq=>by
    have h1:=hall e he hb
    have h0:=(mem_ready.1 hr).1
    rw [heq]at h1
    rcases Nat.lt_or_ge i listed.size with h' | h'
    ·simp [h']at h0 h1;rw [h0]at h1;cases h1
    ·simp [Array.getElem?_eq_none h']at h1
   have h2:=wpOp_putIf hoj (hfree j oj hoj hji hjun hnot) (fun cs b=>hsel i oi cs b hi) (fun cs b=>hsel j oj cs b hoj) hQ hy h1
   have hfree' : ∀k ok,ops[k]? = some ok→k≠i→(listed.setIfInBounds j true).getD k true=false→
     (∀e∈ok.after,Region.binds .any e=true→e.on≠i)→oi.apart ops ok=true:=fun k ok hk hki hun hno=>by
    refine hfree k ok hk hki ?_ hno
    by_cases hjk:j=k
    ·subst hjk;exact hjun
    ·rw [getD_set_ne true hjk]at hun;exact hun
   have hri:i∈Region.ready .any ops (listed.setIfInBounds j true):=ready_mono hr (Ne.symm hji)
   have hns:postAt ops T j=true→False:=fun hsk=>by
    have h1:=hdown.anc hj (Jk hsk hT (Ne.symm hji))
    have h0:=(mem_ready.1 hr).1
    rcases Nat.lt_or_ge i listed.size with h' | h'
    ·simp [h']at h0 h1;rw [h0]at h1;cases h1
    ·simp [Array.getElem?_eq_none h']at h1
   refine wpOp_mono (fun a' w' h3=> ?_) h2
   have h4:=h3.2.resolve_left fun hh=>hns hh.1
   refine .inr ⟨h4.1,ih (listed.setIfInBounds j true) a' w' hfree' (hdown.set hj) hri h3.1 h4.1 ?_⟩
   rw [Array.setIfInBounds_comm _ _ hji]
   exact h4.2
theorem pF (hsel:Region.noSelect ops=true)(hok : ∀o∈ops.toList,iG N W o=true∧mV o=true){K:aJ→Nat→ak→Prop} :
  ∀(p:Plan) (D:List Nat) (T:List Nat) (listed:Array Bool) (cZ:aJ) (n:Nat) (σ:Nat→Loc) (F:Nat→Prop) (H:ak) (ρ:aU) (a:Act) (w:World),dS ops p listed=true→fZ ops T p=true→Down ops listed→Fits N ds ρ a→Same W aB ρ→St G w₀ aK aN n σ F H w→Ext nb iy Fb wb n σ F w→iM n σ F w cZ ρ→
   aD P G ops.toList D p cZ n H K→∀fuel,p.depth≤fuel→gW P ops (RA (DZ G w₀ aK aN N ds W aB nb iy Fb wb K)) fuel T (Keeps σ D H w) listed a w:=by
 have mem : ∀ {i:Nat} {o:Oper},ops.toList[i]? = some o→ops[i]? = some o∧iG N W o=true∧mV o=true:=fun {i o} h=>
  ⟨by rw [←Array.getElem?_toList];exact h,hok o (List.mem_of_getElem? h)⟩
 have fin : ∀ {T:List Nat} {S:World→Prop} {listed:Array Bool} {cZ:aJ} {n:Nat} {σ:Nat→Loc} {F:Nat→Prop} {H:ak} {ρ:aU} {a:Act} {w:World},Region.ready .any ops listed = []→Fits N ds ρ a→Same W aB ρ→St G w₀ aK aN n σ F H w→Ext nb iy Fb wb n σ F w→iM n σ F w cZ ρ→K cZ n H→
   ∀fuel,gW P ops (RA (DZ G w₀ aK aN N ds W aB nb iy Fb wb K)) fuel T S listed a w:=by
  intro T S listed cZ n σ F H ρ a w hr hf hs st x hrep h fuel
  cases fuel with
  | zero=>exact⟨hr,ρ,cZ,n,σ,F,H,hf,hs,st,x,hrep,h⟩
  | succ m=>exact⟨fun _=>⟨ρ,cZ,n,σ,F,H,hf,hs,st,x,hrep,h⟩,by rw [hr];simp⟩
 intro p
 have one : ∀(p:Plan),(∀(D:List Nat) (T:List Nat) (listed:Array Bool) (cZ:aJ) (n:Nat) (σ:Nat→Loc) (F:Nat→Prop) (H:ak) (ρ:aU) (a:Act) (w:World),dS ops p listed=true→fZ ops T p=true→Down ops listed→Fits N ds ρ a→Same W aB ρ→St G w₀ aK aN n σ F H w→Ext nb iy Fb wb n σ F w→iM n σ F w cZ ρ→
   aD P G ops.toList D p cZ n H K→∀fuel,p.depth≤fuel→gW P ops (RA (DZ G w₀ aK aN N ds W aB nb iy Fb wb K)) fuel T (Keeps σ D H w) listed a w)→
   ∀(i:Nat) (o:Oper) (D:List Nat) (T:List Nat) (listed:Array Bool) (cZ:aJ) (n:Nat) (σ:Nat→Loc) (F:Nat→Prop) (H:ak) (ρ:aU) (a:Act) (w:World),ops.toList[i]? = some o→dS ops p (listed.setIfInBounds i true)=true→fZ ops T p=true→Down ops (listed.setIfInBounds i true)→Fits N ds ρ a→Same W aB ρ→St G w₀ aK aN n σ F H w→Ext nb iy Fb wb n σ F w→iM n σ F w cZ ρ→
   (zy ops.toList o cZ (fun ρ'=>aE P G o ρ' n (lJ D H) fun a n' H'=>aD P G ops.toList (dx o n D) p (fJ ρ' o.dst a) n' (H'++jO D H) K) fun ρ'=>aD P G ops.toList D p (fJ ρ' o.dst (.v undef)) n H K)→
   ∀fuel,p.depth≤fuel→wpOp P ops (RA (DZ G w₀ aK aN N ds W aB nb iy Fb wb K)) i (fun a' w'=>(postAt ops T i=true∧∃T' S',gW P ops (RA (DZ G w₀ aK aN N ds W aB nb iy Fb wb K)) fuel T' S' (listed.setIfInBounds i true) a' w')∨(Keeps σ D H w w'∧gW P ops (RA (DZ G w₀ aK aN N ds W aB nb iy Fb wb K)) fuel T (Keeps σ D H w) (listed.setIfInBounds i true) a' w')) a w:=by
  intro p ih i o D T listed cZ n σ F H ρ a w uV hp hpo hdn hf hs st x hr h fuel hfu
  obtain⟨hi,ho,zC⟩:=mem uV
  obtain⟨dQ,hr',h⟩:=iw hf hr h
  unfold Go.wpOp
  simp only [hi]
  rcases h with ⟨hw,hv⟩ | ⟨hw,hv⟩
  ·simp only [hw,if_true]
   refine .inl ((jk (pq hv zC (st.sub fun k b hk=>(jc hk).2).start hr')).wp hf.eval fun v w' ht=> ?_)
   obtain⟨a',n',σ',F',H',hk,s,x',ra,hkeep⟩:=Qd (dx o n D) (fun k hk=>Zn hk) st ht
   exact .inr ⟨hkeep w' (ou _ _ _ _),pz hkeep _ _ _ _ (ih _ _ _ _ _ _ _ _ _ _ _ hp hpo hdn (hf.put o.dst v (dA ho)) (hs.dK ho) s (x.trans x') (gV hr' x' ra) hk fuel hfu)⟩
  ·simp only [hw,Bool.false_eq_true,if_false]
   exact .inr ⟨ou _ _ _ _,ih _ _ _ _ _ _ _ _ _ _ _ hp hpo hdn (hf.put o.dst undef (dA ho)) (hs.dK ho) st x (gV hr' (Ext.refl _ _ _ _) (.v undef)) hv fuel hfu⟩
 induction p with
 | done=>
  intro D T listed cZ n σ F H ρ a w hp hpo hdn hf hs st x hr h fuel _
  exact fin (by simpa [dS]using hp) hf hs st x hr h fuel
 | take i p ih=>
  intro D T listed cZ n σ F H ρ a w hp hpo hdn hf hs st x hr h fuel hfu
  simp only [dS,Bool.and_eq_true]at hp
  obtain⟨⟨⟨hq,hrd⟩,hfree⟩,hp'⟩:=hp
  simp only [fZ,Bool.and_eq_true]at hpo
  have hTi:i∈T:=by simpa using hpo.1
  simp only [aD,iR,jq,eU]at h
  split at h
  ·rename_i o uV
   obtain⟨hi,ho,zC⟩:=mem uV
   simp only [hi]at hq
   cases fuel with
   | zero=>simp [Plan.depth]at hfu
   | succ fuel=>
    have uX:p.depth≤fuel:=by simp only [Plan.depth]at hfu;omega
    obtain⟨dQ,hr',h⟩:=iw hf hr h
    have go : ∀(v:Value) (av:AV),YieldsIf P ops (Keeps σ D H w) o v a→aZ n σ F w av v→aD P G ops.toList D p (fJ dQ o.dst av) n H K→gW P ops (RA (DZ G w₀ aK aN N ds W aB nb iy Fb wb K)) (fuel+1) T (Keeps σ D H w) listed a w:=fun v av hy ra hv=>
     sK hi hTi (Region.noSelect_spec hsel) (fun c a w hq=>hq) fuel listed a w (Region.free_spec hi hfree) hdn (by simpa using hrd) hy (ou _ _ _ _)
      (ih _ _ _ _ _ _ _ _ _ _ _ hp' hpo.2 (hdn.set (by simpa using hrd)) (hf.put o.dst v (dA ho)) (hs.dK ho) st x (gV hr' (Ext.refl _ _ _ _) ra) hv fuel uX)
    rcases h with ⟨hw,hv⟩ | ⟨hw,hv⟩
    ·have hH:lU n σ F w (jO D H):=fun k b hk=>st.blk k b (kX hk).2
     obtain⟨av,v,hk,ra,hrun⟩:=zk hv zC hH st.hrep hr'
     refine go v av (.inl ⟨hw,fun u hu=> ?_⟩) ra hk
     rw [hf.eval]
     obtain⟨v',he,hvv,_⟩:=(jk (hrun u true (fun v' u'=>v'=v∧u'=u) (zB st hu) ⟨rfl,rfl⟩)).quiet hq
     rw [he,hvv]
    ·exact go undef (.v undef) (.inr ⟨hw,rfl⟩) (.v undef) hv
  ·exact h.elim
 | one i p ih=>
  intro D T listed cZ n σ F H ρ a w hp hpo hdn hf hs st x hr h fuel hfu
  simp only [dS,Bool.and_eq_true,beq_iff_eq]at hp
  obtain⟨hrd,hp'⟩:=hp
  simp only [aD,iR,jq,eU]at h
  split at h
  ·rename_i o uV
   cases fuel with
   | zero=>simp [Plan.depth]at hfu
   | succ fuel=>
    have uX:p.depth≤fuel:=by simp only [Plan.depth]at hfu;omega
    refine⟨fun e=>(by rw [hrd]at e;cases e),fun j hj=> ?_⟩
    rw [hrd]at hj
    simp only [List.mem_singleton]at hj
    subst hj
    exact one p ih j o D T listed cZ n σ F H ρ a w uV hp' hpo (hdn.set (i:=j) (by rw [hrd];simp)) hf hs st x hr h fuel uX
  ·exact h.elim
 | two i p j r Us ihr=>
  intro D T listed cZ n σ F H ρ a w hp hpo hdn hf hs st x hr h fuel hfu
  simp only [dS,Bool.and_eq_true,beq_iff_eq]at hp
  obtain⟨⟨hrd,hp'⟩,hr'⟩:=hp
  simp only [fZ,Bool.and_eq_true]at hpo
  simp only [aD,iR,jq,eU]at h
  split at h
  ·rename_i o o' uV hjo
   obtain⟨ha,hb⟩:=h
   cases fuel with
   | zero=>simp [Plan.depth]at hfu
   | succ fuel=>
    have Dp:p.depth≤fuel:=by simp only [Plan.depth]at hfu;omega
    have hfu2:r.depth≤fuel:=by simp only [Plan.depth]at hfu;omega
    refine⟨fun e=>(by rw [hrd]at e;cases e),fun k hk=> ?_⟩
    rw [hrd]at hk
    simp only [List.mem_cons,List.not_mem_nil,or_false]at hk
    rcases hk with rfl | rfl
    ·exact one p Us k o D T listed cZ n σ F H ρ a w uV hp' hpo.1 (hdn.set (i:=k) (by rw [hrd];simp)) hf hs st x hr ha fuel Dp
    ·exact one r ihr k o' D T listed cZ n σ F H ρ a w hjo hr' hpo.2 (hdn.set (i:=k) (by rw [hrd];simp)) hf hs st x hr hb fuel hfu2
  ·exact h.elim
 | three i p j r k q Us ihr ihq=>
  intro D T listed cZ n σ F H ρ a w hp hpo hdn hf hs st x hr h fuel hfu
  simp only [dS,Bool.and_eq_true,beq_iff_eq]at hp
  obtain⟨⟨⟨hrd,hp'⟩,hr'⟩,hq'⟩:=hp
  simp only [fZ,Bool.and_eq_true]at hpo
  simp only [aD,iR,jq,eU]at h
  split at h
  ·rename_i o o' o'' uV hjo hko
   obtain⟨ha,hb,hc⟩:=h
   cases fuel with
   | zero=>simp [Plan.depth]at hfu
   | succ fuel=>
    have Dp:p.depth≤fuel:=by simp only [Plan.depth]at hfu;omega
    have hfu2:r.depth≤fuel:=by simp only [Plan.depth]at hfu;omega
    have Uu:q.depth≤fuel:=by simp only [Plan.depth]at hfu;omega
    refine⟨fun e=>(by rw [hrd]at e;cases e),fun k hk=> ?_⟩
    rw [hrd]at hk
    simp only [List.mem_cons,List.not_mem_nil,or_false]at hk
    rcases hk with rfl | rfl | rfl
    ·exact one p Us k o D T listed cZ n σ F H ρ a w uV hp' hpo.1.1 (hdn.set (i:=k) (by rw [hrd];simp)) hf hs st x hr ha fuel Dp
    ·exact one r ihr k o' D T listed cZ n σ F H ρ a w hjo hr' hpo.1.2 (hdn.set (i:=k) (by rw [hrd];simp)) hf hs st x hr hb fuel hfu2
    ·exact one q ihq k o'' D T listed cZ n σ F H ρ a w hko hq' hpo.2 (hdn.set (i:=k) (by rw [hrd];simp)) hf hs st x hr hc fuel Uu
  ·exact h.elim
 | sink i=>
  intro D T listed cZ n σ F H ρ a w hp hpo hdn hf hs st x hr h fuel hfu
  simp only [dS,Bool.and_eq_true,beq_iff_eq]at hp
  obtain⟨⟨hrd,hsk⟩,he⟩:=hp
  simp only [aD,iR,jq,eU]at h
  split at h
  ·rename_i o uV
   obtain⟨hi,ho,zC⟩:=mem uV
   cases fuel with
   | zero=>simp [Plan.depth]at hfu
   | succ fuel=>
    refine⟨fun e=>(by rw [hrd]at e;cases e),fun j hj=> ?_⟩
    rw [hrd]at hj
    simp only [List.mem_singleton]at hj
    subst hj
    have he':Region.ready .any ops (listed.setIfInBounds j true) = []:=by simpa using he
    obtain⟨dQ,hr',h⟩:=iw hf hr h
    unfold Go.wpOp
    simp only [hi]
    rcases h with ⟨hw,hv⟩ | ⟨hw,hv⟩
    ·simp only [hw,if_true]
     refine .inl ((jk (pq hv zC st hr')).wp hf.eval fun v w' ⟨a',n',σ',F',H',hk,s,x',ra⟩=> ?_)
     exact .inl ⟨hpo,[],fun _=>True,fin he' (hf.put o.dst v (dA ho)) (hs.dK ho) s (x.trans x') (gV hr' x' ra) hk fuel⟩
    ·simp only [hw,Bool.false_eq_true,if_false]
     exact .inl ⟨hpo,[],fun _=>True,fin he' (hf.put o.dst undef (dA ho)) (hs.dK ho) st x (gV hr' (Ext.refl _ _ _ _) (.v undef)) hv fuel⟩
  ·exact h.elim
 | post i p ih=>
  intro D T listed cZ n σ F H ρ a w hp hpo hdn hf hs st x hr h fuel hfu
  simp only [dS,Bool.and_eq_true,beq_iff_eq]at hp
  obtain⟨hrd,hp'⟩:=hp
  simp only [fZ,Bool.and_eq_true]at hpo
  simp only [aD,iR,jq,eU]at h
  split at h
  ·rename_i o uV
   obtain⟨hi,ho,zC⟩:=mem uV
   cases fuel with
   | zero=>simp [Plan.depth]at hfu
   | succ fuel=>
    have uX:p.depth≤fuel:=by simp only [Plan.depth]at hfu;omega
    refine⟨fun e=>(by rw [hrd]at e;cases e),fun j hj=> ?_⟩
    rw [hrd]at hj
    simp only [List.mem_singleton]at hj
    subst hj
    have ny:=hdn.set (i:=j) (by rw [hrd];simp)
    obtain⟨dQ,hr',h⟩:=iw hf hr h
    unfold Go.wpOp
    simp only [hi]
    rcases h with ⟨hw,hv⟩ | ⟨hw,hv⟩
    ·simp only [hw,if_true]
     refine .inl ((jk (pq hv zC st hr')).wp hf.eval fun v w' ⟨a',n',σ',F',H',hk,s,x',ra⟩=> ?_)
     exact .inl ⟨hpo.1,takes p,_,ih _ _ _ _ _ _ _ _ _ _ _ hp' hpo.2 ny (hf.put o.dst v (dA ho)) (hs.dK ho) s (x.trans x') (gV hr' x' ra) hk fuel uX⟩
    ·simp only [hw,Bool.false_eq_true,if_false]
     exact .inl ⟨hpo.1,takes p,_,ih _ _ _ _ _ _ _ _ _ _ _ hp' hpo.2 ny (hf.put o.dst undef (dA ho)) (hs.dK ho) st x (gV hr' (Ext.refl _ _ _ _) (.v undef)) hv fuel uX⟩
  ·exact h.elim
theorem St.drew {n:Nat}{σ:Nat→Loc}{F:Nat→Prop}{H:ak}{w:World}(st:St G w₀ aK aN n σ F H w):St G w₀ aK aN n σ F H w.drew:=
 ⟨st.glob,⟨st.gI.os,st.gI.tape,st.gI.output,st.gI.size,st.gI.block⟩,st.dL,st.lab,st.mu,st.inj,fun k b hk=>kP.mono (n:=n) (σ:=σ) (F:=F) (w:=w) (w':=w.drew) ⟨Nat.le_refl _,fun _ _=>rfl,fun _ h=>⟨h,rfl⟩,Nat.le_refl _⟩ (st.blk k b hk) fun _ _ _=>rfl⟩
theorem zD (n:Nat)(σ:Nat→Loc)(F:Nat→Prop)(w:World):Ext n σ F w n σ F w.drew:=⟨Nat.le_refl _,fun _ _=>rfl,fun _ h=>⟨h,rfl⟩,Nat.le_refl _⟩
theorem NQ {Q:Exit→Act→World→Prop}{ns:List Nd}{ws:Nat→Bool}{nb:Nat}{A:Nat→NS}{σs:Nat→Loc}{Fs:Nat→Prop}{Hs:ak}{D:List Nat}{wb:World}{ρs:aJ}{Zo:aU}{T:List Nat}{e:Nat}
  (UQ:Yw ops ns=true) (hok : ∀o∈ops.toList,iG N (fun k=>W k&&ws k) o=true∧mV o=true)
  (hle : ∀j,nb≤(A j).n) (hun : ∀j s,ws s=false→(A j).ρ s=ρs s) (hrs:iM nb σs Fs wb ρs Zo)
  (hstep : ∀k nd,ns[k]? = some nd→∀s∈nd.succ,KP P G ops.toList ws nb A k s)
  (hend : ∀k nd,ns[k]? = some nd→nd.succ = []→∀(σ:Nat→Loc) (F:Nat→Prop) (ρ:aU) (a:Act) (w:World),Down ops nd.listed→Fits N ds ρ a→Same (fun k=>W k&&ws k) Zo ρ→St G wb (kQ wb σs (lJ D Hs)) Fs (A k).n σ F (A k).H w→Ext nb σs Fs wb (A k).n σ F w→iM (A k).n σ F w (A k).ρ ρ→∀fuel,e≤fuel→gW P ops Q fuel T (Keeps σs D Hs wb) nd.listed a w) :
  ∀(m:Nat) (k:Nat) (nd:Nd),ns[k]? = some nd→nd.dep≤m→∀(σ:Nat→Loc) (F:Nat→Prop) (ρ:aU) (a:Act) (w:World),Down ops nd.listed→Fits N ds ρ a→Same (fun k=>W k&&ws k) Zo ρ→St G wb (kQ wb σs (lJ D Hs)) Fs (A k).n σ F (A k).H w→Ext nb σs Fs wb (A k).n σ F w→iM (A k).n σ F w (A k).ρ ρ→∀fuel,m+e≤fuel→gW P ops Q fuel T (Keeps σs D Hs wb) nd.listed a w:=by
 have mem : ∀ {i:Nat} {o:Oper},ops.toList[i]? = some o→ops[i]? = some o∧iG N (fun k=>W k&&ws k) o=true∧mV o=true:=fun {i o} h=>
  ⟨by rw [←Array.getElem?_toList];exact h,hok o (List.mem_of_getElem? h)⟩
 intro m
 induction m with
 | zero=>
  intro k nd hk hd σ F ρ a w hdn hf hs st x hr fuel hfu
  cases hsu:nd.succ with
  | nil=>exact hend k nd hk hsu σ F ρ a w hdn hf hs st x hr fuel (by omega)
  | cons s r=>
   exfalso
   have h1:=List.all_eq_true.1 UQ nd (List.mem_of_getElem? hk)
   rw [hsu]at h1
   simp only [List.isEmpty_cons,Bool.false_or,Bool.and_eq_true,List.all_eq_true]at h1
   have h2:=h1.2 s List.mem_cons_self
   split at h2
   ·simp only [Bool.and_eq_true]at h2
    have h3:=h2.2
    rw [Nat.blt_eq]at h3
    omega
   ·cases h2
 | succ m ih=>
  intro k nd hk hd σ F ρ a w hdn hf hs st x hr fuel hfu
  cases hsu:nd.succ with
  | nil=>exact hend k nd hk hsu σ F ρ a w hdn hf hs st x hr fuel (by omega)
  | cons s0 r0=>
   have h1:=List.all_eq_true.1 UQ nd (List.mem_of_getElem? hk)
   have hne:nd.succ.isEmpty=false:=by rw [hsu];rfl
   rw [hne]at h1
   simp only [Bool.false_or,Bool.and_eq_true,List.all_eq_true,beq_iff_eq]at h1
   obtain⟨hrd,hall⟩:=h1
   cases fuel with
   | zero=>omega
   | succ fuel=>
    refine⟨fun e=> ?_,fun i hi=> ?_⟩
    ·rw [hrd,hsu]at e;cases e
    rw [hrd]at hi
    have hin:i∈Region.ready .any ops nd.listed:=by rw [hrd];exact hi
    obtain⟨s,hsm,rfl⟩:=List.mem_map.1 hi
    have h2:=hall s hsm
    split at h2
    ·rename_i nj hj
     simp only [Bool.and_eq_true,beq_iff_eq]at h2
     obtain⟨hlj,hdj⟩:=h2
     rw [Nat.blt_eq]at hdj
     have h:=hstep k nd hk s hsm
     unfold KP at h
     split at h
     ·rename_i o uV
      obtain⟨hi',ho,zC⟩:=mem uV
      simp only [iR]at h
      obtain⟨dQ,hr',h⟩:=iw hf hr h
      have next : ∀(v:Value) (w':World) (n':Nat) (σ':Nat→Loc) (F':Nat→Prop) (H':ak) (lK:aJ),St G wb (kQ wb σs (lJ D Hs)) Fs n' σ' F' H' w'→Ext (A k).n σ F w n' σ' F' w'→iM n' σ' F' w' lK (dK ρ o.dst v)→F9 (CJ G ws nb lK n' H' (A s.2).ρ (A s.2).n (A s.2).H)→Keeps σs D Hs wb w'∧gW P ops Q fuel T (Keeps σs D Hs wb) (nd.listed.setIfInBounds s.1 true) (a.put o.dst v) w':=by
       intro v w' n' σ' F' H' lK s' x' r' hb
       obtain⟨σ2,F2,s2,r2,l2,f2⟩:=hb.holds wb (kQ wb σs (lJ D Hs)) Fs σ' F' w' (dK ρ o.dst v) s' fun t _=>r' t
       have xx:=x.trans x'
       have x2:Ext nb σs Fs wb (A s.2).n σ2 F2 w':=⟨hle _,fun l hl=>(l2 l hl).trans (xx.s l hl),fun b hb=>⟨f2 b (xx.f b hb).1,(xx.f b hb).2⟩,xx.sz⟩
       refine⟨⟨xx.sz,fun b hb hn=>s2.gI.block b hb hn⟩, ?_⟩
       rw [←hlj]
       refine ih s.2 nj hj (by omega) σ2 F2 _ _ w' (by rw [hlj];exact hdn.set hin) (hf.put o.dst v (dA ho)) (hs.dK ho) s2 x2 (fun t=> ?_) fuel (by omega)
       cases hws:ws t with
       | true=>exact r2 t hws
       | false=>
        have hsame:=hs.dK (v:=v) ho t (by simp [hws])
        rw [hun _ t hws,hsame]
        exact(hrs t).mono x2
      unfold Go.wpOp
      simp only [hi']
      rcases h with ⟨hw,hv⟩ | ⟨hw,hv⟩
      ·simp only [hw,if_true]
       refine .inl ((jk (pq hv zC st hr')).wp hf.eval fun v w' ⟨a',n',σ',F',H',hk',s',x',ra⟩=> ?_)
       exact .inr (next v w' n' σ' F' H' _ s' x' (gV hr' x' ra) hk')
      ·simp only [hw,Bool.false_eq_true,if_false]
       exact .inr (next undef w _ σ F _ _ st (Ext.refl _ _ _ _) (gV hr' (Ext.refl _ _ _ _) (.v undef)) hv)
     ·exact h.elim
    ·cases h2
theorem Gf {K:aJ→Prop}{Kw:Act→World→Prop}{T:List Nat}{D:List Nat}{n:Nat}{σ:Nat→Loc}{F:Nat→Prop}{H:ak}{w:World}{k:Array Bool→Bool}{fuel:Nat}
  (hsel:Region.noSelect ops=true) (hok : ∀o∈ops.toList,iG N W o=true∧mV o=true) (st:St G w₀ aK aN n σ F H w)
  (hend : ∀(listed:Array Bool) (cZ:aJ) (ρ:aU) (a:Act),k listed=true→Down ops listed→Fits N ds ρ a→Same W aB ρ→iM n σ F w cZ ρ→K cZ→gW P ops (RA Kw) fuel T (Keeps σ D H w) listed a w) :
  ∀(ts:List Nat) (listed:Array Bool) (cZ:aJ) (ρ:aU) (a:Act),KQ ops T ts listed k=true→Down ops listed→Fits N ds ρ a→Same W aB ρ→iM n σ F w cZ ρ→Uk P G ops.toList (jO D H) H ts cZ K→gW P ops (RA Kw) (fuel+ts.length) T (Keeps σ D H w) listed a w:=by
 have mem : ∀ {i:Nat} {o:Oper},ops.toList[i]? = some o→ops[i]? = some o∧iG N W o=true∧mV o=true:=fun {i o} h=>
  ⟨by rw [←Array.getElem?_toList];exact h,hok o (List.mem_of_getElem? h)⟩
 intro ts
 induction ts with
 | nil=>intro listed cZ ρ a hk hdn hf hs hr h;exact hend listed cZ ρ a hk hdn hf hs hr h
 | cons i ts ih=>
  intro listed cZ ρ a hp hdn hf hs hr h
  simp only [KQ,Bool.and_eq_true]at hp
  obtain⟨⟨⟨⟨hq,hrd⟩,hfree⟩,hT⟩,hp'⟩:=hp
  have hTi:i∈T:=by simpa using hT
  simp only [Uk,jq]at h
  split at h
  ·rename_i o uV
   obtain⟨hi,ho,zC⟩:=mem uV
   simp only [hi]at hq
   obtain⟨dQ,hr',h⟩:=iw hf hr h
   have go : ∀(v:Value) (av:AV),YieldsIf P ops (Keeps σ D H w) o v a→aZ n σ F w av v→Uk P G ops.toList (jO D H) H ts (fJ dQ o.dst av) K→gW P ops (RA Kw) (fuel+ts.length+1) T (Keeps σ D H w) listed a w:=fun v av hy ra hv=>
    sK hi hTi (Region.noSelect_spec hsel) (fun c a w hq=>hq) (fuel+ts.length) listed a w (Region.free_spec hi hfree) hdn (by simpa using hrd) hy (ou _ _ _ _)
     (ih _ _ _ _ hp' (hdn.set (by simpa using hrd)) (hf.put o.dst v (dA ho)) (hs.dK ho) (gV hr' (Ext.refl _ _ _ _) ra) hv)
   rcases h with ⟨hw,hv⟩ | ⟨hw,hv⟩
   ·have hH:lU n σ F w (jO D H):=fun k b hk=>st.blk k b (kX hk).2
    obtain⟨av,v,hk,ra,hrun⟩:=zk hv zC hH st.hrep hr'
    refine go v av (.inl ⟨hw,fun u hu=> ?_⟩) ra hk
    rw [hf.eval]
    obtain⟨v',he,hvv,_⟩:=(jk (hrun u true (fun v' u'=>v'=v∧u'=u) (zB st hu) ⟨rfl,rfl⟩)).quiet hq
    rw [he,hvv]
   ·exact go undef (.v undef) (.inr ⟨hw,rfl⟩) (.v undef) hv
  ·exact h.elim
theorem NR {n:Nat}{σ:Nat→Loc}{F:Nat→Prop}{H:ak}{w w':World}{D:List Nat}(st:St G w₀ aK aN n σ F H w){n':Nat}{σ':Nat→Loc}{F':Nat→Prop}{H':ak}(s:St G w (kQ w σ (lJ D H)) F n' σ' F' H' w')(x:Ext n σ F w n' σ' F' w') :
  ∀u,Keeps σ' D (H'++jO D H) w' u→Keeps σ D H w u:=by
 intro u hu
 refine⟨Nat.le_trans x.sz hu.1,fun b hb hn=> ?_⟩
 rw [hu.2 b (Nat.lt_of_lt_of_le hb x.sz) fun⟨k,c,e1,e2,e3⟩=> ?_]
 ·exact s.gI.block b hb hn
 ·obtain⟨f1,f2⟩:=jc e1
  rcases bM f2 with g1 | ⟨_,g1⟩
  ·rcases(s.mu k c b g1 e2 e3).2.2.2 with e | e
   ·exact hn e
   ·omega
  ·have h0:=kX g1
   have:=h0.1
   rw [f1]at this;cases this
theorem KU {K:aJ→Nat→ak→Prop}{cZ:aJ}{n:Nat}{σ:Nat→Loc}{F:Nat→Prop}{H:ak}{ρ:aU}{a:Act}{w:World}(hok : ∀o∈ops.toList,iG N W o=true∧mV o=true)
  (hf:Fits N ds ρ a) (hs:Same W aB ρ) (st:St G w₀ aK aN n σ F H w) (x:Ext nb iy Fb wb n σ F w) (hr:iM n σ F w cZ ρ)
  {T ts:List Nat} {ns:List Nd} {p:Plan} {e:Nat} {D:List Nat} {ws:Nat→Bool} {A:Nat→NS} (hd:vS ops T ts ns p e=true) (hws:(ops.toList.all fun o=>match o.dst with | some d=>ws d | none=>true)=true)
  (hle : ∀j,n≤(A j).n) (hun : ∀j s,ws s=false→(A j).ρ s=cZ s)
  (h0:Uk P G ops.toList (jO D H) H ts cZ fun ρ'=>F9 (CJ G ws n ρ' n (lJ D H) (A 0).ρ (A 0).n (A 0).H))
  (hstep : ∀k nd,ns[k]? = some nd→∀s∈nd.succ,KP P G ops.toList ws n A k s)
  (hE : ∀k nd,ns[k]? = some nd→nd.succ = []→aD P G ops.toList D p (A k).ρ (A k).n ((A k).H++jO D H) K) :
  wpAny P .any ops (RA (DZ G w₀ aK aN N ds W aB nb iy Fb wb K)) ops.size (Array.replicate ops.size false) a w.drew:=by
 have e1:=zD n σ F w
 simp only [vS,Bool.and_eq_true]at hd
 obtain⟨⟨⟨⟨⟨⟨htl,hsel⟩,UQ⟩,hpo⟩,uY⟩,hpl⟩,htk⟩:=hd
 have htl:=Nat.le_of_ble_eq_true htl
 have hok2 : ∀o∈ops.toList,iG N (fun k=>W k&&ws k) o=true∧mV o=true:=fun o ho=>by
  refine⟨?_,(hok o ho).2⟩
  have h1:=(hok o ho).1
  have h2:=List.all_eq_true.1 hws o ho
  unfold iG at h1 ⊢
  cases hd:o.dst with
  | none=>rfl
  | some d=>
   rw [hd]at h1 h2
   simp only [Bool.and_eq_true]at h1 ⊢
   exact⟨h1.1,h1.2,h2⟩
 have hr1:iM n σ F w.drew cZ ρ:=fun s=>(hr s).mono e1
 have st1:=st.drew
 have main : ∀fuel,ops.size≤fuel+ts.length→gW P ops (RA (DZ G w₀ aK aN N ds W aB nb iy Fb wb K)) (fuel+ts.length) T (Keeps σ D H w.drew) (Array.replicate ops.size false) a w.drew:=by
  intro fuel hfuel
  refine Gf (W:=fun k=>W k&&ws k) (aB:=ρ) hsel hok2 st1 (fun listed dQ ρ' a' hk hdn hf' hs' hr' hK=> ?_) ts _ cZ ρ a htk (fun j o _ hl=>by rw [lq]at hl;cases hl) hf (Same.refl _ _) hr1 h0
  split at hk
  ·rename_i n0 hn0
   simp only [Bool.and_eq_true,beq_iff_eq]at hk
   obtain⟨rfl,hsz⟩:=hk
   have hsz:=Nat.le_of_ble_eq_true hsz
   obtain⟨σ2,F2,s2,r2,l2,f2⟩:=hK.holds w.drew (kQ w.drew σ (lJ D H)) F σ F w.drew ρ' (st1.sub fun k b hk=>(jc hk).2).start fun t _=>hr' t
   have x2:Ext n σ F w.drew (A 0).n σ2 F2 w.drew:=⟨hle 0,l2,fun b hb=>⟨f2 b hb,rfl⟩,Nat.le_refl _⟩
   refine NQ (e:=e) UQ hok2 hle hun hr1 hstep (fun k nd hk hnil σ' F' ρ3 a3 w3 ad8 hf3 hs3 s3 x3 hr3 fuel' uX=> ?_) n0.dep 0 n0 hn0 (Nat.le_refl _) σ2 F2 ρ' a' w.drew hdn hf' hs' s2 x2 (fun t=> ?_) fuel (by omega)
   ·have ad9:dS ops p nd.listed=true:=by
     have:=List.all_eq_true.1 hpl nd (List.mem_of_getElem? hk)
     rw [hnil]at this
     simpa using this
    have hj:=st1.join (fun k b hk=>(jc hk).2) Qc s3 x3
    refine pz (NR st1 s3 x3) _ _ _ _ ?_
    have:=pF (nb:=nb) (iy:=iy) (Fb:=Fb) (wb:=wb) (W:=W) (aB:=aB) hsel hok p D T nd.listed (A k).ρ (A k).n σ' F' _ ρ3 a3 w3 ad9 hpo ad8 hf3 (hs.trans fun t ht=>hs3 t (by simp [ht])) hj ((x.trans e1).trans x3) hr3 (hE k nd hk hnil) fuel' (Nat.le_trans (Nat.le_of_ble_eq_true uY) uX)
    exact this
   ·cases hw:ws t with
    | true=>exact r2 t hw
    | false=>
     rw [hun _ t hw,hs' t (by simp [hw])]
     exact(hr1 t).mono x2
  ·cases hk
 have h:=main (ops.size-ts.length) (by omega)
 rw [Nat.sub_add_cancel htl]at h
 exact jr _ _ _ _ _ _ h
theorem qN.sound {id:Nat}{K:aJ→Nat→ak→Prop}{cZ:aJ}{n:Nat}{σ:Nat→Loc}{F:Nat→Prop}{H:ak}{ρ:aU}{a:Act}{w:World}(hm:P.follows .mixedOrders=true)(hok : ∀o∈ops.toList,iG N W o=true∧mV o=true)
  (hf:Fits N ds ρ a) (hs:Same W aB ρ) (st:St G w₀ aK aN n σ F H w) (x:Ext nb iy Fb wb n σ F w) (hr:iM n σ F w cZ ρ) (h:qN P G id ops K cZ n H) :
  (Code.region id ops true).wp P (RA (DZ G w₀ aK aN N ds W aB nb iy Fb wb K)) a w:=by
 have e:=zD n σ F w
 rcases h.ex with ⟨p,D,hd,hv⟩ | ⟨p,D,ws,ρ',n',H',hd,hws,hle,hun,hv,hk⟩ | ⟨T,ts,ns,p,e',D,ws,A,hd,hws,hle,hun,h0,hstep,hE⟩
 ·simp only [mF,mO,Bool.and_eq_true]at hd
  obtain⟨⟨⟨hsel,uY⟩,hp⟩,hpo⟩:=hd
  exact wp_region_any hm (jr _ _ _ _ _ _ (pF hsel hok p D (takes p) _ cZ n σ F H ρ a w.drew hp hpo (fun j o _ hl=>by rw [lq]at hl;cases hl) hf hs st.drew (x.trans e) (fun s=>(hr s).mono e) hv ops.size (Nat.le_of_ble_eq_true uY)))
 ·simp only [mF,mO,Bool.and_eq_true]at hd
  obtain⟨⟨⟨hsel,uY⟩,hp⟩,hpo⟩:=hd
  have hok2 : ∀o∈ops.toList,iG N (fun k=>W k&&ws k) o=true∧mV o=true:=fun o ho=>by
   refine⟨?_,(hok o ho).2⟩
   have h1:=(hok o ho).1
   have h2:=List.all_eq_true.1 hws o ho
   unfold iG at h1 ⊢
   cases hd:o.dst with
   | none=>rfl
   | some d=>
    rw [hd]at h1 h2
    simp only [Bool.and_eq_true]at h1 ⊢
    exact⟨h1.1,h1.2,h2⟩
  have hr':iM n σ F w.drew cZ ρ:=fun s=>(hr s).mono e
  refine Go.wp_mono (wp_region_any hm (jr _ _ _ _ _ _ (pF (W:=fun k=>W k&&ws k) (aB:=ρ) (nb:=n) (iy:=σ) (Fb:=F) (wb:=w.drew) hsel hok2 p D (takes p) _ cZ n σ F H ρ a w.drew hp hpo (fun j o _ hl=>by rw [lq]at hl;cases hl) hf (Same.refl _ _) st.drew (Ext.refl _ _ _ _) hr' hv ops.size (Nat.le_of_ble_eq_true uY)))) fun ex a' w' hq=> ?_
  cases ex with
  | normal=>
   obtain⟨Gg,Zp,n₁,σ₁,D5,H₁,Qe,hs₁,Qg,x₁,Qh,Qi⟩:=hq
   obtain⟨σ',F',s',r',l',f'⟩:=Qi.holds w₀ aK aN σ₁ D5 w' Gg Qg fun s _=>Qh s
   have x':Ext n σ F w.drew n' σ' F' w':=⟨hle,fun l hl=>(l' l hl).trans (x₁.s l hl),fun b hb=>⟨f' b (x₁.f b hb).1,(x₁.f b hb).2⟩,x₁.sz⟩
   refine⟨Gg,ρ',n',σ',F',H',Qe,hs.trans fun k hk=>hs₁ k (by simp [hk]),s',(x.trans e).trans x',fun s=> ?_,hk⟩
   cases Jl:ws s with
   | true=>exact r' s Jl
   | false=>
    rw [hun s Jl,hs₁ s (by simp [Jl])]
    exact(hr' s).mono x'
  | exit id=>exact hq.elim
  | ret=>exact hq.elim
  | goto l=>exact hq.elim
  | panic ch=>exact hq.elim
  | outgrown=>exact hq.elim
 ·exact wp_region_any hm (KU hok hf hs st x hr hd hws hle hun h0 hstep hE)
end
def ab5 (V:(Ex→aJ→Nat→ak→Prop)→aJ→Nat→ak→Prop)(Q:Ex→aJ→Nat→ak→Prop)(e:Ex)(ρ:aJ)(n:Nat)(H:ak):Prop:=
 match e with
 | .normal=>V Q ρ n H
 | .exit id=>Q (.exit id) ρ n H
 | .ret=>Q .ret ρ n H
def UR (id:Nat)(Q:Ex→aJ→Nat→ak→Prop)(e:Ex)(ρ:aJ)(n:Nat)(H:ak):Prop:=
 match e with
 | .normal=>Q .normal ρ n H
 | .exit j=>Q (bif Nat.beq j id then .normal else .exit j) ρ n H
 | .ret=>Q .ret ρ n H
def Jm (R:aJ→Nat→ak→Prop)(Q:Ex→aJ→Nat→ak→Prop)(e:Ex)(ρ:aJ)(n:Nat)(H:ak):Prop:=
 match e with
 | .normal=>R ρ n H
 | .exit id=>Q (.exit id) ρ n H
 | .ret=>Q .ret ρ n H
structure zF (p:Prop):Prop where
 holds:p
structure KW (G:Glob)(body:Code)(B:(Ex→aJ→Nat→ak→Prop)→aJ→Nat→ak→Prop)(Q:Ex→aJ→Nat→ak→Prop)(ρ:aJ)(n:Nat)(H:ak):Prop where
 ex : ∃(ws:Nat→Bool) (I:Nat→aJ→ak→Prop) (nl:Nat),writesIn ws body=true∧n≤nl∧(∀m ρ' H',I m ρ' H'→∀s,ws s=false→ρ' s=ρ s)∧(∃m ρ' H',I m ρ' H'∧CJ G ws n ρ n H ρ' nl H')∧
  ∀m ρ' H',I m ρ' H'→
   B (Jm (fun fD n'' jI=>zF (∃m',m'<m∧∃fA H₁,I m' fA H₁∧CJ G ws n fD n'' jI fA nl H₁)) Q) ρ' nl H'
def aC (P:Program)(G:Glob)(c:Code)(Q:Ex→aJ→Nat→ak→Prop)(ρ:aJ)(n:Nat)(H:ak):Prop:=
 match c with
 | .skip=>Q .normal ρ n H
 | .region id ops draw=>(match draw with
  | false=>NP P G ops.toList ops.toList ρ n H (Q .normal)
  | true=>qN P G id ops (Q .normal) ρ n H)
 | .seq a b=>aC P G a (ab5 (aC P G b) Q) ρ n H
 | .cond c t e=>(match dO ρ c with
  | .v (.bool b)=>E5 b (aC P G t Q ρ n H) (aC P G e Q ρ n H)
  | _=>False)
 | .block id body=>aC P G body (UR id Q) ρ n H
 | .loop body=>KW G body (aC P G body) Q ρ n H
 | .exit id=>Q (.exit id) ρ n H
 | .ret=>Q .ret ρ n H
 | .label _=>Q .normal ρ n H
 | .scope body=>aC P G body Q ρ n H
 | _=>False
def fO (N:Nat)(W:Nat→Bool):Code→Bool
 | .region _ ops _=>ops.toList.all fun o=>iG N W o&&mV o
 | .seq a b=>fO N W a&&fO N W b
 | .cond _ a b=>fO N W a&&fO N W b
 | .block _ b=>fO N W b
 | .loop b=>fO N W b
 | .scope b=>fO N W b
 | .skip | .exit _ | .ret | .label _=>true
 | _=>false
theorem D6 {N:Nat}{W ws:Nat→Bool} : ∀c:Code,fO N W c=true→writesIn ws c=true→fO N (fun k=>W k&&ws k) c=true:=by
 intro c
 induction c with
 | region id ops d=>
  intro h1 h2
  simp only [fO,writesIn,List.all_eq_true,Bool.and_eq_true]at *
  intro o ho
  obtain⟨a1,a3⟩:=h1 o ho
  have a2:=h2 o ho
  refine⟨?_,a3⟩
  unfold iG at *
  unfold Uw at a2
  cases hd:o.dst with
  | none=>rfl
  | some d=>simp only [hd,Bool.and_eq_true]at a1 a2 ⊢;exact⟨a1.1,a1.2,a2⟩
 | seq a b iha ihb=>intro h1 h2;simp only [fO,writesIn,Bool.and_eq_true]at *;exact⟨iha h1.1 h2.1,ihb h1.2 h2.2⟩
 | cond c a b iha ihb=>intro h1 h2;simp only [fO,writesIn,Bool.and_eq_true]at *;exact⟨iha h1.1 h2.1,ihb h1.2 h2.2⟩
 | block id b ih=>intro h1 h2;simp only [fO,writesIn]at *;exact ih h1 h2
 | loop b ih=>intro h1 h2;simp only [fO,writesIn]at *;exact ih h1 h2
 | scope b ih=>intro h1 h2;simp only [fO,writesIn]at *;exact ih h1 h2
 | label l=>intro _ _;rfl
 | skip=>intro _ _;rfl
 | exit id=>intro _ _;rfl
 | ret=>intro _ _;rfl
 | _=>intro h1 _;simp [fO]at h1
section
variable {P:Program}{G:Glob}{w₀:World}{aK aN:Nat→Prop}{N:Nat}{ds:List Deferred}
theorem Qj (hm:P.follows .mixedOrders=true) : ∀(c:Code) (W:Nat→Bool) (Q:Ex→aJ→Nat→ak→Prop) (cZ:aJ) (n:Nat) (H:ak) (ρ aB:aU) (a:Act) (w:World) (σ:Nat→Loc) (F:Nat→Prop) (nb:Nat) (iy:Nat→Loc) (Fb:Nat→Prop) (wb:World),
  fO N W c=true→Fits N ds ρ a→Same W aB ρ→St G w₀ aK aN n σ F H w→Ext nb iy Fb wb n σ F w→iM n σ F w cZ ρ→aC P G c Q cZ n H→c.wp P (AQ G w₀ aK aN N ds W aB nb iy Fb wb Q) a w:=by
 intro c
 induction c with
 | skip=>intro W Q cZ n H ρ aB a w σ F nb iy Fb wb _ hf hs st x hr h;exact wp_skip ⟨ρ,cZ,n,σ,F,H,hf,hs,st,x,hr,h⟩
 | region id ops draw=>
  intro W Q cZ n H ρ aB a w σ F nb iy Fb wb hc hf hs st x hr h
  have hok : ∀o∈ops.toList,iG N W o=true∧mV o=true:=by simpa only [fO,List.all_eq_true,Bool.and_eq_true]using hc
  have mono : ∀e a w,RA (DZ G w₀ aK aN N ds W aB nb iy Fb wb (Q .normal)) e a w→AQ G w₀ aK aN N ds W aB nb iy Fb wb Q e a w:=fun e a w hq=>by cases e<;>first | exact hq | exact hq.elim
  cases draw with
  | false=>
   refine Go.wp_mono (wp_region ?_) mono
   have hlen:ops.toList.length=ops.size:=by simp
   rw [List.range_eq_range', ←hlen]
   exact zA (K:=Q .normal) (Q:=RA (DZ G w₀ aK aN N ds W aB nb iy Fb wb (Q .normal))) (fun a' w' h=>h) ops.toList 0 cZ n σ F H ρ a w (fun j=>by rw [Nat.zero_add]) hok hf hs st x hr h
  | true=>exact Go.wp_mono (qN.sound hm hok hf hs st x hr h) mono
 | seq c1 c2 ih1 ih2=>
  intro W Q cZ n H ρ aB a w σ F nb iy Fb wb hc hf hs st x hr h
  simp only [fO,Bool.and_eq_true]at hc
  refine wp_seq (Go.wp_mono (ih1 W _ cZ n H ρ aB a w σ F nb iy Fb wb hc.1 hf hs st x hr h) fun e a' w' hq=> ?_)
  cases e with
  | normal=>
   obtain⟨ρ',dQ,n',σ',F',H',hf',hs',st',x',hr',hv⟩:=hq
   exact ih2 W Q dQ n' H' ρ' aB a' w' σ' F' nb iy Fb wb hc.2 hf' hs' st' x' hr' hv
  | exit id=>exact hq
  | ret=>exact hq
  | goto l=>exact hq
  | panic ch=>exact hq
  | outgrown=>exact hq
 | cond c c1 c2 ih1 ih2=>
  intro W Q cZ n H ρ aB a w σ F nb iy Fb wb hc hf hs st x hr h
  simp only [fO,Bool.and_eq_true]at hc
  simp only [aC]at h
  split at h
  ·rename_i b hb
   have rc:=bG hr c
   rw [hb]at rc
   refine wp_cond (t:=b) (by rw [hf.eval];exact rc.dH) ?_
   cases b with
   | true=>exact ih1 W Q cZ n H ρ aB a w σ F nb iy Fb wb hc.1 hf hs st x hr h
   | false=>exact ih2 W Q cZ n H ρ aB a w σ F nb iy Fb wb hc.2 hf hs st x hr h
  ·exact h.elim
 | block id b ih=>
  intro W Q cZ n H ρ aB a w σ F nb iy Fb wb hc hf hs st x hr h
  refine wp_block (Go.wp_mono (ih W _ cZ n H ρ aB a w σ F nb iy Fb wb hc hf hs st x hr h) fun e a' w' hq=> ?_)
  cases e with
  | normal=>exact hq
  | exit j=>
   obtain⟨ρ',dQ,n',σ',F',H',hf',hs',st',x',hr',hv⟩:=hq
   simp only [UR]at hv
   simp only [Exit.inBlock]
   by_cases hj:j=id
   ·subst hj
    rw [Nat.beq_refl,cond_true]at hv
    simp only [if_true]
    exact⟨ρ',dQ,n',σ',F',H',hf',hs',st',x',hr',hv⟩
   ·have hb:Nat.beq j id=false:=by
     cases hb:Nat.beq j id with
     | false=>rfl
     | true=>exact absurd (Nat.eq_of_beq_eq_true hb) hj
    rw [hb,cond_false]at hv
    rw [if_neg hj]
    exact⟨ρ',dQ,n',σ',F',H',hf',hs',st',x',hr',hv⟩
  | ret=>exact hq
  | goto l=>exact hq
  | panic ch=>exact hq
  | outgrown=>exact hq
 | loop b ih=>
  intro W Q cZ n H ρ aB a w σ F nb iy Fb wb hc hf hs st x hr h
  obtain⟨ws,I,nl,hw,hle,Zq,⟨m0,ρ0,H0,hI0,Gi⟩,Jo⟩:=h.ex
  have hc':=D6 b hc hw
  let J:Nat→Act→World→Prop:=fun m a' w'=> ∃ρ' dQ σ' F' H',Fits N ds ρ' a'∧Same (fun k=>W k&&ws k) ρ ρ'∧I m dQ H'∧St G w₀ aK aN nl σ' F' H' w'∧Ext n σ F w nl σ' F' w'∧iM nl σ' F' w' dQ ρ'
  have mk : ∀m (ρ':aU) (dQ fA:aJ) n' (σ':Nat→Loc) (F':Nat→Prop) H' H₁ a' w',Fits N ds ρ' a'→Same (fun k=>W k&&ws k) ρ ρ'→St G w₀ aK aN n' σ' F' H' w'→Ext n σ F w n' σ' F' w'→iM n' σ' F' w' dQ ρ'→
    I m fA H₁→CJ G ws n dQ n' H' fA nl H₁→J m a' w':=by
   intro m ρ' dQ fA n' σ' F' H' H₁ a' w' hf' hs' st' x' hr' hI Zr
   obtain⟨σ₁,D5,s1,r1,l1,f1⟩:=Zr w₀ aK aN σ' F' w' ρ' st' fun s _=>hr' s
   have x1:Ext n σ F w nl σ₁ D5 w':=⟨hle,fun l hl=>(l1 l hl).trans (x'.s l hl),fun b hb=>⟨f1 b (x'.f b hb).1,(x'.f b hb).2⟩,x'.sz⟩
   refine⟨ρ',fA,σ₁,D5,H₁,hf',hs',hI,s1,x1,fun s=> ?_⟩
   cases hws:ws s with
   | true=>exact r1 s hws
   | false=>
    rw [Zq m fA H₁ hI s hws,hs' s (by simp [hws])]
    exact(hr s).mono x1
  refine yU J m0 (mk m0 ρ cZ ρ0 n σ F H H0 a w hf (Same.refl _ _) st (Ext.refl _ _ _ _) hr hI0 Gi) fun m a' w' ⟨ρ',dQ,σ',F',H',hf',hs',hI,st',x',hr'⟩=> ?_
  refine Go.wp_mono (ih (fun k=>W k&&ws k) _ dQ nl H' ρ' ρ a' w' σ' F' n σ F w hc' hf' hs' st' x' hr' (Jo m dQ H' hI)) fun e a'' w'' hq=> ?_
  have up : ∀ {fD},Same (fun k=>W k&&ws k) ρ fD→Same W aB fD:=fun h'=>hs.trans fun k hk=>h' k (by simp [hk])
  cases e with
  | normal=>
   obtain⟨fD,lK,n'',qC,Il,jI,lu,lC,zG,x'',zH,hv⟩:=hq
   obtain⟨m',hlt,fA,H₁,hI₁,D7⟩:=hv.holds
   exact⟨m',hlt,mk m' fD lK fA n'' qC Il jI H₁ a'' w'' lu lC zG x'' zH hI₁ D7⟩
  | exit id=>obtain⟨fD,lK,n'',qC,Il,jI,lu,lC,zG,x'',zH,hv⟩:=hq;exact⟨fD,lK,n'',qC,Il,jI,lu,up lC,zG,x.trans x'',zH,hv⟩
  | ret=>obtain⟨fD,lK,n'',qC,Il,jI,lu,lC,zG,x'',zH,hv⟩:=hq;exact⟨fD,lK,n'',qC,Il,jI,lu,up lC,zG,x.trans x'',zH,hv⟩
  | goto l=>exact hq
  | panic ch=>exact hq
  | outgrown=>exact hq
 | exit id=>intro W Q cZ n H ρ aB a w σ F nb iy Fb wb _ hf hs st x hr h;exact Go.wp_exit ⟨ρ,cZ,n,σ,F,H,hf,hs,st,x,hr,h⟩
 | ret=>intro W Q cZ n H ρ aB a w σ F nb iy Fb wb _ hf hs st x hr h;exact Go.wp_ret ⟨ρ,cZ,n,σ,F,H,hf,hs,st,x,hr,h⟩
 | label l=>intro W Q cZ n H ρ aB a w σ F nb iy Fb wb _ hf hs st x hr h;exact Go.wp_label ⟨ρ,cZ,n,σ,F,H,hf,hs,st,x,hr,h⟩
 | scope b ih=>
  intro W Q cZ n H ρ aB a w σ F nb iy Fb wb hc hf hs st x hr h
  refine Go.wp_scope_straight (Go.wp_mono (ih W Q cZ n H ρ aB a w σ F nb iy Fb wb hc hf hs st x hr h) fun e a' w' hq=> ?_)
  cases e with
  | normal=>exact hq
  | exit id=>exact hq
  | ret=>exact hq
  | goto l=>exact hq
  | panic ch=>exact hq
  | outgrown=>exact hq
 | _=>intro W Q cZ n H ρ aB a w σ F nb iy Fb wb hc;simp [fO]at hc
end
structure BG (G:Glob)(nb:Nat)(R:AV→Nat→ak→Prop)(a:AV)(n:Nat)(H:ak):Prop where
 ex : ∃a' n' H',R a' n' H'∧nb≤n'∧∀w₀ aK aN σ F w v,St G w₀ aK aN n σ F H w→aZ n σ F w a v→∃σ' F',St G w₀ aK aN n' σ' F' H' w∧aZ n' σ' F' w a' v∧(∀l,l<nb→σ' l=σ l)∧∀b,F b→F' b
def D8 (P:Program)(rs:List ResultVar)(ρ:aJ)(H:ak)(k:List AV→Prop):Prop:=
 match rs with
 | []=>k []
 | .tmp t::r=>af (ρ t) fun v=>D8 P r ρ H fun vs=>k (v::vs)
 | .cell a t::r=>KH P H t (ρ a) fun v=>D8 P r ρ H fun vs=>k (v::vs)
def Qk (vs:List AV):AV:=match vs with | [v]=>v | vs=> .bH vs
def ab6 (P:Program)(G:Glob)(nb:Nat)(fn:Func)(R:AV→Nat→ak→Prop)(e:Ex)(ρ:aJ)(n:Nat)(H:ak):Prop:=
 match e with
 | .normal=>D8 P fn.results.toList ρ H fun vs=>BG G nb R (Qk vs) n H
 | .ret=>D8 P fn.results.toList ρ H fun vs=>BG G nb R (Qk vs) n H
 | .exit _=>False
def UU (l:List AV)(n:Nat):AV:=
 match l,n with
 | [],_=> .top
 | v::_,0=>v
 | _::r,n+1=>UU r n
def ql (args:List AV):aJ:=fun n=>UU args n
section
variable {P:Program}{G:Glob}{w₀:World}{aK aN:Nat→Prop}{n:Nat}{σ:Nat→Loc}{F:Nat→Prop}{H:ak}{w:World}
theorem Gj : ∀ {as:List AV} {vs:List Value},bJ n σ F w as vs→∀k,aZ n σ F w (UU as k) (nth vs k):=by
 intro as
 induction as with
 | nil=>intro vs _ k;simp only [UU];exact .top _
 | cons a as ih=>intro vs h k;cases vs with
  | nil=>exact h.elim
  | cons v vs=>cases k with
   | zero=>exact h.1
   | succ k=>exact ih h.2 k
theorem zI {cZ:aJ}{ρ:aU}(hH:lU n σ F w H)(hr:iM n σ F w cZ ρ) : ∀(rs:List ResultVar) (k:List AV→Prop) (kv:List Value→Prop),D8 P rs cZ H k→(∀as vs,k as→bJ n σ F w as vs→kv vs)→yV P rs ρ w kv:=by
 intro rs
 induction rs with
 | nil=>intro k kv h hk;exact hk [] [] h trivial
 | cons r rs ih=>
  intro k kv h hk
  cases r with
  | tmp t=>
   simp only [D8,iH]at h
   simp only [yV,force_eq]
   exact ih _ _ h fun as vs h1 h2=>hk _ _ h1 ⟨hr t,h2⟩
  | cell a t=>
   simp only [D8]at h
   obtain⟨p,hp,av,v,h1,h2,h3⟩:=wW h (hr a) hH
   simp only [yV,hp]
   exact h3 w true _ (jX.refl _ _ _ _) (ih _ _ h1 fun as vs g1 g2=>hk _ _ g1 ⟨h2,g2⟩)
theorem Gl {as:List AV}{vs:List Value}(r:bJ n σ F w as vs):aZ n σ F w (Qk as) (bH vs):=by
 match as,vs,r with
 | [],[],r=>exact r.bH
 | [a],[v],r=>exact r.1
 | a::b::as,u::v::vs,r=>exact r.bH
theorem au {f:FuncId}{fn:Func}{c:Code}{args:List AV}{R:AV→Nat→ak→Prop}(hf:P.funcs[f]? = some fn)(hb:fn.body=some c)(hm:P.follows .mixedOrders=true)
  (hok:(Nat.ble args.length fn.ntmps&&fO fn.ntmps (fun _=>true) c)=true) (h:aC P G c (ab6 P G n fn R) (ql args) n H):bD P G f args n H R:=by
 intro w σ F vs st r
 simp only [Bool.and_eq_true]at hok
 have hN:=Nat.le_of_ble_eq_true hok.1
 have hl:=r.len
 refine calls_of_wp hf hb ?_
 have hfit:Fits fn.ntmps [] (iP vs.toArray) {tmps:=vs.toArray++Array.replicate (fn.ntmps-vs.toArray.size) undef,defers:= []}:=by
  refine⟨by simp;omega,fun t=> ?_,rfl⟩
  simp only [iP,rV]
  rw [Array.getD_eq_getD_getElem?,List.getD_eq_getElem?_getD,Array.getElem?_append]
  by_cases ht:t<vs.toArray.size
  ·simp only [if_pos ht,List.getElem?_toArray]
  ·simp only [ht,if_false]
   have ht':vs.length≤t:=by simpa using ht
   rw [List.getElem?_eq_none ht']
   rw [Array.getElem?_replicate]
   split<;>rfl
 refine Go.wp_mono (Qj hm c (fun _=>true) _ (ql args) n H _ (iP vs.toArray) _ w σ F n σ F w hok.2 hfit (Same.refl _ _) st (Ext.refl _ _ _ _) (fun s=>by
  have:=Gj r s
  simpa [iP,ql]using this) h) fun e a' w' hq=> ?_
 have res : ∀ {ρ':aU} {dQ:aJ} {n':Nat} {σ':Nat→Loc} {F':Nat→Prop} {H':ak},Fits fn.ntmps [] ρ' a'→St G w (kQ w σ H) F n' σ' F' H' w'→Ext n σ F w n' σ' F' w'→iM n' σ' F' w' dQ ρ'→
   (D8 P fn.results.toList dQ H' fun vs=>BG G n R (Qk vs) n' H')→
   a'.defers = []∧∃v,(results fn a'.tmps).run P w' = .ok v w'∧∃u,Ending.returned v = .returned u∧∃a n' σ' F' H',R a n' H'∧St G w (kQ w σ H) F n' σ' F' H' w'∧Ext n σ F w n' σ' F' w'∧aZ n' σ' F' w' a u:=by
  intro ρ' dQ n' σ' F' H' hf' st' x' hr' hv
  obtain⟨vs,hrun,hk⟩:=yX hf'.get _ _ (zI st'.hrep hr' _ _ (fun vs=> ∃a n' σ' F' H',R a n' H'∧St G w (kQ w σ H) F n' σ' F' H' w'∧Ext n σ F w n' σ' F' w'∧aZ n' σ' F' w' a (bH vs)) hv fun as vs he hl=>by
   obtain⟨a1,n1,H1,hR,hn,hco⟩:=he.ex
   obtain⟨σ1,F1,s1,r1,l1,f1⟩:=hco _ _ _ _ _ _ _ st' (Gl hl)
   exact⟨a1,n1,σ1,F1,H1,hR,s1,⟨hn,fun l hl=>(l1 l hl).trans (x'.s l hl),fun b hb=>⟨f1 b (x'.f b hb).1,(x'.f b hb).2⟩,x'.sz⟩,r1⟩)
  refine⟨hf'.defers,bH vs, ?_,bH vs,rfl,hk⟩
  rw [nY,Sem.run_bind,Array.mapM_eq_mapM_toList,Sem.run_map]
  rw [hrun]
  simp only [Result.andThen_ok,Sem.run_pure]
  congr 1
  match vs with
  | []=>rfl
  | [v]=>rfl
  | v::u::r=>simp [bH]
 cases e with
 | normal=>obtain⟨ρ',dQ,n',σ',F',H',hf',_,st',x',hr',hv⟩:=hq;exact res hf' st' x' hr' hv
 | ret=>obtain⟨ρ',dQ,n',σ',F',H',hf',_,st',x',hr',hv⟩:=hq;exact res hf' st' x' hr' hv
 | exit id=>obtain⟨ρ',dQ,n',σ',F',H',hf',_,st',x',hr',hv⟩:=hq;exact hv.elim
 | goto l=>exact hq.elim
 | panic ch=>exact hq.elim
 | outgrown=>exact hq.elim
end
end Go.Proofs.YtocckceefcmeaaaGreatDoor.Ax
