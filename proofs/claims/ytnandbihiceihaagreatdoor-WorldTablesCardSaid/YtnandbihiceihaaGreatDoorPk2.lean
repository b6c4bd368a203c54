/- Joined parts of the proof. The reckoner's soundness at regions that draw their order; code, loops, whole functions -/
import Derived.Test.YtnandbihiceihaaGreatDoorPk1
import Derived.Laws.AppendOwn
import Derived.Laws.OwnMore
import Derived.Laws.MakeOwn
import Derived.IntWalk
import Derived.Laws.IdiomStrings
import Derived.Laws.BytesArg
import Derived.Laws.Strings
set_option linter.unusedVariables false
set_option linter.unusedSimpArgs false
set_option maxRecDepth 100000
set_option maxHeartbeats 16000000
namespace Go.Proofs.YtnandbihiceihaaGreatDoor.Vc
open Go.RowKit
theorem WY {P:Program}{o:Oper}{ρ:mG}{w:World}{K:Value->World->Prop}(hp:BG o=true)(h:F9 P true o ρ w K) :
  ∃v,(∀w',(execOp (qC ρ) o).run P w' = .ok (.value v) w')∧K v w:=by
 unfold F9 at h
 unfold BG at hp
 cases ho:o.op<;>simp only [ho]at h hp<;>try cases hp
 case move x=>rw [force_eq]at h;exact⟨_,fun w'=>by unfold execOp;simp [ho],h⟩
 case assign x=>rw [force_eq]at h;exact⟨_,fun w'=>by unfold execOp;simp [ho],h⟩
 case makeFunc fn first captured=>
  simp only [vJ,nU]at h
  exact⟨_,fun w'=>by unfold execOp;simp [ho,Instr.makeFunc,BI],h⟩
 case nilCheck x=>
  split at h
  ·rename_i p hp'
   exact⟨_,fun w'=>by unfold execOp;simp only [ho,hp'];rfl,h⟩
  ·cases h
 case extract t i=>
  split at h
  ·rename_i vs hv
   split at h
   ·rename_i v hi
    have hi':vs[i]? = some v:=by rw [<-hi];simp
    exact⟨_,fun w'=>by unfold execOp;simp only [ho,hv];exact tq (by simp [Instr.extract,hi']),h⟩
   ·cases h
  ·cases h
section
variable {P:Program}{N:Nat}{ds:List Deferred}{W:Nat->Bool}{ops:Array Oper}{K:mG->World->Prop}{lS:mG}{Ep:Bool}
def RQ (N:Nat)(ds:List Deferred)(W:Nat->Bool)(lS:mG)(K:mG->World->Prop):Exit->Act->World->Prop
 | .normal,a,w=> ∃ρ',Fits N ds ρ' a∧Same W lS ρ'∧K ρ' w
 | _,_,_=>False
theorem yu {Q:Exit->Act->World->Prop}{i:Nat}{o:Oper}{ρ:mG}{a:Act}{w:World}{G:Act->World->Prop}{ah3:mG->Value->World->Prop}{rP:mG->Prop}
  (hi:ops[i]? = some o) (hf:Fits N ds ρ a) (h:uI P false ops.toList o ρ w ah3 rP)
  (h1 : ∀v w',ah3 ρ v w'->G (a.put o.dst v) w') (h0:rP ρ->G (a.put o.dst undef) w):wpOp P ops Q i G a w:=by
 unfold Go.wpOp
 simp only [hi]
 rcases yh hf h with ⟨hw,hv⟩|⟨hw,hv⟩
 ·simp only [hw,if_true]
  exact .inl ((sD hv).wp hf.eval fun v w' hk=>h1 v w' hk)
 ·simp only [hw,aX,if_false]
  exact h0 hv
theorem NC (hsel:Region.noSelect ops=true)(hok : ∀o∈ops.toList,qU N W o=true)(lT:World) :
  ∀(p:Plan) (S:World->Prop) (_:Ep=true->∀w',S w'->w'=lT) (listed:Array Bool) (ρ:mG) (a:Act) (w:World),pz ops p listed=true->Down ops listed->Fits N ds ρ a->Same W lS ρ->S w->
   vD P ops.toList Ep p S ρ w K->∀fuel,p.depth<=fuel->yj P ops (RQ N ds W lS K) S fuel listed a w:=by
 have mem : ∀ {i:Nat} {o:Oper},ops.toList[i]? = some o->ops[i]? = some o∧qU N W o=true:=fun {i o} h=>
  ⟨by rw [<-bF];exact h,hok o (aU h)⟩
 have fin : ∀ {S:World->Prop} {listed:Array Bool} {ρ:mG} {a:Act} {w:World},Region.ready .any ops listed = []->Fits N ds ρ a->Same W lS ρ->K ρ w->
   ∀fuel,yj P ops (RQ N ds W lS K) S fuel listed a w:=by
  intro S listed ρ a w hr hf hs h fuel
  cases fuel with
  | zero=>exact⟨hr,ρ,hf,hs,h⟩
  | succ n=>exact⟨fun _=>⟨ρ,hf,hs,h⟩,by rw [hr];simp⟩
 intro p
 induction p with
 | done=>
  intro S hS listed ρ a w hp hdn hf hs _ h fuel _
  exact fin (by simpa [pz]using hp) hf hs h fuel
 | take i p ih=>
  intro S hS listed ρ a w hp hdn hf hs hSw h fuel hfu
  simp only [pz,ak]at hp
  obtain⟨⟨⟨hq,hr⟩,hfree⟩,hp'⟩:=hp
  simp only [vD]at h
  split at h
  ·rename_i o DI
   obtain⟨hi,ho⟩:=mem DI
   simp only [hi]at hq
   cases fuel with
   | zero=>simp [Plan.depth]at hfu
   | succ fuel=>
    have DJ:p.depth<=fuel:=abk
    have go : ∀v,YieldsIf P ops S o v a->vD P ops.toList Ep p S (oN ρ o.dst v) w K->yj P ops (RQ N ds W lS K) S (fuel+1) listed a w:=fun v hy hv=>
     KE hi (Region.noSelect_spec hsel) (fun c a w hq=>hq) fuel listed a w (Region.free_spec hi hfree) hdn (by simpa using hr) hy hSw
      (ih S hS _ _ _ _ hp' (hdn.set (by simpa using hr)) (hf.put o.dst v (oC ho)) (hs.oN ho) hSw hv fuel DJ)
    rcases yh hf h with ⟨hw,hv⟩|⟨hw,hv⟩
    ·obtain⟨v,hrun,hk⟩:=(sD hv).quiet hq
     cases hc:(Ep||BG o)with
     | true=>
      rw [hc]at hk
      refine go v (.inl ⟨hw,fun w' hw'=> ?_⟩) hk
      rw [hf.eval]
      cases he:Ep with
      | true=>
       have e1:=hS he w' hw'
       have e2:=hS he w hSw
       rw [e1, <-e2];exact hrun
      | false=>
       rw [he,jO]at hc
       obtain⟨u,hu,_⟩:=WY hc hv
       have:u=v:=by have:=hu w;rw [hrun]at this;injection this with h1 h2;injection h1 with h1;exact h1.symm
       subst this
       exact hu w'
     | false=>
      rw [hc]at hk
      refine go v (.inl ⟨hw,fun w' hw'=> ?_⟩) hk.go
      rw [hf.eval]
      obtain⟨u,hu,he⟩:=(sD (hk.req w' hw')).quiet hq
      rw [hu,he]
    ·exact go undef (.inr ⟨hw,rfl⟩) hv
  ·cases h
 | one i p ih=>
  intro S hS listed ρ a w hp hdn hf hs hSw h fuel hfu
  simp only [pz,ak,beq_iff_eq]at hp
  obtain⟨hr,hp'⟩:=hp
  simp only [vD]at h
  split at h
  ·rename_i o DI
   obtain⟨hi,ho⟩:=mem DI
   cases fuel with
   | zero=>simp [Plan.depth]at hfu
   | succ fuel=>
    have DJ:p.depth<=fuel:=abk
    refine⟨fun e=>aji,fun j hj=> ?_⟩
    rw [hr]at hj
    simp only [aW]at hj
    subst hj
    have xq:=hdn.set (i:=j) ajf
    exact yu hi hf h (fun v w' hk=>by
      obtain⟨S',h1,h2,h3⟩:=hk.ex
      exact⟨.inr (h1 _ h2),rF h1 _ _ _ _ (ih S' (fun he u hu=>hS he u (h1 u hu)) _ _ _ _ hp' xq (hf.put o.dst v (oC ho)) (hs.oN ho) h2 h3 fuel DJ)⟩)
     (fun hk=>⟨.inr hSw,ih S hS _ _ _ _ hp' xq (hf.put o.dst undef (oC ho)) (hs.oN ho) hSw hk fuel DJ⟩)
  ·cases h
 | two i p j r ihp ihr=>
  intro S hS listed ρ a w hp hdn hf hs hSw h fuel hfu
  simp only [pz,ak,beq_iff_eq]at hp
  obtain⟨⟨hr,hp'⟩,hr'⟩:=hp
  simp only [vD]at h
  split at h
  ·rename_i o o' DI hjo
   obtain⟨hi,ho⟩:=mem DI
   obtain⟨hj,ho'⟩:=mem hjo
   obtain⟨ha,hb⟩:=h
   cases fuel with
   | zero=>simp [Plan.depth]at hfu
   | succ fuel=>
    have KF:p.depth<=fuel:=abk
    have hfu2:r.depth<=fuel:=abk
    refine⟨fun e=>aji,fun k hk=> ?_⟩
    rw [hr]at hk
    simp only [bI,iL,or_false]at hk
    rcases hk with rfl|rfl
    ·have xq:=hdn.set (i:=k) ajf
     exact yu hi hf ha (fun v w' hk=>by
       obtain⟨S',h1,h2,h3⟩:=hk.ex
       exact⟨.inr (h1 _ h2),rF h1 _ _ _ _ (ihp S' (fun he u hu=>hS he u (h1 u hu)) _ _ _ _ hp' xq (hf.put o.dst v (oC ho)) (hs.oN ho) h2 h3 fuel KF)⟩)
      (fun hk=>⟨.inr hSw,ihp S hS _ _ _ _ hp' xq (hf.put o.dst undef (oC ho)) (hs.oN ho) hSw hk fuel KF⟩)
    ·have xq:=hdn.set (i:=k) ajf
     exact yu hj hf hb (fun v w' hk=>by
       obtain⟨S',h1,h2,h3⟩:=hk.ex
       exact⟨.inr (h1 _ h2),rF h1 _ _ _ _ (ihr S' (fun he u hu=>hS he u (h1 u hu)) _ _ _ _ hr' xq (hf.put o'.dst v (oC ho')) (hs.oN ho') h2 h3 fuel hfu2)⟩)
      (fun hk=>⟨.inr hSw,ihr S hS _ _ _ _ hr' xq (hf.put o'.dst undef (oC ho')) (hs.oN ho') hSw hk fuel hfu2⟩)
  ·cases h
 | three i p j r k q ihp ihr ihq=>
  intro S hS listed ρ a w hp hdn hf hs hSw h fuel hfu
  simp only [pz,ak,beq_iff_eq]at hp
  obtain⟨⟨⟨hr,hp'⟩,hr'⟩,hq'⟩:=hp
  simp only [vD]at h
  split at h
  ·rename_i o o' o'' DI hjo hko
   obtain⟨hi,ho⟩:=mem DI
   obtain⟨hj,ho'⟩:=mem hjo
   obtain⟨hk3,aaV⟩:=mem hko
   obtain⟨ha,hb,hc⟩:=h
   cases fuel with
   | zero=>simp [Plan.depth]at hfu
   | succ fuel=>
    have KF:p.depth<=fuel:=abk
    have hfu2:r.depth<=fuel:=abk
    have aaW:q.depth<=fuel:=abk
    refine⟨fun e=>aji,fun k hk=> ?_⟩
    rw [hr]at hk
    simp only [bI,iL,or_false]at hk
    rcases hk with rfl|rfl|rfl
    ·have xq:=hdn.set (i:=k) ajf
     exact yu hi hf ha (fun v w' hk=>by
       obtain⟨S',h1,h2,h3⟩:=hk.ex
       exact⟨.inr (h1 _ h2),rF h1 _ _ _ _ (ihp S' (fun he u hu=>hS he u (h1 u hu)) _ _ _ _ hp' xq (hf.put o.dst v (oC ho)) (hs.oN ho) h2 h3 fuel KF)⟩)
      (fun hk=>⟨.inr hSw,ihp S hS _ _ _ _ hp' xq (hf.put o.dst undef (oC ho)) (hs.oN ho) hSw hk fuel KF⟩)
    ·have xq:=hdn.set (i:=k) ajf
     exact yu hj hf hb (fun v w' hk=>by
       obtain⟨S',h1,h2,h3⟩:=hk.ex
       exact⟨.inr (h1 _ h2),rF h1 _ _ _ _ (ihr S' (fun he u hu=>hS he u (h1 u hu)) _ _ _ _ hr' xq (hf.put o'.dst v (oC ho')) (hs.oN ho') h2 h3 fuel hfu2)⟩)
      (fun hk=>⟨.inr hSw,ihr S hS _ _ _ _ hr' xq (hf.put o'.dst undef (oC ho')) (hs.oN ho') hSw hk fuel hfu2⟩)
    ·have xq:=hdn.set (i:=k) ajf
     exact yu hk3 hf hc (fun v w' hk=>by
       obtain⟨S',h1,h2,h3⟩:=hk.ex
       exact⟨.inr (h1 _ h2),rF h1 _ _ _ _ (ihq S' (fun he u hu=>hS he u (h1 u hu)) _ _ _ _ hq' xq (hf.put o''.dst v (oC aaV)) (hs.oN aaV) h2 h3 fuel aaW)⟩)
      (fun hk=>⟨.inr hSw,ihq S hS _ _ _ _ hq' xq (hf.put o''.dst undef (oC aaV)) (hs.oN aaV) hSw hk fuel aaW⟩)
  ·cases h
 | sink i=>
  intro S hS listed ρ a w hp hdn hf hs hSw h fuel hfu
  simp only [pz,ak,beq_iff_eq]at hp
  obtain⟨⟨hr,hsk⟩,he⟩:=hp
  simp only [vD]at h
  split at h
  ·rename_i o DI
   obtain⟨hi,ho⟩:=mem DI
   cases fuel with
   | zero=>simp [Plan.depth]at hfu
   | succ fuel=>
    refine⟨fun e=>aji,fun j hj=> ?_⟩
    rw [hr]at hj
    simp only [aW]at hj
    subst hj
    have he':Region.ready .any ops (listed.setIfInBounds j true) = []:=by simpa using he
    exact yu hi hf h (fun v w' hk=>⟨.inl hsk,fin he' (hf.put o.dst v (oC ho)) (hs.oN ho) hk fuel⟩)
     (fun hk=>⟨.inl hsk,fin he' (hf.put o.dst undef (oC ho)) (hs.oN ho) hk fuel⟩)
  ·cases h
 | post i p ih=>intro S hS listed ρ a w hp hdn hf hs hSw h;exact(show False from h).elim
end
structure y5 (P:Program)(id:Nat)(ops:Array Oper)(K:mG->World->Prop)(ρ:mG)(w:World):Prop where
 ex : ∃(p:Plan) (Ep:Bool) (S:World->Prop),vK ops p=true∧(Ep=true->∀w',S w'->w'=w.drew)∧S w.drew∧vD P ops.toList Ep p S ρ w.drew K
theorem ah4 {P:Program}{id:Nat}{ops:Array Oper}{K:mG->World->Prop}{ρ:mG}{w:World}(p:Plan)(hp:vK ops p=true)
  (h:vD P ops.toList true p (fun w'=>w'=w.drew) ρ w.drew K):y5 P id ops K ρ w:=
 ⟨p,true,_,hp,fun _ _ e=>e,rfl,h⟩
theorem rQ {P:Program}{id:Nat}{ops:Array Oper}{K:mG->World->Prop}{ρ:mG}{w:World}(pl:Nat->Plan)(hp:vK ops (pl id)=true)
  (h:vD P ops.toList true (pl id) (fun w'=>w'=w.drew) ρ w.drew K):y5 P id ops K ρ w:=ah4 (pl id) hp h
theorem QJ {P:Program}{id:Nat}{ops:Array Oper}{K:mG->World->Prop}{ρ:mG}{w:World}(pl:Nat->Plan)(hp:vK ops (pl id)=true)
  (h:vD P ops.toList false (pl id) (fun u=>Below w.drew.heap.size w.drew u) ρ w.drew K):y5 P id ops K ρ w:=⟨pl id,false,_,hp,(fun e=>absurd e abb),Below.refl _ _,h⟩
theorem vM (m j:Nat):(Array.replicate m false).getD j false=false:=by
 rw [gB]
 by_cases h:j<m<;>simp [h]
theorem y5.sound {P:Program}{id:Nat}{N:Nat}{ds:List Deferred}{W:Nat->Bool}{ops:Array Oper}{K:mG->World->Prop}{ρ lS:mG}{a:Act}{w:World}
  (hm:P.follows .mixedOrders=true) (hok : ∀o∈ops.toList,qU N W o=true) (hf:Fits N ds ρ a) (hs:Same W lS ρ) (h:y5 P id ops K ρ w) :
  (Code.region id ops true).wp P (RQ N ds W lS K) a w:=by
 obtain⟨p,Ep,S,hd,he,hS,hv⟩:=h.ex
 simp only [vK,ak]at hd
 obtain⟨⟨hsel,DK⟩,hp⟩:=hd
 exact wp_region_any hm (AL _ _ _ _ (NC hsel hok w.drew p S he _ ρ a w.drew hp (fun j o _ hl=>by rw [vM]at hl;cases hl) hf hs hS hv ops.size (aF DK)))
inductive Ex where
 | normal
 | exit (id:Nat)
 | ret
def qE (N:Nat)(W:Nat->Bool):Code->Bool
 | .region _ ops _=>ops.toList.all (qU N W)
 | .seq a b=>qE N W a&&qE N W b
 | .cond _ a b=>qE N W a&&qE N W b
 | .block _ b=>qE N W b
 | .loop b=>qE N W b
 | .skip | .exit _ | .ret=>true
 | _=>false
def aaX (W:Nat->Bool)(o:Oper):Bool:=match o.dst with|some d=>W d|none=>true
def writesIn (W:Nat->Bool):Code->Bool
 | .region _ ops _=>ops.toList.all (aaX W)
 | .seq a b=>writesIn W a&&writesIn W b
 | .cond _ a b=>writesIn W a&&writesIn W b
 | .block _ b=>writesIn W b
 | .loop b=>writesIn W b
 | .skip | .exit _ | .ret | .label _=>true
 | .rangeFunc _ _ _ _=>true
 | .scope b=>writesIn W b
 | _=>false
theorem KG {N:Nat}{W ws:Nat->Bool} : ∀c:Code,qE N W c=true->writesIn ws c=true->qE N (fun k=>W k&&ws k) c=true:=by
 intro c
 induction c with
 | region id ops d=>
  intro h1 h2
  simp only [qE,writesIn,bP]at *
  intro o ho
  have a1:=h1 o ho
  have a2:=h2 o ho
  unfold qU at *
  unfold aaX at a2
  cases hd:o.dst with
  | none=>rfl
  | some d=>simp only [hd,ak]at a1 a2 ⊢;exact⟨a1.1,a1.2,a2⟩
 | seq a b iha ihb=>intro h1 h2;simp only [qE,writesIn,ak]at *;exact⟨iha h1.1 h2.1,ihb h1.2 h2.2⟩
 | cond c a b iha ihb=>intro h1 h2;simp only [qE,writesIn,ak]at *;exact⟨iha h1.1 h2.1,ihb h1.2 h2.2⟩
 | block id b ih=>intro h1 h2;simp only [qE,writesIn]at *;exact ih h1 h2
 | loop b ih=>intro h1 h2;simp only [qE,writesIn]at *;exact ih h1 h2
 | skip=>intro _ _;rfl
 | exit id=>intro _ _;rfl
 | ret=>intro _ _;rfl
 | _=>intro h1 _;simp [qE]at h1
def ah5 (V:(Ex->mG->World->Prop)->mG->World->Prop)(Q:Ex->mG->World->Prop)(e:Ex)(ρ:mG)(w:World):Prop:=
 match e with
 | .normal=>V Q ρ w
 | .exit id=>Q (.exit id) ρ w
 | .ret=>Q .ret ρ w
def aaY (id:Nat)(Q:Ex->mG->World->Prop)(e:Ex)(ρ:mG)(w:World):Prop:=
 match e with
 | .normal=>Q .normal ρ w
 | .exit j=>Q (bif Nat.beq j id then .normal else .exit j) ρ w
 | .ret=>Q .ret ρ w
def ad8 (R:mG->World->Prop)(Q:Ex->mG->World->Prop)(e:Ex)(ρ:mG)(w:World):Prop:=
 match e with
 | .normal=>R ρ w
 | .exit id=>Q (.exit id) ρ w
 | .ret=>Q .ret ρ w
structure qV (p:Prop):Prop where
 holds:p
structure WZ (body:Code)(B:(Ex->mG->World->Prop)->mG->World->Prop)(Q:Ex->mG->World->Prop)(ρ:mG)(w:World):Prop where
 ex : ∃(ws:Nat->Bool) (I:Nat->mG->World->Prop) (n:Nat),writesIn ws body=true∧I n ρ w∧
  ∀n ρ' w',I n ρ' w'->Same ws ρ ρ'->B (ad8 (fun pY w''=>qV (∃m,m<n∧I m pY w'')) Q) ρ' w'
def vC (P:Program)(c:Code)(Q:Ex->mG->World->Prop)(ρ:mG)(w:World):Prop:=
 match c with
 | .skip=>Q .normal ρ w
 | .region id ops draw=>(match draw with
  | false=>WW P ops.toList ops.toList ρ w (Q .normal)
  | true=>y5 P id ops (Q .normal) ρ w)
 | .seq a b=>vC P a (ah5 (vC P b) Q) ρ w
 | .cond c t e=>(match qC ρ c with
  | .bool b=>Ku b (vC P t Q ρ w) (vC P e Q ρ w)
  | _=>False)
 | .block id body=>vC P body (aaY id Q) ρ w
 | .loop body=>WZ body (vC P body) Q ρ w
 | .exit id=>Q (.exit id) ρ w
 | .ret=>Q .ret ρ w
 | _=>False
def CQ (N:Nat)(ds:List Deferred)(W:Nat->Bool)(lS:mG)(Q:Ex->mG->World->Prop):Exit->Act->World->Prop
 | .normal,a,w=> ∃ρ',Fits N ds ρ' a∧Same W lS ρ'∧Q .normal ρ' w
 | .exit id,a,w=> ∃ρ',Fits N ds ρ' a∧Same W lS ρ'∧Q (.exit id) ρ' w
 | .ret,a,w=> ∃ρ',Fits N ds ρ' a∧Same W lS ρ'∧Q .ret ρ' w
 | _,_,_=>False
theorem AO {P:Program}{c:Code}{Q:Exit->Act->World->Prop}{a:Act}{w:World}(I:Nat->Act->World->Prop)(n:Nat)(Nj:I n a w)
  (round : ∀n a w,I n a w->c.wp P (Exit.then (fun a' w'=> ∃m,m<n∧I m a' w') Q) a w):(Code.loop c).wp P Q a w:=by
 intro b k cs
 have key : ∀n a w,I n a w->∃e a' w',Q e a' w'∧Arrives P (lone (b.at a (.code c:: .inLoop c::k)) cs w) b k cs e a' w':=by
  intro n
  induction n using Nat.strongRecOn with
  | _ n ih=>
   intro a w hI
   obtain⟨e,Bv,yX,hq,harr⟩:=round n a w hI b (.inLoop c::k) cs
   cases e with
   | normal=>
    obtain⟨m,hlt,hI₁⟩:=hq
    obtain⟨ahH,ahI,Fq,hq₂,harr₂⟩:=ih m hlt Bv yX hI₁
    exact⟨ahH,ahI,Fq,hq₂, .of_steps (Steps.trans harr (.one step_inLoop)) harr₂⟩
   | exit id=>exact⟨_,Bv,yX,hq, .pass (x:= .inLoop c) rfl (fun _ _=> .inl abb) harr⟩
   | goto l=>exact⟨_,Bv,yX,hq, .pass (x:= .inLoop c) rfl (fun _ _=> .inl abb) harr⟩
   | ret=>exact⟨_,Bv,yX,hq, .pass (x:= .inLoop c) rfl (fun _ _=> .inl abb) harr⟩
   | panic ch=>exact⟨_,Bv,yX,hq, .pass (x:= .inLoop c) rfl (fun _ _=> .inl abb) harr⟩
   | outgrown=>exact⟨_,Bv,yX,hq, .pass (x:= .inLoop c) rfl (fun _ _=> .inl abb) harr⟩
 obtain⟨e,a',w',hq,harr⟩:=key n a w Nj
 exact⟨e,a',w',hq, .of_steps (.one step_loop) harr⟩
theorem Same.trans {W:Nat->Bool}{a b c:mG}(h:Same W a b)(k:Same W b c):Same W a c:=fun n hn=>(k n hn).trans (h n hn)
theorem Same.refl (W:Nat->Bool)(a:mG):Same W a a:=fun _ _=>rfl
theorem W9 {P:Program}(hm:P.follows .mixedOrders=true){N:Nat}{ds:List Deferred} : ∀(c:Code) (W:Nat->Bool) (Q:Ex->mG->World->Prop) (ρ lS:mG) (a:Act) (w:World),
  qE N W c=true->Fits N ds ρ a->Same W lS ρ->vC P c Q ρ w->c.wp P (CQ N ds W lS Q) a w:=by
 intro c
 induction c with
 | skip=>intro W Q ρ lS a w _ hf hs h;exact wp_skip ⟨ρ,hf,hs,h⟩
 | region id ops draw=>
  intro W Q ρ lS a w hc hf hs h
  have hok : ∀o∈ops.toList,qU N W o=true:=by simpa only [qE,bP]using hc
  have mono : ∀e a w,RQ N ds W lS (Q .normal) e a w->CQ N ds W lS Q e a w:=fun e a w hq=>ahS
  cases draw with
  | false=>
   refine Go.wp_mono (wp_region ?_) mono
   have hlen:ops.toList.length=ops.size:=abb
   rw [jh, <-hlen]
   exact QF (K:=Q .normal) (Q:=RQ N ds W lS (Q .normal)) (fun ρ' a' w' hf' hs' hk=>⟨ρ',hf',hs',hk⟩) ops.toList 0 ρ a w (fun j=>by rw [aO]) hok hf hs h
  | true=>exact Go.wp_mono (y5.sound hm hok hf hs h) mono
 | seq x y ihx ihy=>
  intro W Q ρ lS a w hc hf hs h
  simp only [qE,ak]at hc
  refine wp_seq (Go.wp_mono (ihx W _ ρ lS a w hc.1 hf hs h) fun e a' w' hq=> ?_)
  cases e with
  | normal=>
   obtain⟨ρ',hf',hs',hv⟩:=hq
   exact ihy W Q ρ' lS a' w' hc.2 hf' hs' hv
  | exit id=>exact hq
  | ret=>exact hq
  | goto l=>exact hq
  | panic ch=>exact hq
  | outgrown=>exact hq
 | cond c x y ihx ihy=>
  intro W Q ρ lS a w hc hf hs h
  simp only [qE,ak]at hc
  simp only [vC]at h
  split at h
  ·rename_i b hb
   refine wp_cond (t:=b) (by rw [hf.eval];exact hb) ?_
   cases b with
   | true=>exact ihx W Q ρ lS a w hc.1 hf hs h
   | false=>exact ihy W Q ρ lS a w hc.2 hf hs h
  ·cases h
 | block id b ih=>
  intro W Q ρ lS a w hc hf hs h
  refine wp_block (Go.wp_mono (ih W _ ρ lS a w hc hf hs h) fun e a' w' hq=> ?_)
  cases e with
  | normal=>exact hq
  | exit j=>
   obtain⟨ρ',hf',hs',hv⟩:=hq
   simp only [aaY]at hv
   simp only [Exit.inBlock]
   by_cases hj:j=id
   ·subst hj
    rw [iI,cond_true]at hv
    simp only [if_true]
    exact⟨ρ',hf',hs',hv⟩
   ·have hb:Nat.beq j id=false:=by
     cases hb:Nat.beq j id with
     | false=>rfl
     | true=>exact absurd (aA hb) hj
    rw [hb,cond_false]at hv
    rw [if_neg hj]
    exact⟨ρ',hf',hs',hv⟩
  | ret=>exact hq
  | goto l=>exact hq
  | panic ch=>exact hq
  | outgrown=>exact hq
 | loop b ih=>
  intro W Q ρ lS a w hc hf hs h
  obtain⟨ws,I,n,hw,Nj,hr⟩:=h.ex
  have hc':=KG b hc hw
  refine AO (fun n a' w'=> ∃ρ',I n ρ' w'∧Fits N ds ρ' a'∧Same (fun k=>W k&&ws k) ρ ρ') n ⟨ρ,Nj,hf,Same.refl _ _⟩ fun n a' w' ⟨ρ',hI,hf',hs'⟩=> ?_
  have hsw:Same ws ρ ρ':=fun k hk=>hs' k ahT
  refine Go.wp_mono (ih (fun k=>W k&&ws k) _ ρ' ρ a' w' hc' hf' hs' (hr n ρ' w' hI hsw)) fun e a'' w'' hq=> ?_
  have up : ∀ {pY},Same (fun k=>W k&&ws k) ρ pY->Same W lS pY:=fun h'=>hs.trans fun k hk=>h' k ahT
  cases e with
  | normal=>
   obtain⟨pY,vN,vO,⟨m,hlt,hI'⟩⟩:=hq
   exact⟨m,hlt,pY,hI',vN,vO⟩
  | exit id=>obtain⟨pY,vN,vO,hv⟩:=hq;exact⟨pY,vN,up vO,hv⟩
  | ret=>obtain⟨pY,vN,vO,hv⟩:=hq;exact⟨pY,vN,up vO,hv⟩
  | goto l=>exact hq
  | panic ch=>exact hq
  | outgrown=>exact hq
 | exit id=>intro W Q ρ lS a w _ hf hs h;exact Go.wp_exit ⟨ρ,hf,hs,h⟩
 | ret=>intro W Q ρ lS a w _ hf hs h;exact Go.wp_ret ⟨ρ,hf,hs,h⟩
 | _=>intro W Q ρ lS a w hc;simp [qE]at hc
structure qM (p:Prop):Prop where
 holds:p
def Gl (P:Program)(rs:List ResultVar)(ρ:mG)(w:World)(k:List Value->Prop):Prop:=
 match rs with
 | []=>k []
 | .tmp t::r=>force (ρ t) fun v=>Gl P r ρ w fun vs=>k (v::vs)
 | .cell a t::r=>(match ρ a with
  | .pointer (some a)=>nM P (loadVar t a) w (wr true w fun v _=>Gl P r ρ w fun vs=>k (v::vs))
  | _=>False)
def og (vs:List Value):Value:=match vs with | [v]=>v|vs=> .tuple vs.toArray
def fin (P:Program)(fn:Func)(R:Value->World->Prop)(e:Ex)(ρ:mG)(w:World):Prop:=
 match e with
 | .normal=>Gl P fn.results.toList ρ w fun vs=>qM (R (og vs) w)
 | .ret=>Gl P fn.results.toList ρ w fun vs=>qM (R (og vs) w)
 | .exit _=>False
def nth (l:List Value)(n:Nat):Value:=
 match l,n with
 | [],_=>undef
 | v::_,0=>v
 | _::r,n+1=>nth r n
def sH (args:Array Value):mG:=fun n=>nth args.toList n
theorem BJ (l:List Value) : ∀n,nth l n=l.getD n undef:=by
 induction l with
 | nil=>intro n;simp [nth]
 | cons v r ih=>intro n;cases n with
  | zero=>simp [nth]
  | succ n=>simp [nth,ih]
def Js (tmps:Array Value)(r:ResultVar):Sem Value:=
 match r with
 | .tmp t=>pure (tmps.getD t undef)
 | .cell a t=>do loadVar t (<-asAddr (tmps.getD a undef))
theorem yw (fn:Func)(tmps:Array Value):results fn tmps=(do
  let vs <-fn.results.mapM (Js tmps)
  pure (if h:vs.size=1 then vs[0]else .tuple vs)):=by
 unfold results
 rfl
theorem Gm {P:Program}{w:World}{ρ:mG}{tmps:Array Value}(hg : ∀t,tmps.getD t undef=ρ t) : ∀(rs:List ResultVar) (k:List Value->Prop),
  Gl P rs ρ w k->∃vs,(rs.mapM (Js tmps)).run P w = .ok vs w∧k vs:=by
 intro rs
 induction rs with
 | nil=>intro k h;exact⟨[],by simp,h⟩
 | cons r rs ih=>
  intro k h
  cases r with
  | tmp t=>
   simp only [Gl,force_eq]at h
   obtain⟨vs,hr,hk⟩:=ih _ h
   refine⟨_, ?_,hk⟩
   have h1:(Js tmps (.tmp t)).run P w = .ok (ρ t) w:=by simp only [Js,hg];rfl
   rw [List.mapM_cons,Sem.run_bind,h1]
   simp only [Result.andThen_ok,Sem.run_bind,hr,Sem.run_pure]
  | cell a t=>
   simp only [Gl]at h
   split at h
   ·rename_i p hp
    obtain⟨v,hv,hk⟩:=h.same
    obtain⟨vs,hr,hk⟩:=ih _ hk
    refine⟨_, ?_,hk⟩
    have h1:(Js tmps (.cell a t)).run P w = .ok v w:=by
     simp only [Js,hg,hp,Sem.run_bind]
     have h2:(asAddr (Value.pointer (some p))).run P w = .ok p w:=rfl
     rw [h2,Result.andThen_ok,hv]
    rw [List.mapM_cons,Sem.run_bind,h1]
    simp only [Result.andThen_ok,Sem.run_bind,hr,Sem.run_pure]
   ·cases h
theorem ND {P:Program}{f:FuncId}{fn:Func}{c:Code}{args:Array Value}{w:World}{R:Value->World->Prop}
  (hf:P.funcs[f]? = some fn) (hb:fn.body=some c) (hm:P.follows .mixedOrders=true) (hN:args.size<=fn.ntmps) (hok:qE fn.ntmps (fun _=>true) c=true)
  (h:vC P c (fin P fn R) (sH args) w):Calls P f args w fun e w'=> ∃v,e = .returned v∧R v w':=by
 refine calls_of_wp hf hb ?_
 have hfit:Fits fn.ntmps [] (sH args) {tmps:=args++Array.replicate (fn.ntmps-args.size) undef,defers:= []}:=by
  refine⟨by simp;omega,fun t=> ?_,rfl⟩
  simp only [sH,BJ]
  rw [gB,aT,jc]
  by_cases ht:t<args.size
  ·simp [ht]
  ·simp only [ht,if_false,bF]
   rw [fV (kP ht)]
   by_cases h2:t-args.size<fn.ntmps-args.size
   ·simp [h2]
   ·simp [h2]
 refine Go.wp_mono (W9 hm c (fun _=>true) _ _ _ _ w hok hfit (Same.refl _ _) h) fun e a' w' hq=> ?_
 have res : ∀ {ρ':mG},Fits fn.ntmps [] ρ' a'->(Gl P fn.results.toList ρ' w' fun vs=>qM (R (og vs) w'))->
   a'.defers = []∧∃v,(results fn a'.tmps).run P w' = .ok v w'∧∃u,Ending.returned v = .returned u∧R u w':=by
  intro ρ' hf' hv
  obtain⟨vs,hr,hk⟩:=Gm hf'.get _ _ hv
  refine⟨hf'.defers,og vs, ?_,og vs,rfl,hk.holds⟩
  rw [yw,Sem.run_bind,jo,Sem.run_map]
  rw [hr]
  simp only [Result.andThen_ok,Sem.run_pure]
  congr 1
  match vs with
  | []=>rfl
  | [v]=>rfl
  | v::u::r=>simp [og]
 cases e with
 | normal=>obtain⟨ρ',hf',_,hv⟩:=hq;exact res hf' hv
 | ret=>obtain⟨ρ',hf',_,hv⟩:=hq;exact res hf' hv
 | exit id=>obtain⟨ρ',hf',_,hv⟩:=hq;exact hv.elim
 | goto l=>exact hq.elim
 | panic ch=>exact hq.elim
 | outgrown=>exact hq.elim
def look (l:List (Nat×Value))(n:Nat):Option Value:=
 match l with
 | []=>none
 | p::r=>bif Nat.beq n p.1 then some p.2 else look r n
def wU (l:List (Nat×Nat))(n:Nat):Bool:=
 match l with
 | []=>false
 | p::r=>bif Nat.ble p.1 n&&Nat.ble n p.2 then true else wU r n
def frm (sl:List (Nat×Value))(ws:List (Nat×Nat))(j ρ:mG):mG:=fun n=>
 match look sl n with
 | some v=>v
 | none=>bif wU ws n then j n else ρ n
def hold (sl:List (Nat×Value))(ρ:mG):Prop:=
 match sl with
 | []=>True
 | p::r=>ρ p.1=p.2∧hold r ρ
theorem Vp {sl:List (Nat×Value)}{ρ:mG}{n:Nat}{v:Value}(h:hold sl ρ)(hl:look sl n=some v):ρ n=v:=by
 induction sl with
 | nil=>cases hl
 | cons p r ih=>
  simp only [look]at hl
  cases hb:Nat.beq n p.1 with
  | true=>
   rw [hb,cond_true]at hl
   rw [aA hb]
   injection hl with hl
   rw [<-hl]
   exact h.1
  | false=>rw [hb,cond_false]at hl;exact ih h.2 hl
theorem aeI {sl:List (Nat×Value)}{ws:List (Nat×Nat)}{ρ ρ':mG}(h:hold sl ρ')(hs:Same (wU ws) ρ ρ'):ρ'=frm sl ws ρ' ρ:=by
 funext n
 unfold frm
 cases hl:look sl n with
 | some v=>exact Vp h hl
 | none=>
  cases hm:wU ws n with
  | true=>rfl
  | false=>exact hs n hm
theorem su {X:Type}{body:Code}{B:(Ex->mG->World->Prop)->mG->World->Prop}{Q:Ex->mG->World->Prop}{ρ:mG}{w:World}
  (ws:List (Nat×Nat)) (sl:X->List (Nat×Value)) (J:X->World->Prop) (μ:X->Nat) (Bz:X)
  (hw:writesIn (wU ws) body=true) (Nj:hold (sl Bz) ρ) (hJ:J Bz w)
  (hr : ∀x w' j,J x w'->B (ad8 (fun pY w''=>qV (∃m,m<μ x∧∃x',μ x'=m∧hold (sl x') pY∧J x' w'')) Q) (frm (sl x) ws j ρ) w') :
  WZ body B Q ρ w:=
 ⟨wU ws,fun n ρ' w'=> ∃x,μ x=n∧hold (sl x) ρ'∧J x w',μ Bz,hw,⟨Bz,rfl,Nj,hJ⟩,fun n ρ' w' ⟨x,hx,hh,hJ'⟩ hs=>by
  subst hx
  have h1:=hr x w' ρ' hJ'
  rw [<-aeI hh hs]at h1
  exact h1⟩
structure Only (b:Nat)(w w':World):Prop where
 os:w'.os=w.os
 tape:w'.tape=w.tape
 output:w'.output=w.output
 size:w'.heap.size=w.heap.size
 block : ∀k,k≠b->w'.heap[k]? = w.heap[k]?
theorem Only.refl (b:Nat)(w:World):Only b w w:=⟨rfl,rfl,rfl,rfl,fun _ _=>rfl⟩
theorem Only.trans {b:Nat}{u v w:World}(h:Only b u v)(k:Only b v w):Only b u w:=
 ⟨k.os.trans h.os,k.tape.trans h.tape,k.output.trans h.output,k.size.trans h.size,fun i hi=>(k.block i hi).trans (h.block i hi)⟩
theorem Only.drew {b:Nat}{u v:World}(h:Only b u v):Only b u v.drew:=⟨h.os,h.tape,h.output,h.size,h.block⟩
theorem Only.QK {b:Nat}{u v:World}(h:Only b u.drew v):Only b u v:=⟨h.os,h.tape,h.output,h.size,h.block⟩
theorem Only.step {b:Nat}{u v w:World}(k:Only b u.drew v)(h:Only b w u):Only b w v:=h.trans k.QK
theorem Only.ah6 {b:Nat}{u v w:World}(k:Only b u v)(h:Only b w u):Only b w v:=h.trans k
theorem Only.below {b B:Nat}{w w':World}(h:Only b w w')(hB:B<=b):Below B w w':=
 ⟨h.os,h.tape,h.output,jI h.size.symm,fun k hk=>h.block k aai⟩
theorem Below.QK {B:Nat}{u v:World}(h:Below B u.drew v):Below B u v:=⟨h.os,h.tape,h.output,h.size,h.block⟩
theorem xu {B:Nat}{u v:World}(h:Below B u v):Below B u v.drew:=⟨h.os,h.tape,h.output,h.size,h.block⟩
structure Quiet (w w':World):Prop where
 os:w'.os=w.os
 tape:w'.tape=w.tape
 output:w'.output=w.output
 heap:w'.heap=w.heap
theorem Quiet.refl (w:World):Quiet w w:=⟨rfl,rfl,rfl,rfl⟩
theorem Quiet.trans {a b c:World}(h:Quiet a b)(k:Quiet b c):Quiet a c:=⟨k.os.trans h.os,k.tape.trans h.tape,k.output.trans h.output,k.heap.trans h.heap⟩
theorem Quiet.drew {a b:World}(h:Quiet a b):Quiet a b.drew:=⟨h.os,h.tape,h.output,h.heap⟩
theorem Quiet.below {a b:World}(h:Quiet a b)(B:Nat):Below B a b:=⟨h.os,h.tape,h.output,by rw [h.heap];exact au _,fun k _=>by rw [h.heap]⟩
theorem Quiet.only {a b:World}(h:Quiet a b)(B:Nat):Only B a b:=⟨h.os,h.tape,h.output,by rw [h.heap],fun k _=>by rw [h.heap]⟩
def rU (w:World)(b:Nat)(l:List Value)(t:TypeId):Prop:=w.heap[b]? = some (.cells l.toArray t (0,0))
theorem rU.lt {w:World}{b:Nat}{l:List Value}{t:TypeId}(h:rU w b l t):b<w.heap.size:=(dG.1 h).1
theorem rU.cell {w:World}{b:Nat}{l:List Value}{t:TypeId}(h:rU w b l t)(o:Nat):w.cell? ⟨b,o,none⟩=l[o]? :=by
 have h':w.heap[b]? = some (.cells l.toArray t (0,0)):=h
 simp [World.cell?,h']
theorem rU.only {w w':World}{b c:Nat}{l:List Value}{t:TypeId}(h:rU w b l t)(ho:Only c w w')(hne:b≠c):rU w' b l t:=(ho.block b hne).trans h
theorem rU.below {w w':World}{b B:Nat}{l:List Value}{t:TypeId}(h:rU w b l t)(hb:Below B w w')(hlt:b<B):rU w' b l t:=(hb.block b hlt).trans h
theorem rU.quiet {w w':World}{b:Nat}{l:List Value}{t:TypeId}(h:rU w b l t)(hq:Quiet w w'):rU w' b l t:=by
 unfold rU at *;rw [hq.heap];exact h
theorem rU.new (w:World)(cs:Array Value)(t:TypeId):rU (w.alloc (.cells cs t)) w.heap.size cs.toList t:=by
 unfold rU
 rw [heap_alloc_new w]
theorem rU.alloc {w:World}{b:Nat}{l:List Value}{t:TypeId}(h:rU w b l t)(o:Obj):rU (w.alloc o) b l t:=
 (heap_alloc_old w o b h.lt).trans h
def zO (P:Program)(f:FuncId)(args:Array Value)(w:World)(R:Value->World->Prop):Prop:=Calls P f args w fun e w'=> ∃v,e = .returned v∧R v w'
theorem zO.mono {P:Program}{f:FuncId}{args:Array Value}{w:World}{R R':Value->World->Prop}(h:zO P f args w R)(k : ∀v w',R v w'->R' v w'):zO P f args w R':=
 Calls.mono h fun _ _ ⟨v,he,hr⟩=>⟨v,he,k _ _ hr⟩
theorem ou {P:Program}{f:FuncId}{fn:Func}{c:Code}{args:Array Value}{w:World}{R:Value->World->Prop}
  (hf:P.funcs[f]? = some fn) (hb:fn.body=some c) (hm:P.follows .mixedOrders=true) (hok:(Nat.ble args.size fn.ntmps&&qE fn.ntmps (fun _=>true) c)=true)
  (h:vC P c (fin P fn R) (sH args) w):zO P f args w R:=by
 simp only [ak]at hok
 exact ND hf hb hm (aF hok.1) hok.2 h
theorem qW {P:Program}{f:FuncId}{args:Array Value}{w:World}{K:Value->World->Prop}{R:Value->World->Prop}(hc:callable P f=true)(h:zO P f args w R)
  (k : ∀v w',R v w'->K v w'):WM P f args w K:=⟨.inl ⟨hc,h.mono k⟩⟩
theorem rE {k:IntKind}{a b:Int}(h:a=b):Value.int k a=Value.int k b:=by rw [h]
theorem incr {i:Nat}(h:i<9223372036854775807):IntKind.i64.wrap ((i:Int)+1)=((i+1:Nat):Int):=by
 rw [IntWalk.i64_in _ aai]
 rfl
def szB (P:Program)(t:TypeId):Option Nat:=(P.info? t).map (·.size)
theorem pU {P:Program}{t:TypeId}{n:Nat}(h:szB P t=some n) : ∃i,P.info? t=some i∧i.size=n:=by
 unfold szB at h
 cases hi:P.info? t with
 | none=>simp [hi]at h
 | some i=>simp only [hi,bD,aI]at h;exact⟨i,rfl,h⟩
theorem qx {P:Program}{t:TypeId}{n:Nat}{w:World}(h:szB P t=some n):(sizeOf t).run P w = .ok n w:=by
 obtain⟨i,hi,rfl⟩:=pU h
 simp [sizeOf,rZ hi]
theorem oQ {P:Program}{s:Sem Value}{w w':World}{v:Value}{K:Value->World->Prop}(h:s.run P w = .ok v w')(k:K v w'):nM P s w K:=⟨v,w',h,k⟩
theorem add0 (b o n:Nat):(⟨b,o,none⟩:Addr).add n=⟨b,o+n,none⟩:=by unfold Addr.add;split<;>simp_all
section
variable {P:Program}{w:World}{K:Value->World->Prop}
theorem oZ {t:TypeId}{a:Addr}{v:Value}(ha:yg P t=some false)(h:w.cell? a=some v)(k:K v w):nM P (loadVar t a) w K:=by
 refine oQ ?_ k
 unfold loadVar
 rw [Sem.run_bind,rO ha]
 simp [h]
theorem nH {t T:TypeId}{b o:Nat}{l:List Value}{v:Value}(ha:yg P t=some false)(hb:rU w b l T)(hv:l[o]? = some v)(k:K v w):nM P (loadVar t ⟨b,o,none⟩) w K:=
 oZ ha (by rw [hb.cell];exact hv) k
theorem run_loadCellsFrom (a:Addr) : ∀(l:List Value) (i:Nat) (acc:Array Value),(∀j v,l[j]? = some v->w.cell? (a.add (i+j))=some v)->
  (loadCellsFrom a i l.length acc).run P w = .ok (acc++l.toArray) w:=by
 intro l
 induction l with
 | nil=>intro i acc _;simp [loadCellsFrom]
 | cons v r ih=>
  intro i acc h
  have h0:=h 0 v rfl
  simp only [dV]at h0
  simp only [bn,loadCellsFrom,Sem.run_bind,run_load,h0,Result.andThen_ok]
  rw [ih (i+1) _ (fun j u hj=>by have:=h (j+1) u (by simpa using hj);rw [show i+1+j=i+(j+1) by omega];exact this)]
  simp
theorem Gn {t:TypeId}{a:Addr}{l:List Value}(ha:yg P t=some true)(hs:szB P t=some l.length)(h : ∀j v,l[j]? = some v->w.cell? (a.add j)=some v)
  (k:K (.agg l.toArray) w):nM P (loadVar t a) w K:=by
 refine oQ ?_ k
 unfold loadVar
 rw [Sem.run_bind,rO ha]
 simp only [Result.andThen_ok,if_true,Sem.run_bind,qx hs,loadCells]
 rw [run_loadCellsFrom a l 0 #[] (fun j v hj=>by rw [aO];exact h j v hj)]
 simp
theorem Vq {t T:TypeId}{b:Nat}{l:List Value}(ha:yg P t=some true)(hs:szB P t=some l.length)(hb:rU w b l T)
  (k:K (.agg l.toArray) w):nM P (loadVar t ⟨b,0,none⟩) w K:=
 Gn ha hs (fun j v hj=>by rw [add0,hb.cell,aO];exact hj) k
theorem Vr {t:TypeId}{a:Addr}{v u:Value}{K:World->Prop}(hs:szB P t=some 1)(hv:v.oneCell'=true)(h:w.cell? a=some u)(hf:w.frozen? a=false)
  (k:K (w.setCell a v)):vG P (storeVar t a v) w K:=by
 have hc:v.cells = #[v]:=by cases v<;>first|rfl|simp [Value.oneCell']at hv
 have ha:a.add 0=a:=by simp [Addr.add]
 refine⟨(),_, ?_,k⟩
 unfold storeVar
 simp only [Sem.run_bind,qx hs,Result.andThen_ok,hc]
 simp [storeCells,ha,run_store P w a v _ hv,h,hf]
theorem KH {b o:Nat}{l:List Value}{T:TypeId}(hb:rU w b l T)(v:Value):Only b w (w.setCell ⟨b,o,none⟩ v)∧rU (w.setCell ⟨b,o,none⟩ v) b (l.set o v) T:=by
 have hb':w.heap[b]? = some (.cells l.toArray T (0,0)):=hb
 refine⟨⟨rfl,rfl,rfl,by simp,fun k hk=>Below.heap_setCell _ _ _ _ hk⟩, ?_⟩
 unfold rU
 rw [setCell_eq_setRow w b o _ T (0,0) v hb',setRow_heap w b _ _ T (0,0) hb']
 simp
theorem nR {t T:TypeId}{b o:Nat}{l:List Value}{v:Value}{K:World->Prop}(hb:rU w b l T)(hs:szB P t=some 1)(hv:v.oneCell'=true)(hlt:Nat.blt o l.length=true)
  (k : ∀w',Only b w w'->rU w' b (l.set o v) T->K w'):vG P (storeVar t ⟨b,o,none⟩ v) w K:=by
 have hb':w.heap[b]? = some (.cells l.toArray T (0,0)):=hb
 have ho:o<l.length:=aF hlt
 refine Vr hs hv (u:=l[o]) (by rw [hb.cell];exact ah ho) (by simp [World.frozen?,hb']) ?_
 exact k _ (KH hb v).1 (KH hb v).2
theorem yP {b:Nat}{T:TypeId} : ∀(vs:List Value) (i o:Nat) (l:List Value) (w:World),rU w b l T->o+i+vs.length<=l.length->(∀v∈vs,v.oneCell'=true)->
  ∃w',(storeCells ⟨b,o,none⟩ vs i).run P w = .ok () w'∧Only b w w'∧rU w' b (uh l (o+i) vs) T:=by
 intro vs
 induction vs with
 | nil=>intro i o l w hb _ _;exact⟨w,by simp [storeCells],Only.refl _ _,hb⟩
 | cons v r ih=>
  intro i o l w hb hl h1
  simp only [bn]at hl
  have hb':w.heap[b]? = some (.cells l.toArray T (0,0)):=hb
  have hcell:w.cell? ⟨b,o+i,none⟩=some l[o+i]:=by rw [hb.cell];exact ah aai
  have hfro:w.frozen? ⟨b,o+i,none⟩=false:=by simp [World.frozen?,hb']
  obtain⟨ho1,hb1⟩:=KH (o:=o+i) hb v
  obtain⟨w',hr,ho,hbw⟩:=ih (i+1) o (l.set (o+i) v) _ hb1 aev (fun u hu=>h1 u (by simp [hu]))
  refine⟨w', ?_,ho1.trans ho, ?_⟩
  ·simp only [storeCells,Sem.run_bind,add0,run_store P w _ v _ (h1 v abb),hcell,hfro]
   simp only [aX,if_false,Result.andThen_ok]
   exact hr
  ·simp only [uh];exact hbw
theorem Jt {t T:TypeId}{b o:Nat}{l vs:List Value}{K:World->Prop}(hb:rU w b l T)(hs:szB P t=some vs.length)(h1:vs.all (·.oneCell')=true)
  (hl:Nat.ble (o+vs.length) l.length=true) (k : ∀w',Only b w w'->rU w' b (uh l o vs) T->K w'):vG P (storeVar t ⟨b,o,none⟩ (.agg vs.toArray)) w K:=by
 obtain⟨w',hr,ho,hbw⟩:=yP (P:=P) vs 0 o l w hb (by have:=aF hl;omega) (bP.1 h1)
 refine⟨(),w', ?_,k w' ho hbw⟩
 unfold storeVar
 simp only [Sem.run_bind,qx hs,Result.andThen_ok,Value.cells]
 simp [hr]
theorem KI {t e:TypeId}{n sz b o:Nat}{k:IntKind}{ix:Int}(m:Nat)(hu:P.underlying t=some (.array n e))(hs:szB P e=some sz)(hm:ix=m)(h:m<n)
  (hk:K (.pointer (some ⟨b,o+m*sz,none⟩)) w):nM P (Instr.indexAt t (.pointer (some ⟨b,o,none⟩)) (.int k ix)) w K:=by
 refine oQ ?_ hk
 subst hm
 have h1:(0:Int)<=m∧(m:Int)<n:=⟨by omega,by omega⟩
 unfold Instr.indexAt
 simp [asIntOf,l7 hu,Instr.sureAddr,h,qx hs,add0]
theorem uf {t e:TypeId}{n b o:Nat}{k:IntKind}{ix:Int}(m:Nat)(hu:P.underlying t=some (.array n e))(hs:szB P e=some 1)(hm:ix=m)(h:m<n)
  (hk:K (.pointer (some ⟨b,o+m,none⟩)) w):nM P (Instr.indexAt t (.pointer (some ⟨b,o,none⟩)) (.int k ix)) w K:=
 KI m hu hs hm h (by rw [dZ];exact hk)
theorem o8 {t e:TypeId}{n b o:Nat}{k:IntKind}{m:Nat}(hu:P.underlying t=some (.array n e))(hs:szB P e=some 1)(h:Nat.blt m n=true)
  (hk:K (.pointer (some ⟨b,o+m,none⟩)) w):nM P (Instr.indexAt t (.pointer (some ⟨b,o,none⟩)) (.int k (OfNat.ofNat m))) w K:=
 uf m hu hs rfl (aF h) hk
theorem NG {t e:TypeId}{sz b o n c:Nat}{k:IntKind}{ix:Int}(m:Nat)(hu:P.underlying t=some (.slice e))(hs:szB P e=some sz)(hm:ix=m)(h:m<n)
  (hk:K (.pointer (some ⟨b,o+m*sz,none⟩)) w):nM P (Instr.indexAt t (.slice (some ⟨b,o,none⟩) n c) (.int k ix)) w K:=by
 refine oQ ?_ hk
 subst hm
 have h1:(0:Int)<=m∧(m:Int)<n:=⟨by omega,by omega⟩
 unfold Instr.indexAt
 simp [asIntOf,l7 hu,h,qx hs,add0]
theorem KJ {t e:TypeId}{b o n c:Nat}{k:IntKind}{ix:Int}(m:Nat)(hu:P.underlying t=some (.slice e))(hs:szB P e=some 1)(hm:ix=m)(h:m<n)
  (hk:K (.pointer (some ⟨b,o+m,none⟩)) w):nM P (Instr.indexAt t (.slice (some ⟨b,o,none⟩) n c) (.int k ix)) w K:=
 NG m hu hs hm h (by rw [dZ];exact hk)
end
def Row (w:World)(oa:Option Addr)(vs:List Value):Prop:=
 vs = []∨∃b o,oa=some ⟨b,o,none⟩∧b<w.heap.size∧∀j v,vs[j]? = some v->w.cell? ⟨b,o+j,none⟩=some v
theorem Row.get {w:World}{oa:Option Addr}{vs:List Value}(h:Row w oa vs)(hne:0<vs.length) :
  ∃b o,oa=some ⟨b,o,none⟩∧b<w.heap.size∧∀j v,vs[j]? = some v->w.cell? ⟨b,o+j,none⟩=some v:=
 h.resolve_left fun e=>by simp [e]at hne
theorem Row.below {w w':World}{oa:Option Addr}{vs:List Value}(h:Row w oa vs)(hb:Below w.heap.size w w'):Row w' oa vs:=by
 rcases h with h|⟨b,o,he,hlt,hc⟩
 ·exact .inl h
 ·exact .inr ⟨b,o,he,aP hlt hb.size,fun j v hj=>by rw [hb.cell (p:=⟨b,o+j,none⟩) hlt];exact hc j v hj⟩
theorem Row.nil (w:World)(oa:Option Addr):Row w oa []:= .inl rfl
def pI (l:List UInt8):List Value:=l.map fun x=> .int .u8 x.toNat
theorem xw {l:List UInt8}{j:Nat}(h:j<l.length):(pI l)[j]? = some (.int .u8 l[j].toNat):=by simp [pI,h]
@[simp] theorem bvals_len (l:List UInt8):(pI l).length=l.length:=by simp [pI]
def Own (w:World)(B:Nat)(E:TypeId)(sz:Nat)(oa:Option Addr)(n c:Nat)(xs:List Value):Prop:=w.ownsRow B E sz (.slice oa n c) n xs
theorem Own.len {w:World}{B:Nat}{E:TypeId}{sz:Nat}{oa:Option Addr}{n c:Nat}{xs:List Value}(h:Own w B E sz oa n c xs):xs.length=n*sz:=h.1
theorem Own.nil (w:World)(B:Nat)(E:TypeId)(sz:Nat):Own w B E sz none 0 0 []:=World.ownsRow_nil w B E sz
theorem Own.row {w:World}{B:Nat}{E:TypeId}{sz:Nat}{oa:Option Addr}{n c:Nat}{xs:List Value}(h:Own w B E sz oa n c xs):Row w oa xs:=by
 rcases h.2 with ⟨hv,hn⟩|⟨g,cap,cur,hv,hg,hh,_⟩
 ·subst hn
  exact .inl (aK (by simpa using h.1))
 ·injection hv with h1 h2 h3
  subst h1
  refine .inr ⟨g,0,rfl,(dG.1 hh).1,fun j v hj=> ?_⟩
  have:=World.ownsRow.cells (h:w.ownsRow B E sz (.slice (some ⟨g,0,none⟩) n c) n xs) (g:=g) rfl j v hj
  rw [add0]at this
  exact this
def ownB (oa:Option Addr):Option Nat:=oa.map (·.block)
theorem BK (oa:Option Addr)(n c:Nat):(Value.slice oa n c).ownBlock=ownB oa:=by cases oa<;>rfl
theorem Own.kept {w w':World}{B:Nat}{E:TypeId}{sz:Nat}{oa:Option Addr}{n c:Nat}{xs:List Value}{row:Option Nat}(h:Own w B E sz oa n c xs)(hg:w.grownBy w' row)
  (hne:ownB oa=none∨ownB oa≠row):Own w' B E sz oa n c xs:=World.ownsRow.kept h hg (by rw [BK];exact hne)
theorem Own.ge {w:World}{B:Nat}{E:TypeId}{sz:Nat}{oa:Option Addr}{n c:Nat}{xs:List Value}(h:Own w B E sz oa n c xs) : ∀k,ownB oa=some k->B<=k∧k<w.heap.size:=by
 intro k hk
 exact World.ownsRow.lt h k (by rw [BK];exact hk)
theorem Own.below {w w':World}{B:Nat}{E:TypeId}{sz:Nat}{oa:Option Addr}{n c:Nat}{xs:List Value}(h:Own w B E sz oa n c xs)(hb:Below w.heap.size w w'):Own w' B E sz oa n c xs:=
 Own.kept h (row:=none) ⟨hb.os,hb.tape,hb.output,hb.size,fun k hk _=>hb.block k hk⟩ (by cases h:ownB oa<;>simp)
theorem grown_below {w w':World}{B:Nat}{row:Option Nat}(hg:w.grownBy w' row)(hB:B<=w.heap.size)(hr : ∀k,row=some k->B<=k):Below B w w':=
 (Below.refl B w).grown hg hB hr
theorem Row.alloc1 (w:World)(l:List Value)(t:TypeId):Row (w.alloc (.cells l.toArray t)) (some ⟨w.heap.size,0,none⟩) l:=
 .inr ⟨w.heap.size,0,rfl,by simp,fun j v hj=>by have:=(rU.new w l.toArray t).cell j;rw [aO,this];exact hj⟩
theorem rU.row {w:World}{b:Nat}{l:List Value}{t:TypeId}(h:rU w b l t):Row w (some ⟨b,0,none⟩) l:=
 .inr ⟨b,0,rfl,h.lt,fun j v hj=>by rw [aO,h.cell];exact hj⟩
theorem DL {P:Program}{w:World}{t T:TypeId}{b o:Nat}{l:List Value}{v:Value}{K:World->Prop}(hb:rU w b l T)(hs:szB P t=some 1)(hv:v.oneCell'=true)(hlt:o<l.length)
  (k : ∀w',Only b w w'->rU w' b (l.set o v) T->K w'):vG P (storeVar t ⟨b,o,none⟩ v) w K:=
 nR hb hs hv (jL hlt) k
theorem Own.alloc {w:World}{B:Nat}{E:TypeId}{sz:Nat}{oa:Option Addr}{n c:Nat}{xs:List Value}(h:Own w B E sz oa n c xs)(o:Obj):Own (w.alloc o) B E sz oa n c xs:=
 h.below ((Below.refl _ _).alloc (au _) o)
theorem Row.drew {w:World}{oa:Option Addr}{vs:List Value}(h:Row w oa vs):Row w.drew oa vs:=h
theorem Row.alloc {w:World}{oa:Option Addr}{vs:List Value}(h:Row w oa vs)(o:Obj):Row (w.alloc o) oa vs:=h.below ((Below.refl _ _).alloc (au _) o)
theorem pW {B:Nat}{w w':World}(h:Below B w w')(hB:B<=w.heap.size)(o:Obj):Below B w (w'.alloc o):=h.alloc (bG hB h.size) o
theorem aaZ {oa:Option Addr}{n m c:Nat}(h:n=m):Value.slice oa n c=Value.slice oa m c:=by rw [h]
def qg (P:Program)(t:TypeId):Option Nat:=(P.info? t).map (·.bytes)
def tu (P:Program)(t:TypeId):Option (List Value):=(P.info? t).bind fun i=>i.zero.map fun z=>z.cells.toList
section
variable {P:Program}{w:World}{K:Value->World->Prop}
theorem nX {t ty E:TypeId}{sz qp B n c m c2:Nat}{oa zQ:Option Addr}{xs news zs:List Value}
  (ht:P.underlying t=some (.slice E)) (hs:szB P E=some sz) (hby:qg P E=some qp) (hz:tu P E=some zs) (hzl:zs.length=sz) (hsz:Nat.ble 1 sz=true)
  (hown:Own w B E sz oa n c xs) (hr:Row w zQ news) (hl:news.length=m*sz) (h1 : ∀u∈news,u.oneCell'=true)
  (hnil:zQ=none->c2=0)
  (hbytes:(n+m)*qp<=140737488355328) (hB:B<=w.heap.size) (hlen:n+m<=maxLen)
  (k : ∀pJ c' w',Own w' B E sz pJ (n+m) c' (xs++news)->Below B w w'->w.grownBy w' (ownB oa)->K (.slice pJ (n+m) c') w') :
  nM P (Builtin.append_ #[t,t] ty #[.slice oa n c, .slice zQ m c2]) w K:=by
 obtain⟨i,hi,rfl⟩:=pU hs
 have hb':i.bytes=qp:=by simpa [qg,hi]using hby
 obtain⟨z,hz1,hz2⟩ : ∃z,i.zero=some z∧z.cells.toList=zs:=by
  unfold tu at hz
  simp only [hi,eU]at hz
  cases hzz:i.zero with
  | none=>simp [hzz]at hz
  | some z=>simp only [hzz,bD,aI]at hz;exact⟨z,rfl,hz⟩
 have hsz':0<i.size:=aF hsz
 have hzc:z.cells.size=i.size:=aek
 by_cases hm:zQ=none
 ·subst hm
  have hm0:news = []:=hr.resolve_right (by rintro⟨b,o,he,_⟩;cases he)
  subst hm0
  have:m=0:=by
   rcases bM m with h|h
   ·exact h
   ·have:=jP h hsz';simp at hl;omega
  subst this
  have hc2:=hnil rfl
  subst hc2
  have hrun:=run_append_owned_none (P:=P) (w:=w) B t ty E i i.size ht hi (.slice oa n c) n xs hown
  refine oQ hrun ?_
  have hk:=k oa c w (by simpa using hown) (Below.refl _ _) ⟨rfl,rfl,rfl,au _,fun _ _ _=>rfl⟩
  simpa using hk
 ·obtain⟨ad,rfl,hcells⟩ : ∃ad,zQ=some ad∧∀j u,news[j]? = some u->w.cell? (ad.add j)=some u:=by
   rcases hr with rfl|⟨b,o,rfl,_,hc⟩
   ·cases zQ with
    | none=>exact absurd rfl hm
    | some ad=>exact⟨ad,rfl,by simp⟩
   ·exact⟨_,rfl,fun j u hj=>by rw [add0];exact hc j u hj⟩
  obtain⟨v',w',hrun,ho,hg,_⟩:=run_append_own (P:=P) w B t ty E i z i.size qp ht hi hz1 rfl hb' hzc hsz' (.slice oa n c) n xs hown ad m c2 news hl hcells h1 hlen hbytes hB
  rw [BK]at hg
  have hv : ∃pJ c',v' = .slice pJ (n+m) c':=by
   rcases ho.2 with ⟨h,h0⟩|⟨g,cap,cur,h,_⟩
   ·exact⟨none,0,by rw [h,h0]⟩
   ·exact⟨_,cap,h⟩
  obtain⟨pJ,c',rfl⟩:=hv
  exact oQ hrun (k pJ c' w' ho (grown_below hg hB fun k hk=>(hown.ge k hk).1) hg)
theorem aa0 {t E:TypeId}{sz qp n:Nat}{kl kc:IntKind}{l c:Int}{zs:List Value}
  (ht:P.underlying t=some (.slice E)) (hs:szB P E=some sz) (hby:qg P E=some qp) (hz:tu P E=some zs) (hzl:zs.length=sz) (hsz:Nat.ble 1 sz=true)
  (hl:l=n) (hc:c=n) (hbytes:qp*n<=140737488355328) (hn:n<=maxLen)
  (k : ∀w',w'=w.alloc (.cells (List.replicate n zs).flatten.toArray E)->rU w' w.heap.size (List.replicate n zs).flatten E->K (.slice (some ⟨w.heap.size,0,none⟩) n n) w') :
  nM P (Instr.makeSlice t (.int kl l) (.int kc c)) w K:=by
 subst hl;subst hc
 obtain⟨i,hi,rfl⟩:=pU hs
 have hb':i.bytes=qp:=by simpa [qg,hi]using hby
 subst hb'
 obtain⟨z,hz1,hz2⟩ : ∃z,i.zero=some z∧z.cells.toList=zs:=by
  unfold tu at hz
  simp only [hi,eU]at hz
  cases hzz:i.zero with
  | none=>simp [hzz]at hz
  | some z=>simp only [hzz,bD,aI]at hz;exact⟨z,rfl,hz⟩
 have hsz':1<=i.size:=aF hsz
 have hzc:z.cells.size=i.size:=aek
 have h63:(n:Int)<=9223372036854775807:=ajx
 have hbi:(i.bytes:Int)*(n:Int)<=281474976710656:=by
  rw [<-jR]
  omega
 have hrun:=run_make (P:=P) w t E i z ht hi hz1 kl kc n n aai aai hbi h63
 have hmc:madeCells z.cells (n*i.size)=(List.replicate n zs).flatten.toArray:=by
  rw [<-hz2, <-zN z.cells n i.size hzc hsz']
  unfold madeCells
  rfl
 simp only [dK]at hrun
 rw [hmc]at hrun
 exact oQ hrun (k _ rfl (by have:=rU.new w (List.replicate n zs).flatten.toArray E;simpa using this))
theorem tK {t E:TypeId}{sz n c h:Nat}{oa:Option Addr}{kh:IntKind}{hi:Int}(ht:P.underlying t=some (.slice E))(hs:szB P E=some sz)
  (he:hi=h) (hh:h<=n) (hc:n<=c) (k:K (.slice oa h c) w):nM P (Instr.sliceAt t (.slice oa n c) none (some (.int kh hi)) none) w K:=by
 refine oQ ?_ k
 subst he
 have h1:(0:Int)<=h∧(h:Int)<=c:=⟨by omega,by omega⟩
 unfold Instr.sliceAt
 rw [Sem.run_bind,l7 ht]
 simp only [Result.andThen_ok]
 unfold Instr.slice
 rw [Sem.run_bind,l7 ht]
 simp only [Result.andThen_ok,Instr.sliceBounds,Instr.sliceBound,asIntOf,Sem.run_bind,Sem.run_pure,if_pos h1,qx hs]
 congr 1
 cases oa with
 | none=>by_cases hc0:c=0<;>simp [hc0]
 | some a=>by_cases hc0:c=0<;>simp [hc0,Addr.add]
theorem Row.take {oa:Option Addr}{vs:List Value}(h:Row w oa vs)(n:Nat):Row w oa (vs.take n):=by
 rcases h with h|⟨b,o,he,hlt,hc⟩
 ·exact .inl (by simp [h])
 ·exact .inr ⟨b,o,he,hlt,fun j v hj=>hc j v (by rw [bH]at hj;split at hj;exact hj;cases hj)⟩
theorem Xa {src dst e:TypeId}{oa:Option Addr}{l:List UInt8}{n c:Nat}(hs:P.underlying src=some (.slice e))(he:P.underlying e=some (.int .u8))(hd:P.underlying dst=some .string)
  (hn:n=l.length) (hr:Row w oa (pI l)) (k:K (.string ⟨l.toArray⟩) w):nM P (convert src dst (.slice oa n c)) w K:=by
 subst hn
 rcases hr with h|⟨b,o,rfl,_,hc⟩
 ·have hl:l = []:=by simpa [pI]using h
  subst hl
  refine oQ ?_ k
  cases oa with
  | none=>have:=run_convert_bytes_nil (P:=P) w src e hs he 0 c dst hd;exact this
  | some a=>exact run_convert_bytes_back (P:=P) w src dst e a c [] hs he hd abb
 ·exact oQ (run_convert_bytes_back (P:=P) w src dst e _ c l hs he hd fun j hj=>by rw [add0];exact hc j _ (xw hj)) k
end
theorem DN (l:List UInt8) : ∀u∈pI l,u.oneCell'=true:=by
 intro u hu
 simp only [pI,dW]at hu
 obtain⟨x,_,rfl⟩:=hu
 rfl
theorem yx (a b:List UInt8):pI (a++b)=pI a++pI b:=by simp [pI]
end Go.Proofs.YtnandbihiceihaaGreatDoor.Vc
