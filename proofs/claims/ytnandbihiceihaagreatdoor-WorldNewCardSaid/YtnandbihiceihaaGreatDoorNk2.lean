/- Joined parts of the proof. The reckoner's soundness at regions that draw their order; code, loops, whole functions -/
import Derived.Test.YtnandbihiceihaaGreatDoorNk1
import Derived.Laws.AppendOwn
import Derived.Laws.OwnMore
import Derived.Laws.MakeOwn
import Derived.IntWalk
import Derived.Laws.IdiomStrings
import Derived.Laws.BytesArg
import Derived.Laws.Strings
set_option linter.unusedVariables false
set_option linter.unusedSimpArgs false
set_option maxRecDepth 100000
set_option maxHeartbeats 16000000
namespace Go.Proofs.YtnandbihiceihaaGreatDoor.Vc
open Go.RowKit
theorem MV {P:Program}{o:Oper}{ρ:jU}{w:World}{K:Value->World->Prop}(hp:wK o=true)(h:zO P true o ρ w K) :
  ∃v,(∀w',(execOp (mQ ρ) o).run P w' = .ok (.value v) w')∧K v w:=by
 unfold zO at h
 unfold wK at hp
 cases ho:o.op<;>simp only [ho]at h hp<;>try cases hp
 case move x=>rw [force_eq]at h;exact⟨_,fun w'=>by unfold execOp;simp [ho],h⟩
 case assign x=>rw [force_eq]at h;exact⟨_,fun w'=>by unfold execOp;simp [ho],h⟩
 case makeFunc fn first captured=>
  simp only [qJ,kK]at h
  exact⟨_,fun w'=>by unfold execOp;simp [ho,Instr.makeFunc,tN],h⟩
 case nilCheck x=>
  split at h
  ·rename_i p hp'
   exact⟨_,fun w'=>by unfold execOp;simp only [ho,hp'];rfl,h⟩
  ·cases h
 case extract t i=>
  split at h
  ·rename_i vs hv
   split at h
   ·rename_i v hi
    have hi':vs[i]? = some v:=by rw [<-hi];simp
    exact⟨_,fun w'=>by unfold execOp;simp only [ho,hv];exact pq (by simp [Instr.extract,hi']),h⟩
   ·cases h
  ·cases h
section
variable {P:Program}{N:Nat}{ds:List Deferred}{W:Nat->Bool}{ops:Array Oper}{K:jU->World->Prop}{jK:jU}{yN:Bool}
def RQ (N:Nat)(ds:List Deferred)(W:Nat->Bool)(jK:jU)(K:jU->World->Prop):Exit->Act->World->Prop
 | .normal,a,w=> ∃ρ',Fits N ds ρ' a∧Same W jK ρ'∧K ρ' w
 | _,_,_=>False
theorem sK {Q:Exit->Act->World->Prop}{i:Nat}{o:Oper}{ρ:jU}{a:Act}{w:World}{G:Act->World->Prop}{X6:jU->Value->World->Prop}{oz:jU->Prop}
  (hi:ops[i]? = some o) (hf:Fits N ds ρ a) (h:qx P false ops.toList o ρ w X6 oz)
  (h1 : ∀v w',X6 ρ v w'->G (a.put o.dst v) w') (h0:oz ρ->G (a.put o.dst undef) w):wpOp P ops Q i G a w:=by
 unfold Go.wpOp
 simp only [hi]
 rcases sH hf h with ⟨hw,hv⟩|⟨hw,hv⟩
 ·simp only [hw,if_true]
  exact .inl ((oM hv).wp hf.eval fun v w' hk=>h1 v w' hk)
 ·simp only [hw,aS,if_false]
  exact h0 hv
theorem E8 (hsel:Region.noSelect ops=true)(hok : ∀o∈ops.toList,nM N W o=true)(jL:World) :
  ∀(p:Plan) (S:World->Prop) (_:yN=true->∀w',S w'->w'=jL) (listed:Array Bool) (ρ:jU) (a:Act) (w:World),lM ops p listed=true->Down ops listed->Fits N ds ρ a->Same W jK ρ->S w->
   vD P ops.toList yN p S ρ w K->∀fuel,p.depth<=fuel->sJ P ops (RQ N ds W jK K) S fuel listed a w:=by
 have mem : ∀ {i:Nat} {o:Oper},ops.toList[i]? = some o->ops[i]? = some o∧nM N W o=true:=fun {i o} h=>
  ⟨by rw [<-aT];exact h,hok o (aO h)⟩
 have fin : ∀ {S:World->Prop} {listed:Array Bool} {ρ:jU} {a:Act} {w:World},Region.ready .any ops listed = []->Fits N ds ρ a->Same W jK ρ->K ρ w->
   ∀fuel,sJ P ops (RQ N ds W jK K) S fuel listed a w:=by
  intro S listed ρ a w hr hf hs h fuel
  cases fuel with
  | zero=>exact⟨hr,ρ,hf,hs,h⟩
  | succ n=>exact⟨fun _=>⟨ρ,hf,hs,h⟩,by rw [hr];simp⟩
 intro p
 induction p with
 | done=>
  intro S hS listed ρ a w hp hdn hf hs _ h fuel _
  exact fin (by simpa [lM]using hp) hf hs h fuel
 | take i p ih=>
  intro S hS listed ρ a w hp hdn hf hs hSw h fuel hfu
  simp only [lM,ah]at hp
  obtain⟨⟨⟨hq,hr⟩,hfree⟩,hp'⟩:=hp
  simp only [vD]at h
  split at h
  ·rename_i o xX
   obtain⟨hi,ho⟩:=mem xX
   simp only [hi]at hq
   cases fuel with
   | zero=>simp [Plan.depth]at hfu
   | succ fuel=>
    have xY:p.depth<=fuel:=aau
    have go : ∀v,YieldsIf P ops S o v a->vD P ops.toList yN p S (lG ρ o.dst v) w K->sJ P ops (RQ N ds W jK K) S (fuel+1) listed a w:=fun v hy hv=>
     Dz hi (Region.noSelect_spec hsel) (fun c a w hq=>hq) fuel listed a w (Region.free_spec hi hfree) hdn (by simpa using hr) hy hSw
      (ih S hS _ _ _ _ hp' (hdn.set (by simpa using hr)) (hf.put o.dst v (kX ho)) (hs.lG ho) hSw hv fuel xY)
    rcases sH hf h with ⟨hw,hv⟩|⟨hw,hv⟩
    ·obtain⟨v,hrun,hk⟩:=(oM hv).quiet hq
     cases hc:(yN||wK o)with
     | true=>
      rw [hc]at hk
      refine go v (.inl ⟨hw,fun w' hw'=> ?_⟩) hk
      rw [hf.eval]
      cases he:yN with
      | true=>
       have e1:=hS he w' hw'
       have e2:=hS he w hSw
       rw [e1, <-e2];exact hrun
      | false=>
       rw [he,iM]at hc
       obtain⟨u,hu,_⟩:=MV hc hv
       have:u=v:=by have:=hu w;rw [hrun]at this;injection this with h1 h2;injection h1 with h1;exact h1.symm
       subst this
       exact hu w'
     | false=>
      rw [hc]at hk
      refine go v (.inl ⟨hw,fun w' hw'=> ?_⟩) hk.go
      rw [hf.eval]
      obtain⟨u,hu,he⟩:=(oM (hk.req w' hw')).quiet hq
      rw [hu,he]
    ·exact go undef (.inr ⟨hw,rfl⟩) hv
  ·cases h
 | one i p ih=>
  intro S hS listed ρ a w hp hdn hf hs hSw h fuel hfu
  simp only [lM,ah,beq_iff_eq]at hp
  obtain⟨hr,hp'⟩:=hp
  simp only [vD]at h
  split at h
  ·rename_i o xX
   obtain⟨hi,ho⟩:=mem xX
   cases fuel with
   | zero=>simp [Plan.depth]at hfu
   | succ fuel=>
    have xY:p.depth<=fuel:=aau
    refine⟨fun e=>abl,fun j hj=> ?_⟩
    rw [hr]at hj
    simp only [bP]at hj
    subst hj
    have rW:=hdn.set (i:=j) abk
    exact sK hi hf h (fun v w' hk=>by
      obtain⟨S',h1,h2,h3⟩:=hk.ex
      exact⟨.inr (h1 _ h2),nX h1 _ _ _ _ (ih S' (fun he u hu=>hS he u (h1 u hu)) _ _ _ _ hp' rW (hf.put o.dst v (kX ho)) (hs.lG ho) h2 h3 fuel xY)⟩)
     (fun hk=>⟨.inr hSw,ih S hS _ _ _ _ hp' rW (hf.put o.dst undef (kX ho)) (hs.lG ho) hSw hk fuel xY⟩)
  ·cases h
 | two i p j r Qx ihr=>
  intro S hS listed ρ a w hp hdn hf hs hSw h fuel hfu
  simp only [lM,ah,beq_iff_eq]at hp
  obtain⟨⟨hr,hp'⟩,hr'⟩:=hp
  simp only [vD]at h
  split at h
  ·rename_i o o' xX hjo
   obtain⟨hi,ho⟩:=mem xX
   obtain⟨hj,ho'⟩:=mem hjo
   obtain⟨ha,hb⟩:=h
   cases fuel with
   | zero=>simp [Plan.depth]at hfu
   | succ fuel=>
    have DC:p.depth<=fuel:=aau
    have hfu2:r.depth<=fuel:=aau
    refine⟨fun e=>abl,fun k hk=> ?_⟩
    rw [hr]at hk
    simp only [bG,gX,or_false]at hk
    rcases hk with rfl|rfl
    ·have rW:=hdn.set (i:=k) abk
     exact sK hi hf ha (fun v w' hk=>by
       obtain⟨S',h1,h2,h3⟩:=hk.ex
       exact⟨.inr (h1 _ h2),nX h1 _ _ _ _ (Qx S' (fun he u hu=>hS he u (h1 u hu)) _ _ _ _ hp' rW (hf.put o.dst v (kX ho)) (hs.lG ho) h2 h3 fuel DC)⟩)
      (fun hk=>⟨.inr hSw,Qx S hS _ _ _ _ hp' rW (hf.put o.dst undef (kX ho)) (hs.lG ho) hSw hk fuel DC⟩)
    ·have rW:=hdn.set (i:=k) abk
     exact sK hj hf hb (fun v w' hk=>by
       obtain⟨S',h1,h2,h3⟩:=hk.ex
       exact⟨.inr (h1 _ h2),nX h1 _ _ _ _ (ihr S' (fun he u hu=>hS he u (h1 u hu)) _ _ _ _ hr' rW (hf.put o'.dst v (kX ho')) (hs.lG ho') h2 h3 fuel hfu2)⟩)
      (fun hk=>⟨.inr hSw,ihr S hS _ _ _ _ hr' rW (hf.put o'.dst undef (kX ho')) (hs.lG ho') hSw hk fuel hfu2⟩)
  ·cases h
 | three i p j r k q Qx ihr ZC=>
  intro S hS listed ρ a w hp hdn hf hs hSw h fuel hfu
  simp only [lM,ah,beq_iff_eq]at hp
  obtain⟨⟨⟨hr,hp'⟩,hr'⟩,hq'⟩:=hp
  simp only [vD]at h
  split at h
  ·rename_i o o' o'' xX hjo hko
   obtain⟨hi,ho⟩:=mem xX
   obtain⟨hj,ho'⟩:=mem hjo
   obtain⟨hk3,Qy⟩:=mem hko
   obtain⟨ha,hb,hc⟩:=h
   cases fuel with
   | zero=>simp [Plan.depth]at hfu
   | succ fuel=>
    have DC:p.depth<=fuel:=aau
    have hfu2:r.depth<=fuel:=aau
    have Qz:q.depth<=fuel:=aau
    refine⟨fun e=>abl,fun k hk=> ?_⟩
    rw [hr]at hk
    simp only [bG,gX,or_false]at hk
    rcases hk with rfl|rfl|rfl
    ·have rW:=hdn.set (i:=k) abk
     exact sK hi hf ha (fun v w' hk=>by
       obtain⟨S',h1,h2,h3⟩:=hk.ex
       exact⟨.inr (h1 _ h2),nX h1 _ _ _ _ (Qx S' (fun he u hu=>hS he u (h1 u hu)) _ _ _ _ hp' rW (hf.put o.dst v (kX ho)) (hs.lG ho) h2 h3 fuel DC)⟩)
      (fun hk=>⟨.inr hSw,Qx S hS _ _ _ _ hp' rW (hf.put o.dst undef (kX ho)) (hs.lG ho) hSw hk fuel DC⟩)
    ·have rW:=hdn.set (i:=k) abk
     exact sK hj hf hb (fun v w' hk=>by
       obtain⟨S',h1,h2,h3⟩:=hk.ex
       exact⟨.inr (h1 _ h2),nX h1 _ _ _ _ (ihr S' (fun he u hu=>hS he u (h1 u hu)) _ _ _ _ hr' rW (hf.put o'.dst v (kX ho')) (hs.lG ho') h2 h3 fuel hfu2)⟩)
      (fun hk=>⟨.inr hSw,ihr S hS _ _ _ _ hr' rW (hf.put o'.dst undef (kX ho')) (hs.lG ho') hSw hk fuel hfu2⟩)
    ·have rW:=hdn.set (i:=k) abk
     exact sK hk3 hf hc (fun v w' hk=>by
       obtain⟨S',h1,h2,h3⟩:=hk.ex
       exact⟨.inr (h1 _ h2),nX h1 _ _ _ _ (ZC S' (fun he u hu=>hS he u (h1 u hu)) _ _ _ _ hq' rW (hf.put o''.dst v (kX Qy)) (hs.lG Qy) h2 h3 fuel Qz)⟩)
      (fun hk=>⟨.inr hSw,ZC S hS _ _ _ _ hq' rW (hf.put o''.dst undef (kX Qy)) (hs.lG Qy) hSw hk fuel Qz⟩)
  ·cases h
 | sink i=>
  intro S hS listed ρ a w hp hdn hf hs hSw h fuel hfu
  simp only [lM,ah,beq_iff_eq]at hp
  obtain⟨⟨hr,hsk⟩,he⟩:=hp
  simp only [vD]at h
  split at h
  ·rename_i o xX
   obtain⟨hi,ho⟩:=mem xX
   cases fuel with
   | zero=>simp [Plan.depth]at hfu
   | succ fuel=>
    refine⟨fun e=>abl,fun j hj=> ?_⟩
    rw [hr]at hj
    simp only [bP]at hj
    subst hj
    have he':Region.ready .any ops (listed.setIfInBounds j true) = []:=by simpa using he
    exact sK hi hf h (fun v w' hk=>⟨.inl hsk,fin he' (hf.put o.dst v (kX ho)) (hs.lG ho) hk fuel⟩)
     (fun hk=>⟨.inl hsk,fin he' (hf.put o.dst undef (kX ho)) (hs.lG ho) hk fuel⟩)
  ·cases h
 | post i p ih=>intro S hS listed ρ a w hp hdn hf hs hSw h;exact(show False from h).elim
end
structure vF (P:Program)(id:Nat)(ops:Array Oper)(K:jU->World->Prop)(ρ:jU)(w:World):Prop where
 ex : ∃(p:Plan) (yN:Bool) (S:World->Prop),rO ops p=true∧(yN=true->∀w',S w'->w'=w.drew)∧S w.drew∧vD P ops.toList yN p S ρ w.drew K
theorem X7 {P:Program}{id:Nat}{ops:Array Oper}{K:jU->World->Prop}{ρ:jU}{w:World}(p:Plan)(hp:rO ops p=true)
  (h:vD P ops.toList true p (fun w'=>w'=w.drew) ρ w.drew K):vF P id ops K ρ w:=
 ⟨p,true,_,hp,fun _ _ e=>e,rfl,h⟩
theorem mJ {P:Program}{id:Nat}{ops:Array Oper}{K:jU->World->Prop}{ρ:jU}{w:World}(pl:Nat->Plan)(hp:rO ops (pl id)=true)
  (h:vD P ops.toList true (pl id) (fun w'=>w'=w.drew) ρ w.drew K):vF P id ops K ρ w:=X7 (pl id) hp h
theorem qK (m j:Nat):(Array.replicate m false).getD j false=false:=by
 rw [dZ]
 by_cases h:j<m<;>simp [h]
theorem vF.sound {P:Program}{id:Nat}{N:Nat}{ds:List Deferred}{W:Nat->Bool}{ops:Array Oper}{K:jU->World->Prop}{ρ jK:jU}{a:Act}{w:World}
  (hm:P.follows .mixedOrders=true) (hok : ∀o∈ops.toList,nM N W o=true) (hf:Fits N ds ρ a) (hs:Same W jK ρ) (h:vF P id ops K ρ w) :
  (Code.region id ops true).wp P (RQ N ds W jK K) a w:=by
 obtain⟨p,yN,S,hd,he,hS,hv⟩:=h.ex
 simp only [rO,ah]at hd
 obtain⟨⟨hsel,xZ⟩,hp⟩:=hd
 exact wp_region_any hm (vN _ _ _ _ (E8 hsel hok w.drew p S he _ ρ a w.drew hp (fun j o _ hl=>by rw [qK]at hl;cases hl) hf hs hS hv ops.size (ak xZ)))
inductive Ex where
 | normal
 | exit (id:Nat)
 | ret
def mV (N:Nat)(W:Nat->Bool):Code->Bool
 | .region _ ops _=>ops.toList.all (nM N W)
 | .seq a b=>mV N W a&&mV N W b
 | .cond _ a b=>mV N W a&&mV N W b
 | .block _ b=>mV N W b
 | .loop b=>mV N W b
 | .skip | .exit _ | .ret=>true
 | _=>false
def QA (W:Nat->Bool)(o:Oper):Bool:=match o.dst with|some d=>W d|none=>true
def writesIn (W:Nat->Bool):Code->Bool
 | .region _ ops _=>ops.toList.all (QA W)
 | .seq a b=>writesIn W a&&writesIn W b
 | .cond _ a b=>writesIn W a&&writesIn W b
 | .block _ b=>writesIn W b
 | .loop b=>writesIn W b
 | .skip | .exit _ | .ret | .label _=>true
 | .rangeFunc _ _ _ _=>true
 | .scope b=>writesIn W b
 | _=>false
theorem DF {N:Nat}{W ws:Nat->Bool} : ∀c:Code,mV N W c=true->writesIn ws c=true->mV N (fun k=>W k&&ws k) c=true:=by
 intro c
 induction c with
 | region id ops d=>
  intro h1 h2
  simp only [mV,writesIn,bf]at *
  intro o ho
  have a1:=h1 o ho
  have a2:=h2 o ho
  unfold nM at *
  unfold QA at a2
  cases hd:o.dst with
  | none=>rfl
  | some d=>simp only [hd,ah]at a1 a2 ⊢;exact⟨a1.1,a1.2,a2⟩
 | seq a b iha ihb=>intro h1 h2;simp only [mV,writesIn,ah]at *;exact⟨iha h1.1 h2.1,ihb h1.2 h2.2⟩
 | cond c a b iha ihb=>intro h1 h2;simp only [mV,writesIn,ah]at *;exact⟨iha h1.1 h2.1,ihb h1.2 h2.2⟩
 | block id b ih=>intro h1 h2;simp only [mV,writesIn]at *;exact ih h1 h2
 | loop b ih=>intro h1 h2;simp only [mV,writesIn]at *;exact ih h1 h2
 | skip=>intro _ _;rfl
 | exit id=>intro _ _;rfl
 | ret=>intro _ _;rfl
 | _=>intro h1 _;simp [mV]at h1
def X8 (V:(Ex->jU->World->Prop)->jU->World->Prop)(Q:Ex->jU->World->Prop)(e:Ex)(ρ:jU)(w:World):Prop:=
 match e with
 | .normal=>V Q ρ w
 | .exit id=>Q (.exit id) ρ w
 | .ret=>Q .ret ρ w
def QB (id:Nat)(Q:Ex->jU->World->Prop)(e:Ex)(ρ:jU)(w:World):Prop:=
 match e with
 | .normal=>Q .normal ρ w
 | .exit j=>Q (bif Nat.beq j id then .normal else .exit j) ρ w
 | .ret=>Q .ret ρ w
def UR (R:jU->World->Prop)(Q:Ex->jU->World->Prop)(e:Ex)(ρ:jU)(w:World):Prop:=
 match e with
 | .normal=>R ρ w
 | .exit id=>Q (.exit id) ρ w
 | .ret=>Q .ret ρ w
structure nU (p:Prop):Prop where
 holds:p
structure MW (body:Code)(B:(Ex->jU->World->Prop)->jU->World->Prop)(Q:Ex->jU->World->Prop)(ρ:jU)(w:World):Prop where
 ex : ∃(ws:Nat->Bool) (I:Nat->jU->World->Prop) (n:Nat),writesIn ws body=true∧I n ρ w∧
  ∀n ρ' w',I n ρ' w'->Same ws ρ ρ'->B (UR (fun lZ w''=>nU (∃m,m<n∧I m lZ w'')) Q) ρ' w'
def vC (P:Program)(c:Code)(Q:Ex->jU->World->Prop)(ρ:jU)(w:World):Prop:=
 match c with
 | .skip=>Q .normal ρ w
 | .region id ops draw=>(match draw with
  | false=>MR P ops.toList ops.toList ρ w (Q .normal)
  | true=>vF P id ops (Q .normal) ρ w)
 | .seq a b=>vC P a (X8 (vC P b) Q) ρ w
 | .cond c t e=>(match mQ ρ c with
  | .bool b=>BO b (vC P t Q ρ w) (vC P e Q ρ w)
  | _=>False)
 | .block id body=>vC P body (QB id Q) ρ w
 | .loop body=>MW body (vC P body) Q ρ w
 | .exit id=>Q (.exit id) ρ w
 | .ret=>Q .ret ρ w
 | _=>False
def CQ (N:Nat)(ds:List Deferred)(W:Nat->Bool)(jK:jU)(Q:Ex->jU->World->Prop):Exit->Act->World->Prop
 | .normal,a,w=> ∃ρ',Fits N ds ρ' a∧Same W jK ρ'∧Q .normal ρ' w
 | .exit id,a,w=> ∃ρ',Fits N ds ρ' a∧Same W jK ρ'∧Q (.exit id) ρ' w
 | .ret,a,w=> ∃ρ',Fits N ds ρ' a∧Same W jK ρ'∧Q .ret ρ' w
 | _,_,_=>False
theorem vO {P:Program}{c:Code}{Q:Exit->Act->World->Prop}{a:Act}{w:World}(I:Nat->Act->World->Prop)(n:Nat)(EP:I n a w)
  (round : ∀n a w,I n a w->c.wp P (Exit.then (fun a' w'=> ∃m,m<n∧I m a' w') Q) a w):(Code.loop c).wp P Q a w:=by
 intro b k cs
 have key : ∀n a w,I n a w->∃e a' w',Q e a' w'∧Arrives P (lone (b.at a (.code c:: .inLoop c::k)) cs w) b k cs e a' w':=by
  intro n
  induction n using Nat.strongRecOn with
  | _ n ih=>
   intro a w hI
   obtain⟨e,wI,tK,hq,harr⟩:=round n a w hI b (.inLoop c::k) cs
   cases e with
   | normal=>
    obtain⟨m,hlt,hI₁⟩:=hq
    obtain⟨XJ,XK,zl,hq₂,harr₂⟩:=ih m hlt wI tK hI₁
    exact⟨XJ,XK,zl,hq₂, .of_steps (Steps.trans harr (.one step_inLoop)) harr₂⟩
   | exit id=>exact⟨_,wI,tK,hq, .pass (x:= .inLoop c) rfl (fun _ _=> .inl aaA) harr⟩
   | goto l=>exact⟨_,wI,tK,hq, .pass (x:= .inLoop c) rfl (fun _ _=> .inl aaA) harr⟩
   | ret=>exact⟨_,wI,tK,hq, .pass (x:= .inLoop c) rfl (fun _ _=> .inl aaA) harr⟩
   | panic ch=>exact⟨_,wI,tK,hq, .pass (x:= .inLoop c) rfl (fun _ _=> .inl aaA) harr⟩
   | outgrown=>exact⟨_,wI,tK,hq, .pass (x:= .inLoop c) rfl (fun _ _=> .inl aaA) harr⟩
 obtain⟨e,a',w',hq,harr⟩:=key n a w EP
 exact⟨e,a',w',hq, .of_steps (.one step_loop) harr⟩
theorem Same.trans {W:Nat->Bool}{a b c:jU}(h:Same W a b)(k:Same W b c):Same W a c:=fun n hn=>(k n hn).trans (h n hn)
theorem Same.refl (W:Nat->Bool)(a:jU):Same W a a:=fun _ _=>rfl
theorem MX {P:Program}(hm:P.follows .mixedOrders=true){N:Nat}{ds:List Deferred} : ∀(c:Code) (W:Nat->Bool) (Q:Ex->jU->World->Prop) (ρ jK:jU) (a:Act) (w:World),
  mV N W c=true->Fits N ds ρ a->Same W jK ρ->vC P c Q ρ w->c.wp P (CQ N ds W jK Q) a w:=by
 intro c
 induction c with
 | skip=>intro W Q ρ jK a w _ hf hs h;exact wp_skip ⟨ρ,hf,hs,h⟩
 | region id ops draw=>
  intro W Q ρ jK a w hc hf hs h
  have hok : ∀o∈ops.toList,nM N W o=true:=by simpa only [mV,bf]using hc
  have mono : ∀e a w,RQ N ds W jK (Q .normal) e a w->CQ N ds W jK Q e a w:=fun e a w hq=>aa8
  cases draw with
  | false=>
   refine Go.wp_mono (wp_region ?_) mono
   have hlen:ops.toList.length=ops.size:=aaA
   rw [gV, <-hlen]
   exact Ig (K:=Q .normal) (Q:=RQ N ds W jK (Q .normal)) (fun ρ' a' w' hf' hs' hk=>⟨ρ',hf',hs',hk⟩) ops.toList 0 ρ a w (fun j=>by rw [aJ]) hok hf hs h
  | true=>exact Go.wp_mono (vF.sound hm hok hf hs h) mono
 | seq x y Vo ihy=>
  intro W Q ρ jK a w hc hf hs h
  simp only [mV,ah]at hc
  refine wp_seq (Go.wp_mono (Vo W _ ρ jK a w hc.1 hf hs h) fun e a' w' hq=> ?_)
  cases e with
  | normal=>
   obtain⟨ρ',hf',hs',hv⟩:=hq
   exact ihy W Q ρ' jK a' w' hc.2 hf' hs' hv
  | exit id=>exact hq
  | ret=>exact hq
  | goto l=>exact hq
  | panic ch=>exact hq
  | outgrown=>exact hq
 | cond c x y Vo ihy=>
  intro W Q ρ jK a w hc hf hs h
  simp only [mV,ah]at hc
  simp only [vC]at h
  split at h
  ·rename_i b hb
   refine wp_cond (t:=b) (by rw [hf.eval];exact hb) ?_
   cases b with
   | true=>exact Vo W Q ρ jK a w hc.1 hf hs h
   | false=>exact ihy W Q ρ jK a w hc.2 hf hs h
  ·cases h
 | block id b ih=>
  intro W Q ρ jK a w hc hf hs h
  refine wp_block (Go.wp_mono (ih W _ ρ jK a w hc hf hs h) fun e a' w' hq=> ?_)
  cases e with
  | normal=>exact hq
  | exit j=>
   obtain⟨ρ',hf',hs',hv⟩:=hq
   simp only [QB]at hv
   simp only [Exit.inBlock]
   by_cases hj:j=id
   ·subst hj
    rw [fU,cond_true]at hv
    simp only [if_true]
    exact⟨ρ',hf',hs',hv⟩
   ·have hb:Nat.beq j id=false:=by
     cases hb:Nat.beq j id with
     | false=>rfl
     | true=>exact absurd (aj hb) hj
    rw [hb,cond_false]at hv
    rw [if_neg hj]
    exact⟨ρ',hf',hs',hv⟩
  | ret=>exact hq
  | goto l=>exact hq
  | panic ch=>exact hq
  | outgrown=>exact hq
 | loop b ih=>
  intro W Q ρ jK a w hc hf hs h
  obtain⟨ws,I,n,hw,EP,hr⟩:=h.ex
  have hc':=DF b hc hw
  refine vO (fun n a' w'=> ∃ρ',I n ρ' w'∧Fits N ds ρ' a'∧Same (fun k=>W k&&ws k) ρ ρ') n ⟨ρ,EP,hf,Same.refl _ _⟩ fun n a' w' ⟨ρ',hI,hf',hs'⟩=> ?_
  have hsw:Same ws ρ ρ':=fun k hk=>hs' k abh
  refine Go.wp_mono (ih (fun k=>W k&&ws k) _ ρ' ρ a' w' hc' hf' hs' (hr n ρ' w' hI hsw)) fun e a'' w'' hq=> ?_
  have up : ∀ {lZ},Same (fun k=>W k&&ws k) ρ lZ->Same W jK lZ:=fun h'=>hs.trans fun k hk=>h' k abh
  cases e with
  | normal=>
   obtain⟨lZ,qL,qM,⟨m,hlt,hI'⟩⟩:=hq
   exact⟨m,hlt,lZ,hI',qL,qM⟩
  | exit id=>obtain⟨lZ,qL,qM,hv⟩:=hq;exact⟨lZ,qL,up qM,hv⟩
  | ret=>obtain⟨lZ,qL,qM,hv⟩:=hq;exact⟨lZ,qL,up qM,hv⟩
  | goto l=>exact hq
  | panic ch=>exact hq
  | outgrown=>exact hq
 | exit id=>intro W Q ρ jK a w _ hf hs h;exact Go.wp_exit ⟨ρ,hf,hs,h⟩
 | ret=>intro W Q ρ jK a w _ hf hs h;exact Go.wp_ret ⟨ρ,hf,hs,h⟩
 | _=>intro W Q ρ jK a w hc;simp [mV]at hc
structure nP (p:Prop):Prop where
 holds:p
def zV (P:Program)(rs:List ResultVar)(ρ:jU)(w:World)(k:List Value->Prop):Prop:=
 match rs with
 | []=>k []
 | .tmp t::r=>force (ρ t) fun v=>zV P r ρ w fun vs=>k (v::vs)
 | .cell a t::r=>(match ρ a with
  | .pointer (some a)=>kG P (loadVar t a) w (wr true w fun v _=>zV P r ρ w fun vs=>k (v::vs))
  | _=>False)
def kZ (vs:List Value):Value:=match vs with | [v]=>v|vs=> .tuple vs.toArray
def fin (P:Program)(fn:Func)(R:Value->World->Prop)(e:Ex)(ρ:jU)(w:World):Prop:=
 match e with
 | .normal=>zV P fn.results.toList ρ w fun vs=>nP (R (kZ vs) w)
 | .ret=>zV P fn.results.toList ρ w fun vs=>nP (R (kZ vs) w)
 | .exit _=>False
def nth (l:List Value)(n:Nat):Value:=
 match l,n with
 | [],_=>undef
 | v::_,0=>v
 | _::r,n+1=>nth r n
def oO (args:Array Value):jU:=fun n=>nth args.toList n
theorem wM (l:List Value) : ∀n,nth l n=l.getD n undef:=by
 induction l with
 | nil=>intro n;simp [nth]
 | cons v r ih=>intro n;cases n with
  | zero=>simp [nth]
  | succ n=>simp [nth,ih]
def CP (tmps:Array Value)(r:ResultVar):Sem Value:=
 match r with
 | .tmp t=>pure (tmps.getD t undef)
 | .cell a t=>do loadVar t (<-asAddr (tmps.getD a undef))
theorem sN (fn:Func)(tmps:Array Value):results fn tmps=(do
  let vs <-fn.results.mapM (CP tmps)
  pure (if h:vs.size=1 then vs[0]else .tuple vs)):=by
 unfold results
 rfl
theorem zW {P:Program}{w:World}{ρ:jU}{tmps:Array Value}(hg : ∀t,tmps.getD t undef=ρ t) : ∀(rs:List ResultVar) (k:List Value->Prop),
  zV P rs ρ w k->∃vs,(rs.mapM (CP tmps)).run P w = .ok vs w∧k vs:=by
 intro rs
 induction rs with
 | nil=>intro k h;exact⟨[],by simp,h⟩
 | cons r rs ih=>
  intro k h
  cases r with
  | tmp t=>
   simp only [zV,force_eq]at h
   obtain⟨vs,hr,hk⟩:=ih _ h
   refine⟨_, ?_,hk⟩
   have h1:(CP tmps (.tmp t)).run P w = .ok (ρ t) w:=by simp only [CP,hg];rfl
   rw [List.mapM_cons,Sem.run_bind,h1]
   simp only [Result.andThen_ok,Sem.run_bind,hr,Sem.run_pure]
  | cell a t=>
   simp only [zV]at h
   split at h
   ·rename_i p hp
    obtain⟨v,hv,hk⟩:=h.same
    obtain⟨vs,hr,hk⟩:=ih _ hk
    refine⟨_, ?_,hk⟩
    have h1:(CP tmps (.cell a t)).run P w = .ok v w:=by
     simp only [CP,hg,hp,Sem.run_bind]
     have h2:(asAddr (Value.pointer (some p))).run P w = .ok p w:=rfl
     rw [h2,Result.andThen_ok,hv]
    rw [List.mapM_cons,Sem.run_bind,h1]
    simp only [Result.andThen_ok,Sem.run_bind,hr,Sem.run_pure]
   ·cases h
theorem Fa {P:Program}{f:FuncId}{fn:Func}{c:Code}{args:Array Value}{w:World}{R:Value->World->Prop}
  (hf:P.funcs[f]? = some fn) (hb:fn.body=some c) (hm:P.follows .mixedOrders=true) (hN:args.size<=fn.ntmps) (hok:mV fn.ntmps (fun _=>true) c=true)
  (h:vC P c (fin P fn R) (oO args) w):Calls P f args w fun e w'=> ∃v,e = .returned v∧R v w':=by
 refine calls_of_wp hf hb ?_
 have hfit:Fits fn.ntmps [] (oO args) {tmps:=args++Array.replicate (fn.ntmps-args.size) undef,defers:= []}:=by
  refine⟨by simp;omega,fun t=> ?_,rfl⟩
  simp only [oO,wM]
  rw [dZ,aV,gJ]
  by_cases ht:t<args.size
  ·simp [ht]
  ·simp only [ht,if_false,aT]
   rw [dP (jk ht)]
   by_cases h2:t-args.size<fn.ntmps-args.size
   ·simp [h2]
   ·simp [h2]
 refine Go.wp_mono (MX hm c (fun _=>true) _ _ _ _ w hok hfit (Same.refl _ _) h) fun e a' w' hq=> ?_
 have res : ∀ {ρ':jU},Fits fn.ntmps [] ρ' a'->(zV P fn.results.toList ρ' w' fun vs=>nP (R (kZ vs) w'))->
   a'.defers = []∧∃v,(results fn a'.tmps).run P w' = .ok v w'∧∃u,Ending.returned v = .returned u∧R u w':=by
  intro ρ' hf' hv
  obtain⟨vs,hr,hk⟩:=zW hf'.get _ _ hv
  refine⟨hf'.defers,kZ vs, ?_,kZ vs,rfl,hk.holds⟩
  rw [sN,Sem.run_bind,gZ,Sem.run_map]
  rw [hr]
  simp only [Result.andThen_ok,Sem.run_pure]
  congr 1
  match vs with
  | []=>rfl
  | [v]=>rfl
  | v::u::r=>simp [kZ]
 cases e with
 | normal=>obtain⟨ρ',hf',_,hv⟩:=hq;exact res hf' hv
 | ret=>obtain⟨ρ',hf',_,hv⟩:=hq;exact res hf' hv
 | exit id=>obtain⟨ρ',hf',_,hv⟩:=hq;exact hv.elim
 | goto l=>exact hq.elim
 | panic ch=>exact hq.elim
 | outgrown=>exact hq.elim
def look (l:List (Nat×Value))(n:Nat):Option Value:=
 match l with
 | []=>none
 | p::r=>bif Nat.beq n p.1 then some p.2 else look r n
def uV (l:List (Nat×Nat))(n:Nat):Bool:=
 match l with
 | []=>false
 | p::r=>bif Nat.ble p.1 n&&Nat.ble n p.2 then true else uV r n
def ZV (sl:List (Nat×Value))(ws:List (Nat×Nat))(j ρ:jU):jU:=fun n=>
 match look sl n with
 | some v=>v
 | none=>bif uV ws n then j n else ρ n
def hold (sl:List (Nat×Value))(ρ:jU):Prop:=
 match sl with
 | []=>True
 | p::r=>ρ p.1=p.2∧hold r ρ
theorem KL {sl:List (Nat×Value)}{ρ:jU}{n:Nat}{v:Value}(h:hold sl ρ)(hl:look sl n=some v):ρ n=v:=by
 induction sl with
 | nil=>cases hl
 | cons p r ih=>
  simp only [look]at hl
  cases hb:Nat.beq n p.1 with
  | true=>
   rw [hb,cond_true]at hl
   rw [aj hb]
   injection hl with hl
   rw [<-hl]
   exact h.1
  | false=>rw [hb,cond_false]at hl;exact ih h.2 hl
theorem Vp {sl:List (Nat×Value)}{ws:List (Nat×Nat)}{ρ ρ':jU}(h:hold sl ρ')(hs:Same (uV ws) ρ ρ'):ρ'=ZV sl ws ρ' ρ:=by
 funext n
 unfold ZV
 cases hl:look sl n with
 | some v=>exact KL h hl
 | none=>
  cases hm:uV ws n with
  | true=>rfl
  | false=>exact hs n hm
theorem oG {X:Type}{body:Code}{B:(Ex->jU->World->Prop)->jU->World->Prop}{Q:Ex->jU->World->Prop}{ρ:jU}{w:World}
  (ws:List (Nat×Nat)) (sl:X->List (Nat×Value)) (J:X->World->Prop) (μ:X->Nat) (wJ:X)
  (hw:writesIn (uV ws) body=true) (EP:hold (sl wJ) ρ) (hJ:J wJ w)
  (hr : ∀x w' j,J x w'->B (UR (fun lZ w''=>nU (∃m,m<μ x∧∃x',μ x'=m∧hold (sl x') lZ∧J x' w'')) Q) (ZV (sl x) ws j ρ) w') :
  MW body B Q ρ w:=
 ⟨uV ws,fun n ρ' w'=> ∃x,μ x=n∧hold (sl x) ρ'∧J x w',μ wJ,hw,⟨wJ,rfl,EP,hJ⟩,fun n ρ' w' ⟨x,hx,hh,hJ'⟩ hs=>by
  subst hx
  have h1:=hr x w' ρ' hJ'
  rw [<-Vp hh hs]at h1
  exact h1⟩
structure Only (b:Nat)(w w':World):Prop where
 os:w'.os=w.os
 tape:w'.tape=w.tape
 output:w'.output=w.output
 size:w'.heap.size=w.heap.size
 block : ∀k,k≠b->w'.heap[k]? = w.heap[k]?
theorem Only.refl (b:Nat)(w:World):Only b w w:=⟨rfl,rfl,rfl,rfl,fun _ _=>rfl⟩
theorem Only.trans {b:Nat}{u v w:World}(h:Only b u v)(k:Only b v w):Only b u w:=
 ⟨k.os.trans h.os,k.tape.trans h.tape,k.output.trans h.output,k.size.trans h.size,fun i hi=>(k.block i hi).trans (h.block i hi)⟩
theorem Only.drew {b:Nat}{u v:World}(h:Only b u v):Only b u v.drew:=⟨h.os,h.tape,h.output,h.size,h.block⟩
theorem Only.Ik {b:Nat}{u v:World}(h:Only b u.drew v):Only b u v:=⟨h.os,h.tape,h.output,h.size,h.block⟩
theorem Only.step {b:Nat}{u v w:World}(k:Only b u.drew v)(h:Only b w u):Only b w v:=h.trans k.Ik
theorem Only.UU {b:Nat}{u v w:World}(k:Only b u v)(h:Only b w u):Only b w v:=h.trans k
theorem Only.below {b B:Nat}{w w':World}(h:Only b w w')(hB:B<=b):Below B w w':=
 ⟨h.os,h.tape,h.output,iD h.size.symm,fun k hk=>h.block k aad⟩
theorem Below.Ik {B:Nat}{u v:World}(h:Below B u.drew v):Below B u v:=⟨h.os,h.tape,h.output,h.size,h.block⟩
theorem CU {B:Nat}{u v:World}(h:Below B u v):Below B u v.drew:=⟨h.os,h.tape,h.output,h.size,h.block⟩
structure Quiet (w w':World):Prop where
 os:w'.os=w.os
 tape:w'.tape=w.tape
 output:w'.output=w.output
 heap:w'.heap=w.heap
theorem Quiet.refl (w:World):Quiet w w:=⟨rfl,rfl,rfl,rfl⟩
theorem Quiet.trans {a b c:World}(h:Quiet a b)(k:Quiet b c):Quiet a c:=⟨k.os.trans h.os,k.tape.trans h.tape,k.output.trans h.output,k.heap.trans h.heap⟩
theorem Quiet.drew {a b:World}(h:Quiet a b):Quiet a b.drew:=⟨h.os,h.tape,h.output,h.heap⟩
theorem Quiet.below {a b:World}(h:Quiet a b)(B:Nat):Below B a b:=⟨h.os,h.tape,h.output,by rw [h.heap];exact ay _,fun k _=>by rw [h.heap]⟩
theorem Quiet.only {a b:World}(h:Quiet a b)(B:Nat):Only B a b:=⟨h.os,h.tape,h.output,by rw [h.heap],fun k _=>by rw [h.heap]⟩
def oH (w:World)(b:Nat)(l:List Value)(t:TypeId):Prop:=w.heap[b]? = some (.cells l.toArray t (0,0))
theorem oH.lt {w:World}{b:Nat}{l:List Value}{t:TypeId}(h:oH w b l t):b<w.heap.size:=(bM.1 h).1
theorem oH.cell {w:World}{b:Nat}{l:List Value}{t:TypeId}(h:oH w b l t)(o:Nat):w.cell? ⟨b,o,none⟩=l[o]? :=by
 have h':w.heap[b]? = some (.cells l.toArray t (0,0)):=h
 simp [World.cell?,h']
theorem oH.only {w w':World}{b c:Nat}{l:List Value}{t:TypeId}(h:oH w b l t)(ho:Only c w w')(hne:b≠c):oH w' b l t:=(ho.block b hne).trans h
theorem oH.below {w w':World}{b B:Nat}{l:List Value}{t:TypeId}(h:oH w b l t)(hb:Below B w w')(hlt:b<B):oH w' b l t:=(hb.block b hlt).trans h
theorem oH.quiet {w w':World}{b:Nat}{l:List Value}{t:TypeId}(h:oH w b l t)(hq:Quiet w w'):oH w' b l t:=by
 unfold oH at *;rw [hq.heap];exact h
theorem oH.new (w:World)(cs:Array Value)(t:TypeId):oH (w.alloc (.cells cs t)) w.heap.size cs.toList t:=by
 unfold oH
 rw [heap_alloc_new w]
theorem oH.alloc {w:World}{b:Nat}{l:List Value}{t:TypeId}(h:oH w b l t)(o:Obj):oH (w.alloc o) b l t:=
 (heap_alloc_old w o b h.lt).trans h
def uD (P:Program)(f:FuncId)(args:Array Value)(w:World)(R:Value->World->Prop):Prop:=Calls P f args w fun e w'=> ∃v,e = .returned v∧R v w'
theorem uD.mono {P:Program}{f:FuncId}{args:Array Value}{w:World}{R R':Value->World->Prop}(h:uD P f args w R)(k : ∀v w',R v w'->R' v w'):uD P f args w R':=
 Calls.mono h fun _ _ ⟨v,he,hr⟩=>⟨v,he,k _ _ hr⟩
theorem kL {P:Program}{f:FuncId}{fn:Func}{c:Code}{args:Array Value}{w:World}{R:Value->World->Prop}
  (hf:P.funcs[f]? = some fn) (hb:fn.body=some c) (hm:P.follows .mixedOrders=true) (hok:(Nat.ble args.size fn.ntmps&&mV fn.ntmps (fun _=>true) c)=true)
  (h:vC P c (fin P fn R) (oO args) w):uD P f args w R:=by
 simp only [ah]at hok
 exact Fa hf hb hm (ak hok.1) hok.2 h
theorem lW {P:Program}{f:FuncId}{args:Array Value}{w:World}{K:Value->World->Prop}{R:Value->World->Prop}(hc:callable P f=true)(h:uD P f args w R)
  (k : ∀v w',R v w'->K v w'):MI P f args w K:=⟨.inl ⟨hc,h.mono k⟩⟩
theorem mX {k:IntKind}{a b:Int}(h:a=b):Value.int k a=Value.int k b:=by rw [h]
theorem incr {i:Nat}(h:i<9223372036854775807):IntKind.i64.wrap ((i:Int)+1)=((i+1:Nat):Int):=by
 rw [IntWalk.i64_in _ aad]
 rfl
def szB (P:Program)(t:TypeId):Option Nat:=(P.info? t).map (·.size)
theorem lY {P:Program}{t:TypeId}{n:Nat}(h:szB P t=some n) : ∃i,P.info? t=some i∧i.size=n:=by
 unfold szB at h
 cases hi:P.info? t with
 | none=>simp [hi]at h
 | some i=>simp only [hi,bn,aA]at h;exact⟨i,rfl,h⟩
theorem mM {P:Program}{t:TypeId}{n:Nat}{w:World}(h:szB P t=some n):(sizeOf t).run P w = .ok n w:=by
 obtain⟨i,hi,rfl⟩:=lY h
 simp [sizeOf,oK hi]
theorem lJ {P:Program}{s:Sem Value}{w w':World}{v:Value}{K:Value->World->Prop}(h:s.run P w = .ok v w')(k:K v w'):kG P s w K:=⟨v,w',h,k⟩
theorem add0 (b o n:Nat):(⟨b,o,none⟩:Addr).add n=⟨b,o+n,none⟩:=by unfold Addr.add;split<;>simp_all
section
variable {P:Program}{w:World}{K:Value->World->Prop}
theorem lH {t:TypeId}{a:Addr}{v:Value}(ha:tJ P t=some false)(h:w.cell? a=some v)(k:K v w):kG P (loadVar t a) w K:=by
 refine lJ ?_ k
 unfold loadVar
 rw [Sem.run_bind,ou ha]
 simp [h]
theorem jZ {t T:TypeId}{b o:Nat}{l:List Value}{v:Value}(ha:tJ P t=some false)(hb:oH w b l T)(hv:l[o]? = some v)(k:K v w):kG P (loadVar t ⟨b,o,none⟩) w K:=
 lH ha (by rw [hb.cell];exact hv) k
theorem run_loadCellsFrom (a:Addr) : ∀(l:List Value) (i:Nat) (acc:Array Value),(∀j v,l[j]? = some v->w.cell? (a.add (i+j))=some v)->
  (loadCellsFrom a i l.length acc).run P w = .ok (acc++l.toArray) w:=by
 intro l
 induction l with
 | nil=>intro i acc _;simp [loadCellsFrom]
 | cons v r ih=>
  intro i acc h
  have h0:=h 0 v rfl
  simp only [bU]at h0
  simp only [aZ,loadCellsFrom,Sem.run_bind,run_load,h0,Result.andThen_ok]
  rw [ih (i+1) _ (fun j u hj=>by have:=h (j+1) u (by simpa using hj);rw [show i+1+j=i+(j+1) by omega];exact this)]
  simp
theorem Fe {t:TypeId}{a:Addr}{l:List Value}(ha:tJ P t=some true)(hs:szB P t=some l.length)(h : ∀j v,l[j]? = some v->w.cell? (a.add j)=some v)
  (k:K (.agg l.toArray) w):kG P (loadVar t a) w K:=by
 refine lJ ?_ k
 unfold loadVar
 rw [Sem.run_bind,ou ha]
 simp only [Result.andThen_ok,if_true,Sem.run_bind,mM hs,loadCells]
 rw [run_loadCellsFrom a l 0 #[] (fun j v hj=>by rw [aJ];exact h j v hj)]
 simp
theorem rX {t T:TypeId}{b:Nat}{l:List Value}(ha:tJ P t=some true)(hs:szB P t=some l.length)(hb:oH w b l T)
  (k:K (.agg l.toArray) w):kG P (loadVar t ⟨b,0,none⟩) w K:=
 Fe ha hs (fun j v hj=>by rw [add0,hb.cell,aJ];exact hj) k
theorem KN {t:TypeId}{a:Addr}{v u:Value}{K:World->Prop}(hs:szB P t=some 1)(hv:v.oneCell'=true)(h:w.cell? a=some u)(hf:w.frozen? a=false)
  (k:K (w.setCell a v)):rD P (storeVar t a v) w K:=by
 have hc:v.cells = #[v]:=by cases v<;>first|rfl|simp [Value.oneCell']at hv
 have ha:a.add 0=a:=by simp [Addr.add]
 refine⟨(),_, ?_,k⟩
 unfold storeVar
 simp only [Sem.run_bind,mM hs,Result.andThen_ok,hc]
 simp [storeCells,ha,run_store P w a v _ hv,h,hf]
theorem DI {b o:Nat}{l:List Value}{T:TypeId}(hb:oH w b l T)(v:Value):Only b w (w.setCell ⟨b,o,none⟩ v)∧oH (w.setCell ⟨b,o,none⟩ v) b (l.set o v) T:=by
 have hb':w.heap[b]? = some (.cells l.toArray T (0,0)):=hb
 refine⟨⟨rfl,rfl,rfl,by simp,fun k hk=>Below.heap_setCell _ _ _ _ hk⟩, ?_⟩
 unfold oH
 rw [setCell_eq_setRow w b o _ T (0,0) v hb',setRow_heap w b _ _ T (0,0) hb']
 simp
theorem jV {t T:TypeId}{b o:Nat}{l:List Value}{v:Value}{K:World->Prop}(hb:oH w b l T)(hs:szB P t=some 1)(hv:v.oneCell'=true)(hlt:Nat.blt o l.length=true)
  (k : ∀w',Only b w w'->oH w' b (l.set o v) T->K w'):rD P (storeVar t ⟨b,o,none⟩ v) w K:=by
 have hb':w.heap[b]? = some (.cells l.toArray T (0,0)):=hb
 have ho:o<l.length:=ak hlt
 refine KN hs hv (u:=l[o]) (by rw [hb.cell];exact aB ho) (by simp [World.frozen?,hb']) ?_
 exact k _ (DI hb v).1 (DI hb v).2
theorem tC {b:Nat}{T:TypeId} : ∀(vs:List Value) (i o:Nat) (l:List Value) (w:World),oH w b l T->o+i+vs.length<=l.length->(∀v∈vs,v.oneCell'=true)->
  ∃w',(storeCells ⟨b,o,none⟩ vs i).run P w = .ok () w'∧Only b w w'∧oH w' b (qw l (o+i) vs) T:=by
 intro vs
 induction vs with
 | nil=>intro i o l w hb _ _;exact⟨w,by simp [storeCells],Only.refl _ _,hb⟩
 | cons v r ih=>
  intro i o l w hb hl h1
  simp only [aZ]at hl
  have hb':w.heap[b]? = some (.cells l.toArray T (0,0)):=hb
  have hcell:w.cell? ⟨b,o+i,none⟩=some l[o+i]:=by rw [hb.cell];exact aB aad
  have hfro:w.frozen? ⟨b,o+i,none⟩=false:=by simp [World.frozen?,hb']
  obtain⟨ho1,hb1⟩:=DI (o:=o+i) hb v
  obtain⟨w',hr,ho,hbw⟩:=ih (i+1) o (l.set (o+i) v) _ hb1 aaT (fun u hu=>h1 u (by simp [hu]))
  refine⟨w', ?_,ho1.trans ho, ?_⟩
  ·simp only [storeCells,Sem.run_bind,add0,run_store P w _ v _ (h1 v aaA),hcell,hfro]
   simp only [aS,if_false,Result.andThen_ok]
   exact hr
  ·simp only [qw];exact hbw
theorem qE {t T:TypeId}{b o:Nat}{l vs:List Value}{K:World->Prop}(hb:oH w b l T)(hs:szB P t=some vs.length)(h1:vs.all (·.oneCell')=true)
  (hl:Nat.ble (o+vs.length) l.length=true) (k : ∀w',Only b w w'->oH w' b (qw l o vs) T->K w'):rD P (storeVar t ⟨b,o,none⟩ (.agg vs.toArray)) w K:=by
 obtain⟨w',hr,ho,hbw⟩:=tC (P:=P) vs 0 o l w hb (by have:=ak hl;omega) (bf.1 h1)
 refine⟨(),w', ?_,k w' ho hbw⟩
 unfold storeVar
 simp only [Sem.run_bind,mM hs,Result.andThen_ok,Value.cells]
 simp [hr]
theorem DJ {t e:TypeId}{n sz b o:Nat}{k:IntKind}{ix:Int}(m:Nat)(hu:P.underlying t=some (.array n e))(hs:szB P e=some sz)(hm:ix=m)(h:m<n)
  (hk:K (.pointer (some ⟨b,o+m*sz,none⟩)) w):kG P (Instr.indexAt t (.pointer (some ⟨b,o,none⟩)) (.int k ix)) w K:=by
 refine lJ ?_ hk
 subst hm
 have h1:(0:Int)<=m∧(m:Int)<n:=⟨by omega,by omega⟩
 unfold Instr.indexAt
 simp [asIntOf,jR hu,Instr.sureAddr,h,mM hs,add0]
theorem wO {t e:TypeId}{n b o:Nat}{k:IntKind}{ix:Int}(m:Nat)(hu:P.underlying t=some (.array n e))(hs:szB P e=some 1)(hm:ix=m)(h:m<n)
  (hk:K (.pointer (some ⟨b,o+m,none⟩)) w):kG P (Instr.indexAt t (.pointer (some ⟨b,o,none⟩)) (.int k ix)) w K:=
 DJ m hu hs hm h (by rw [dG];exact hk)
theorem kE {t e:TypeId}{n b o:Nat}{k:IntKind}{m:Nat}(hu:P.underlying t=some (.array n e))(hs:szB P e=some 1)(h:Nat.blt m n=true)
  (hk:K (.pointer (some ⟨b,o+m,none⟩)) w):kG P (Instr.indexAt t (.pointer (some ⟨b,o,none⟩)) (.int k (OfNat.ofNat m))) w K:=
 wO m hu hs rfl (ak h) hk
theorem Fg {t e:TypeId}{sz b o n c:Nat}{k:IntKind}{ix:Int}(m:Nat)(hu:P.underlying t=some (.slice e))(hs:szB P e=some sz)(hm:ix=m)(h:m<n)
  (hk:K (.pointer (some ⟨b,o+m*sz,none⟩)) w):kG P (Instr.indexAt t (.slice (some ⟨b,o,none⟩) n c) (.int k ix)) w K:=by
 refine lJ ?_ hk
 subst hm
 have h1:(0:Int)<=m∧(m:Int)<n:=⟨by omega,by omega⟩
 unfold Instr.indexAt
 simp [asIntOf,jR hu,h,mM hs,add0]
theorem vP {t e:TypeId}{b o n c:Nat}{k:IntKind}{ix:Int}(m:Nat)(hu:P.underlying t=some (.slice e))(hs:szB P e=some 1)(hm:ix=m)(h:m<n)
  (hk:K (.pointer (some ⟨b,o+m,none⟩)) w):kG P (Instr.indexAt t (.slice (some ⟨b,o,none⟩) n c) (.int k ix)) w K:=
 Fg m hu hs hm h (by rw [dG];exact hk)
end
def Row (w:World)(oa:Option Addr)(vs:List Value):Prop:=
 vs = []∨∃b o,oa=some ⟨b,o,none⟩∧b<w.heap.size∧∀j v,vs[j]? = some v->w.cell? ⟨b,o+j,none⟩=some v
theorem Row.get {w:World}{oa:Option Addr}{vs:List Value}(h:Row w oa vs)(hne:0<vs.length) :
  ∃b o,oa=some ⟨b,o,none⟩∧b<w.heap.size∧∀j v,vs[j]? = some v->w.cell? ⟨b,o+j,none⟩=some v:=
 h.resolve_left fun e=>by simp [e]at hne
theorem Row.below {w w':World}{oa:Option Addr}{vs:List Value}(h:Row w oa vs)(hb:Below w.heap.size w w'):Row w' oa vs:=by
 rcases h with h|⟨b,o,he,hlt,hc⟩
 ·exact .inl h
 ·exact .inr ⟨b,o,he,aN hlt hb.size,fun j v hj=>by rw [hb.cell (p:=⟨b,o+j,none⟩) hlt];exact hc j v hj⟩
theorem Row.nil (w:World)(oa:Option Addr):Row w oa []:= .inl rfl
def kV (l:List UInt8):List Value:=l.map fun x=> .int .u8 x.toNat
theorem qF {l:List UInt8}{j:Nat}(h:j<l.length):(kV l)[j]? = some (.int .u8 l[j].toNat):=by simp [kV,h]
@[simp] theorem bvals_len (l:List UInt8):(kV l).length=l.length:=by simp [kV]
def Own (w:World)(B:Nat)(E:TypeId)(sz:Nat)(oa:Option Addr)(n c:Nat)(xs:List Value):Prop:=w.ownsRow B E sz (.slice oa n c) n xs
theorem Own.len {w:World}{B:Nat}{E:TypeId}{sz:Nat}{oa:Option Addr}{n c:Nat}{xs:List Value}(h:Own w B E sz oa n c xs):xs.length=n*sz:=h.1
theorem Own.nil (w:World)(B:Nat)(E:TypeId)(sz:Nat):Own w B E sz none 0 0 []:=World.ownsRow_nil w B E sz
theorem Own.row {w:World}{B:Nat}{E:TypeId}{sz:Nat}{oa:Option Addr}{n c:Nat}{xs:List Value}(h:Own w B E sz oa n c xs):Row w oa xs:=by
 rcases h.2 with ⟨hv,hn⟩|⟨g,cap,cur,hv,hg,hh,_⟩
 ·subst hn
  exact .inl (aH (by simpa using h.1))
 ·injection hv with h1 h2 h3
  subst h1
  refine .inr ⟨g,0,rfl,(bM.1 hh).1,fun j v hj=> ?_⟩
  have:=World.ownsRow.cells (h:w.ownsRow B E sz (.slice (some ⟨g,0,none⟩) n c) n xs) (g:=g) rfl j v hj
  rw [add0]at this
  exact this
def ownB (oa:Option Addr):Option Nat:=oa.map (·.block)
theorem wP (oa:Option Addr)(n c:Nat):(Value.slice oa n c).ownBlock=ownB oa:=by cases oa<;>rfl
theorem Own.kept {w w':World}{B:Nat}{E:TypeId}{sz:Nat}{oa:Option Addr}{n c:Nat}{xs:List Value}{row:Option Nat}(h:Own w B E sz oa n c xs)(hg:w.grownBy w' row)
  (hne:ownB oa=none∨ownB oa≠row):Own w' B E sz oa n c xs:=World.ownsRow.kept h hg (by rw [wP];exact hne)
theorem Own.ge {w:World}{B:Nat}{E:TypeId}{sz:Nat}{oa:Option Addr}{n c:Nat}{xs:List Value}(h:Own w B E sz oa n c xs) : ∀k,ownB oa=some k->B<=k∧k<w.heap.size:=by
 intro k hk
 exact World.ownsRow.lt h k (by rw [wP];exact hk)
theorem Own.below {w w':World}{B:Nat}{E:TypeId}{sz:Nat}{oa:Option Addr}{n c:Nat}{xs:List Value}(h:Own w B E sz oa n c xs)(hb:Below w.heap.size w w'):Own w' B E sz oa n c xs:=
 Own.kept h (row:=none) ⟨hb.os,hb.tape,hb.output,hb.size,fun k hk _=>hb.block k hk⟩ (by cases h:ownB oa<;>simp)
theorem grown_below {w w':World}{B:Nat}{row:Option Nat}(hg:w.grownBy w' row)(hB:B<=w.heap.size)(hr : ∀k,row=some k->B<=k):Below B w w':=
 (Below.refl B w).grown hg hB hr
theorem Row.alloc1 (w:World)(l:List Value)(t:TypeId):Row (w.alloc (.cells l.toArray t)) (some ⟨w.heap.size,0,none⟩) l:=
 .inr ⟨w.heap.size,0,rfl,by simp,fun j v hj=>by have:=(oH.new w l.toArray t).cell j;rw [aJ,this];exact hj⟩
theorem oH.row {w:World}{b:Nat}{l:List Value}{t:TypeId}(h:oH w b l t):Row w (some ⟨b,0,none⟩) l:=
 .inr ⟨b,0,rfl,h.lt,fun j v hj=>by rw [aJ,h.cell];exact hj⟩
theorem x9 {P:Program}{w:World}{t T:TypeId}{b o:Nat}{l:List Value}{v:Value}{K:World->Prop}(hb:oH w b l T)(hs:szB P t=some 1)(hv:v.oneCell'=true)(hlt:o<l.length)
  (k : ∀w',Only b w w'->oH w' b (l.set o v) T->K w'):rD P (storeVar t ⟨b,o,none⟩ v) w K:=
 jV hb hs hv (jv hlt) k
theorem Own.alloc {w:World}{B:Nat}{E:TypeId}{sz:Nat}{oa:Option Addr}{n c:Nat}{xs:List Value}(h:Own w B E sz oa n c xs)(o:Obj):Own (w.alloc o) B E sz oa n c xs:=
 h.below ((Below.refl _ _).alloc (ay _) o)
theorem Row.drew {w:World}{oa:Option Addr}{vs:List Value}(h:Row w oa vs):Row w.drew oa vs:=h
theorem Row.alloc {w:World}{oa:Option Addr}{vs:List Value}(h:Row w oa vs)(o:Obj):Row (w.alloc o) oa vs:=h.below ((Below.refl _ _).alloc (ay _) o)
theorem nR {B:Nat}{w w':World}(h:Below B w w')(hB:B<=w.heap.size)(o:Obj):Below B w (w'.alloc o):=h.alloc (bZ hB h.size) o
theorem Jw {oa:Option Addr}{n m c:Nat}(h:n=m):Value.slice oa n c=Value.slice oa m c:=by rw [h]
def l7 (P:Program)(t:TypeId):Option Nat:=(P.info? t).map (·.bytes)
def pz (P:Program)(t:TypeId):Option (List Value):=(P.info? t).bind fun i=>i.zero.map fun z=>z.cells.toList
section
variable {P:Program}{w:World}{K:Value->World->Prop}
theorem mZ {t ty E:TypeId}{sz nV B n c m c2:Nat}{oa uF:Option Addr}{xs news zs:List Value}
  (ht:P.underlying t=some (.slice E)) (hs:szB P E=some sz) (hby:l7 P E=some nV) (hz:pz P E=some zs) (hzl:zs.length=sz) (hsz:Nat.ble 1 sz=true)
  (hown:Own w B E sz oa n c xs) (hr:Row w uF news) (hl:news.length=m*sz) (h1 : ∀u∈news,u.oneCell'=true)
  (hnil:uF=none->c2=0)
  (hbytes:(n+m)*nV<=140737488355328) (hB:B<=w.heap.size) (hlen:n+m<=maxLen)
  (k : ∀lV c' w',Own w' B E sz lV (n+m) c' (xs++news)->Below B w w'->w.grownBy w' (ownB oa)->K (.slice lV (n+m) c') w') :
  kG P (Builtin.append_ #[t,t] ty #[.slice oa n c, .slice uF m c2]) w K:=by
 obtain⟨i,hi,rfl⟩:=lY hs
 have hb':i.bytes=nV:=by simpa [l7,hi]using hby
 obtain⟨z,hz1,hz2⟩ : ∃z,i.zero=some z∧z.cells.toList=zs:=by
  unfold pz at hz
  simp only [hi,dh]at hz
  cases hzz:i.zero with
  | none=>simp [hzz]at hz
  | some z=>simp only [hzz,bn,aA]at hz;exact⟨z,rfl,hz⟩
 have hsz':0<i.size:=ak hsz
 have hzc:z.cells.size=i.size:=aaI
 by_cases hm:uF=none
 ·subst hm
  have hm0:news = []:=hr.resolve_right (by rintro⟨b,o,he,_⟩;cases he)
  subst hm0
  have:m=0:=by
   rcases bH m with h|h
   ·exact h
   ·have:=je h hsz';simp at hl;omega
  subst this
  have hc2:=hnil rfl
  subst hc2
  have hrun:=run_append_owned_none (P:=P) (w:=w) B t ty E i i.size ht hi (.slice oa n c) n xs hown
  refine lJ hrun ?_
  have hk:=k oa c w (by simpa using hown) (Below.refl _ _) ⟨rfl,rfl,rfl,ay _,fun _ _ _=>rfl⟩
  simpa using hk
 ·obtain⟨ad,rfl,hcells⟩ : ∃ad,uF=some ad∧∀j u,news[j]? = some u->w.cell? (ad.add j)=some u:=by
   rcases hr with rfl|⟨b,o,rfl,_,hc⟩
   ·cases uF with
    | none=>exact absurd rfl hm
    | some ad=>exact⟨ad,rfl,by simp⟩
   ·exact⟨_,rfl,fun j u hj=>by rw [add0];exact hc j u hj⟩
  obtain⟨v',w',hrun,ho,hg,_⟩:=run_append_own (P:=P) w B t ty E i z i.size nV ht hi hz1 rfl hb' hzc hsz' (.slice oa n c) n xs hown ad m c2 news hl hcells h1 hlen hbytes hB
  rw [wP]at hg
  have hv : ∃lV c',v' = .slice lV (n+m) c':=by
   rcases ho.2 with ⟨h,h0⟩|⟨g,cap,cur,h,_⟩
   ·exact⟨none,0,by rw [h,h0]⟩
   ·exact⟨_,cap,h⟩
  obtain⟨lV,c',rfl⟩:=hv
  exact lJ hrun (k lV c' w' ho (grown_below hg hB fun k hk=>(hown.ge k hk).1) hg)
theorem QC {t E:TypeId}{sz nV n:Nat}{kl kc:IntKind}{l c:Int}{zs:List Value}
  (ht:P.underlying t=some (.slice E)) (hs:szB P E=some sz) (hby:l7 P E=some nV) (hz:pz P E=some zs) (hzl:zs.length=sz) (hsz:Nat.ble 1 sz=true)
  (hl:l=n) (hc:c=n) (hbytes:nV*n<=140737488355328) (hn:n<=maxLen)
  (k : ∀w',w'=w.alloc (.cells (List.replicate n zs).flatten.toArray E)->oH w' w.heap.size (List.replicate n zs).flatten E->K (.slice (some ⟨w.heap.size,0,none⟩) n n) w') :
  kG P (Instr.makeSlice t (.int kl l) (.int kc c)) w K:=by
 subst hl;subst hc
 obtain⟨i,hi,rfl⟩:=lY hs
 have hb':i.bytes=nV:=by simpa [l7,hi]using hby
 subst hb'
 obtain⟨z,hz1,hz2⟩ : ∃z,i.zero=some z∧z.cells.toList=zs:=by
  unfold pz at hz
  simp only [hi,dh]at hz
  cases hzz:i.zero with
  | none=>simp [hzz]at hz
  | some z=>simp only [hzz,bn,aA]at hz;exact⟨z,rfl,hz⟩
 have hsz':1<=i.size:=ak hsz
 have hzc:z.cells.size=i.size:=aaI
 have h63:(n:Int)<=9223372036854775807:=abm
 have hbi:(i.bytes:Int)*(n:Int)<=281474976710656:=by
  rw [<-Int.natCast_mul]
  omega
 have hrun:=run_make (P:=P) w t E i z ht hi hz1 kl kc n n aad aad hbi h63
 have hmc:madeCells z.cells (n*i.size)=(List.replicate n zs).flatten.toArray:=by
  rw [<-hz2, <-uz z.cells n i.size hzc hsz']
  unfold madeCells
  rfl
 simp only [dA]at hrun
 rw [hmc]at hrun
 exact lJ hrun (k _ rfl (by have:=oH.new w (List.replicate n zs).flatten.toArray E;simpa using this))
theorem zX {t E:TypeId}{sz n c h:Nat}{oa:Option Addr}{kh:IntKind}{hi:Int}(ht:P.underlying t=some (.slice E))(hs:szB P E=some sz)
  (he:hi=h) (hh:h<=n) (hc:n<=c) (k:K (.slice oa h c) w):kG P (Instr.sliceAt t (.slice oa n c) none (some (.int kh hi)) none) w K:=by
 refine lJ ?_ k
 subst he
 have h1:(0:Int)<=h∧(h:Int)<=c:=⟨by omega,by omega⟩
 unfold Instr.sliceAt
 rw [Sem.run_bind,jR ht]
 simp only [Result.andThen_ok]
 unfold Instr.slice
 rw [Sem.run_bind,jR ht]
 simp only [Result.andThen_ok,Instr.sliceBounds,Instr.sliceBound,asIntOf,Sem.run_bind,Sem.run_pure,if_pos h1,mM hs]
 congr 1
 cases oa with
 | none=>by_cases hc0:c=0<;>simp [hc0]
 | some a=>by_cases hc0:c=0<;>simp [hc0,Addr.add]
theorem Row.take {oa:Option Addr}{vs:List Value}(h:Row w oa vs)(n:Nat):Row w oa (vs.take n):=by
 rcases h with h|⟨b,o,he,hlt,hc⟩
 ·exact .inl (by simp [h])
 ·exact .inr ⟨b,o,he,hlt,fun j v hj=>hc j v (by rw [aW]at hj;split at hj;exact hj;cases hj)⟩
theorem MZ {src dst e:TypeId}{oa:Option Addr}{l:List UInt8}{n c:Nat}(hs:P.underlying src=some (.slice e))(he:P.underlying e=some (.int .u8))(hd:P.underlying dst=some .string)
  (hn:n=l.length) (hr:Row w oa (kV l)) (k:K (.string ⟨l.toArray⟩) w):kG P (convert src dst (.slice oa n c)) w K:=by
 subst hn
 rcases hr with h|⟨b,o,rfl,_,hc⟩
 ·have hl:l = []:=by simpa [kV]using h
  subst hl
  refine lJ ?_ k
  cases oa with
  | none=>have:=run_convert_bytes_nil (P:=P) w src e hs he 0 c dst hd;exact this
  | some a=>exact run_convert_bytes_back (P:=P) w src dst e a c [] hs he hd aaA
 ·exact lJ (run_convert_bytes_back (P:=P) w src dst e _ c l hs he hd fun j hj=>by rw [add0];exact hc j _ (qF hj)) k
end
theorem pK (l:List UInt8) : ∀u∈kV l,u.oneCell'=true:=by
 intro u hu
 simp only [kV,dH]at hu
 obtain⟨x,_,rfl⟩:=hu
 rfl
theorem lT (a b:List UInt8):kV (a++b)=kV a++kV b:=by simp [kV]
end Go.Proofs.YtnandbihiceihaaGreatDoor.Vc
