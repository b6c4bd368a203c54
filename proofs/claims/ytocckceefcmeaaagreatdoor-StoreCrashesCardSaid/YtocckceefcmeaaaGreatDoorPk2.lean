/- Joined parts of the proof. The reckoner's soundness at regions that draw their order; code, loops, whole functions -/
import Derived.Test.YtocckceefcmeaaaGreatDoorPk1
import Derived.Laws.AppendOwn
import Derived.Laws.OwnMore
import Derived.Laws.MakeOwn
import Derived.IntWalk
import Derived.Laws.IdiomStrings
import Derived.Laws.BytesArg
import Derived.Laws.Strings
set_option linter.unusedVariables false
set_option linter.unusedSimpArgs false
set_option maxRecDepth 100000
set_option maxHeartbeats 16000000
namespace Go.Proofs.YtocckceefcmeaaaGreatDoor.Vc
open Go Go.RowKit
theorem Pj {P:Program}{o:Oper}{ρ:aU}{w:World}{K:Value→World→Prop}(hp:rP o=true)(h:Bg P true o ρ w K) :
  ∃v,(∀w',(execOp (gu ρ) o).run P w' = .ok (.value v) w')∧K v w:=by
 unfold Bg at h
 unfold rP at hp
 cases ho:o.op<;>simp only [ho]at h hp<;>try cases hp
 case move x=>rw [force_eq]at h;exact⟨_,fun w'=>by unfold execOp;simp [ho],h⟩
 case assign x=>rw [force_eq]at h;exact⟨_,fun w'=>by unfold execOp;simp [ho],h⟩
 case makeFunc fn first captured=>
  simp only [lY,cu]at h
  exact⟨_,fun w'=>by unfold execOp;simp [ho,Instr.makeFunc,rU],h⟩
 case nilCheck x=>
  split at h
  ·rename_i p hp'
   exact⟨_,fun w'=>by unfold execOp;simp only [ho,hp'];rfl,h⟩
  ·exact h.elim
 case extract t i=>
  split at h
  ·rename_i vs hv
   split at h
   ·rename_i v hi
    have hi':vs[i]? = some v:=by rw [←hi];simp
    exact⟨_,fun w'=>by unfold execOp;simp only [ho,hv];exact jE (by simp [Instr.extract,hi']),h⟩
   ·exact h.elim
  ·exact h.elim
section
variable {P:Program}{N:Nat}{ds:List Deferred}{W:Nat→Bool}{ops:Array Oper}{K:aU→World→Prop}{aB:aU}{wP:Bool}
def RQ (N:Nat)(ds:List Deferred)(W:Nat→Bool)(aB:aU)(K:aU→World→Prop):Exit→Act→World→Prop
 | .normal,a,w=> ∃ρ',Fits N ds ρ' a∧Same W aB ρ'∧K ρ' w
 | _,_,_=>False
theorem nX {Q:Exit→Act→World→Prop}{i:Nat}{o:Oper}{ρ:aU}{a:Act}{w:World}{G:Act→World→Prop}{abS:aU→Value→World→Prop}{iW:aU→Prop}
  (hi:ops[i]? = some o) (hf:Fits N ds ρ a) (h:kF P false ops.toList o ρ w abS iW)
  (h1 : ∀v w',abS ρ v w'→G (a.put o.dst v) w') (h0:iW ρ→G (a.put o.dst undef) w):wpOp P ops Q i G a w:=by
 unfold Go.wpOp
 simp only [hi]
 rcases nU hf h with ⟨hw,hv⟩ | ⟨hw,hv⟩
 ·simp only [hw,if_true]
  exact .inl ((jk hv).wp hf.eval fun v w' hk=>h1 v w' hk)
 ·simp only [hw,Bool.false_eq_true,if_false]
  exact h0 hv
theorem Fg (hsel:Region.noSelect ops=true)(hok : ∀o∈ops.toList,iG N W o=true)(w₀:World) :
  ∀(p:Plan) (S:World→Prop) (_:wP=true→∀w',S w'→w'=w₀) (listed:Array Bool) (ρ:aU) (a:Act) (w:World),dS ops p listed=true→Down ops listed→Fits N ds ρ a→Same W aB ρ→S w→
   vD P ops.toList wP p S ρ w K→∀fuel,p.depth≤fuel→nV P ops (RQ N ds W aB K) S fuel listed a w:=by
 have mem : ∀ {i:Nat} {o:Oper},ops.toList[i]? = some o→ops[i]? = some o∧iG N W o=true:=fun {i o} h=>
  ⟨by rw [←Array.getElem?_toList];exact h,hok o (List.mem_of_getElem? h)⟩
 have fin : ∀ {S:World→Prop} {listed:Array Bool} {ρ:aU} {a:Act} {w:World},Region.ready .any ops listed = []→Fits N ds ρ a→Same W aB ρ→K ρ w→
   ∀fuel,nV P ops (RQ N ds W aB K) S fuel listed a w:=by
  intro S listed ρ a w hr hf hs h fuel
  cases fuel with
  | zero=>exact⟨hr,ρ,hf,hs,h⟩
  | succ n=>exact⟨fun _=>⟨ρ,hf,hs,h⟩,by rw [hr];simp⟩
 intro p
 induction p with
 | done=>
  intro S hS listed ρ a w hp hdn hf hs _ h fuel _
  exact fin (by simpa [dS]using hp) hf hs h fuel
 | take i p ih=>
  intro S hS listed ρ a w hp hdn hf hs hSw h fuel hfu
  simp only [dS,Bool.and_eq_true]at hp
  obtain⟨⟨⟨hq,hr⟩,hfree⟩,hp'⟩:=hp
  simp only [vD]at h
  split at h
  ·rename_i o uV
   obtain⟨hi,ho⟩:=mem uV
   simp only [hi]at hq
   cases fuel with
   | zero=>simp [Plan.depth]at hfu
   | succ fuel=>
    have uX:p.depth≤fuel:=by simp only [Plan.depth]at hfu;omega
    have go : ∀v,YieldsIf P ops S o v a→vD P ops.toList wP p S (dK ρ o.dst v) w K→nV P ops (RQ N ds W aB K) S (fuel+1) listed a w:=fun v hy hv=>
     Dn hi (Region.noSelect_spec hsel) (fun c a w hq=>hq) fuel listed a w (Region.free_spec hi hfree) hdn (by simpa using hr) hy hSw
      (ih S hS _ _ _ _ hp' (hdn.set (by simpa using hr)) (hf.put o.dst v (dA ho)) (hs.dK ho) hSw hv fuel uX)
    rcases nU hf h with ⟨hw,hv⟩ | ⟨hw,hv⟩
    ·obtain⟨v,hrun,hk⟩:=(jk hv).quiet hq
     cases hc:(wP||rP o)with
     | true=>
      rw [hc]at hk
      refine go v (.inl ⟨hw,fun w' hw'=> ?_⟩) hk
      rw [hf.eval]
      cases he:wP with
      | true=>
       have e1:=hS he w' hw'
       have e2:=hS he w hSw
       rw [e1, ←e2];exact hrun
      | false=>
       rw [he,Bool.false_or]at hc
       obtain⟨u,hu,_⟩:=Pj hc hv
       have:u=v:=by have:=hu w;rw [hrun]at this;injection this with h1 h2;injection h1 with h1;exact h1.symm
       subst this
       exact hu w'
     | false=>
      rw [hc]at hk
      refine go v (.inl ⟨hw,fun w' hw'=> ?_⟩) hk.go
      rw [hf.eval]
      obtain⟨u,hu,he⟩:=(jk (hk.req w' hw')).quiet hq
      rw [hu,he]
    ·exact go undef (.inr ⟨hw,rfl⟩) hv
  ·exact h.elim
 | one i p ih=>
  intro S hS listed ρ a w hp hdn hf hs hSw h fuel hfu
  simp only [dS,Bool.and_eq_true,beq_iff_eq]at hp
  obtain⟨hr,hp'⟩:=hp
  simp only [vD]at h
  split at h
  ·rename_i o uV
   obtain⟨hi,ho⟩:=mem uV
   cases fuel with
   | zero=>simp [Plan.depth]at hfu
   | succ fuel=>
    have uX:p.depth≤fuel:=by simp only [Plan.depth]at hfu;omega
    refine⟨fun e=>(by rw [hr]at e;cases e),fun j hj=> ?_⟩
    rw [hr]at hj
    simp only [List.mem_singleton]at hj
    subst hj
    have ny:=hdn.set (i:=j) (by rw [hr];simp)
    exact nX hi hf h (fun v w' hk=>by
      obtain⟨S',h1,h2,h3⟩:=hk.ex
      exact⟨.inr (h1 _ h2),iO h1 _ _ _ _ (ih S' (fun he u hu=>hS he u (h1 u hu)) _ _ _ _ hp' ny (hf.put o.dst v (dA ho)) (hs.dK ho) h2 h3 fuel uX)⟩)
     (fun hk=>⟨.inr hSw,ih S hS _ _ _ _ hp' ny (hf.put o.dst undef (dA ho)) (hs.dK ho) hSw hk fuel uX⟩)
  ·exact h.elim
 | two i p j r Us ihr=>
  intro S hS listed ρ a w hp hdn hf hs hSw h fuel hfu
  simp only [dS,Bool.and_eq_true,beq_iff_eq]at hp
  obtain⟨⟨hr,hp'⟩,hr'⟩:=hp
  simp only [vD]at h
  split at h
  ·rename_i o o' uV hjo
   obtain⟨hi,ho⟩:=mem uV
   obtain⟨hj,ho'⟩:=mem hjo
   obtain⟨ha,hb⟩:=h
   cases fuel with
   | zero=>simp [Plan.depth]at hfu
   | succ fuel=>
    have Dp:p.depth≤fuel:=by simp only [Plan.depth]at hfu;omega
    have hfu2:r.depth≤fuel:=by simp only [Plan.depth]at hfu;omega
    refine⟨fun e=>(by rw [hr]at e;cases e),fun k hk=> ?_⟩
    rw [hr]at hk
    simp only [List.mem_cons,List.not_mem_nil,or_false]at hk
    rcases hk with rfl | rfl
    ·have ny:=hdn.set (i:=k) (by rw [hr];simp)
     exact nX hi hf ha (fun v w' hk=>by
       obtain⟨S',h1,h2,h3⟩:=hk.ex
       exact⟨.inr (h1 _ h2),iO h1 _ _ _ _ (Us S' (fun he u hu=>hS he u (h1 u hu)) _ _ _ _ hp' ny (hf.put o.dst v (dA ho)) (hs.dK ho) h2 h3 fuel Dp)⟩)
      (fun hk=>⟨.inr hSw,Us S hS _ _ _ _ hp' ny (hf.put o.dst undef (dA ho)) (hs.dK ho) hSw hk fuel Dp⟩)
    ·have ny:=hdn.set (i:=k) (by rw [hr];simp)
     exact nX hj hf hb (fun v w' hk=>by
       obtain⟨S',h1,h2,h3⟩:=hk.ex
       exact⟨.inr (h1 _ h2),iO h1 _ _ _ _ (ihr S' (fun he u hu=>hS he u (h1 u hu)) _ _ _ _ hr' ny (hf.put o'.dst v (dA ho')) (hs.dK ho') h2 h3 fuel hfu2)⟩)
      (fun hk=>⟨.inr hSw,ihr S hS _ _ _ _ hr' ny (hf.put o'.dst undef (dA ho')) (hs.dK ho') hSw hk fuel hfu2⟩)
  ·exact h.elim
 | three i p j r k q Us ihr ihq=>
  intro S hS listed ρ a w hp hdn hf hs hSw h fuel hfu
  simp only [dS,Bool.and_eq_true,beq_iff_eq]at hp
  obtain⟨⟨⟨hr,hp'⟩,hr'⟩,hq'⟩:=hp
  simp only [vD]at h
  split at h
  ·rename_i o o' o'' uV hjo hko
   obtain⟨hi,ho⟩:=mem uV
   obtain⟨hj,ho'⟩:=mem hjo
   obtain⟨hk3,Ut⟩:=mem hko
   obtain⟨ha,hb,hc⟩:=h
   cases fuel with
   | zero=>simp [Plan.depth]at hfu
   | succ fuel=>
    have Dp:p.depth≤fuel:=by simp only [Plan.depth]at hfu;omega
    have hfu2:r.depth≤fuel:=by simp only [Plan.depth]at hfu;omega
    have Uu:q.depth≤fuel:=by simp only [Plan.depth]at hfu;omega
    refine⟨fun e=>(by rw [hr]at e;cases e),fun k hk=> ?_⟩
    rw [hr]at hk
    simp only [List.mem_cons,List.not_mem_nil,or_false]at hk
    rcases hk with rfl | rfl | rfl
    ·have ny:=hdn.set (i:=k) (by rw [hr];simp)
     exact nX hi hf ha (fun v w' hk=>by
       obtain⟨S',h1,h2,h3⟩:=hk.ex
       exact⟨.inr (h1 _ h2),iO h1 _ _ _ _ (Us S' (fun he u hu=>hS he u (h1 u hu)) _ _ _ _ hp' ny (hf.put o.dst v (dA ho)) (hs.dK ho) h2 h3 fuel Dp)⟩)
      (fun hk=>⟨.inr hSw,Us S hS _ _ _ _ hp' ny (hf.put o.dst undef (dA ho)) (hs.dK ho) hSw hk fuel Dp⟩)
    ·have ny:=hdn.set (i:=k) (by rw [hr];simp)
     exact nX hj hf hb (fun v w' hk=>by
       obtain⟨S',h1,h2,h3⟩:=hk.ex
       exact⟨.inr (h1 _ h2),iO h1 _ _ _ _ (ihr S' (fun he u hu=>hS he u (h1 u hu)) _ _ _ _ hr' ny (hf.put o'.dst v (dA ho')) (hs.dK ho') h2 h3 fuel hfu2)⟩)
      (fun hk=>⟨.inr hSw,ihr S hS _ _ _ _ hr' ny (hf.put o'.dst undef (dA ho')) (hs.dK ho') hSw hk fuel hfu2⟩)
    ·have ny:=hdn.set (i:=k) (by rw [hr];simp)
     exact nX hk3 hf hc (fun v w' hk=>by
       obtain⟨S',h1,h2,h3⟩:=hk.ex
       exact⟨.inr (h1 _ h2),iO h1 _ _ _ _ (ihq S' (fun he u hu=>hS he u (h1 u hu)) _ _ _ _ hq' ny (hf.put o''.dst v (dA Ut)) (hs.dK Ut) h2 h3 fuel Uu)⟩)
      (fun hk=>⟨.inr hSw,ihq S hS _ _ _ _ hq' ny (hf.put o''.dst undef (dA Ut)) (hs.dK Ut) hSw hk fuel Uu⟩)
  ·exact h.elim
 | sink i=>
  intro S hS listed ρ a w hp hdn hf hs hSw h fuel hfu
  simp only [dS,Bool.and_eq_true,beq_iff_eq]at hp
  obtain⟨⟨hr,hsk⟩,he⟩:=hp
  simp only [vD]at h
  split at h
  ·rename_i o uV
   obtain⟨hi,ho⟩:=mem uV
   cases fuel with
   | zero=>simp [Plan.depth]at hfu
   | succ fuel=>
    refine⟨fun e=>(by rw [hr]at e;cases e),fun j hj=> ?_⟩
    rw [hr]at hj
    simp only [List.mem_singleton]at hj
    subst hj
    have he':Region.ready .any ops (listed.setIfInBounds j true) = []:=by simpa using he
    exact nX hi hf h (fun v w' hk=>⟨.inl hsk,fin he' (hf.put o.dst v (dA ho)) (hs.dK ho) hk fuel⟩)
     (fun hk=>⟨.inl hsk,fin he' (hf.put o.dst undef (dA ho)) (hs.dK ho) hk fuel⟩)
  ·exact h.elim
 | post i p ih=>intro S hS listed ρ a w hp hdn hf hs hSw h;exact(show False from h).elim
end
structure qL (P:Program)(id:Nat)(ops:Array Oper)(K:aU→World→Prop)(ρ:aU)(w:World):Prop where
 ex : ∃(p:Plan) (wP:Bool) (S:World→Prop),mO ops p=true∧(wP=true→∀w',S w'→w'=w.drew)∧S w.drew∧vD P ops.toList wP p S ρ w.drew K
theorem abT {P:Program}{id:Nat}{ops:Array Oper}{K:aU→World→Prop}{ρ:aU}{w:World}(p:Plan)(hp:mO ops p=true)
  (h:vD P ops.toList true p (fun w'=>w'=w.drew) ρ w.drew K):qL P id ops K ρ w:=
 ⟨p,true,_,hp,fun _ _ e=>e,rfl,h⟩
theorem iY {P:Program}{id:Nat}{ops:Array Oper}{K:aU→World→Prop}{ρ:aU}{w:World}(pl:Nat→Plan)(hp:mO ops (pl id)=true)
  (h:vD P ops.toList true (pl id) (fun w'=>w'=w.drew) ρ w.drew K):qL P id ops K ρ w:=abT (pl id) hp h
theorem lq (m j:Nat):(Array.replicate m false).getD j false=false:=by
 rw [Array.getD_eq_getD_getElem?]
 by_cases h:j<m<;>simp [h]
theorem qL.sound {P:Program}{id:Nat}{N:Nat}{ds:List Deferred}{W:Nat→Bool}{ops:Array Oper}{K:aU→World→Prop}{ρ aB:aU}{a:Act}{w:World}
  (hm:P.follows .mixedOrders=true) (hok : ∀o∈ops.toList,iG N W o=true) (hf:Fits N ds ρ a) (hs:Same W aB ρ) (h:qL P id ops K ρ w) :
  (Code.region id ops true).wp P (RQ N ds W aB K) a w:=by
 obtain⟨p,wP,S,hd,he,hS,hv⟩:=h.ex
 simp only [mO,Bool.and_eq_true]at hd
 obtain⟨⟨hsel,uY⟩,hp⟩:=hd
 exact wp_region_any hm (qU _ _ _ _ (Fg hsel hok w.drew p S he _ ρ a w.drew hp (fun j o _ hl=>by rw [lq]at hl;cases hl) hf hs hS hv ops.size (Nat.le_of_ble_eq_true uY)))
inductive Ex where
 | normal
 | exit (id:Nat)
 | ret
def gy (N:Nat)(W:Nat→Bool):Code→Bool
 | .region _ ops _=>ops.toList.all (iG N W)
 | .seq a b=>gy N W a&&gy N W b
 | .cond _ a b=>gy N W a&&gy N W b
 | .block _ b=>gy N W b
 | .loop b=>gy N W b
 | .skip | .exit _ | .ret=>true
 | _=>false
def Uw (W:Nat→Bool)(o:Oper):Bool:=match o.dst with | some d=>W d | none=>true
def writesIn (W:Nat→Bool):Code→Bool
 | .region _ ops _=>ops.toList.all (Uw W)
 | .seq a b=>writesIn W a&&writesIn W b
 | .cond _ a b=>writesIn W a&&writesIn W b
 | .block _ b=>writesIn W b
 | .loop b=>writesIn W b
 | .skip | .exit _ | .ret | .label _=>true
 | .rangeFunc _ _ _ _=>true
 | .scope b=>writesIn W b
 | _=>false
theorem Dq {N:Nat}{W ws:Nat→Bool} : ∀c:Code,gy N W c=true→writesIn ws c=true→gy N (fun k=>W k&&ws k) c=true:=by
 intro c
 induction c with
 | region id ops d=>
  intro h1 h2
  simp only [gy,writesIn,List.all_eq_true]at *
  intro o ho
  have a1:=h1 o ho
  have a2:=h2 o ho
  unfold iG at *
  unfold Uw at a2
  cases hd:o.dst with
  | none=>rfl
  | some d=>simp only [hd,Bool.and_eq_true]at a1 a2 ⊢;exact⟨a1.1,a1.2,a2⟩
 | seq a b iha ihb=>intro h1 h2;simp only [gy,writesIn,Bool.and_eq_true]at *;exact⟨iha h1.1 h2.1,ihb h1.2 h2.2⟩
 | cond c a b iha ihb=>intro h1 h2;simp only [gy,writesIn,Bool.and_eq_true]at *;exact⟨iha h1.1 h2.1,ihb h1.2 h2.2⟩
 | block id b ih=>intro h1 h2;simp only [gy,writesIn]at *;exact ih h1 h2
 | loop b ih=>intro h1 h2;simp only [gy,writesIn]at *;exact ih h1 h2
 | skip=>intro _ _;rfl
 | exit id=>intro _ _;rfl
 | ret=>intro _ _;rfl
 | _=>intro h1 _;simp [gy]at h1
def abU (V:(Ex→aU→World→Prop)→aU→World→Prop)(Q:Ex→aU→World→Prop)(e:Ex)(ρ:aU)(w:World):Prop:=
 match e with
 | .normal=>V Q ρ w
 | .exit id=>Q (.exit id) ρ w
 | .ret=>Q .ret ρ w
def Ux (id:Nat)(Q:Ex→aU→World→Prop)(e:Ex)(ρ:aU)(w:World):Prop:=
 match e with
 | .normal=>Q .normal ρ w
 | .exit j=>Q (bif Nat.beq j id then .normal else .exit j) ρ w
 | .ret=>Q .ret ρ w
def Yr (R:aU→World→Prop)(Q:Ex→aU→World→Prop)(e:Ex)(ρ:aU)(w:World):Prop:=
 match e with
 | .normal=>R ρ w
 | .exit id=>Q (.exit id) ρ w
 | .ret=>Q .ret ρ w
structure kM (p:Prop):Prop where
 holds:p
structure Pm (body:Code)(B:(Ex→aU→World→Prop)→aU→World→Prop)(Q:Ex→aU→World→Prop)(ρ:aU)(w:World):Prop where
 ex : ∃(ws:Nat→Bool) (I:Nat→aU→World→Prop) (n:Nat),writesIn ws body=true∧I n ρ w∧
  ∀n ρ' w',I n ρ' w'→Same ws ρ ρ'→B (Yr (fun fD w''=>kM (∃m,m<n∧I m fD w'')) Q) ρ' w'
def vC (P:Program)(c:Code)(Q:Ex→aU→World→Prop)(ρ:aU)(w:World):Prop:=
 match c with
 | .skip=>Q .normal ρ w
 | .region id ops draw=>(match draw with
  | false=>Pg P ops.toList ops.toList ρ w (Q .normal)
  | true=>qL P id ops (Q .normal) ρ w)
 | .seq a b=>vC P a (abU (vC P b) Q) ρ w
 | .cond c t e=>(match gu ρ c with
  | .bool b=>E5 b (vC P t Q ρ w) (vC P e Q ρ w)
  | _=>False)
 | .block id body=>vC P body (Ux id Q) ρ w
 | .loop body=>Pm body (vC P body) Q ρ w
 | .exit id=>Q (.exit id) ρ w
 | .ret=>Q .ret ρ w
 | _=>False
def CQ (N:Nat)(ds:List Deferred)(W:Nat→Bool)(aB:aU)(Q:Ex→aU→World→Prop):Exit→Act→World→Prop
 | .normal,a,w=> ∃ρ',Fits N ds ρ' a∧Same W aB ρ'∧Q .normal ρ' w
 | .exit id,a,w=> ∃ρ',Fits N ds ρ' a∧Same W aB ρ'∧Q (.exit id) ρ' w
 | .ret,a,w=> ∃ρ',Fits N ds ρ' a∧Same W aB ρ'∧Q .ret ρ' w
 | _,_,_=>False
theorem yU {P:Program}{c:Code}{Q:Exit→Act→World→Prop}{a:Act}{w:World}(I:Nat→Act→World→Prop)(n:Nat)(h₀:I n a w)
  (round : ∀n a w,I n a w→c.wp P (Exit.then (fun a' w'=> ∃m,m<n∧I m a' w') Q) a w):(Code.loop c).wp P Q a w:=by
 intro b k cs
 have key : ∀n a w,I n a w→∃e a' w',Q e a' w'∧Arrives P (lone (b.at a (.code c:: .inLoop c::k)) cs w) b k cs e a' w':=by
  intro n
  induction n using Nat.strongRecOn with
  | _ n ih=>
   intro a w hI
   obtain⟨e,a₁,w₁,hq,harr⟩:=round n a w hI b (.inLoop c::k) cs
   cases e with
   | normal=>
    obtain⟨m,hlt,hI₁⟩:=hq
    obtain⟨e₂,a₂,w₂,hq₂,harr₂⟩:=ih m hlt a₁ w₁ hI₁
    exact⟨e₂,a₂,w₂,hq₂, .of_steps (Steps.trans harr (.one step_inLoop)) harr₂⟩
   | exit id=>exact⟨_,a₁,w₁,hq, .pass (x:= .inLoop c) rfl (fun _ _=> .inl (by simp)) harr⟩
   | goto l=>exact⟨_,a₁,w₁,hq, .pass (x:= .inLoop c) rfl (fun _ _=> .inl (by simp)) harr⟩
   | ret=>exact⟨_,a₁,w₁,hq, .pass (x:= .inLoop c) rfl (fun _ _=> .inl (by simp)) harr⟩
   | panic ch=>exact⟨_,a₁,w₁,hq, .pass (x:= .inLoop c) rfl (fun _ _=> .inl (by simp)) harr⟩
   | outgrown=>exact⟨_,a₁,w₁,hq, .pass (x:= .inLoop c) rfl (fun _ _=> .inl (by simp)) harr⟩
 obtain⟨e,a',w',hq,harr⟩:=key n a w h₀
 exact⟨e,a',w',hq, .of_steps (.one step_loop) harr⟩
theorem Same.trans {W:Nat→Bool}{a b c:aU}(h:Same W a b)(k:Same W b c):Same W a c:=fun n hn=>(k n hn).trans (h n hn)
theorem Same.refl (W:Nat→Bool)(a:aU):Same W a a:=fun _ _=>rfl
theorem Pn {P:Program}(hm:P.follows .mixedOrders=true){N:Nat}{ds:List Deferred} : ∀(c:Code) (W:Nat→Bool) (Q:Ex→aU→World→Prop) (ρ aB:aU) (a:Act) (w:World),
  gy N W c=true→Fits N ds ρ a→Same W aB ρ→vC P c Q ρ w→c.wp P (CQ N ds W aB Q) a w:=by
 intro c
 induction c with
 | skip=>intro W Q ρ aB a w _ hf hs h;exact wp_skip ⟨ρ,hf,hs,h⟩
 | region id ops draw=>
  intro W Q ρ aB a w hc hf hs h
  have hok : ∀o∈ops.toList,iG N W o=true:=by simpa only [gy,List.all_eq_true]using hc
  have mono : ∀e a w,RQ N ds W aB (Q .normal) e a w→CQ N ds W aB Q e a w:=fun e a w hq=>by cases e<;>first | exact hq | exact hq.elim
  cases draw with
  | false=>
   refine Go.wp_mono (wp_region ?_) mono
   have hlen:ops.toList.length=ops.size:=by simp
   rw [List.range_eq_range', ←hlen]
   exact IE (K:=Q .normal) (Q:=RQ N ds W aB (Q .normal)) (fun ρ' a' w' hf' hs' hk=>⟨ρ',hf',hs',hk⟩) ops.toList 0 ρ a w (fun j=>by rw [Nat.zero_add]) hok hf hs h
  | true=>exact Go.wp_mono (qL.sound hm hok hf hs h) mono
 | seq x y Y4 ihy=>
  intro W Q ρ aB a w hc hf hs h
  simp only [gy,Bool.and_eq_true]at hc
  refine wp_seq (Go.wp_mono (Y4 W _ ρ aB a w hc.1 hf hs h) fun e a' w' hq=> ?_)
  cases e with
  | normal=>
   obtain⟨ρ',hf',hs',hv⟩:=hq
   exact ihy W Q ρ' aB a' w' hc.2 hf' hs' hv
  | exit id=>exact hq
  | ret=>exact hq
  | goto l=>exact hq
  | panic ch=>exact hq
  | outgrown=>exact hq
 | cond c x y Y4 ihy=>
  intro W Q ρ aB a w hc hf hs h
  simp only [gy,Bool.and_eq_true]at hc
  simp only [vC]at h
  split at h
  ·rename_i b hb
   refine wp_cond (t:=b) (by rw [hf.eval];exact hb) ?_
   cases b with
   | true=>exact Y4 W Q ρ aB a w hc.1 hf hs h
   | false=>exact ihy W Q ρ aB a w hc.2 hf hs h
  ·exact h.elim
 | block id b ih=>
  intro W Q ρ aB a w hc hf hs h
  refine wp_block (Go.wp_mono (ih W _ ρ aB a w hc hf hs h) fun e a' w' hq=> ?_)
  cases e with
  | normal=>exact hq
  | exit j=>
   obtain⟨ρ',hf',hs',hv⟩:=hq
   simp only [Ux]at hv
   simp only [Exit.inBlock]
   by_cases hj:j=id
   ·subst hj
    rw [Nat.beq_refl,cond_true]at hv
    simp only [if_true]
    exact⟨ρ',hf',hs',hv⟩
   ·have hb:Nat.beq j id=false:=by
     cases hb:Nat.beq j id with
     | false=>rfl
     | true=>exact absurd (Nat.eq_of_beq_eq_true hb) hj
    rw [hb,cond_false]at hv
    rw [if_neg hj]
    exact⟨ρ',hf',hs',hv⟩
  | ret=>exact hq
  | goto l=>exact hq
  | panic ch=>exact hq
  | outgrown=>exact hq
 | loop b ih=>
  intro W Q ρ aB a w hc hf hs h
  obtain⟨ws,I,n,hw,h₀,hr⟩:=h.ex
  have hc':=Dq b hc hw
  refine yU (fun n a' w'=> ∃ρ',I n ρ' w'∧Fits N ds ρ' a'∧Same (fun k=>W k&&ws k) ρ ρ') n ⟨ρ,h₀,hf,Same.refl _ _⟩ fun n a' w' ⟨ρ',hI,hf',hs'⟩=> ?_
  have hsw:Same ws ρ ρ':=fun k hk=>hs' k (by simp [hk])
  refine Go.wp_mono (ih (fun k=>W k&&ws k) _ ρ' ρ a' w' hc' hf' hs' (hr n ρ' w' hI hsw)) fun e a'' w'' hq=> ?_
  have up : ∀ {fD},Same (fun k=>W k&&ws k) ρ fD→Same W aB fD:=fun h'=>hs.trans fun k hk=>h' k (by simp [hk])
  cases e with
  | normal=>
   obtain⟨fD,lu,lC,⟨m,hlt,hI'⟩⟩:=hq
   exact⟨m,hlt,fD,hI',lu,lC⟩
  | exit id=>obtain⟨fD,lu,lC,hv⟩:=hq;exact⟨fD,lu,up lC,hv⟩
  | ret=>obtain⟨fD,lu,lC,hv⟩:=hq;exact⟨fD,lu,up lC,hv⟩
  | goto l=>exact hq
  | panic ch=>exact hq
  | outgrown=>exact hq
 | exit id=>intro W Q ρ aB a w _ hf hs h;exact Go.wp_exit ⟨ρ,hf,hs,h⟩
 | ret=>intro W Q ρ aB a w _ hf hs h;exact Go.wp_ret ⟨ρ,hf,hs,h⟩
 | _=>intro W Q ρ aB a w hc;simp [gy]at hc
structure kN (p:Prop):Prop where
 holds:p
def yV (P:Program)(rs:List ResultVar)(ρ:aU)(w:World)(k:List Value→Prop):Prop:=
 match rs with
 | []=>k []
 | .tmp t::r=>force (ρ t) fun v=>yV P r ρ w fun vs=>k (v::vs)
 | .cell a t::r=>(match ρ a with
  | .pointer (some a)=>bQ P (loadVar t a) w (wr true w fun v _=>yV P r ρ w fun vs=>k (v::vs))
  | _=>False)
def bH (vs:List Value):Value:=match vs with | [v]=>v | vs=> .tuple vs.toArray
def fin (P:Program)(fn:Func)(R:Value→World→Prop)(e:Ex)(ρ:aU)(w:World):Prop:=
 match e with
 | .normal=>yV P fn.results.toList ρ w fun vs=>kN (R (bH vs) w)
 | .ret=>yV P fn.results.toList ρ w fun vs=>kN (R (bH vs) w)
 | .exit _=>False
def nth (l:List Value)(n:Nat):Value:=
 match l,n with
 | [],_=>undef
 | v::_,0=>v
 | _::r,n+1=>nth r n
def iP (args:Array Value):aU:=fun n=>nth args.toList n
theorem rV (l:List Value) : ∀n,nth l n=l.getD n undef:=by
 induction l with
 | nil=>intro n;simp [nth]
 | cons v r ih=>intro n;cases n with
  | zero=>simp [nth]
  | succ n=>simp [nth,ih]
def BU (tmps:Array Value)(r:ResultVar):Sem Value:=
 match r with
 | .tmp t=>pure (tmps.getD t undef)
 | .cell a t=>do loadVar t (←asAddr (tmps.getD a undef))
theorem nY (fn:Func)(tmps:Array Value):results fn tmps=(do
  let vs ←fn.results.mapM (BU tmps)
  pure (if h:vs.size=1 then vs[0]else .tuple vs)):=by
 unfold results
 rfl
theorem yX {P:Program}{w:World}{ρ:aU}{tmps:Array Value}(hg : ∀t,tmps.getD t undef=ρ t) : ∀(rs:List ResultVar) (k:List Value→Prop),
  yV P rs ρ w k→∃vs,(rs.mapM (BU tmps)).run P w = .ok vs w∧k vs:=by
 intro rs
 induction rs with
 | nil=>intro k h;exact⟨[],by simp,h⟩
 | cons r rs ih=>
  intro k h
  cases r with
  | tmp t=>
   simp only [yV,force_eq]at h
   obtain⟨vs,hr,hk⟩:=ih _ h
   refine⟨_, ?_,hk⟩
   have h1:(BU tmps (.tmp t)).run P w = .ok (ρ t) w:=by simp only [BU,hg];rfl
   rw [List.mapM_cons,Sem.run_bind,h1]
   simp only [Result.andThen_ok,Sem.run_bind,hr,Sem.run_pure]
  | cell a t=>
   simp only [yV]at h
   split at h
   ·rename_i p hp
    obtain⟨v,hv,hk⟩:=h.same
    obtain⟨vs,hr,hk⟩:=ih _ hk
    refine⟨_, ?_,hk⟩
    have h1:(BU tmps (.cell a t)).run P w = .ok v w:=by
     simp only [BU,hg,hp,Sem.run_bind]
     have h2:(asAddr (Value.pointer (some p))).run P w = .ok p w:=rfl
     rw [h2,Result.andThen_ok,hv]
    rw [List.mapM_cons,Sem.run_bind,h1]
    simp only [Result.andThen_ok,Sem.run_bind,hr,Sem.run_pure]
   ·exact h.elim
theorem Fh {P:Program}{f:FuncId}{fn:Func}{c:Code}{args:Array Value}{w:World}{R:Value→World→Prop}
  (hf:P.funcs[f]? = some fn) (hb:fn.body=some c) (hm:P.follows .mixedOrders=true) (hN:args.size≤fn.ntmps) (hok:gy fn.ntmps (fun _=>true) c=true)
  (h:vC P c (fin P fn R) (iP args) w):Calls P f args w fun e w'=> ∃v,e = .returned v∧R v w':=by
 refine calls_of_wp hf hb ?_
 have hfit:Fits fn.ntmps [] (iP args) {tmps:=args++Array.replicate (fn.ntmps-args.size) undef,defers:= []}:=by
  refine⟨by simp;omega,fun t=> ?_,rfl⟩
  simp only [iP,rV]
  rw [Array.getD_eq_getD_getElem?,List.getD_eq_getElem?_getD,Array.getElem?_append]
  by_cases ht:t<args.size
  ·simp [ht]
  ·simp only [ht,if_false,Array.getElem?_toList]
   rw [Array.getElem?_eq_none (Nat.le_of_not_lt ht)]
   by_cases h2:t-args.size<fn.ntmps-args.size
   ·simp [h2]
   ·simp [h2]
 refine Go.wp_mono (Pn hm c (fun _=>true) _ _ _ _ w hok hfit (Same.refl _ _) h) fun e a' w' hq=> ?_
 have res : ∀ {ρ':aU},Fits fn.ntmps [] ρ' a'→(yV P fn.results.toList ρ' w' fun vs=>kN (R (bH vs) w'))→
   a'.defers = []∧∃v,(results fn a'.tmps).run P w' = .ok v w'∧∃u,Ending.returned v = .returned u∧R u w':=by
  intro ρ' hf' hv
  obtain⟨vs,hr,hk⟩:=yX hf'.get _ _ hv
  refine⟨hf'.defers,bH vs, ?_,bH vs,rfl,hk.holds⟩
  rw [nY,Sem.run_bind,Array.mapM_eq_mapM_toList,Sem.run_map]
  rw [hr]
  simp only [Result.andThen_ok,Sem.run_pure]
  congr 1
  match vs with
  | []=>rfl
  | [v]=>rfl
  | v::u::r=>simp [bH]
 cases e with
 | normal=>obtain⟨ρ',hf',_,hv⟩:=hq;exact res hf' hv
 | ret=>obtain⟨ρ',hf',_,hv⟩:=hq;exact res hf' hv
 | exit id=>obtain⟨ρ',hf',_,hv⟩:=hq;exact hv.elim
 | goto l=>exact hq.elim
 | panic ch=>exact hq.elim
 | outgrown=>exact hq.elim
def look (l:List (Nat×Value))(n:Nat):Option Value:=
 match l with
 | []=>none
 | p::r=>bif Nat.beq n p.1 then some p.2 else look r n
def mP (l:List (Nat×Nat))(n:Nat):Bool:=
 match l with
 | []=>false
 | p::r=>bif Nat.ble p.1 n&&Nat.ble n p.2 then true else mP r n
def frm (sl:List (Nat×Value))(ws:List (Nat×Nat))(j ρ:aU):aU:=fun n=>
 match look sl n with
 | some v=>v
 | none=>bif mP ws n then j n else ρ n
def hold (sl:List (Nat×Value))(ρ:aU):Prop:=
 match sl with
 | []=>True
 | p::r=>ρ p.1=p.2∧hold r ρ
theorem Nq {sl:List (Nat×Value)}{ρ:aU}{n:Nat}{v:Value}(h:hold sl ρ)(hl:look sl n=some v):ρ n=v:=by
 induction sl with
 | nil=>cases hl
 | cons p r ih=>
  simp only [look]at hl
  cases hb:Nat.beq n p.1 with
  | true=>
   rw [hb,cond_true]at hl
   rw [Nat.eq_of_beq_eq_true hb]
   injection hl with hl
   rw [←hl]
   exact h.1
  | false=>rw [hb,cond_false]at hl;exact ih h.2 hl
theorem Y5 {sl:List (Nat×Value)}{ws:List (Nat×Nat)}{ρ ρ':aU}(h:hold sl ρ')(hs:Same (mP ws) ρ ρ'):ρ'=frm sl ws ρ' ρ:=by
 funext n
 unfold frm
 cases hl:look sl n with
 | some v=>exact Nq h hl
 | none=>
  cases hm:mP ws n with
  | true=>rfl
  | false=>exact hs n hm
theorem lD {X:Type}{body:Code}{B:(Ex→aU→World→Prop)→aU→World→Prop}{Q:Ex→aU→World→Prop}{ρ:aU}{w:World}
  (ws:List (Nat×Nat)) (sl:X→List (Nat×Value)) (J:X→World→Prop) (μ:X→Nat) (x₀:X)
  (hw:writesIn (mP ws) body=true) (h₀:hold (sl x₀) ρ) (hJ:J x₀ w)
  (hr : ∀x w' j,J x w'→B (Yr (fun fD w''=>kM (∃m,m<μ x∧∃x',μ x'=m∧hold (sl x') fD∧J x' w'')) Q) (frm (sl x) ws j ρ) w') :
  Pm body B Q ρ w:=
 ⟨mP ws,fun n ρ' w'=> ∃x,μ x=n∧hold (sl x) ρ'∧J x w',μ x₀,hw,⟨x₀,rfl,h₀,hJ⟩,fun n ρ' w' ⟨x,hx,hh,hJ'⟩ hs=>by
  subst hx
  have h1:=hr x w' ρ' hJ'
  rw [←Y5 hh hs]at h1
  exact h1⟩
structure Only (b:Nat)(w w':World):Prop where
 os:w'.os=w.os
 tape:w'.tape=w.tape
 output:w'.output=w.output
 size:w'.heap.size=w.heap.size
 block : ∀k,k≠b→w'.heap[k]? = w.heap[k]?
theorem Only.refl (b:Nat)(w:World):Only b w w:=⟨rfl,rfl,rfl,rfl,fun _ _=>rfl⟩
theorem Only.trans {b:Nat}{u v w:World}(h:Only b u v)(k:Only b v w):Only b u w:=
 ⟨k.os.trans h.os,k.tape.trans h.tape,k.output.trans h.output,k.size.trans h.size,fun i hi=>(k.block i hi).trans (h.block i hi)⟩
theorem Only.drew {b:Nat}{u v:World}(h:Only b u v):Only b u v.drew:=⟨h.os,h.tape,h.output,h.size,h.block⟩
theorem Only.IK {b:Nat}{u v:World}(h:Only b u.drew v):Only b u v:=⟨h.os,h.tape,h.output,h.size,h.block⟩
theorem Only.step {b:Nat}{u v w:World}(k:Only b u.drew v)(h:Only b w u):Only b w v:=h.trans k.IK
theorem Only.abV {b:Nat}{u v w:World}(k:Only b u v)(h:Only b w u):Only b w v:=h.trans k
theorem Only.below {b B:Nat}{w w':World}(h:Only b w w')(hB:B≤b):Below B w w':=
 ⟨h.os,h.tape,h.output,Nat.le_of_eq h.size.symm,fun k hk=>h.block k (by omega)⟩
theorem Below.IK {B:Nat}{u v:World}(h:Below B u.drew v):Below B u v:=⟨h.os,h.tape,h.output,h.size,h.block⟩
theorem BZ {B:Nat}{u v:World}(h:Below B u v):Below B u v.drew:=⟨h.os,h.tape,h.output,h.size,h.block⟩
structure Quiet (w w':World):Prop where
 os:w'.os=w.os
 tape:w'.tape=w.tape
 output:w'.output=w.output
 heap:w'.heap=w.heap
theorem Quiet.refl (w:World):Quiet w w:=⟨rfl,rfl,rfl,rfl⟩
theorem Quiet.trans {a b c:World}(h:Quiet a b)(k:Quiet b c):Quiet a c:=⟨k.os.trans h.os,k.tape.trans h.tape,k.output.trans h.output,k.heap.trans h.heap⟩
theorem Quiet.drew {a b:World}(h:Quiet a b):Quiet a b.drew:=⟨h.os,h.tape,h.output,h.heap⟩
theorem Quiet.below {a b:World}(h:Quiet a b)(B:Nat):Below B a b:=⟨h.os,h.tape,h.output,by rw [h.heap];exact Nat.le_refl _,fun k _=>by rw [h.heap]⟩
theorem Quiet.only {a b:World}(h:Quiet a b)(B:Nat):Only B a b:=⟨h.os,h.tape,h.output,by rw [h.heap],fun k _=>by rw [h.heap]⟩
def jC (w:World)(b:Nat)(l:List Value)(t:TypeId):Prop:=w.heap[b]? = some (.cells l.toArray t (0,0))
theorem jC.lt {w:World}{b:Nat}{l:List Value}{t:TypeId}(h:jC w b l t):b<w.heap.size:=(Array.getElem?_eq_some_iff.1 h).1
theorem jC.cell {w:World}{b:Nat}{l:List Value}{t:TypeId}(h:jC w b l t)(o:Nat):w.cell? ⟨b,o,none⟩=l[o]? :=by
 have h':w.heap[b]? = some (.cells l.toArray t (0,0)):=h
 simp [World.cell?,h']
theorem jC.only {w w':World}{b c:Nat}{l:List Value}{t:TypeId}(h:jC w b l t)(ho:Only c w w')(hne:b≠c):jC w' b l t:=(ho.block b hne).trans h
theorem jC.below {w w':World}{b B:Nat}{l:List Value}{t:TypeId}(h:jC w b l t)(hb:Below B w w')(hlt:b<B):jC w' b l t:=(hb.block b hlt).trans h
theorem jC.quiet {w w':World}{b:Nat}{l:List Value}{t:TypeId}(h:jC w b l t)(hq:Quiet w w'):jC w' b l t:=by
 unfold jC at *;rw [hq.heap];exact h
theorem jC.new (w:World)(cs:Array Value)(t:TypeId):jC (w.alloc (.cells cs t)) w.heap.size cs.toList t:=by
 unfold jC
 rw [heap_alloc_new w]
theorem jC.alloc {w:World}{b:Nat}{l:List Value}{t:TypeId}(h:jC w b l t)(o:Obj):jC (w.alloc o) b l t:=
 (heap_alloc_old w o b h.lt).trans h
def wQ (P:Program)(f:FuncId)(args:Array Value)(w:World)(R:Value→World→Prop):Prop:=Calls P f args w fun e w'=> ∃v,e = .returned v∧R v w'
theorem wQ.mono {P:Program}{f:FuncId}{args:Array Value}{w:World}{R R':Value→World→Prop}(h:wQ P f args w R)(k : ∀v w',R v w'→R' v w'):wQ P f args w R':=
 Calls.mono h fun _ _ ⟨v,he,hr⟩=>⟨v,he,k _ _ hr⟩
theorem fE {P:Program}{f:FuncId}{fn:Func}{c:Code}{args:Array Value}{w:World}{R:Value→World→Prop}
  (hf:P.funcs[f]? = some fn) (hb:fn.body=some c) (hm:P.follows .mixedOrders=true) (hok:(Nat.ble args.size fn.ntmps&&gy fn.ntmps (fun _=>true) c)=true)
  (h:vC P c (fin P fn R) (iP args) w):wQ P f args w R:=by
 simp only [Bool.and_eq_true]at hok
 exact Fh hf hb hm (Nat.le_of_ble_eq_true hok.1) hok.2 h
theorem lF {P:Program}{f:FuncId}{args:Array Value}{w:World}{K:Value→World→Prop}{R:Value→World→Prop}(hc:callable P f=true)(h:wQ P f args w R)
  (k : ∀v w',R v w'→K v w'):O4 P f args w K:=⟨hc,h.mono k⟩
theorem jJ {k:IntKind}{a b:Int}(h:a=b):Value.int k a=Value.int k b:=by rw [h]
theorem incr {i:Nat}(h:i<9223372036854775807):IntKind.i64.wrap ((i:Int)+1)=((i+1:Nat):Int):=by
 rw [IntWalk.i64_in _ (by omega)]
 rfl
def szB (P:Program)(t:TypeId):Option Nat:=(P.info? t).map (·.size)
theorem gQ {P:Program}{t:TypeId}{n:Nat}(h:szB P t=some n) : ∃i,P.info? t=some i∧i.size=n:=by
 unfold szB at h
 cases hi:P.info? t with
 | none=>simp [hi]at h
 | some i=>simp only [hi,Option.map_some,Option.some.injEq]at h;exact⟨i,rfl,h⟩
theorem gU {P:Program}{t:TypeId}{n:Nat}{w:World}(h:szB P t=some n):(sizeOf t).run P w = .ok n w:=by
 obtain⟨i,hi,rfl⟩:=gQ h
 simp [sizeOf,jh hi]
theorem dZ {P:Program}{s:Sem Value}{w w':World}{v:Value}{K:Value→World→Prop}(h:s.run P w = .ok v w')(k:K v w'):bQ P s w K:=⟨v,w',h,k⟩
theorem add0 (b o n:Nat):(⟨b,o,none⟩:Addr).add n=⟨b,o+n,none⟩:=by unfold Addr.add;split<;>simp_all
section
variable {P:Program}{w:World}{K:Value→World→Prop}
theorem eP {t:TypeId}{a:Addr}{v:Value}(ha:oW P t=some false)(h:w.cell? a=some v)(k:K v w):bQ P (loadVar t a) w K:=by
 refine dZ ?_ k
 unfold loadVar
 rw [Sem.run_bind,iV ha]
 simp [h]
theorem dh {t T:TypeId}{b o:Nat}{l:List Value}{v:Value}(ha:oW P t=some false)(hb:jC w b l T)(hv:l[o]? = some v)(k:K v w):bQ P (loadVar t ⟨b,o,none⟩) w K:=
 eP ha (by rw [hb.cell];exact hv) k
theorem run_loadCellsFrom (a:Addr) : ∀(l:List Value) (i:Nat) (acc:Array Value),(∀j v,l[j]? = some v→w.cell? (a.add (i+j))=some v)→
  (loadCellsFrom a i l.length acc).run P w = .ok (acc++l.toArray) w:=by
 intro l
 induction l with
 | nil=>intro i acc _;simp [loadCellsFrom]
 | cons v r ih=>
  intro i acc h
  have h0:=h 0 v rfl
  simp only [Nat.add_zero]at h0
  simp only [List.length_cons,loadCellsFrom,Sem.run_bind,run_load,h0,Result.andThen_ok]
  rw [ih (i+1) _ (fun j u hj=>by have:=h (j+1) u (by simpa using hj);rw [show i+1+j=i+(j+1) by omega];exact this)]
  simp
theorem Po {t:TypeId}{a:Addr}{l:List Value}(ha:oW P t=some true)(hs:szB P t=some l.length)(h : ∀j v,l[j]? = some v→w.cell? (a.add j)=some v)
  (k:K (.agg l.toArray) w):bQ P (loadVar t a) w K:=by
 refine dZ ?_ k
 unfold loadVar
 rw [Sem.run_bind,iV ha]
 simp only [Result.andThen_ok,if_true,Sem.run_bind,gU hs,loadCells]
 rw [run_loadCellsFrom a l 0 #[] (fun j v hj=>by rw [Nat.zero_add];exact h j v hj)]
 simp
theorem Nr {t:TypeId}{a:Addr}{v u:Value}{K:World→Prop}(hs:szB P t=some 1)(hv:v.oneCell'=true)(h:w.cell? a=some u)(hf:w.frozen? a=false)
  (k:K (w.setCell a v)):lX P (storeVar t a v) w K:=by
 have hc:v.cells = #[v]:=by cases v<;>first | rfl | simp [Value.oneCell']at hv
 have ha:a.add 0=a:=by simp [Addr.add]
 refine⟨(),_, ?_,k⟩
 unfold storeVar
 simp only [Sem.run_bind,gU hs,Result.andThen_ok,hc]
 simp [storeCells,ha,run_store P w a v _ hv,h,hf]
theorem Dt {b o:Nat}{l:List Value}{T:TypeId}(hb:jC w b l T)(v:Value):Only b w (w.setCell ⟨b,o,none⟩ v)∧jC (w.setCell ⟨b,o,none⟩ v) b (l.set o v) T:=by
 have hb':w.heap[b]? = some (.cells l.toArray T (0,0)):=hb
 refine⟨⟨rfl,rfl,rfl,by simp,fun k hk=>Below.heap_setCell _ _ _ _ hk⟩, ?_⟩
 unfold jC
 rw [setCell_eq_setRow w b o _ T (0,0) v hb',setRow_heap w b _ _ T (0,0) hb']
 simp
theorem bU {t T:TypeId}{b o:Nat}{l:List Value}{v:Value}{K:World→Prop}(hb:jC w b l T)(hs:szB P t=some 1)(hv:v.oneCell'=true)(hlt:Nat.blt o l.length=true)
  (k : ∀w',Only b w w'→jC w' b (l.set o v) T→K w'):lX P (storeVar t ⟨b,o,none⟩ v) w K:=by
 have hb':w.heap[b]? = some (.cells l.toArray T (0,0)):=hb
 have ho:o<l.length:=Nat.le_of_ble_eq_true hlt
 refine Nr hs hv (u:=l[o]) (by rw [hb.cell];exact List.getElem?_eq_getElem ho) (by simp [World.frozen?,hb']) ?_
 exact k _ (Dt hb v).1 (Dt hb v).2
theorem oK {b:Nat}{T:TypeId} : ∀(vs:List Value) (i o:Nat) (l:List Value) (w:World),jC w b l T→o+i+vs.length≤l.length→(∀v∈vs,v.oneCell'=true)→
  ∃w',(storeCells ⟨b,o,none⟩ vs i).run P w = .ok () w'∧Only b w w'∧jC w' b (kE l (o+i) vs) T:=by
 intro vs
 induction vs with
 | nil=>intro i o l w hb _ _;exact⟨w,by simp [storeCells],Only.refl _ _,hb⟩
 | cons v r ih=>
  intro i o l w hb hl h1
  simp only [List.length_cons]at hl
  have hb':w.heap[b]? = some (.cells l.toArray T (0,0)):=hb
  have hcell:w.cell? ⟨b,o+i,none⟩=some l[o+i]:=by rw [hb.cell];exact List.getElem?_eq_getElem (by omega)
  have hfro:w.frozen? ⟨b,o+i,none⟩=false:=by simp [World.frozen?,hb']
  obtain⟨ho1,hb1⟩:=Dt (o:=o+i) hb v
  obtain⟨w',hr,ho,hbw⟩:=ih (i+1) o (l.set (o+i) v) _ hb1 (by simp;omega) (fun u hu=>h1 u (by simp [hu]))
  refine⟨w', ?_,ho1.trans ho, ?_⟩
  ·simp only [storeCells,Sem.run_bind,add0,run_store P w _ v _ (h1 v (by simp)),hcell,hfro]
   simp only [Bool.false_eq_true,if_false,Result.andThen_ok]
   exact hr
  ·simp only [kE];exact hbw
theorem Ns {t T:TypeId}{b o:Nat}{l vs:List Value}{K:World→Prop}(hb:jC w b l T)(hs:szB P t=some vs.length)(h1:vs.all (·.oneCell')=true)
  (hl:Nat.ble (o+vs.length) l.length=true) (k : ∀w',Only b w w'→jC w' b (kE l o vs) T→K w'):lX P (storeVar t ⟨b,o,none⟩ (.agg vs.toArray)) w K:=by
 obtain⟨w',hr,ho,hbw⟩:=oK (P:=P) vs 0 o l w hb (by have:=Nat.le_of_ble_eq_true hl;omega) (List.all_eq_true.1 h1)
 refine⟨(),w', ?_,k w' ho hbw⟩
 unfold storeVar
 simp only [Sem.run_bind,gU hs,Result.andThen_ok,Value.cells]
 simp [hr]
theorem Du {t e:TypeId}{n sz b o:Nat}{k:IntKind}{ix:Int}(m:Nat)(hu:P.underlying t=some (.array n e))(hs:szB P e=some sz)(hm:ix=m)(h:m<n)
  (hk:K (.pointer (some ⟨b,o+m*sz,none⟩)) w):bQ P (Instr.indexAt t (.pointer (some ⟨b,o,none⟩)) (.int k ix)) w K:=by
 refine dZ ?_ hk
 subst hm
 have h1:(0:Int)≤m∧(m:Int)<n:=⟨by omega,by omega⟩
 unfold Instr.indexAt
 simp [asIntOf,aO hu,Instr.sureAddr,h,gU hs,add0]
theorem xQ {t e:TypeId}{n b o:Nat}{k:IntKind}{ix:Int}(m:Nat)(hu:P.underlying t=some (.array n e))(hs:szB P e=some 1)(hm:ix=m)(h:m<n)
  (hk:K (.pointer (some ⟨b,o+m,none⟩)) w):bQ P (Instr.indexAt t (.pointer (some ⟨b,o,none⟩)) (.int k ix)) w K:=
 Du m hu hs hm h (by rw [Nat.mul_one];exact hk)
theorem dN {t e:TypeId}{n b o:Nat}{k:IntKind}{m:Nat}(hu:P.underlying t=some (.array n e))(hs:szB P e=some 1)(h:Nat.blt m n=true)
  (hk:K (.pointer (some ⟨b,o+m,none⟩)) w):bQ P (Instr.indexAt t (.pointer (some ⟨b,o,none⟩)) (.int k (OfNat.ofNat m))) w K:=
 xQ m hu hs rfl (Nat.le_of_ble_eq_true h) hk
theorem Fj {t e:TypeId}{sz b o n c:Nat}{k:IntKind}{ix:Int}(m:Nat)(hu:P.underlying t=some (.slice e))(hs:szB P e=some sz)(hm:ix=m)(h:m<n)
  (hk:K (.pointer (some ⟨b,o+m*sz,none⟩)) w):bQ P (Instr.indexAt t (.slice (some ⟨b,o,none⟩) n c) (.int k ix)) w K:=by
 refine dZ ?_ hk
 subst hm
 have h1:(0:Int)≤m∧(m:Int)<n:=⟨by omega,by omega⟩
 unfold Instr.indexAt
 simp [asIntOf,aO hu,h,gU hs,add0]
theorem Dv {t e:TypeId}{b o n c:Nat}{k:IntKind}{ix:Int}(m:Nat)(hu:P.underlying t=some (.slice e))(hs:szB P e=some 1)(hm:ix=m)(h:m<n)
  (hk:K (.pointer (some ⟨b,o+m,none⟩)) w):bQ P (Instr.indexAt t (.slice (some ⟨b,o,none⟩) n c) (.int k ix)) w K:=
 Fj m hu hs hm h (by rw [Nat.mul_one];exact hk)
end
def Row (w:World)(oa:Option Addr)(vs:List Value):Prop:=
 vs = []∨∃b o,oa=some ⟨b,o,none⟩∧b<w.heap.size∧∀j v,vs[j]? = some v→w.cell? ⟨b,o+j,none⟩=some v
theorem Row.get {w:World}{oa:Option Addr}{vs:List Value}(h:Row w oa vs)(hne:0<vs.length) :
  ∃b o,oa=some ⟨b,o,none⟩∧b<w.heap.size∧∀j v,vs[j]? = some v→w.cell? ⟨b,o+j,none⟩=some v:=
 h.resolve_left fun e=>by simp [e]at hne
theorem Row.below {w w':World}{oa:Option Addr}{vs:List Value}(h:Row w oa vs)(hb:Below w.heap.size w w'):Row w' oa vs:=by
 rcases h with h | ⟨b,o,he,hlt,hc⟩
 ·exact .inl h
 ·exact .inr ⟨b,o,he,Nat.lt_of_lt_of_le hlt hb.size,fun j v hj=>by rw [hb.cell (p:=⟨b,o+j,none⟩) hlt];exact hc j v hj⟩
theorem Row.nil (w:World)(oa:Option Addr):Row w oa []:= .inl rfl
def dw (l:List UInt8):List Value:=l.map fun x=> .int .u8 x.toNat
theorem nD {l:List UInt8}{j:Nat}(h:j<l.length):(dw l)[j]? = some (.int .u8 l[j].toNat):=by simp [dw,h]
@[simp] theorem bvals_len (l:List UInt8):(dw l).length=l.length:=by simp [dw]
def Own (w:World)(B:Nat)(E:TypeId)(sz:Nat)(oa:Option Addr)(n c:Nat)(xs:List Value):Prop:=w.ownsRow B E sz (.slice oa n c) n xs
theorem Own.len {w:World}{B:Nat}{E:TypeId}{sz:Nat}{oa:Option Addr}{n c:Nat}{xs:List Value}(h:Own w B E sz oa n c xs):xs.length=n*sz:=h.1
theorem Own.nil (w:World)(B:Nat)(E:TypeId)(sz:Nat):Own w B E sz none 0 0 []:=World.ownsRow_nil w B E sz
theorem Own.row {w:World}{B:Nat}{E:TypeId}{sz:Nat}{oa:Option Addr}{n c:Nat}{xs:List Value}(h:Own w B E sz oa n c xs):Row w oa xs:=by
 rcases h.2 with ⟨hv,hn⟩ | ⟨g,cap,cur,hv,hg,hh,_⟩
 ·subst hn
  exact .inl (List.eq_nil_of_length_eq_zero (by simpa using h.1))
 ·injection hv with h1 h2 h3
  subst h1
  refine .inr ⟨g,0,rfl,(Array.getElem?_eq_some_iff.1 hh).1,fun j v hj=> ?_⟩
  have:=World.ownsRow.cells (h:w.ownsRow B E sz (.slice (some ⟨g,0,none⟩) n c) n xs) (g:=g) rfl j v hj
  rw [add0]at this
  exact this
def ownB (oa:Option Addr):Option Nat:=oa.map (·.block)
theorem rW (oa:Option Addr)(n c:Nat):(Value.slice oa n c).ownBlock=ownB oa:=by cases oa<;>rfl
theorem Own.kept {w w':World}{B:Nat}{E:TypeId}{sz:Nat}{oa:Option Addr}{n c:Nat}{xs:List Value}{row:Option Nat}(h:Own w B E sz oa n c xs)(hg:w.grownBy w' row)
  (hne:ownB oa=none∨ownB oa≠row):Own w' B E sz oa n c xs:=World.ownsRow.kept h hg (by rw [rW];exact hne)
theorem Own.ge {w:World}{B:Nat}{E:TypeId}{sz:Nat}{oa:Option Addr}{n c:Nat}{xs:List Value}(h:Own w B E sz oa n c xs) : ∀k,ownB oa=some k→B≤k∧k<w.heap.size:=by
 intro k hk
 exact World.ownsRow.lt h k (by rw [rW];exact hk)
theorem Own.below {w w':World}{B:Nat}{E:TypeId}{sz:Nat}{oa:Option Addr}{n c:Nat}{xs:List Value}(h:Own w B E sz oa n c xs)(hb:Below w.heap.size w w'):Own w' B E sz oa n c xs:=
 Own.kept h (row:=none) ⟨hb.os,hb.tape,hb.output,hb.size,fun k hk _=>hb.block k hk⟩ (by cases h:ownB oa<;>simp)
theorem grown_below {w w':World}{B:Nat}{row:Option Nat}(hg:w.grownBy w' row)(hB:B≤w.heap.size)(hr : ∀k,row=some k→B≤k):Below B w w':=
 (Below.refl B w).grown hg hB hr
theorem Row.alloc1 (w:World)(l:List Value)(t:TypeId):Row (w.alloc (.cells l.toArray t)) (some ⟨w.heap.size,0,none⟩) l:=
 .inr ⟨w.heap.size,0,rfl,by simp,fun j v hj=>by have:=(jC.new w l.toArray t).cell j;rw [Nat.zero_add,this];exact hj⟩
theorem jC.row {w:World}{b:Nat}{l:List Value}{t:TypeId}(h:jC w b l t):Row w (some ⟨b,0,none⟩) l:=
 .inr ⟨b,0,rfl,h.lt,fun j v hj=>by rw [Nat.zero_add,h.cell];exact hj⟩
theorem uZ {P:Program}{w:World}{t T:TypeId}{b o:Nat}{l:List Value}{v:Value}{K:World→Prop}(hb:jC w b l T)(hs:szB P t=some 1)(hv:v.oneCell'=true)(hlt:o<l.length)
  (k : ∀w',Only b w w'→jC w' b (l.set o v) T→K w'):lX P (storeVar t ⟨b,o,none⟩ v) w K:=
 bU hb hs hv (Nat.ble_eq_true_of_le hlt) k
theorem Own.alloc {w:World}{B:Nat}{E:TypeId}{sz:Nat}{oa:Option Addr}{n c:Nat}{xs:List Value}(h:Own w B E sz oa n c xs)(o:Obj):Own (w.alloc o) B E sz oa n c xs:=
 h.below ((Below.refl _ _).alloc (Nat.le_refl _) o)
theorem Row.drew {w:World}{oa:Option Addr}{vs:List Value}(h:Row w oa vs):Row w.drew oa vs:=h
theorem Row.alloc {w:World}{oa:Option Addr}{vs:List Value}(h:Row w oa vs)(o:Obj):Row (w.alloc o) oa vs:=h.below ((Below.refl _ _).alloc (Nat.le_refl _) o)
theorem lG {B:Nat}{w w':World}(h:Below B w w')(hB:B≤w.heap.size)(o:Obj):Below B w (w'.alloc o):=h.alloc (Nat.le_trans hB h.size) o
theorem Uy {oa:Option Addr}{n m c:Nat}(h:n=m):Value.slice oa n c=Value.slice oa m c:=by rw [h]
def gB (P:Program)(t:TypeId):Option Nat:=(P.info? t).map (·.bytes)
def lZ (P:Program)(t:TypeId):Option (List Value):=(P.info? t).bind fun i=>i.zero.map fun z=>z.cells.toList
section
variable {P:Program}{w:World}{K:Value→World→Prop}
theorem pX {t ty E:TypeId}{sz iQ B n c m c2:Nat}{oa wR:Option Addr}{xs news zs:List Value}
  (ht:P.underlying t=some (.slice E)) (hs:szB P E=some sz) (hby:gB P E=some iQ) (hz:lZ P E=some zs) (hzl:zs.length=sz) (hsz:Nat.ble 1 sz=true)
  (hown:Own w B E sz oa n c xs) (hr:Row w wR news) (hl:news.length=m*sz) (h1 : ∀u∈news,u.oneCell'=true)
  (hnil:wR=none→c2=0)
  (hbytes:(n+m)*iQ≤140737488355328) (hB:B≤w.heap.size) (hlen:n+m≤maxLen)
  (k : ∀iq c' w',Own w' B E sz iq (n+m) c' (xs++news)→Below B w w'→w.grownBy w' (ownB oa)→K (.slice iq (n+m) c') w') :
  bQ P (Builtin.append_ #[t,t] ty #[.slice oa n c, .slice wR m c2]) w K:=by
 obtain⟨i,hi,rfl⟩:=gQ hs
 have hb':i.bytes=iQ:=by simpa [gB,hi]using hby
 obtain⟨z,hz1,hz2⟩ : ∃z,i.zero=some z∧z.cells.toList=zs:=by
  unfold lZ at hz
  simp only [hi,Option.bind_some]at hz
  cases hzz:i.zero with
  | none=>simp [hzz]at hz
  | some z=>simp only [hzz,Option.map_some,Option.some.injEq]at hz;exact⟨z,rfl,hz⟩
 have hsz':0<i.size:=Nat.le_of_ble_eq_true hsz
 have hzc:z.cells.size=i.size:=by rw [←hz2]at hzl;simpa using hzl
 by_cases hm:wR=none
 ·subst hm
  have hm0:news = []:=hr.resolve_right (by rintro⟨b,o,he,_⟩;cases he)
  subst hm0
  have:m=0:=by
   rcases Nat.eq_zero_or_pos m with h | h
   ·exact h
   ·have:=Nat.mul_pos h hsz';simp at hl;omega
  subst this
  have hc2:=hnil rfl
  subst hc2
  have hrun:=run_append_owned_none (P:=P) (w:=w) B t ty E i i.size ht hi (.slice oa n c) n xs hown
  refine dZ hrun ?_
  have hk:=k oa c w (by simpa using hown) (Below.refl _ _) ⟨rfl,rfl,rfl,Nat.le_refl _,fun _ _ _=>rfl⟩
  simpa using hk
 ·obtain⟨ad,rfl,hcells⟩ : ∃ad,wR=some ad∧∀j u,news[j]? = some u→w.cell? (ad.add j)=some u:=by
   rcases hr with rfl | ⟨b,o,rfl,_,hc⟩
   ·cases wR with
    | none=>exact absurd rfl hm
    | some ad=>exact⟨ad,rfl,by simp⟩
   ·exact⟨_,rfl,fun j u hj=>by rw [add0];exact hc j u hj⟩
  obtain⟨v',w',hrun,ho,hg,_⟩:=run_append_own (P:=P) w B t ty E i z i.size iQ ht hi hz1 rfl hb' hzc hsz' (.slice oa n c) n xs hown ad m c2 news hl hcells h1 hlen hbytes hB
  rw [rW]at hg
  have hv : ∃iq c',v' = .slice iq (n+m) c':=by
   rcases ho.2 with ⟨h,h0⟩ | ⟨g,cap,cur,h,_⟩
   ·exact⟨none,0,by rw [h,h0]⟩
   ·exact⟨_,cap,h⟩
  obtain⟨iq,c',rfl⟩:=hv
  exact dZ hrun (k iq c' w' ho (grown_below hg hB fun k hk=>(hown.ge k hk).1) hg)
theorem Uz {t E:TypeId}{sz iQ n:Nat}{kl kc:IntKind}{l c:Int}{zs:List Value}
  (ht:P.underlying t=some (.slice E)) (hs:szB P E=some sz) (hby:gB P E=some iQ) (hz:lZ P E=some zs) (hzl:zs.length=sz) (hsz:Nat.ble 1 sz=true)
  (hl:l=n) (hc:c=n) (hbytes:iQ*n≤140737488355328) (hn:n≤maxLen)
  (k : ∀w',w'=w.alloc (.cells (List.replicate n zs).flatten.toArray E)→jC w' w.heap.size (List.replicate n zs).flatten E→K (.slice (some ⟨w.heap.size,0,none⟩) n n) w') :
  bQ P (Instr.makeSlice t (.int kl l) (.int kc c)) w K:=by
 subst hl;subst hc
 obtain⟨i,hi,rfl⟩:=gQ hs
 have hb':i.bytes=iQ:=by simpa [gB,hi]using hby
 subst hb'
 obtain⟨z,hz1,hz2⟩ : ∃z,i.zero=some z∧z.cells.toList=zs:=by
  unfold lZ at hz
  simp only [hi,Option.bind_some]at hz
  cases hzz:i.zero with
  | none=>simp [hzz]at hz
  | some z=>simp only [hzz,Option.map_some,Option.some.injEq]at hz;exact⟨z,rfl,hz⟩
 have hsz':1≤i.size:=Nat.le_of_ble_eq_true hsz
 have hzc:z.cells.size=i.size:=by rw [←hz2]at hzl;simpa using hzl
 have h63:(n:Int)≤9223372036854775807:=by unfold maxLen at hn;omega
 have hbi:(i.bytes:Int)*(n:Int)≤281474976710656:=by
  rw [←Int.natCast_mul]
  omega
 have hrun:=run_make (P:=P) w t E i z ht hi hz1 kl kc n n (by omega) (by omega) hbi h63
 have hmc:madeCells z.cells (n*i.size)=(List.replicate n zs).flatten.toArray:=by
  rw [←hz2, ←uU z.cells n i.size hzc hsz']
  unfold madeCells
  rfl
 simp only [Int.toNat_natCast]at hrun
 rw [hmc]at hrun
 exact dZ hrun (k _ rfl (by have:=jC.new w (List.replicate n zs).flatten.toArray E;simpa using this))
theorem yY {t E:TypeId}{sz n c h:Nat}{oa:Option Addr}{kh:IntKind}{hi:Int}(ht:P.underlying t=some (.slice E))(hs:szB P E=some sz)
  (he:hi=h) (hh:h≤n) (hc:n≤c) (k:K (.slice oa h c) w):bQ P (Instr.sliceAt t (.slice oa n c) none (some (.int kh hi)) none) w K:=by
 refine dZ ?_ k
 subst he
 have h1:(0:Int)≤h∧(h:Int)≤c:=⟨by omega,by omega⟩
 unfold Instr.sliceAt
 rw [Sem.run_bind,aO ht]
 simp only [Result.andThen_ok]
 unfold Instr.slice
 rw [Sem.run_bind,aO ht]
 simp only [Result.andThen_ok,Instr.sliceBounds,Instr.sliceBound,asIntOf,Sem.run_bind,Sem.run_pure,if_pos h1,gU hs]
 congr 1
 cases oa with
 | none=>by_cases hc0:c=0<;>simp [hc0]
 | some a=>by_cases hc0:c=0<;>simp [hc0,Addr.add]
theorem Row.take {oa:Option Addr}{vs:List Value}(h:Row w oa vs)(n:Nat):Row w oa (vs.take n):=by
 rcases h with h | ⟨b,o,he,hlt,hc⟩
 ·exact .inl (by simp [h])
 ·exact .inr ⟨b,o,he,hlt,fun j v hj=>hc j v (by rw [List.getElem?_take]at hj;split at hj;exact hj;cases hj)⟩
theorem Pq {src dst e:TypeId}{oa:Option Addr}{l:List UInt8}{n c:Nat}(hs:P.underlying src=some (.slice e))(he:P.underlying e=some (.int .u8))(hd:P.underlying dst=some .string)
  (hn:n=l.length) (hr:Row w oa (dw l)) (k:K (.string ⟨l.toArray⟩) w):bQ P (convert src dst (.slice oa n c)) w K:=by
 subst hn
 rcases hr with h | ⟨b,o,rfl,_,hc⟩
 ·have hl:l = []:=by simpa [dw]using h
  subst hl
  refine dZ ?_ k
  cases oa with
  | none=>have:=run_convert_bytes_nil (P:=P) w src e hs he 0 c dst hd;exact this
  | some a=>exact run_convert_bytes_back (P:=P) w src dst e a c [] hs he hd (by simp)
 ·exact dZ (run_convert_bytes_back (P:=P) w src dst e _ c l hs he hd fun j hj=>by rw [add0];exact hc j _ (nD hj)) k
end
theorem vg (l:List UInt8) : ∀u∈dw l,u.oneCell'=true:=by
 intro u hu
 simp only [dw,List.mem_map]at hu
 obtain⟨x,_,rfl⟩:=hu
 rfl
theorem nZ (a b:List UInt8):dw (a++b)=dw a++dw b:=by simp [dw]
end Go.Proofs.YtocckceefcmeaaaGreatDoor.Vc
