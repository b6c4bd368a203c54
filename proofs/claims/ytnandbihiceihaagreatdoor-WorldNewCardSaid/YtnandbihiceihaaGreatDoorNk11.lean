/- Joined parts of the proof. Calls of functions that change memory of the caller's: the labels lent come back changed -/
import Derived.Test.YtnandbihiceihaaGreatDoorNk9
import Derived.RangeFuncLeaves
import Derived.RangeFuncCalls
import Derived.RangeFuncSeq
import Derived.OrdersIn
import Derived.OwnWalkIn
import Derived.Test.YtnandbihiceihaaGreatDoorNk10
set_option linter.unusedVariables false
set_option linter.unusedSimpArgs false
set_option maxRecDepth 100000
set_option maxHeartbeats 16000000
namespace Go.Proofs.YtnandbihiceihaaGreatDoor.Ax
open RowKit Vc
section
variable {n m:Nat}{σ σ':Nat->Loc}{F:Nat->Prop}{w:World}{f:Nat->Nat}
end
def once:jI->Bool
 | []=>true
 | p::r=>(match look r p.1 with|some _=>false|none=>true)&&once r
structure Once (H:jI):Prop where
 ok:once H=true
section
variable {P:Program}{G:Glob}{n:Nat}{H:jI}
end
def zf (r:Option Nat):Fence:= {fn:=fun _=>True,depth:=none,alive:=false,round:=r}
theorem Gq {r:Option Nat}{n:Nat}{P:Program}{f:FuncId}{args:Array Value}{w:World}{R:Ending->World->Prop}(h:Calls P f args w R):CallsIn (zf r) n P f args w R:=(callsIn_wide (n:=n)).2 h
theorem Jc {r:Option Nat}{n:Nat}{P:Program}{row:String}{args:Array Value}{w:World}{R:Value->World->Prop}(h:Rows P row args w R):RowsIn (zf r) n P row args w R:=
 fun c cs _=>let ⟨v,w',hr,s⟩:=h c cs;⟨v,w',hr,(stepsIn_wide (P:=P)).2 s⟩
def nK (o:Oper):Bool:=match o.op with | .defer _=>false|_=>true
theorem A8 {o:Oper}(h:nK o=true) : ∀c,o.op≠ .defer c:=fun c e=>by unfold nK at h;rw [e]at h;cases h
section
variable {P:Program}{r:Option Nat}{n:Nat}{ops:Array Oper}{Q:Exit->Act->World->Prop}
theorem EC {o:Oper}{a:Act}{w:World}{next next':Act->World->Prop}(hd:nK o=true)(hn : ∀a w,next a w->next' a w)(h:o.wp P a w next Q):o.wpIn (zf r) n P a w next' Q:=by
 refine⟨fun _ _=>trivial, ?_⟩
 have e:o.semAt (zf r).round a.eval=execOp a.eval o:=Oper.semAt_plain (zf r) _ o (A8 hd)
 rw [e]
 unfold Oper.wp at h
 generalize (execOp a.eval o).run P w=res at *
 cases res with
 | ok x w'=>
  cases x with
  | value v=>exact hn _ _ h
  | skip=>exact hn _ _ h
  | defer d=>exact hn _ _ h
  | enter f args=>
   refine⟨(fun hh=>by cases hh),Gq (Calls.mono h fun e w'' he=> ?_)⟩
   cases e with
   | returned v=>exact hn _ _ he
   | panicked ch=>exact he
   | outgrown=>exact he
  | row row args=>exact⟨(fun hh=>by cases hh),Jc (Rows.mono h fun v w'' he=>hn _ _ he)⟩
  | round l f tmps ars bo=>exact h.elim
  | _=>exact h.elim
 | halt x w'=>
  cases x with
  | panic v=>exact h
  | _=>exact h.elim
theorem OC (hq : ¬LetsOut Q) : ∀(l:List Nat),(∀i∈l, ∀o,ops[i]? = some o->nK o=true)->∀a w,wpOps P ops Q l a w->wpOpsIn (zf r) n P ops Q l a w:=by
 intro l
 induction l with
 | nil=>intro _ a w h;exact h
 | cons i rest ih=>
  intro hd a w h
  have ih:=ih fun j hj=>hd j (dY _ hj)
  unfold wpOps at h
  unfold wpOpsIn
  cases ho:ops[i]? with
  | none=>rw [ho]at h;exact ih a w h
  | some o=>
   simp only [ho]at h ⊢
   split
   ·rename_i hw
    rw [if_pos hw]at h
    exact EC (hd i dN o ho) ih (h.resolve_right fun hh=>hq hh.2)
   ·rename_i hw
    rw [if_neg hw]at h
    exact⟨fun _ _=>trivial,ih _ _ h⟩
theorem SN (hq : ¬LetsOut Q){i:Nat}(hd : ∀(i:Nat) (o:Oper),ops[i]? = some o->nK o=true){a:Act}{w:World}{K K':Act->World->Prop}(hn : ∀a w,K a w->K' a w)(h:wpOp P ops Q i K a w):wpOpIn (zf r) n P ops Q i K' a w:=by
 unfold Go.wpOp at h
 unfold Go.wpOpIn
 cases ho:ops[i]? with
 | none=>simp only [ho]at h ⊢;exact hn _ _ h
 | some o=>
  simp only [ho]at h ⊢
  split
  ·rename_i hw
   rw [if_pos hw]at h
   exact EC (hd i o ho) hn (h.resolve_right fun hh=>hq hh.2)
  ·rename_i hw
   rw [if_neg hw]at h
   exact⟨fun _ _=>trivial,hn _ _ h⟩
theorem xH (hq : ¬LetsOut Q){md:Region.Mode}(hd : ∀(i:Nat) (o:Oper),ops[i]? = some o->nK o=true) : ∀(fuel:Nat) (listed:Array Bool) (a:Act) (w:World),wpAny P md ops Q fuel listed a w->wpAnyIn (zf r) n P md ops Q fuel listed a w:=by
 intro fuel
 induction fuel with
 | zero=>intro listed a w h;exact h
 | succ fuel ih=>intro listed a w h;exact⟨h.1,fun i hi=>SN hq hd (fun a w=>ih _ a w) (h.2 i hi)⟩
end
structure Off (G:Glob)(jL:World)(σ:Nat->Loc)(F:Nat->Prop)(H:jI)(w:World)(k:Nat):Prop where
 new:jL.heap.size<=k
 nb:G.nb<=k
 lt:k<w.heap.size
 nf : ¬F k
 nm : ¬qX w σ H k
section
variable {G:Glob}{jL:World}{jO jQ:Nat->Prop}{n n':Nat}{σ σ':Nat->Loc}{F F':Nat->Prop}{H H':jI}{w w':World}{k:Nat}
theorem Off.step (h:Off G jL σ F H w k)(s:St G w (qX w σ H) F n' σ' F' H' w'):Off G jL σ' F' H' w' k∧w'.heap[k]? = w.heap[k]? :=by
 refine⟨⟨h.new,h.nb,aN h.lt s.nN.size,fun hf=> ?_,fun⟨jT,blk,h1,h2,h3⟩=> ?_⟩,s.nN.block k h.lt h.nm⟩
 ·have hl:=h.lt
  rcases(s.lI k hf).2 with e|e|e
  ·exact h.nf e
  ·omega
  ·exact h.nm e
 ·have hl:=h.lt
  rcases(s.mu jT blk k h1 h2 h3).2.2.2 with e|e
  ·exact h.nm e
  ·omega
theorem xI (o:Obj)(nf : ¬F k):Ext n σ F w n σ F (w.putObj k o):=
 ⟨ay _,fun _ _=>rfl,fun b hb=>⟨hb,World.putObj_heap_other fun e=>nf (e▸hb)⟩,iD World.putObj_size.symm⟩
theorem St.put (st:St G jL jO jQ n σ F H w)(h:Off G jL σ F H w k)(o:Obj):St G jL jO jQ n σ F H (w.putObj k o):=by
 have hs:(w.putObj k o).heap.size=w.heap.size:=World.putObj_size
 have hb : ∀b,b≠k->(w.putObj k o).heap[b]? = w.heap[b]? :=fun b hb=>World.putObj_heap_other hb
 have hk:=h.nb
 have hn:=h.new
 have bk : ∀ {jT b g},look H jT=some b->b.own=true->oW (w.putObj k o) (σ jT) b g->oW w (σ jT) b g:=fun h1 hm hg=>hg.back fun y hy=>hb y fun e=>h.nm ⟨_,_,h1,hm, .inl (e▸hy)⟩
 refine⟨Glob.nN st.glob (iD hs.symm) fun b hb'=>hb b aad,⟨st.nN.os,st.nN.tape,st.nN.output,by rw [hs];exact st.nN.size,fun b h1 h2=>(hb b aad).trans (st.nN.block b h1 h2)⟩,fun b hb'=>⟨by rw [hs];exact(st.lI b hb').1,(st.lI b hb').2⟩,st.lab,fun jT b g h1 h2 h3=> ?_,fun e e' b b' g h1 h2 m1 m2 g1 g2=>st.inj e e' b b' g h1 h2 m1 m2 (bk h1 m1 g1) (bk h2 m2 g2),fun jT b h1=> ?_⟩
 ·obtain⟨a1,a2,a3,a4⟩:=st.mu jT b g h1 h2 (bk h1 h2 h3)
  exact⟨a1,a2,by rw [hs];exact a3,a4⟩
 ·exact(st.blk jT b h1).mono (xI o h.nf) fun hm g hg=>hb g fun e=>h.nm ⟨jT,b,h1,hm,e▸hg⟩
theorem Off.put (h:Off G jL σ F H w k){l:Nat}{tK:World}(hl:Off G tK σ F H w l)(o:Obj):Off G jL σ F H (w.putObj l o) k:=
 ⟨h.new,h.nb,by rw [World.putObj_size];exact h.lt,h.nf,fun⟨e,b,h1,h2,h3⟩=>h.nm ⟨e,b,h1,h2,h3.back fun y hy=>World.putObj_heap_other fun e'=>by subst e';exact hl.nm ⟨e,b,h1,h2, .inl hy⟩⟩⟩
theorem Ba (st:St G jL jO jQ n σ F H w)(hB:Below w.heap.size w w'):Ext n σ F w n σ F w':=⟨ay _,fun _ _=>rfl,fun b hb=>⟨hb,hB.block b (st.lI b hb).1⟩,hB.size⟩
theorem St.grow (st:St G jL jO jQ n σ F H w)(hB:Below w.heap.size w w'):St G jL jO jQ n σ F H w':=by
 have h0:=st.nN.size
 have bk : ∀ {jT b g},look H jT=some b->b.own=true->oW w' (σ jT) b g->oW w (σ jT) b g:=fun h1 hm hg=>hg.back fun y hy=>hB.block y (st.mu _ _ y h1 hm (.inl hy)).2.2.1
 refine⟨Glob.nN st.glob hB.size fun b hb=>hB.block b (aN hb st.glob.1),⟨hB.os.trans st.nN.os,hB.tape.trans st.nN.tape,hB.output.trans st.nN.output,bZ h0 hB.size,fun b h1 h2=>(hB.block b aad).trans (st.nN.block b h1 h2)⟩,fun b hb=>⟨aN (st.lI b hb).1 hB.size,(st.lI b hb).2⟩,st.lab,fun jT b g h1 h2 h3=> ?_,fun e e' b b' g h1 h2 m1 m2 g1 g2=>st.inj e e' b b' g h1 h2 m1 m2 (bk h1 m1 g1) (bk h2 m2 g2),fun jT b h1=> ?_⟩
 ·obtain⟨a1,a2,a3,a4⟩:=st.mu jT b g h1 h2 (bk h1 h2 h3)
  exact⟨a1,a2,aN a3 hB.size,a4⟩
 ·exact(st.blk jT b h1).mono (Ba st hB) fun hm g hg=>hB.block g (st.mu jT b g h1 hm hg).2.2.1
theorem Off.grow (h:Off G jL σ F H w k)(st:St G jL jO jQ n σ F H w)(hB:Below w.heap.size w w'):Off G jL σ F H w' k:=
 ⟨h.new,h.nb,aN h.lt hB.size,h.nf,fun⟨e,b,h1,h2,h3⟩=>h.nm ⟨e,b,h1,h2,h3.back fun y hy=>hB.block y (st.mu _ _ y h1 h2 (.inl hy)).2.2.1⟩⟩
end
def mark (D:Nat):Deferred:= {target:= .collected D,args:= #[]}
structure MK (G:Glob)(jL:World)(L:List Nat)(σ:Nat->Loc)(F:Nat->Prop)(H:jI)(w:World):Prop where
 nodup:L.Nodup
 off : ∀D∈L,Off G jL σ F H w D
 obj : ∀D∈L,w.heap[D]? = some (.deferred (some []))
theorem MK.nil {G:Glob}{jL:World}{σ:Nat->Loc}{F:Nat->Prop}{H:jI}{w:World} : MK G jL [] σ F H w:=⟨List.nodup_nil,fun _ h=>(by cases h),fun _ h=>(by cases h)⟩
theorem MK.step {G:Glob}{jL:World}{L:List Nat}{n':Nat}{σ σ':Nat->Loc}{F F':Nat->Prop}{H H':jI}{w w':World}(h:MK G jL L σ F H w)(s:St G w (qX w σ H) F n' σ' F' H' w'):MK G jL L σ' F' H' w':=
 ⟨h.nodup,fun D hD=>((h.off D hD).step s).1,fun D hD=>((h.off D hD).step s).2.trans (h.obj D hD)⟩
theorem Gs {P:Program}{fn:Func}{tmps:Array Value}{R:Ending->World->Prop}{G:Glob}{jL:World}{jO jQ:Nat->Prop}{n:Nat}{σ:Nat->Loc}{F:Nat->Prop}{H:jI} :
  ∀(L:List Nat) (w:World),MK G jL L σ F H w->St G jL jO jQ n σ F H w->(∀w',St G jL jO jQ n σ F H w'->Ext n σ F w n σ F w'->LeavesIn (zf none) 0 P fn tmps R [] .returning w')->LeavesInM (zf none) 0 P fn tmps R (L.map mark) .returning w:=by
 intro L
 induction L with
 | nil=>intro w _ st h;exact h w st (Ext.refl _ _ _ _)
 | cons D L ih=>
  intro w hm st h
  have ho:=hm.off D dN
  have hnd:=List.nodup_cons.1 hm.nodup
  refine⟨aaA, .inl ⟨D,_,rfl,run_takeDeferred (hm.obj D dN),ih _ ⟨hnd.2,fun D' h'=>(hm.off D' (dY _ h')).put ho _,fun D' h'=> ?_⟩ (st.put ho _) fun w' s x=>h w' s ((xI _ ho.nf).trans x)⟩⟩
  rw [World.putObj_heap_other (fun e:D'=D=>hnd.1 (e▸h'))]
  exact hm.obj D' (dY _ h')
def AIt (P:Program)(G:Glob)(gf:FuncId)(caps:List AV)(xs:List (List AV)):Prop:=
 ∀(n:Nat) (σ:Nat->Loc) (F:Nat->Prop) (vs:List Value) (W:World) (l:Nat) (J:Nat->World->Prop),G.holds W->(∀b,F b->b<W.heap.size)->kD n σ F W caps vs->
  (∀i W' W'',J i W'->Below W'.heap.size W' W''->J i W'')->
  (∀i W',J i W'->W.heap.size<=W'.heap.size∧G.holds W'∧∀b,F b->W'.heap[b]? = W.heap[b]?)->
  (∀i x W' args,xs[i]? = some x->J i W'->kD n σ F W' x args->YieldAt (zf none) 0 P l args.toArray W' fun e W''=>e = .returned (.bool true)∧J (i+1) W'')->
  J 0 W->CallsIn (zf none) 0 P gf (#[.func (.yield l) #[] #[]]++vs.toArray) W fun e W'=>(∃v,e = .returned v)∧J xs.length W'
def Bc (ρ:jM)(ps:List Tmp)(x:List AV):jM:=
 match ps,x with
 | p::ps,a::x=>Bc (qc ρ p a) ps x
 | _,_=>ρ
def JO (K:jM->Nat->jI->Prop)(e:Ex)(ρ:jM)(n:Nat)(H:jI):Prop:=
 match e with
 | .normal=>K ρ n H
 | _=>False
structure OD (P:Program)(G:Glob)(gv:AV)(ps:Array Tmp)(A B:(Ex->jM->Nat->jI->Prop)->jM->Nat->jI->Prop)(Q:Ex->jM->Nat->jI->Prop)(ρ:jM)(n:Nat)(H:jI):Prop where
 ex : ∃(gf:FuncId) (caps:List AV) (xs:List (List AV)) (nl:Nat) (Hs:Nat->jI),gv = .fn (.func gf) [] caps∧callable P gf=true∧AIt P G gf caps xs∧n<=nl∧(∀x∈xs,x.length=ps.size)∧
  ET G (fun _=>false) n ρ n H ρ nl (Hs 0)∧
  (∀i x,xs[i]? = some x->A (JO (B (JO fun ρ' n' H'=>AA (ET G (fun _=>false) n ρ' n' H' ρ nl (Hs (i+1)))))) (Bc ρ ps.toList x) nl (Hs i))∧
  Q .normal ρ nl (Hs xs.length)
def aY (P:Program)(G:Glob)(c:Code)(Q:Ex->jM->Nat->jI->Prop)(ρ:jM)(n:Nat)(H:jI):Prop:=
 match c with
 | .skip=>Q .normal ρ n H
 | .region id ops draw=>(match draw with
  | false=>Lj P G ops.toList ops.toList ρ n H (Q .normal)
  | true=>vG P G id ops (Q .normal) ρ n H)
 | .seq a b=>aY P G a (Yl (aY P G b) Q) ρ n H
 | .cond c t e=>(match lK ρ c with
  | .v (.bool b)=>BO b (aY P G t Q ρ n H) (aY P G e Q ρ n H)
  | _=>False)
 | .block id body=>aY P G body (QV id Q) ρ n H
 | .loop body=>Gf G body (aY P G body) Q ρ n H
 | .exit id=>Q (.exit id) ρ n H
 | .ret=>Q .ret ρ n H
 | .rangeFunc g ps assign body=>OD P G (lK ρ g) ps (aY P G assign) (aY P G body) Q ρ n H
 | _=>False
def mG (rf:Bool)(N:Nat)(W:Nat->Bool):Code->Bool
 | .region _ ops _=>ops.toList.all fun o=>nM N W o&&rP o&&nK o
 | .seq a b=>mG rf N W a&&mG rf N W b
 | .cond _ a b=>mG rf N W a&&mG rf N W b
 | .block _ b=>mG rf N W b
 | .loop b=>mG rf N W b
 | .skip | .exit _ | .ret=>true
 | .rangeFunc _ ps a b=>rf&&ps.toList.all (Nat.blt · N)&&mG false N (fun _=>true) a&&mG false N (fun _=>true) b
 | _=>false
theorem yZ {rf:Bool}{N:Nat}{W ws:Nat->Bool} : ∀c:Code,mG rf N W c=true->writesIn ws c=true->mG rf N (fun k=>W k&&ws k) c=true:=by
 intro c
 induction c with
 | region id ops d=>
  intro h1 h2
  simp only [mG,writesIn,bf,ah]at *
  intro o ho
  obtain⟨⟨a1,a3⟩,a4⟩:=h1 o ho
  have a2:=h2 o ho
  refine⟨⟨?_,a3⟩,a4⟩
  unfold nM at *
  unfold QA at a2
  cases hd:o.dst with
  | none=>rfl
  | some d=>simp only [hd,ah]at a1 a2 ⊢;exact⟨a1.1,a1.2,a2⟩
 | seq a b iha ihb=>intro h1 h2;simp only [mG,writesIn,ah]at *;exact⟨iha h1.1 h2.1,ihb h1.2 h2.2⟩
 | cond c a b iha ihb=>intro h1 h2;simp only [mG,writesIn,ah]at *;exact⟨iha h1.1 h2.1,ihb h1.2 h2.2⟩
 | block id b ih=>intro h1 h2;simp only [mG,writesIn]at *;exact ih h1 h2
 | loop b ih=>intro h1 h2;simp only [mG,writesIn]at *;exact ih h1 h2
 | skip=>intro _ _;rfl
 | exit id=>intro _ _;rfl
 | ret=>intro _ _;rfl
 | rangeFunc g ps a b _ _=>intro h1 _;exact h1
 | scope b _=>intro h1 _;simp [mG]at h1
 | label l=>intro h1 _;simp [mG]at h1
 | _=>intro h1 h2;simp [writesIn]at h2
structure AtY (G:Glob)(jL:World)(jO jQ:Nat->Prop)(N:Nat)(Lp:List Nat->Prop)(W:Nat->Bool)(jK:jU)(nb:Nat)(ny:Nat->Loc)(Fb:Nat->Prop)(wb:World)(K:jM->Nat->jI->Prop)(a:Act)(w:World):Prop where
 ex : ∃L ρ kS n σ F H,Lp L∧Fits N (L.map mark) ρ a∧Same W jK ρ∧St G jL jO jQ n σ F H w∧Ext nb ny Fb wb n σ F w∧nT n σ F w kS ρ∧MK G jL L σ F H w∧K kS n H
def AQY (G:Glob)(jL:World)(jO jQ:Nat->Prop)(N:Nat)(Lp:List Nat->Prop)(W:Nat->Bool)(jK:jU)(nb:Nat)(ny:Nat->Loc)(Fb:Nat->Prop)(wb:World)(Q:Ex->jM->Nat->jI->Prop):Exit->Act->World->Prop
 | .normal,a,w=>AtY G jL jO jQ N Lp W jK nb ny Fb wb (Q .normal) a w
 | .exit id,a,w=>AtY G jL jO jQ N Lp W jK nb ny Fb wb (Q (.exit id)) a w
 | .ret,a,w=>AtY G jL jO jQ N Lp W jK nb ny Fb wb (Q .ret) a w
 | _,_,_=>False
theorem tq {F:Fence}{n:Nat}{P:Program}{c:Code}{Q:Exit->Act->World->Prop}{a:Act}{w:World}(I:Nat->Act->World->Prop)(m:Nat)(EP:I m a w)
  (round : ∀m a w,I m a w->c.wpIn F n P (Exit.then (fun a' w'=> ∃m',m'<m∧I m' a' w') Q) a w):(Code.loop c).wpIn F n P Q a w:=by
 intro b k cs hro hb hr
 have key : ∀m a w,I m a w->∃e a' w',Q e a' w'∧ArrivesIn (Machine.fenced P F) P (lone (b.atR a (.code c:: .inLoop c::k)) cs w) b k cs e a' w':=by
  intro m
  induction m using Nat.strongRecOn with
  | _ m ih=>
   intro a w hI
   obtain⟨e,wI,tK,hq,harr⟩:=round m a w hI b (.inLoop c::k) cs hro hb hr
   cases e with
   | normal=>
    obtain⟨m',hlt,hI₁⟩:=hq
    obtain⟨XJ,XK,zl,hq₂,harr₂⟩:=ih m' hlt wI tK hI₁
    exact⟨XJ,XK,zl,hq₂, .of_steps (StepsIn.trans harr (.one (fenced_calm hb hr rfl) stepR_inLoop)) harr₂⟩
   | exit id=>exact⟨_,wI,tK,hq, .pass (x:= .inLoop c) rfl (fun _ _=> .inl aaA) harr⟩
   | goto l=>exact⟨_,wI,tK,hq, .pass (x:= .inLoop c) rfl (fun _ _=> .inl aaA) harr⟩
   | ret=>exact⟨_,wI,tK,hq, .pass (x:= .inLoop c) rfl (fun _ _=> .inl aaA) harr⟩
   | panic ch=>exact⟨_,wI,tK,hq, .pass (x:= .inLoop c) rfl (fun _ _=> .inl aaA) harr⟩
   | outgrown=>exact⟨_,wI,tK,hq, .pass (x:= .inLoop c) rfl (fun _ _=> .inl aaA) harr⟩
 obtain⟨e,a',w',hq,harr⟩:=key m a w EP
 exact⟨e,a',w',hq, .of_steps (.one (fenced_calm hb hr rfl) stepR_loop) harr⟩
section
variable {P:Program}{G:Glob}{N:Nat}
theorem Fits.Bc {n:Nat}{σ:Nat->Loc}{F:Nat->Prop}{w:World} : ∀(ps:List Tmp) (x:List AV) (vs:List Value) (kS:jM) (ρ:jU) (t:Array Value),(∀p∈ps,p<N)->x.length=ps.length->kD n σ F w x vs->Fits N [] ρ {tmps:=t,defers:= []} ->nT n σ F w kS ρ->
  ∃ρ',Fits N [] ρ' {tmps:=(ps.zip vs).foldl (fun t (p,v)=>t.setIfInBounds p v) t,defers:= []} ∧nT n σ F w (Ax.Bc kS ps x) ρ':=by
 intro ps
 induction ps with
 | nil=>intro x vs kS ρ t _ _ _ hf hr;exact⟨ρ,hf,by cases x<;>exact hr⟩
 | cons p ps ih=>
  intro x vs kS ρ t hp hl r hf hr
  cases x with
  | nil=>simp at hl
  | cons a x=>
   cases vs with
   | nil=>exact r.elim
   | cons v vs=>
    have h1:=hf.put (some p) v (fun t e=>by cases e;exact hp p dN)
    have h2:=ni (d:=some p) hr (Ext.refl _ _ _ _) r.1
    exact ih x vs (qc kS p a) (upd ρ p v) (t.setIfInBounds p v) (fun q hq=>hp q (dY _ hq)) abw r.2 h1 h2
end
section
variable {P:Program}{G:Glob}{jL:World}{jO jQ:Nat->Prop}{N:Nat}{ds:List Deferred}{W:Nat->Bool}{ops:Array Oper}{jK:jU}
variable {nb:Nat}{ny:Nat->Loc}{Fb:Nat->Prop}{wb:World}
theorem vG.ED {r:Option Nat}{id:Nat}{K:jM->Nat->jI->Prop}{kS:jM}{n:Nat}{σ:Nat->Loc}{F:Nat->Prop}{H:jI}{ρ:jU}{a:Act}{w:World}(hm:P.follows .mixedOrders=true)(hok : ∀o∈ops.toList,nM N W o=true∧rP o=true)(hnd : ∀(i:Nat) (o:Oper),ops[i]? = some o->nK o=true)
  (hf:Fits N ds ρ a) (hs:Same W jK ρ) (st:St G jL jO jQ n σ F H w) (x:Ext nb ny Fb wb n σ F w) (hr:nT n σ F w kS ρ) (h:vG P G id ops K kS n H) :
  (Code.region id ops true).wpIn (zf r) 0 P (RA (Ed G jL jO jQ N ds W jK nb ny Fb wb K)) a w:=by
 have e:=Az n σ F w
 rcases h.ex with ⟨p,D,hd,hv⟩|⟨p,D,ws,ρ',n',H',hd,hws,hle,hun,hv,hk⟩|⟨T,ts,ns,p,e',D,ws,A,hd,hws,hle,hun,h0,hstep,hE⟩
 ·simp only [rG,rO,ah]at hd
  obtain⟨⟨⟨hsel,xZ⟩,hp⟩,hpo⟩:=hd
  exact wpIn_region_any hm (xH (fun⟨_,_,h⟩=>h) hnd _ _ _ _ (oU _ _ _ _ _ _ (uj hsel hok p D (takes p) _ kS n σ F H ρ a w.drew hp hpo (fun j o _ hl=>by rw [qK]at hl;cases hl) hf hs st.drew (x.trans e) (fun s=>(hr s).mono e) hv ops.size (ak xZ))))
 ·simp only [rG,rO,ah]at hd
  obtain⟨⟨⟨hsel,xZ⟩,hp⟩,hpo⟩:=hd
  have hok2 : ∀o∈ops.toList,nM N (fun k=>W k&&ws k) o=true∧rP o=true:=fun o ho=>by
   refine⟨?_,(hok o ho).2⟩
   have h1:=(hok o ho).1
   have h2:=bf.1 hws o ho
   unfold nM at h1 ⊢
   cases hd:o.dst with
   | none=>rfl
   | some d=>
    rw [hd]at h1 h2
    simp only [ah]at h1 ⊢
    exact⟨h1.1,h1.2,h2⟩
  have hr':nT n σ F w.drew kS ρ:=fun s=>(hr s).mono e
  refine Go.wpIn_mono (wpIn_region_any hm (xH (fun⟨_,_,h⟩=>h) hnd _ _ _ _ (oU _ _ _ _ _ _ (uj (W:=fun k=>W k&&ws k) (jK:=ρ) (nb:=n) (ny:=σ) (Fb:=F) (wb:=w.drew) hsel hok2 p D (takes p) _ kS n σ F H ρ a w.drew hp hpo (fun j o _ hl=>by rw [qK]at hl;cases hl) hf (Same.refl _ _) st.drew (Ext.refl _ _ _ _) hr' hv ops.size (ak xZ))))) fun ex a' w' hq=> ?_
  cases ex with
  | normal=>
   obtain⟨F9,VN,XL,xM,Ee,oq,NV,hs₁,NW,ER,NY,NZ⟩:=hq
   obtain⟨σ',F',s',r',l',f'⟩:=NZ.holds jL jO jQ xM Ee w' F9 NW fun s _=>NY s
   have x':Ext n σ F w.drew n' σ' F' w':=⟨hle,fun l hl=>(l' l hl).trans (ER.s l hl),fun b hb=>⟨f' b (ER.f b hb).1,(ER.f b hb).2⟩,ER.sz⟩
   refine⟨F9,ρ',n',σ',F',H',NV,hs.trans fun k hk=>hs₁ k abh,s',(x.trans e).trans x',fun s=> ?_,hk⟩
   cases IY:ws s with
   | true=>exact r' s IY
   | false=>
    rw [hun s IY,hs₁ s (by simp [IY])]
    exact(hr' s).mono x'
  | exit id=>exact hq.elim
  | ret=>exact hq.elim
  | goto l=>exact hq.elim
  | panic ch=>exact hq.elim
  | outgrown=>exact hq.elim
 ·exact wpIn_region_any hm (xH (fun⟨_,_,h⟩=>h) hnd _ _ _ _ (JI hok hf hs st x hr hd hws hle hun h0 hstep hE))
end
section
variable {P:Program}{G:Glob}{N:Nat}
theorem OE (hm:P.follows .mixedOrders=true) : ∀(c:Code) (rf:Bool) (r:Option Nat) (Lp:List Nat->Prop) (W:Nat->Bool) (Q:Ex->jM->Nat->jI->Prop) (kS:jM) (n:Nat) (H:jI) (ρ jK:jU) (a:Act) (w:World) (σ:Nat->Loc) (F:Nat->Prop) (nb:Nat) (ny:Nat->Loc) (Fb:Nat->Prop) (wb:World) (L:List Nat) (jL:World) (jO jQ:Nat->Prop),
  (rf=true->r=none∧∀D L,Lp L->Lp (D::L))->mG rf N W c=true->Lp L->Fits N (L.map mark) ρ a->Same W jK ρ->St G jL jO jQ n σ F H w->Ext nb ny Fb wb n σ F w->nT n σ F w kS ρ->MK G jL L σ F H w->aY P G c Q kS n H->c.wpIn (zf r) 0 P (AQY G jL jO jQ N Lp W jK nb ny Fb wb Q) a w:=by
 intro c
 induction c with
 | skip=>intro rf r Lp W Q kS n H ρ jK a w σ F nb ny Fb wb L jL jO jQ _ _ hlp hf hs st x hr mk h;exact wpIn_skip ⟨L,ρ,kS,n,σ,F,H,hlp,hf,hs,st,x,hr,mk,h⟩
 | region id ops draw=>
  intro rf r Lp W Q kS n H ρ jK a w σ F nb ny Fb wb L jL jO jQ _ hc hlp hf hs st x hr mk h
  have hok0 : ∀o∈ops.toList,(nM N W o=true∧rP o=true)∧nK o=true:=by simpa only [mG,bf,ah]using hc
  have hok:=fun o ho=>(hok0 o ho).1
  have hnd : ∀(i:Nat) (o:Oper),ops[i]? = some o->nK o=true:=fun i o ho=>(hok0 o (by rw [<-aT]at ho;exact aO ho)).2
  have mono : ∀e a' w',RA (Ed G w (qX w σ H) F N (L.map mark) W jK n σ F w (Q .normal)) e a' w'->AQY G jL jO jQ N Lp W jK nb ny Fb wb Q e a' w':=fun e a' w' hq=>by
   cases e with
   | normal=>
    obtain⟨ρ',lF,n',σ',F',H',hf',hs',st',x',hr',hk⟩:=hq
    exact⟨L,ρ',lF,n',σ',F',H',hlp,hf',hs',st.back st',x.trans x',hr',mk.step st',hk⟩
   | exit id=>exact hq.elim
   | goto l=>exact hq.elim
   | ret=>exact hq.elim
   | panic ch=>exact hq.elim
   | outgrown=>exact hq.elim
  cases draw with
  | false=>
   refine Go.wpIn_mono (wpIn_region (OC (fun⟨_,_,h⟩=>h) _ (fun i _ o ho=>hnd i o ho) _ _ ?_)) mono
   have hlen:ops.toList.length=ops.size:=aaA
   rw [gV, <-hlen]
   exact Ar (K:=Q .normal) (Q:=RA (Ed G w (qX w σ H) F N (L.map mark) W jK n σ F w (Q .normal))) (fun a' w' h=>h) ops.toList 0 kS n σ F H ρ a w (fun j=>by rw [aJ]) hok hf hs st.start (Ext.refl _ _ _ _) hr h
  | true=>exact Go.wpIn_mono (vG.ED hm hok hnd hf hs st.start (Ext.refl _ _ _ _) hr h) mono
 | seq c1 c2 ih1 ih2=>
  intro rf r Lp W Q kS n H ρ jK a w σ F nb ny Fb wb L jL jO jQ hrf hc hlp hf hs st x hr mk h
  simp only [mG,ah]at hc
  refine wpIn_seq (Go.wpIn_mono (ih1 rf r Lp W _ kS n H ρ jK a w σ F nb ny Fb wb L jL jO jQ hrf hc.1 hlp hf hs st x hr mk h) fun e a' w' hq=> ?_)
  cases e with
  | normal=>
   obtain⟨L',ρ',lF,n',σ',F',H',Cc,hf',hs',st',x',hr',mk',hv⟩:=hq
   exact ih2 rf r Lp W Q lF n' H' ρ' jK a' w' σ' F' nb ny Fb wb L' jL jO jQ hrf hc.2 Cc hf' hs' st' x' hr' mk' hv
  | exit id=>exact hq
  | ret=>exact hq
  | goto l=>exact hq
  | panic ch=>exact hq
  | outgrown=>exact hq
 | cond c c1 c2 ih1 ih2=>
  intro rf r Lp W Q kS n H ρ jK a w σ F nb ny Fb wb L jL jO jQ hrf hc hlp hf hs st x hr mk h
  simp only [mG,ah]at hc
  simp only [aY]at h
  split at h
  ·rename_i b hb
   have rc:=kC hr c
   rw [hb]at rc
   refine wpIn_cond (t:=b) (by rw [hf.eval];exact rc.kR) ?_
   cases b with
   | true=>exact ih1 rf r Lp W Q kS n H ρ jK a w σ F nb ny Fb wb L jL jO jQ hrf hc.1 hlp hf hs st x hr mk h
   | false=>exact ih2 rf r Lp W Q kS n H ρ jK a w σ F nb ny Fb wb L jL jO jQ hrf hc.2 hlp hf hs st x hr mk h
  ·cases h
 | block id b ih=>
  intro rf r Lp W Q kS n H ρ jK a w σ F nb ny Fb wb L jL jO jQ hrf hc hlp hf hs st x hr mk h
  refine wpIn_block (Go.wpIn_mono (ih rf r Lp W _ kS n H ρ jK a w σ F nb ny Fb wb L jL jO jQ hrf hc hlp hf hs st x hr mk h) fun e a' w' hq=> ?_)
  cases e with
  | normal=>exact hq
  | exit j=>
   obtain⟨L',ρ',lF,n',σ',F',H',Cc,hf',hs',st',x',hr',mk',hv⟩:=hq
   simp only [QV]at hv
   simp only [Exit.inBlock]
   by_cases hj:j=id
   ·subst hj
    rw [fU,cond_true]at hv
    simp only [if_true]
    exact⟨L',ρ',lF,n',σ',F',H',Cc,hf',hs',st',x',hr',mk',hv⟩
   ·have hb:Nat.beq j id=false:=by
     cases hb:Nat.beq j id with
     | false=>rfl
     | true=>exact absurd (aj hb) hj
    rw [hb,cond_false]at hv
    rw [if_neg hj]
    exact⟨L',ρ',lF,n',σ',F',H',Cc,hf',hs',st',x',hr',mk',hv⟩
  | ret=>exact hq
  | goto l=>exact hq
  | panic ch=>exact hq
  | outgrown=>exact hq
 | loop b ih=>
  intro rf r Lp W Q kS n H ρ jK a w σ F nb ny Fb wb L jL jO jQ hrf hc hlp hf hs st x hr mk0 h
  rcases h.ex with ⟨k,hk⟩|⟨ws,I,nl,hw,hle,VO,⟨m0,ρ0,H0,hI0,Gg⟩,IZ⟩
  ·refine tq (fun m a' w'=>AQY G jL jO jQ N Lp W jK nb ny Fb wb (fun _=>N7 (aY P G b) Q m) .normal a' w') k ⟨L,ρ,kS,n,σ,F,H,hlp,hf,hs,st,x,hr,mk0,hk⟩ fun m a' w' ⟨L',ρ',lF,n',σ',F',H',Cc,hf',hs',st',x',hr',mk',hv⟩=> ?_
   cases m with
   | zero=>exact hv.elim
   | succ m=>
    refine Go.wpIn_mono (ih rf r Lp W _ lF n' H' ρ' jK a' w' σ' F' nb ny Fb wb L' jL jO jQ hrf hc Cc hf' hs' st' x' hr' mk' hv) fun e a'' w'' hq=> ?_
    cases e with
    | normal=>exact⟨m,gu m,hq⟩
    | exit id=>exact hq
    | ret=>exact hq
    | goto l=>exact hq
    | panic ch=>exact hq
    | outgrown=>exact hq
  have hc':=yZ b hc hw
  let J:Nat->Act->World->Prop:=fun m a' w'=> ∃L' ρ' lF σ' F' H',Lp L'∧Fits N (L'.map mark) ρ' a'∧Same (fun k=>W k&&ws k) ρ ρ'∧I m lF H'∧St G jL jO jQ nl σ' F' H' w'∧Ext n σ F w nl σ' F' w'∧nT nl σ' F' w' lF ρ'∧MK G jL L' σ' F' H' w'
  have mk : ∀m L' (ρ':jU) (lF mP:jM) n' (σ':Nat->Loc) (F':Nat->Prop) H' oq a' w',Lp L'->Fits N (L'.map mark) ρ' a'->Same (fun k=>W k&&ws k) ρ ρ'->St G jL jO jQ n' σ' F' H' w'->Ext n σ F w n' σ' F' w'->nT n' σ' F' w' lF ρ'->MK G jL L' σ' F' H' w'->
    I m mP oq->ET G ws n lF n' H' mP nl oq->J m a' w':=by
   intro m L' ρ' lF mP n' σ' F' H' oq a' w' Cc hf' hs' st' x' hr' mk' hI VP
   obtain⟨xM,Ee,s1,r1,l1,f1⟩:=VP w' (qX w' σ' H') F' σ' F' w' ρ' st'.start fun s _=>hr' s
   have x1:Ext n σ F w nl xM Ee w':=⟨hle,fun l hl=>(l1 l hl).trans (x'.s l hl),fun b hb=>⟨f1 b (x'.f b hb).1,(x'.f b hb).2⟩,x'.sz⟩
   refine⟨L',ρ',mP,xM,Ee,oq,Cc,hf',hs',hI,st'.back s1,x1,fun s=> ?_,mk'.step s1⟩
   cases hws:ws s with
   | true=>exact r1 s hws
   | false=>
    rw [VO m mP oq hI s hws,hs' s (by simp [hws])]
    exact(hr s).mono x1
  refine tq J m0 (mk m0 L ρ kS ρ0 n σ F H H0 a w hlp hf (Same.refl _ _) st (Ext.refl _ _ _ _) hr mk0 hI0 Gg) fun m a' w' ⟨L',ρ',lF,σ',F',H',Cc,hf',hs',hI,st',x',hr',mk'⟩=> ?_
  refine Go.wpIn_mono (ih rf r Lp (fun k=>W k&&ws k) _ lF nl H' ρ' ρ a' w' σ' F' n σ F w L' jL jO jQ hrf hc' Cc hf' hs' st' x' hr' mk' (IZ m lF H' hI)) fun e a'' w'' hq=> ?_
  have up : ∀ {lZ},Same (fun k=>W k&&ws k) ρ lZ->Same W jK lZ:=fun h'=>hs.trans fun k hk=>h' k abh
  cases e with
  | normal=>
   obtain⟨YF,lZ,qR,n'',uX,HY,oN,Gt,qL,qM,AB,x'',AL,mk'',hv⟩:=hq
   obtain⟨m',hlt,mP,oq,hI₁,Ei⟩:=hv.holds
   exact⟨m',hlt,mk m' YF lZ qR mP n'' uX HY oN oq a'' w'' Gt qL qM AB x'' AL mk'' hI₁ Ei⟩
  | exit id=>obtain⟨YF,lZ,qR,n'',uX,HY,oN,Gt,qL,qM,AB,x'',AL,mk'',hv⟩:=hq;exact⟨YF,lZ,qR,n'',uX,HY,oN,Gt,qL,up qM,AB,x.trans x'',AL,mk'',hv⟩
  | ret=>obtain⟨YF,lZ,qR,n'',uX,HY,oN,Gt,qL,qM,AB,x'',AL,mk'',hv⟩:=hq;exact⟨YF,lZ,qR,n'',uX,HY,oN,Gt,qL,up qM,AB,x.trans x'',AL,mk'',hv⟩
  | goto l=>exact hq
  | panic ch=>exact hq
  | outgrown=>exact hq
 | exit id=>intro rf r Lp W Q kS n H ρ jK a w σ F nb ny Fb wb L jL jO jQ _ _ hlp hf hs st x hr mk h;exact Go.wpIn_exit ⟨L,ρ,kS,n,σ,F,H,hlp,hf,hs,st,x,hr,mk,h⟩
 | ret=>intro rf r Lp W Q kS n H ρ jK a w σ F nb ny Fb wb L jL jO jQ _ _ hlp hf hs st x hr mk h;exact Go.wpIn_ret ⟨L,ρ,kS,n,σ,F,H,hlp,hf,hs,st,x,hr,mk,h⟩
 | rangeFunc g ps assign body iha ihb=>
  intro rf r Lp W Q kS n H ρ jK a w σ F nb ny Fb wb L jL jO jQ hrf hc hlp hf hs st x hr mk h
  obtain⟨gf,caps,xs,nl,Hs,hgv,aar,hit,hle,hxl,Gg,hbody,hdone⟩:=h.ex
  simp only [mG,ah,bf]at hc
  obtain⟨⟨⟨aas,hps⟩,hca⟩,hcb⟩:=hc
  have aat : ∀p∈ps.toList,p<N:=fun p hp=>ak (hps p hp)
  obtain⟨rfl,hLp⟩:=hrf aas
  have rg:=kC hr g
  rw [hgv]at rg
  obtain⟨vs,YG,YH⟩ : ∃vs:List Value,mQ ρ g = .func (.func gf) #[] vs.toArray∧kD n σ F w caps vs:=by
   generalize mQ ρ g=v at rg
   cases rg with
   | fn _ _ _ us vs hx hy rx ry=>
    have hu:us = []:=aH hx
    subst hu
    exact⟨vs,rfl, .of hy ry⟩
  refine wpIn_rangeFunc fun fn _=> ?_
  obtain⟨rec,hrec⟩ : ∃rec:LoopState->Option Code->Loop,rec=fun st pe=> {state:=st,pending:=pe,fn,tmps:=a.tmps,params:=ps,assign,body,defers:=w.heap.size}:=⟨_,rfl⟩
  obtain⟨W1,hW1⟩ : ∃W1,(w.alloc (.deferred (some []))).alloc (.loop (rec .ready none))=W1:=⟨_,rfl⟩
  have hL1:W1.heap[w.heap.size+1]? = some (.loop (rec .ready none)):=by
   rw [<-hW1];have:=World.alloc_heap_new (w.alloc (.deferred (some []))) (.loop (rec .ready none));rwa [World.size_alloc]at this
  have hD1:W1.heap[w.heap.size]? = some (.deferred (some [])):=by
   rw [<-hW1];exact(Below.heap_alloc _ _ _ aaA).trans (World.alloc_heap_new w _)
  have hB1:Below w.heap.size w W1:=by
   rw [<-hW1];exact(((Below.refl _ w).alloc (ay _) _).alloc aaA _)
  have hsz1:W1.heap.size=w.heap.size+2:=by rw [<-hW1];simp
  have off1 : ∀k,w.heap.size<=k->k<w.heap.size+2->Off G w σ F H W1 k:=fun k h1 h2=>
   ⟨h1,bZ st.glob.1 h1,by omega,fun hf=>by have:=(st.lI k hf).1;omega,fun⟨jT,blk,e1,e2,e3⟩=>by have:=(st.mu jT blk k e1 e2 (e3.back fun y hy=>hB1.block y (st.mu _ _ y e1 e2 (.inl hy)).2.2.1)).2.2.1;omega⟩
  have hev:a.eval g = .func (.func gf) #[] vs.toArray:=by rw [hf.eval];exact YG
  let J:Nat->World->Prop:=fun i W'=> ∃σ' F',St G w (qX w σ H) F nl σ' F' (Hs i) W'∧Ext n σ F w nl σ' F' W'∧(Off G w σ' F' (Hs i) W' (w.heap.size+1)∧W'.heap[w.heap.size+1]? = some (.loop (rec .ready none)))∧Off G w σ' F' (Hs i) W' w.heap.size∧W'.heap[w.heap.size]? = some (.deferred (some []))
  have st1:St G w (qX w σ H) F n σ F H W1:=st.start.grow hB1
  have x1:Ext n σ F w n σ F W1:=Ba st hB1
  have hJ0:J 0 W1:=by
   obtain⟨σ1,F1,s1,_,l1,f1⟩:=Gg W1 (qX W1 σ H) F σ F W1 ρ st1.start fun s hs=>by cases hs
   have o1:=(off1 (w.heap.size+1) aad aad).step s1
   have o2:=(off1 w.heap.size aad aad).step s1
   exact⟨σ1,F1,st1.back s1,x1.trans ⟨hle,l1,fun b hb=>⟨f1 b hb,rfl⟩,ay _⟩,⟨o1.1,hL1⟩,o2.1,hD1⟩
  have hcall:=hit n σ F vs W1 (w.heap.size+1) J st1.glob (fun b hb=>(st1.lI b hb).1) (YH.mono x1)
   (fun i W' W'' ⟨σ',F',s',x',⟨o1,h1⟩,o2,h2⟩ hB=>⟨σ',F',s'.grow hB,x'.trans (Ba s' hB),⟨o1.grow s' hB,(hB.block _ o1.lt).trans h1⟩,o2.grow s' hB,(hB.block _ o2.lt).trans h2⟩)
   (fun i W' ⟨σ',F',s',x',⟨o1,h1⟩,o2,h2⟩=>⟨by have:=o1.lt;omega,s'.glob,fun b hb=>(x'.f b hb).2.trans (x1.f b hb).2.symm⟩)
   (fun i y W' args hy ⟨σ',F',s',x',⟨o1,h1⟩,o2,h2⟩ ra=>by
    have hyl:y.length=ps.size:=hxl y (aO hy)
    have hal:=ra.len
    have hrun:=run_yield (P:=P) (args:=args.toArray) h1 (by rw [hrec];simp only [List.size_toArray];omega)
    rw [hrec]at hrun
    refine⟨fn,_,assign,body,hrun,roundIn_of_wpIn trivial ?_⟩
    have eF:(ps.zip args.toArray).foldl (fun tmps (x:Tmp×Value)=>tmps.setIfInBounds x.1 x.2) a.tmps=(ps.toList.zip args).foldl (fun tmps (x:Tmp×Value)=>tmps.setIfInBounds x.1 x.2) a.tmps:=by
     rw [<-Array.foldl_toList,Array.toList_zip]
    have x0:Ext n σ F W' nl σ' F' W':=⟨hle,x'.s,fun b hb=>⟨(x'.f b hb).1,rfl⟩,ay _⟩
    obtain⟨ρr,hfr,hrr⟩:=Fits.Bc (N:=N) ps.toList y args kS ρ a.tmps aat (by rw [hyl];simp) (ra.mono x0) ⟨hf.size,hf.get,rfl⟩ fun s=>(hr s).mono x'
    have e2:({tmps:=(ps.toList.zip args).foldl (fun tmps (x:Tmp×Value)=>tmps.setIfInBounds x.1 x.2) a.tmps,defers:= []} : Act) = {tmps:=(ps.zip args.toArray).foldl (fun tmps (x:Tmp×Value)=>tmps.setIfInBounds x.1 x.2) a.tmps,defers:= []}:=by rw [eF]
    rw [e2]at hfr
    refine Go.wpIn_mono (iha false (some (w.heap.size+1)) (fun L=>L = []) (fun _=>true) _ (Bc kS ps.toList y) nl (Hs i) ρr ρr _ W' σ' F' nl σ' F' W' [] W' (qX W' σ' (Hs i)) F' (fun e=>by cases e) hca rfl hfr (Same.refl _ _) s'.start (Ext.refl _ _ _ _) hrr MK.nil (hbody i y hy)) fun e wI tK hq=> ?_
    cases e with
    | normal=>
     obtain⟨L1,ZL,WG,n1,σ1,F1,H1,rfl,hf1,_,t1,y1,hr1,_,hv⟩:=hq
     have q1:=o1.step t1
     have q2:=o2.step t1
     have g1:=q1.2.trans h1
     have g2:=q2.2.trans h2
     refine⟨_,run_beginRound g1 (by rw [hrec]), ?_⟩
     obtain⟨zl,JQ⟩ : ∃zl,tK.putObj (w.heap.size+1) (.loop {rec .ready none with state:= .busy})=zl:=⟨_,rfl⟩
     rw [JQ]
     have u1:=s'.back t1
     have u2:=u1.put q1.1 (.loop {rec .ready none with state:= .busy})
     have x2:=xI (n:=n1) (σ:=σ1) (w:=tK) (.loop {rec .ready none with state:= .busy}) q1.1.nf
     have p1:=q1.1.put q1.1 (.loop {rec .ready none with state:= .busy})
     have p2:=q2.1.put q1.1 (.loop {rec .ready none with state:= .busy})
     have k1:zl.heap[w.heap.size+1]? = some (.loop {rec .ready none with state:= .busy}):=by rw [<-JQ];exact World.putObj_heap_same q1.1.lt
     have k2:zl.heap[w.heap.size]? = some (.deferred (some [])):=by rw [<-JQ,World.putObj_heap_other aad];exact g2
     rw [JQ]at u2 x2 p1 p2
     refine Go.wpIn_mono (ihb false (some (w.heap.size+1)) (fun L=>L = []) (fun _=>true) _ WG n1 H1 ZL ZL wI zl σ1 F1 n1 σ1 F1 zl [] zl (qX zl σ1 H1) F1 (fun e=>by cases e) hcb rfl hf1 (Same.refl _ _) u2.start (Ext.refl _ _ _ _) (fun s=>(hr1 s).mono x2) MK.nil hv) fun e abY Me hq3=> ?_
     cases e with
     | normal=>
      obtain⟨L3,Yk,YI,n3,σ3,F3,H3,rfl,hf3,_,t3,y3,hr3,_,hv3⟩:=hq3
      have v1:=p1.step t3
      have v2:=p2.step t3
      have m1:=v1.2.trans k1
      have m2:=v2.2.trans k2
      obtain⟨σ4,F4,s4,_,l4,f4⟩:=hv3.holds Me (qX Me σ3 H3) F3 σ3 F3 Me Yk (u2.back t3).start fun s hs=>by cases hs
      have z1:=v1.1.step s4
      have z2:=v2.1.step s4
      have sz:St G w (qX w σ H) F nl σ4 F4 (Hs (i+1)) Me:=(u2.back t3).back s4
      have hend:=run_endRound (P:=P) none m1
      refine⟨_,_,hend,rfl,σ4,F4,sz.put z1.1 _, ?_,⟨z1.1.put z1.1 _, ?_⟩,z2.1.put z1.1 _, ?_⟩
      ·have xA:Ext n σ F w n3 σ3 F3 Me:=(x'.trans y1).trans (x2.trans y3)
       have xB:Ext n σ F w nl σ4 F4 Me:=⟨hle,fun l hl=>(l4 l hl).trans (xA.s l hl),fun b hb=>⟨f4 b (xA.f b hb).1,(xA.f b hb).2⟩,xA.sz⟩
       exact xB.trans (xI _ z1.1.nf)
      ·rw [World.putObj_heap_same z1.1.lt]
       simp only [hrec,Option.isNone_none,if_true]
      ·rw [World.putObj_heap_other aad];exact m2
     | exit id=>obtain⟨L3,Yk,YI,n3,σ3,F3,H3,_,_,_,_,_,_,_,hv3⟩:=hq3;exact hv3.elim
     | ret=>obtain⟨L3,Yk,YI,n3,σ3,F3,H3,_,_,_,_,_,_,_,hv3⟩:=hq3;exact hv3.elim
     | goto l=>exact hq3.elim
     | panic ch=>exact hq3.elim
     | outgrown=>exact hq3.elim
    | exit id=>obtain⟨L1,ZL,WG,n1,σ1,F1,H1,_,_,_,_,_,_,_,hv⟩:=hq;exact hv.elim
    | ret=>obtain⟨L1,ZL,WG,n1,σ1,F1,H1,_,_,_,_,_,_,_,hv⟩:=hq;exact hv.elim
    | goto l=>exact hq.elim
    | panic ch=>exact hq.elim
    | outgrown=>exact hq.elim) hJ0
  refine⟨w.heap.size+1,[mark w.heap.size],W1,{target:= .fn (.func gf) vs.toArray,args:= #[.func (.yield (w.heap.size+1)) #[] #[]]},W1,gf, #[.func (.yield (w.heap.size+1)) #[] #[]]++vs.toArray,W1, ?_, ?_,fun _ _=>trivial, ?_,fun h=>(by cases h), ?_⟩
  ·rw [<-hW1,hrec];exact run_enterLoop_outer _ _ _ _ _
  ·simp only [resolve,hev]
   simp [go_sem]
  ·simp only [invoke]
   exact wL aar
  refine hcall.mono ?_
  rintro e W' ⟨⟨v,rfl⟩,σ',F',s',x',⟨o1,h1⟩,o2,h2⟩
  refine⟨none,W'.putObj (w.heap.size+1) (.loop {rec .ready none with state:= .exhausted}), ?_, ?_⟩
  ·have:=run_endLoop (P:=P) h1 (by rw [hrec];simp)
   rw [this,hrec]
  ·have xp:=xI (n:=nl) (σ:=σ') (w:=W') (.loop {rec .ready none with state:= .exhausted}) o1.nf
   have sp:=s'.put o1 (.loop {rec .ready none with state:= .exhausted})
   refine⟨w.heap.size::L,ρ,kS,nl,σ',F',Hs xs.length,hLp _ _ hlp,⟨hf.size,hf.get, ?_⟩,hs,st.back sp,(x.trans x').trans xp,fun s=>(hr s).mono (x'.trans xp), ?_,hdone⟩
   ·show [mark w.heap.size]++a.defers=_
    rw [hf.defers];rfl
   ·have mk2:=(mk.step s')
    have hw0:=st.nN.size
    refine⟨List.nodup_cons.2 ⟨fun hm=> ?_,mk.nodup⟩,fun D hD=> ?_,fun D hD=> ?_⟩
    ·have:=(mk.off _ hm).lt;omega
    ·rcases bG.1 hD with rfl|hD
     ·exact(Off.mk aad o2.nb o2.lt o2.nf o2.nm:Off G jL σ' F' (Hs xs.length) W' w.heap.size).put o1 _
     ·exact(mk2.off D hD).put o1 _
    ·rcases bG.1 hD with rfl|hD
     ·rw [World.putObj_heap_other aad];exact h2
     ·have:=(mk.off D hD).lt
      rw [World.putObj_heap_other aad];exact mk2.obj D hD
 | _=>intro rf r Lp W Q kS n H ρ jK a w σ F nb ny Fb wb L jL jO jQ _ hc;simp [mG]at hc
end
section
variable {P:Program}{G:Glob}{n:Nat}{H:jI}
theorem JR {f:FuncId}{fn:Func}{c:Code}{args:List AV}{R:AV->Nat->jI->Prop}(hf:P.funcs[f]? = some fn)(hb:fn.body=some c)(hm:P.follows .mixedOrders=true)
  (hok:(Nat.ble args.length fn.ntmps&&mG true fn.ntmps (fun _=>true) c)=true) (h:aY P G c (VQ P G n fn R) (sV args) n H):kQ P G f args n H R:=by
 intro w σ F vs st r
 simp only [ah]at hok
 have hN:=ak hok.1
 have hl:=r.len
 refine(callsIn_wide (n:=0)).1 (callsIn_of_wp_marks hf hb trivial ?_)
 have hfit:Fits fn.ntmps ([].map mark) (oO vs.toArray) {tmps:=vs.toArray++Array.replicate (fn.ntmps-vs.toArray.size) undef,defers:= []}:=by
  refine⟨by simp;omega,fun t=> ?_,rfl⟩
  simp only [oO,wM]
  rw [dZ,aV,gJ]
  by_cases ht:t<vs.toArray.size
  ·simp only [if_pos ht,jw]
  ·simp only [ht,if_false]
   have ht':vs.length<=t:=by simpa using ht
   rw [fA ht']
   rw [ji]
   split<;>rfl
 refine Go.wpIn_mono (OE hm c true none (fun _=>True) (fun _=>true) _ (sV args) n H _ (oO vs.toArray) _ w σ F n σ F w [] w (qX w σ H) F (fun _=>⟨rfl,fun _ _ _=>trivial⟩) hok.2 trivial hfit (Same.refl _ _) st (Ext.refl _ _ _ _) (fun s=>by
  have:=Gi r s
  simpa [oO,sV]using this) MK.nil h) fun e a' w' hq=> ?_
 have res : ∀ {L':List Nat} {ρ':jU} {lF:jM} {n':Nat} {σ':Nat->Loc} {F':Nat->Prop} {H':jI},Fits fn.ntmps (L'.map mark) ρ' a'->St G w (qX w σ H) F n' σ' F' H' w'->Ext n σ F w n' σ' F' w'->nT n' σ' F' w' lF ρ'->MK G w L' σ' F' H' w'->
   (Ej P fn.results.toList lF H' fun vs=>BU G n R (N9 vs) n' H')->
   LeavesInM (zf none) 0 P fn a'.tmps (fun e w'=> ∃v,e = .returned v∧∃a n' σ' F' H',R a n' H'∧St G w (qX w σ H) F n' σ' F' H' w'∧Ext n σ F w n' σ' F' w'∧jX n' σ' F' w' a v) a'.defers .returning w':=by
  intro L' ρ' lF n' σ' F' H' hf' st' x' hr' mk' hv
  rw [hf'.defers]
  refine Gs L' w' mk' st' fun w'' s2 x2=> ?_
  obtain⟨vs,hrun,hk⟩:=zW hf'.get _ _ (AO s2.hrep (fun s=>(hr' s).mono x2) _ _ (fun vs=> ∃a n' σ' F' H',R a n' H'∧St G w (qX w σ H) F n' σ' F' H' w''∧Ext n σ F w n' σ' F' w''∧jX n' σ' F' w'' a (kZ vs)) hv fun ars vs he hl=>by
   obtain⟨a1,n1,H1,hR,hn,hco⟩:=he.ex
   obtain⟨σ1,F1,s1,r1,l1,f1⟩:=hco _ _ _ _ _ _ _ s2 (Gj hl)
   have x3:=x'.trans x2
   exact⟨a1,n1,σ1,F1,H1,hR,s1,⟨hn,fun l hl=>(l1 l hl).trans (x3.s l hl),fun b hb=>⟨f1 b (x3.f b hb).1,(x3.f b hb).2⟩,x3.sz⟩,r1⟩)
  refine⟨kZ vs, ?_,kZ vs,rfl,hk⟩
  rw [sN,Sem.run_bind,gZ,Sem.run_map]
  rw [hrun]
  simp only [Result.andThen_ok,Sem.run_pure]
  congr 1
  match vs with
  | []=>rfl
  | [v]=>rfl
  | v::u::r=>simp [kZ]
 cases e with
 | normal=>obtain⟨L',ρ',lF,n',σ',F',H',_,hf',_,st',x',hr',mk',hv⟩:=hq;exact res hf' st' x' hr' mk' hv
 | ret=>obtain⟨L',ρ',lF,n',σ',F',H',_,hf',_,st',x',hr',mk',hv⟩:=hq;exact res hf' st' x' hr' mk' hv
 | exit id=>obtain⟨L',ρ',lF,n',σ',F',H',_,hf',_,st',x',hr',mk',hv⟩:=hq;exact hv.elim
 | goto l=>exact hq.elim
 | panic ch=>exact hq.elim
 | outgrown=>exact hq.elim
end
structure WH (P:Program)(l:Nat)(args:Array Value)(w:World)(K:Value->World->Prop):Prop where
 runs:YieldAt (zf none) 0 P l args w fun e w'=> ∃v,e = .returned v∧K v w'
def LK (P:Program)(o:Oper)(ρ:jU)(w:World)(K:Value->World->Prop):Prop:=
 match o.op with
 | .call c=>(match c.callee with
  | .value f=>(match mQ ρ f with
   | .func (.yield l) first _=>WH P l (first.toList++c.args.toList.map (mQ ρ)).toArray w K
   | _=>zO P false o ρ w K)
  | _=>zO P false o ρ w K)
 | _=>zO P false o ρ w K
def EF (P:Program)(all:List Oper)(o:Oper)(ρ:jU)(w:World)(K:jU->Value->World->Prop)(oz:jU->Prop):Prop:=
 match o.guard with
 | none=>LK P o ρ w fun v w'=>K ρ v w'
 | some (g,want)=>(match vK all g with
  | some s=>(match ρ s with
   | .bool t=>BO t
     (bif want then LK P o (upd ρ s (.bool true)) w fun v w'=>K (upd ρ s (.bool true)) v w' else oz (upd ρ s (.bool true)))
     (bif want then oz (upd ρ s (.bool false))else LK P o (upd ρ s (.bool false)) w fun v w'=>K (upd ρ s (.bool false)) v w')
   | _=>oz ρ)
  | none=>oz ρ)
def Gu (P:Program)(all:List Oper)(l:List Oper)(ρ:jU)(w:World)(K:jU->World->Prop):Prop:=
 match l with
 | []=>K ρ w
 | o::rest=>EF P all o ρ w (fun ρ' v w'=>Gu P all rest (lG ρ' o.dst v) w' K) fun ρ'=>Gu P all rest (lG ρ' o.dst undef) w K
section
variable {P:Program}
theorem SQ {o:Oper}{ρ:jU}{a:Act}{w:World}{K:Value->World->Prop}{next:Act->World->Prop}{Q:Exit->Act->World->Prop}(hd:nK o=true)(he:a.eval=mQ ρ)(h:LK P o ρ w K)(hk : ∀v w',K v w'->next (a.put o.dst v) w'):o.wpIn (zf none) 0 P a w next Q:=by
 have plain:zO P false o ρ w K->o.wpIn (zf none) 0 P a w next Q:=fun h=>EC (Q:=Q) hd (fun _ _ h=>h) ((oM h).wp he hk)
 unfold LK at h
 split at h
 ·rename_i c ho
  split at h
  ·rename_i f hc
   split at h
   ·rename_i l first cap hf
    obtain⟨fn,tmps,assign,body,hy,hR⟩:=h.runs
    refine⟨fun _ _=>trivial, ?_⟩
    have e:o.semAt (zf none).round a.eval=execOp a.eval o:=Oper.semAt_plain (zf none) _ o (A8 hd)
    rw [e,he]
    have ea:(first.toList++c.args.toList.map (mQ ρ)).toArray=first++c.args.map (mQ ρ):=by apply gU;simp
    rw [ea]at hy
    have hrun:(execOp (mQ ρ) o).run P w = .ok (.round l fn tmps assign body) w:=by
     simp only [execOp,ho,resolve,hc,hf]
     simp [go_sem,Deferred.ofValue,invoke,hy]
    rw [hrun]
    exact⟨fun h=>(by cases h),RoundIn.mono hR fun e w' ⟨v,hv,k⟩=>by subst hv;exact hk _ _ k⟩
   ·exact plain h
  ·exact plain h
 ·exact plain h
theorem Ce {N:Nat}{ds:List Deferred}{ρ:jU}{a:Act}{ops:Array Oper}{o:Oper}{w:World}{K:jU->Value->World->Prop}{oz:jU->Prop}
  (hf:Fits N ds ρ a) (h:EF P ops.toList o ρ w K oz) :
  (Region.wanted o (yielded ops a.tmps)=true∧LK P o ρ w fun v w'=>K ρ v w')∨
  (Region.wanted o (yielded ops a.tmps)=false∧oz ρ):=by
 unfold EF at h
 unfold Region.wanted
 split at h
 ·rename_i hg;rw [hg];exact .inl ⟨rfl,h⟩
 ·rename_i g want hg
  rw [hg]
  simp only [vM hf g]
  split at h
  ·rename_i s hs
   simp only [hs]
   cases hv:ρ s with
   | bool t=>
    have hu:upd ρ s (.bool t)=ρ:=E5 hv
    rw [hv]at h
    cases t<;>cases want<;>simp only [BO,cond_true,cond_false]at h<;>rw [hu]at h
    ·exact .inl ⟨rfl,h⟩
    ·exact .inr ⟨rfl,h⟩
    ·exact .inr ⟨rfl,h⟩
    ·exact .inl ⟨rfl,h⟩
   | _=>rw [hv]at h;exact .inr ⟨rfl,h⟩
  ·rename_i hs;simp only [hs];exact .inr ⟨rfl,h⟩
theorem Gv {N:Nat}{ds:List Deferred}{W:Nat->Bool}{ops:Array Oper}{Q:Exit->Act->World->Prop}{K:jU->World->Prop}{jK:jU}
  (hK : ∀ρ' a' w',Fits N ds ρ' a'->Same W jK ρ'->K ρ' w'->Q .normal a' w') :
  ∀(l:List Oper) (k:Nat) (ρ:jU) (a:Act) (w:World),(∀j,l[j]? = ops.toList[k+j]?)->(∀o∈l,nM N W o=true∧nK o=true)->Fits N ds ρ a->Same W jK ρ->
   Gu P ops.toList l ρ w K->wpOpsIn (zf none) 0 P ops Q (List.range' k l.length) a w:=by
 intro l
 induction l with
 | nil=>intro k ρ a w _ _ hf hs h;exact hK _ _ _ hf hs h
 | cons o rest ih=>
  intro k ρ a w hl hok hf hs h
  have ho:ops[k]? = some o:=by
   have:=hl 0
   simp only [bJ,bU]at this
   rw [<-aT];exact this.symm
  obtain⟨ho1,ho2⟩:=hok o aaA
  have step : ∀(v:Value) (w':World),Gu P ops.toList rest (lG ρ o.dst v) w' K->wpOpsIn (zf none) 0 P ops Q (List.range' (k+1) rest.length) (a.put o.dst v) w':=fun v w' hv=>
   ih (k+1) _ _ _ (fun j=>by have:=hl (j+1);simp only [dL]at this;rw [this];congr 1;omega) (fun o' ho'=>hok o' (by simp [ho']))
    (hf.put o.dst v (kX ho1)) (hs.lG ho1) hv
  simp only [aZ,iL]
  simp only [wpOpsIn,ho]
  rcases Ce hf h with ⟨hw,hv⟩|⟨hw,hv⟩
  ·simp only [hw,if_true]
   exact SQ ho2 hf.eval hv step
  ·simp only [hw,aS,if_false]
   exact⟨fun _ _=>trivial,step undef w hv⟩
def vY (P:Program)(c:Code)(Q:Ex->jU->World->Prop)(ρ:jU)(w:World):Prop:=
 match c with
 | .skip=>Q .normal ρ w
 | .region id ops draw=>(match draw with
  | false=>Gu P ops.toList ops.toList ρ w (Q .normal)
  | true=>vF P id ops (Q .normal) ρ w)
 | .seq a b=>vY P a (X8 (vY P b) Q) ρ w
 | .cond c t e=>(match mQ ρ c with
  | .bool b=>BO b (vY P t Q ρ w) (vY P e Q ρ w)
  | _=>False)
 | .block id body=>vY P body (QB id Q) ρ w
 | .loop body=>MW body (vY P body) Q ρ w
 | .exit id=>Q (.exit id) ρ w
 | .ret=>Q .ret ρ w
 | _=>False
theorem vF.ED {id:Nat}{N:Nat}{ds:List Deferred}{W:Nat->Bool}{ops:Array Oper}{K:jU->World->Prop}{ρ jK:jU}{a:Act}{w:World}{r:Option Nat}
  (hm:P.follows .mixedOrders=true) (hok : ∀o∈ops.toList,nM N W o=true) (hnd : ∀(i:Nat) (o:Oper),ops[i]? = some o->nK o=true) (hf:Fits N ds ρ a) (hs:Same W jK ρ) (h:vF P id ops K ρ w) :
  (Code.region id ops true).wpIn (zf r) 0 P (RQ N ds W jK K) a w:=by
 obtain⟨p,yN,S,hd,he,hS,hv⟩:=h.ex
 simp only [rO,ah]at hd
 obtain⟨⟨hsel,xZ⟩,hp⟩:=hd
 exact wpIn_region_any hm (xH (fun⟨_,_,h⟩=>h) hnd _ _ _ _ (vN _ _ _ _ (E8 hsel hok w.drew p S he _ ρ a w.drew hp (fun j o _ hl=>by rw [qK]at hl;cases hl) hf hs hS hv ops.size (ak xZ))))
theorem OG (hm:P.follows .mixedOrders=true){N:Nat} : ∀(c:Code) (W:Nat->Bool) (Q:Ex->jU->World->Prop) (ρ jK:jU) (a:Act) (w:World),
  mG false N W c=true->Fits N [] ρ a->Same W jK ρ->vY P c Q ρ w->c.wpIn (zf none) 0 P (CQ N [] W jK Q) a w:=by
 intro c
 induction c with
 | skip=>intro W Q ρ jK a w _ hf hs h;exact wpIn_skip ⟨ρ,hf,hs,h⟩
 | region id ops draw=>
  intro W Q ρ jK a w hc hf hs h
  have hok0 : ∀o∈ops.toList,(nM N W o=true∧rP o=true)∧nK o=true:=by simpa only [mG,bf,ah]using hc
  have hok : ∀o∈ops.toList,nM N W o=true:=fun o ho=>(hok0 o ho).1.1
  have hnd : ∀(i:Nat) (o:Oper),ops[i]? = some o->nK o=true:=fun i o ho=>(hok0 o (by rw [<-aT]at ho;exact aO ho)).2
  have mono : ∀e a w,RQ N [] W jK (Q .normal) e a w->CQ N [] W jK Q e a w:=fun e a w hq=>aa8
  cases draw with
  | false=>
   refine Go.wpIn_mono (wpIn_region ?_) mono
   have hlen:ops.toList.length=ops.size:=aaA
   rw [gV, <-hlen]
   exact Gv (K:=Q .normal) (Q:=RQ N [] W jK (Q .normal)) (fun ρ' a' w' hf' hs' hk=>⟨ρ',hf',hs',hk⟩) ops.toList 0 ρ a w (fun j=>by rw [aJ]) (fun o ho=>⟨hok o ho,(hok0 o ho).2⟩) hf hs h
  | true=>exact Go.wpIn_mono (vF.ED hm hok hnd hf hs h) mono
 | seq x y Vo ihy=>
  intro W Q ρ jK a w hc hf hs h
  simp only [mG,ah]at hc
  refine wpIn_seq (Go.wpIn_mono (Vo W _ ρ jK a w hc.1 hf hs h) fun e a' w' hq=> ?_)
  cases e with
  | normal=>
   obtain⟨ρ',hf',hs',hv⟩:=hq
   exact ihy W Q ρ' jK a' w' hc.2 hf' hs' hv
  | exit id=>exact hq
  | ret=>exact hq
  | goto l=>exact hq
  | panic ch=>exact hq
  | outgrown=>exact hq
 | cond c x y Vo ihy=>
  intro W Q ρ jK a w hc hf hs h
  simp only [mG,ah]at hc
  simp only [vY]at h
  split at h
  ·rename_i b hb
   refine wpIn_cond (t:=b) (by rw [hf.eval];exact hb) ?_
   cases b with
   | true=>exact Vo W Q ρ jK a w hc.1 hf hs h
   | false=>exact ihy W Q ρ jK a w hc.2 hf hs h
  ·cases h
 | block id b ih=>
  intro W Q ρ jK a w hc hf hs h
  refine wpIn_block (Go.wpIn_mono (ih W _ ρ jK a w hc hf hs h) fun e a' w' hq=> ?_)
  cases e with
  | normal=>exact hq
  | exit j=>
   obtain⟨ρ',hf',hs',hv⟩:=hq
   simp only [QB]at hv
   simp only [Exit.inBlock]
   by_cases hj:j=id
   ·subst hj
    rw [fU,cond_true]at hv
    simp only [if_true]
    exact⟨ρ',hf',hs',hv⟩
   ·have hb:Nat.beq j id=false:=by
     cases hb:Nat.beq j id with
     | false=>rfl
     | true=>exact absurd (aj hb) hj
    rw [hb,cond_false]at hv
    rw [if_neg hj]
    exact⟨ρ',hf',hs',hv⟩
  | ret=>exact hq
  | goto l=>exact hq
  | panic ch=>exact hq
  | outgrown=>exact hq
 | loop b ih=>
  intro W Q ρ jK a w hc hf hs h
  obtain⟨ws,I,n,hw,EP,hr⟩:=h.ex
  have hc':=yZ b hc hw
  refine tq (fun n a' w'=> ∃ρ',I n ρ' w'∧Fits N [] ρ' a'∧Same (fun k=>W k&&ws k) ρ ρ') n ⟨ρ,EP,hf,Same.refl _ _⟩ fun n a' w' ⟨ρ',hI,hf',hs'⟩=> ?_
  have hsw:Same ws ρ ρ':=fun k hk=>hs' k abh
  refine Go.wpIn_mono (ih (fun k=>W k&&ws k) _ ρ' ρ a' w' hc' hf' hs' (hr n ρ' w' hI hsw)) fun e a'' w'' hq=> ?_
  have up : ∀ {lZ},Same (fun k=>W k&&ws k) ρ lZ->Same W jK lZ:=fun h'=>hs.trans fun k hk=>h' k abh
  cases e with
  | normal=>
   obtain⟨lZ,qL,qM,⟨m,hlt,hI'⟩⟩:=hq
   exact⟨m,hlt,lZ,hI',qL,qM⟩
  | exit id=>obtain⟨lZ,qL,qM,hv⟩:=hq;exact⟨lZ,qL,up qM,hv⟩
  | ret=>obtain⟨lZ,qL,qM,hv⟩:=hq;exact⟨lZ,qL,up qM,hv⟩
  | goto l=>exact hq
  | panic ch=>exact hq
  | outgrown=>exact hq
 | exit id=>intro W Q ρ jK a w _ hf hs h;exact Go.wpIn_exit ⟨ρ,hf,hs,h⟩
 | ret=>intro W Q ρ jK a w _ hf hs h;exact Go.wpIn_ret ⟨ρ,hf,hs,h⟩
 | _=>intro W Q ρ jK a w hc;simp [mG]at hc
def aav (K:World->Prop)(e:Ex)(_:jU)(w:World):Prop:=
 match e with
 | .normal=>nP (K w)
 | .ret=>nP (K w)
 | .exit _=>False
theorem Gw {f:FuncId}{fn:Func}{c:Code}{args:Array Value}{w:World}{K:World->Prop}
  (hf:P.funcs[f]? = some fn) (hb:fn.body=some c) (hm:P.follows .mixedOrders=true) (hN:args.size<=fn.ntmps) (hres:fn.results = #[]) (hok:mG false fn.ntmps (fun _=>true) c=true)
  (h:vY P c (aav K) (oO args) w):CallsIn (zf none) 0 P f args w fun e w'=>(∃v,e = .returned v)∧K w':=by
 refine callsIn_of_wp hf hb trivial ?_
 have hfit:Fits fn.ntmps [] (oO args) {tmps:=args++Array.replicate (fn.ntmps-args.size) undef,defers:= []}:=by
  refine⟨by simp;omega,fun t=> ?_,rfl⟩
  simp only [oO,wM]
  rw [dZ,aV,gJ]
  by_cases ht:t<args.size
  ·simp [ht]
  ·simp only [ht,if_false,aT]
   rw [dP (jk ht)]
   by_cases h2:t-args.size<fn.ntmps-args.size
   ·simp [h2]
   ·simp [h2]
 refine Go.wpIn_mono (OG hm c (fun _=>true) _ _ _ _ w hok hfit (Same.refl _ _) h) fun e a' w' hq=> ?_
 have res : ∀ {ρ':jU},Fits fn.ntmps [] ρ' a'->K w'->a'.defers = []∧∃v,(results fn a'.tmps).run P w' = .ok v w'∧(∃u,Ending.returned v = .returned u)∧K w':=by
  intro ρ' hf' hk
  refine⟨hf'.defers, .tuple #[], ?_,⟨_,rfl⟩,hk⟩
  rw [sN,hres]
  simp
 cases e with
 | normal=>obtain⟨ρ',hf',_,hv⟩:=hq;exact res hf' hv.holds
 | ret=>obtain⟨ρ',hf',_,hv⟩:=hq;exact res hf' hv.holds
 | exit id=>obtain⟨ρ',hf',_,hv⟩:=hq;exact hv.elim
 | goto l=>exact hq.elim
 | panic ch=>exact hq.elim
 | outgrown=>exact hq.elim
end
theorem lN.down {n:Nat}{σ:Nat->Loc}{F:Nat->Prop}{w:World}{a:FV}{v:Value}(h:jX n σ F w a.up v):lN F w a v:=by
 cases a with
 | top=>exact .top v
 | v x=>cases h;exact .v _
 | lst sz l=>cases h with|lst h=>exact h
 | fp cs o=>cases h with|fp h=>exact h
 | fm M=>cases h with|fm h=>exact h
theorem SV {G:Glob}{n:Nat}{H:jI}{R:AV->Nat->jI->Prop}{f:Fn}(ls:List (Nat×TypeId×List FV))(k:R (.fn f [] (ls.map fun p=> .fp p.2.2 0)) 0 [])
  (hl : ∀p∈ls,look H p.1=some (.var p.2.1 (p.2.2.map FV.up))):BU G 0 R (.fn f [] (ls.map fun p=> .ptr p.1 0)) n H:=by
 refine⟨_,0,[],k,ay _,fun jL jO jQ σ F w v st ra=> ?_⟩
 have hsub : ∀b,(F b∨∃p∈ls,(σ p.1).b=some b)->b<w.heap.size∧(jQ b∨jL.heap.size<=b∨jO b):=fun b hb=>by
  rcases hb with hb|⟨p,hp,hb⟩
  ·exact st.lI b hb
  ·obtain⟨_,_,h3,h4⟩:=st.mu _ _ b (hl p hp) rfl (.inl hb)
   exact⟨h3,h4.elim (fun h=> .inr (.inr h)) fun h=> .inr (.inl h)⟩
 refine⟨σ,fun b=>F b∨∃p∈ls,(σ p.1).b=some b,⟨st.glob,st.nN,hsub,(fun _ _ h=>by cases h),(fun _ _ _ h=>by cases h),(fun _ _ _ _ _ h=>by cases h),(fun _ _ h=>by cases h)⟩, ?_,fun _ h=>absurd h (fO _),fun b hb=> .inl hb⟩
 cases ra with
 | fn _ _ _ us vs hx hy rx ry=>
  refine .fn f [] _ us vs hx (by simpa using hy) (fun j a v h=>by simp at h) fun j a v h1 h2=> ?_
  rw [aI]at h1
  cases hp:ls[j]? with
  | none=>rw [hp]at h1;cases h1
  | some p=>
   rw [hp]at h1
   injection h1 with h1
   subst h1
   have hm:=aO hp
   have r:=ry j (.ptr p.1 0) v (by rw [aI,hp];rfl) h2
   cases r with
   | ptr _ _ b hlt hb=>
    obtain⟨g,xs,hg,hblk,hr,hone⟩:=st.blk _ _ (hl p hm)
    rw [hb]at hg
    injection hg with hg
    subst hg
    have hlen:=hr.len
    rw [au]at hlen
    refine .fp (.fp p.2.2 0 b 0 (.inr ⟨p,hm,hb⟩) (fun j hj=> ?_) fun j a v h1 h3=> ?_)
    ·have hj':j<xs.length:=aad
     exact⟨xs[j],by rw [aJ,hblk.cell,aB hj'],hone _ (bQ hj')⟩
    ·rw [aJ,hblk.cell]at h3
     exact(lN.down (hr.at j a.up v (by rw [aI,h1];rfl) h3)).mono fun b hb=>⟨.inl hb,rfl⟩
theorem kQ.up {P:Program}{f:FuncId}{args:List AV}{n:Nat}{H:jI}{R:AV->Nat->jI->Prop}(h:kQ P ⟨0,fun _=>none,fun _=>none⟩ f args n H R)(G:Glob):kQ P G f args n H R:=by
 intro w σ F vs st r
 have st0:St ⟨0,fun _=>none,fun _=>none⟩ w (qX w σ H) F n σ F H w:=
  ⟨⟨aK _,(fun _ _ h=>by cases h),fun _ _ h=>by cases h⟩,st.nN,st.lI,st.lab,fun jT b g h1 h2 h3=>⟨(st.mu jT b g h1 h2 h3).1,aK _,(st.mu jT b g h1 h2 h3).2.2⟩,st.inj,st.blk⟩
 refine(h w σ F vs st0 r).mono fun v w' ⟨a,n',σ',F',H',hR,s,x,ra⟩=>⟨a,n',σ',F',H',hR, ?_,x,ra⟩
 have hnb:=st.glob.1
 refine⟨Glob.nN st.glob s.nN.size fun b hb=>s.nN.block b aad fun⟨jT,blk,h1,h2,h3⟩=>by have:=(st.mu jT blk b h1 h2 h3).2.1;omega,s.nN,s.lI,s.lab,fun jT b g h1 h2 h3=> ?_,s.inj,s.blk⟩
 obtain⟨a1,a2,a3,a4⟩:=s.mu jT b g h1 h2 h3
 refine⟨a1, ?_,a3,a4⟩
 rcases a4 with ⟨uY,blk',e1,e2,e3⟩|h4
 ·exact(st.mu uY blk' g e1 e2 e3).2.1
 ·omega
section
variable {P:Program}{G:Glob}
theorem OH {gv:AV}{ps:Array Tmp}{A B:(Ex->jM->Nat->jI->Prop)->jM->Nat->jI->Prop}{Q:Ex->jM->Nat->jI->Prop}{ρ:jM}{n:Nat}{H:jI}
  {gf:FuncId} {caps:List AV} {xs:List (List AV)} (hit:AIt P G gf caps xs) (nl:Nat) (Hs:Nat->jI) (θ:List (Nat×Src)) (Z:List Nat) (hg:gv = .fn (.func gf) [] caps) (hc:callable P gf=true) (hle:Nat.ble n nl=true) (hx : ∀x∈xs,x.length=ps.size)
  (hw:Ls n nl θ Z (Hs 0)=true) (hH:MC H θ Z n (Hs 0))
  (hbody : ∀i x,xs[i]? = some x->A (JO (B (JO fun ρ' n' H'=>AA (ET G (fun _=>false) n ρ' n' H' ρ nl (Hs (i+1)))))) (Bc ρ ps.toList x) nl (Hs i))
  (hdone:Q .normal ρ nl (Hs xs.length)):OD P G gv ps A B Q ρ n H:=
 ⟨⟨gf,caps,xs,nl,Hs,hg,hc,hit,ak hle,hx,Es (ws:= []) (sl:= []) θ Z hw hH trivial,hbody,hdone⟩⟩
theorem WI {ρ ρ':jM}{nb nl n':Nat}{H' oq:jI}(θ:List (Nat×Src))(Z:List Nat)(hw:Ls nb nl θ Z oq=true)(hH:MC H' θ Z nb oq):AA (ET G (fun _=>false) nb ρ' n' H' ρ nl oq):=
 ⟨Es (ws:= []) (sl:= []) θ Z hw hH trivial⟩
end
end Go.Proofs.YtnandbihiceihaaGreatDoor.Ax
