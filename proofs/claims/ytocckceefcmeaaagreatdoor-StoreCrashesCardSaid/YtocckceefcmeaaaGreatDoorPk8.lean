/- Joined parts of the proof. What one state of a walk has from another: labels renamed, memory of the call's own frozen, registers forgotten -/
import Derived.Test.YtocckceefcmeaaaGreatDoorPk7
set_option linter.unusedVariables false
set_option linter.unusedSimpArgs false
set_option maxRecDepth 100000
set_option maxHeartbeats 16000000
namespace Go.Proofs.YtocckceefcmeaaaGreatDoor.Ax
open Go Go.RowKit Go.Proofs.YtocckceefcmeaaaGreatDoor.Vc
inductive Src where
 | lab (aT:Nat)
 | nil
def tr (θ:List (Nat×Src))(k:Nat):Option Src:=
 match θ with
 | []=>none
 | p::r=>bif Nat.beq p.1 k then some p.2 else tr r k
def wY (θ:List (Nat×Src))(nb k aT:Nat):Prop:=
 match tr θ k with
 | some (.lab e)=>e=aT
 | some .nil=>False
 | none=>Nat.blt k nb=true∧k=aT
mutual
def co (H:ak)(θ:List (Nat×Src))(Z:List Nat)(nb:Nat)(a' a:AV):Prop:=
 match a' with
 | .top=>True
 | .v x'=>(match a with | .v x=>x=x' | _=>False)
 | .lst sz l'=>(match a with
  | .lst sz' l=>sz'=sz∧l=l'
  | .v (.slice none 0 0)=>l' = []
  | .own e=>(match look H e with
   | some (.rows _ sz' l)=>lI Z e=true∧sz'=sz∧l=l'
   | some (.fz sz' l)=>sz'=sz∧l=l'
   | _=>False)
  | .sub e o k=>(match look H e with
   | some (.rows _ sz' l)=>lI Z e=true∧sz'=sz∧(l.drop o).take k=l'
   | some (.fz sz' l)=>sz'=sz∧(l.drop o).take k=l'
   | _=>False)
  | _=>False)
 | .fp cs o=>(match a with | .fp cs' o'=>cs'=cs∧o'=o | _=>False)
 | .fm M=>(match a with
  | .fm M'=>M'=M
  | .mp e=>(match look H e with | some (.Nz M')=>M'=M | _=>False)
  | _=>False)
 | .ptr k o=>(match a with | .ptr e o'=>wY θ nb k e∧o'=o | _=>False)
 | .ep k i o=>(match a with | .ep e i' o'=>wY θ nb k e∧i'=i∧o'=o | _=>False)
 | .own k=>(match a with
  | .own e=>wY θ nb k e
  | .v (.slice none 0 0)=>(match tr θ k with | some .nil=>True | _=>False)
  | _=>False)
 | .sub k o n=>(match a with | .sub e o' n'=>wY θ nb k e∧o'=o∧n'=n | _=>False)
 | .mp k=>(match a with | .mp e=>wY θ nb k e | _=>False)
 | .fn f xs ys=>(match a with | .fn f' xs' ys'=>f'=f∧KY H θ Z nb xs xs'∧KY H θ Z nb ys ys' | _=>False)
 | .agg cs=>(match a with | .agg cs'=>KY H θ Z nb cs cs' | _=>False)
 | .bH cs=>(match a with | .bH cs'=>KY H θ Z nb cs cs' | _=>False)
def KY (H:ak)(θ:List (Nat×Src))(Z:List Nat)(nb:Nat)(l' l:List AV):Prop:=
 match l' with
 | []=>(match l with | []=>True | _=>False)
 | a'::r'=>(match l with | a::r=>co H θ Z nb a' a∧KY H θ Z nb r' r | _=>False)
end
def Ul (H:ak)(θ:List (Nat×Src))(Z:List Nat)(nb:Nat)(b' b:dU):Prop:=
 match b' with
 | .var t cs=>(match b with | .var t' cs'=>t'=t∧KY H θ Z nb cs cs' | _=>False)
 | .rows t sz l=>(match b with | .rows t' sz' l'=>t'=t∧sz'=sz∧l'=l | _=>False)
 | .fz sz l=>(match b with | .fz sz' l'=>sz'=sz∧l'=l | _=>False)
 | .map M=>(match b with | .map M'=>M'=M | _=>False)
 | .Nz M=>(match b with | .Nz M'=>M'=M | _=>False)
 | .qV M=>(match b with | .qV M'=>M'=M | _=>False)
 | .itr s p=>(match b with | .itr s' p'=>s'=s∧p'=p | _=>False)
 | .tree t sz l none=>(match b with | .tree t' sz' l' none=>t'=t∧sz'=sz∧l'=l | _=>False)
 | .tree t sz l (some (i,j,k))=>(match b with | .tree t' sz' l' (some (i',j',e))=>t'=t∧sz'=sz∧l'=l∧i'=i∧j'=j∧wY θ nb k e | _=>False)
def Jp (H:ak)(θ:List (Nat×Src))(Z:List Nat)(nb:Nat)(H':ak):Prop:=
 match H' with
 | []=>True
 | (k,b')::r=>(match tr θ k with
  | some (.lab e)=>(match look H e with | some b=>Ul H θ Z nb b' b | none=>False)
  | some .nil=>(match b' with | .rows _ _ l=>l = [] | _=>False)
  | none=>(match look H k with | some b=>Ul H θ Z nb b' b | none=>False))∧Jp H θ Z nb r
def nI (θ:List (Nat×Src))(k:Nat):Option Nat:=
 match tr θ k with
 | some (.lab e)=>some e
 | some .nil=>none
 | none=>some k
def clash (θ:List (Nat×Src))(k:Nat)(o:Option Nat)(H:ak):Bool:=
 match H with
 | []=>false
 | p::r=>(match o,nI θ p.1 with | some a,some b=>Nat.beq a b&& !(Nat.beq k p.1) | _,_=>false)||clash θ k o r
def wfH (nb n':Nat)(θ:List (Nat×Src))(Z:List Nat)(All H':ak):Bool:=
 match H' with
 | []=>true
 | p::r=>Nat.blt p.1 n'&&(match tr θ p.1 with | none=>Nat.blt p.1 nb | _=>true)&&(match nI θ p.1 with | some e=> !(lI Z e) | none=>true)&& !(clash θ p.1 (nI θ p.1) All)&&wfH nb n' θ Z All r
def Yx (nb n':Nat)(θ:List (Nat×Src)):Bool:=
 match θ with
 | []=>true
 | p::r=>Nat.ble nb p.1&&Nat.blt p.1 n'&&Yx nb n' r
def Gm (nb n':Nat)(θ:List (Nat×Src))(Z:List Nat)(H':ak):Bool:=Nat.ble nb n'&&Yx nb n' θ&&wfH nb n' θ Z H' H'
def zJ (θ:List (Nat×Src))(σ:Nat→Loc)(Bh:Nat→Nat)(k:Nat):Loc:=
 match tr θ k with
 | some (.lab e)=>σ e
 | some .nil=>⟨none,0,0,Bh k⟩
 | none=>σ k
def FR (σ:Nat→Loc)(H:ak)(Z:List Nat)(F:Nat→Prop)(b:Nat):Prop:=F b∨∃e t sz l,lI Z e=true∧look H e=some (.rows t sz l)∧(σ e).b=some b
def vT (H:ak)(k:Nat):Nat:=match look H k with | some (.rows _ sz _)=>sz | _=>0
section
variable {G:Glob}{w₀:World}{aK aN:Nat→Prop}{n n' nb:Nat}{σ:Nat→Loc}{F:Nat→Prop}{H H':ak}{w:World}{θ:List (Nat×Src)}{Z:List Nat}{Bh:Nat→Nat}
theorem Jq {nb n':Nat} : ∀ {θ:List (Nat×Src)} {k:Nat} {s:Src},Yx nb n' θ=true→tr θ k=some s→nb≤k∧k<n':=by
 intro θ
 induction θ with
 | nil=>intro k s _ h;cases h
 | cons p r ih=>
  intro k s hw h
  simp only [Yx,Bool.and_eq_true]at hw
  simp only [tr]at h
  cases hb:Nat.beq p.1 k with
  | true=>
   rw [Nat.eq_of_beq_eq_true hb]at hw
   exact⟨Nat.le_of_ble_eq_true hw.1.1,Nat.le_of_ble_eq_true hw.1.2⟩
  | false=>rw [hb,cond_false]at h;exact ih hw.2 h
theorem Ql (hw:Yx nb n' θ=true){l:Nat}(hl:l<nb):zJ θ σ Bh l=σ l:=by
 unfold zJ
 cases h:tr θ l with
 | none=>rfl
 | some s=>have:=(Jq hw h).1;omega
theorem nJ (hw:Yx nb n' θ=true)(hnb:nb≤n'){k e:Nat}(h:wY θ nb k e):k<n'∧zJ θ σ Bh k=σ e:=by
 unfold wY at h
 unfold zJ
 split at h
 ·rename_i e' ht
  subst h
  exact⟨(Jq hw ht).2,rfl⟩
 ·exact h.elim
 ·rename_i ht
  have:k<nb:=Nat.le_of_ble_eq_true h.1
  rw [h.2]at this ⊢
  exact⟨by omega,rfl⟩
theorem Zt {F:Nat→Prop}{w:World}{sz b m c k cc o:Nat}{l:List (List FV)}(h:dV F w (.lst sz l) (.slice (some ⟨b,0,none⟩) m c))(hk:o+k≤m)(h0:0<k)(hkc:k≤cc) :
  dV F w (.lst sz ((l.drop o).take k)) (.slice (some ⟨b,o*sz,none⟩) k cc):=by
 cases h with
 | lst _ _ _ _ _ b' o' hn hc hnil ho hsz hex hrep=>
  obtain⟨e,hF⟩:=ho (by omega)
  injection e with e
  injection e with e1 e2
  subst e1;subst e2
  have ea : ∀i j,o*sz+(i*sz+j)=0+((o+i)*sz+j):=fun i j=>by rw [Nat.add_mul];omega
  refine .lst sz _ _ k cc b (o*sz) (by rw [List.length_take,List.length_drop];omega) hkc (fun h=>by cases h) (fun _=>⟨rfl,hF⟩) (fun row hr=>hsz row (List.mem_of_mem_drop (List.mem_of_mem_take hr))) (fun i j hi hj=> ?_) (fun i j row a v h1 h2 h3=> ?_)
  ·rw [ea];exact hex (o+i) j (by omega) hj
  ·rw [ea]at h3
   rw [List.getElem?_take]at h1
   split at h1
   ·rw [List.getElem?_drop]at h1
    exact hrep (o+i) j row a v h1 h2 h3
   ·cases h1
theorem KZ {n n':Nat}{σ σ':Nat→Loc}{F F':Nat→Prop}{w:World}{e o k sz:Nat}{l:List (List FV)}{v:Value}(h:kP n' σ' F' w (σ e) (.fz sz l))(r:aZ n σ F w (.sub e o k) v):aZ n' σ' F' w (.lst sz ((l.drop o).take k)) v:=by
 obtain⟨hsz,hn,hf,h0⟩:=h
 cases r with
 | sub _ _ _ oa c hl hk hc hnil ho=>
  refine .lst ?_
  rcases Nat.eq_zero_or_pos k with e0 | e0
  ·subst e0
   rw [List.take_zero]
   exact .lst sz [] oa 0 c 0 0 rfl hc hnil (fun h=>absurd h (Nat.lt_irrefl 0)) (fun _ h=>by cases h) (fun i j hi=>absurd hi (Nat.not_lt_zero i)) (fun i j row a v hi=>by simp at hi)
  ·obtain⟨b,hb,rfl⟩:=ho e0
   rw [hsz]
   have eo:(σ e).oa=some ⟨b,0,none⟩:=by unfold Loc.oa;rw [hb];rfl
   rw [eo]at hf
   exact Zt hf hk e0 hc
mutual
theorem D9 (st:St G w₀ aK aN n σ F H w)(hw:Yx nb n' θ=true)(hnb:nb≤n')(a' a:AV)(v:Value)(h:co H θ Z nb a' a)(r:aZ n σ F w a v):aZ n' (zJ θ σ Bh) (FR σ H Z F) w a' v:=by
 have hF : ∀b,F b→FR σ H Z F b∧w.heap[b]? = w.heap[b]? :=fun b hb=>⟨.inl hb,rfl⟩
 match a' with
 | .top=>exact .top v
 | .v x'=>
  unfold co at h
  split at h
  ·subst h;rw [r.dH];exact .v _
  ·exact h.elim
 | .lst sz l'=>
  unfold co at h
  split at h
  ·obtain⟨rfl,rfl⟩:=h
   cases r with | lst hf=>exact .lst (hf.mono hF)
  ·subst h;rw [r.dH];exact .lst (qg sz _)
  ·split at h
   ·rename_i e t sz' l hk
    obtain⟨hz,rfl,rfl⟩:=h
    have:=jM (F':=FR σ H Z F) (st.blk _ _ hk) (fun b hb=> .inl hb) fun g hg=> .inr ⟨_,_,_,_,hz,hk,hg⟩
    cases r with
    | je _ oa hl hn hc=>
     have e:=this.2.1
     rw [hn]at e
     have:l = []:=List.eq_nil_of_length_eq_zero e.symm
     subst this
     exact .lst (qg _ _)
    | own _ hl=>exact .lst this.2.2.1
   ·rename_i e sz' l hk
    obtain⟨rfl,rfl⟩:=h
    cases r with
    | je _ oa hl hn hc=>
     have e:=(st.blk _ _ hk).2.1
     rw [hn]at e
     have:l = []:=List.eq_nil_of_length_eq_zero e.symm
     subst this
     exact .lst (qg _ _)
    | own _ hl=>exact .lst ((st.blk _ _ hk).2.2.1.mono hF)
   ·exact h.elim
  ·split at h
   ·rename_i e t sz' l hk
    obtain⟨hz,rfl,rfl⟩:=h
    have hb:=jM (F':=FR σ H Z F) (st.blk _ _ hk) (fun b hb=> .inl hb) fun g hg=> .inr ⟨_,_,_,_,hz,hk,hg⟩
    exact KZ hb r
   ·rename_i e sz' l hk
    obtain⟨rfl,rfl⟩:=h
    exact KZ (n:=n) (σ:=σ) ⟨(st.blk _ _ hk).1,(st.blk _ _ hk).2.1,(st.blk _ _ hk).2.2.1.mono hF,(st.blk _ _ hk).2.2.2⟩ r
   ·exact h.elim
  ·exact h.elim
 | .fp cs o=>
  unfold co at h
  split at h
  ·obtain⟨rfl,rfl⟩:=h
   cases r with | fp hf=>exact .fp (hf.mono hF)
  ·exact h.elim
 | .fm M=>
  unfold co at h
  split at h
  ·subst h
   cases r with | fm hf=>exact .fm (hf.mono hF)
  ·split at h
   ·rename_i e M' hk
    subst h
    obtain⟨g,hg,hf⟩:=st.blk _ _ hk
    cases r with
    | mp _ b hl hb=>
     rw [hb]at hg
     injection hg with hg
     subst hg
     exact .fm (hf.mono hF)
   ·exact h.elim
  ·exact h.elim
 | .ptr k o=>
  unfold co at h
  split at h
  ·obtain⟨h1,rfl⟩:=h
   obtain⟨h2,h3⟩:=nJ (σ:=σ) (Bh:=Bh) hw hnb h1
   cases r with | ptr _ _ b hl hb=>exact .ptr k _ b h2 (by rw [h3];exact hb)
  ·exact h.elim
 | .ep k i o=>
  unfold co at h
  split at h
  ·obtain⟨h1,rfl,rfl⟩:=h
   obtain⟨h2,h3⟩:=nJ (σ:=σ) (Bh:=Bh) hw hnb h1
   cases r with | ep _ _ _ b hl hb=>rw [←h3];exact .ep k _ _ b h2 (by rw [h3];exact hb)
  ·exact h.elim
 | .own k=>
  unfold co at h
  split at h
  ·obtain⟨h2,h3⟩:=nJ (σ:=σ) (Bh:=Bh) hw hnb h
   cases r with
   | je _ oa hl hn hc=>exact .je k oa h2 (by rw [h3];exact hn) (by rw [h3];exact hc)
   | own _ hl=>rw [←h3];exact .own k h2
  ·split at h
   ·rename_i ht
    rw [r.dH]
    have:=aZ.own (n:=n') (σ:=zJ θ σ Bh) (F:=FR σ H Z F) (w:=w) k (Jq hw ht).2
    unfold zJ at this ⊢
    rw [ht]at this
    exact this
   ·exact h.elim
  ·exact h.elim
 | .sub k o m=>
  unfold co at h
  split at h
  ·obtain⟨h1,rfl,rfl⟩:=h
   obtain⟨h2,h3⟩:=nJ (σ:=σ) (Bh:=Bh) hw hnb h1
   cases r with | sub _ _ _ oa c hl hk hc hnil ho=>exact .sub k _ _ oa c h2 (by rw [h3];exact hk) hc hnil (by rw [h3];exact ho)
  ·exact h.elim
 | .mp k=>
  unfold co at h
  split at h
  ·obtain⟨h2,h3⟩:=nJ (σ:=σ) (Bh:=Bh) hw hnb h
   cases r with | mp _ b hl hb=>exact .mp k b h2 (by rw [h3];exact hb)
  ·exact h.elim
 | .fn f xs ys=>
  unfold co at h
  split at h
  ·obtain⟨rfl,h1,h2⟩:=h
   cases r with
   | fn _ _ _ us vs hx hy rx ry=>
    have r1:=kR st hw hnb xs _ us h1 (.of hx rx)
    have r2:=kR st hw hnb ys _ vs h2 (.of hy ry)
    exact .fn _ xs ys us vs r1.len r2.len r1.at r2.at
  ·exact h.elim
 | .agg cs=>
  unfold co at h
  split at h
  ·obtain⟨us,rfl,r2⟩:=bJ.y5 r
   exact(kR st hw hnb cs _ us h r2).agg
  ·exact h.elim
 | .bH cs=>
  unfold co at h
  split at h
  ·cases r with
   | bH _ us hx rx=>exact(kR st hw hnb cs _ us h (.of hx rx)).bH
  ·exact h.elim
theorem kR (st:St G w₀ aK aN n σ F H w)(hw:Yx nb n' θ=true)(hnb:nb≤n')(l' l:List AV)(vs:List Value)(h:KY H θ Z nb l' l)(r:bJ n σ F w l vs):bJ n' (zJ θ σ Bh) (FR σ H Z F) w l' vs:=by
 match l' with
 | []=>
  unfold KY at h
  split at h
  ·cases vs with
   | nil=>trivial
   | cons _ _=>exact r.elim
  ·exact h.elim
 | a'::r'=>
  unfold KY at h
  split at h
  ·cases vs with
   | nil=>exact r.elim
   | cons v vs=>exact⟨D9 st hw hnb a' _ v h.1 r.1,kR st hw hnb r' _ vs h.2 r.2⟩
  ·exact h.elim
end
theorem Jr {a k:Nat} : ∀ {All:ak} {k':Nat} {b:dU},clash θ k (some a) All=false→look All k'=some b→nI θ k'=some a→k'=k:=by
 intro All
 induction All with
 | nil=>intro k' b _ h;cases h
 | cons p r ih=>
  intro k' b hc h hs
  obtain⟨x,bx⟩:=p
  simp only [clash,Bool.or_eq_false_iff]at hc
  rw [aW]at h
  split at h
  ·rename_i e
   subst e
   rw [hs]at hc
   have:=hc.1
   simp only [Nat.beq_refl,Bool.true_and,Bool.not_eq_eq_eq_not,Bool.not_false]at this
   exact(Nat.eq_of_beq_eq_true this).symm
  ·exact ih hc.2 h hs
theorem sN {All:ak} : ∀ {H':ak} {k:Nat} {b:dU},wfH nb n' θ Z All H'=true→look H' k=some b→k<n'∧(tr θ k=none→k<nb)∧(∀e,nI θ k=some e→lI Z e=false)∧clash θ k (nI θ k) All=false:=by
 intro H'
 induction H' with
 | nil=>intro k b _ h;cases h
 | cons p r ih=>
  intro k b hw h
  obtain⟨x,bx⟩:=p
  simp only [wfH,Bool.and_eq_true]at hw
  obtain⟨⟨⟨⟨w1,w2⟩,w3⟩,w4⟩,w5⟩:=hw
  rw [aW]at h
  split at h
  ·rename_i e
   subst e
   refine⟨Nat.le_of_ble_eq_true w1,fun ht=>by rw [ht]at w2;exact Nat.le_of_ble_eq_true w2,fun e he=>by rw [he]at w3;simpa using w3,by simpa using w4⟩
  ·exact ih w5 h
theorem pG : ∀ {H':ak} {k:Nat} {b':dU},Jp H θ Z nb H'→look H' k=some b'→
  (∃e b,nI θ k=some e∧look H e=some b∧Ul H θ Z nb b' b)∨(tr θ k=some .nil∧∃t sz,b' = .rows t sz []):=by
 intro H'
 induction H' with
 | nil=>intro k b _ h;cases h
 | cons p r ih=>
  intro k b' hc h
  obtain⟨x,bx⟩:=p
  rw [aW]at h
  split at h
  ·rename_i e
   subst e
   injection h with h
   subst h
   have hc:=hc.1
   unfold nI
   cases ht:tr θ x with
   | none=>
    rw [ht]at hc
    cases hl:look H x with
    | none=>simp only [hl]at hc
    | some b=>simp only [hl]at hc;exact .inl ⟨x,b,rfl,hl,hc⟩
   | some s=>
    rw [ht]at hc
    cases s with
    | lab e=>
     cases hl:look H e with
     | none=>simp only [hl]at hc
     | some b=>simp only [hl]at hc;exact .inl ⟨e,b,rfl,hl,hc⟩
    | nil=>
     cases bx<;>simp only at hc
     subst hc
     exact .inr ⟨rfl,_,_,rfl⟩
  ·exact ih hc.2 h
theorem xY {b' b:dU}(h:Ul H θ Z nb b' b):b'.own=b.own:=by
 unfold Ul at h
 split at h
 ·split at h
  ·rfl
  ·exact h.elim
 ·split at h
  ·rfl
  ·exact h.elim
 ·split at h
  ·rfl
  ·exact h.elim
 ·split at h
  ·rfl
  ·exact h.elim
 ·split at h
  ·rfl
  ·exact h.elim
 ·split at h
  ·rfl
  ·exact h.elim
 ·split at h
  ·rfl
  ·exact h.elim
 ·split at h
  ·rfl
  ·exact h.elim
 ·split at h
  ·rfl
  ·exact h.elim
theorem xZ {w:World}{L:Loc}{g:Nat}{b' b:dU}(h:Ul H θ Z nb b' b)(ho:iL w L b' g):iL w L b g:=by
 cases hf:b'.flat with
 | true=>exact .inl (ho.flat hf)
 | false=>
  cases b' with
  | tree t sz l hh=>
   cases hh with
   | some p=>
    obtain⟨i,j,k⟩:=p
    unfold Ul at h
    cases b with
    | tree t' sz' l' h'=>
     cases h' with
     | some q=>obtain⟨_,rfl,rfl,_⟩:=h;exact ho
     | none=>exact h.elim
    | _=>exact h.elim
   | none=>
    unfold Ul at h
    cases b with
    | tree t' sz' l' h'=>
     cases h' with
     | none=>obtain⟨_,rfl,rfl⟩:=h;exact ho
     | some _=>exact h.elim
    | _=>exact h.elim
  | _=>cases hf
theorem x9 {k e:Nat}(h:nI θ k=some e):zJ θ σ Bh k=σ e:=by
 unfold nI at h
 unfold zJ
 split at h
 ·injection h with h;rename_i ht;rw [h]
 ·cases h
 ·injection h with h;rename_i ht;rw [h]
theorem zK (st:St G w₀ aK aN n σ F H w)(hw:Gm nb n' θ Z H'=true)(hc:Jp H θ Z nb H'):St G w₀ aK aN n' (zJ θ σ (vT H')) (FR σ H Z F) H' w:=by
 simp only [Gm,Bool.and_eq_true]at hw
 obtain⟨⟨hnb,hT⟩,hH⟩:=hw
 have hnb:=Nat.le_of_ble_eq_true hnb
 have hF : ∀b,F b→FR σ H Z F b∧w.heap[b]? = w.heap[b]? :=fun b hb=>⟨.inl hb,rfl⟩
 refine⟨st.glob,st.gI,fun b hb=> ?_,fun k b h=>(sN hH h).1,fun k b g h hm hg=> ?_,fun k k' b b' g h h' hm hm' hg hg'=> ?_,fun k b h=> ?_⟩
 ·rcases hb with hb | ⟨e,t,sz,l,_,hk,hb⟩
  ·exact st.dL b hb
  ·obtain⟨_,_,h3,h4⟩:=st.mu e _ b hk rfl (.inl hb)
   exact⟨h3,h4.elim (fun h=> .inr (.inr h)) fun h=> .inr (.inl h)⟩
 ·rcases pG hc h with ⟨e,b0,hs,hk,hb⟩ | ⟨ht,_⟩
  ·rw [x9 hs]at hg
   rw [xY hb]at hm
   have hg:=xZ hb hg
   obtain⟨h1,h2,h3,h4⟩:=st.mu e b0 g hk hm hg
   refine⟨fun hf=> ?_,h2,h3,h4⟩
   rcases hf with hf | ⟨e',t,sz,l,hz,hk',hg'⟩
   ·exact h1 hf
   ·have:=st.inj e e' b0 _ g hk hk' hm rfl hg (.inl hg')
    subst this
    rw [(sN hH h).2.2.1 e hs]at hz;cases hz
  ·have hg:=hg.flat (by rename_i x;obtain⟨_,_,rfl⟩:=x;rfl)
   unfold zJ at hg;rw [ht]at hg;cases hg
 ·have hs : ∃e b0,nI θ k=some e∧look H e=some b0∧b0.own=true∧iL w (σ e) b0 g:=by
   rcases pG hc h with ⟨e,b0,hs,hk,hb⟩ | ⟨ht,_,_,rfl⟩
   ·exact⟨e,b0,hs,hk,by rw [←xY hb];exact hm,by rw [x9 hs]at hg;exact xZ hb hg⟩
   ·have hg:=hg.flat rfl
    unfold zJ at hg;rw [ht]at hg;cases hg
  have hs' : ∃e b0,nI θ k'=some e∧look H e=some b0∧b0.own=true∧iL w (σ e) b0 g:=by
   rcases pG hc h' with ⟨e,b0,hs,hk,hb⟩ | ⟨ht,_,_,rfl⟩
   ·exact⟨e,b0,hs,hk,by rw [←xY hb];exact hm',by rw [x9 hs]at hg';exact xZ hb hg'⟩
   ·have hg':=hg'.flat rfl
    unfold zJ at hg';rw [ht]at hg';cases hg'
  obtain⟨e,b0,s1,k1,o1,g1⟩:=hs
  obtain⟨e',b0',s2,k2,o2,g2⟩:=hs'
  have:=st.inj e e' b0 b0' g k1 k2 o1 o2 g1 g2
  subst this
  have hcl:=(sN hH h).2.2.2
  rw [s1]at hcl
  exact(Jr hcl h' s2).symm
 ·rcases pG hc h with ⟨e,b0,hs,hk,hb⟩ | ⟨ht,t,sz,rfl⟩
  ·rw [x9 hs]
   have hB:=st.blk e b0 hk
   unfold Ul at hb
   split at hb
   ·split at hb
    ·obtain⟨rfl,hb⟩:=hb
     obtain⟨g,vs,h1,h2,h3,h4⟩:=hB
     exact⟨g,vs,h1,h2,kR st hT hnb _ _ vs hb h3,h4⟩
    ·exact hb.elim
   ·split at hb
    ·obtain⟨rfl,rfl,rfl⟩:=hb
     obtain⟨h1,h2,xs,h3,h4⟩:=hB
     exact⟨h1,h2,xs,h3,h4.mono hF⟩
    ·exact hb.elim
   ·split at hb
    ·obtain⟨rfl,rfl⟩:=hb
     exact⟨hB.1,hB.2.1,hB.2.2.1.mono hF,hB.2.2.2⟩
    ·exact hb.elim
   ·split at hb
    ·subst hb
     exact hB
    ·exact hb.elim
   ·split at hb
    ·subst hb
     obtain⟨g,h1,h2⟩:=hB
     exact⟨g,h1,h2.mono hF⟩
    ·exact hb.elim
   ·split at hb
    ·subst hb
     obtain⟨g,h1,h2⟩:=hB
     exact⟨g,h1,h2.mono hF rfl⟩
    ·exact hb.elim
   ·split at hb
    ·obtain⟨rfl,rfl⟩:=hb
     exact hB
    ·exact hb.elim
   ·split at hb
    ·obtain⟨rfl,rfl,rfl⟩:=hb
     obtain⟨h1,h2,xs,h3,h4,h5,_⟩:=hB
     exact⟨h1,h2,xs,h3,h4.mono hF,h5,fun _ _ _ h=>by cases h⟩
    ·exact hb.elim
   ·split at hb
    ·obtain⟨rfl,rfl,rfl,rfl,rfl,hs⟩:=hb
     obtain⟨h1,h2,xs,h3,h4,h5,h6⟩:=hB
     refine⟨h1,h2,xs,h3,h4.mono hF,h5,fun i j e h=> ?_⟩
     injection h with h
     injection h with ee1 h
     injection h with Zm ee3
     subst ee1;subst Zm;subst ee3
     obtain⟨a1,a2,a3,a4,v,a5,a6⟩:=h6 _ _ _ rfl
     exact⟨(nJ (σ:=σ) (Bh:=vT H') hT hnb hs).1,a2,a3,a4,v,a5,D9 st hT hnb (.own _) (.own _) v hs a6⟩
    ·exact hb.elim
  ·have e:zJ θ σ (vT H') k=⟨none,0,0,sz⟩:=by
    unfold zJ vT
    rw [ht,h]
   rw [e]
   exact⟨rfl,rfl,[],Own.nil _ _ _ _,fU.nil sz⟩
end
def sO (l:List (Nat×AV))(n:Nat):Option AV:=
 match l with
 | []=>none
 | p::r=>bif Nat.beq n p.1 then some p.2 else sO r n
def zL (sl:List (Nat×AV))(ws:List (Nat×Nat))(ρ:aJ):aJ:=fun n=>
 match sO sl n with
 | some v=>v
 | none=>bif mP ws n then .top else ρ n
def Zu (H:ak)(θ:List (Nat×Src))(Z:List Nat)(nb:Nat)(sl:List (Nat×AV))(ρ:aJ):Prop:=
 match sl with
 | []=>True
 | p::r=>co H θ Z nb p.2 (ρ p.1)∧Zu H θ Z nb r ρ
theorem Qm {H:ak}{θ:List (Nat×Src)}{Z:List Nat}{nb:Nat}{ρ:aJ} : ∀ {sl:List (Nat×AV)} {s:Nat} {a:AV},Zu H θ Z nb sl ρ→sO sl s=some a→co H θ Z nb a (ρ s):=by
 intro sl
 induction sl with
 | nil=>intro s a _ h;cases h
 | cons p r ih=>
  intro s a hc h
  simp only [sO]at h
  cases hb:Nat.beq s p.1 with
  | true=>rw [hb,cond_true]at h;injection h with h;rw [Nat.eq_of_beq_eq_true hb, ←h];exact hc.1
  | false=>rw [hb,cond_false]at h;exact ih hc.2 h
theorem zM {G:Glob}{ws:List (Nat×Nat)}{nb n n':Nat}{ρ ρe:aJ}{H H':ak}{sl:List (Nat×AV)}(θ:List (Nat×Src))(Z:List Nat)(hw:Gm nb n' θ Z H'=true)(hH:Jp H θ Z nb H')(hs:Zu H θ Z nb sl ρ) :
  CJ G (mP ws) nb ρ n H (zL sl ws ρe) n' H':=by
 intro w₀ aK aN σ F w Zo st hr
 have hw':=hw
 simp only [Gm,Bool.and_eq_true]at hw'
 obtain⟨⟨hnb,hT⟩,_⟩:=hw'
 refine⟨_,_,zK st hw hH,fun s hss=> ?_,fun l hl=>Ql hT hl,fun b hb=> .inl hb⟩
 unfold zL
 cases hl:sO sl s with
 | some a=>exact D9 st hT (Nat.le_of_ble_eq_true hnb) a _ _ (Qm hs hl) (hr s hss)
 | none=>simp only [hss,cond_true];exact .top _
def LI {X:Type}(ws:List (Nat×Nat))(sl:X→List (Nat×AV))(hp:X→ak)(J:X→Prop)(μ:X→Nat)(ρ:aJ)(m:Nat)(ρ':aJ)(H':ak):Prop:= ∃x,μ x=m∧J x∧ρ'=zL (sl x) ws ρ∧H'=hp x
theorem CO {s:Nat} : ∀ {l:List (Nat×AV)} {a:AV},sO l s=some a→s∈l.map (·.1):=by
 intro l
 induction l with
 | nil=>intro a h;cases h
 | cons p r ih=>
  intro a h
  simp only [sO]at h
  cases hb:Nat.beq s p.1 with
  | true=>simp [Nat.eq_of_beq_eq_true hb]
  | false=>rw [hb,cond_false]at h;simp [ih h]
theorem bg {G:Glob}{X:Type}{body:Code}{B:(Ex→aJ→Nat→ak→Prop)→aJ→Nat→ak→Prop}{Q:Ex→aJ→Nat→ak→Prop}{ρ:aJ}{n:Nat}{H:ak}
  (ws:List (Nat×Nat)) (nl:Nat) (ks:List Nat) (sl:X→List (Nat×AV)) (hp:X→ak) (J:X→Prop) (μ:X→Nat) (θ:List (Nat×Src)) (Z:List Nat) (x₀:X)
  (hw:(writesIn (mP ws) body&&Nat.ble n nl&&ks.all (mP ws))=true) (hsl : ∀x,(sl x).map (·.1)=ks) (hwf:Gm n nl θ Z (hp x₀)=true) (hJ:J x₀) (hH:Jp H θ Z n (hp x₀)) (hs:Zu H θ Z n (sl x₀) ρ)
  (hr : ∀x,J x→B (Jm (fun fD n'' jI=>zF (∃m',m'<μ x∧∃fA H₁,LI ws sl hp J μ ρ m' fA H₁∧CJ G (mP ws) n fD n'' jI fA nl H₁)) Q) (zL (sl x) ws ρ) nl (hp x)) :
  KW G body B Q ρ n H:=by
 simp only [Bool.and_eq_true]at hw
 refine⟨mP ws,LI ws sl hp J μ ρ,nl,hw.1.1,Nat.le_of_ble_eq_true hw.1.2, ?_,⟨μ x₀,_,_,⟨x₀,rfl,hJ,rfl,rfl⟩,zM θ Z hwf hH hs⟩, ?_⟩
 ·rintro m ρ' H' ⟨x,rfl,hJx,rfl,rfl⟩ s h
  unfold zL
  cases hl:sO (sl x) s with
  | none=>simp only [h,cond_false]
  | some a=>
   have h1:=CO hl
   rw [hsl x]at h1
   have:=List.all_eq_true.1 hw.2 s h1
   rw [h]at this
   cases this
 ·rintro m ρ' H' ⟨x,rfl,hJx,rfl,rfl⟩
  exact hr x hJx
theorem aF {G:Glob}{X:Type}{ws:List (Nat×Nat)}{sl:X→List (Nat×AV)}{hp:X→ak}{J:X→Prop}{μ:X→Nat}{ρ fD:aJ}{nb nl n'' m:Nat}{jI:ak}
  (x':X) (θ:List (Nat×Src)) (Z:List Nat) (hwf:Gm nb nl θ Z (hp x')=true) (hlt:μ x'<m) (hJ:J x') (hH:Jp jI θ Z nb (hp x')) (hs:Zu jI θ Z nb (sl x') fD) :
  zF (∃m',m'<m∧∃fA H₁,LI ws sl hp J μ ρ m' fA H₁∧CJ G (mP ws) nb fD n'' jI fA nl H₁):=
 ⟨μ x',hlt,_,_,⟨x',rfl,hJ,rfl,rfl⟩,zM θ Z hwf hH hs⟩
theorem aV {G:Glob}{nb n:Nat}{R:AV→Nat→ak→Prop}{a:AV}{H:ak}(a':AV)(n':Nat)(H':ak)(θ:List (Nat×Src))(Z:List Nat)(hR:R a' n' H')(hwf:Gm nb n' θ Z H'=true)(hH:Jp H θ Z nb H')(hc:co H θ Z nb a' a) :
  BG G nb R a n H:=by
 have hw':=hwf
 simp only [Gm,Bool.and_eq_true]at hw'
 obtain⟨⟨hnb,hT⟩,_⟩:=hw'
 have hnb:=Nat.le_of_ble_eq_true hnb
 exact⟨a',n',H',hR,hnb,fun w₀ aK aN σ F w v st r=>⟨_,_,zK st hwf hH,D9 st hT hnb a' a v hc r,fun l hl=>Ql hT hl,fun b hb=> .inl hb⟩⟩
def Is (r:AV)(a:AV)(n:Nat)(H:ak):Prop:=a=r∧n=0∧H = []
theorem aX {G:Glob}{n:Nat}{r a:AV}{H:ak}(Z:List Nat)(hc:co H [] Z 0 r a):BG G 0 (Is r) a n H:=aV r 0 [] [] Z ⟨rfl,rfl,rfl⟩ rfl trivial hc
mutual
def flat:AV→Bool
 | .v _=>true
 | .top=>true
 | .agg cs=>Gn cs
 | .bH cs=>Gn cs
 | _=>false
def Gn:List AV→Bool
 | []=>true
 | a::r=>flat a&&Gn r
end
mutual
theorem sQ {n n':Nat}{σ σ':Nat→Loc}{F F':Nat→Prop}{w w':World}(a:AV)(v:Value)(h:flat a=true)(r:aZ n σ F w a v):aZ n' σ' F' w' a v:=by
 match a with
 | .v x=>rw [r.dH];exact .v _
 | .top=>exact .top v
 | .agg cs=>
  obtain⟨us,rfl,r2⟩:=bJ.y5 r
  exact(vU cs us h r2).agg
 | .bH cs=>
  cases r with
  | bH _ us hx rx=>exact(vU cs us h (.of hx rx)).bH
 | .lst _ _=>cases h
 | .fp _ _=>cases h
 | .ptr _ _=>cases h
 | .ep _ _ _=>cases h
 | .own _=>cases h
 | .sub _ _ _=>cases h
 | .mp _=>cases h
 | .fn _ _ _=>cases h
theorem vU {n n':Nat}{σ σ':Nat→Loc}{F F':Nat→Prop}{w w':World}(l:List AV)(vs:List Value)(h:Gn l=true)(r:bJ n σ F w l vs):bJ n' σ' F' w' l vs:=by
 match l with
 | []=>cases vs with
  | nil=>trivial
  | cons _ _=>exact r.elim
 | a::l=>
  cases vs with
  | nil=>exact r.elim
  | cons v vs=>
   simp only [Gn,Bool.and_eq_true]at h
   exact⟨sQ a v h.1 r.1,vU l vs h.2 r.2⟩
end
theorem bD.mono {P:Program}{G:Glob}{f:FuncId}{args:List AV}{n:Nat}{H:ak}{R R':AV→Nat→ak→Prop}(h:bD P G f args n H R)(k : ∀a n H,R a n H→R' a n H):bD P G f args n H R':=
 fun w σ F vs st r=>(h w σ F vs st r).mono fun v w' ⟨a,n',σ',F',H',hR,rest⟩=>⟨a,n',σ',F',H',k _ _ _ hR,rest⟩
def Bj (Z:List Nat)(H:ak):ak:=
 match H with
 | []=> []
 | (k, .rows t sz l)::r=>bif lI Z k then(k, .fz sz l)::Bj Z r else(k, .rows t sz l)::Bj Z r
 | p::r=>p::Bj Z r
def fN (n:Nat)(k:Nat→Prop):Prop:=
 match n with
 | 0=>k 0
 | m+1=>k (m+1)
def fB (b:dU)(k:dU→Prop):Prop:=
 match b with
 | .var t cs=>k (.var t cs)
 | .rows t sz l=>k (.rows t sz l)
 | .fz sz l=>k (.fz sz l)
 | .map M=>k (.map M)
 | .Nz M=>k (.Nz M)
 | .qV M=>k (.qV M)
 | .itr s p=>k (.itr s p)
 | .tree t sz l h=>k (.tree t sz l h)
def fH (H:ak)(k:ak→Prop):Prop:=
 match H with
 | []=>k []
 | (l,b)::r=>fN l fun l'=>fB b fun b'=>fH r fun r'=>k ((l',b')::r')
theorem Yy (n:Nat)(k:Nat→Prop):fN n k=k n:=by cases n<;>rfl
theorem ab7 (b:dU)(k:dU→Prop):fB b k=k b:=by cases b<;>rfl
theorem ab8 (H:ak) : ∀k:ak→Prop,fH H k=k H:=by
 induction H with
 | nil=>intro k;rfl
 | cons p r ih=>intro k;obtain⟨l,b⟩:=p;simp only [fH,Yy,ab7,ih]
def frc (n:Nat)(H:ak)(k:Nat→ak→Prop):Prop:=fN n fun n'=>fH H fun H'=>k n' H'
theorem Qn (n:Nat)(H:ak)(k:Nat→ak→Prop):frc n H k=k n H:=by simp only [frc,Yy,ab8]
section
variable {P:Program}{G:Glob}{w₀:World}{aK aN:Nat→Prop}{n:Nat}{σ:Nat→Loc}{F:Nat→Prop}{H:ak}{w:World}
theorem bf {f:FuncId}{args args':List AV}{r:AV}{K:AV→Nat→ak→Prop}(Z:List Nat)(hc:callable P f=true)(h:bD P G f args' 0 [] (Is r))(hf:flat r=true)(ha:KY H [] Z 0 args' args)(k:K r n H):qM P G f args n H K:=by
 refine⟨hc,fun w σ F vs st hr=> ?_⟩
 have s1:=zK (H':= []) (θ:= []) (Z:=Z) (nb:=0) (n':=0) st rfl trivial
 have r1:=kR (n':=0) (Bh:=vT []) st rfl (Nat.le_refl 0) args' args vs ha hr
 refine(h w _ _ vs s1.start r1).mono fun v w' ⟨a,n',σ',F',H',⟨ea,en,eH⟩,s,x,ra⟩=> ?_
 subst ea;subst en;subst eH
 have hM : ∀b, ¬kQ w (zJ [] σ (vT [])) [] b:=fun b ⟨k,c,e,_⟩=>by cases e
 have hE:Ext n σ F w n σ F w':=⟨Nat.le_refl _,fun _ _=>rfl,fun b hb=>⟨hb,s.gI.block b (st.dL b hb).1 (hM b)⟩,x.sz⟩
 have bk : ∀ {aT b g},look H aT=some b→b.own=true→iL w' (σ aT) b g→iL w (σ aT) b g:=fun h hm hg=>hg.back fun k hk=>s.gI.block k (st.mu _ _ k h hm (.inl hk)).2.2.1 (hM k)
 refine⟨a,n,σ,F,H,k, ?_,hE,sQ a v hf ra⟩
 exact⟨s.glob,⟨s.gI.os,s.gI.tape,s.gI.output,x.sz,fun b hb _=>s.gI.block b hb (hM b)⟩,fun b hb=>⟨Nat.lt_of_lt_of_le (st.dL b hb).1 x.sz, .inl hb⟩,st.lab,
  fun aT b g hk hm hg=>by
   have hg:=bk hk hm hg
   obtain⟨h1,h2,h3,h4⟩:=st.mu aT b g hk hm hg
   exact⟨h1,h2,Nat.lt_of_lt_of_le h3 x.sz, .inl ⟨aT,b,hk,hm,hg⟩⟩,fun e e' b b' g h h' m m' g1 g2=>st.inj e e' b b' g h h' m m' (bk h m g1) (bk h' m' g2),
  fun aT b hk=>(st.blk aT b hk).mono hE fun hm g hg=>s.gI.block g (st.mu aT b g hk hm hg).2.2.1 (hM g)⟩
end
theorem aeb (a b:ByteArray):oU a b=true↔a=b:=by
 unfold oU
 rw [←MapKept.bytes_beq a b]
 have:(a==b)=(a.toList==b.toList):=by
  rw [Go.ByteArray.toList_eq,Go.ByteArray.toList_eq]
  obtain⟨⟨x⟩⟩:=a
  obtain⟨⟨y⟩⟩:=b
  show ((⟨x⟩:Array UInt8)==⟨y⟩)=(x==y)
  simp
 rw [this]
theorem UW (a b:ByteArray):oU a b=decide (a=b):=by
 rw [Bool.eq_iff_iff,aeb];simp
theorem Qo {n:Nat}{σ:Nat→Loc}{F:Nat→Prop}{w:World} : ∀ {l vs:List Value},bJ n σ F w (l.map .v) vs→vs=l:=by
 intro l
 induction l with
 | nil=>intro vs r;cases vs with
  | nil=>rfl
  | cons _ _=>exact r.elim
 | cons x l ih=>intro vs r;cases vs with
  | nil=>exact r.elim
  | cons v vs=>rw [r.1.dH,ih r.2]
theorem ln:(∀ {α β:Type} (f:α→β) (l:List α),(l.map f).length=l.length)∧(∀ {α:Type} (a b:List α),(a++b).length=a.length+b.length)∧(∀ {α:Type} (x:α) (l:List α),(x::l).length=l.length+1)∧(∀ {α:Type},([]:List α).length=0)∧(∀ {α:Type} (n:Nat) (l:List α),(l.take n).length=min n l.length)∧(∀ {α:Type} (n:Nat) (l:List α),(l.drop n).length=l.length-n)∧(∀ {α:Type} (l:List α) (i:Nat) (x:α),(l.set i x).length=l.length)∧(∀ {α:Type} (n:Nat) (x:α),(List.replicate n x).length=n):=
 ⟨fun _ _=>List.length_map _,fun _ _=>List.length_append,fun _ _=>List.length_cons,List.length_nil,fun _ _=>List.length_take,fun _ _=>List.length_drop,fun _ _ _=>List.length_set,fun _ _=>List.length_replicate⟩
theorem bl:(∀a b:ByteArray,oU a b=decide (a=b))∧(∀ {α:Type} (a b:α),(bif true then a else b)=a)∧(∀ {α:Type} (a b:α),(bif false then a else b)=b)∧(∀b:Bool,((!b)=true)=(b=false))∧(∀b:Bool,((!b)=false)=(b=true))∧(∀(p:Prop) [Decidable p],(decide p=true)=p)∧(∀(p:Prop) [Decidable p],(decide p=false) = ¬p)∧(∀a b:Int,((a==b)=true)=(a=b))∧(∀a b:Int,((a != b)=true) = ¬(a=b))∧(∀a b:Int,((a==b)=false) = ¬(a=b))∧(∀a b:Int,((a != b)=false)=(a=b))∧(∀a b:Bool,((a==b)=true)=(a=b))∧(∀a b:Bool,((a != b)=true) = ¬(a=b))∧(∀a b:Bool,((a==b)=false) = ¬(a=b))∧(∀a b:Bool,((a != b)=false)=(a=b))∧((!true)=false)∧((!false)=true)∧((false=true)=False)∧((true=false)=False)∧(∀(p:Prop),(¬¬p)=p)∧(∀a b:Int,(a>b)=(b<a))∧(∀a b:Int,(a≥b)=(b≤a))∧(∀a b:Int,(¬a<b)=(b≤a))∧(∀a b:Int,(¬a≤b)=(b<a)):=
 ⟨UW,by simp⟩
section
variable {P:Program}{G:Glob}
theorem zN {f:FuncId}{l:List Value}{x:Value}(h : ∀w,G.holds w→wQ P f l.toArray w fun v w'=>v=x∧Below w.heap.size w w'):bD P G f (l.map .v) 0 [] (Is (.v x)):=by
 intro w σ F vs st r
 rw [Qo r]
 refine(h w st.glob).mono fun v w' ⟨e,hB⟩=> ?_
 subst e
 have hE:Ext 0 σ F w 0 σ F w':=⟨Nat.le_refl _,fun _ _=>rfl,fun b hb=>⟨hb,hB.block b (st.dL b hb).1⟩,hB.size⟩
 exact⟨_,0,σ,F,[],⟨rfl,rfl,rfl⟩,⟨Glob.gI st.glob hB.size fun b hb=>hB.block b (Nat.lt_of_lt_of_le hb st.glob.1),(qE.jF hB).mono fun _ _ h=>h.elim,fun b hb=>⟨Nat.lt_of_lt_of_le (st.dL b hb).1 hB.size, .inl hb⟩,
  (fun aT b h=>by cases h),(fun aT b g h=>by cases h),(fun aT qF b b' g h=>by cases h),(fun aT b h=>by cases h)⟩,hE, .v _⟩
theorem aG {l iQ:Nat}(h:l≤4194304)(h2:Nat.ble (4194304*iQ) 140737488355328=true):l*iQ≤140737488355328∧l≤maxLen:=
 ⟨Nat.le_trans (Nat.mul_le_mul_right _ h) (Nat.le_of_ble_eq_true h2),by unfold maxLen;omega⟩
theorem aI.in {k:IntKind}{x:Int}{K:Int→Prop}(h:k.wrap x=x)(c:K x):aI k x K:=⟨by rw [h];exact c⟩
theorem aI.i64 {x:Int}{K:Int→Prop}(h : -9223372036854775808≤x∧x≤9223372036854775807)(c:K x):aI .i64 x K:= .in (IntWalk.i64_in _ h) c
theorem bC.mk' {x:Int}{n:Nat}{K:Nat→Prop}(i:Nat)(e:x=i)(h:i<n)(c:K i):bC x n K:=⟨i,e,h,c⟩
theorem lT.mk' {x y:Int}{n:Nat}{K:Nat→Nat→Prop}(i j:Nat)(e1:x=i)(e2:y=j)(h1:i≤j)(h2:j≤n)(c:K i j):lT x y n K:=⟨i,j,e1,e2,h1,h2,c⟩
theorem aS.map {α:Type}{enc:α→List FV}{xs:List α}{i:Nat}{K:List FV→Prop}(h:i<xs.length)(c:K (enc xs[i])):aS (xs.map enc) i K:=⟨_,by rw [List.getElem?_map,List.getElem?_eq_getElem h];rfl,c⟩
theorem aS.at {l:List (List FV)}{i:Nat}{row:List FV}{K:List FV→Prop}(h:l[i]? = some row)(c:K row):aS l i K:=⟨row,h,c⟩
theorem aS.aA {α:Type}{enc:α→List FV}{xs:List α}{i:Nat}{a:α}{K:List FV→Prop}(h:xs[i]? = some a)(c:K (enc a)):aS (xs.map enc) i K:=⟨_,by rw [List.getElem?_map,h];rfl,c⟩
theorem aS.set {l:List (List FV)}{i:Nat}{row:List FV}{K:List FV→Prop}(h:i<l.length)(c:K row):aS (l.set i row) i K:=⟨row,List.getElem?_set_self h,c⟩
theorem KG.mk' {x y:Int}{iQ:Nat}{K:Nat→Prop}(n:Nat)(e1:x=n)(e2:y=n)(h:iQ*n≤140737488355328∧n≤maxLen)(c:K n):KG x y iQ K:=⟨n,n,e1,e2,Nat.le_refl _,h.1,h.2,c⟩
theorem KG.cap {x y:Int}{iQ:Nat}{K:Nat→Prop}(n m:Nat)(e1:x=n)(e2:y=m)(hnm:n≤m)(h:iQ*m≤140737488355328∧m≤maxLen)(c:K n):KG x y iQ K:=⟨n,m,e1,e2,hnm,h.1,h.2,c⟩
theorem aP {id:Nat}{ops:Array Oper}{K:aJ→Nat→ak→Prop}{ρ:aJ}{n:Nat}{H:ak}(pl:Nat→Plan)(D:List Nat)(hp:mF ops (pl id)=true)(h:aD P G ops.toList D (pl id) ρ n H K):qN P G id ops K ρ n H:=⟨.inl ⟨pl id,D,hp,h⟩⟩
theorem eu {id:Nat}{ops:Array Oper}{K:aJ→Nat→ak→Prop}{ρ:aJ}{n:Nat}{H:ak}(pl:Nat→Plan)(D:List Nat)(ws:List (Nat×Nat))(nl:Nat)(sl:List (Nat×AV))(H':ak)(hp:mF ops (pl id)=true)
  (hw:((ops.toList.all fun o=>match o.dst with | some d=>mP ws d | none=>true)&&Nat.ble n nl&&(sl.map (·.1)).all (mP ws))=true)
  (h:aD P G ops.toList D (pl id) ρ n H fun fA n₁ H₁=>F9 (CJ G (mP ws) n fA n₁ H₁ (zL sl ws ρ) nl H')) (k:K (zL sl ws ρ) nl H'):qN P G id ops K ρ n H:=by
 simp only [Bool.and_eq_true]at hw
 refine⟨.inr (.inl ⟨pl id,D,mP ws,zL sl ws ρ,nl,H',hp,hw.1.1,Nat.le_of_ble_eq_true hw.1.2,fun s hs=> ?_,h,k⟩)⟩
 unfold zL
 cases hl:sO sl s with
 | none=>simp only [hs,cond_false]
 | some a=>
  have:=List.all_eq_true.1 hw.2 s (CO hl)
  rw [hs]at this
  cases this
theorem jf {ws:List (Nat×Nat)}{sl:List (Nat×AV)}{ρ fA:aJ}{nb n₁ nl:Nat}{H₁ H':ak}(θ:List (Nat×Src))(Z:List Nat)(hwf:Gm nb nl θ Z H'=true)(hH:Jp H₁ θ Z nb H')(hs:Zu H₁ θ Z nb sl fA):F9 (CJ G (mP ws) nb fA n₁ H₁ (zL sl ws ρ) nl H'):=⟨zM θ Z hwf hH hs⟩
theorem rE {X:Type}{body:Code}{B:(Ex→aJ→Nat→ak→Prop)→aJ→Nat→ak→Prop}{Q:Ex→aJ→Nat→ak→Prop}{ρ:aJ}{n:Nat}{H:ak}
  (ws:List (Nat×Nat)) (ks:List Nat) (sl:X→List (Nat×AV)) (J:X→Prop) (μ:X→Nat) (x₀:X)
  (hw:(writesIn (mP ws) body&&Nat.ble n n&&ks.all (mP ws))=true) (hsl : ∀x,(sl x).map (·.1)=ks) (hwf:Gm n n [] [] H=true) (hJ:J x₀) (hH:Jp H [] [] n H) (hs:Zu H [] [] n (sl x₀) ρ)
  (hr : ∀x,J x→B (Jm (fun fD n'' jI=>zF (∃m',m'<μ x∧∃fA H₁,LI ws sl (fun _=>H) J μ ρ m' fA H₁∧CJ G (mP ws) n fD n'' jI fA n H₁)) Q) (zL (sl x) ws ρ) n H) :
  KW G body B Q ρ n H:=bg ws n ks sl (fun _=>H) J μ [] [] x₀ hw hsl hwf hJ hH hs hr
end
mutual
def UY (n:Nat):AV→AV
 | .ptr e o=> .ptr (n+e) o
 | .ep e i o=> .ep (n+e) i o
 | .own e=> .own (n+e)
 | .sub e o k=> .sub (n+e) o k
 | .mp e=> .mp (n+e)
 | .fn f xs ys=> .fn f (UZ n xs) (UZ n ys)
 | .agg cs=> .agg (UZ n cs)
 | .bH cs=> .bH (UZ n cs)
 | .top=> .top
 | .v x=> .v x
 | .lst sz l=> .lst sz l
 | .fp cs o=> .fp cs o
 | .fm M=> .fm M
def UZ (n:Nat):List AV→List AV
 | []=> []
 | a::r=>UY n a::UZ n r
end
def shB (n:Nat):dU→dU
 | .var t cs=> .var t (UZ n cs)
 | .tree t sz l (some (i,j,e))=> .tree t sz l (some (i,j,n+e))
 | b=>b
def Zv (n:Nat):ak→ak
 | []=> []
 | p::r=>(n+p.1,shB n p.2)::Zv n r
theorem Ea (n:Nat) : ∀l:List AV,UZ n l=l.map (UY n):=by
 intro l
 induction l with
 | nil=>rfl
 | cons a r ih=>simp [UZ,ih]
theorem U0 (n:Nat)(b:dU):(shB n b).own=b.own:=by
 cases b with
 | tree t sz l h=>cases h<;>rfl
 | _=>rfl
theorem U1 {n:Nat}{b:dU}{w:World}{L:Loc}{g:Nat}(h:iL w L (shB n b) g):iL w L b g:=by
 cases b with
 | tree t sz l o=>cases o<;>exact h
 | _=>exact h
section
variable {n m:Nat}{σ σ':Nat→Loc}{F:Nat→Prop}{w:World}
theorem Js (hs : ∀k,k<m→σ' (n+k)=σ k){a:AV}{v:Value}(r:aZ m σ F w a v):aZ (n+m) σ' F w (UY n a) v:=by
 induction r with
 | top x=>exact .top x
 | v x=>exact .v x
 | lst h=>exact .lst h
 | fp h=>exact .fp h
 | fm h=>exact .fm h
 | ptr l o b hl hb=>exact .ptr _ o b (by omega) (by rw [hs l hl];exact hb)
 | ep l i o b hl hb=>rw [←hs l hl];exact .ep _ i o b (by omega) (by rw [hs l hl];exact hb)
 | own l hl=>rw [←hs l hl];exact .own _ (by omega)
 | je l oa hl hn hc=>exact .je _ oa (by omega) (by rw [hs l hl];exact hn) (by rw [hs l hl];exact hc)
 | sub l o k oa c hl hk hc hnil ho=>exact .sub _ o k oa c (by omega) (by rw [hs l hl];exact hk) hc hnil (by rw [hs l hl];exact ho)
 | mp l b hl hb=>exact .mp _ b (by omega) (by rw [hs l hl];exact hb)
 | fn f xs ys us vs hx hy _ _ ih1 ih2=>
  simp only [UY,Ea]
  refine .fn f _ _ us vs (by simp [hx]) (by simp [hy]) (fun j a v h1 h2=> ?_) (fun j a v h1 h2=> ?_)
  ·rw [List.getElem?_map]at h1
   cases hx:xs[j]? with
   | none=>rw [hx]at h1;cases h1
   | some x=>rw [hx]at h1;injection h1 with h1;rw [←h1];exact ih1 j x v hx h2
  ·rw [List.getElem?_map]at h1
   cases hy:ys[j]? with
   | none=>rw [hy]at h1;cases h1
   | some y=>rw [hy]at h1;injection h1 with h1;rw [←h1];exact ih2 j y v hy h2
 | agg xs us hx _ ih=>
  simp only [UY,Ea]
  refine .agg _ us (by simp [hx]) (fun j a v h1 h2=> ?_)
  rw [List.getElem?_map]at h1
  cases hx:xs[j]? with
  | none=>rw [hx]at h1;cases h1
  | some x=>rw [hx]at h1;injection h1 with h1;rw [←h1];exact ih j x v hx h2
 | bH xs us hx _ ih=>
  simp only [UY,Ea]
  refine .bH _ us (by simp [hx]) (fun j a v h1 h2=> ?_)
  rw [List.getElem?_map]at h1
  cases hx:xs[j]? with
  | none=>rw [hx]at h1;cases h1
  | some x=>rw [hx]at h1;injection h1 with h1;rw [←h1];exact ih j x v hx h2
theorem U2 (hs : ∀k,k<m→σ' (n+k)=σ k){l:List AV}{vs:List Value}(r:bJ m σ F w l vs):bJ (n+m) σ' F w (UZ n l) vs:=by
 rw [Ea]
 refine .of (by simp [r.len]) fun j a v h1 h2=> ?_
 rw [List.getElem?_map]at h1
 cases hx:l[j]? with
 | none=>rw [hx]at h1;cases h1
 | some x=>rw [hx]at h1;injection h1 with h1;rw [←h1];exact Js hs (r.at j x v hx h2)
theorem U3 (hs : ∀k,k<m→σ' (n+k)=σ k){L:Loc}{b:dU}(r:kP m σ F w L b):kP (n+m) σ' F w L (shB n b):=by
 cases b with
 | var t cs=>obtain⟨g,vs,h1,h2,h3,h4⟩:=r;exact⟨g,vs,h1,h2,U2 hs h3,h4⟩
 | tree t sz l h=>
  cases h with
  | none=>obtain⟨h1,h2,xs,h3,h4,h5,_⟩:=r;exact⟨h1,h2,xs,h3,h4,h5,fun _ _ _ h=>by cases h⟩
  | some p=>
   obtain⟨i,j,e⟩:=p
   obtain⟨h1,h2,xs,h3,h4,h5,h6⟩:=r
   refine⟨h1,h2,xs,h3,h4,h5,fun i' j' e' h=> ?_⟩
   injection h with h
   injection h with e1 h
   injection h with e2 e3
   subst e1;subst e2;subst e3
   obtain⟨a1,a2,a3,a4,v,a5,a6⟩:=h6 _ _ _ rfl
   exact⟨by omega,a2,a3,a4,v,a5,Js hs a6⟩
 | _=>exact r
theorem zO : ∀ {H:ak} {k:Nat} {b:dU},look (Zv n H) k=some b→∃j c,k=n+j∧look H j=some c∧b=shB n c:=by
 intro H
 induction H with
 | nil=>intro k b h;cases h
 | cons p r ih=>
  intro k b h
  obtain⟨x,c⟩:=p
  simp only [Zv]at h
  rw [aW]at h
  split at h
  ·rename_i e
   injection h with h
   exact⟨x,c,e.symm,by rw [aW,if_pos rfl],h.symm⟩
  ·rename_i e
   obtain⟨j,d,h1,h2,h3⟩:=ih h
   exact⟨j,d,h1,by rw [aW,if_neg (by omega)];exact h2,h3⟩
theorem nK {Z:List Nat} : ∀ {H:ak} {k:Nat} {b:dU},look (Bj Z H) k=some b→(look H k=some b∧(lI Z k=true→∀t sz l,b≠ .rows t sz l))∨(lI Z k=true∧∃t sz l,look H k=some (.rows t sz l)∧b = .fz sz l):=by
 intro H
 induction H with
 | nil=>intro k b h;cases h
 | cons p r ih=>
  intro k b h
  obtain⟨x,c⟩:=p
  rw [aW]
  have other:(∀t sz l,c≠ .rows t sz l)→Bj Z ((x,c)::r)=(x,c)::Bj Z r:=fun hne=>by
   cases c<;>first | rfl | exact absurd rfl (hne _ _ _)
  by_cases hc : ∃t sz l,c = .rows t sz l
  ·obtain⟨t,sz,l,rfl⟩:=hc
   simp only [Bj]at h
   cases hz:lI Z x with
   | true=>
    rw [hz,cond_true,aW]at h
    split at h
    ·rename_i e
     subst e
     injection h with h
     rw [if_pos rfl]
     exact .inr ⟨hz,t,sz,l,rfl,h.symm⟩
    ·rename_i e;rw [if_neg e];exact ih h
   | false=>
    rw [hz,cond_false,aW]at h
    split at h
    ·rename_i e
     subst e
     injection h with h
     rw [if_pos rfl]
     exact .inl ⟨by rw [h],fun hm=>by rw [hz]at hm;cases hm⟩
    ·rename_i e;rw [if_neg e];exact ih h
  ·have hne : ∀t sz l,c≠ .rows t sz l:=fun t sz l e=>hc ⟨t,sz,l,e⟩
   rw [other hne,aW]at h
   split at h
   ·rename_i e
    subst e
    injection h with h
    rw [if_pos rfl]
    exact .inl ⟨by rw [h],fun _ t sz l e=>hne t sz l (h.trans e)⟩
   ·rename_i e;rw [if_neg e];exact ih h
end
section
variable {P:Program}{G:Glob}{n:Nat}{H:ak}
theorem U4 {f:FuncId}{args args':List AV}{R:AV→Nat→ak→Prop}{K:AV→Nat→ak→Prop}(Z:List Nat)(hc:callable P f=true)(h:bD P G f args' 0 [] R)(ha:KY H [] Z 0 args' args)
  (k : ∀a m H',R a m H'→K (UY n a) (n+m) (Zv n H'++Bj Z H)):qM P G f args n H K:=by
 refine⟨hc,fun w σ F vs st hr=> ?_⟩
 have s1:=zK (H':= []) (θ:= []) (Z:=Z) (nb:=0) (n':=0) st rfl trivial
 have r1:=kR (n':=0) (Bh:=vT []) st rfl (Nat.le_refl 0) args' args vs ha hr
 refine(h w _ _ vs s1.start r1).mono fun v w' ⟨a,m,σ',F',H',hR,s,x,ra⟩=> ?_
 have hM : ∀b, ¬kQ w (zJ [] σ (vT [])) [] b:=fun b ⟨k,c,e,_⟩=>by cases e
 let σn:Nat→Loc:=fun l=>if l<n then σ l else σ' (l-n)
 have hs : ∀k,k<m→σn (n+k)=σ' k:=fun k _=>by show (if n+k<n then _ else _)=_;rw [if_neg (by omega)];congr 1;omega
 have ho : ∀k,k<n→σn k=σ k:=fun k hk=>if_pos hk
 have hF : ∀b,F b→F' b∧w'.heap[b]? = w.heap[b]? :=fun b hb=>⟨(x.f b (.inl hb)).1,s.gI.block b (st.dL b hb).1 (hM b)⟩
 have hE:Ext n σ F w (n+m) σn F' w':=⟨by omega,ho,hF,x.sz⟩
 have old : ∀k b g,look (Bj Z H) k=some b→b.own=true→iL w (σ k) b g→look H k=some b∧¬F' g∧G.nb≤g∧g<w.heap.size∧kQ w σ H g:=by
  intro k b g hk hm hg
  rcases nK hk with ⟨h1,h2⟩ | ⟨_,t,sz,l,_,rfl⟩
  ·obtain⟨m1,m2,m3,m4⟩:=st.mu k b g h1 hm hg
   refine⟨h1,fun hf=> ?_,m2,m3,⟨k,b,h1,hm,hg⟩⟩
   rcases(s.dL g hf).2 with e | e | e
   ·rcases e with e | ⟨k',t,sz,l,hz,hk',hg'⟩
    ·exact m1 e
    ·have:=st.inj k k' b _ g h1 hk' hm rfl hg (.inl hg')
     subst this
     rw [h1]at hk'
     injection hk' with hk'
     exact h2 hz t sz l hk'
   ·omega
   ·exact hM g e
  ·cases hm
 have new : ∀k b g,look (Zv n H') k=some b→b.own=true→iL w' (σn k) b g→∃j c,k=n+j∧look H' j=some c∧c.own=true∧iL w' (σ' j) c g∧¬F' g∧G.nb≤g∧g<w'.heap.size∧w.heap.size≤g:=by
  intro k b g hk hm hg
  obtain⟨j,c,rfl,hj,rfl⟩:=zO hk
  rw [U0]at hm
  rw [hs j (s.lab j c hj)]at hg
  have hg:=U1 hg
  obtain⟨m1,m2,m3,m4⟩:=s.mu j c g hj hm hg
  exact⟨j,c,rfl,hj,hm,hg,m1,m2,m3,m4.resolve_left (hM g)⟩
 have bk : ∀ {k b g},look (Bj Z H) k=some b→b.own=true→iL w' (σ k) b g→iL w (σ k) b g:=fun hk hm hg=>hg.back fun y hy=>s.gI.block y (old _ _ y hk hm (.inl hy)).2.2.2.1 (hM y)
 have sS : ∀k b,look (Bj Z H) k=some b→k<n:=fun k b hk=>by
  rcases nK hk with ⟨h1,_⟩ | ⟨_,t,sz,l,h1,_⟩
  ·exact st.lab k _ h1
  ·exact st.lab k _ h1
 have hst:St G w (kQ w σ H) F (n+m) σn F' (Zv n H'++Bj Z H) w':=by
  refine⟨s.glob,⟨s.gI.os,s.gI.tape,s.gI.output,x.sz,fun b hb _=>s.gI.block b hb (hM b)⟩,fun b hb=>⟨(s.dL b hb).1, ?_⟩,fun k b hk=> ?_,fun k b g hk hm hg=> ?_,fun k k' b b' g hk hk' hm hm' hg hg'=> ?_,fun k b hk=> ?_⟩
  ·rcases(s.dL b hb).2 with e | e | e
   ·rcases e with e | ⟨k',t,sz,l,hz,hk',hg'⟩
    ·exact .inl e
    ·exact .inr (.inr ⟨k',_,hk',rfl, .inl hg'⟩)
   ·exact .inr (.inl e)
   ·exact(hM b e).elim
  ·rcases bM hk with hk | ⟨_,hk⟩
   ·obtain⟨j,c,rfl,hj,_⟩:=zO hk
    have:=s.lab j c hj
    omega
   ·have:=sS k b hk;omega
  ·rcases bM hk with hk | ⟨_,hk⟩
   ·obtain⟨j,c,_,_,_,_,m1,m2,m3,m4⟩:=new k b g hk hm hg
    exact⟨m1,m2,m3, .inr m4⟩
   ·rw [ho k (sS k b hk)]at hg
    obtain⟨_,m1,m2,m3,m4⟩:=old k b g hk hm (bk hk hm hg)
    exact⟨m1,m2,Nat.lt_of_lt_of_le m3 x.sz, .inl m4⟩
  ·rcases bM hk with hk | ⟨_,hk⟩
   ·obtain⟨j,c,e1,h1,h2,h3,_,_,_,h4⟩:=new k b g hk hm hg
    rcases bM hk' with hk' | ⟨_,hk'⟩
    ·obtain⟨j',c',e1',h1',h2',h3',_⟩:=new k' b' g hk' hm' hg'
     have:=s.inj j j' c c' g h1 h1' h2 h2' h3 h3'
     omega
    ·rw [ho k' (sS k' b' hk')]at hg'
     have:=(old k' b' g hk' hm' (bk hk' hm' hg')).2.2.2.1
     omega
   ·rw [ho k (sS k b hk)]at hg
    have h5:=old k b g hk hm (bk hk hm hg)
    rcases bM hk' with hk' | ⟨_,hk'⟩
    ·obtain⟨j',c',e1',h1',h2',h3',_,_,_,h4'⟩:=new k' b' g hk' hm' hg'
     have:=h5.2.2.2.1
     omega
    ·rw [ho k' (sS k' b' hk')]at hg'
     have h6:=old k' b' g hk' hm' (bk hk' hm' hg')
     exact st.inj k k' b b' g h5.1 h6.1 hm hm' (bk hk hm hg) (bk hk' hm' hg')
  ·rcases bM hk with hk | ⟨_,hk⟩
   ·obtain⟨j,c,rfl,hj,rfl⟩:=zO hk
    rw [hs j (s.lab j c hj)]
    exact U3 hs (s.blk j c hj)
   ·rw [ho k (sS k b hk)]
    rcases nK hk with ⟨h1,_⟩ | ⟨hz,t,sz,l,h1,rfl⟩
    ·exact(st.blk k b h1).mono hE fun hm g hg=>s.gI.block g (st.mu k b g h1 hm hg).2.2.1 (hM g)
    ·have hb:=(st.blk k _ h1).mono hE fun hm g hg=>s.gI.block g (st.mu k _ g h1 rfl hg).2.2.1 (hM g)
     exact jM hb (fun _ h=>h) fun g hg=>(x.f g (.inr ⟨k,t,sz,l,hz,h1,hg⟩)).1
 exact⟨UY n a,n+m,σn,F',_,k a m H' hR,hst,hE,Js hs ra⟩
theorem aj {f:FuncId}{args args':List AV}{R:AV→Nat→ak→Prop}{K:AV→Nat→ak→Prop}(Z:List Nat)(hc:callable P f=true)(h:bD P G f args' 0 [] R)(ha:KY H [] Z 0 args' args)
  (k : ∀a m H',R a m H'→frc (n+m) (Zv n H'++Bj Z H) fun n' jI=>K (UY n a) n' jI):qM P G f args n H K:=U4 Z hc h ha fun a m H' hR=>by have:=k a m H' hR;rwa [Qn]at this
theorem NT {α:Type}{F:Nat→Prop}{w:World}{sz:Nat}{enc:α→List FV}{c:α→List Value}(he : ∀x,enc x=(c x).map .v) : ∀ {l:List α} {xs:List Value},fU F w sz (l.map enc) xs→xs=recs c l:=by
 intro l
 induction l with
 | nil=>intro xs r;have:=r.2.1;simp at this;rw [this];rfl
 | cons x l ih=>
  intro xs r
  have hx:(enc x).length=sz:=r.1 _ (by simp)
  have hcx:(c x).length=sz:=by rw [←hx,he];simp
  have hlen:=r.2.1
  simp only [List.map_cons,List.length_cons,List.length_map]at hlen
  rw [Nat.add_mul,Nat.one_mul]at hlen
  have e1:xs.take sz=c x:=by
   apply List.ext_getElem?
   intro j
   rw [List.getElem?_take]
   by_cases hj:j<sz
   ·rw [if_pos hj]
    have h1:(enc x)[j]? = some (.v (c x)[j]):=by rw [he,List.getElem?_map,List.getElem?_eq_getElem (by omega)];rfl
    have h2:xs[j]? = some xs[j]:=List.getElem?_eq_getElem (by omega)
    have:=r.2.2.2 0 j (enc x) _ xs[j] (by simp) h1 (by rw [Nat.zero_mul,Nat.zero_add];exact h2)
    have key : ∀ {a b:Value},dV F w (.v a) b→b=a:=fun h=>by cases h;rfl
    rw [h2,List.getElem?_eq_getElem (by omega),key this]
   ·rw [if_neg hj,List.getElem?_eq_none (by omega)]
  have e2:xs.drop sz=recs c l:=by
   refine ih ⟨fun row hr=>r.1 row (by simp at hr ⊢;right;exact hr),by rw [List.length_drop,List.length_map];omega,fun v hv=>r.2.2.1 v (List.mem_of_mem_drop hv),fun i j row a v hi hj hv=> ?_⟩
   rw [List.getElem?_drop]at hv
   refine r.2.2.2 (i+1) j row a v (by simpa using hi) hj ?_
   rw [Nat.add_mul,Nat.one_mul,show i*sz+sz+j=sz+(i*sz+j) by omega]
   exact hv
  have e3:recs c (x::l)=c x++recs c l:=rfl
  rw [e3, ←e1, ←e2,List.take_append_drop]
theorem eX {f:FuncId}{args:List AV}{K:AV→Nat→ak→Prop}(hc:callable P f=true)(h:bD P G f args n H K):qM P G f args n H K:=⟨hc,h⟩
def Gp (n:Nat):ak→ak
 | []=> []
 | p::r=>bif Nat.blt p.1 n then p::Gp n r else Gp n r
def lM (T sz:Nat)(l:List (List FV))(a:AV)(n:Nat)(H:ak):Prop:=a = .own 0∧n=1∧H = [(0, .rows T sz l)]
theorem bD.Bj {f:FuncId}{args:List AV}{T sz:Nat}{l:List (List FV)}(h:bD P G f args 0 [] (lM T sz l)):bD P G f args 0 [] (Is (.lst sz l)):=by
 intro w σ F vs st r
 refine(h w σ F vs st r).mono fun v w' ⟨a,m,σ',F',H',⟨e1,e2,e3⟩,s,x,ra⟩=> ?_
 subst e1;subst e2;subst e3
 obtain⟨a',n',jI,hR,_,hE⟩:=(aV (G:=G) (nb:=0) (n:=1) (a:= .own 0) (H:= [(0, .rows T sz l)]) (R:=Is (.lst sz l)) (.lst sz l) 0 [] [] [0] ⟨rfl,rfl,rfl⟩ rfl trivial ⟨rfl,rfl,rfl⟩).ex
 obtain⟨qC,Il,s2,r2,_,h4⟩:=hE w (kQ w σ []) F σ' F' w' v s ra
 exact⟨a',n',qC,Il,jI,hR,s2,⟨Nat.zero_le _,fun _ h=>absurd h (Nat.not_lt_zero _),fun b hb=>⟨h4 b (x.f b hb).1,(x.f b hb).2⟩,x.sz⟩,r2⟩
end
theorem fQ {α β:Type}{f:α→β}{l:List α}{i:Nat}(h:i<l.length):i<(l.map f).length:=by rw [List.length_map];exact h
theorem Eb {x y:Int}(h:x=y):Value.int .i64 x=Value.int .i64 y:=by rw [h]
end Go.Proofs.YtocckceefcmeaaaGreatDoor.Ax
