/- Joined parts of the proof. What one state of a walk has from another: labels renamed, memory of the call's own frozen, registers forgotten -/
import Derived.Test.YtnandbihiceihaaGreatDoorPk8
set_option linter.unusedVariables false
set_option linter.unusedSimpArgs false
set_option maxRecDepth 100000
set_option maxHeartbeats 16000000
namespace Go.Proofs.YtnandbihiceihaaGreatDoor.Ax
open RowKit Vc
inductive Src where
 | lab (mD:Nat)
 | nil
def tr (θ:List (Nat×Src))(k:Nat):Option Src:=
 match θ with
 | []=>none
 | p::r=>bif Nat.beq p.1 k then some p.2 else tr r k
def EG (θ:List (Nat×Src))(nb k mD:Nat):Prop:=
 match tr θ k with
 | some (.lab e)=>e=mD
 | some .nil=>False
 | none=>Nat.blt k nb=true∧k=mD
mutual
def co (H:lI)(θ:List (Nat×Src))(Z:List Nat)(nb:Nat)(a' a:AV):Prop:=
 match a' with
 | .top=>True
 | .v x'=>(match a with | .v x=>x=x'|_=>False)
 | .lst sz l'=>(match a with
  | .lst sz' l=>sz'=sz∧l=l'
  | .v (.slice none 0 0)=>l' = []
  | .own e=>(match look H e with
   | some (.rows _ sz' l)=>vV Z e=true∧sz'=sz∧l=l'
   | some (.fz sz' l)=>sz'=sz∧l=l'
   | _=>False)
  | .sub e o k=>(match look H e with
   | some (.rows _ sz' l)=>vV Z e=true∧sz'=sz∧(l.drop o).take k=l'
   | some (.fz sz' l)=>sz'=sz∧(l.drop o).take k=l'
   | _=>False)
  | _=>False)
 | .fp cs o=>(match a with | .fp cs' o'=>cs'=cs∧o'=o|_=>False)
 | .fm M=>(match a with
  | .fm M'=>M'=M
  | .mp e=>(match look H e with|some (.Vx M')=>M'=M|_=>False)
  | _=>False)
 | .ptr k o=>(match a with | .ptr e o'=>EG θ nb k e∧o'=o|_=>False)
 | .ep k i o=>(match a with | .ep e i' o'=>EG θ nb k e∧i'=i∧o'=o|_=>False)
 | .own k=>(match a with
  | .own e=>EG θ nb k e
  | .v (.slice none 0 0)=>(match tr θ k with|some .nil=>True|_=>False)
  | _=>False)
 | .sub k o n=>(match a with | .sub e o' n'=>EG θ nb k e∧o'=o∧n'=n|_=>False)
 | .full _ _=>False
 | .mp k=>(match a with | .mp e=>EG θ nb k e|_=>False)
 | .fn f xs ys=>(match a with | .fn f' xs' ys'=>f'=f∧Ot H θ Z nb xs xs'∧Ot H θ Z nb ys ys'|_=>False)
 | .agg cs=>(match a with | .agg cs'=>Ot H θ Z nb cs cs'|_=>False)
 | .og cs=>(match a with | .og cs'=>Ot H θ Z nb cs cs'|_=>False)
def Ot (H:lI)(θ:List (Nat×Src))(Z:List Nat)(nb:Nat)(l' l:List AV):Prop:=
 match l' with
 | []=>(match l with | []=>True|_=>False)
 | a'::r'=>(match l with|a::r=>co H θ Z nb a' a∧Ot H θ Z nb r' r|_=>False)
end
def coB (H:lI)(θ:List (Nat×Src))(Z:List Nat)(nb:Nat)(b' b:oI):Prop:=
 match b' with
 | .var t cs=>(match b with | .var t' cs'=>t'=t∧Ot H θ Z nb cs cs'|_=>False)
 | .rows t sz l=>(match b with | .rows t' sz' l'=>t'=t∧sz'=sz∧l'=l|_=>False)
 | .fz sz l=>(match b with | .fz sz' l'=>sz'=sz∧l'=l|_=>False)
 | .map M=>(match b with | .map M'=>M'=M|_=>False)
 | .Vx M=>(match b with | .Vx M'=>M'=M|_=>False)
 | .oU M=>(match b with | .oU M'=>M'=M|_=>False)
 | .smap M=>(match b with | .smap M'=>M'=M|_=>False)
 | .itr s p=>(match b with | .itr s' p'=>s'=s∧p'=p|_=>False)
 | .tree t sz l none=>(match b with | .tree t' sz' l' none=>t'=t∧sz'=sz∧l'=l|_=>False)
 | .tree t sz l (some (i,j,k))=>(match b with | .tree t' sz' l' (some (i',j',e))=>t'=t∧sz'=sz∧l'=l∧i'=i∧j'=j∧EG θ nb k e|_=>False)
def Qu (H:lI)(θ:List (Nat×Src))(Z:List Nat)(nb:Nat)(H':lI):Prop:=
 match H' with
 | []=>True
 | (k,b')::r=>(match tr θ k with
  | some (.lab e)=>(match look H e with|some b=>coB H θ Z nb b' b|none=>False)
  | some .nil=>(match b' with | .rows _ _ l=>l = []|_=>False)
  | none=>(match look H k with|some b=>coB H θ Z nb b' b|none=>False))∧Qu H θ Z nb r
def xI (θ:List (Nat×Src))(k:Nat):Option Nat:=
 match tr θ k with
 | some (.lab e)=>some e
 | some .nil=>none
 | none=>some k
def clash (θ:List (Nat×Src))(k:Nat)(o:Option Nat)(H:lI):Bool:=
 match H with
 | []=>false
 | p::r=>(match o,xI θ p.1 with|some a,some b=>Nat.beq a b&& !(Nat.beq k p.1)|_,_=>false)||clash θ k o r
def wfH (nb n':Nat)(θ:List (Nat×Src))(Z:List Nat)(All H':lI):Bool:=
 match H' with
 | []=>true
 | p::r=>Nat.blt p.1 n'&&(match tr θ p.1 with|none=>Nat.blt p.1 nb|_=>true)&&(match xI θ p.1 with|some e=> !(vV Z e)|none=>true)&& !(clash θ p.1 (xI θ p.1) All)&&wfH nb n' θ Z All r
def wfT (nb n':Nat)(θ:List (Nat×Src)):Bool:=
 match θ with
 | []=>true
 | p::r=>Nat.ble nb p.1&&Nat.blt p.1 n'&&wfT nb n' r
def Nr (nb n':Nat)(θ:List (Nat×Src))(Z:List Nat)(H':lI):Bool:=Nat.ble nb n'&&wfT nb n' θ&&wfH nb n' θ Z H' H'
def Hf (θ:List (Nat×Src))(σ:Nat->Loc)(I4:Nat->Nat)(k:Nat):Loc:=
 match tr θ k with
 | some (.lab e)=>σ e
 | some .nil=>⟨none,0,0,I4 k⟩
 | none=>σ k
def FR (σ:Nat->Loc)(H:lI)(Z:List Nat)(F:Nat->Prop)(b:Nat):Prop:=F b∨∃e t sz l,vV Z e=true∧look H e=some (.rows t sz l)∧(σ e).b=some b
def D8 (H:lI)(k:Nat):Nat:=match look H k with|some (.rows _ sz _)=>sz|_=>0
section
variable {G:Glob}{lT:World}{lY lZ:Nat->Prop}{n n' nb:Nat}{σ:Nat->Loc}{F:Nat->Prop}{H H':lI}{w:World}{θ:List (Nat×Src)}{Z:List Nat}{I4:Nat->Nat}
theorem Rw {nb n':Nat} : ∀ {θ:List (Nat×Src)} {k:Nat} {s:Src},wfT nb n' θ=true->tr θ k=some s->nb<=k∧k<n':=by
 intro θ
 induction θ with
 | nil=>intro k s _ h;cases h
 | cons p r ih=>
  intro k s hw h
  simp only [wfT,ak]at hw
  simp only [tr]at h
  cases hb:Nat.beq p.1 k with
  | true=>
   rw [aA hb]at hw
   exact⟨aF hw.1.1,aF hw.1.2⟩
  | false=>rw [hb,cond_false]at h;exact ih hw.2 h
theorem XL (hw:wfT nb n' θ=true){l:Nat}(hl:l<nb):Hf θ σ I4 l=σ l:=by
 unfold Hf
 cases h:tr θ l with
 | none=>rfl
 | some s=>have:=(Rw hw h).1;omega
theorem xJ (hw:wfT nb n' θ=true)(hnb:nb<=n'){k e:Nat}(h:EG θ nb k e):k<n'∧Hf θ σ I4 k=σ e:=by
 unfold EG at h
 unfold Hf
 split at h
 ·rename_i e' ht
  subst h
  exact⟨(Rw hw ht).2,rfl⟩
 ·cases h
 ·rename_i ht
  have:k<nb:=aF h.1
  rw [h.2]at this ⊢
  exact⟨by omega,rfl⟩
theorem ae8 {F:Nat->Prop}{w:World}{sz b m c k cc o:Nat}{l:List (List FV)}(h:oV F w (.lst sz l) (.slice (some ⟨b,0,none⟩) m c))(hk:o+k<=m)(h0:0<k)(hkc:k<=cc) :
  oV F w (.lst sz ((l.drop o).take k)) (.slice (some ⟨b,o*sz,none⟩) k cc):=by
 cases h with
 | lst _ _ _ _ _ b' o' hn hc hnil ho hsz hex hrep=>
  obtain⟨e,hF⟩:=ho aai
  injection e with e
  injection e with e1 e2
  subst e1;subst e2
  have ea : ∀i j,o*sz+(i*sz+j)=0+((o+i)*sz+j):=fun i j=>by rw [bK];omega
  refine .lst sz _ _ k cc b (o*sz) (by rw [aN,bU];omega) hkc (fun h=>by cases h) (fun _=>⟨rfl,hF⟩) (fun row hr=>hsz row (dM (bQ hr))) (fun i j hi hj=> ?_) (fun i j row a v h1 h2 h3=> ?_)
  ·rw [ea];exact hex (o+i) j aai hj
  ·rw [ea]at h3
   rw [bH]at h1
   split at h1
   ·rw [dO]at h1
    exact hrep (o+i) j row a v h1 h2 h3
   ·cases h1
theorem TL {n n':Nat}{σ σ':Nat->Loc}{F F':Nat->Prop}{w:World}{e o k sz:Nat}{l:List (List FV)}{v:Value}(h:uS n' σ' F' w (σ e) (.fz sz l))(r:mM n σ F w (.sub e o k) v):mM n' σ' F' w (.lst sz ((l.drop o).take k)) v:=by
 obtain⟨hsz,hn,hf,h0⟩:=h
 cases r with
 | sub _ _ _ oa c hl hk hc hnil ho=>
  refine .lst ?_
  rcases bM k with e0|e0
  ·subst e0
   rw [iM]
   exact .lst sz [] oa 0 c 0 0 rfl hc hnil (fun h=>absurd h (jv 0)) (fun _ h=>by cases h) (fun i j hi=>absurd hi (dQ i)) (fun i j row a v hi=>by simp at hi)
  ·obtain⟨b,hb,rfl⟩:=ho e0
   rw [hsz]
   have eo:(σ e).oa=some ⟨b,0,none⟩:=by unfold Loc.oa;rw [hb];rfl
   rw [eo]at hf
   exact ae8 hf hk e0 hc
mutual
theorem LK (st:St G lT lY lZ n σ F H w)(hw:wfT nb n' θ=true)(hnb:nb<=n')(a' a:AV)(v:Value)(h:co H θ Z nb a' a)(r:mM n σ F w a v):mM n' (Hf θ σ I4) (FR σ H Z F) w a' v:=by
 have hF : ∀b,F b->FR σ H Z F b∧w.heap[b]? = w.heap[b]? :=fun b hb=>⟨.inl hb,rfl⟩
 match a' with
 | .top=>exact .top v
 | .v x'=>
  unfold co at h
  split at h
  ·subst h;rw [r.nY];exact .v _
  ·cases h
 | .lst sz l'=>
  unfold co at h
  split at h
  ·obtain⟨rfl,rfl⟩:=h
   cases r with|lst hf=>exact .lst (hf.mono hF)
  ·subst h;rw [r.nY];exact .lst (zX sz _)
  ·split at h
   ·rename_i e t sz' l hk
    obtain⟨hz,rfl,rfl⟩:=h
    have:=tV (F':=FR σ H Z F) (st.blk _ _ hk) (fun b hb=> .inl hb) fun g hg=> .inr ⟨_,_,_,_,hz,hk,hg⟩
    cases r with
    | rH _ oa hl hn hc=>
     have e:=this.2.1
     rw [hn]at e
     have:l = []:=aK e.symm
     subst this
     exact .lst (zX _ _)
    | own _ hl=>exact .lst this.2.2.1
   ·rename_i e sz' l hk
    obtain⟨rfl,rfl⟩:=h
    cases r with
    | rH _ oa hl hn hc=>
     have e:=(st.blk _ _ hk).2.1
     rw [hn]at e
     have:l = []:=aK e.symm
     subst this
     exact .lst (zX _ _)
    | own _ hl=>exact .lst ((st.blk _ _ hk).2.2.1.mono hF)
   ·cases h
  ·split at h
   ·rename_i e t sz' l hk
    obtain⟨hz,rfl,rfl⟩:=h
    have hb:=tV (F':=FR σ H Z F) (st.blk _ _ hk) (fun b hb=> .inl hb) fun g hg=> .inr ⟨_,_,_,_,hz,hk,hg⟩
    exact TL hb r
   ·rename_i e sz' l hk
    obtain⟨rfl,rfl⟩:=h
    exact TL (n:=n) (σ:=σ) ⟨(st.blk _ _ hk).1,(st.blk _ _ hk).2.1,(st.blk _ _ hk).2.2.1.mono hF,(st.blk _ _ hk).2.2.2⟩ r
   ·cases h
  ·cases h
 | .fp cs o=>
  unfold co at h
  split at h
  ·obtain⟨rfl,rfl⟩:=h
   cases r with|fp hf=>exact .fp (hf.mono hF)
  ·cases h
 | .fm M=>
  unfold co at h
  split at h
  ·subst h
   cases r with|fm hf=>exact .fm (hf.mono hF)
  ·split at h
   ·rename_i e M' hk
    subst h
    obtain⟨g,hg,hf⟩:=st.blk _ _ hk
    cases r with
    | mp _ b hl hb=>
     rw [hb]at hg
     injection hg with hg
     subst hg
     exact .fm (hf.mono hF)
   ·cases h
  ·cases h
 | .ptr k o=>
  unfold co at h
  split at h
  ·obtain⟨h1,rfl⟩:=h
   obtain⟨h2,h3⟩:=xJ (σ:=σ) (I4:=I4) hw hnb h1
   cases r with|ptr _ _ b hl hb=>exact .ptr k _ b h2 (by rw [h3];exact hb)
  ·cases h
 | .ep k i o=>
  unfold co at h
  split at h
  ·obtain⟨h1,rfl,rfl⟩:=h
   obtain⟨h2,h3⟩:=xJ (σ:=σ) (I4:=I4) hw hnb h1
   cases r with|ep _ _ _ b hl hb=>rw [<-h3];exact .ep k _ _ b h2 (by rw [h3];exact hb)
  ·cases h
 | .own k=>
  unfold co at h
  split at h
  ·obtain⟨h2,h3⟩:=xJ (σ:=σ) (I4:=I4) hw hnb h
   cases r with
   | rH _ oa hl hn hc=>exact .rH k oa h2 (by rw [h3];exact hn) (by rw [h3];exact hc)
   | own _ hl=>rw [<-h3];exact .own k h2
  ·split at h
   ·rename_i ht
    rw [r.nY]
    have:=mM.own (n:=n') (σ:=Hf θ σ I4) (F:=FR σ H Z F) (w:=w) k (Rw hw ht).2
    unfold Hf at this ⊢
    rw [ht]at this
    exact this
   ·cases h
  ·cases h
 | .sub k o m=>
  unfold co at h
  split at h
  ·obtain⟨h1,rfl,rfl⟩:=h
   obtain⟨h2,h3⟩:=xJ (σ:=σ) (I4:=I4) hw hnb h1
   cases r with|sub _ _ _ oa c hl hk hc hnil ho=>exact .sub k _ _ oa c h2 (by rw [h3];exact hk) hc hnil (by rw [h3];exact ho)
  ·cases h
 | .full k m=>
  unfold co at h
  cases h
 | .mp k=>
  unfold co at h
  split at h
  ·obtain⟨h2,h3⟩:=xJ (σ:=σ) (I4:=I4) hw hnb h
   cases r with|mp _ b hl hb=>exact .mp k b h2 (by rw [h3];exact hb)
  ·cases h
 | .fn f xs ys=>
  unfold co at h
  split at h
  ·obtain⟨rfl,h1,h2⟩:=h
   cases r with
   | fn _ _ _ us vs hx hy rx ry=>
    have r1:=uX st hw hnb xs _ us h1 (.of hx rx)
    have r2:=uX st hw hnb ys _ vs h2 (.of hy ry)
    exact .fn _ xs ys us vs r1.len r2.len r1.at r2.at
  ·cases h
 | .agg cs=>
  unfold co at h
  split at h
  ·obtain⟨us,rfl,r2⟩:=mZ.Ew r
   exact(uX st hw hnb cs _ us h r2).agg
  ·cases h
 | .og cs=>
  unfold co at h
  split at h
  ·cases r with
   | og _ us hx rx=>exact(uX st hw hnb cs _ us h (.of hx rx)).og
  ·cases h
theorem uX (st:St G lT lY lZ n σ F H w)(hw:wfT nb n' θ=true)(hnb:nb<=n')(l' l:List AV)(vs:List Value)(h:Ot H θ Z nb l' l)(r:mZ n σ F w l vs):mZ n' (Hf θ σ I4) (FR σ H Z F) w l' vs:=by
 match l' with
 | []=>
  unfold Ot at h
  split at h
  ·cases vs with
   | nil=>trivial
   | cons _ _=>exact r.elim
  ·cases h
 | a'::r'=>
  unfold Ot at h
  split at h
  ·cases vs with
   | nil=>exact r.elim
   | cons v vs=>exact⟨LK st hw hnb a' _ v h.1 r.1,uX st hw hnb r' _ vs h.2 r.2⟩
  ·cases h
end
theorem Rx {a k:Nat} : ∀ {All:lI} {k':Nat} {b:oI},clash θ k (some a) All=false->look All k'=some b->xI θ k'=some a->k'=k:=by
 intro All
 induction All with
 | nil=>intro k' b _ h;cases h
 | cons p r ih=>
  intro k' b hc h hs
  obtain⟨x,bx⟩:=p
  simp only [clash,Bool.or_eq_false_iff]at hc
  rw [mO]at h
  split at h
  ·rename_i e
   subst e
   rw [hs]at hc
   have:=hc.1
   simp only [iI,gX,bV,bT]at this
   exact(aA this).symm
  ·exact ih hc.2 h hs
theorem Ci {All:lI} : ∀ {H':lI} {k:Nat} {b:oI},wfH nb n' θ Z All H'=true->look H' k=some b->k<n'∧(tr θ k=none->k<nb)∧(∀e,xI θ k=some e->vV Z e=false)∧clash θ k (xI θ k) All=false:=by
 intro H'
 induction H' with
 | nil=>intro k b _ h;cases h
 | cons p r ih=>
  intro k b hw h
  obtain⟨x,bx⟩:=p
  simp only [wfH,ak]at hw
  obtain⟨⟨⟨⟨w1,w2⟩,w3⟩,w4⟩,w5⟩:=hw
  rw [mO]at h
  split at h
  ·rename_i e
   subst e
   refine⟨aF w1,fun ht=>by rw [ht]at w2;exact aF w2,fun e he=>by rw [he]at w3;simpa using w3,by simpa using w4⟩
  ·exact ih w5 h
theorem zo : ∀ {H':lI} {k:Nat} {b':oI},Qu H θ Z nb H'->look H' k=some b'->
  (∃e b,xI θ k=some e∧look H e=some b∧coB H θ Z nb b' b)∨(tr θ k=some .nil∧∃t sz,b' = .rows t sz []):=by
 intro H'
 induction H' with
 | nil=>intro k b _ h;cases h
 | cons p r ih=>
  intro k b' hc h
  obtain⟨x,bx⟩:=p
  rw [mO]at h
  split at h
  ·rename_i e
   subst e
   injection h with h
   subst h
   have hc:=hc.1
   unfold xI
   cases ht:tr θ x with
   | none=>
    rw [ht]at hc
    cases hl:look H x with
    | none=>simp only [hl]at hc
    | some b=>simp only [hl]at hc;exact .inl ⟨x,b,rfl,hl,hc⟩
   | some s=>
    rw [ht]at hc
    cases s with
    | lab e=>
     cases hl:look H e with
     | none=>simp only [hl]at hc
     | some b=>simp only [hl]at hc;exact .inl ⟨e,b,rfl,hl,hc⟩
    | nil=>
     cases bx<;>simp only at hc
     subst hc
     exact .inr ⟨rfl,_,_,rfl⟩
  ·exact ih hc.2 h
theorem FD {b' b:oI}(h:coB H θ Z nb b' b):b'.own=b.own:=by
 unfold coB at h
 split at h
 ·split at h
  ·rfl
  ·cases h
 ·split at h
  ·rfl
  ·cases h
 ·split at h
  ·rfl
  ·cases h
 ·split at h
  ·rfl
  ·cases h
 ·split at h
  ·rfl
  ·cases h
 ·split at h
  ·rfl
  ·cases h
 ·split at h
  ·rfl
  ·cases h
 ·split at h
  ·rfl
  ·cases h
 ·split at h
  ·rfl
  ·cases h
 ·split at h
  ·rfl
  ·cases h
theorem FH {w:World}{L:Loc}{g:Nat}{b' b:oI}(h:coB H θ Z nb b' b)(ho:qO w L b' g):qO w L b g:=by
 cases hf:b'.flat with
 | true=>exact .inl (ho.flat hf)
 | false=>
  cases b' with
  | tree t sz l hh=>
   cases hh with
   | some p=>
    obtain⟨i,j,k⟩:=p
    unfold coB at h
    cases b with
    | tree t' sz' l' h'=>
     cases h' with
     | some q=>obtain⟨_,rfl,rfl,_⟩:=h;exact ho
     | none=>exact h.elim
    | _=>exact h.elim
   | none=>
    unfold coB at h
    cases b with
    | tree t' sz' l' h'=>
     cases h' with
     | none=>obtain⟨_,rfl,rfl⟩:=h;exact ho
     | some _=>exact h.elim
    | _=>exact h.elim
  | _=>cases hf
theorem FI {k e:Nat}(h:xI θ k=some e):Hf θ σ I4 k=σ e:=by
 unfold xI at h
 unfold Hf
 split at h
 ·injection h with h;rename_i ht;rw [h]
 ·cases h
 ·injection h with h;rename_i ht;rw [h]
theorem Hg (st:St G lT lY lZ n σ F H w)(hw:Nr nb n' θ Z H'=true)(hc:Qu H θ Z nb H'):St G lT lY lZ n' (Hf θ σ (D8 H')) (FR σ H Z F) H' w:=by
 simp only [Nr,ak]at hw
 obtain⟨⟨hnb,hT⟩,hH⟩:=hw
 have hnb:=aF hnb
 have hF : ∀b,F b->FR σ H Z F b∧w.heap[b]? = w.heap[b]? :=fun b hb=>⟨.inl hb,rfl⟩
 refine⟨st.glob,st.qF,fun b hb=> ?_,fun k b h=>(Ci hH h).1,fun k b g h hm hg=> ?_,fun k k' b b' g h h' hm hm' hg hg'=> ?_,fun k b h=> ?_⟩
 ·rcases hb with hb|⟨e,t,sz,l,_,hk,hb⟩
  ·exact st.oG b hb
  ·obtain⟨_,_,h3,h4⟩:=st.mu e _ b hk rfl (.inl hb)
   exact⟨h3,h4.elim (fun h=> .inr (.inr h)) fun h=> .inr (.inl h)⟩
 ·rcases zo hc h with ⟨e,b0,hs,hk,hb⟩|⟨ht,_⟩
  ·rw [FI hs]at hg
   rw [FD hb]at hm
   have hg:=FH hb hg
   obtain⟨h1,h2,h3,h4⟩:=st.mu e b0 g hk hm hg
   refine⟨fun hf=> ?_,h2,h3,h4⟩
   rcases hf with hf|⟨e',t,sz,l,hz,hk',hg'⟩
   ·exact h1 hf
   ·have:=st.inj e e' b0 _ g hk hk' hm rfl hg (.inl hg')
    subst this
    rw [(Ci hH h).2.2.1 e hs]at hz;cases hz
  ·have hg:=hg.flat (by rename_i x;obtain⟨_,_,rfl⟩:=x;rfl)
   unfold Hf at hg;rw [ht]at hg;cases hg
 ·have hs : ∃e b0,xI θ k=some e∧look H e=some b0∧b0.own=true∧qO w (σ e) b0 g:=by
   rcases zo hc h with ⟨e,b0,hs,hk,hb⟩|⟨ht,_,_,rfl⟩
   ·exact⟨e,b0,hs,hk,by rw [<-FD hb];exact hm,by rw [FI hs]at hg;exact FH hb hg⟩
   ·have hg:=hg.flat rfl
    unfold Hf at hg;rw [ht]at hg;cases hg
  have hs' : ∃e b0,xI θ k'=some e∧look H e=some b0∧b0.own=true∧qO w (σ e) b0 g:=by
   rcases zo hc h' with ⟨e,b0,hs,hk,hb⟩|⟨ht,_,_,rfl⟩
   ·exact⟨e,b0,hs,hk,by rw [<-FD hb];exact hm',by rw [FI hs]at hg';exact FH hb hg'⟩
   ·have hg':=hg'.flat rfl
    unfold Hf at hg';rw [ht]at hg';cases hg'
  obtain⟨e,b0,s1,k1,o1,g1⟩:=hs
  obtain⟨e',b0',s2,k2,o2,g2⟩:=hs'
  have:=st.inj e e' b0 b0' g k1 k2 o1 o2 g1 g2
  subst this
  have hcl:=(Ci hH h).2.2.2
  rw [s1]at hcl
  exact(Rx hcl h' s2).symm
 ·rcases zo hc h with ⟨e,b0,hs,hk,hb⟩|⟨ht,t,sz,rfl⟩
  ·rw [FI hs]
   have hB:=st.blk e b0 hk
   unfold coB at hb
   split at hb
   ·split at hb
    ·obtain⟨rfl,hb⟩:=hb
     obtain⟨g,vs,h1,h2,h3,h4⟩:=hB
     exact⟨g,vs,h1,h2,uX st hT hnb _ _ vs hb h3,h4⟩
    ·exact hb.elim
   ·split at hb
    ·obtain⟨rfl,rfl,rfl⟩:=hb
     obtain⟨h1,h2,xs,h3,h4⟩:=hB
     exact⟨h1,h2,xs,h3,h4.mono hF⟩
    ·exact hb.elim
   ·split at hb
    ·obtain⟨rfl,rfl⟩:=hb
     exact⟨hB.1,hB.2.1,hB.2.2.1.mono hF,hB.2.2.2⟩
    ·exact hb.elim
   ·split at hb
    ·subst hb
     exact hB
    ·exact hb.elim
   ·split at hb
    ·subst hb
     obtain⟨g,h1,h2⟩:=hB
     exact⟨g,h1,h2.mono hF⟩
    ·exact hb.elim
   ·split at hb
    ·subst hb
     obtain⟨g,h1,h2⟩:=hB
     exact⟨g,h1,h2.mono hF rfl⟩
    ·exact hb.elim
   ·split at hb
    ·subst hb
     obtain⟨g,h1,h2⟩:=hB
     exact⟨g,h1,h2.mono hF rfl⟩
    ·exact hb.elim
   ·split at hb
    ·obtain⟨rfl,rfl⟩:=hb
     exact hB
    ·exact hb.elim
   ·split at hb
    ·obtain⟨rfl,rfl,rfl⟩:=hb
     obtain⟨h1,h2,xs,h3,h4,h5,_⟩:=hB
     exact⟨h1,h2,xs,h3,h4.mono hF,h5,fun _ _ _ h=>by cases h⟩
    ·exact hb.elim
   ·split at hb
    ·obtain⟨rfl,rfl,rfl,rfl,rfl,hs⟩:=hb
     obtain⟨h1,h2,xs,h3,h4,h5,h6⟩:=hB
     refine⟨h1,h2,xs,h3,h4.mono hF,h5,fun i j e h=> ?_⟩
     injection h with h
     injection h with ee1 h
     injection h with ee2 ee3
     subst ee1;subst ee2;subst ee3
     obtain⟨a1,a2,a3,a4,v,a5,a6⟩:=h6 _ _ _ rfl
     exact⟨(xJ (σ:=σ) (I4:=D8 H') hT hnb hs).1,a2,a3,a4,v,a5,LK st hT hnb (.own _) (.own _) v hs a6⟩
    ·exact hb.elim
  ·have e:Hf θ σ (D8 H') k=⟨none,0,0,sz⟩:=by
    unfold Hf D8
    rw [ht,h]
   rw [e]
   exact⟨rfl,rfl,[],Own.nil _ _ _ _,qh.nil sz⟩
end
def Cj (l:List (Nat×AV))(n:Nat):Option AV:=
 match l with
 | []=>none
 | p::r=>bif Nat.beq n p.1 then some p.2 else Cj r n
def Hl (sl:List (Nat×AV))(ws:List (Nat×Nat))(ρ:lV):lV:=fun n=>
 match Cj sl n with
 | some v=>v
 | none=>bif wU ws n then .top else ρ n
def coS (H:lI)(θ:List (Nat×Src))(Z:List Nat)(nb:Nat)(sl:List (Nat×AV))(ρ:lV):Prop:=
 match sl with
 | []=>True
 | p::r=>co H θ Z nb p.2 (ρ p.1)∧coS H θ Z nb r ρ
theorem XM {H:lI}{θ:List (Nat×Src)}{Z:List Nat}{nb:Nat}{ρ:lV} : ∀ {sl:List (Nat×AV)} {s:Nat} {a:AV},coS H θ Z nb sl ρ->Cj sl s=some a->co H θ Z nb a (ρ s):=by
 intro sl
 induction sl with
 | nil=>intro s a _ h;cases h
 | cons p r ih=>
  intro s a hc h
  simp only [Cj]at h
  cases hb:Nat.beq s p.1 with
  | true=>rw [hb,cond_true]at h;injection h with h;rw [aA hb, <-h];exact hc.1
  | false=>rw [hb,cond_false]at h;exact ih hc.2 h
theorem Ho {G:Glob}{ws:List (Nat×Nat)}{nb n n':Nat}{ρ ρe:lV}{H H':lI}{sl:List (Nat×AV)}(θ:List (Nat×Src))(Z:List Nat)(hw:Nr nb n' θ Z H'=true)(hH:Qu H θ Z nb H')(hs:coS H θ Z nb sl ρ) :
  JE G (wU ws) nb ρ n H (Hl sl ws ρe) n' H':=by
 intro lT lY lZ σ F w ρc st hr
 have hw':=hw
 simp only [Nr,ak]at hw'
 obtain⟨⟨hnb,hT⟩,_⟩:=hw'
 refine⟨_,_,Hg st hw hH,fun s hss=> ?_,fun l hl=>XL hT hl,fun b hb=> .inl hb⟩
 unfold Hl
 cases hl:Cj sl s with
 | some a=>exact LK st hT (aF hnb) a _ _ (XM hs hl) (hr s hss)
 | none=>simp only [hss,cond_true];exact .top _
def LI {X:Type}(ws:List (Nat×Nat))(sl:X->List (Nat×AV))(hp:X->lI)(J:X->Prop)(μ:X->Nat)(ρ:lV)(m:Nat)(ρ':lV)(H':lI):Prop:= ∃x,μ x=m∧J x∧ρ'=Hl (sl x) ws ρ∧H'=hp x
theorem JF {s:Nat} : ∀ {l:List (Nat×AV)} {a:AV},Cj l s=some a->s∈l.map (·.1):=by
 intro l
 induction l with
 | nil=>intro a h;cases h
 | cons p r ih=>
  intro a h
  simp only [Cj]at h
  cases hb:Nat.beq s p.1 with
  | true=>simp [aA hb]
  | false=>rw [hb,cond_false]at h;simp [ih h]
theorem mY {G:Glob}{X:Type}{body:Code}{B:(Ex->lV->Nat->lI->Prop)->lV->Nat->lI->Prop}{Q:Ex->lV->Nat->lI->Prop}{ρ:lV}{n:Nat}{H:lI}
  (ws:List (Nat×Nat)) (nl:Nat) (ks:List Nat) (sl:X->List (Nat×AV)) (hp:X->lI) (J:X->Prop) (μ:X->Nat) (θ:List (Nat×Src)) (Z:List Nat) (Bz:X)
  (hw:(writesIn (wU ws) body&&Nat.ble n nl&&ks.all (wU ws))=true) (hsl : ∀x,(sl x).map (·.1)=ks) (hwf:Nr n nl θ Z (hp Bz)=true) (hJ:J Bz) (hH:Qu H θ Z n (hp Bz)) (hs:coS H θ Z n (sl Bz) ρ)
  (hr : ∀x,J x->B (LD (fun pY n'' rW=>G6 (∃m',m'<μ x∧∃pK qL,LI ws sl hp J μ ρ m' pK qL∧JE G (wU ws) n pY n'' rW pK nl qL)) Q) (Hl (sl x) ws ρ) nl (hp x)) :
  Ol G body B Q ρ n H:=by
 simp only [ak]at hw
 refine⟨.inr ⟨wU ws,LI ws sl hp J μ ρ,nl,hw.1.1,aF hw.1.2, ?_,⟨μ Bz,_,_,⟨Bz,rfl,hJ,rfl,rfl⟩,Ho θ Z hwf hH hs⟩, ?_⟩⟩
 ·rintro m ρ' H' ⟨x,rfl,hJx,rfl,rfl⟩ s h
  unfold Hl
  cases hl:Cj (sl x) s with
  | none=>simp only [h,cond_false]
  | some a=>
   have h1:=JF hl
   rw [hsl x]at h1
   have:=bP.1 hw.2 s h1
   rw [h]at this
   cases this
 ·rintro m ρ' H' ⟨x,rfl,hJx,rfl,rfl⟩
  exact hr x hJx
theorem rM {G:Glob}{body:Code}{B:(Ex->lV->Nat->lI->Prop)->lV->Nat->lI->Prop}{Q:Ex->lV->Nat->lI->Prop}{ρ:lV}{n:Nat}{H:lI}(k:Nat)(h:XI B Q k ρ n H):Ol G body B Q ρ n H:=⟨.inl ⟨k,h⟩⟩
theorem lK {G:Glob}{X:Type}{ws:List (Nat×Nat)}{sl:X->List (Nat×AV)}{hp:X->lI}{J:X->Prop}{μ:X->Nat}{ρ pY:lV}{nb nl n'' m:Nat}{rW:lI}
  (x':X) (θ:List (Nat×Src)) (Z:List Nat) (hwf:Nr nb nl θ Z (hp x')=true) (hlt:μ x'<m) (hJ:J x') (hH:Qu rW θ Z nb (hp x')) (hs:coS rW θ Z nb (sl x') pY) :
  G6 (∃m',m'<m∧∃pK qL,LI ws sl hp J μ ρ m' pK qL∧JE G (wU ws) nb pY n'' rW pK nl qL):=
 ⟨μ x',hlt,_,_,⟨x',rfl,hJ,rfl,rfl⟩,Ho θ Z hwf hH hs⟩
theorem nI {G:Glob}{nb n:Nat}{R:AV->Nat->lI->Prop}{a:AV}{H:lI}(a':AV)(n':Nat)(H':lI)(θ:List (Nat×Src))(Z:List Nat)(hR:R a' n' H')(hwf:Nr nb n' θ Z H'=true)(hH:Qu H θ Z nb H')(hc:co H θ Z nb a' a) :
  G9 G nb R a n H:=by
 have hw':=hwf
 simp only [Nr,ak]at hw'
 obtain⟨⟨hnb,hT⟩,_⟩:=hw'
 have hnb:=aF hnb
 exact⟨a',n',H',hR,hnb,fun lT lY lZ σ F w v st r=>⟨_,_,Hg st hwf hH,LK st hT hnb a' a v hc r,fun l hl=>XL hT hl,fun b hb=> .inl hb⟩⟩
def Is (r:AV)(a:AV)(n:Nat)(H:lI):Prop:=a=r∧n=0∧H = []
theorem lQ {G:Glob}{n:Nat}{r a:AV}{H:lI}(Z:List Nat)(hc:co H [] Z 0 r a):G9 G 0 (Is r) a n H:=nI r 0 [] [] Z ⟨rfl,rfl,rfl⟩ rfl trivial hc
mutual
def flat:AV->Bool
 | .v _=>true
 | .top=>true
 | .agg cs=>Ou cs
 | .og cs=>Ou cs
 | _=>false
def Ou:List AV->Bool
 | []=>true
 | a::r=>flat a&&Ou r
end
mutual
theorem Cm {n n':Nat}{σ σ':Nat->Loc}{F F':Nat->Prop}{w w':World}(a:AV)(v:Value)(h:flat a=true)(r:mM n σ F w a v):mM n' σ' F' w' a v:=by
 match a with
 | .v x=>rw [r.nY];exact .v _
 | .top=>exact .top v
 | .agg cs=>
  obtain⟨us,rfl,r2⟩:=mZ.Ew r
  exact(D9 cs us h r2).agg
 | .og cs=>
  cases r with
  | og _ us hx rx=>exact(D9 cs us h (.of hx rx)).og
 | .lst _ _=>cases h
 | .fp _ _=>cases h
 | .ptr _ _=>cases h
 | .ep _ _ _=>cases h
 | .own _=>cases h
 | .sub _ _ _=>cases h
 | .full _ _=>cases h
 | .mp _=>cases h
 | .fn _ _ _=>cases h
theorem D9 {n n':Nat}{σ σ':Nat->Loc}{F F':Nat->Prop}{w w':World}(l:List AV)(vs:List Value)(h:Ou l=true)(r:mZ n σ F w l vs):mZ n' σ' F' w' l vs:=by
 match l with
 | []=>cases vs with
  | nil=>trivial
  | cons _ _=>exact r.elim
 | a::l=>
  cases vs with
  | nil=>exact r.elim
  | cons v vs=>
   simp only [Ou,ak]at h
   exact⟨Cm a v h.1 r.1,D9 l vs h.2 r.2⟩
end
theorem mP.mono {P:Program}{G:Glob}{f:FuncId}{args:List AV}{n:Nat}{H:lI}{R R':AV->Nat->lI->Prop}(h:mP P G f args n H R)(k : ∀a n H,R a n H->R' a n H):mP P G f args n H R':=
 fun w σ F vs st r=>(h w σ F vs st r).mono fun v w' ⟨a,n',σ',F',H',hR,rest⟩=>⟨a,n',σ',F',H',k _ _ _ hR,rest⟩
def BD (Z:List Nat)(H:lI):lI:=
 match H with
 | []=> []
 | (k, .rows t sz l)::r=>bif vV Z k then(k, .fz sz l)::BD Z r else(k, .rows t sz l)::BD Z r
 | p::r=>p::BD Z r
def fN (n:Nat)(k:Nat->Prop):Prop:=
 match n with
 | 0=>k 0
 | m+1=>k (m+1)
def fB (b:oI)(k:oI->Prop):Prop:=
 match b with
 | .var t cs=>k (.var t cs)
 | .rows t sz l=>k (.rows t sz l)
 | .fz sz l=>k (.fz sz l)
 | .map M=>k (.map M)
 | .Vx M=>k (.Vx M)
 | .oU M=>k (.oU M)
 | .smap M=>k (.smap M)
 | .itr s p=>k (.itr s p)
 | .tree t sz l h=>k (.tree t sz l h)
def fH (H:lI)(k:lI->Prop):Prop:=
 match H with
 | []=>k []
 | (l,b)::r=>fN l fun l'=>fB b fun b'=>fH r fun r'=>k ((l',b')::r')
theorem aed (n:Nat)(k:Nat->Prop):fN n k=k n:=by cases n<;>rfl
theorem aio (b:oI)(k:oI->Prop):fB b k=k b:=by cases b<;>rfl
theorem aip (H:lI) : ∀k:lI->Prop,fH H k=k H:=by
 induction H with
 | nil=>intro k;rfl
 | cons p r ih=>intro k;obtain⟨l,b⟩:=p;simp only [fH,aed,aio,ih]
def frc (n:Nat)(H:lI)(k:Nat->lI->Prop):Prop:=fN n fun n'=>fH H fun H'=>k n' H'
theorem XO (n:Nat)(H:lI)(k:Nat->lI->Prop):frc n H k=k n H:=by simp only [frc,aed,aip]
section
variable {P:Program}{G:Glob}{lT:World}{lY lZ:Nat->Prop}{n:Nat}{σ:Nat->Loc}{F:Nat->Prop}{H:lI}{w:World}
theorem lM {f:FuncId}{args args':List AV}{r:AV}{K:AV->Nat->lI->Prop}(Z:List Nat)(hc:callable P f=true)(h:mP P G f args' 0 [] (Is r))(hf:flat r=true)(ha:Ot H [] Z 0 args' args)(k:K r n H):xG P G f args n H K:=by
 refine⟨hc,fun w σ F vs st hr=> ?_⟩
 have s1:=Hg (H':= []) (θ:= []) (Z:=Z) (nb:=0) (n':=0) st rfl trivial
 have r1:=uX (n':=0) (I4:=D8 []) st rfl (au 0) args' args vs ha hr
 refine(h w _ _ vs s1.start r1).mono fun v w' ⟨a,n',σ',F',H',⟨ea,en,eH⟩,s,x,ra⟩=> ?_
 subst ea;subst en;subst eH
 have hM : ∀b, ¬uJ w (Hf [] σ (D8 [])) [] b:=fun b ⟨k,c,e,_⟩=>by cases e
 have hE:Ext n σ F w n σ F w':=⟨au _,fun _ _=>rfl,fun b hb=>⟨hb,s.qF.block b (st.oG b hb).1 (hM b)⟩,x.sz⟩
 have bk : ∀ {mD b g},look H mD=some b->b.own=true->qO w' (σ mD) b g->qO w (σ mD) b g:=fun h hm hg=>hg.back fun k hk=>s.qF.block k (st.mu _ _ k h hm (.inl hk)).2.2.1 (hM k)
 refine⟨a,n,σ,F,H,k, ?_,hE,Cm a v hf ra⟩
 exact⟨s.glob,⟨s.qF.os,s.qF.tape,s.qF.output,x.sz,fun b hb _=>s.qF.block b hb (hM b)⟩,fun b hb=>⟨aP (st.oG b hb).1 x.sz, .inl hb⟩,st.lab,
  fun mD b g hk hm hg=>by
   have hg:=bk hk hm hg
   obtain⟨h1,h2,h3,h4⟩:=st.mu mD b g hk hm hg
   exact⟨h1,h2,aP h3 x.sz, .inl ⟨mD,b,hk,hm,hg⟩⟩,fun e e' b b' g h h' m m' g1 g2=>st.inj e e' b b' g h h' m m' (bk h m g1) (bk h' m' g2),
  fun mD b hk=>(st.blk mD b hk).mono hE fun hm g hg=>s.qF.block g (st.mu mD b g hk hm hg).2.2.1 (hM g)⟩
end
theorem akN (a b:ByteArray):uN a b=true↔a=b:=by
 unfold uN
 rw [<-MapKept.bytes_beq a b]
 have:(a==b)=(a.toList==b.toList):=by
  rw [Go.ByteArray.toList_eq,Go.ByteArray.toList_eq]
  obtain⟨⟨x⟩⟩:=a
  obtain⟨⟨y⟩⟩:=b
  show ((⟨x⟩:Array UInt8)==⟨y⟩)=(x==y)
  simp
 rw [this]
theorem aiq (a b:ByteArray):uN a b=decide (a=b):=by
 rw [jA,akN];simp
theorem XP {n:Nat}{σ:Nat->Loc}{F:Nat->Prop}{w:World} : ∀ {l vs:List Value},mZ n σ F w (l.map .v) vs->vs=l:=by
 intro l
 induction l with
 | nil=>intro vs r;cases vs with
  | nil=>rfl
  | cons _ _=>exact r.elim
 | cons x l ih=>intro vs r;cases vs with
  | nil=>exact r.elim
  | cons v vs=>rw [r.1.nY,ih r.2]
theorem ln:(∀ {α β:Type} (f:α->β) (l:List α),(l.map f).length=l.length)∧(∀ {α:Type} (a b:List α),(a++b).length=a.length+b.length)∧(∀ {α:Type} (x:α) (l:List α),(x::l).length=l.length+1)∧(∀ {α:Type},([]:List α).length=0)∧(∀ {α:Type} (n:Nat) (l:List α),(l.take n).length=min n l.length)∧(∀ {α:Type} (n:Nat) (l:List α),(l.drop n).length=l.length-n)∧(∀ {α:Type} (l:List α) (i:Nat) (x:α),(l.set i x).length=l.length)∧(∀ {α:Type} (n:Nat) (x:α),(List.replicate n x).length=n):=
 ⟨fun _ _=>aj _,fun _ _=>ay,fun _ _=>bn,dP,fun _ _=>aN,fun _ _=>bU,fun _ _ _=>bJ,fun _ _=>dX⟩
theorem bl:(∀a b:ByteArray,uN a b=decide (a=b))∧(∀ {α:Type} (a b:α),(bif true then a else b)=a)∧(∀ {α:Type} (a b:α),(bif false then a else b)=b)∧(∀b:Bool,((!b)=true)=(b=false))∧(∀b:Bool,((!b)=false)=(b=true))∧(∀(p:Prop) [Decidable p],(decide p=true)=p)∧(∀(p:Prop) [Decidable p],(decide p=false) = ¬p)∧(∀a b:Int,((a==b)=true)=(a=b))∧(∀a b:Int,((a != b)=true) = ¬(a=b))∧(∀a b:Int,((a==b)=false) = ¬(a=b))∧(∀a b:Int,((a != b)=false)=(a=b))∧(∀a b:Bool,((a==b)=true)=(a=b))∧(∀a b:Bool,((a != b)=true) = ¬(a=b))∧(∀a b:Bool,((a==b)=false) = ¬(a=b))∧(∀a b:Bool,((a != b)=false)=(a=b))∧((!true)=false)∧((!false)=true)∧((false=true)=False)∧((true=false)=False)∧(∀(p:Prop),(¬¬p)=p)∧(∀a b:Int,(a>b)=(b<a))∧(∀a b:Int,(a≥b)=(b<=a))∧(∀a b:Int,(¬a<b)=(b<=a))∧(∀a b:Int,(¬a<=b)=(b<a)):=
 ⟨aiq,by simp⟩
section
variable {P:Program}{G:Glob}
theorem Ba {f:FuncId}{l:List Value}{x:Value}(h : ∀w,G.holds w->zO P f l.toArray w fun v w'=>v=x∧Below w.heap.size w w'):mP P G f (l.map .v) 0 [] (Is (.v x)):=by
 intro w σ F vs st r
 rw [XP r]
 refine(h w st.glob).mono fun v w' ⟨e,hB⟩=> ?_
 subst e
 have hE:Ext 0 σ F w 0 σ F w':=⟨au _,fun _ _=>rfl,fun b hb=>⟨hb,hB.block b (st.oG b hb).1⟩,hB.size⟩
 exact⟨_,0,σ,F,[],⟨rfl,rfl,rfl⟩,⟨Glob.qF st.glob hB.size fun b hb=>hB.block b (aP hb st.glob.1),(y7.qX hB).mono fun _ _ h=>h.elim,fun b hb=>⟨aP (st.oG b hb).1 hB.size, .inl hb⟩,
  (fun mD b h=>by cases h),(fun mD b g h=>by cases h),(fun mD y8 b b' g h=>by cases h),(fun mD b h=>by cases h)⟩,hE, .v _⟩
theorem nG {l qp:Nat}(h:l<=4194304)(h2:Nat.ble (4194304*qp) 140737488355328=true):l*qp<=140737488355328∧l<=maxLen:=
 ⟨bG (bg _ h) (aF h2),by unfold maxLen;omega⟩
theorem lN.in {k:IntKind}{x:Int}{K:Int->Prop}(h:k.wrap x=x)(c:K x):lN k x K:=⟨by rw [h];exact c⟩
theorem lN.i64 {x:Int}{K:Int->Prop}(h : -9223372036854775808<=x∧x<=9223372036854775807)(c:K x):lN .i64 x K:= .in (IntWalk.i64_in _ h) c
theorem mJ.mk' {x:Int}{n:Nat}{K:Nat->Prop}(i:Nat)(e:x=i)(h:i<n)(c:K i):mJ x n K:=⟨i,e,h,c⟩
theorem uo.mk' {x y:Int}{n:Nat}{K:Nat->Nat->Prop}(i j:Nat)(e1:x=i)(e2:y=j)(h1:i<=j)(h2:j<=n)(c:K i j):uo x y n K:=⟨i,j,e1,e2,h1,h2,c⟩
theorem mQ.map {α:Type}{enc:α->List FV}{xs:List α}{i:Nat}{K:List FV->Prop}(h:i<xs.length)(c:K (enc xs[i])):mQ (xs.map enc) i K:=⟨_,by rw [aJ,ah h];rfl,c⟩
theorem mQ.at {l:List (List FV)}{i:Nat}{row:List FV}{K:List FV->Prop}(h:l[i]? = some row)(c:K row):mQ l i K:=⟨row,h,c⟩
theorem mQ.lU {α:Type}{enc:α->List FV}{xs:List α}{i:Nat}{a:α}{K:List FV->Prop}(h:xs[i]? = some a)(c:K (enc a)):mQ (xs.map enc) i K:=⟨_,by rw [aJ,h];rfl,c⟩
theorem mQ.set {l:List (List FV)}{i:Nat}{row:List FV}{K:List FV->Prop}(h:i<l.length)(c:K row):mQ (l.set i row) i K:=⟨row,dh h,c⟩
theorem uT.mk' {x y:Int}{qp:Nat}{K:Nat->Prop}(n:Nat)(e1:x=n)(e2:y=n)(h:qp*n<=140737488355328∧n<=maxLen)(c:K n):uT x y qp K:=⟨n,n,e1,e2,au _,h.1,h.2,c⟩
theorem uT.cap {x y:Int}{qp:Nat}{K:Nat->Prop}(n m:Nat)(e1:x=n)(e2:y=m)(hnm:n<=m)(h:qp*m<=140737488355328∧m<=maxLen)(c:K n):uT x y qp K:=⟨n,m,e1,e2,hnm,h.1,h.2,c⟩
theorem lX {id:Nat}{ops:Array Oper}{K:lV->Nat->lI->Prop}{ρ:lV}{n:Nat}{H:lI}(pl:Nat->Plan)(D:List Nat)(hp:uV ops (pl id)=true)(h:aD P G ops.toList D (pl id) ρ n H K):zk P G id ops K ρ n H:=⟨.inl ⟨pl id,D,hp,h⟩⟩
theorem LM {id:Nat}{ops:Array Oper}{K:lV->Nat->lI->Prop}{ρ:lV}{n:Nat}{H:lI}(pl:Nat->Plan)(D:List Nat)(ws:List (Nat×Nat))(nl:Nat)(sl:List (Nat×AV))(H':lI)(hp:uV ops (pl id)=true)
  (hw:((ops.toList.all fun o=>match o.dst with|some d=>wU ws d|none=>true)&&Nat.ble n nl&&(sl.map (·.1)).all (wU ws))=true)
  (h:aD P G ops.toList D (pl id) ρ n H fun pK Tn qL=>Oh (JE G (wU ws) n pK Tn qL (Hl sl ws ρ) nl H')) (k:K (Hl sl ws ρ) nl H'):zk P G id ops K ρ n H:=by
 simp only [ak]at hw
 refine⟨.inr (.inl ⟨pl id,D,wU ws,Hl sl ws ρ,nl,H',hp,hw.1.1,aF hw.1.2,fun s hs=> ?_,h,k⟩)⟩
 unfold Hl
 cases hl:Cj sl s with
 | none=>simp only [hs,cond_false]
 | some a=>
  have:=bP.1 hw.2 s (JF hl)
  rw [hs]at this
  cases this
theorem Hq {ws:List (Nat×Nat)}{sl:List (Nat×AV)}{ρ pK:lV}{nb Tn nl:Nat}{qL H':lI}(θ:List (Nat×Src))(Z:List Nat)(hwf:Nr nb nl θ Z H'=true)(hH:Qu qL θ Z nb H')(hs:coS qL θ Z nb sl pK):Oh (JE G (wU ws) nb pK Tn qL (Hl sl ws ρ) nl H'):=⟨Ho θ Z hwf hH hs⟩
theorem Ry {X:Type}{body:Code}{B:(Ex->lV->Nat->lI->Prop)->lV->Nat->lI->Prop}{Q:Ex->lV->Nat->lI->Prop}{ρ:lV}{n:Nat}{H:lI}
  (ws:List (Nat×Nat)) (ks:List Nat) (sl:X->List (Nat×AV)) (J:X->Prop) (μ:X->Nat) (Bz:X)
  (hw:(writesIn (wU ws) body&&Nat.ble n n&&ks.all (wU ws))=true) (hsl : ∀x,(sl x).map (·.1)=ks) (hwf:Nr n n [] [] H=true) (hJ:J Bz) (hH:Qu H [] [] n H) (hs:coS H [] [] n (sl Bz) ρ)
  (hr : ∀x,J x->B (LD (fun pY n'' rW=>G6 (∃m',m'<μ x∧∃pK qL,LI ws sl (fun _=>H) J μ ρ m' pK qL∧JE G (wU ws) n pY n'' rW pK n qL)) Q) (Hl (sl x) ws ρ) n H) :
  Ol G body B Q ρ n H:=mY ws n ks sl (fun _=>H) J μ [] [] Bz hw hsl hwf hJ hH hs hr
end
mutual
def XQ (n:Nat):AV->AV
 | .ptr e o=> .ptr (n+e) o
 | .ep e i o=> .ep (n+e) i o
 | .own e=> .own (n+e)
 | .sub e o k=> .sub (n+e) o k
 | .full e k=> .full (n+e) k
 | .mp e=> .mp (n+e)
 | .fn f xs ys=> .fn f (shL n xs) (shL n ys)
 | .agg cs=> .agg (shL n cs)
 | .og cs=> .og (shL n cs)
 | .top=> .top
 | .v x=> .v x
 | .lst sz l=> .lst sz l
 | .fp cs o=> .fp cs o
 | .fm M=> .fm M
def shL (n:Nat):List AV->List AV
 | []=> []
 | a::r=>XQ n a::shL n r
end
def shB (n:Nat):oI->oI
 | .var t cs=> .var t (shL n cs)
 | .tree t sz l (some (i,j,e))=> .tree t sz l (some (i,j,n+e))
 | b=>b
def shH (n:Nat):lI->lI
 | []=> []
 | p::r=>(n+p.1,shB n p.2)::shH n r
theorem LP (n:Nat) : ∀l:List AV,shL n l=l.map (XQ n):=by
 intro l
 induction l with
 | nil=>rfl
 | cons a r ih=>simp [shL,ih]
theorem abm (n:Nat)(b:oI):(shB n b).own=b.own:=by
 cases b with
 | tree t sz l h=>cases h<;>rfl
 | _=>rfl
theorem abn {n:Nat}{b:oI}{w:World}{L:Loc}{g:Nat}(h:qO w L (shB n b) g):qO w L b g:=by
 cases b with
 | tree t sz l o=>cases o<;>exact h
 | _=>exact h
section
variable {n m:Nat}{σ σ':Nat->Loc}{F:Nat->Prop}{w:World}
theorem Rz (hs : ∀k,k<m->σ' (n+k)=σ k){a:AV}{v:Value}(r:mM m σ F w a v):mM (n+m) σ' F w (XQ n a) v:=by
 induction r with
 | top x=>exact .top x
 | v x=>exact .v x
 | lst h=>exact .lst h
 | fp h=>exact .fp h
 | fm h=>exact .fm h
 | ptr l o b hl hb=>exact .ptr _ o b aai akf
 | ep l i o b hl hb=>rw [<-hs l hl];exact .ep _ i o b aai akf
 | own l hl=>rw [<-hs l hl];exact .own _ aai
 | rH l oa hl hn hc=>exact .rH _ oa aai (by rw [hs l hl];exact hn) (by rw [hs l hl];exact hc)
 | sub l o k oa c hl hk hc hnil ho=>exact .sub _ o k oa c aai (by rw [hs l hl];exact hk) hc hnil (by rw [hs l hl];exact ho)
 | full l k oa hl hk ho=>exact .full _ k oa aai (by rw [hs l hl];exact hk) (by rw [hs l hl];exact ho)
 | mp l b hl hb=>exact .mp _ b aai akf
 | fn f xs ys us vs hx hy _ _ ih1 ih2=>
  simp only [XQ,LP]
  refine .fn f _ _ us vs aia (by simp [hy]) (fun j a v h1 h2=> ?_) (fun j a v h1 h2=> ?_)
  ·rw [aJ]at h1
   cases hx:xs[j]? with
   | none=>rw [hx]at h1;cases h1
   | some x=>rw [hx]at h1;injection h1 with h1;rw [<-h1];exact ih1 j x v hx h2
  ·rw [aJ]at h1
   cases hy:ys[j]? with
   | none=>rw [hy]at h1;cases h1
   | some y=>rw [hy]at h1;injection h1 with h1;rw [<-h1];exact ih2 j y v hy h2
 | agg xs us hx _ ih=>
  simp only [XQ,LP]
  refine .agg _ us aia (fun j a v h1 h2=> ?_)
  rw [aJ]at h1
  cases hx:xs[j]? with
  | none=>rw [hx]at h1;cases h1
  | some x=>rw [hx]at h1;injection h1 with h1;rw [<-h1];exact ih j x v hx h2
 | og xs us hx _ ih=>
  simp only [XQ,LP]
  refine .og _ us aia (fun j a v h1 h2=> ?_)
  rw [aJ]at h1
  cases hx:xs[j]? with
  | none=>rw [hx]at h1;cases h1
  | some x=>rw [hx]at h1;injection h1 with h1;rw [<-h1];exact ih j x v hx h2
theorem abo (hs : ∀k,k<m->σ' (n+k)=σ k){l:List AV}{vs:List Value}(r:mZ m σ F w l vs):mZ (n+m) σ' F w (shL n l) vs:=by
 rw [LP]
 refine .of (by simp [r.len]) fun j a v h1 h2=> ?_
 rw [aJ]at h1
 cases hx:l[j]? with
 | none=>rw [hx]at h1;cases h1
 | some x=>rw [hx]at h1;injection h1 with h1;rw [<-h1];exact Rz hs (r.at j x v hx h2)
theorem abp (hs : ∀k,k<m->σ' (n+k)=σ k){L:Loc}{b:oI}(r:uS m σ F w L b):uS (n+m) σ' F w L (shB n b):=by
 cases b with
 | var t cs=>obtain⟨g,vs,h1,h2,h3,h4⟩:=r;exact⟨g,vs,h1,h2,abo hs h3,h4⟩
 | tree t sz l h=>
  cases h with
  | none=>obtain⟨h1,h2,xs,h3,h4,h5,_⟩:=r;exact⟨h1,h2,xs,h3,h4,h5,fun _ _ _ h=>by cases h⟩
  | some p=>
   obtain⟨i,j,e⟩:=p
   obtain⟨h1,h2,xs,h3,h4,h5,h6⟩:=r
   refine⟨h1,h2,xs,h3,h4,h5,fun i' j' e' h=> ?_⟩
   injection h with h
   injection h with e1 h
   injection h with e2 e3
   subst e1;subst e2;subst e3
   obtain⟨a1,a2,a3,a4,v,a5,a6⟩:=h6 _ _ _ rfl
   exact⟨by omega,a2,a3,a4,v,a5,Rz hs a6⟩
 | _=>exact r
theorem Ht : ∀ {H:lI} {k:Nat} {b:oI},look (shH n H) k=some b->∃j c,k=n+j∧look H j=some c∧b=shB n c:=by
 intro H
 induction H with
 | nil=>intro k b h;cases h
 | cons p r ih=>
  intro k b h
  obtain⟨x,c⟩:=p
  simp only [shH]at h
  rw [mO]at h
  split at h
  ·rename_i e
   injection h with h
   exact⟨x,c,e.symm,by rw [mO,if_pos rfl],h.symm⟩
  ·rename_i e
   obtain⟨j,d,h1,h2,h3⟩:=ih h
   exact⟨j,d,h1,by rw [mO,if_neg aai];exact h2,h3⟩
theorem xK {Z:List Nat} : ∀ {H:lI} {k:Nat} {b:oI},look (BD Z H) k=some b->(look H k=some b∧(vV Z k=true->∀t sz l,b≠ .rows t sz l))∨(vV Z k=true∧∃t sz l,look H k=some (.rows t sz l)∧b = .fz sz l):=by
 intro H
 induction H with
 | nil=>intro k b h;cases h
 | cons p r ih=>
  intro k b h
  obtain⟨x,c⟩:=p
  rw [mO]
  have other:(∀t sz l,c≠ .rows t sz l)->BD Z ((x,c)::r)=(x,c)::BD Z r:=fun hne=>by
   cases c<;>first|rfl|exact absurd rfl (hne _ _ _)
  by_cases hc : ∃t sz l,c = .rows t sz l
  ·obtain⟨t,sz,l,rfl⟩:=hc
   simp only [BD]at h
   cases hz:vV Z x with
   | true=>
    rw [hz,cond_true,mO]at h
    split at h
    ·rename_i e
     subst e
     injection h with h
     rw [if_pos rfl]
     exact .inr ⟨hz,t,sz,l,rfl,h.symm⟩
    ·rename_i e;rw [if_neg e];exact ih h
   | false=>
    rw [hz,cond_false,mO]at h
    split at h
    ·rename_i e
     subst e
     injection h with h
     rw [if_pos rfl]
     exact .inl ⟨by rw [h],fun hm=>by rw [hz]at hm;cases hm⟩
    ·rename_i e;rw [if_neg e];exact ih h
  ·have hne : ∀t sz l,c≠ .rows t sz l:=fun t sz l e=>hc ⟨t,sz,l,e⟩
   rw [other hne,mO]at h
   split at h
   ·rename_i e
    subst e
    injection h with h
    rw [if_pos rfl]
    exact .inl ⟨by rw [h],fun _ t sz l e=>hne t sz l (h.trans e)⟩
   ·rename_i e;rw [if_neg e];exact ih h
end
section
variable {P:Program}{G:Glob}{n:Nat}{H:lI}
theorem TM {f:FuncId}{args args':List AV}{R:AV->Nat->lI->Prop}{K:AV->Nat->lI->Prop}(Z:List Nat)(hc:callable P f=true)(h:mP P G f args' 0 [] R)(ha:Ot H [] Z 0 args' args)
  (k : ∀a m H',R a m H'->K (XQ n a) (n+m) (shH n H'++BD Z H)):xG P G f args n H K:=by
 refine⟨hc,fun w σ F vs st hr=> ?_⟩
 have s1:=Hg (H':= []) (θ:= []) (Z:=Z) (nb:=0) (n':=0) st rfl trivial
 have r1:=uX (n':=0) (I4:=D8 []) st rfl (au 0) args' args vs ha hr
 refine(h w _ _ vs s1.start r1).mono fun v w' ⟨a,m,σ',F',H',hR,s,x,ra⟩=> ?_
 have hM : ∀b, ¬uJ w (Hf [] σ (D8 [])) [] b:=fun b ⟨k,c,e,_⟩=>by cases e
 let σn:Nat->Loc:=fun l=>if l<n then σ l else σ' (l-n)
 have hs : ∀k,k<m->σn (n+k)=σ' k:=fun k _=>by show (if n+k<n then _ else _)=_;rw [if_neg aai];congr 1;omega
 have ho : ∀k,k<n->σn k=σ k:=fun k hk=>if_pos hk
 have hF : ∀b,F b->F' b∧w'.heap[b]? = w.heap[b]? :=fun b hb=>⟨(x.f b (.inl hb)).1,s.qF.block b (st.oG b hb).1 (hM b)⟩
 have hE:Ext n σ F w (n+m) σn F' w':=⟨by omega,ho,hF,x.sz⟩
 have old : ∀k b g,look (BD Z H) k=some b->b.own=true->qO w (σ k) b g->look H k=some b∧¬F' g∧G.nb<=g∧g<w.heap.size∧uJ w σ H g:=by
  intro k b g hk hm hg
  rcases xK hk with ⟨h1,h2⟩|⟨_,t,sz,l,_,rfl⟩
  ·obtain⟨m1,m2,m3,m4⟩:=st.mu k b g h1 hm hg
   refine⟨h1,fun hf=> ?_,m2,m3,⟨k,b,h1,hm,hg⟩⟩
   rcases(s.oG g hf).2 with e|e|e
   ·rcases e with e|⟨k',t,sz,l,hz,hk',hg'⟩
    ·exact m1 e
    ·have:=st.inj k k' b _ g h1 hk' hm rfl hg (.inl hg')
     subst this
     rw [h1]at hk'
     injection hk' with hk'
     exact h2 hz t sz l hk'
   ·omega
   ·exact hM g e
  ·cases hm
 have new : ∀k b g,look (shH n H') k=some b->b.own=true->qO w' (σn k) b g->∃j c,k=n+j∧look H' j=some c∧c.own=true∧qO w' (σ' j) c g∧¬F' g∧G.nb<=g∧g<w'.heap.size∧w.heap.size<=g:=by
  intro k b g hk hm hg
  obtain⟨j,c,rfl,hj,rfl⟩:=Ht hk
  rw [abm]at hm
  rw [hs j (s.lab j c hj)]at hg
  have hg:=abn hg
  obtain⟨m1,m2,m3,m4⟩:=s.mu j c g hj hm hg
  exact⟨j,c,rfl,hj,hm,hg,m1,m2,m3,m4.resolve_left (hM g)⟩
 have bk : ∀ {k b g},look (BD Z H) k=some b->b.own=true->qO w' (σ k) b g->qO w (σ k) b g:=fun hk hm hg=>hg.back fun y hy=>s.qF.block y (old _ _ y hk hm (.inl hy)).2.2.2.1 (hM y)
 have CB : ∀k b,look (BD Z H) k=some b->k<n:=fun k b hk=>by
  rcases xK hk with ⟨h1,_⟩|⟨_,t,sz,l,h1,_⟩
  ·exact st.lab k _ h1
  ·exact st.lab k _ h1
 have hst:St G w (uJ w σ H) F (n+m) σn F' (shH n H'++BD Z H) w':=by
  refine⟨s.glob,⟨s.qF.os,s.qF.tape,s.qF.output,x.sz,fun b hb _=>s.qF.block b hb (hM b)⟩,fun b hb=>⟨(s.oG b hb).1, ?_⟩,fun k b hk=> ?_,fun k b g hk hm hg=> ?_,fun k k' b b' g hk hk' hm hm' hg hg'=> ?_,fun k b hk=> ?_⟩
  ·rcases(s.oG b hb).2 with e|e|e
   ·rcases e with e|⟨k',t,sz,l,hz,hk',hg'⟩
    ·exact .inl e
    ·exact .inr (.inr ⟨k',_,hk',rfl, .inl hg'⟩)
   ·exact .inr (.inl e)
   ·exact(hM b e).elim
  ·rcases nK hk with hk|⟨_,hk⟩
   ·obtain⟨j,c,rfl,hj,_⟩:=Ht hk
    have:=s.lab j c hj
    omega
   ·have:=CB k b hk;omega
  ·rcases nK hk with hk|⟨_,hk⟩
   ·obtain⟨j,c,_,_,_,_,m1,m2,m3,m4⟩:=new k b g hk hm hg
    exact⟨m1,m2,m3, .inr m4⟩
   ·rw [ho k (CB k b hk)]at hg
    obtain⟨_,m1,m2,m3,m4⟩:=old k b g hk hm (bk hk hm hg)
    exact⟨m1,m2,aP m3 x.sz, .inl m4⟩
  ·rcases nK hk with hk|⟨_,hk⟩
   ·obtain⟨j,c,e1,h1,h2,h3,_,_,_,h4⟩:=new k b g hk hm hg
    rcases nK hk' with hk'|⟨_,hk'⟩
    ·obtain⟨j',c',e1',h1',h2',h3',_⟩:=new k' b' g hk' hm' hg'
     have:=s.inj j j' c c' g h1 h1' h2 h2' h3 h3'
     omega
    ·rw [ho k' (CB k' b' hk')]at hg'
     have:=(old k' b' g hk' hm' (bk hk' hm' hg')).2.2.2.1
     omega
   ·rw [ho k (CB k b hk)]at hg
    have h5:=old k b g hk hm (bk hk hm hg)
    rcases nK hk' with hk'|⟨_,hk'⟩
    ·obtain⟨j',c',e1',h1',h2',h3',_,_,_,h4'⟩:=new k' b' g hk' hm' hg'
     have:=h5.2.2.2.1
     omega
    ·rw [ho k' (CB k' b' hk')]at hg'
     have h6:=old k' b' g hk' hm' (bk hk' hm' hg')
     exact st.inj k k' b b' g h5.1 h6.1 hm hm' (bk hk hm hg) (bk hk' hm' hg')
  ·rcases nK hk with hk|⟨_,hk⟩
   ·obtain⟨j,c,rfl,hj,rfl⟩:=Ht hk
    rw [hs j (s.lab j c hj)]
    exact abp hs (s.blk j c hj)
   ·rw [ho k (CB k b hk)]
    rcases xK hk with ⟨h1,_⟩|⟨hz,t,sz,l,h1,rfl⟩
    ·exact(st.blk k b h1).mono hE fun hm g hg=>s.qF.block g (st.mu k b g h1 hm hg).2.2.1 (hM g)
    ·have hb:=(st.blk k _ h1).mono hE fun hm g hg=>s.qF.block g (st.mu k _ g h1 rfl hg).2.2.1 (hM g)
     exact tV hb (fun _ h=>h) fun g hg=>(x.f g (.inr ⟨k,t,sz,l,hz,h1,hg⟩)).1
 exact⟨XQ n a,n+m,σn,F',_,k a m H' hR,hst,hE,Rz hs ra⟩
theorem oD {f:FuncId}{args args':List AV}{R:AV->Nat->lI->Prop}{K:AV->Nat->lI->Prop}(Z:List Nat)(hc:callable P f=true)(h:mP P G f args' 0 [] R)(ha:Ot H [] Z 0 args' args)
  (k : ∀a m H',R a m H'->frc (n+m) (shH n H'++BD Z H) fun n' rW=>K (XQ n a) n' rW):xG P G f args n H K:=TM Z hc h ha fun a m H' hR=>by have:=k a m H' hR;rwa [XO]at this
theorem Ov {f:FuncId}{args:List AV}{x:Value}(h : ∀w σ F vs,G.holds w->(∀b,F b->b<w.heap.size)->mZ 0 σ F w args vs->zO P f vs.toArray w fun v w'=>v=x∧Below w.heap.size w w'):mP P G f args 0 [] (Is (.v x)):=by
 intro w σ F vs st r
 refine(h w σ F vs st.glob (fun b hb=>(st.oG b hb).1) r).mono fun v w' ⟨e,hB⟩=> ?_
 subst e
 have hE:Ext 0 σ F w 0 σ F w':=⟨au _,fun _ _=>rfl,fun b hb=>⟨hb,hB.block b (st.oG b hb).1⟩,hB.size⟩
 exact⟨_,0,σ,F,[],⟨rfl,rfl,rfl⟩,⟨Glob.qF st.glob hB.size fun b hb=>hB.block b (aP hb st.glob.1),(y7.qX hB).mono fun _ _ h=>h.elim,fun b hb=>⟨aP (st.oG b hb).1 hB.size, .inl hb⟩,
  (fun mD b h=>by cases h),(fun mD b g h=>by cases h),(fun mD y8 b b' g h=>by cases h),(fun mD b h=>by cases h)⟩,hE, .v _⟩
theorem JG {α:Type}{F:Nat->Prop}{w:World}{sz:Nat}{enc:α->List FV}{c:α->List Value}(he : ∀x,enc x=(c x).map .v) : ∀ {l:List α} {xs:List Value},qh F w sz (l.map enc) xs->xs=recs c l:=by
 intro l
 induction l with
 | nil=>intro xs r;have:=r.2.1;simp at this;rw [this];rfl
 | cons x l ih=>
  intro xs r
  have hx:(enc x).length=sz:=r.1 _ abb
  have hcx:(c x).length=sz:=by rw [<-hx,he];simp
  have hlen:=r.2.1
  simp only [gW,bn,aj]at hlen
  rw [bK,dY]at hlen
  have e1:xs.take sz=c x:=by
   apply eu
   intro j
   rw [bH]
   by_cases hj:j<sz
   ·rw [if_pos hj]
    have h1:(enc x)[j]? = some (.v (c x)[j]):=by rw [he,aJ,ah aai];rfl
    have h2:xs[j]? = some xs[j]:=ah aai
    have:=r.2.2.2 0 j (enc x) _ xs[j] abb h1 (by rw [fU,aO];exact h2)
    have key : ∀ {a b:Value},oV F w (.v a) b->b=a:=fun h=>by cases h;rfl
    rw [h2,ah aai,key this]
   ·rw [if_neg hj,dN aai]
  have e2:xs.drop sz=recs c l:=by
   refine ih ⟨fun row hr=>r.1 row (by simp at hr ⊢;right;exact hr),by rw [bU,aj];omega,fun v hv=>r.2.2.1 v (dM hv),fun i j row a v hi hj hv=> ?_⟩
   rw [dO]at hv
   refine r.2.2.2 (i+1) j row a v (by simpa using hi) hj ?_
   rw [bK,dY,show i*sz+sz+j=sz+(i*sz+j) by omega]
   exact hv
  have e3:recs c (x::l)=c x++recs c l:=rfl
  rw [e3, <-e1, <-e2,cZ]
theorem CG {α:Type}{σ:Nat->Loc}{F:Nat->Prop}{w:World}{sz:Nat}{enc:α->List FV}{c:α->List Value}(he : ∀x,enc x=(c x).map .v){l:List α}{v:Value}(h:mM n σ F w (.lst sz (l.map enc)) v)(hF : ∀b,F b->b<w.heap.size) :
  ∃oa cap,v = .slice oa l.length cap∧l.length<=cap∧(oa=none->cap=0)∧Row w oa (recs c l):=by
 cases h with
 | lst hf=>
  obtain⟨oa,m,cap,news,h1,h2,h3,h4,h5,h6⟩:=yD hf hF
  rw [aj]at h2
  subst h2
  rw [JG he h6]at h5
  exact⟨oa,cap,h1,h3,h4,h5⟩
theorem nJ {f:FuncId}{args:List AV}{K:AV->Nat->lI->Prop}(hc:callable P f=true)(h:mP P G f args n H K):xG P G f args n H K:=⟨hc,h⟩
theorem pO {n1:Nat}{H1:lI}{a:AV}{K:AV->Nat->lI->Prop}(h:Nat.ble n n1=true)(k:K a n1 H1):G9 G n K a n1 H1:=
 ⟨a,n1,H1,k,aF h,fun _ _ _ _ _ _ _ st r=>⟨_,_,st,r,fun _ _=>rfl,fun _ h=>h⟩⟩
def Ox (n:Nat):lI->lI
 | []=> []
 | p::r=>bif Nat.blt p.1 n then p::Ox n r else Ox n r
theorem Hu {n1:Nat}{H1:lI}{x:Value}{K:AV->Nat->lI->Prop}(k:spine (Ox n H1) fun H0=>K (.v x) n H0)(hwf:Nr n n [] [] (Ox n H1)=true)(hH:Qu H1 [] [] n (Ox n H1)):G9 G n K (.v x) n1 H1:=
 nI (.v x) n _ [] [] (by rw [pq]at k;exact k) hwf hH rfl
def vZ (T sz:Nat)(l:List (List FV))(a:AV)(n:Nat)(H:lI):Prop:=a = .own 0∧n=1∧H = [(0, .rows T sz l)]
theorem mP.BD {f:FuncId}{args:List AV}{T sz:Nat}{l:List (List FV)}(h:mP P G f args 0 [] (vZ T sz l)):mP P G f args 0 [] (Is (.lst sz l)):=by
 intro w σ F vs st r
 refine(h w σ F vs st r).mono fun v w' ⟨a,m,σ',F',H',⟨e1,e2,e3⟩,s,x,ra⟩=> ?_
 subst e1;subst e2;subst e3
 obtain⟨a',n',rW,hR,_,hE⟩:=(nI (G:=G) (nb:=0) (n:=1) (a:= .own 0) (H:= [(0, .rows T sz l)]) (R:=Is (.lst sz l)) (.lst sz l) 0 [] [] [0] ⟨rfl,rfl,rfl⟩ rfl trivial ⟨rfl,rfl,rfl⟩).ex
 obtain⟨yR,Nl,s2,r2,_,h4⟩:=hE w (uJ w σ []) F σ' F' w' v s ra
 exact⟨a',n',yR,Nl,rW,hR,s2,⟨aH _,fun _ h=>absurd h (dQ _),fun b hb=>⟨h4 b (x.f b hb).1,(x.f b hb).2⟩,x.sz⟩,r2⟩
end
theorem qc {P:Program}{G:Glob}{n m:Nat}{H H0:lI}{f:FuncId}{args args':List AV}{r:AV}{K:AV->Nat->lI->Prop}(Z:List Nat)(hc:callable P f=true)(h:mP P G f args' 0 [] fun a n H=>a=r∧n=m∧H=H0)(ha:Ot H [] Z 0 args' args)(k:frc (n+m) (shH n H0++BD Z H) fun n' rW=>K (XQ n r) n' rW):xG P G f args n H K:=oD Z hc h ha fun _ _ _ ⟨e1,e2,e3⟩=>by subst e1 e2 e3;exact k
theorem pF {α β:Type}{f:α->β}{l:List α}{i:Nat}(h:i<l.length):i<(l.map f).length:=by rw [aj];exact h
theorem nN {x y:Int}(h:x=y):Value.int .i64 x=Value.int .i64 y:=by rw [h]
theorem rnS {p q:Prop}(k:q)(h:q->p:=by intro k;first|exact lN.i64 akr k|exact mJ.mk' _ rfl akr k|exact mQ.lU (by clear k;assumption) k|exact mQ.set akr k|exact mQ.map akr k|exact lW.mk (by clear k;first|decide|omega) k|exact yc.mk aag rfl rfl k|exact lW.mk (nG akr aag) k):p:=h k
end Go.Proofs.YtnandbihiceihaaGreatDoor.Ax
