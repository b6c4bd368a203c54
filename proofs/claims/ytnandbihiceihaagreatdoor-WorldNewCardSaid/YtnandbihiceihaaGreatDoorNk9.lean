/- Joined parts of the proof. What one state of a walk has from another: labels renamed, memory of the call's own frozen, registers forgotten -/
import Derived.Test.YtnandbihiceihaaGreatDoorNk8
set_option linter.unusedVariables false
set_option linter.unusedSimpArgs false
set_option maxRecDepth 100000
set_option maxHeartbeats 16000000
namespace Go.Proofs.YtnandbihiceihaaGreatDoor.Ax
open RowKit Vc
inductive Src where
 | lab (jT:Nat)
 | nil
def tr (θ:List (Nat×Src))(k:Nat):Option Src:=
 match θ with
 | []=>none
 | p::r=>bif Nat.beq p.1 k then some p.2 else tr r k
def yX (θ:List (Nat×Src))(nb k jT:Nat):Prop:=
 match tr θ k with
 | some (.lab e)=>e=jT
 | some .nil=>False
 | none=>Nat.blt k nb=true∧k=jT
mutual
def co (H:jI)(θ:List (Nat×Src))(Z:List Nat)(nb:Nat)(a' a:AV):Prop:=
 match a' with
 | .top=>True
 | .v x'=>(match a with | .v x=>x=x'|_=>False)
 | .lst sz l'=>(match a with
  | .lst sz' l=>sz'=sz∧l=l'
  | .v (.slice none 0 0)=>l' = []
  | .own e=>(match look H e with
   | some (.rows _ sz' l)=>qP Z e=true∧sz'=sz∧l=l'
   | some (.fz sz' l)=>sz'=sz∧l=l'
   | _=>False)
  | .sub e o k=>(match look H e with
   | some (.rows _ sz' l)=>qP Z e=true∧sz'=sz∧(l.drop o).take k=l'
   | some (.fz sz' l)=>sz'=sz∧(l.drop o).take k=l'
   | _=>False)
  | _=>False)
 | .fp cs o=>(match a with | .fp cs' o'=>cs'=cs∧o'=o|_=>False)
 | .fm M=>(match a with
  | .fm M'=>M'=M
  | .mp e=>(match look H e with|some (.KU M')=>M'=M|_=>False)
  | _=>False)
 | .ptr k o=>(match a with | .ptr e o'=>yX θ nb k e∧o'=o|_=>False)
 | .ep k i o=>(match a with | .ep e i' o'=>yX θ nb k e∧i'=i∧o'=o|_=>False)
 | .own k=>(match a with
  | .own e=>yX θ nb k e
  | .v (.slice none 0 0)=>(match tr θ k with|some .nil=>True|_=>False)
  | _=>False)
 | .sub k o n=>(match a with | .sub e o' n'=>yX θ nb k e∧o'=o∧n'=n|_=>False)
 | .full _ _=>False
 | .mp k=>(match a with | .mp e=>yX θ nb k e|_=>False)
 | .fn f xs ys=>(match a with | .fn f' xs' ys'=>f'=f∧I4 H θ Z nb xs xs'∧I4 H θ Z nb ys ys'|_=>False)
 | .agg cs=>(match a with | .agg cs'=>I4 H θ Z nb cs cs'|_=>False)
 | .kZ cs=>(match a with | .kZ cs'=>I4 H θ Z nb cs cs'|_=>False)
def I4 (H:jI)(θ:List (Nat×Src))(Z:List Nat)(nb:Nat)(l' l:List AV):Prop:=
 match l' with
 | []=>(match l with | []=>True|_=>False)
 | a'::r'=>(match l with|a::r=>co H θ Z nb a' a∧I4 H θ Z nb r' r|_=>False)
end
def QX (H:jI)(θ:List (Nat×Src))(Z:List Nat)(nb:Nat)(b' b:mD):Prop:=
 match b' with
 | .var t cs=>(match b with | .var t' cs'=>t'=t∧I4 H θ Z nb cs cs'|_=>False)
 | .rows t sz l=>(match b with | .rows t' sz' l'=>t'=t∧sz'=sz∧l'=l|_=>False)
 | .fz sz l=>(match b with | .fz sz' l'=>sz'=sz∧l'=l|_=>False)
 | .map M=>(match b with | .map M'=>M'=M|_=>False)
 | .KU M=>(match b with | .KU M'=>M'=M|_=>False)
 | .vS M=>(match b with | .vS M'=>M'=M|_=>False)
 | .smap M=>(match b with | .smap M'=>M'=M|_=>False)
 | .XM s p=>(match b with | .XM s' p'=>s'=s∧p'=p|_=>False)
 | .tree t sz l none=>(match b with | .tree t' sz' l' none=>t'=t∧sz'=sz∧l'=l|_=>False)
 | .tree t sz l (some (i,j,k))=>(match b with | .tree t' sz' l' (some (i',j',e))=>t'=t∧sz'=sz∧l'=l∧i'=i∧j'=j∧yX θ nb k e|_=>False)
def MC (H:jI)(θ:List (Nat×Src))(Z:List Nat)(nb:Nat)(H':jI):Prop:=
 match H' with
 | []=>True
 | (k,b')::r=>(match tr θ k with
  | some (.lab e)=>(match look H e with|some b=>QX H θ Z nb b' b|none=>False)
  | some .nil=>(match b' with | .rows _ _ l=>l = []|_=>False)
  | none=>(match look H k with|some b=>QX H θ Z nb b' b|none=>False))∧MC H θ Z nb r
def tH (θ:List (Nat×Src))(k:Nat):Option Nat:=
 match tr θ k with
 | some (.lab e)=>some e
 | some .nil=>none
 | none=>some k
def clash (θ:List (Nat×Src))(k:Nat)(o:Option Nat)(H:jI):Bool:=
 match H with
 | []=>false
 | p::r=>(match o,tH θ p.1 with|some a,some b=>Nat.beq a b&& !(Nat.beq k p.1)|_,_=>false)||clash θ k o r
def ZH (nb n':Nat)(θ:List (Nat×Src))(Z:List Nat)(All H':jI):Bool:=
 match H' with
 | []=>true
 | p::r=>Nat.blt p.1 n'&&(match tr θ p.1 with|none=>Nat.blt p.1 nb|_=>true)&&(match tH θ p.1 with|some e=> !(qP Z e)|none=>true)&& !(clash θ p.1 (tH θ p.1) All)&&ZH nb n' θ Z All r
def UZ (nb n':Nat)(θ:List (Nat×Src)):Bool:=
 match θ with
 | []=>true
 | p::r=>Nat.ble nb p.1&&Nat.blt p.1 n'&&UZ nb n' r
def Ls (nb n':Nat)(θ:List (Nat×Src))(Z:List Nat)(H':jI):Bool:=Nat.ble nb n'&&UZ nb n' θ&&ZH nb n' θ Z H' H'
def EU (θ:List (Nat×Src))(σ:Nat->Loc)(BZ:Nat->Nat)(k:Nat):Loc:=
 match tr θ k with
 | some (.lab e)=>σ e
 | some .nil=>⟨none,0,0,BZ k⟩
 | none=>σ k
def FR (σ:Nat->Loc)(H:jI)(Z:List Nat)(F:Nat->Prop)(b:Nat):Prop:=F b∨∃e t sz l,qP Z e=true∧look H e=some (.rows t sz l)∧(σ e).b=some b
def Gl (H:jI)(k:Nat):Nat:=match look H k with|some (.rows _ sz _)=>sz|_=>0
section
variable {G:Glob}{jL:World}{jO jQ:Nat->Prop}{n n' nb:Nat}{σ:Nat->Loc}{F:Nat->Prop}{H H':jI}{w:World}{θ:List (Nat×Src)}{Z:List Nat}{BZ:Nat->Nat}
theorem I5 {nb n':Nat} : ∀ {θ:List (Nat×Src)} {k:Nat} {s:Src},UZ nb n' θ=true->tr θ k=some s->nb<=k∧k<n':=by
 intro θ
 induction θ with
 | nil=>intro k s _ h;cases h
 | cons p r ih=>
  intro k s hw h
  simp only [UZ,ah]at hw
  simp only [tr]at h
  cases hb:Nat.beq p.1 k with
  | true=>
   rw [aj hb]at hw
   exact⟨ak hw.1.1,ak hw.1.2⟩
  | false=>rw [hb,cond_false]at h;exact ih hw.2 h
theorem Oa (hw:UZ nb n' θ=true){l:Nat}(hl:l<nb):EU θ σ BZ l=σ l:=by
 unfold EU
 cases h:tr θ l with
 | none=>rfl
 | some s=>have:=(I5 hw h).1;omega
theorem su (hw:UZ nb n' θ=true)(hnb:nb<=n'){k e:Nat}(h:yX θ nb k e):k<n'∧EU θ σ BZ k=σ e:=by
 unfold yX at h
 unfold EU
 split at h
 ·rename_i e' ht
  subst h
  exact⟨(I5 hw ht).2,rfl⟩
 ·cases h
 ·rename_i ht
  have:k<nb:=ak h.1
  rw [h.2]at this ⊢
  exact⟨by omega,rfl⟩
theorem VT {F:Nat->Prop}{w:World}{sz b m c k cc o:Nat}{l:List (List FV)}(h:lN F w (.lst sz l) (.slice (some ⟨b,0,none⟩) m c))(hk:o+k<=m)(h0:0<k)(hkc:k<=cc) :
  lN F w (.lst sz ((l.drop o).take k)) (.slice (some ⟨b,o*sz,none⟩) k cc):=by
 cases h with
 | lst _ _ _ _ _ b' o' hn hc hnil ho hsz hex hrep=>
  obtain⟨e,hF⟩:=ho aad
  injection e with e
  injection e with e1 e2
  subst e1;subst e2
  have ea : ∀i j,o*sz+(i*sz+j)=0+((o+i)*sz+j):=fun i j=>by rw [aX];omega
  refine .lst sz _ _ k cc b (o*sz) (by rw [aU,bD];omega) hkc (fun h=>by cases h) (fun _=>⟨rfl,hF⟩) (fun row hr=>hsz row (fZ (dM hr))) (fun i j hi hj=> ?_) (fun i j row a v h1 h2 h3=> ?_)
  ·rw [ea];exact hex (o+i) j aad hj
  ·rw [ea]at h3
   rw [aW]at h1
   split at h1
   ·rw [bT]at h1
    exact hrep (o+i) j row a v h1 h2 h3
   ·cases h1
theorem JJ {n n':Nat}{σ σ':Nat->Loc}{F F':Nat->Prop}{w:World}{e o k sz:Nat}{l:List (List FV)}{v:Value}(h:qW n' σ' F' w (σ e) (.fz sz l))(r:jX n σ F w (.sub e o k) v):jX n' σ' F' w (.lst sz ((l.drop o).take k)) v:=by
 obtain⟨hsz,hn,hf,h0⟩:=h
 cases r with
 | sub _ _ _ oa c hl hk hc hnil ho=>
  refine .lst ?_
  rcases bH k with e0|e0
  ·subst e0
   rw [jB]
   exact .lst sz [] oa 0 c 0 0 rfl hc hnil (fun h=>absurd h (ig 0)) (fun _ h=>by cases h) (fun i j hi=>absurd hi (fO i)) (fun i j row a v hi=>by simp at hi)
  ·obtain⟨b,hb,rfl⟩:=ho e0
   rw [hsz]
   have eo:(σ e).oa=some ⟨b,0,none⟩:=by unfold Loc.oa;rw [hb];rfl
   rw [eo]at hf
   exact VT hf hk e0 hc
mutual
theorem Em (st:St G jL jO jQ n σ F H w)(hw:UZ nb n' θ=true)(hnb:nb<=n')(a' a:AV)(v:Value)(h:co H θ Z nb a' a)(r:jX n σ F w a v):jX n' (EU θ σ BZ) (FR σ H Z F) w a' v:=by
 have hF : ∀b,F b->FR σ H Z F b∧w.heap[b]? = w.heap[b]? :=fun b hb=>⟨.inl hb,rfl⟩
 match a' with
 | .top=>exact .top v
 | .v x'=>
  unfold co at h
  split at h
  ·subst h;rw [r.kR];exact .v _
  ·cases h
 | .lst sz l'=>
  unfold co at h
  split at h
  ·obtain⟨rfl,rfl⟩:=h
   cases r with|lst hf=>exact .lst (hf.mono hF)
  ·subst h;rw [r.kR];exact .lst (uM sz _)
  ·split at h
   ·rename_i e t sz' l hk
    obtain⟨hz,rfl,rfl⟩:=h
    have:=qO (F':=FR σ H Z F) (st.blk _ _ hk) (fun b hb=> .inl hb) fun g hg=> .inr ⟨_,_,_,_,hz,hk,hg⟩
    cases r with
    | oP _ oa hl hn hc=>
     have e:=this.2.1
     rw [hn]at e
     have:l = []:=aH e.symm
     subst this
     exact .lst (uM _ _)
    | own _ hl=>exact .lst this.2.2.1
   ·rename_i e sz' l hk
    obtain⟨rfl,rfl⟩:=h
    cases r with
    | oP _ oa hl hn hc=>
     have e:=(st.blk _ _ hk).2.1
     rw [hn]at e
     have:l = []:=aH e.symm
     subst this
     exact .lst (uM _ _)
    | own _ hl=>exact .lst ((st.blk _ _ hk).2.2.1.mono hF)
   ·cases h
  ·split at h
   ·rename_i e t sz' l hk
    obtain⟨hz,rfl,rfl⟩:=h
    have hb:=qO (F':=FR σ H Z F) (st.blk _ _ hk) (fun b hb=> .inl hb) fun g hg=> .inr ⟨_,_,_,_,hz,hk,hg⟩
    exact JJ hb r
   ·rename_i e sz' l hk
    obtain⟨rfl,rfl⟩:=h
    exact JJ (n:=n) (σ:=σ) ⟨(st.blk _ _ hk).1,(st.blk _ _ hk).2.1,(st.blk _ _ hk).2.2.1.mono hF,(st.blk _ _ hk).2.2.2⟩ r
   ·cases h
  ·cases h
 | .fp cs o=>
  unfold co at h
  split at h
  ·obtain⟨rfl,rfl⟩:=h
   cases r with|fp hf=>exact .fp (hf.mono hF)
  ·cases h
 | .fm M=>
  unfold co at h
  split at h
  ·subst h
   cases r with|fm hf=>exact .fm (hf.mono hF)
  ·split at h
   ·rename_i e M' hk
    subst h
    obtain⟨g,hg,hf⟩:=st.blk _ _ hk
    cases r with
    | mp _ b hl hb=>
     rw [hb]at hg
     injection hg with hg
     subst hg
     exact .fm (hf.mono hF)
   ·cases h
  ·cases h
 | .ptr k o=>
  unfold co at h
  split at h
  ·obtain⟨h1,rfl⟩:=h
   obtain⟨h2,h3⟩:=su (σ:=σ) (BZ:=BZ) hw hnb h1
   cases r with|ptr _ _ b hl hb=>exact .ptr k _ b h2 (by rw [h3];exact hb)
  ·cases h
 | .ep k i o=>
  unfold co at h
  split at h
  ·obtain⟨h1,rfl,rfl⟩:=h
   obtain⟨h2,h3⟩:=su (σ:=σ) (BZ:=BZ) hw hnb h1
   cases r with|ep _ _ _ b hl hb=>rw [<-h3];exact .ep k _ _ b h2 (by rw [h3];exact hb)
  ·cases h
 | .own k=>
  unfold co at h
  split at h
  ·obtain⟨h2,h3⟩:=su (σ:=σ) (BZ:=BZ) hw hnb h
   cases r with
   | oP _ oa hl hn hc=>exact .oP k oa h2 (by rw [h3];exact hn) (by rw [h3];exact hc)
   | own _ hl=>rw [<-h3];exact .own k h2
  ·split at h
   ·rename_i ht
    rw [r.kR]
    have:=jX.own (n:=n') (σ:=EU θ σ BZ) (F:=FR σ H Z F) (w:=w) k (I5 hw ht).2
    unfold EU at this ⊢
    rw [ht]at this
    exact this
   ·cases h
  ·cases h
 | .sub k o m=>
  unfold co at h
  split at h
  ·obtain⟨h1,rfl,rfl⟩:=h
   obtain⟨h2,h3⟩:=su (σ:=σ) (BZ:=BZ) hw hnb h1
   cases r with|sub _ _ _ oa c hl hk hc hnil ho=>exact .sub k _ _ oa c h2 (by rw [h3];exact hk) hc hnil (by rw [h3];exact ho)
  ·cases h
 | .full k m=>
  unfold co at h
  cases h
 | .mp k=>
  unfold co at h
  split at h
  ·obtain⟨h2,h3⟩:=su (σ:=σ) (BZ:=BZ) hw hnb h
   cases r with|mp _ b hl hb=>exact .mp k b h2 (by rw [h3];exact hb)
  ·cases h
 | .fn f xs ys=>
  unfold co at h
  split at h
  ·obtain⟨rfl,h1,h2⟩:=h
   cases r with
   | fn _ _ _ us vs hx hy rx ry=>
    have r1:=rH st hw hnb xs _ us h1 (.of hx rx)
    have r2:=rH st hw hnb ys _ vs h2 (.of hy ry)
    exact .fn _ xs ys us vs r1.len r2.len r1.at r2.at
  ·cases h
 | .agg cs=>
  unfold co at h
  split at h
  ·obtain⟨us,rfl,r2⟩:=kD.yQ r
   exact(rH st hw hnb cs _ us h r2).agg
  ·cases h
 | .kZ cs=>
  unfold co at h
  split at h
  ·cases r with
   | kZ _ us hx rx=>exact(rH st hw hnb cs _ us h (.of hx rx)).kZ
  ·cases h
theorem rH (st:St G jL jO jQ n σ F H w)(hw:UZ nb n' θ=true)(hnb:nb<=n')(l' l:List AV)(vs:List Value)(h:I4 H θ Z nb l' l)(r:kD n σ F w l vs):kD n' (EU θ σ BZ) (FR σ H Z F) w l' vs:=by
 match l' with
 | []=>
  unfold I4 at h
  split at h
  ·cases vs with
   | nil=>trivial
   | cons _ _=>exact r.elim
  ·cases h
 | a'::r'=>
  unfold I4 at h
  split at h
  ·cases vs with
   | nil=>exact r.elim
   | cons v vs=>exact⟨Em st hw hnb a' _ v h.1 r.1,rH st hw hnb r' _ vs h.2 r.2⟩
  ·cases h
end
theorem I7 {a k:Nat} : ∀ {All:jI} {k':Nat} {b:mD},clash θ k (some a) All=false->look All k'=some b->tH θ k'=some a->k'=k:=by
 intro All
 induction All with
 | nil=>intro k' b _ h;cases h
 | cons p r ih=>
  intro k' b hc h hs
  obtain⟨x,bx⟩:=p
  simp only [clash,Bool.or_eq_false_iff]at hc
  rw [jY]at h
  split at h
  ·rename_i e
   subst e
   rw [hs]at hc
   have:=hc.1
   simp only [fU,fF,dB,dO]at this
   exact(aj this).symm
  ·exact ih hc.2 h hs
theorem AP {All:jI} : ∀ {H':jI} {k:Nat} {b:mD},ZH nb n' θ Z All H'=true->look H' k=some b->k<n'∧(tr θ k=none->k<nb)∧(∀e,tH θ k=some e->qP Z e=false)∧clash θ k (tH θ k) All=false:=by
 intro H'
 induction H' with
 | nil=>intro k b _ h;cases h
 | cons p r ih=>
  intro k b hw h
  obtain⟨x,bx⟩:=p
  simp only [ZH,ah]at hw
  obtain⟨⟨⟨⟨w1,w2⟩,w3⟩,w4⟩,w5⟩:=hw
  rw [jY]at h
  split at h
  ·rename_i e
   subst e
   refine⟨ak w1,fun ht=>by rw [ht]at w2;exact ak w2,fun e he=>by rw [he]at w3;simpa using w3,by simpa using w4⟩
  ·exact ih w5 h
theorem xC : ∀ {H':jI} {k:Nat} {b':mD},MC H θ Z nb H'->look H' k=some b'->
  (∃e b,tH θ k=some e∧look H e=some b∧QX H θ Z nb b' b)∨(tr θ k=some .nil∧∃t sz,b' = .rows t sz []):=by
 intro H'
 induction H' with
 | nil=>intro k b _ h;cases h
 | cons p r ih=>
  intro k b' hc h
  obtain⟨x,bx⟩:=p
  rw [jY]at h
  split at h
  ·rename_i e
   subst e
   injection h with h
   subst h
   have hc:=hc.1
   unfold tH
   cases ht:tr θ x with
   | none=>
    rw [ht]at hc
    cases hl:look H x with
    | none=>simp only [hl]at hc
    | some b=>simp only [hl]at hc;exact .inl ⟨x,b,rfl,hl,hc⟩
   | some s=>
    rw [ht]at hc
    cases s with
    | lab e=>
     cases hl:look H e with
     | none=>simp only [hl]at hc
     | some b=>simp only [hl]at hc;exact .inl ⟨e,b,rfl,hl,hc⟩
    | nil=>
     cases bx<;>simp only at hc
     subst hc
     exact .inr ⟨rfl,_,_,rfl⟩
  ·exact ih hc.2 h
theorem En {b' b:mD}(h:QX H θ Z nb b' b):b'.own=b.own:=by
 unfold QX at h
 split at h
 ·split at h
  ·rfl
  ·cases h
 ·split at h
  ·rfl
  ·cases h
 ·split at h
  ·rfl
  ·cases h
 ·split at h
  ·rfl
  ·cases h
 ·split at h
  ·rfl
  ·cases h
 ·split at h
  ·rfl
  ·cases h
 ·split at h
  ·rfl
  ·cases h
 ·split at h
  ·rfl
  ·cases h
 ·split at h
  ·rfl
  ·cases h
 ·split at h
  ·rfl
  ·cases h
theorem Eo {w:World}{L:Loc}{g:Nat}{b' b:mD}(h:QX H θ Z nb b' b)(ho:oW w L b' g):oW w L b g:=by
 cases hf:b'.flat with
 | true=>exact .inl (ho.flat hf)
 | false=>
  cases b' with
  | tree t sz l hh=>
   cases hh with
   | some p=>
    obtain⟨i,j,k⟩:=p
    unfold QX at h
    cases b with
    | tree t' sz' l' h'=>
     cases h' with
     | some q=>obtain⟨_,rfl,rfl,_⟩:=h;exact ho
     | none=>exact h.elim
    | _=>exact h.elim
   | none=>
    unfold QX at h
    cases b with
    | tree t' sz' l' h'=>
     cases h' with
     | none=>obtain⟨_,rfl,rfl⟩:=h;exact ho
     | some _=>exact h.elim
    | _=>exact h.elim
  | _=>cases hf
theorem zA {k e:Nat}(h:tH θ k=some e):EU θ σ BZ k=σ e:=by
 unfold tH at h
 unfold EU
 split at h
 ·injection h with h;rename_i ht;rw [h]
 ·cases h
 ·injection h with h;rename_i ht;rw [h]
theorem Ep (st:St G jL jO jQ n σ F H w)(hw:Ls nb n' θ Z H'=true)(hc:MC H θ Z nb H'):St G jL jO jQ n' (EU θ σ (Gl H')) (FR σ H Z F) H' w:=by
 simp only [Ls,ah]at hw
 obtain⟨⟨hnb,hT⟩,hH⟩:=hw
 have hnb:=ak hnb
 have hF : ∀b,F b->FR σ H Z F b∧w.heap[b]? = w.heap[b]? :=fun b hb=>⟨.inl hb,rfl⟩
 refine⟨st.glob,st.nN,fun b hb=> ?_,fun k b h=>(AP hH h).1,fun k b g h hm hg=> ?_,fun k k' b b' g h h' hm hm' hg hg'=> ?_,fun k b h=> ?_⟩
 ·rcases hb with hb|⟨e,t,sz,l,_,hk,hb⟩
  ·exact st.lI b hb
  ·obtain⟨_,_,h3,h4⟩:=st.mu e _ b hk rfl (.inl hb)
   exact⟨h3,h4.elim (fun h=> .inr (.inr h)) fun h=> .inr (.inl h)⟩
 ·rcases xC hc h with ⟨e,b0,hs,hk,hb⟩|⟨ht,_⟩
  ·rw [zA hs]at hg
   rw [En hb]at hm
   have hg:=Eo hb hg
   obtain⟨h1,h2,h3,h4⟩:=st.mu e b0 g hk hm hg
   refine⟨fun hf=> ?_,h2,h3,h4⟩
   rcases hf with hf|⟨e',t,sz,l,hz,hk',hg'⟩
   ·exact h1 hf
   ·have:=st.inj e e' b0 _ g hk hk' hm rfl hg (.inl hg')
    subst this
    rw [(AP hH h).2.2.1 e hs]at hz;cases hz
  ·have hg:=hg.flat (by rename_i x;obtain⟨_,_,rfl⟩:=x;rfl)
   unfold EU at hg;rw [ht]at hg;cases hg
 ·have hs : ∃e b0,tH θ k=some e∧look H e=some b0∧b0.own=true∧oW w (σ e) b0 g:=by
   rcases xC hc h with ⟨e,b0,hs,hk,hb⟩|⟨ht,_,_,rfl⟩
   ·exact⟨e,b0,hs,hk,by rw [<-En hb];exact hm,by rw [zA hs]at hg;exact Eo hb hg⟩
   ·have hg:=hg.flat rfl
    unfold EU at hg;rw [ht]at hg;cases hg
  have hs' : ∃e b0,tH θ k'=some e∧look H e=some b0∧b0.own=true∧oW w (σ e) b0 g:=by
   rcases xC hc h' with ⟨e,b0,hs,hk,hb⟩|⟨ht,_,_,rfl⟩
   ·exact⟨e,b0,hs,hk,by rw [<-En hb];exact hm',by rw [zA hs]at hg';exact Eo hb hg'⟩
   ·have hg':=hg'.flat rfl
    unfold EU at hg';rw [ht]at hg';cases hg'
  obtain⟨e,b0,s1,k1,o1,g1⟩:=hs
  obtain⟨e',b0',s2,k2,o2,g2⟩:=hs'
  have:=st.inj e e' b0 b0' g k1 k2 o1 o2 g1 g2
  subst this
  have hcl:=(AP hH h).2.2.2
  rw [s1]at hcl
  exact(I7 hcl h' s2).symm
 ·rcases xC hc h with ⟨e,b0,hs,hk,hb⟩|⟨ht,t,sz,rfl⟩
  ·rw [zA hs]
   have hB:=st.blk e b0 hk
   unfold QX at hb
   split at hb
   ·split at hb
    ·obtain⟨rfl,hb⟩:=hb
     obtain⟨g,vs,h1,h2,h3,h4⟩:=hB
     exact⟨g,vs,h1,h2,rH st hT hnb _ _ vs hb h3,h4⟩
    ·exact hb.elim
   ·split at hb
    ·obtain⟨rfl,rfl,rfl⟩:=hb
     obtain⟨h1,h2,xs,h3,h4⟩:=hB
     exact⟨h1,h2,xs,h3,h4.mono hF⟩
    ·exact hb.elim
   ·split at hb
    ·obtain⟨rfl,rfl⟩:=hb
     exact⟨hB.1,hB.2.1,hB.2.2.1.mono hF,hB.2.2.2⟩
    ·exact hb.elim
   ·split at hb
    ·subst hb
     exact hB
    ·exact hb.elim
   ·split at hb
    ·subst hb
     obtain⟨g,h1,h2⟩:=hB
     exact⟨g,h1,h2.mono hF⟩
    ·exact hb.elim
   ·split at hb
    ·subst hb
     obtain⟨g,h1,h2⟩:=hB
     exact⟨g,h1,h2.mono hF rfl⟩
    ·exact hb.elim
   ·split at hb
    ·subst hb
     obtain⟨g,h1,h2⟩:=hB
     exact⟨g,h1,h2.mono hF rfl⟩
    ·exact hb.elim
   ·split at hb
    ·obtain⟨rfl,rfl⟩:=hb
     exact hB
    ·exact hb.elim
   ·split at hb
    ·obtain⟨rfl,rfl,rfl⟩:=hb
     obtain⟨h1,h2,xs,h3,h4,h5,_⟩:=hB
     exact⟨h1,h2,xs,h3,h4.mono hF,h5,fun _ _ _ h=>by cases h⟩
    ·exact hb.elim
   ·split at hb
    ·obtain⟨rfl,rfl,rfl,rfl,rfl,hs⟩:=hb
     obtain⟨h1,h2,xs,h3,h4,h5,h6⟩:=hB
     refine⟨h1,h2,xs,h3,h4.mono hF,h5,fun i j e h=> ?_⟩
     injection h with h
     injection h with Yg h
     injection h with VH Yh
     subst Yg;subst VH;subst Yh
     obtain⟨a1,a2,a3,a4,v,a5,a6⟩:=h6 _ _ _ rfl
     exact⟨(su (σ:=σ) (BZ:=Gl H') hT hnb hs).1,a2,a3,a4,v,a5,Em st hT hnb (.own _) (.own _) v hs a6⟩
    ·exact hb.elim
  ·have e:EU θ σ (Gl H') k=⟨none,0,0,sz⟩:=by
    unfold EU Gl
    rw [ht,h]
   rw [e]
   exact⟨rfl,rfl,[],Own.nil _ _ _ _,mY.nil sz⟩
end
def yY (l:List (Nat×AV))(n:Nat):Option AV:=
 match l with
 | []=>none
 | p::r=>bif Nat.beq n p.1 then some p.2 else yY r n
def Lu (sl:List (Nat×AV))(ws:List (Nat×Nat))(ρ:jM):jM:=fun n=>
 match yY sl n with
 | some v=>v
 | none=>bif uV ws n then .top else ρ n
def XO (H:jI)(θ:List (Nat×Src))(Z:List Nat)(nb:Nat)(sl:List (Nat×AV))(ρ:jM):Prop:=
 match sl with
 | []=>True
 | p::r=>co H θ Z nb p.2 (ρ p.1)∧XO H θ Z nb r ρ
theorem Oc {H:jI}{θ:List (Nat×Src)}{Z:List Nat}{nb:Nat}{ρ:jM} : ∀ {sl:List (Nat×AV)} {s:Nat} {a:AV},XO H θ Z nb sl ρ->yY sl s=some a->co H θ Z nb a (ρ s):=by
 intro sl
 induction sl with
 | nil=>intro s a _ h;cases h
 | cons p r ih=>
  intro s a hc h
  simp only [yY]at h
  cases hb:Nat.beq s p.1 with
  | true=>rw [hb,cond_true]at h;injection h with h;rw [aj hb, <-h];exact hc.1
  | false=>rw [hb,cond_false]at h;exact ih hc.2 h
theorem Es {G:Glob}{ws:List (Nat×Nat)}{nb n n':Nat}{ρ ρe:jM}{H H':jI}{sl:List (Nat×AV)}(θ:List (Nat×Src))(Z:List Nat)(hw:Ls nb n' θ Z H'=true)(hH:MC H θ Z nb H')(hs:XO H θ Z nb sl ρ) :
  ET G (uV ws) nb ρ n H (Lu sl ws ρe) n' H':=by
 intro jL jO jQ σ F w VL st hr
 have hw':=hw
 simp only [Ls,ah]at hw'
 obtain⟨⟨hnb,hT⟩,_⟩:=hw'
 refine⟨_,_,Ep st hw hH,fun s hss=> ?_,fun l hl=>Oa hT hl,fun b hb=> .inl hb⟩
 unfold Lu
 cases hl:yY sl s with
 | some a=>exact Em st hT (ak hnb) a _ _ (Oc hs hl) (hr s hss)
 | none=>simp only [hss,cond_true];exact .top _
def LI {X:Type}(ws:List (Nat×Nat))(sl:X->List (Nat×AV))(hp:X->jI)(J:X->Prop)(μ:X->Nat)(ρ:jM)(m:Nat)(ρ':jM)(H':jI):Prop:= ∃x,μ x=m∧J x∧ρ'=Lu (sl x) ws ρ∧H'=hp x
theorem LC {s:Nat} : ∀ {l:List (Nat×AV)} {a:AV},yY l s=some a->s∈l.map (·.1):=by
 intro l
 induction l with
 | nil=>intro a h;cases h
 | cons p r ih=>
  intro a h
  simp only [yY]at h
  cases hb:Nat.beq s p.1 with
  | true=>simp [aj hb]
  | false=>rw [hb,cond_false]at h;simp [ih h]
theorem qm {G:Glob}{X:Type}{body:Code}{B:(Ex->jM->Nat->jI->Prop)->jM->Nat->jI->Prop}{Q:Ex->jM->Nat->jI->Prop}{ρ:jM}{n:Nat}{H:jI}
  (ws:List (Nat×Nat)) (nl:Nat) (ks:List Nat) (sl:X->List (Nat×AV)) (hp:X->jI) (J:X->Prop) (μ:X->Nat) (θ:List (Nat×Src)) (Z:List Nat) (wJ:X)
  (hw:(writesIn (uV ws) body&&Nat.ble n nl&&ks.all (uV ws))=true) (hsl : ∀x,(sl x).map (·.1)=ks) (hwf:Ls n nl θ Z (hp wJ)=true) (hJ:J wJ) (hH:MC H θ Z n (hp wJ)) (hs:XO H θ Z n (sl wJ) ρ)
  (hr : ∀x,J x->B (Ef (fun lZ n'' oN=>AA (∃m',m'<μ x∧∃mP oq,LI ws sl hp J μ ρ m' mP oq∧ET G (uV ws) n lZ n'' oN mP nl oq)) Q) (Lu (sl x) ws ρ) nl (hp x)) :
  Gf G body B Q ρ n H:=by
 simp only [ah]at hw
 refine⟨.inr ⟨uV ws,LI ws sl hp J μ ρ,nl,hw.1.1,ak hw.1.2, ?_,⟨μ wJ,_,_,⟨wJ,rfl,hJ,rfl,rfl⟩,Es θ Z hwf hH hs⟩, ?_⟩⟩
 ·rintro m ρ' H' ⟨x,rfl,hJx,rfl,rfl⟩ s h
  unfold Lu
  cases hl:yY (sl x) s with
  | none=>simp only [h,cond_false]
  | some a=>
   have h1:=LC hl
   rw [hsl x]at h1
   have:=bf.1 hw.2 s h1
   rw [h]at this
   cases this
 ·rintro m ρ' H' ⟨x,rfl,hJx,rfl,rfl⟩
  exact hr x hJx
theorem mW {G:Glob}{body:Code}{B:(Ex->jM->Nat->jI->Prop)->jM->Nat->jI->Prop}{Q:Ex->jM->Nat->jI->Prop}{ρ:jM}{n:Nat}{H:jI}(k:Nat)(h:N7 B Q k ρ n H):Gf G body B Q ρ n H:=⟨.inl ⟨k,h⟩⟩
theorem oI {G:Glob}{X:Type}{ws:List (Nat×Nat)}{sl:X->List (Nat×AV)}{hp:X->jI}{J:X->Prop}{μ:X->Nat}{ρ lZ:jM}{nb nl n'' m:Nat}{oN:jI}
  (x':X) (θ:List (Nat×Src)) (Z:List Nat) (hwf:Ls nb nl θ Z (hp x')=true) (hlt:μ x'<m) (hJ:J x') (hH:MC oN θ Z nb (hp x')) (hs:XO oN θ Z nb (sl x') lZ) :
  AA (∃m',m'<m∧∃mP oq,LI ws sl hp J μ ρ m' mP oq∧ET G (uV ws) nb lZ n'' oN mP nl oq):=
 ⟨μ x',hlt,_,_,⟨x',rfl,hJ,rfl,rfl⟩,Es θ Z hwf hH hs⟩
theorem sD {G:Glob}{nb n:Nat}{R:AV->Nat->jI->Prop}{a:AV}{H:jI}(a':AV)(n':Nat)(H':jI)(θ:List (Nat×Src))(Z:List Nat)(hR:R a' n' H')(hwf:Ls nb n' θ Z H'=true)(hH:MC H θ Z nb H')(hc:co H θ Z nb a' a) :
  BU G nb R a n H:=by
 have hw':=hwf
 simp only [Ls,ah]at hw'
 obtain⟨⟨hnb,hT⟩,_⟩:=hw'
 have hnb:=ak hnb
 exact⟨a',n',H',hR,hnb,fun jL jO jQ σ F w v st r=>⟨_,_,Ep st hwf hH,Em st hT hnb a' a v hc r,fun l hl=>Oa hT hl,fun b hb=> .inl hb⟩⟩
def Is (r:AV)(a:AV)(n:Nat)(H:jI):Prop:=a=r∧n=0∧H = []
theorem jW {G:Glob}{n:Nat}{r a:AV}{H:jI}(Z:List Nat)(hc:co H [] Z 0 r a):BU G 0 (Is r) a n H:=sD r 0 [] [] Z ⟨rfl,rfl,rfl⟩ rfl trivial hc
mutual
def flat:AV->Bool
 | .v _=>true
 | .top=>true
 | .agg cs=>Gm cs
 | .kZ cs=>Gm cs
 | _=>false
def Gm:List AV->Bool
 | []=>true
 | a::r=>flat a&&Gm r
end
mutual
theorem xE {n n':Nat}{σ σ':Nat->Loc}{F F':Nat->Prop}{w w':World}(a:AV)(v:Value)(h:flat a=true)(r:jX n σ F w a v):jX n' σ' F' w' a v:=by
 match a with
 | .v x=>rw [r.kR];exact .v _
 | .top=>exact .top v
 | .agg cs=>
  obtain⟨us,rfl,r2⟩:=kD.yQ r
  exact(yE cs us h r2).agg
 | .kZ cs=>
  cases r with
  | kZ _ us hx rx=>exact(yE cs us h (.of hx rx)).kZ
 | .lst _ _=>cases h
 | .fp _ _=>cases h
 | .ptr _ _=>cases h
 | .ep _ _ _=>cases h
 | .own _=>cases h
 | .sub _ _ _=>cases h
 | .full _ _=>cases h
 | .mp _=>cases h
 | .fn _ _ _=>cases h
theorem yE {n n':Nat}{σ σ':Nat->Loc}{F F':Nat->Prop}{w w':World}(l:List AV)(vs:List Value)(h:Gm l=true)(r:kD n σ F w l vs):kD n' σ' F' w' l vs:=by
 match l with
 | []=>cases vs with
  | nil=>trivial
  | cons _ _=>exact r.elim
 | a::l=>
  cases vs with
  | nil=>exact r.elim
  | cons v vs=>
   simp only [Gm,ah]at h
   exact⟨xE a v h.1 r.1,yE l vs h.2 r.2⟩
end
theorem kQ.mono {P:Program}{G:Glob}{f:FuncId}{args:List AV}{n:Nat}{H:jI}{R R':AV->Nat->jI->Prop}(h:kQ P G f args n H R)(k : ∀a n H,R a n H->R' a n H):kQ P G f args n H R':=
 fun w σ F vs st r=>(h w σ F vs st r).mono fun v w' ⟨a,n',σ',F',H',hR,rest⟩=>⟨a,n',σ',F',H',k _ _ _ hR,rest⟩
def EW (Z:List Nat)(H:jI):jI:=
 match H with
 | []=> []
 | (k, .rows t sz l)::r=>bif qP Z k then(k, .fz sz l)::EW Z r else(k, .rows t sz l)::EW Z r
 | p::r=>p::EW Z r
def fN (n:Nat)(k:Nat->Prop):Prop:=
 match n with
 | 0=>k 0
 | m+1=>k (m+1)
def fB (b:mD)(k:mD->Prop):Prop:=
 match b with
 | .var t cs=>k (.var t cs)
 | .rows t sz l=>k (.rows t sz l)
 | .fz sz l=>k (.fz sz l)
 | .map M=>k (.map M)
 | .KU M=>k (.KU M)
 | .vS M=>k (.vS M)
 | .smap M=>k (.smap M)
 | .XM s p=>k (.XM s p)
 | .tree t sz l h=>k (.tree t sz l h)
def fH (H:jI)(k:jI->Prop):Prop:=
 match H with
 | []=>k []
 | (l,b)::r=>fN l fun l'=>fB b fun b'=>fH r fun r'=>k ((l',b')::r')
theorem U0 (n:Nat)(k:Nat->Prop):fN n k=k n:=by cases n<;>rfl
theorem Ym (b:mD)(k:mD->Prop):fB b k=k b:=by cases b<;>rfl
theorem Yn (H:jI) : ∀k:jI->Prop,fH H k=k H:=by
 induction H with
 | nil=>intro k;rfl
 | cons p r ih=>intro k;obtain⟨l,b⟩:=p;simp only [fH,U0,Ym,ih]
def XP (n:Nat)(H:jI)(k:Nat->jI->Prop):Prop:=fN n fun n'=>fH H fun H'=>k n' H'
theorem VU (n:Nat)(H:jI)(k:Nat->jI->Prop):XP n H k=k n H:=by simp only [XP,U0,Yn]
section
variable {P:Program}{G:Glob}{jL:World}{jO jQ:Nat->Prop}{n:Nat}{σ:Nat->Loc}{F:Nat->Prop}{H:jI}{w:World}
theorem kU {f:FuncId}{args args':List AV}{r:AV}{K:AV->Nat->jI->Prop}(Z:List Nat)(hc:callable P f=true)(h:kQ P G f args' 0 [] (Is r))(hf:flat r=true)(ha:I4 H [] Z 0 args' args)(k:K r n H):tY P G f args n H K:=by
 refine⟨hc,fun w σ F vs st hr=> ?_⟩
 have s1:=Ep (H':= []) (θ:= []) (Z:=Z) (nb:=0) (n':=0) st rfl trivial
 have r1:=rH (n':=0) (BZ:=Gl []) st rfl (ay 0) args' args vs ha hr
 refine(h w _ _ vs s1.start r1).mono fun v w' ⟨a,n',σ',F',H',⟨ea,en,eH⟩,s,x,ra⟩=> ?_
 subst ea;subst en;subst eH
 have hM : ∀b, ¬qX w (EU [] σ (Gl [])) [] b:=fun b ⟨k,c,e,_⟩=>by cases e
 have hE:Ext n σ F w n σ F w':=⟨ay _,fun _ _=>rfl,fun b hb=>⟨hb,s.nN.block b (st.lI b hb).1 (hM b)⟩,x.sz⟩
 have bk : ∀ {jT b g},look H jT=some b->b.own=true->oW w' (σ jT) b g->oW w (σ jT) b g:=fun h hm hg=>hg.back fun k hk=>s.nN.block k (st.mu _ _ k h hm (.inl hk)).2.2.1 (hM k)
 refine⟨a,n,σ,F,H,k, ?_,hE,xE a v hf ra⟩
 exact⟨s.glob,⟨s.nN.os,s.nN.tape,s.nN.output,x.sz,fun b hb _=>s.nN.block b hb (hM b)⟩,fun b hb=>⟨aN (st.lI b hb).1 x.sz, .inl hb⟩,st.lab,
  fun jT b g hk hm hg=>by
   have hg:=bk hk hm hg
   obtain⟨h1,h2,h3,h4⟩:=st.mu jT b g hk hm hg
   exact⟨h1,h2,aN h3 x.sz, .inl ⟨jT,b,hk,hm,hg⟩⟩,fun e e' b b' g h h' m m' g1 g2=>st.inj e e' b b' g h h' m m' (bk h m g1) (bk h' m' g2),
  fun jT b hk=>(st.blk jT b hk).mono hE fun hm g hg=>s.nN.block g (st.mu jT b g hk hm hg).2.2.1 (hM g)⟩
end
theorem aai (a b:ByteArray):qU a b=true↔a=b:=by
 unfold qU
 rw [<-MapKept.bytes_beq a b]
 have:(a==b)=(a.toList==b.toList):=by
  rw [Go.ByteArray.toList_eq,Go.ByteArray.toList_eq]
  obtain⟨⟨x⟩⟩:=a
  obtain⟨⟨y⟩⟩:=b
  show ((⟨x⟩:Array UInt8)==⟨y⟩)=(x==y)
  simp
 rw [this]
theorem Yo (a b:ByteArray):qU a b=decide (a=b):=by
 rw [jr,aai];simp
theorem Oe {n:Nat}{σ:Nat->Loc}{F:Nat->Prop}{w:World} : ∀ {l vs:List Value},kD n σ F w (l.map .v) vs->vs=l:=by
 intro l
 induction l with
 | nil=>intro vs r;cases vs with
  | nil=>rfl
  | cons _ _=>exact r.elim
 | cons x l ih=>intro vs r;cases vs with
  | nil=>exact r.elim
  | cons v vs=>rw [r.1.kR,ih r.2]
theorem ln:(∀ {α β:Type} (f:α->β) (l:List α),(l.map f).length=l.length)∧(∀ {α:Type} (a b:List α),(a++b).length=a.length+b.length)∧(∀ {α:Type} (x:α) (l:List α),(x::l).length=l.length+1)∧(∀ {α:Type},([]:List α).length=0)∧(∀ {α:Type} (n:Nat) (l:List α),(l.take n).length=min n l.length)∧(∀ {α:Type} (n:Nat) (l:List α),(l.drop n).length=l.length-n)∧(∀ {α:Type} (l:List α) (i:Nat) (x:α),(l.set i x).length=l.length)∧(∀ {α:Type} (n:Nat) (x:α),(List.replicate n x).length=n):=
 ⟨fun _ _=>au _,fun _ _=>aG,fun _ _=>aZ,dw,fun _ _=>aU,fun _ _=>bD,fun _ _ _=>bC,fun _ _=>bF⟩
theorem bl:(∀a b:ByteArray,qU a b=decide (a=b))∧(∀ {α:Type} (a b:α),(bif true then a else b)=a)∧(∀ {α:Type} (a b:α),(bif false then a else b)=b)∧(∀b:Bool,((!b)=true)=(b=false))∧(∀b:Bool,((!b)=false)=(b=true))∧(∀(p:Prop) [Decidable p],(decide p=true)=p)∧(∀(p:Prop) [Decidable p],(decide p=false) = ¬p)∧(∀a b:Int,((a==b)=true)=(a=b))∧(∀a b:Int,((a != b)=true) = ¬(a=b))∧(∀a b:Int,((a==b)=false) = ¬(a=b))∧(∀a b:Int,((a != b)=false)=(a=b))∧(∀a b:Bool,((a==b)=true)=(a=b))∧(∀a b:Bool,((a != b)=true) = ¬(a=b))∧(∀a b:Bool,((a==b)=false) = ¬(a=b))∧(∀a b:Bool,((a != b)=false)=(a=b))∧((!true)=false)∧((!false)=true)∧((false=true)=False)∧((true=false)=False)∧(∀(p:Prop),(¬¬p)=p)∧(∀a b:Int,(a>b)=(b<a))∧(∀a b:Int,(a≥b)=(b<=a))∧(∀a b:Int,(¬a<b)=(b<=a))∧(∀a b:Int,(¬a<=b)=(b<a)):=
 ⟨Yo,by simp⟩
section
variable {P:Program}{G:Glob}
theorem AU {f:FuncId}{l:List Value}{x:Value}(h : ∀w,G.holds w->uD P f l.toArray w fun v w'=>v=x∧Below w.heap.size w w'):kQ P G f (l.map .v) 0 [] (Is (.v x)):=by
 intro w σ F vs st r
 rw [Oe r]
 refine(h w st.glob).mono fun v w' ⟨e,hB⟩=> ?_
 subst e
 have hE:Ext 0 σ F w 0 σ F w':=⟨ay _,fun _ _=>rfl,fun b hb=>⟨hb,hB.block b (st.lI b hb).1⟩,hB.size⟩
 exact⟨_,0,σ,F,[],⟨rfl,rfl,rfl⟩,⟨Glob.nN st.glob hB.size fun b hb=>hB.block b (aN hb st.glob.1),(uH.nY hB).mono fun _ _ h=>h.elim,fun b hb=>⟨aN (st.lI b hb).1 hB.size, .inl hb⟩,
  (fun jT b h=>by cases h),(fun jT b g h=>by cases h),(fun jT uY b b' g h=>by cases h),(fun jT b h=>by cases h)⟩,hE, .v _⟩
theorem og {l nV:Nat}(h:l<=4194304)(h2:Nat.ble (4194304*nV) 140737488355328=true):l*nV<=140737488355328∧l<=maxLen:=
 ⟨bZ (aP _ h) (ak h2),by unfold maxLen;omega⟩
theorem kP.in {k:IntKind}{x:Int}{K:Int->Prop}(h:k.wrap x=x)(c:K x):kP k x K:=⟨by rw [h];exact c⟩
theorem kP.i64 {x:Int}{K:Int->Prop}(h : -9223372036854775808<=x∧x<=9223372036854775807)(c:K x):kP .i64 x K:= .in (IntWalk.i64_in _ h) c
theorem nG.mk' {x:Int}{n:Nat}{K:Nat->Prop}(i:Nat)(e:x=i)(h:i<n)(c:K i):nG x n K:=⟨i,e,h,c⟩
theorem pO.mk' {x y:Int}{n:Nat}{K:Nat->Nat->Prop}(i j:Nat)(e1:x=i)(e2:y=j)(h1:i<=j)(h2:j<=n)(c:K i j):pO x y n K:=⟨i,j,e1,e2,h1,h2,c⟩
theorem nH.map {α:Type}{enc:α->List FV}{xs:List α}{i:Nat}{K:List FV->Prop}(h:i<xs.length)(c:K (enc xs[i])):nH (xs.map enc) i K:=⟨_,by rw [aI,aB h];rfl,c⟩
theorem nH.at {l:List (List FV)}{i:Nat}{row:List FV}{K:List FV->Prop}(h:l[i]? = some row)(c:K row):nH l i K:=⟨row,h,c⟩
theorem nH.pJ {α:Type}{enc:α->List FV}{xs:List α}{i:Nat}{a:α}{K:List FV->Prop}(h:xs[i]? = some a)(c:K (enc a)):nH (xs.map enc) i K:=⟨_,by rw [aI,h];rfl,c⟩
theorem nH.set {l:List (List FV)}{i:Nat}{row:List FV}{K:List FV->Prop}(h:i<l.length)(c:K row):nH (l.set i row) i K:=⟨row,bV h,c⟩
theorem pW.mk' {x y:Int}{nV:Nat}{K:Nat->Prop}(n:Nat)(e1:x=n)(e2:y=n)(h:nV*n<=140737488355328∧n<=maxLen)(c:K n):pW x y nV K:=⟨n,n,e1,e2,ay _,h.1,h.2,c⟩
theorem pW.cap {x y:Int}{nV:Nat}{K:Nat->Prop}(n m:Nat)(e1:x=n)(e2:y=m)(hnm:n<=m)(h:nV*m<=140737488355328∧m<=maxLen)(c:K n):pW x y nV K:=⟨n,m,e1,e2,hnm,h.1,h.2,c⟩
theorem kN {id:Nat}{ops:Array Oper}{K:jM->Nat->jI->Prop}{ρ:jM}{n:Nat}{H:jI}(pl:Nat->Plan)(D:List Nat)(hp:rG ops (pl id)=true)(h:aD P G ops.toList D (pl id) ρ n H K):vG P G id ops K ρ n H:=⟨.inl ⟨pl id,D,hp,h⟩⟩
theorem yF {X:Type}{body:Code}{B:(Ex->jM->Nat->jI->Prop)->jM->Nat->jI->Prop}{Q:Ex->jM->Nat->jI->Prop}{ρ:jM}{n:Nat}{H:jI}
  (ws:List (Nat×Nat)) (ks:List Nat) (sl:X->List (Nat×AV)) (J:X->Prop) (μ:X->Nat) (wJ:X)
  (hw:(writesIn (uV ws) body&&Nat.ble n n&&ks.all (uV ws))=true) (hsl : ∀x,(sl x).map (·.1)=ks) (hwf:Ls n n [] [] H=true) (hJ:J wJ) (hH:MC H [] [] n H) (hs:XO H [] [] n (sl wJ) ρ)
  (hr : ∀x,J x->B (Ef (fun lZ n'' oN=>AA (∃m',m'<μ x∧∃mP oq,LI ws sl (fun _=>H) J μ ρ m' mP oq∧ET G (uV ws) n lZ n'' oN mP n oq)) Q) (Lu (sl x) ws ρ) n H) :
  Gf G body B Q ρ n H:=qm ws n ks sl (fun _=>H) J μ [] [] wJ hw hsl hwf hJ hH hs hr
end
mutual
def Og (n:Nat):AV->AV
 | .ptr e o=> .ptr (n+e) o
 | .ep e i o=> .ep (n+e) i o
 | .own e=> .own (n+e)
 | .sub e o k=> .sub (n+e) o k
 | .full e k=> .full (n+e) k
 | .mp e=> .mp (n+e)
 | .fn f xs ys=> .fn f (QY n xs) (QY n ys)
 | .agg cs=> .agg (QY n cs)
 | .kZ cs=> .kZ (QY n cs)
 | .top=> .top
 | .v x=> .v x
 | .lst sz l=> .lst sz l
 | .fp cs o=> .fp cs o
 | .fm M=> .fm M
def QY (n:Nat):List AV->List AV
 | []=> []
 | a::r=>Og n a::QY n r
end
def Yp (n:Nat):mD->mD
 | .var t cs=> .var t (QY n cs)
 | .tree t sz l (some (i,j,e))=> .tree t sz l (some (i,j,n+e))
 | b=>b
def QZ (n:Nat):jI->jI
 | []=> []
 | p::r=>(n+p.1,Yp n p.2)::QZ n r
theorem Et (n:Nat) : ∀l:List AV,QY n l=l.map (Og n):=by
 intro l
 induction l with
 | nil=>rfl
 | cons a r ih=>simp [QY,ih]
theorem Q7 (n:Nat)(b:mD):(Yp n b).own=b.own:=by
 cases b with
 | tree t sz l h=>cases h<;>rfl
 | _=>rfl
theorem Q8 {n:Nat}{b:mD}{w:World}{L:Loc}{g:Nat}(h:oW w L (Yp n b) g):oW w L b g:=by
 cases b with
 | tree t sz l o=>cases o<;>exact h
 | _=>exact h
section
variable {n m:Nat}{σ σ':Nat->Loc}{F:Nat->Prop}{w:World}
theorem I8 (hs : ∀k,k<m->σ' (n+k)=σ k){a:AV}{v:Value}(r:jX m σ F w a v):jX (n+m) σ' F w (Og n a) v:=by
 induction r with
 | top x=>exact .top x
 | v x=>exact .v x
 | lst h=>exact .lst h
 | fp h=>exact .fp h
 | fm h=>exact .fm h
 | ptr l o b hl hb=>exact .ptr _ o b aad abq
 | ep l i o b hl hb=>rw [<-hs l hl];exact .ep _ i o b aad abq
 | own l hl=>rw [<-hs l hl];exact .own _ aad
 | oP l oa hl hn hc=>exact .oP _ oa aad (by rw [hs l hl];exact hn) (by rw [hs l hl];exact hc)
 | sub l o k oa c hl hk hc hnil ho=>exact .sub _ o k oa c aad (by rw [hs l hl];exact hk) hc hnil (by rw [hs l hl];exact ho)
 | full l k oa hl hk ho=>exact .full _ k oa aad (by rw [hs l hl];exact hk) (by rw [hs l hl];exact ho)
 | mp l b hl hb=>exact .mp _ b aad abq
 | fn f xs ys us vs hx hy _ _ ih1 ih2=>
  simp only [Og,Et]
  refine .fn f _ _ us vs abr (by simp [hy]) (fun j a v h1 h2=> ?_) (fun j a v h1 h2=> ?_)
  ·rw [aI]at h1
   cases hx:xs[j]? with
   | none=>rw [hx]at h1;cases h1
   | some x=>rw [hx]at h1;injection h1 with h1;rw [<-h1];exact ih1 j x v hx h2
  ·rw [aI]at h1
   cases hy:ys[j]? with
   | none=>rw [hy]at h1;cases h1
   | some y=>rw [hy]at h1;injection h1 with h1;rw [<-h1];exact ih2 j y v hy h2
 | agg xs us hx _ ih=>
  simp only [Og,Et]
  refine .agg _ us abr (fun j a v h1 h2=> ?_)
  rw [aI]at h1
  cases hx:xs[j]? with
  | none=>rw [hx]at h1;cases h1
  | some x=>rw [hx]at h1;injection h1 with h1;rw [<-h1];exact ih j x v hx h2
 | kZ xs us hx _ ih=>
  simp only [Og,Et]
  refine .kZ _ us abr (fun j a v h1 h2=> ?_)
  rw [aI]at h1
  cases hx:xs[j]? with
  | none=>rw [hx]at h1;cases h1
  | some x=>rw [hx]at h1;injection h1 with h1;rw [<-h1];exact ih j x v hx h2
theorem Q9 (hs : ∀k,k<m->σ' (n+k)=σ k){l:List AV}{vs:List Value}(r:kD m σ F w l vs):kD (n+m) σ' F w (QY n l) vs:=by
 rw [Et]
 refine .of (by simp [r.len]) fun j a v h1 h2=> ?_
 rw [aI]at h1
 cases hx:l[j]? with
 | none=>rw [hx]at h1;cases h1
 | some x=>rw [hx]at h1;injection h1 with h1;rw [<-h1];exact I8 hs (r.at j x v hx h2)
theorem Rf (hs : ∀k,k<m->σ' (n+k)=σ k){L:Loc}{b:mD}(r:qW m σ F w L b):qW (n+m) σ' F w L (Yp n b):=by
 cases b with
 | var t cs=>obtain⟨g,vs,h1,h2,h3,h4⟩:=r;exact⟨g,vs,h1,h2,Q9 hs h3,h4⟩
 | tree t sz l h=>
  cases h with
  | none=>obtain⟨h1,h2,xs,h3,h4,h5,_⟩:=r;exact⟨h1,h2,xs,h3,h4,h5,fun _ _ _ h=>by cases h⟩
  | some p=>
   obtain⟨i,j,e⟩:=p
   obtain⟨h1,h2,xs,h3,h4,h5,h6⟩:=r
   refine⟨h1,h2,xs,h3,h4,h5,fun i' j' e' h=> ?_⟩
   injection h with h
   injection h with e1 h
   injection h with e2 e3
   subst e1;subst e2;subst e3
   obtain⟨a1,a2,a3,a4,v,a5,a6⟩:=h6 _ _ _ rfl
   exact⟨by omega,a2,a3,a4,v,a5,I8 hs a6⟩
 | _=>exact r
theorem AX : ∀ {H:jI} {k:Nat} {b:mD},look (QZ n H) k=some b->∃j c,k=n+j∧look H j=some c∧b=Yp n c:=by
 intro H
 induction H with
 | nil=>intro k b h;cases h
 | cons p r ih=>
  intro k b h
  obtain⟨x,c⟩:=p
  simp only [QZ]at h
  rw [jY]at h
  split at h
  ·rename_i e
   injection h with h
   exact⟨x,c,e.symm,by rw [jY,if_pos rfl],h.symm⟩
  ·rename_i e
   obtain⟨j,d,h1,h2,h3⟩:=ih h
   exact⟨j,d,h1,by rw [jY,if_neg aad];exact h2,h3⟩
theorem AY {Z:List Nat} : ∀ {H:jI} {k:Nat} {b:mD},look (EW Z H) k=some b->(look H k=some b∧(qP Z k=true->∀t sz l,b≠ .rows t sz l))∨(qP Z k=true∧∃t sz l,look H k=some (.rows t sz l)∧b = .fz sz l):=by
 intro H
 induction H with
 | nil=>intro k b h;cases h
 | cons p r ih=>
  intro k b h
  obtain⟨x,c⟩:=p
  rw [jY]
  have other:(∀t sz l,c≠ .rows t sz l)->EW Z ((x,c)::r)=(x,c)::EW Z r:=fun hne=>by
   cases c<;>first|rfl|exact absurd rfl (hne _ _ _)
  by_cases hc : ∃t sz l,c = .rows t sz l
  ·obtain⟨t,sz,l,rfl⟩:=hc
   simp only [EW]at h
   cases hz:qP Z x with
   | true=>
    rw [hz,cond_true,jY]at h
    split at h
    ·rename_i e
     subst e
     injection h with h
     rw [if_pos rfl]
     exact .inr ⟨hz,t,sz,l,rfl,h.symm⟩
    ·rename_i e;rw [if_neg e];exact ih h
   | false=>
    rw [hz,cond_false,jY]at h
    split at h
    ·rename_i e
     subst e
     injection h with h
     rw [if_pos rfl]
     exact .inl ⟨by rw [h],fun hm=>by rw [hz]at hm;cases hm⟩
    ·rename_i e;rw [if_neg e];exact ih h
  ·have hne : ∀t sz l,c≠ .rows t sz l:=fun t sz l e=>hc ⟨t,sz,l,e⟩
   rw [other hne,jY]at h
   split at h
   ·rename_i e
    subst e
    injection h with h
    rw [if_pos rfl]
    exact .inl ⟨by rw [h],fun _ t sz l e=>hne t sz l (h.trans e)⟩
   ·rename_i e;rw [if_neg e];exact ih h
end
section
variable {P:Program}{G:Glob}{n:Nat}{H:jI}
theorem JK {f:FuncId}{args args':List AV}{R:AV->Nat->jI->Prop}{K:AV->Nat->jI->Prop}(Z:List Nat)(hc:callable P f=true)(h:kQ P G f args' 0 [] R)(ha:I4 H [] Z 0 args' args)
  (k : ∀a m H',R a m H'->K (Og n a) (n+m) (QZ n H'++EW Z H)):tY P G f args n H K:=by
 refine⟨hc,fun w σ F vs st hr=> ?_⟩
 have s1:=Ep (H':= []) (θ:= []) (Z:=Z) (nb:=0) (n':=0) st rfl trivial
 have r1:=rH (n':=0) (BZ:=Gl []) st rfl (ay 0) args' args vs ha hr
 refine(h w _ _ vs s1.start r1).mono fun v w' ⟨a,m,σ',F',H',hR,s,x,ra⟩=> ?_
 have hM : ∀b, ¬qX w (EU [] σ (Gl [])) [] b:=fun b ⟨k,c,e,_⟩=>by cases e
 let σn:Nat->Loc:=fun l=>if l<n then σ l else σ' (l-n)
 have hs : ∀k,k<m->σn (n+k)=σ' k:=fun k _=>by show (if n+k<n then _ else _)=_;rw [if_neg aad];congr 1;omega
 have ho : ∀k,k<n->σn k=σ k:=fun k hk=>if_pos hk
 have hF : ∀b,F b->F' b∧w'.heap[b]? = w.heap[b]? :=fun b hb=>⟨(x.f b (.inl hb)).1,s.nN.block b (st.lI b hb).1 (hM b)⟩
 have hE:Ext n σ F w (n+m) σn F' w':=⟨by omega,ho,hF,x.sz⟩
 have old : ∀k b g,look (EW Z H) k=some b->b.own=true->oW w (σ k) b g->look H k=some b∧¬F' g∧G.nb<=g∧g<w.heap.size∧qX w σ H g:=by
  intro k b g hk hm hg
  rcases AY hk with ⟨h1,h2⟩|⟨_,t,sz,l,_,rfl⟩
  ·obtain⟨m1,m2,m3,m4⟩:=st.mu k b g h1 hm hg
   refine⟨h1,fun hf=> ?_,m2,m3,⟨k,b,h1,hm,hg⟩⟩
   rcases(s.lI g hf).2 with e|e|e
   ·rcases e with e|⟨k',t,sz,l,hz,hk',hg'⟩
    ·exact m1 e
    ·have:=st.inj k k' b _ g h1 hk' hm rfl hg (.inl hg')
     subst this
     rw [h1]at hk'
     injection hk' with hk'
     exact h2 hz t sz l hk'
   ·omega
   ·exact hM g e
  ·cases hm
 have new : ∀k b g,look (QZ n H') k=some b->b.own=true->oW w' (σn k) b g->∃j c,k=n+j∧look H' j=some c∧c.own=true∧oW w' (σ' j) c g∧¬F' g∧G.nb<=g∧g<w'.heap.size∧w.heap.size<=g:=by
  intro k b g hk hm hg
  obtain⟨j,c,rfl,hj,rfl⟩:=AX hk
  rw [Q7]at hm
  rw [hs j (s.lab j c hj)]at hg
  have hg:=Q8 hg
  obtain⟨m1,m2,m3,m4⟩:=s.mu j c g hj hm hg
  exact⟨j,c,rfl,hj,hm,hg,m1,m2,m3,m4.resolve_left (hM g)⟩
 have bk : ∀ {k b g},look (EW Z H) k=some b->b.own=true->oW w' (σ k) b g->oW w (σ k) b g:=fun hk hm hg=>hg.back fun y hy=>s.nN.block y (old _ _ y hk hm (.inl hy)).2.2.2.1 (hM y)
 have LD : ∀k b,look (EW Z H) k=some b->k<n:=fun k b hk=>by
  rcases AY hk with ⟨h1,_⟩|⟨_,t,sz,l,h1,_⟩
  ·exact st.lab k _ h1
  ·exact st.lab k _ h1
 have hst:St G w (qX w σ H) F (n+m) σn F' (QZ n H'++EW Z H) w':=by
  refine⟨s.glob,⟨s.nN.os,s.nN.tape,s.nN.output,x.sz,fun b hb _=>s.nN.block b hb (hM b)⟩,fun b hb=>⟨(s.lI b hb).1, ?_⟩,fun k b hk=> ?_,fun k b g hk hm hg=> ?_,fun k k' b b' g hk hk' hm hm' hg hg'=> ?_,fun k b hk=> ?_⟩
  ·rcases(s.lI b hb).2 with e|e|e
   ·rcases e with e|⟨k',t,sz,l,hz,hk',hg'⟩
    ·exact .inl e
    ·exact .inr (.inr ⟨k',_,hk',rfl, .inl hg'⟩)
   ·exact .inr (.inl e)
   ·exact(hM b e).elim
  ·rcases lq hk with hk|⟨_,hk⟩
   ·obtain⟨j,c,rfl,hj,_⟩:=AX hk
    have:=s.lab j c hj
    omega
   ·have:=LD k b hk;omega
  ·rcases lq hk with hk|⟨_,hk⟩
   ·obtain⟨j,c,_,_,_,_,m1,m2,m3,m4⟩:=new k b g hk hm hg
    exact⟨m1,m2,m3, .inr m4⟩
   ·rw [ho k (LD k b hk)]at hg
    obtain⟨_,m1,m2,m3,m4⟩:=old k b g hk hm (bk hk hm hg)
    exact⟨m1,m2,aN m3 x.sz, .inl m4⟩
  ·rcases lq hk with hk|⟨_,hk⟩
   ·obtain⟨j,c,e1,h1,h2,h3,_,_,_,h4⟩:=new k b g hk hm hg
    rcases lq hk' with hk'|⟨_,hk'⟩
    ·obtain⟨j',c',e1',h1',h2',h3',_⟩:=new k' b' g hk' hm' hg'
     have:=s.inj j j' c c' g h1 h1' h2 h2' h3 h3'
     omega
    ·rw [ho k' (LD k' b' hk')]at hg'
     have:=(old k' b' g hk' hm' (bk hk' hm' hg')).2.2.2.1
     omega
   ·rw [ho k (LD k b hk)]at hg
    have h5:=old k b g hk hm (bk hk hm hg)
    rcases lq hk' with hk'|⟨_,hk'⟩
    ·obtain⟨j',c',e1',h1',h2',h3',_,_,_,h4'⟩:=new k' b' g hk' hm' hg'
     have:=h5.2.2.2.1
     omega
    ·rw [ho k' (LD k' b' hk')]at hg'
     have h6:=old k' b' g hk' hm' (bk hk' hm' hg')
     exact st.inj k k' b b' g h5.1 h6.1 hm hm' (bk hk hm hg) (bk hk' hm' hg')
  ·rcases lq hk with hk|⟨_,hk⟩
   ·obtain⟨j,c,rfl,hj,rfl⟩:=AX hk
    rw [hs j (s.lab j c hj)]
    exact Rf hs (s.blk j c hj)
   ·rw [ho k (LD k b hk)]
    rcases AY hk with ⟨h1,_⟩|⟨hz,t,sz,l,h1,rfl⟩
    ·exact(st.blk k b h1).mono hE fun hm g hg=>s.nN.block g (st.mu k b g h1 hm hg).2.2.1 (hM g)
    ·have hb:=(st.blk k _ h1).mono hE fun hm g hg=>s.nN.block g (st.mu k _ g h1 rfl hg).2.2.1 (hM g)
     exact qO hb (fun _ h=>h) fun g hg=>(x.f g (.inr ⟨k,t,sz,l,hz,h1,hg⟩)).1
 exact⟨Og n a,n+m,σn,F',_,k a m H' hR,hst,hE,I8 hs ra⟩
theorem rQ {f:FuncId}{args args':List AV}{R:AV->Nat->jI->Prop}{K:AV->Nat->jI->Prop}(Z:List Nat)(hc:callable P f=true)(h:kQ P G f args' 0 [] R)(ha:I4 H [] Z 0 args' args)
  (k : ∀a m H',R a m H'->XP (n+m) (QZ n H'++EW Z H) fun n' oN=>K (Og n a) n' oN):tY P G f args n H K:=JK Z hc h ha fun a m H' hR=>by have:=k a m H' hR;rwa [VU]at this
theorem kF {f:FuncId}{args:List AV}{K:AV->Nat->jI->Prop}(hc:callable P f=true)(h:kQ P G f args n H K):tY P G f args n H K:=⟨hc,h⟩
theorem lD {n1:Nat}{H1:jI}{a:AV}{K:AV->Nat->jI->Prop}(h:Nat.ble n n1=true)(k:K a n1 H1):BU G n K a n1 H1:=
 ⟨a,n1,H1,k,ak h,fun _ _ _ _ _ _ _ st r=>⟨_,_,st,r,fun _ _=>rfl,fun _ h=>h⟩⟩
def Oh (n:Nat):jI->jI
 | []=> []
 | p::r=>bif Nat.blt p.1 n then p::Oh n r else Oh n r
def wo (T sz:Nat)(l:List (List FV))(a:AV)(n:Nat)(H:jI):Prop:=a = .own 0∧n=1∧H = [(0, .rows T sz l)]
theorem kQ.EW {f:FuncId}{args:List AV}{T sz:Nat}{l:List (List FV)}(h:kQ P G f args 0 [] (wo T sz l)):kQ P G f args 0 [] (Is (.lst sz l)):=by
 intro w σ F vs st r
 refine(h w σ F vs st r).mono fun v w' ⟨a,m,σ',F',H',⟨e1,e2,e3⟩,s,x,ra⟩=> ?_
 subst e1;subst e2;subst e3
 obtain⟨a',n',oN,hR,_,hE⟩:=(sD (G:=G) (nb:=0) (n:=1) (a:= .own 0) (H:= [(0, .rows T sz l)]) (R:=Is (.lst sz l)) (.lst sz l) 0 [] [] [0] ⟨rfl,rfl,rfl⟩ rfl trivial ⟨rfl,rfl,rfl⟩).ex
 obtain⟨uX,HY,s2,r2,_,h4⟩:=hE w (qX w σ []) F σ' F' w' v s ra
 exact⟨a',n',uX,HY,oN,hR,s2,⟨aK _,fun _ h=>absurd h (fO _),fun b hb=>⟨h4 b (x.f b hb).1,(x.f b hb).2⟩,x.sz⟩,r2⟩
end
theorem nI {P:Program}{G:Glob}{n m:Nat}{H H0:jI}{f:FuncId}{args args':List AV}{r:AV}{K:AV->Nat->jI->Prop}(Z:List Nat)(hc:callable P f=true)(h:kQ P G f args' 0 [] fun a n H=>a=r∧n=m∧H=H0)(ha:I4 H [] Z 0 args' args)(k:XP (n+m) (QZ n H0++EW Z H) fun n' oN=>K (Og n r) n' oN):tY P G f args n H K:=rQ Z hc h ha fun _ _ _ ⟨e1,e2,e3⟩=>by subst e1 e2 e3;exact k
theorem EX {α β:Type}{f:α->β}{l:List α}{i:Nat}(h:i<l.length):i<(l.map f).length:=by rw [au];exact h
theorem MF {x y:Int}(h:x=y):Value.int .i64 x=Value.int .i64 y:=by rw [h]
theorem Rh {p q:Prop}(k:q)(h:q->p:=by intro k;first|exact kP.i64 aaM k|exact nG.mk' _ rfl aaM k|exact nH.pJ (by clear k;assumption) k|exact nH.set aaM k|exact nH.map aaM k|exact jS.mk (by clear k;first|decide|omega) k|exact qY.mk aac rfl rfl k|exact jS.mk (og aaM aac) k):p:=h k
end Go.Proofs.YtnandbihiceihaaGreatDoor.Ax
