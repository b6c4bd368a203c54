/- Joined parts of the proof. Lists of byte strings compared; texts and numbers read; the walk of the store's Bytes, of the program -/
import Derived.Test.YtocckceefcmeaaaGreatDoorPk18
set_option linter.unusedVariables false
set_option linter.unusedSimpArgs false
set_option maxRecDepth 100000
set_option maxHeartbeats 16000000
namespace Go.Proofs.YtocckceefcmeaaaGreatDoor.Cl
open Go Go.RowKit Go.Proofs Go.Proofs.YtocckceefcmeaaaGreatDoor.Vc Go.Proofs.YtocckceefcmeaaaGreatDoor.Ax
attribute [local irreducible] loadVar storeVar Instr.indexAt Instr.index Instr.sliceAt Instr.makeSlice Instr.lookup Instr.mapUpdate Instr.range Instr.next Instr.entry Instr.makeMap Builtin.append_ Builtin.copy_ Builtin.len_ Builtin.min_ Builtin.max_ Builtin.cap_ Builtin.delete_ Builtin.clear_ convert binOp eqGuard Op.unary Calls
section
attribute [local irreducible] num hsh
theorem OD {α:Type}{a b:List α}{i:Nat}(ha:i<a.length)(hb:i<b.length)(h:a.take i=b.take i)(e:a[i]=b[i]):a.take (i+1)=b.take (i+1):=by
 rw [List.take_succ_eq_append_getElem ha,List.take_succ_eq_append_getElem hb,h,e]
abbrev fnV (f:Nat):AV:= .v (.func (.func f) #[] #[])
theorem aeL (G:Glob)(a b:List By)(hl:a.length≤1000000):bD Tryz.prog G 35 [ss a,ss b,fnV 36] 0 [] (Is (bv (decide (a=b)))):=by
 refine au Tryz.func35 rfl mixed (by kernel_rfl) ?_
 conv=>whnf
 apply ah<;>intro h
 ·have hn:a≠b:=fun e=>by subst e;simp at h
  conv=>whnf
  exact aX [] (congrArg Value.bool (decide_eq_false hn).symm)
 have hlen:a.length=b.length:=by simp at h;omega
 conv=>whnf
 refine rE ZB [17] (fun i:Nat=> [(17,iv i)]) (fun i=>i≤a.length∧a.take i=b.take i) (fun i=>a.length-i) 0 (by kernel_rfl) (fun _=>rfl) (by kernel_rfl) ⟨Nat.zero_le _,rfl⟩ (by trivial) (by trivial) ?_
 rintro i ⟨hi,ht⟩
 conv=>whnf
 apply ah<;>intro h
 rotate_left 1
 ·have hie:i=a.length:=by simp at h;omega
  subst hie
  have hab:a=b:=by rw [List.take_length,hlen,List.take_length]at ht;exact ht
  conv=>whnf
  exact aX [] (congrArg Value.bool (decide_eq_true hab).symm)
 have hlt:i<a.length:=by simp at h;omega
 have hlt2:i<b.length:=by omega
 conv=>whnf
 refine bC.mk' i rfl (fQ hlt) ?_
 conv=>whnf
 refine aS.aA (List.getElem?_eq_getElem hlt) ?_
 conv=>whnf
 refine bC.mk' i rfl (fQ hlt2) ?_
 conv=>whnf
 refine aS.aA (List.getElem?_eq_getElem hlt2) ?_
 conv=>whnf
 (refine bf [] (by kernel_rfl) (Hu G a[i] b[i]) rfl ?_ ?_;(focus trivial))
 conv=>whnf
 apply ah<;>intro h
 ·have hne:a[i]≠b[i]:=by simpa using h
  have hn:a≠b:=fun e=>hne (by subst e;rfl)
  conv=>whnf
  exact aX [] (congrArg Value.bool (decide_eq_false hn).symm)
 have he:a[i]=b[i]:=by simpa using h
 conv=>whnf
 refine aI.i64 (by omega) ?_
 conv=>whnf
 exact aF (i+1) [] [] rfl (by show a.length -(i+1)<a.length-i;omega) ⟨hlt,OD hlt hlt2 ht he⟩ (by trivial) ⟨rfl,trivial⟩
theorem aa5 (b:By)(n:Nat)(hn:n≤3000000):bD Tryz.prog GC 72 [.ptr 0 0,iv n] 1 [(0,jS b 0)] (fun a m H=>a=bs (if n≤b.length then b.take n else [])∧m=1∧H = [(0,jS (if n≤b.length then b.drop n else b) (if n≤b.length then 0 else 16))]):=by
 refine au Tryz.func72 rfl mixed (by kernel_rfl) ?_
 conv=>whnf
 apply ah<;>intro h
 ·have hl : ¬n≤b.length:=by simp at h;omega
  simp only [hl,if_false]
  conv=>whnf
  exact aV (bs []) 1 [(0,jS b 16)] [] [] ⟨rfl,rfl,rfl⟩ rfl (by trivial) (by trivial)
 have hl:n≤b.length:=by simp at h;omega
 simp only [hl,if_true]
 conv=>whnf
 refine ay.mk ⟨Int.le_refl _,by rw [List.length_map];omega⟩ ?_
 refine lT.mk' 0 n rfl rfl (Nat.zero_le _) (by rw [List.length_map];exact hl) ?_
 conv=>whnf
 refine lT.mk' n b.length rfl (by rw [List.length_map]) hl (by rw [List.length_map];exact Nat.le_refl _) ?_
 conv=>whnf
 exact aV (bs (b.take n)) 1 [(0,jS (b.drop n) 0)] [] [] ⟨rfl,rfl,rfl⟩ rfl ⟨⟨rfl,⟨rfl,List.map_drop.symm⟩,rfl,trivial⟩,trivial⟩ ⟨rfl,List.map_take.symm⟩
def TxL (b:By)(a:AV)(n:Nat)(H:ak):Prop:= ∃t b' e',a=tv t∧t.length≤b.length∧(∀l r,I64 (l.length:Int)→b=dat l++r→t=l)∧n=1∧H = [(0,jS b' e')]
theorem aa6 (b:By)(hb:b.length≤3000000):bD Tryz.prog GC 34 [.ptr 0 0,iv (b.length:Nat)] 1 [(0,jS b 0)] (TxL b):=by
 have hL:=Ey b 0 (b.length:Nat) 4 hb (by decide) (by omega)
 have hr:=kT b 0 (b.length:Nat) 4 (by omega) (by decide)
 have hg : ∀l r,I64 (l.length:Int)→b=dat l++r→iT b 0 (b.length:Nat) 4=((l.length:Int),(num (l.length:Int)).length,0):=fun l r hl e=>by
  have h1:=jl hl (l++r)
  rw [←List.append_assoc]at h1
  have e2:b=num (l.length:Int)++l++r:=e
  rw [←e2]at h1
  have hle:l.length≤b.length:=by rw [e2];simp;omega
  have q1 : ¬((l.length:Int)<0):=by omega
  have q2 : ¬(((b.length:Nat):Int)<(l.length:Int)):=by omega
  rw [kS,h1]
  simp only [if_true,q1,q2,if_false]
 have hz:(iT b 0 (b.length:Nat) 4).2.2≠0→(iT b 0 (b.length:Nat) 4).1=0:=fun h=>by rw [kS]at h ⊢;simp only at h ⊢;rw [if_neg h]
 generalize iT b 0 (b.length:Nat) 4=c at *
 obtain⟨x,k,e'⟩:=c
 simp only at hL hr hz
 obtain⟨n,rfl⟩ : ∃n:Nat,x=(n:Int):=⟨x.toNat,by omega⟩
 have hn:n≤b.length:=by omega
 by_cases he:e'=0
 ·subst he
  have hT:=aa5 (b.drop k) n (by omega)
  by_cases h:n≤(b.drop k).length
  ·simp only [h,if_true]at hT
   refine au Tryz.func34 rfl mixed (by kernel_rfl) ?_
   conv=>whnf
   refine aH [0] [] (by kernel_rfl) hL rfl (by trivial) (by trivial) ?_
   rintro _ _ _ ⟨rfl,rfl,rfl⟩
   refine⟨rfl, ?_⟩
   conv=>whnf
   refine aH [0] [] (by kernel_rfl) hT rfl (by trivial) (by trivial) ?_
   rintro _ _ _ ⟨rfl,rfl,rfl⟩
   refine⟨rfl, ?_⟩
   conv=>whnf
   refine IX.of ?_
   conv=>whnf
   refine aV (tv ((b.drop k).take n)) 1 [(0,jS ((b.drop k).drop n) 0)] [] [] ⟨_,_,_,rfl, ?_, ?_,rfl,rfl⟩ rfl (by trivial) (by trivial)
   ·rw [List.length_take];omega
   ·intro l r hl e
    have:=hg l r hl e
    injection this with q1 q2
    injection q2 with q2 q3
    have q1:n=l.length:=by omega
    have e2:b=num (l.length:Int)++(l++r):=by rw [←List.append_assoc];exact e
    rw [e2,q2,List.drop_left' rfl,q1,List.take_left' rfl]
  ·simp only [h,if_false]at hT
   refine au Tryz.func34 rfl mixed (by kernel_rfl) ?_
   conv=>whnf
   refine aH [0] [] (by kernel_rfl) hL rfl (by trivial) (by trivial) ?_
   rintro _ _ _ ⟨rfl,rfl,rfl⟩
   refine⟨rfl, ?_⟩
   conv=>whnf
   refine aH [0] [] (by kernel_rfl) hT rfl (by trivial) (by trivial) ?_
   rintro _ _ _ ⟨rfl,rfl,rfl⟩
   refine⟨rfl, ?_⟩
   conv=>whnf
   refine IX.of (s:= []) ?_
   conv=>whnf
   refine aV (tv []) 1 [(0,jS (b.drop k) 16)] [] [] ⟨_,_,_,rfl,Nat.zero_le _, ?_,rfl,rfl⟩ rfl (by trivial) (by trivial)
   intro l r hl e
   exfalso
   have:=hg l r hl e
   injection this with q1 q2
   injection q2 with q2 q3
   have q1:n=l.length:=by omega
   have e2:b=num (l.length:Int)++(l++r):=by rw [←List.append_assoc];exact e
   rw [e2,q2,List.drop_left' rfl,q1]at h
   simp at h
 ·have h0:=hz he
  have hn0:n=0:=by omega
  subst hn0
  refine au Tryz.func34 rfl mixed (by kernel_rfl) ?_
  conv=>whnf
  refine aH [0] [] (by kernel_rfl) hL rfl (by trivial) (by trivial) ?_
  rintro _ _ _ ⟨rfl,rfl,rfl⟩
  refine⟨rfl, ?_⟩
  conv=>whnf
  refine aH [0] [] (by kernel_rfl) (SY (b.drop k) e' he) rfl (by trivial) (by trivial) ?_
  rintro _ _ _ ⟨rfl,rfl,rfl⟩
  refine⟨rfl, ?_⟩
  conv=>whnf
  refine IX.of (s:= []) ?_
  conv=>whnf
  refine aV (tv []) 1 [(0,jS (b.drop k) e')] [] [] ⟨_,_,_,rfl,Nat.zero_le _, ?_,rfl,rfl⟩ rfl (by trivial) (by trivial)
  intro l r hl e
  exfalso
  have:=hg l r hl e
  injection this with q1 q2
  injection q2 with q2 q3
  exact he q3
end
section
attribute [local irreducible] num hsh oV kC
def dtA (l:List By)(i:Nat):By:=(l.take i).flatMap (·.drop 16)
theorem H6 {l:List By}{i:Nat}(h:i<l.length):dtA l (i+1)=dtA l i++l[i].drop 16:=by
 unfold dtA;rw [List.take_succ_eq_append_getElem h,List.flatMap_append,List.flatMap_singleton]
theorem XU {l:List By} : ∀ {i:Nat},i≤l.length→(∀s∈l.take i,s.length=64)→(dtA l i).length=48*i:=by
 intro i
 induction i with
 | zero=>intro _ _;rfl
 | succ i ih=>
  intro h hs
  have hi:i<l.length:=by omega
  rw [List.take_succ_eq_append_getElem hi]at hs
  rw [H6 hi,List.length_append,ih (by omega) fun s h=>hs s (List.mem_append_left _ h),List.length_drop,hs l[i] (List.mem_append_right _ (List.mem_singleton.2 rfl))]
  omega
theorem XV (l:List By):dtA l l.length=l.flatMap (·.drop 16):=by unfold dtA;rw [List.take_length]
noncomputable def OE (l:List By):AV:= .bH [iv (oV l).1,iv (oV l).2.1,bs (oV l).2.2.1,bv (oV l).2.2.2]
theorem uf {l:List By}(h : ∀g f b, ¬tC l g f b):OE l = .bH [iv 0,iv 0,bs [],bv false]:=by unfold OE;rw [Rn h]
theorem XW {l:List By}{g f:Nat}{b:By}(h:tC l g f b):OE l = .bH [iv g,iv f,bs b,bv true]:=by unfold OE;rw [JK h]
theorem tC.adk {l:List By}{g f:Nat}{b:By}(h:tC l g f b){s:By}(hs:s∈l):s.length=64:=by
 rw [h.2]at hs;exact G6 hs
theorem tC.adl {l:List By}{g f:Nat}{b:By}(h:tC l g f b):b.length≤12240:=by
 have h3:=h.len.2.2
 unfold nS dat at h3
 rw [List.length_append]at h3
 omega
theorem Tt {l:List By}{g f:Nat}{b:By}(hr : ∀g' f' b',tC l g' f' b'→g'=g∧f'=f)(ht : ∀c r,I64 (c.length:Int)→l.flatMap (·.drop 16)=dat c++r→b=c) :
  (kJ g f b=0∧secs g f b=l→tC l g f b)∧(¬(kJ g f b=0∧secs g f b=l)→∀g' f' b', ¬tC l g' f' b'):=by
 refine⟨fun⟨h1,h2⟩=>⟨h1,h2.symm⟩,fun hn g' f' b' h=>hn ?_⟩
 obtain⟨rfl,rfl⟩:=hr _ _ _ h
 have hl:=h.adl
 have e:b=b':=ht b' (List.replicate (nS b'*48 -(dat b').length) 0) (bW (by omega)) (by rw [h.2,wB];rfl)
 subst e
 exact⟨h.1,h.2.symm⟩
theorem aa8 (G:Glob)(l:List By)(hl:l.length≤1000):bD Tryz.prog G 13 [ss l] 0 [] (Is (OE l)):=by
 refine au Tryz.func13 rfl mixed (by kernel_rfl) ?_
 conv=>whnf
 apply ah<;>intro h
 ·have h0:l.length=0:=by simp at h;exact congrArg List.length h
  rw [uf fun g f b hx=>by have:=hx.len;omega]
  conv=>whnf
  exact aX [] (by trivial)
 have h0:0<l.length:=by simp at h;exact List.length_pos_iff.2 h
 conv=>whnf
 refine bC.mk' 0 rfl (fQ h0) ?_
 conv=>whnf
 refine aS.aA (List.getElem?_eq_getElem h0) ?_
 conv=>whnf
 refine aj [] (by kernel_rfl) (JW G l[0]) (by trivial) ?_
 rintro _ _ _ ⟨rfl,rfl,g,f,ix,m,rfl,hrd⟩
 conv=>whnf
 apply ah<;>intro h
 ·have hno:kC l[0]=false:=by simpa using h
  rw [uf fun g f b hx=>by have:=(hx.at h0).2.1;rw [hno]at this;cases this]
  conv=>whnf
  exact aX [] (by trivial)
 have hok:kC l[0]=true:=by simpa using h
 obtain⟨rfl,rfl,rfl,rfl⟩:=hrd hok
 conv=>whnf
 refine bg Zx 2 [7,26] (fun i:Nat=> [(7, .own 1),(26,iv i)]) (fun i=> [(1, .rows 5 1 ((dtA l i).map dW)),(0, .var 59 [iv (hG l[0]),iv (hF l[0]),iv (hI l[0]),iv (hN l[0])])]) (fun i=>i≤l.length∧∀s∈l.take i,s.length=64) (fun i=>l.length-i) [(1, .nil)] [] 0 (by kernel_rfl) (fun _=>rfl) rfl ⟨Nat.zero_le _,fun s hs=>by simp at hs⟩ (by trivial) (by trivial) ?_
 rintro i ⟨hi,h64⟩
 have hdl:=XU hi h64
 conv=>whnf
 apply ah<;>intro h
 ·have hlt:i<l.length:=by simp at h;omega
  conv=>whnf
  refine bC.mk' i rfl (fQ hlt) ?_
  conv=>whnf
  refine aS.aA (List.getElem?_eq_getElem hlt) ?_
  conv=>whnf
  apply ah<;>intro h
  ·have hne:l[i].length≠64:=by simp at h;omega
   rw [uf fun g f b hx=>hne (hx.adk (List.getElem_mem hlt))]
   conv=>whnf
   exact aX [] (by trivial)
  have h6:l[i].length=64:=by simp at h;omega
  conv=>whnf
  refine lT.mk' 16 l[i].length rfl (by rw [List.length_map]) (by omega) (by rw [List.length_map];exact Nat.le_refl _) ?_
  conv=>whnf
  refine ay.mk (aG (by simp only [cut,List.length_map,List.length_drop];omega) (by kernel_rfl)) ?_
  conv=>whnf
  refine aI.i64 (by omega) ?_
  conv=>whnf
  refine aF (i+1) [(1, .lab 2)] [] rfl (by show l.length -(i+1)<l.length-i;omega) ⟨hlt,fun s hs=> ?_⟩ ⟨⟨rfl,rfl, ?_⟩,(by trivial),trivial⟩ ⟨rfl,rfl,trivial⟩
  ·rw [List.take_succ_eq_append_getElem hlt]at hs
   rcases List.mem_append.1 hs with h1 | h1
   ·exact h64 s h1
   ·rw [List.mem_singleton]at h1;rw [h1];exact h6
  ·rw [H6 hlt,List.map_append,List.map_drop];rfl
 have hie:i=l.length:=by simp at h;omega
 subst hie
 rw [XV]at hdl ⊢
 conv=>whnf
 refine aj [1] (by kernel_rfl) (bD.up (Ew (l.flatMap (·.drop 16)) (by omega)) G) (by trivial) ?_
 rintro _ _ _ ⟨rfl,rfl,rfl⟩
 conv=>whnf
 have hT:bD Tryz.prog G 34 [.ptr 0 0,iv (((l.flatMap (·.drop 16)).map dW).length:Nat)] 1 [(0,jS (l.flatMap (·.drop 16)) 0)] (TxL (l.flatMap (·.drop 16))):=by
  rw [List.length_map];exact bD.up (aa6 (l.flatMap (·.drop 16)) (by omega)) G
 refine aH [2] [] (by kernel_rfl) hT rfl (by trivial) (by trivial) ?_
 rintro _ _ _ ⟨t,b',e',rfl,htl,htd,rfl,rfl⟩
 refine⟨rfl, ?_⟩
 conv=>whnf
 have hgl:=Tc l[0]
 have hfr : ∀g' f' c,tC l g' f' c→g'=hG l[0]∧f'=hF l[0]:=fun g' f' c hx=>by
  have:=hx.at h0
  exact⟨this.2.2.1.symm,this.2.2.2.1.symm⟩
 have hB:=Tt (b:=t) hfr htd
 have hS:=tZ G (hG l[0]:Nat) (hF l[0]:Nat) t (by omega)
 refine aj [] (by kernel_rfl) hS (by trivial) ?_
 rintro _ _ _ ⟨rfl,rfl,rfl⟩
 conv=>whnf
 apply ah<;>intro h
 ·have he:kJ (hG l[0]:Nat) (hF l[0]:Nat) t≠0:=by simpa using h
  rw [uf (hB.2 fun hx=>he hx.1)]
  conv=>whnf
  exact aX [] (by trivial)
 have he:kJ (hG l[0]:Nat) (hF l[0]:Nat) t=0:=by simpa using h
 have hLl:qO (hG l[0]:Nat) (hF l[0]:Nat) t=secs (hG l[0]) (hF l[0]) t:=by unfold qO;rw [if_pos he];rfl
 rw [hLl]
 conv=>whnf
 (refine bf [] (by kernel_rfl) (aeL G (secs (hG l[0]) (hF l[0]) t) l (by rw [dX];have:=(xg he).2.2.2.2;omega)) rfl ?_ ?_;(focus trivial))
 conv=>whnf
 apply ah<;>intro h
 ·have hne : ¬secs (hG l[0]) (hF l[0]) t=l:=by simpa using h
  rw [uf (hB.2 fun hx=>hne hx.2)]
  conv=>whnf
  exact aX [] (by trivial)
 have heq:secs (hG l[0]) (hF l[0]) t=l:=by simpa using h
 rw [XW (hB.1 ⟨he,heq⟩)]
 conv=>whnf
 (refine aP acf [] (by kernel_rfl) ?_;conv=>whnf)
 exact aX [] (by trivial)
end
abbrev XY:Int×Int×Nat×By×Bool:=(0,0,0,[],false)
theorem ug {l:List By}(h0:0<l.length):gG l=if hN l[0]<1∨l.length<hN l[0]then XY else if(oV (l.take (hN l[0]))).2.2.2 then((oV (l.take (hN l[0]))).1,(oV (l.take (hN l[0]))).2.1,hN l[0],(oV (l.take (hN l[0]))).2.2.1,true)else XY:=by
 cases l with
 | nil=>cases h0
 | cons s r=>rfl
theorem EJ:gG []=XY:=rfl
theorem MH {l:List By}(h0:0<l.length)(h:kC l[0]=false):gG l=XY:=by
 rw [ug h0]
 split
 ·rfl
 ·rename_i hn
  rcases wE (l.take (hN l[0]))with ⟨g,f,b,hx,e⟩ | ⟨_,e⟩
  ·have hp:0<(l.take (hN l[0])).length:=by rw [List.length_take];omega
   have h1:=(hx.at hp).2.1
   rw [List.getElem_take]at h1
   rw [h]at h1;cases h1
  ·rw [e];rfl
theorem Tv {l:List By}(h0:0<l.length)(h:l.length<hN l[0]):gG l=XY:=by
 rw [ug h0,if_pos (.inr h)]
theorem XZ {s:By}(h:kC s=true):0<hN s∧s.length=64:=by
 unfold kC at h
 simp only [Bool.and_eq_true,decide_eq_true_eq]at h
 omega
theorem X0 {l:List By}(h0:0<l.length)(h:kC l[0]=true)(hl:hN l[0]≤l.length):gG l=if(oV (l.take (hN l[0]))).2.2.2 then((oV (l.take (hN l[0]))).1,(oV (l.take (hN l[0]))).2.1,hN l[0],(oV (l.take (hN l[0]))).2.2.1,true)else XY:=by
 have:=(XZ h).1
 rw [ug h0,if_neg (by omega)]
theorem rM {l:List By}(h:(gG l).2.2.2.2=true) : ∃g f b,tC (l.take (gG l).2.2.1) g f b∧gG l=(((g:Nat):Int),((f:Nat):Int),nS b,b,true)∧nS b≤l.length∧0<nS b:=by
 have h0:0<l.length:=by
  cases l with
  | nil=>cases h
  | cons s r=>simp
 rw [ug h0]at h ⊢
 split at h
 ·cases h
 ·rename_i hn
  rw [if_neg hn]
  rcases wE (l.take (hN l[0]))with ⟨g,f,b,hx,e⟩ | ⟨_,e⟩
  ·rw [e]at h ⊢
   have hl:=hx.len
   rw [List.length_take]at hl
   have e2:hN l[0]=nS b:=by omega
   simp only [if_true]
   exact⟨g,f,b,hx,by rw [e2],by omega,hl.2.1⟩
  ·rw [e]at h;cases h
theorem J5 {l:List By}{g f n:Nat}{b:By}(hn:nS b=n)(hl:n≤l.length)(h:tC (l.take n) g f b):gG l=(((g:Nat):Int),((f:Nat):Int),n,b,true):=by
 have hp:=h.len
 have h0:0<l.length:=by omega
 have h1:=h.at (i:=0) (by rw [List.length_take];omega)
 rw [List.getElem_take]at h1
 have e:hN l[0]=n:=by rw [h1.2.2.2.2.2,hn]
 rw [ug h0,e,if_neg (by omega),JK h]
 rfl
theorem Tz (g:Int) : ∀(m m':Nat) (l:List By) (k:Nat),l.length≤m→l.length≤m'→Un g m l k=Un g m' l k:=by
 intro m
 induction m with
 | zero=>
  intro m' l k h1 h2
  have:l = []:=List.eq_nil_of_length_eq_zero (by omega)
  subst this
  cases m' with
  | zero=>rfl
  | succ m'=>simp [Un,EJ]
 | succ m ih=>
  intro m' l k h1 h2
  cases m' with
  | zero=>
   have:l = []:=List.eq_nil_of_length_eq_zero (by omega)
   subst this
   simp [Un,EJ]
  | succ m'=>
   unfold Un
   split
   ·rename_i hc
    obtain⟨g',f,b,_,e,h3,h4⟩:=rM hc.1
    rw [e]
    simp only
    rw [ih m' _ _ (by rw [List.length_drop];omega) (by rw [List.length_drop];omega)]
   ·rfl
noncomputable def lg (g:Int)(l:List By)(k:Nat):List By:=Un g l.length l k
theorem EK {g:Int}{l:List By}{k:Nat}(h : ¬((gG l).2.2.2.2=true∧(gG l).1=g∧(gG l).2.1=(k:Int))):lg g l k = []:=by
 unfold lg
 cases hl:l.length with
 | zero=>rfl
 | succ m=>unfold Un;rw [if_neg h]
theorem MI {g:Int}{l:List By}{k:Nat}(h:(gG l).2.2.2.2=true∧(gG l).1=g∧(gG l).2.1=(k:Int)):lg g l k=(gG l).2.2.2.1::lg g (l.drop (gG l).2.2.1) (k+1):=by
 obtain⟨g',f,b,_,e,h3,h4⟩:=rM h.1
 unfold lg
 cases hl:l.length with
 | zero=>omega
 | succ m=>
  conv=>lhs;unfold Un
  rw [if_pos h]
  congr 1
  exact Tz g _ _ _ _ (by rw [List.length_drop,e];simp only;omega) (Nat.le_refl _)
theorem aa9 {g:Int} : ∀ {m:Nat} {l:List By} {k:Nat},l.length≤m→(lg g l k).length≤l.length∧∀b∈lg g l k,b.length≤12240:=by
 intro m
 induction m with
 | zero=>
  intro l k h
  have:l = []:=List.eq_nil_of_length_eq_zero (by omega)
  subst this
  exact⟨Nat.le_refl _,fun b hb=>by cases hb⟩
 | succ m ih=>
  intro l k h
  by_cases hc:(gG l).2.2.2.2=true∧(gG l).1=g∧(gG l).2.1=(k:Int)
  ·rw [MI hc]
   obtain⟨g',f,b,hx,e,h3,h4⟩:=rM hc.1
   have hi:=ih (l:=l.drop (gG l).2.2.1) (k:=k+1) (by rw [List.length_drop,e];simp only;omega)
   have hdl:(l.drop (gG l).2.2.1).length+1≤l.length:=by rw [List.length_drop,e];simp only;omega
   refine⟨by rw [List.length_cons];omega,fun c hcm=> ?_⟩
   rcases List.mem_cons.1 hcm with rfl | hcm
   ·rw [e];exact hx.adl
   ·exact hi.2 c hcm
  ·rw [EK hc]
   exact⟨Nat.zero_le _,fun b hb=>by cases hb⟩
theorem uh (l:List By):AO l=((gG l).2.2.2.2&&decide ((gG l).2.1=0)):=rfl
noncomputable def EL (l:List By):Int:=if AO l then(gG l).1 else 0
noncomputable def xM (l:List By):List By:=if AO l then lg (gG l).1 l 0 else []
theorem abb {l:List By}(h:AO l=true):(gG l).2.2.2.2=true∧(gG l).1=(gG l).1∧(gG l).2.1=((0:Nat):Int):=by
 rw [uh,Bool.and_eq_true,decide_eq_true_eq]at h
 exact⟨h.1,rfl,h.2⟩
abbrev yF (d:Dk):List AV:= [ss d.now,ss d.safe,iv d.fuse,iv d.ops,bv d.dead]
abbrev oN (d:Dk):AV:= .agg (yF d)
def abd:List FV:= [.v (.slice none 0 0)]
theorem uj (G:Glob)(b:By)(h0:b≠ [])(hl:b.length≤1000000):bD Tryz.prog G 76 [bs b] 0 [] (lM 5 1 (b.map dW)):=by
 have h0:0<b.length:=List.length_pos_iff.2 h0
 refine au Tryz.func76 rfl mixed (by kernel_rfl) ?_
 conv=>whnf
 refine⟨fun b hb=> ?_⟩
 rw [hb (fQ h0)]
 conv=>whnf
 refine ay.mk (aG (by simp only [List.length_map,List.length_nil];omega) (by kernel_rfl)) ?_
 conv=>whnf
 exact aV (.own 0) 1 _ [(0, .lab 1)] [] ⟨rfl,rfl,rfl⟩ rfl (by trivial) (by trivial)
def OY (l:List By)(i:Nat):List (List FV):=(l.take i).map Af++List.replicate (l.length-i) abd
theorem TA (l:List By):OY l 0=List.replicate l.length abd:=by simp [OY]
theorem X3 (l:List By):OY l l.length=l.map Af:=by simp [OY]
theorem X4 {l:List By}{i:Nat}(h:i≤l.length):(OY l i).length=l.length:=by simp [OY];omega
theorem abe {l:List By}{i:Nat}(h:i<l.length):(OY l i)[i]? = some abd:=by
 unfold OY
 rw [List.getElem?_append_right (by simp;omega)]
 simp only [List.length_map,List.length_take]
 rw [Nat.min_eq_left (by omega),Nat.sub_self,List.getElem?_replicate,if_pos (by omega)]
theorem X5 {l:List By}{i:Nat}(h:i<l.length):(OY l i).set i (Af l[i])=OY l (i+1):=by
 unfold OY
 rw [List.set_append_right _ _ (by simp;omega)]
 simp only [List.length_map,List.length_take]
 rw [Nat.min_eq_left (by omega),Nat.sub_self,show l.length-i=(l.length -(i+1))+1 by omega,List.replicate_succ,List.set_cons_zero,List.take_succ_eq_append_getElem h,List.map_append,List.append_assoc]
 rfl
theorem yG (G:Glob)(l:List By)(h64:OB l)(hl:l.length≤1000):bD Tryz.prog G 127 [ss l] 0 [] (lM 22 1 (l.map Af)):=by
 refine au Tryz.func127 rfl mixed (by kernel_rfl) ?_
 conv=>whnf
 refine KG.mk' l.length (by rw [List.length_map]) (by rw [List.length_map]) ⟨by show 24*l.length≤_;omega,by unfold maxLen;omega⟩ ?_
 conv=>whnf
 refine bg Vk 1 [11] (fun i:Nat=> [(11,iv i)]) (fun i=> [(0, .rows 22 1 (OY l i))]) (fun i=>i≤l.length) (fun i=>l.length-i) [] [] 0 (by kernel_rfl) (fun _=>rfl) rfl (Nat.zero_le _) ⟨⟨rfl,rfl,(TA l).symm⟩,trivial⟩ ⟨rfl,trivial⟩ ?_
 intro i hi
 conv=>whnf
 apply ah<;>intro h
 rotate_left 1
 ·have hie:i=l.length:=by simp at h;omega
  subst hie
  rw [X3]
  conv=>whnf
  exact aV (.own 0) 1 _ [(0, .lab 0)] [] ⟨rfl,rfl,rfl⟩ rfl (by trivial) (by trivial)
 have hlt:i<l.length:=by simp at h;omega
 have h6:=h64 l[i] (List.getElem_mem hlt)
 conv=>whnf
 refine bC.mk' i rfl (fQ hlt) ?_
 conv=>whnf
 refine aS.aA (List.getElem?_eq_getElem hlt) ?_
 conv=>whnf
 refine aj [] (by kernel_rfl) (uj G l[i] (fun e=>by rw [e]at h6;cases h6) (by omega)) (by trivial) ?_
 rintro _ _ _ ⟨rfl,rfl,rfl⟩
 conv=>whnf
 refine bC.mk' i rfl (by rw [X4 hi];exact hlt) ?_
 conv=>whnf
 refine aS.at (abe hlt) ?_
 conv=>whnf
 refine aI.i64 (by omega) ?_
 conv=>whnf
 exact aF (i+1) [] [] rfl (by show l.length -(i+1)<l.length-i;omega) hlt ⟨⟨rfl,rfl,X5 hlt⟩,trivial⟩ ⟨rfl,trivial⟩
theorem abf (G:Glob)(b:By):bD Tryz.prog G 116 [bs b] 0 [] (Is (bv (decide (b.length≠64)))):=by
 refine au Tryz.func116 rfl mixed (by kernel_rfl) ?_
 conv=>whnf
 refine aX [] (congrArg Value.bool ?_)
 rw [List.length_map]
 by_cases h:b.length=64
 ·simp [h]
 ·simp [h];omega
theorem X6 (G:Glob)(l:List By)(h64:OB l)(hl:l.length≤1000):bD Tryz.prog G 141 [ss l,fnV 116] 0 [] (Is (iv (-1))):=by
 refine au Tryz.func141 rfl mixed (by kernel_rfl) ?_
 conv=>whnf
 refine rE Vp [8] (fun i:Nat=> [(8,iv i)]) (fun i=>i≤l.length) (fun i=>l.length-i) 0 (by kernel_rfl) (fun _=>rfl) (by kernel_rfl) (Nat.zero_le _) (by trivial) (by trivial) ?_
 intro i hi
 conv=>whnf
 apply ah<;>intro h
 rotate_left 1
 ·conv=>whnf
  exact aX [] rfl
 have hlt:i<l.length:=by simp at h;omega
 have h6:=h64 l[i] (List.getElem_mem hlt)
 have hw:=abf G l[i]
 rw [h6]at hw
 conv=>whnf
 refine bC.mk' i rfl (fQ hlt) ?_
 conv=>whnf
 refine aS.aA (List.getElem?_eq_getElem hlt) ?_
 conv=>whnf
 refine bf [] (by kernel_rfl) hw rfl (by trivial) ?_
 conv=>whnf
 refine aI.i64 (by omega) ?_
 conv=>whnf
 exact aF (i+1) [] [] rfl (by show l.length -(i+1)<l.length-i;omega) hlt (by trivial) ⟨rfl,trivial⟩
theorem AP (G:Glob)(l:List By)(h64:OB l)(hl:l.length≤1000):bD Tryz.prog G 117 [ss l,fnV 116] 0 [] (Is (bv false)):=by
 refine au Tryz.func117 rfl mixed (by kernel_rfl) ?_
 conv=>whnf
 (refine bf [] (by kernel_rfl) (X6 G l h64 hl) rfl ?_ ?_;(focus trivial))
 conv=>whnf
 exact aX [] rfl
theorem OG (G:Glob)(n:Nat)(h1:n%2=0)(h2:8≤n)(h3:n≤256):bD Tryz.prog G 115 [iv n] 0 [] (Is (bv true)):=by
 refine au Tryz.func115 rfl mixed (by kernel_rfl) ?_
 conv=>whnf
 have hm:((n:Int)).tmod 2=((n%2:Nat):Int):=rfl
 refine ay.mk (by decide) ?_
 rw [hm,h1]
 conv=>whnf
 apply ah<;>intro h
 rotate_left 1
 ·exfalso;simp at h;omega
 conv=>whnf
 exact aX [] (congrArg Value.bool (by simp;omega))
theorem J6 (G:Glob)(d:Dk)(h:d.ok):bD Tryz.prog G 84 [oN d] 0 [] (Is (bv true)):=by
 obtain⟨h1,h2,h3,h4,h5,h6,h7,h8⟩:=h
 have hs:=OG G d.now.length h1 h2 h3
 have hs:bD Tryz.prog G 115 [iv ((d.now.map Af).length:Nat)] 0 [] (Is (bv true)):=by rw [List.length_map];exact hs
 refine au Tryz.func84 rfl mixed (by kernel_rfl) ?_
 conv=>whnf
 (refine bf [] (by kernel_rfl) (hs) rfl ?_ ?_;(focus trivial))
 conv=>whnf
 apply ah<;>intro h
 ·exfalso;rw [List.length_map,List.length_map]at h;simp at h;omega
 conv=>whnf
 apply ah<;>intro h
 ·exfalso;simp at h;omega
 conv=>whnf
 apply ah<;>intro h
 ·exfalso;simp at h;omega
 conv=>whnf
 apply ah<;>intro h
 ·exfalso;simp at h;omega
 conv=>whnf
 (refine bf [] (by kernel_rfl) (AP G d.now h7 (by omega)) rfl ?_ ?_;(focus trivial))
 conv=>whnf
 (refine bf [] (by kernel_rfl) (AP G d.safe h8 (by omega)) rfl ?_ ?_;(focus trivial))
 conv=>whnf
 exact aX [] rfl
theorem OH (G:Glob):bD Tryz.prog G 115 [iv 0] 0 [] (Is (bv false)):=by
 refine au Tryz.func115 rfl mixed (by kernel_rfl) ?_
 conv=>whnf
 refine ay.mk (by decide) ?_
 conv=>whnf
 exact aX [] rfl
theorem X7 (G:Glob):bD Tryz.prog G 84 [oN Dk.zero] 0 [] (Is (bv false)):=by
 refine au Tryz.func84 rfl mixed (by kernel_rfl) ?_
 conv=>whnf
 (refine bf [] (by kernel_rfl) (OH G) rfl ?_ ?_;(focus trivial))
 conv=>whnf
 exact aX [] rfl
def xC (d:Dk):Int:=if d.dead then 40 else 0
theorem J7 (G:Glob)(d:Dk)(h:d.ok):bD Tryz.prog G 75 [oN d] 0 [] (Is (iv (xC d))):=by
 refine au Tryz.func75 rfl mixed (by kernel_rfl) ?_
 conv=>whnf
 (refine bf [] (by kernel_rfl) (J6 G d h) rfl ?_ ?_;(focus trivial))
 conv=>whnf
 apply ah<;>intro h
 ·conv=>whnf
  exact aX [] (Eb (by unfold xC;rw [if_pos h]))
 ·conv=>whnf
  exact aX [] (Eb (by unfold xC;rw [h];rfl))
theorem abg (G:Glob)(d:Dk)(h:d.ok):bD Tryz.prog G 40 [oN d,iv 0] 0 [] (fun a n H=>n=0∧H = []∧∃b,a = .bH [bs b,iv (xC d)]):=by
 have hr:=J7 G d h
 have hlo:=h.lo
 have h0:0<d.now.length:=by omega
 have h6:=h.n64 d.now[0] (List.getElem_mem h0)
 unfold xC at hr ⊢
 refine au Tryz.func40 rfl mixed (by kernel_rfl) ?_
 conv=>whnf
 (refine bf [] (by kernel_rfl) (hr) rfl ?_ ?_;(focus trivial))
 conv=>whnf
 cases hd:d.dead with
 | true=>
  simp only [hd,if_true]
  conv=>whnf
  exact aV (.bH [bs [],iv 40]) 0 [] [] [] ⟨rfl,rfl,[],rfl⟩ rfl trivial (by trivial)
 | false=>
  simp only [hd,Bool.false_eq_true,if_false]
  conv=>whnf
  apply ah<;>intro h
  ·exfalso;simp at h;rw [h]at h0;exact absurd h0 (by decide)
  conv=>whnf
  refine bC.mk' 0 rfl (fQ h0) ?_
  conv=>whnf
  refine aS.aA (List.getElem?_eq_getElem h0) ?_
  conv=>whnf
  refine aj [] (by kernel_rfl) (uj G d.now[0] (fun e=>by rw [e]at h6;cases h6) (by omega)) (by trivial) ?_
  rintro _ _ _ ⟨rfl,rfl,rfl⟩
  conv=>whnf
  refine aV (.bH [bs d.now[0],iv 0]) 0 [] [] [1] ⟨rfl,rfl,_,rfl⟩ rfl trivial (by trivial)
def CpD (T:Nat)(d:Dk)(a:AV)(n:Nat)(H:ak):Prop:=a = .agg [.own 0, .own 1,iv d.fuse,iv d.ops,bv d.dead]∧n=2∧H = [(0, .rows T 1 (d.now.map Af)),(1, .rows T 1 (d.safe.map Af))]
theorem H7 (G:Glob)(d:Dk)(h:d.ok):bD Tryz.prog G 159 [oN d] 0 [] (CpD 22 d):=by
 have hhi:=h.hi
 have hsf:=h.sf
 refine au Tryz.func159 rfl mixed (by kernel_rfl) ?_
 conv=>whnf
 (refine aP ZU [] (by kernel_rfl) ?_;conv=>whnf)
 refine aj [] (by kernel_rfl) (yG G d.now h.n64 (by omega)) (by trivial) ?_
 rintro _ _ _ ⟨rfl,rfl,rfl⟩
 conv=>whnf
 refine aj [] (by kernel_rfl) (yG G d.safe h.f64 (by omega)) (by trivial) ?_
 rintro _ _ _ ⟨rfl,rfl,rfl⟩
 conv=>whnf
 exact aV (.agg [.own 0, .own 1,iv d.fuse,iv d.ops,bv d.dead]) 2 _ [(0, .lab 2),(1, .lab 3)] [] ⟨rfl,rfl,rfl⟩ rfl (by trivial) (by trivial)
def dWt (d:Dk)(n:Nat)(b:By):AV:=if d.dead then .bH [oN Dk.zero,iv 40]else if d.fuse=0 then .bH [oN d.dying,iv 40]else .bH [oN (d.put n b),iv 0]
theorem xE {G:Glob}{n n1:Nat}{H1:ak}{a:AV}{K:AV→Nat→ak→Prop}(a':AV)(Z:List Nat)(k:Ax.spine (Gp n H1) fun H0=>K a' n H0)(hwf:Gm n n [] Z (Gp n H1)=true)(hH:Jp H1 [] Z n (Gp n H1))(hc:co H1 [] Z n a' a):BG G n K a n1 H1:=
 aV a' n _ [] Z (by rw [Ax.eU]at k;exact k) hwf hH hc
theorem MJ {G:Glob}{n n1:Nat}{H1:ak}{a:AV}{K:AV→Nat→ak→Prop}(hn:n≤n1)(k:K a n1 H1):BG G n K a n1 H1:=
 ⟨⟨a,n1,H1,k,hn,fun _ _ _ σ' F' _ _ s r=>⟨σ',F',s,r,fun _ _=>rfl,fun _ h=>h⟩⟩⟩
theorem X8 (G:Glob)(d:Dk)(h:d.ok)(n:Nat)(hn:n<d.now.length)(b:By)(hb:b.length=64):bD Tryz.prog G 89 [oN d,iv n,bs b] 0 [] (Is (dWt d n b)):=by
 have hr:=J7 G d h
 have hC:=H7 G d h
 obtain⟨h1,h2,h3,h4,h5,h6,h7,h8⟩:=h
 obtain⟨now,safe,fuse,ops,dead⟩:=d
 unfold xC at hr
 unfold dWt
 unfold CpD at hC
 simp only at *
 refine au Tryz.func89 rfl mixed (by kernel_rfl) ?_
 conv=>whnf
 (refine bf [] (by kernel_rfl) (hr) rfl ?_ ?_;(focus trivial))
 cases dead with
 | true=>
  simp only [if_true]
  conv=>whnf
  exact aX [] (by trivial)
 | false=>
  simp only [Bool.false_eq_true,if_false]at *
  conv=>whnf
  apply ah<;>intro h
  ·exfalso;rw [List.length_map]at h;simp at h;omega
  conv=>whnf
  apply ah<;>intro h
  ·exfalso;rw [List.length_map,hb]at h;simp at h
  conv=>whnf
  (refine eX (by kernel_rfl) (au Tryz.func124 rfl mixed (by kernel_rfl) ?_);(conv=>whnf))
  refine aj [] (by kernel_rfl) hC (by trivial) ?_
  rintro _ _ _ ⟨rfl,rfl,rfl⟩
  conv=>whnf
  apply ah<;>intro h
  ·have hf:fuse=0:=by simpa using h
   rw [if_pos hf]
   conv=>whnf
   refine xE (.bH [oN (Dk.dying ⟨now,safe,fuse,ops,false⟩),iv 40]) [6,7] ?_ rfl ?_ ?_
   rotate_left 1
   ·trivial
   ·trivial
   conv=>whnf
   exact aX [] (by trivial)
  have hf:fuse≠0:=by simpa using h
  rw [if_neg hf]
  conv=>whnf
  apply ah<;>intro h
  ·conv=>whnf
   refine aI.i64 (by omega) ?_
   conv=>whnf
   (refine eX (by kernel_rfl) (au Tryz.func125 rfl mixed (by kernel_rfl) ?_);(conv=>whnf))
   (refine aP Qs [] (by kernel_rfl) ?_;conv=>whnf)
   refine aj [] (by kernel_rfl) (uj G b (fun e=>by rw [e]at hb;cases hb) (by omega)) (by trivial) ?_
   rintro _ _ _ ⟨rfl,rfl,rfl⟩
   conv=>whnf
   refine bC.mk' n rfl (fQ hn) ?_
   conv=>whnf
   refine aS.aA (List.getElem?_eq_getElem hn) ?_
   conv=>whnf
   refine xE (.bH []) [] ?_ rfl ?_ ?_
   rotate_left 1
   ·trivial
   ·trivial
   conv=>whnf
   refine aI.i64 (by omega) ?_
   conv=>whnf
   refine xE (.bH [oN (Dk.put ⟨now,safe,fuse,ops,false⟩ n b),iv 0]) [6,7] ?_ rfl ?_ ?_
   rotate_left 1
   ·trivial
   ·exact⟨⟨⟨rfl,rfl,List.map_set.symm⟩,⟨rfl,rfl,rfl⟩,Eb (by simp at h;show (fuse-1)=if 0<fuse then fuse-1 else fuse;split<;>omega),rfl,rfl,trivial⟩,rfl,trivial⟩
   conv=>whnf
   exact aX [] (by trivial)
  ·conv=>whnf
   (refine eX (by kernel_rfl) (au Tryz.func125 rfl mixed (by kernel_rfl) ?_);(conv=>whnf))
   (refine aP Qs [] (by kernel_rfl) ?_;conv=>whnf)
   refine aj [] (by kernel_rfl) (uj G b (fun e=>by rw [e]at hb;cases hb) (by omega)) (by trivial) ?_
   rintro _ _ _ ⟨rfl,rfl,rfl⟩
   conv=>whnf
   refine bC.mk' n rfl (fQ hn) ?_
   conv=>whnf
   refine aS.aA (List.getElem?_eq_getElem hn) ?_
   conv=>whnf
   refine xE (.bH []) [] ?_ rfl ?_ ?_
   rotate_left 1
   ·trivial
   ·trivial
   conv=>whnf
   refine aI.i64 (by omega) ?_
   conv=>whnf
   refine xE (.bH [oN (Dk.put ⟨now,safe,fuse,ops,false⟩ n b),iv 0]) [6,7] ?_ rfl ?_ ?_
   rotate_left 1
   ·trivial
   ·exact⟨⟨⟨rfl,rfl,List.map_set.symm⟩,⟨rfl,rfl,rfl⟩,Eb (by simp at h;show fuse=if 0<fuse then fuse-1 else fuse;split<;>omega),rfl,rfl,trivial⟩,rfl,trivial⟩
   conv=>whnf
   exact aX [] (by trivial)
def dFl (d:Dk):AV:=if d.dead then .bH [oN Dk.zero,iv 40]else if d.fuse=0 then .bH [oN d.dying,iv 40]else .bH [oN d.flush,iv 0]
theorem X9 (G:Glob)(d:Dk)(h:d.ok):bD Tryz.prog G 91 [oN d] 0 [] (Is (dFl d)):=by
 have hr:=J7 G d h
 have hC:=H7 G d h
 obtain⟨h1,h2,h3,h4,h5,h6,h7,h8⟩:=h
 obtain⟨now,safe,fuse,ops,dead⟩:=d
 unfold xC at hr
 unfold dFl
 unfold CpD at hC
 simp only at *
 refine au Tryz.func91 rfl mixed (by kernel_rfl) ?_
 conv=>whnf
 (refine bf [] (by kernel_rfl) (hr) rfl ?_ ?_;(focus trivial))
 cases dead with
 | true=>
  simp only [if_true]
  conv=>whnf
  exact aX [] (by trivial)
 | false=>
  simp only [Bool.false_eq_true,if_false]at *
  conv=>whnf
  (refine eX (by kernel_rfl) (au Tryz.func124 rfl mixed (by kernel_rfl) ?_);(conv=>whnf))
  refine aj [] (by kernel_rfl) hC (by trivial) ?_
  rintro _ _ _ ⟨rfl,rfl,rfl⟩
  conv=>whnf
  apply ah<;>intro h
  ·have hf:fuse=0:=by simpa using h
   rw [if_pos hf]
   conv=>whnf
   refine xE (.bH [oN (Dk.dying ⟨now,safe,fuse,ops,false⟩),iv 40]) [4,5] ?_ rfl ?_ ?_
   rotate_left 1
   ·trivial
   ·trivial
   conv=>whnf
   exact aX [] (by trivial)
  have hf:fuse≠0:=by simpa using h
  rw [if_neg hf]
  conv=>whnf
  apply ah<;>intro h
  ·conv=>whnf
   refine aI.i64 (by omega) ?_
   conv=>whnf
   (refine eX (by kernel_rfl) (au Tryz.func126 rfl mixed (by kernel_rfl) ?_);(conv=>whnf))
   refine aj [4] (by kernel_rfl) (yG G now h7 (by omega)) (by trivial) ?_
   rintro _ _ _ ⟨rfl,rfl,rfl⟩
   conv=>whnf
   refine MJ (by decide) ?_
   conv=>whnf
   refine aI.i64 (by omega) ?_
   conv=>whnf
   refine xE (.bH [oN (Dk.flush ⟨now,safe,fuse,ops,false⟩),iv 0]) [7] ?_ rfl ?_ ?_
   rotate_left 1
   ·trivial
   ·exact⟨⟨⟨rfl,rfl⟩,⟨rfl,rfl,rfl⟩,Eb (by simp at h;show (fuse-1)=if 0<fuse then fuse-1 else fuse;split<;>omega),rfl,rfl,trivial⟩,rfl,trivial⟩
   conv=>whnf
   exact aX [] (by trivial)
  ·conv=>whnf
   (refine eX (by kernel_rfl) (au Tryz.func126 rfl mixed (by kernel_rfl) ?_);(conv=>whnf))
   refine aj [4] (by kernel_rfl) (yG G now h7 (by omega)) (by trivial) ?_
   rintro _ _ _ ⟨rfl,rfl,rfl⟩
   conv=>whnf
   refine MJ (by decide) ?_
   conv=>whnf
   refine aI.i64 (by omega) ?_
   conv=>whnf
   refine xE (.bH [oN (Dk.flush ⟨now,safe,fuse,ops,false⟩),iv 0]) [7] ?_ rfl ?_ ?_
   rotate_left 1
   ·trivial
   ·exact⟨⟨⟨rfl,rfl⟩,⟨rfl,rfl,rfl⟩,Eb (by simp at h;show fuse=if 0<fuse then fuse-1 else fuse;split<;>omega),rfl,rfl,trivial⟩,rfl,trivial⟩
   conv=>whnf
   exact aX [] (by trivial)
abbrev jB (s:So):List AV:=yF s.d++ [iv s.gen,iv s.half,iv s.next,iv s.frame,el s.ev]
abbrev stA (s:So):AV:= .agg (jB s)
theorem TB {l:List By}{i:Nat}(h:i<l.length):(l.take (i+1)).map Af=(l.take i).map Af++ [[.lst 1 (l[i].map dW)]]:=by
 rw [List.take_succ_eq_append_getElem h,List.map_append];rfl
theorem H8 (G:Glob)(l:List By)(h64:OB l)(hl:l.length≤1000):bD Tryz.prog G 77 [ss l] 0 [] (Is (ss l)):=by
 refine au Tryz.func77 rfl mixed (by kernel_rfl) ?_
 conv=>whnf
 refine bg ZP 1 [3,8] (fun i:Nat=> [(3, .own 0),(8,iv i)]) (fun i=> [(0, .rows 22 1 ((l.take i).map Af))]) (fun i=>i≤l.length) (fun i=>l.length-i) [(0, .nil)] [] 0 (by kernel_rfl) (fun _=>rfl) rfl (Nat.zero_le _) (by trivial) (by trivial) ?_
 intro i hi
 conv=>whnf
 apply ah<;>intro h
 rotate_left 1
 ·have hie:i=l.length:=by simp at h;omega
  subst hie
  rw [List.take_length]
  conv=>whnf
  exact aX [0] (by trivial)
 have hlt:i<l.length:=by simp at h;omega
 have h6:=h64 l[i] (List.getElem_mem hlt)
 conv=>whnf
 refine bC.mk' i rfl (fQ hlt) ?_
 conv=>whnf
 refine aS.aA (List.getElem?_eq_getElem hlt) ?_
 conv=>whnf
 refine aj [] (by kernel_rfl) (uj G l[i] (fun e=>by rw [e]at h6;cases h6) (by omega)) (by trivial) ?_
 rintro _ _ _ ⟨rfl,rfl,rfl⟩
 conv=>whnf
 refine ay.mk (aG (by simp only [List.length_map,List.length_take,List.length_cons,List.length_nil];omega) (by kernel_rfl)) ?_
 conv=>whnf
 refine aI.i64 (by omega) ?_
 conv=>whnf
 exact aF (i+1) [(0, .lab 3)] [] rfl (by show l.length -(i+1)<l.length-i;omega) hlt ⟨⟨rfl,rfl,(TB hlt).symm⟩,trivial⟩ ⟨rfl,rfl,trivial⟩
theorem AU (G:Glob)(d:Dk)(h:d.ok):bD Tryz.prog G 42 [oN d] 0 [] (Is (oN d)):=by
 have hhi:=h.hi
 have hsf:=h.sf
 refine au Tryz.func42 rfl mixed (by kernel_rfl) ?_
 conv=>whnf
 (refine aP acg [] (by kernel_rfl) ?_;conv=>whnf)
 repeat' (first
  | (refine aj [] (by kernel_rfl) (H8 G d.now h.n64 (by omega)) ?_ ?_;(focus (trivial;done));rintro _ _ _ ⟨rfl,rfl,rfl⟩;conv=>whnf)
  | (refine aj [] (by kernel_rfl) (H8 G d.safe h.f64 (by omega)) ?_ ?_;(focus (trivial;done));rintro _ _ _ ⟨rfl,rfl,rfl⟩;conv=>whnf))
 exact aX [] (by trivial)
theorem leftA (G:Glob)(d d':Dk)(h:d'.ok):bD Tryz.prog G 90 [oN d,oN d'] 0 [] (Is (oN d')):=by
 refine au Tryz.func90 rfl mixed (by kernel_rfl) ?_
 conv=>whnf
 (refine bf [] (by kernel_rfl) (J6 G d' h) rfl ?_ ?_;(focus trivial))
 conv=>whnf
 exact aX [] (by trivial)
theorem TD (G:Glob)(d:Dk)(h:d.ok):bD Tryz.prog G 90 [oN d,oN Dk.zero] 0 [] (Is (oN d)):=by
 refine au Tryz.func90 rfl mixed (by kernel_rfl) ?_
 conv=>whnf
 (refine bf [] (by kernel_rfl) (X7 G) rfl ?_ ?_;(focus trivial))
 conv=>whnf
 refine aj [] (by kernel_rfl) (AU G d h) (by trivial) ?_
 rintro _ _ _ ⟨rfl,rfl,rfl⟩
 conv=>whnf
 exact aX [] (by trivial)
theorem J8 (G:Glob)(d:Dk):bD Tryz.prog G 41 [oN d,iv 40] 0 [] (Is (.bH [stA (So.jA d),iv 40])):=by
 refine au Tryz.func41 rfl mixed (by kernel_rfl) ?_
 conv=>whnf
 exact aX [] (by trivial)
structure WS where
 d:Dk
 i:Nat
theorem ML (G:Glob)(d:Dk)(h:d.ok)(at_:Nat)(l:List By)(h64:OB l)(hat:at_+l.length≤d.now.length):bD Tryz.prog G 59 [oN d,iv at_,ss l] 0 [] (Is (.bH [oN (rJ d at_ l).1,iv (rJ d at_ l).2])):=by
 have hhi:=h.hi
 refine au Tryz.func59 rfl mixed (by kernel_rfl) ?_
 conv=>whnf
 refine bg ZL 2 [16] (fun x:WS=> [(16,iv x.i)]) (fun x=> [(0, .var 40 (yF x.d)),(1, .var 40 [.v (.slice none 0 0), .v (.slice none 0 0),iv 0,iv 0,bv false])]) (fun x=>x.i≤l.length∧x.d.ok∧x.d.now.length=d.now.length∧rJ d at_ l=rJ x.d (at_+x.i) (l.drop x.i)) (fun x=>l.length-x.i) [] [] ⟨d,0⟩ (by kernel_rfl) (fun _=>rfl) rfl ⟨Nat.zero_le _,h,rfl,rfl⟩ (by trivial) (by trivial) ?_
 rintro⟨d1,i⟩ ⟨hi,hok,hlen,hw⟩
 dsimp only at hi hok hlen hw
 rw [hw]
 conv=>whnf
 apply ah<;>intro h
 ·have hlt:i<l.length:=by simp at h;omega
  have h6:=h64 l[i] (List.getElem_mem hlt)
  have hstep:rJ d1 (at_+i) (l.drop i)=if d1.dead then(d1,40)else if d1.fuse=0 then(d1.dying,40)else rJ (d1.put (at_+i) l[i]) (at_+i+1) (l.drop (i+1)):=by
   rw [List.drop_eq_getElem_cons hlt];rfl
  have hW:=X8 G d1 hok (at_+i) (by omega) l[i] h6
  unfold dWt at hW
  conv=>whnf
  refine bC.mk' i rfl (fQ hlt) ?_
  conv=>whnf
  refine aS.aA (List.getElem?_eq_getElem hlt) ?_
  conv=>whnf
  refine aI.to (y:=((at_+i:Nat):Int)) (by dsimp only;rw [IntWalk.i64_in _ (by omega)];omega) ?_
  conv=>whnf
  rcases Bool.eq_false_or_eq_true d1.dead with hd | hd
  ·skip
   rw [hd,if_pos rfl]at hW hstep
   rw [hstep]
   refine aj [] (by kernel_rfl) hW (by trivial) ?_
   rintro _ _ _ ⟨rfl,rfl,rfl⟩
   conv=>whnf
   refine aj [] (by kernel_rfl) (TD G d1 hok) (by trivial) ?_
   rintro _ _ _ ⟨rfl,rfl,rfl⟩
   conv=>whnf
   exact aX [] (by trivial)
  ·rw [hd,if_neg (by decide)]at hW hstep
   by_cases hf:d1.fuse=0
   ·rw [if_pos hf]at hW hstep
    rw [hstep]
    refine aj [] (by kernel_rfl) hW (by trivial) ?_
    rintro _ _ _ ⟨rfl,rfl,rfl⟩
    conv=>whnf
    refine aj [] (by kernel_rfl) (leftA G d1 d1.dying hok.dying) (by trivial) ?_
    rintro _ _ _ ⟨rfl,rfl,rfl⟩
    conv=>whnf
    exact aX [] (by trivial)
   ·rw [if_neg hf]at hW hstep
    refine aj [] (by kernel_rfl) hW (by trivial) ?_
    rintro _ _ _ ⟨rfl,rfl,rfl⟩
    conv=>whnf
    refine aI.i64 (by dsimp only;omega) ?_
    conv=>whnf
    refine aF ⟨d1.put (at_+i) l[i],i+1⟩ [] [] rfl (by show l.length -(i+1)<l.length-i;omega) ⟨hlt,hok.put h6, ?_,hstep⟩ (by trivial) ⟨rfl,trivial⟩
    show (d1.now.set (at_+i) l[i]).length=d.now.length
    rw [List.length_set];exact hlen
 have hie:i=l.length:=by simp at h;omega
 subst hie
 have hstep:rJ d1 (at_+l.length) (l.drop l.length)=if d1.dead then(d1,40)else if d1.fuse=0 then(d1.dying,40)else(d1.flush,0):=by
  rw [List.drop_length];rfl
 have hW:=X9 G d1 hok
 unfold dFl at hW
 rw [hstep]
 conv=>whnf
 rcases Bool.eq_false_or_eq_true d1.dead with hd | hd
 ·skip
  rw [hd,if_pos rfl]at hW
  simp only [if_pos hd]
  refine aj [] (by kernel_rfl) hW (by trivial) ?_
  rintro _ _ _ ⟨rfl,rfl,rfl⟩
  conv=>whnf
  refine aj [] (by kernel_rfl) (TD G d1 hok) (by trivial) ?_
  rintro _ _ _ ⟨rfl,rfl,rfl⟩
  conv=>whnf
  exact aX [] (by trivial)
 ·rw [hd,if_neg (by decide)]at hW
  simp only [if_neg (show ¬(d1.dead=true) by rw [hd];decide)]
  by_cases hf:d1.fuse=0
  ·rw [if_pos hf]at hW ⊢
   refine aj [] (by kernel_rfl) hW (by trivial) ?_
   rintro _ _ _ ⟨rfl,rfl,rfl⟩
   conv=>whnf
   refine aj [] (by kernel_rfl) (leftA G d1 d1.dying hok.dying) (by trivial) ?_
   rintro _ _ _ ⟨rfl,rfl,rfl⟩
   conv=>whnf
   exact aX [] (by trivial)
  ·rw [if_neg hf]at hW ⊢
   refine aj [] (by kernel_rfl) hW (by trivial) ?_
   rintro _ _ _ ⟨rfl,rfl,rfl⟩
   conv=>whnf
   refine aj [] (by kernel_rfl) (leftA G d1 d1.flush hok.flush) (by trivial) ?_
   rintro _ _ _ ⟨rfl,rfl,rfl⟩
   conv=>whnf
   exact aX [] (by trivial)
section
attribute [local irreducible] num hsh oV kC gG lg tY rO
def NxR (l:List By)(a:AV)(n:Nat)(H:ak):Prop:= ∃k:Nat,a = .bH [iv (gG l).1,iv (gG l).2.1,iv k,bs (gG l).2.2.2.1,bv (gG l).2.2.2.2]∧n=0∧H = []∧((gG l).2.2.2.2=true→k=(gG l).2.2.1)
theorem TF (G:Glob)(l:List By)(hl:l.length≤1000):bD Tryz.prog G 78 [ss l] 0 [] (NxR l):=by
 have zero:gG l=XY→∀k:Nat,NxR l (.bH [iv 0,iv 0,iv k,bs [],bv false]) 0 []:=fun e k=>by
  unfold NxR;rw [e];exact⟨k,rfl,rfl,rfl,fun h=>by cases h⟩
 refine au Tryz.func78 rfl mixed (by kernel_rfl) ?_
 conv=>whnf
 apply ah<;>intro h
 ·have h0:l = []:=by simpa using h
  conv=>whnf
  exact aV (.bH [iv 0,iv 0,iv (0:Nat),bs [],bv false]) 0 [] [] [] (zero (by rw [h0,EJ]) 0) rfl trivial (by trivial)
 have h0:0<l.length:=List.length_pos_iff.2 (by simpa using h)
 conv=>whnf
 refine bC.mk' 0 rfl (fQ h0) ?_
 conv=>whnf
 refine aS.aA (List.getElem?_eq_getElem h0) ?_
 conv=>whnf
 refine aj [] (by kernel_rfl) (JW G l[0]) (by trivial) ?_
 rintro _ _ _ ⟨rfl,rfl,g,f,ix,m,rfl,hrd⟩
 conv=>whnf
 apply ah<;>intro h
 ·have hno:kC l[0]=false:=by simpa using h
  conv=>whnf
  exact aV (.bH [iv 0,iv 0,iv (0:Nat),bs [],bv false]) 0 [] [] [] (zero (MH h0 hno) 0) rfl trivial (by trivial)
 have hok:kC l[0]=true:=by simpa using h
 obtain⟨rfl,rfl,rfl,rfl⟩:=hrd hok
 conv=>whnf
 apply ah<;>intro h
 ·have hlg:l.length<hN l[0]:=by rw [List.length_map]at h;simp at h;omega
  conv=>whnf
  exact aV (.bH [iv 0,iv 0,iv (0:Nat),bs [],bv false]) 0 [] [] [] (zero (Tv h0 hlg) 0) rfl trivial (by trivial)
 have hle:hN l[0]≤l.length:=by rw [List.length_map]at h;simp at h;omega
 have hg:=X0 h0 hok hle
 have hB:=aa8 G (l.take (hN l[0])) (by rw [List.length_take];omega)
 unfold OE at hB
 conv=>whnf
 refine lT.mk' 0 (hN l[0]) rfl rfl (Nat.zero_le _) (by rw [List.length_map];exact hle) ?_
 conv=>whnf
 refine aj [] (by kernel_rfl) hB ⟨⟨rfl,List.map_take.symm⟩,trivial⟩ ?_
 rintro _ _ _ ⟨rfl,rfl,rfl⟩
 conv=>whnf
 (refine aP acj [] (by kernel_rfl) ?_;conv=>whnf)
 rcases wE (l.take (hN l[0]))with ⟨g',f',b',hx,e⟩ | ⟨_,e⟩
 ·rw [e]at hg
  have hg:gG l=(((g':Nat):Int),((f':Nat):Int),hN l[0],b',true):=hg
  refine aV (.bH [iv g',iv f',iv (hN l[0]:Nat),bs b',bv true]) 0 [] [] [] ?_ rfl trivial ?_
  ·unfold NxR;rw [hg];exact⟨_,rfl,rfl,rfl,fun _=>rfl⟩
  ·rw [e];trivial
 ·rw [e]at hg
  have hg:gG l=XY:=hg
  refine aV (.bH [iv 0,iv 0,iv (hN l[0]:Nat),bs [],bv false]) 0 [] [] [] (zero hg _) rfl trivial ?_
  rw [e];trivial
structure LS where
 fr:List By
 at_:Nat
 n:Nat
theorem YT (G:Glob)(l:List By)(hl:l.length≤1000):bD Tryz.prog G 43 [ss l] 0 [] (Is (.bH [iv (EL l),ss (xM l),bv (AO l)])):=by
 refine au Tryz.func43 rfl mixed (by kernel_rfl) ?_
 conv=>whnf
 refine aj [] (by kernel_rfl) (TF G l hl) (by trivial) ?_
 rintro _ _ _ ⟨k,rfl,rfl,rfl,hk⟩
 obtain⟨g,f,n,b,ok,hq⟩ : ∃g f n b ok,gG l=(g,f,n,b,ok):=⟨_,_,_,_,_,rfl⟩
 have abh:AO l=(ok&&decide (f=0)):=by rw [uh,hq]
 have hgo:=MI (g:=g) (l:=l) (k:=0)
 have hnx:= @rM l
 have adn:(gG l).1=g:=by rw [hq]
 rw [hq]at hk hgo hnx ⊢
 dsimp only at hk hgo hnx ⊢
 conv=>whnf
 apply ah<;>intro h
 ·have hz:AO l=false:=by rw [abh];simp at h;rw [h];rfl
  unfold EL xM
  rw [hz]
  conv=>whnf
  exact aX [] (by trivial)
 have hok:ok=true:=by simpa using h
 subst hok
 conv=>whnf
 apply ah<;>intro h
 ·have hz:AO l=false:=by rw [abh];simp at h;simp [h]
  unfold EL xM
  rw [hz]
  conv=>whnf
  exact aX [] (by trivial)
 have hf:f=0:=by simpa using h
 subst hf
 have hy:AO l=true:=by rw [abh];rfl
 have hG:EL l=g:=by unfold EL;rw [if_pos hy,adn]
 have hF:xM l=b::lg g (l.drop n) 1:=by unfold xM;rw [if_pos hy,adn];exact hgo ⟨rfl,rfl,rfl⟩
 obtain⟨g0,f0,b0,_,e0,e1,e2⟩:=hnx rfl
 injection e0 with _ e0
 injection e0 with _ e0
 injection e0 with e0 _
 obtain rfl:=hk rfl
 rw [hy,hG,hF]
 conv=>whnf
 refine bg ZC 2 [7,10,11] (fun x:LS=> [(7,iv x.n),(10, .own 1),(11,iv x.at_)]) (fun x=> [(1, .rows 22 1 (x.fr.map Af))]) (fun x=>x.at_≤l.length∧x.fr.length≤x.at_∧b::lg g (l.drop k) 1=x.fr++lg g (l.drop x.at_) x.fr.length) (fun x=>l.length-x.at_) [(1, .lab 0)] [] ⟨[b],k,k⟩ (by kernel_rfl) (fun _=>rfl) rfl ⟨by show k≤l.length;omega,by show 1≤k;omega,rfl⟩ (by trivial) (by trivial) ?_
 rintro⟨fr,at_,n'⟩ ⟨hat,hfl,hI⟩
 dsimp only at hat hfl hI
 conv=>whnf
 refine lT.mk' at_ l.length rfl (by rw [List.length_map]) hat (by rw [List.length_map];exact Nat.le_refl _) ?_
 conv=>whnf
 refine aj [] (by kernel_rfl) (TF G (l.drop at_) (by rw [List.length_drop];omega)) ⟨⟨rfl,List.map_drop.symm⟩,trivial⟩ ?_
 rintro _ _ _ ⟨k2,rfl,rfl,rfl,hk2⟩
 obtain⟨g2,f2,n2,b2,ok2,hq2⟩ : ∃g f n b ok,gG (l.drop at_)=(g,f,n,b,ok):=⟨_,_,_,_,_,rfl⟩
 have abj:=MI (g:=g) (l:=l.drop at_) (k:=fr.length)
 have hst2:=EK (g:=g) (l:=l.drop at_) (k:=fr.length)
 have hnx2:= @rM (l.drop at_)
 rw [hq2]at hk2 abj hst2 hnx2 ⊢
 dsimp only at hk2 abj hst2 hnx2 ⊢
 rw [hI]
 conv=>whnf
 apply ah<;>intro h
 ·have ho:ok2=false:=by simpa using h
  rw [hst2 (by rw [ho];simp),List.append_nil]
  conv=>whnf
  exact aX [1] (by trivial)
 have hok2:ok2=true:=by simpa using h
 subst hok2
 conv=>whnf
 apply ah<;>intro h
 ·have ho:g2≠g:=by simpa using h
  rw [hst2 (fun hx=>ho hx.2.1),List.append_nil]
  conv=>whnf
  exact aX [1] (by trivial)
 have hg2:g2=g:=by simpa using h
 subst hg2
 conv=>whnf
 apply ah<;>intro h
 ·have ho:f2≠(fr.length:Int):=by simpa using h
  rw [hst2 (fun hx=>ho hx.2.2),List.append_nil]
  conv=>whnf
  exact aX [1] (by trivial)
 have hf2:f2=(fr.length:Int):=by simpa using h
 subst hf2
 obtain⟨g3,f3,b3,_,e3,e4,e5⟩:=hnx2 rfl
 injection e3 with _ e3
 injection e3 with _ e3
 injection e3 with e3 _
 obtain rfl:=hk2 rfl
 rw [List.length_drop]at e4
 conv=>whnf
 refine ay.mk (aG (by simp only [List.length_map,List.length_cons,List.length_nil];omega) (by kernel_rfl)) ?_
 conv=>whnf
 refine aI.to (y:=((at_+k2:Nat):Int)) (by rw [IntWalk.i64_in _ (by omega)];omega) ?_
 conv=>whnf
 refine aF ⟨fr++ [b2],at_+k2,k2⟩ [(1, .lab 3)] [] rfl (by show l.length -(at_+k2)<l.length-at_;omega) ⟨by show at_+k2≤l.length;omega,by show (fr++ [b2]).length≤at_+k2;rw [List.length_append];simp only [List.length_cons,List.length_nil];omega, ?_⟩ ⟨⟨rfl,rfl,(YS fr b2).symm⟩,trivial⟩ ⟨rfl,rfl,rfl,trivial⟩
 show fr++lg g2 (l.drop at_) fr.length=(fr++ [b2])++lg g2 (l.drop (at_+k2)) (fr++ [b2]).length
 rw [abj ⟨rfl,rfl,rfl⟩,List.drop_drop,List.length_append,List.append_assoc]
 rfl
end
section
open Go.Proofs.YtocckceefcmeaaaGreatDoor.Ky
attribute [local irreducible] num hsh oV kC gG lg tY tab kL wG
theorem TG (l:List Ev)(hs:l.length≤10000):bD Tryz.prog GS 80 [el l] 0 [] (Is (el l)):=by
 by_cases hl:l = []
 ·subst hl
  refine au Tryz.func80 rfl mixed (by kernel_rfl) ?_
  conv=>whnf
  refine⟨fun b hb=> ?_⟩
  cases b with
  | true=>
   conv=>whnf
   exact aX [] (by trivial)
  | false=>
   conv=>whnf
   refine ay.mk (C9 (by decide)) ?_
   conv=>whnf
   exact aX [1] (by trivial)
 ·exact bD.Bj (MC l hl hs)
structure ES2 where
 out:List Ev
 i:Nat
theorem AX (a b:List Ev):a.map jg++b.map jg=(a++b).map jg:=List.map_append.symm
theorem H9 (fr:List By)(hl:fr.length≤1000)(hb : ∀b∈fr,b.length≤12240):bD Tryz.prog GS 44 [ss fr] 0 [] (Is (el (rO [] fr))):=by
 refine au Tryz.func44 rfl mixed (by kernel_rfl) ?_
 conv=>whnf
 refine bg ZE 1 [3,10] (fun x:ES2=> [(3, .own 0),(10,iv x.i)]) (fun x=> [(0, .rows 95 10 (x.out.map jg))]) (fun x=>x.i≤fr.length∧x.out.length≤512∧rO [] fr=rO x.out (fr.drop x.i)) (fun x=>fr.length-x.i) [(0, .nil)] [] ⟨[],0⟩ (by kernel_rfl) (fun _=>rfl) rfl ⟨Nat.zero_le _,Nat.zero_le _,rfl⟩ (by trivial) (by trivial) ?_
 rintro⟨out,i⟩ ⟨hi,ho,hI⟩
 dsimp only at hi ho hI
 conv=>whnf
 apply ah<;>intro h
 rotate_left 1
 ·have hie:i=fr.length:=by simp at h;omega
  subst hie
  have e:rO [] fr=out:=by rw [hI,List.drop_length];unfold rO;rfl
  rw [e]
  conv=>whnf
  exact aX [0] (by trivial)
 have hlt:i<fr.length:=by simp at h;omega
 have hbl:=hb fr[i] (List.getElem_mem hlt)
 have hstep:rO [] fr=if(tY fr[i]).2≠0∨512<out.length+(tY fr[i]).1.length then out else rO (out++(tY fr[i]).1) (fr.drop (i+1)):=by
  rw [hI,List.drop_eq_getElem_cons hlt];rfl
 conv=>whnf
 refine bC.mk' i rfl (fQ hlt) ?_
 conv=>whnf
 refine aS.aA (List.getElem?_eq_getElem hlt) ?_
 conv=>whnf
 refine aj [] (by kernel_rfl) (AL fr[i] (by omega)) (by trivial) ?_
 rintro _ _ _ ⟨l,e,hR,rfl,rfl,rfl⟩
 have hrd:=Tq hR
 have hll:=hR.2.1
 rw [hrd]at hstep
 conv=>whnf
 apply ah<;>intro h
 ·have he:e≠0:=by simpa using h
  rw [if_pos (.inl he)]at hstep
  rw [hstep]
  conv=>whnf
  exact aX [0] (by trivial)
 have he:e=0:=by simpa using h
 subst he
 conv=>whnf
 refine aI.i64 (by simp only [List.length_map];omega) ?_
 conv=>whnf
 apply ah<;>intro h
 ·have hg:512<out.length+l.length:=by simp only [List.length_map]at h;simp at h;omega
  rw [if_pos (.inr hg)]at hstep
  rw [hstep]
  conv=>whnf
  exact aX [0] (by trivial)
 have hg : ¬512<out.length+l.length:=by simp only [List.length_map]at h;simp at h;omega
 rw [if_neg (by simp only [not_or];exact⟨by simp,hg⟩)]at hstep
 conv=>whnf
 refine ay.mk (C9 (by simp only [List.length_map];omega)) ?_
 conv=>whnf
 refine aI.i64 (by dsimp only;omega) ?_
 conv=>whnf
 exact aF ⟨out++l,i+1⟩ [(0, .lab 1)] [] rfl (by show fr.length -(i+1)<fr.length-i;omega) ⟨hlt,by show (out++l).length≤512;rw [List.length_append];omega,hstep⟩ ⟨⟨rfl,rfl,AX out l⟩,trivial⟩ ⟨rfl,rfl,trivial⟩
theorem TI {a:Int}{l:List By}{i:Nat}(h:i<l.length):ni a (l.take (i+1))=if kC l[i]then max (ni a (l.take i)) (hG l[i]:Int)else ni a (l.take i):=by
 unfold ni
 rw [List.take_succ_eq_append_getElem h,List.foldl_append];rfl
theorem AY {l:List Ev}(hok : ∀e∈l,e.ok)(h:kD l=0):(tab l).length≤2300000:=by
 have h0:=pO h
 have hn:nC l≤32:=by unfold nC;omega
 have:=HY hok (AA h0.2) (nC l) (Nat.le_refl _)
 have h2:tab l=Az l (nC l):=by unfold tab;rfl
 rw [h2]
 omega
theorem wH {s:So}(h:kJ (ni s.gen s.d.now+1) 0 (tab s.ev)≠0∨s.d.now.length/2<nS (tab s.ev)):lV s=(So.zero,19):=by
 unfold lV;rw [if_pos h]
theorem yH {s:So}(h : ¬(kJ (ni s.gen s.d.now+1) 0 (tab s.ev)≠0∨s.d.now.length/2<nS (tab s.ev))){d:Dk}{e:Int}(hw:rJ s.d ((1-s.half).toNat*(s.d.now.length/2)) (qO (ni s.gen s.d.now+1) 0 (tab s.ev))=(d,e)) :
  lV s=if e≠0 then(So.jA d,40)else(⟨d,ni s.gen s.d.now+1,1-s.half,(nS (tab s.ev):Nat),1,s.ev⟩,0):=by
 unfold lV;rw [if_neg h,hw]
theorem um {g f:Int}{b:By}(h:kJ g f b=0):(qO g f b).length=nS b∧OB (qO g f b):=by
 unfold qO;rw [if_pos h];exact⟨dX _ _ _,fun s hs=>G6 hs⟩
theorem wI (s:So)(hd:s.d.ok)(he:(∀e∈s.ev,e.ok)∧kD s.ev=0)(hg:0≤s.gen∧s.gen≤4294967295)(hh:s.half=0∨s.half=1):bD Tryz.prog GS 45 [stA s] 0 [] (Is (.bH [stA (lV s).1,iv (lV s).2])):=by
 have hhi:=hd.hi
 refine au Tryz.func45 rfl mixed (by kernel_rfl) ?_
 conv=>whnf
 refine rE ZF [4,21] (fun i:Nat=> [(4,iv (ni s.gen (s.d.now.take i))),(21,iv i)]) (fun i=>i≤s.d.now.length) (fun i=>s.d.now.length-i) 0 (by kernel_rfl) (fun _=>rfl) (by kernel_rfl) (Nat.zero_le _) (by trivial) (by trivial) ?_
 intro i hi
 conv=>whnf
 apply ah<;>intro h
 ·have hlt:i<s.d.now.length:=by simp at h;omega
  conv=>whnf
  refine bC.mk' i rfl (fQ hlt) ?_
  conv=>whnf
  refine aS.aA (List.getElem?_eq_getElem hlt) ?_
  conv=>whnf
  refine aj [] (by kernel_rfl) (JW GS s.d.now[i]) (by trivial) ?_
  rintro _ _ _ ⟨rfl,rfl,g,f,ix,m,rfl,hrd⟩
  conv=>whnf
  have hs:=TI (a:=s.gen) hlt
  apply ah<;>intro h
  ·obtain⟨rfl,rfl,rfl,rfl⟩:=hrd h
   rw [if_pos h]at hs
   conv=>whnf
   refine aI.i64 (by omega) ?_
   conv=>whnf
   exact aF (i+1) [] [] rfl (by show s.d.now.length -(i+1)<s.d.now.length-i;omega) hlt (by trivial) ⟨Eb hs.symm,rfl,trivial⟩
  ·rw [h,if_neg (by decide)]at hs
   conv=>whnf
   refine aI.i64 (by omega) ?_
   conv=>whnf
   exact aF (i+1) [] [] rfl (by show s.d.now.length -(i+1)<s.d.now.length-i;omega) hlt (by trivial) ⟨Eb hs.symm,rfl,trivial⟩
 have hie:i=s.d.now.length:=by simp at h;omega
 subst hie
 rw [List.take_length]
 have hT:=tX s.ev he.1 (by have:=(pO he.2).1;omega)
 have e1:Ir s.ev=tab s.ev:=by unfold Ir;rw [if_pos he.2]
 rw [e1,he.2]at hT
 conv=>whnf
 refine aj [] (by kernel_rfl) hT (by trivial) ?_
 rintro _ _ _ ⟨rfl,rfl,rfl⟩
 conv=>whnf
 have hgr:=aa2 (l:=s.d.now) hg.2
 have afU:=J4 (l:=s.d.now) (a:=s.gen)
 refine ay.mk (by decide) ?_
 rw [List.length_map]
 refine aI.divN s.d.now.length 2 (by omega) ?_
 conv=>whnf
 refine aI.i64 (by omega) ?_
 conv=>whnf
 refine aj [] (by kernel_rfl) (tZ GS (ni s.gen s.d.now+1) 0 (tab s.ev) (by have:=AY he.1 he.2;omega)) (by trivial) ?_
 rintro _ _ _ ⟨rfl,rfl,rfl⟩
 conv=>whnf
 apply ah<;>intro h
 ·have hne:kJ (ni s.gen s.d.now+1) 0 (tab s.ev)≠0:=by simpa using h
  rw [wH (.inl hne)]
  conv=>whnf
  exact aX [] (by trivial)
 have he0:kJ (ni s.gen s.d.now+1) 0 (tab s.ev)=0:=by simpa using h
 obtain⟨hL1,hL2⟩:=um he0
 conv=>whnf
 apply ah<;>intro h
 ·have hlt:s.d.now.length/2<nS (tab s.ev):=by rw [List.length_map,hL1]at h;simp at h;omega
  rw [wH (.inr hlt)]
  conv=>whnf
  exact aX [] (by trivial)
 have hle:nS (tab s.ev)≤s.d.now.length/2:=by rw [List.length_map,hL1]at h;simp at h;omega
 obtain⟨hv,hhv,hh2⟩ : ∃hv:Nat,1-s.half=(hv:Int)∧hv≤1:=⟨(1-s.half).toNat,by omega,by omega⟩
 obtain⟨d,e,hw⟩ : ∃d e,rJ s.d ((1-s.half).toNat*(s.d.now.length/2)) (qO (ni s.gen s.d.now+1) 0 (tab s.ev))=(d,e):=⟨_,_,rfl⟩
 rw [yH (by omega) hw]
 have hm:hv*(s.d.now.length/2)≤s.d.now.length/2:=by
  have:=Nat.mul_le_mul_right (s.d.now.length/2) hh2
  omega
 rw [hhv,Int.toNat_natCast]at hw
 have hwo:=EH (at_:=hv*(s.d.now.length/2)) hd hL2
 have hW:=ML GS s.d hd (hv*(s.d.now.length/2)) (qO (ni s.gen s.d.now+1) 0 (tab s.ev)) hL2 (by rw [hL1];omega)
 rw [hw]at hwo hW
 conv=>whnf
 refine aI.to (y:=(hv:Int)) (by rw [hhv];exact IntWalk.i64_in _ (by omega)) ?_
 conv=>whnf
 refine aI.to (y:=((hv*(s.d.now.length/2):Nat):Int)) (by rw [IntWalk.i64_in _ (by rw [←Int.natCast_mul];omega)];omega) ?_
 conv=>whnf
 refine aj [] (by kernel_rfl) hW (by trivial) ?_
 rintro _ _ _ ⟨rfl,rfl,rfl⟩
 conv=>whnf
 apply ah<;>intro h
 ·have hne:e≠0:=by simpa using h
  have h40:e=40:=by rcases hwo.2.2 with h | h;exact absurd h hne;exact h.1
  subst h40
  rw [if_pos hne]
  conv=>whnf
  refine aj [] (by kernel_rfl) (J8 GS d) (by trivial) ?_
  rintro _ _ _ ⟨rfl,rfl,rfl⟩
  conv=>whnf
  exact aX [] (by trivial)
 have abk:e=0:=by simpa using h
 rw [if_neg (by rw [abk];simp)]
 conv=>whnf
 rw [hhv]
 (refine aP ach [] (by kernel_rfl) ?_;conv=>whnf)
 refine aI.i64 (by omega) ?_
 conv=>whnf
 refine aj [] (by kernel_rfl) (TG s.ev (by have:=(pO he.2).1;omega)) (by trivial) ?_
 rintro _ _ _ ⟨rfl,rfl,rfl⟩
 conv=>whnf
 refine aX [] ⟨⟨⟨rfl,rfl⟩,⟨rfl,rfl⟩,rfl,rfl,rfl,rfl,rfl,congrArg (fun n:Nat=>Value.int .i64 (n:Int)) (by rw [List.length_map,hL1]),rfl,⟨rfl,rfl⟩,trivial⟩,rfl,trivial⟩
theorem Ya {l:List Ev} : kL l=0↔∀e∈l,uJ e=0:=by
 induction l with
 | nil=>simp [kL]
 | cons e r ih=>
  unfold kL
  by_cases h:uJ e=0
  ·rw [if_neg (by simpa using h),ih]
   simp [h]
  ·rw [if_pos h]
   simp [h]
theorem EM {l:List Ev} : kD l=0↔l.length≤512∧∀e∈l,uJ e=0:=by
 unfold kD
 split
 ·constructor
  ·intro h;simp at h
  ·intro h;omega
 ·rw [Ya]
  constructor
  ·intro h;exact⟨by omega,h⟩
  ·intro h;exact h.2
theorem yI {a b:List Ev}(ha:kD a=0)(hb:kD b=0)(h:(a++b).length≤512):kD (a++b)=0:=by
 rw [EM]at *
 exact⟨h,fun e he=>(List.mem_append.1 he).elim (ha.2 e) (hb.2 e)⟩
theorem abl : ∀(fr:List By) (out:List Ev),(∀e∈out,e.ok)→kD out=0→(∀e∈rO out fr,e.ok)∧kD (rO out fr)=0:=by
 intro fr
 induction fr with
 | nil=>intro out h1 h2;unfold rO;exact⟨h1,h2⟩
 | cons b r ih=>
  intro out h1 h2
  unfold rO
  split
  ·exact⟨h1,h2⟩
  ·rename_i hc
   have hr:=aa3 b
   simp only [not_or]at hc
   have h0:(tY b).2=0:=by simpa using hc.1
   refine ih _ (fun e he=>(List.mem_append.1 he).elim (h1 e) (hr.1 e)) (yI h2 (hr.2.2.1 h0).1 (by rw [List.length_append];omega))
theorem yJ:kD []=0:=EM.2 ⟨Nat.zero_le _,fun e he=>by cases he⟩
theorem uo (l:List By):(xM l).length≤l.length∧∀b∈xM l,b.length≤12240:=by
 unfold xM
 split
 ·exact aa9 (Nat.le_refl _)
 ·exact⟨Nat.zero_le _,fun b hb=>by cases hb⟩
theorem uq {l:List By}(h:AO l=true):OC l=rO [] (xM l):=by
 unfold OC xM;rw [if_pos h];unfold lg;rfl
theorem TJ (l:List By):(∀e∈OC l,e.ok)∧kD (OC l)=0:=abl _ [] (fun e he=>by cases he) yJ
theorem TK (a b:List By):((∀e∈(hlf a b).2,e.ok)∧kD (hlf a b).2=0)∧((hlf a b).1=0∨(hlf a b).1=1):=by
 unfold hlf
 split
 ·exact⟨TJ a, .inl rfl⟩
 ·split
  ·exact⟨TJ b, .inr rfl⟩
  ·exact⟨⟨(fun e he=>by cases he),yJ⟩, .inr rfl⟩
theorem fP (d:Dk)(hd:d.ok):bD Tryz.prog GS 16 [oN d] 0 [] (Is (.bH [stA (iK d).1,iv (iK d).2])):=by
 have hhi:=hd.hi
 have hR:=abg GS d hd
 unfold xC at hR
 refine au Tryz.func16 rfl mixed (by kernel_rfl) ?_
 conv=>whnf
 refine aj [] (by kernel_rfl) hR (by trivial) ?_
 rintro _ _ _ ⟨rfl,rfl,b0,rfl⟩
 conv=>whnf
 rcases Bool.eq_false_or_eq_true d.dead with hdd | hdd
 ·have e:iK d=(So.jA d,40):=by unfold iK;rw [if_pos hdd]
  rw [if_pos hdd,e]
  conv=>whnf
  refine aj [] (by kernel_rfl) (AU GS d hd) (by trivial) ?_
  rintro _ _ _ ⟨rfl,rfl,rfl⟩
  conv=>whnf
  refine aj [] (by kernel_rfl) (J8 GS d) (by trivial) ?_
  rintro _ _ _ ⟨rfl,rfl,rfl⟩
  conv=>whnf
  exact aX [] (by trivial)
 have hnd : ¬d.dead=true:=by rw [hdd];decide
 have e:iK d=lV ⟨d,0,(hlf (d.now.take (d.now.length/2)) (d.now.drop (d.now.length/2))).1,0,0,(hlf (d.now.take (d.now.length/2)) (d.now.drop (d.now.length/2))).2⟩:=by unfold iK;rw [if_neg hnd]
 rw [if_neg hnd,e]
 conv=>whnf
 refine ay.mk (by decide) ?_
 rw [List.length_map]
 refine aI.divN d.now.length 2 (by omega) ?_
 conv=>whnf
 refine lT.mk' 0 (d.now.length/2) rfl rfl (Nat.zero_le _) (by rw [List.length_map];omega) ?_
 conv=>whnf
 refine aj [] (by kernel_rfl) (YT GS (d.now.take (d.now.length/2)) (by rw [List.length_take];omega)) ⟨⟨rfl,List.map_take.symm⟩,trivial⟩ ?_
 rintro _ _ _ ⟨rfl,rfl,rfl⟩
 conv=>whnf
 refine lT.mk' (d.now.length/2) d.now.length rfl (by rw [List.length_map]) (by omega) (by rw [List.length_map];exact Nat.le_refl _) ?_
 conv=>whnf
 refine aj [] (by kernel_rfl) (YT GS (d.now.drop (d.now.length/2)) (by rw [List.length_drop];omega)) ⟨⟨rfl,List.map_drop.symm⟩,trivial⟩ ?_
 rintro _ _ _ ⟨rfl,rfl,rfl⟩
 have hC:=fun h=>wI ⟨d,0,(hlf (d.now.take (d.now.length/2)) (d.now.drop (d.now.length/2))).1,0,0,(hlf (d.now.take (d.now.length/2)) (d.now.drop (d.now.length/2))).2⟩ hd (TK _ _).1 h (TK _ _).2
 have hC:=hC ⟨Int.le_refl _,by show (0:Int)≤4294967295;decide⟩
 have hA:=fun h=>H9 (xM (d.now.take (d.now.length/2))) h (uo _).2
 have hA:=hA (by have:=(uo (d.now.take (d.now.length/2))).1;rw [List.length_take]at this;omega)
 have hB:=fun h=>H9 (xM (d.now.drop (d.now.length/2))) h (uo _).2
 have hB:=hB (by have:=(uo (d.now.drop (d.now.length/2))).1;rw [List.length_drop]at this;omega)
 generalize d.now.take (d.now.length/2)=A at *
 generalize d.now.drop (d.now.length/2)=B at *
 conv=>whnf
 refine ah (fun ha=> ?_) (fun ha=> ?_)
 ·have hga:EL A=(gG A).1:=by unfold EL;rw [if_pos ha]
  conv=>whnf
  apply ah<;>intro h
  ·have hb:AO B=false:=by simpa using h
   have hx:hlf A B=(0,OC A):=by unfold hlf;rw [if_pos ⟨ha, .inl hb⟩]
   rw [hx]at hC ⊢
   conv=>whnf
   refine aj [] (by kernel_rfl) hA (by trivial) ?_
   rintro _ _ _ ⟨rfl,rfl,rfl⟩
   conv=>whnf
   rw [←uq ha]
   refine aj [] (by kernel_rfl) hC (by trivial) ?_
   rintro _ _ _ ⟨rfl,rfl,rfl⟩
   conv=>whnf
   exact aX [] (by trivial)
  have hb:AO B=true:=by simpa using h
  have hgb:EL B=(gG B).1:=by unfold EL;rw [if_pos hb]
  conv=>whnf
  apply ah<;>intro h
  ·have hle:(gG B).1≤(gG A).1:=by rw [←hga, ←hgb];simpa using h
   have hx:hlf A B=(0,OC A):=by unfold hlf;rw [if_pos ⟨ha, .inr hle⟩]
   rw [hx]at hC ⊢
   conv=>whnf
   refine aj [] (by kernel_rfl) hA (by trivial) ?_
   rintro _ _ _ ⟨rfl,rfl,rfl⟩
   conv=>whnf
   rw [←uq ha]
   refine aj [] (by kernel_rfl) hC (by trivial) ?_
   rintro _ _ _ ⟨rfl,rfl,rfl⟩
   conv=>whnf
   exact aX [] (by trivial)
  ·have hx:hlf A B=(1,OC B):=by
    unfold hlf
    rw [if_neg,if_pos hb]
    rintro⟨_,hy⟩
    rcases hy with hy | hy
    ·rw [hb]at hy;cases hy
    ·rw [←hga, ←hgb]at hy;simp at h;omega
   conv=>whnf
   rw [hb]
   rw [hx]at hC ⊢
   conv=>whnf
   refine aj [] (by kernel_rfl) hB (by trivial) ?_
   rintro _ _ _ ⟨rfl,rfl,rfl⟩
   conv=>whnf
   rw [←uq hb]
   refine aj [] (by kernel_rfl) hC (by trivial) ?_
   rintro _ _ _ ⟨rfl,rfl,rfl⟩
   conv=>whnf
   exact aX [] (by trivial)
 ·conv=>whnf
  apply ah<;>intro h
  ·have hb:AO B=true:=by simpa using h
   have hx:hlf A B=(1,OC B):=by
    unfold hlf
    rw [if_neg (fun hy=>by rw [ha]at hy;cases hy.1),if_pos hb]
   rw [hx]at hC ⊢
   conv=>whnf
   refine aj [] (by kernel_rfl) hB (by trivial) ?_
   rintro _ _ _ ⟨rfl,rfl,rfl⟩
   conv=>whnf
   rw [←uq hb]
   refine aj [] (by kernel_rfl) hC (by trivial) ?_
   rintro _ _ _ ⟨rfl,rfl,rfl⟩
   conv=>whnf
   exact aX [] (by trivial)
  ·have hb:AO B=false:=by simpa using h
   have hx:hlf A B=(1,[]):=by
    unfold hlf
    rw [if_neg (fun hy=>by rw [ha]at hy;cases hy.1),if_neg (by rw [hb];decide)]
   rw [hx]at hC ⊢
   conv=>whnf
   refine aj [] (by kernel_rfl) hC (by trivial) ?_
   rintro _ _ _ ⟨rfl,rfl,rfl⟩
   conv=>whnf
   exact aX [] (by trivial)
end
section
open Go.Proofs.YtocckceefcmeaaaGreatDoor.Ky
attribute [local irreducible] num hsh oV kC gG lg tY tab kL wG
def EN (e:Ev):List Value:=(jg e).map fun x=>match x with | .v w=>w | _=> .bool false
theorem OI (e:Ev):jg e=(EN e).map .v:=rfl
theorem TL (w:World):wQ Tryz.prog 88 #[.slice none 0 0, .int .i64 (0:Nat)] w fun v w'=>v = .slice none 0 0∧Below w.heap.size w w':=by
 refine fE Tryz.func88 rfl mixed (by kernel_rfl) ?_
 conv=>whnf
 refine Jw rfl ?_
 conv=>whnf
 exact kN.mk ⟨rfl,Below.refl _ _⟩
theorem Yb (n:Nat)(hl:n≤1000000):bD Tryz.prog GS 88 [.v (.slice none 0 0),iv n] 0 [] (lM 95 10 []):=by
 have key:=xk (P:=Tryz.prog) (G:=GS) (f:=88) (args:= [.v (.slice none 0 0),iv n]) (E:=95) (sz:=10) (enc:=jg) (c:=EN) OI (fun _=>rfl) (fun e v hv=>by
  simp only [EN,jg,List.map_cons,List.map_nil,List.mem_cons,List.not_mem_nil,or_false]at hv
  rcases hv with rfl | rfl | rfl | rfl | rfl | rfl | rfl | rfl | rfl | rfl<;>rfl) (l:= []) (fun w F σ vs hF r=>by
  match vs,r with
  | [u,y],⟨ru,ry,_⟩=>
   rw [ru.dH,ry.dH]
   rcases Nat.eq_zero_or_pos n with rfl | hn
   ·exact(TL w).mono fun v w' ⟨e,hB⟩=>⟨none,0,e,Own.nil _ _ _ _,hB⟩
   ·exact(Qy n w hn hl).mono fun v w' ⟨oa,c,e,hO,hB⟩=>⟨oa,c,e,hO,hB⟩)
 exact key
def Bz (a b:List Ev):List (List Ev):= [a,b]
theorem MN (a b:List Ev){i:Nat}(h:i<2):([[FV.lst 10 (a.map jg)],[FV.lst 10 (b.map jg)]]:List (List FV))[i]? = some [.lst 10 (((Bz a b).getD i []).map jg)]:=by
 match i,h with
 | 0,_=>rfl
 | 1,_=>rfl
theorem TM (a b:List Ev){i:Nat}(h:i<2):((Bz a b).take i).flatten.length+((Bz a b).getD i []).length≤a.length+b.length:=by
 match i,h with
 | 0,_=>simp [Bz]
 | 1,_=>simp [Bz]
theorem Ia (a b:List Ev){i:Nat}(h:i<2):((Bz a b).take (i+1)).flatten=((Bz a b).take i).flatten++(Bz a b).getD i []:=by
 match i,h with
 | 0,_=>simp [Bz]
 | 1,_=>simp [Bz]
attribute [local irreducible] Bz
theorem Yc (a b:List Ev)(hl:a.length+b.length≤100000):bD Tryz.prog GS 57 [.lst 1 [[.lst 10 (a.map jg)],[.lst 10 (b.map jg)]]] 0 [] (Is (el (a++b))):=by
 have e2:((Bz a b).take 2).flatten=a++b:=by unfold Bz;simp
 have e0:((Bz a b).take 0).flatten = []:=rfl
 refine au Tryz.func57 rfl mixed (by kernel_rfl) ?_
 conv=>whnf
 refine rE ZJ [3,11] (fun i:Nat=> [(3,iv (((Bz a b).take i).flatten.length:Nat)),(11,iv i)]) (fun i=>i≤2) (fun i=>2-i) 0 (by kernel_rfl) (fun _=>rfl) (by kernel_rfl) (Nat.zero_le _) (by trivial) ⟨by rw [e0];rfl,rfl,trivial⟩ ?_
 intro i hi
 conv=>whnf
 apply ah<;>intro h
 ·have hlt:i<2:=by simp at h;omega
  have hle:=TM a b hlt
  have hsu:=Ia a b hlt
  have hx:(((Bz a b).take (i+1)).flatten.length:Int)=(((Bz a b).take i).flatten.length:Int)+(((Bz a b).getD i []).length:Int):=by rw [hsu,List.length_append,Int.natCast_add]
  have hrow:=MN a b hlt
  generalize (Bz a b).getD i []=x at *
  conv=>whnf
  refine bC.mk' i rfl hlt ?_
  conv=>whnf
  refine aS.at hrow ?_
  conv=>whnf
  refine aI.to (y:=(((Bz a b).take (i+1)).flatten.length:Int)) (by rw [List.length_map,hx];exact IntWalk.i64_in _ (by omega)) ?_
  conv=>whnf
  refine aI.i64 (by omega) ?_
  conv=>whnf
  exact aF (i+1) [] [] rfl (by show 2 -(i+1)<2-i;omega) hlt (by trivial) ⟨rfl,rfl,trivial⟩
 have hie:i=2:=by simp at h;omega
 subst hie
 rw [e2]
 have hG:=Yb (a++b).length (by rw [List.length_append];omega)
 conv=>whnf
 refine aj [] (by kernel_rfl) hG (by trivial) ?_
 rintro _ _ _ ⟨rfl,rfl,rfl⟩
 conv=>whnf
 refine bg ZK 2 [6,27] (fun i:Nat=> [(6, .own 1),(27,iv i)]) (fun i=> [(1, .rows 95 10 (((Bz a b).take i).flatten.map jg))]) (fun i=>i≤2) (fun i=>2-i) [(1, .lab 0)] [] 0 (by kernel_rfl) (fun _=>rfl) rfl (Nat.zero_le _) (by trivial) (by trivial) ?_
 intro i hi
 conv=>whnf
 apply ah<;>intro h
 rotate_left 1
 ·have hie:i=2:=by simp at h;omega
  subst hie
  rw [e2]
  conv=>whnf
  exact aX [1] (by trivial)
 have hlt:i<2:=by simp at h;omega
 have hle:=TM a b hlt
 have hsu:=Ia a b hlt
 have hrow:=MN a b hlt
 generalize (Bz a b).getD i []=x at *
 conv=>whnf
 refine bC.mk' i rfl hlt ?_
 conv=>whnf
 refine aS.at hrow ?_
 conv=>whnf
 refine ay.mk (C9 (by simp only [List.length_map];omega)) ?_
 conv=>whnf
 refine aI.i64 (by omega) ?_
 conv=>whnf
 exact aF (i+1) [(1, .lab 2)] [] rfl (by show 2 -(i+1)<2-i;omega) hlt ⟨⟨rfl,rfl,by rw [hsu];exact AX _ _⟩,trivial⟩ ⟨rfl,rfl,trivial⟩
theorem ado (g:Int)(b:By)(half:Nat)(hb:b.length≤3000000)(hh:half≤1000):bD Tryz.prog GS 58 [iv g,bs b,iv half] 0 [] (Is (bv (decide (kJ g 0 b=0∧nS b≤half)))):=by
 refine au Tryz.func58 rfl mixed (by kernel_rfl) ?_
 conv=>whnf
 refine aj [] (by kernel_rfl) (tZ GS g 0 b hb) (by trivial) ?_
 rintro _ _ _ ⟨rfl,rfl,rfl⟩
 conv=>whnf
 apply ah<;>intro h
 ·have he:kJ g 0 b=0:=by simpa using h
  conv=>whnf
  refine aX [] (congrArg Value.bool ?_)
  rw [List.length_map,(um he).1]
  simp [he]
 ·have he:kJ g 0 b≠0:=by simpa using h
  conv=>whnf
  refine aX [] (congrArg Value.bool ?_)
  simp [he]
theorem MO (s:So)(h:s.ok):bD Tryz.prog GS 54 [stA s] 0 [] (Is (bv true)):=by
 obtain⟨hd,hg,hh,hn,hf,he⟩:=h
 have hhi:=hd.hi
 have hT:=tX s.ev he.1 (by have:=(pO he.2).1;omega)
 rw [he.2]at hT
 refine au Tryz.func54 rfl mixed (by kernel_rfl) ?_
 conv=>whnf
 (refine bf [] (by kernel_rfl) (J6 GS s.d hd) rfl ?_ ?_;(focus trivial))
 conv=>whnf
 repeat' (first
  | (apply ah<;>intro h<;>(first | (exfalso;(try rw [List.length_map]at h);simp at h;omega) | ((try simp at h);conv=>whnf)))
  | (refine ay.mk (by decide) ?_;rw [List.length_map];refine aI.divN s.d.now.length 2 (by omega) ?_;conv=>whnf)
  | (refine aj [] (by kernel_rfl) hT ?_ ?_;(focus (trivial;done));rintro _ _ _ ⟨rfl,rfl,rfl⟩;conv=>whnf))
 all_goals exact aX [] rfl
theorem TN {s:So}{l:List Ev}(h:kD l≠0):nR s l=(So.zero,kD l):=by unfold nR;rw [if_pos h]
theorem Df {s:So}{l:List Ev}(h:kD l=0)(h2:512<s.ev.length+l.length):nR s l=(So.zero,5):=by unfold nR;rw [if_neg (by simp [h]),if_pos h2]
theorem AZ (s:So)(h:s.ev.length≤512):nR s []=(s,0):=by
 unfold nR;rw [if_neg (by rw [yJ];simp),if_neg (by simp;omega),if_pos rfl]
theorem wJ {s:So}{l:List Ev}(h:kD l=0)(h2 : ¬512<s.ev.length+l.length)(h3:l≠ [])(h4:255<nS (tab (s.ev++l))∨s.d.now.length/2<nS (tab (s.ev++l))):nR s l=(So.zero,19):=by
 unfold nR;rw [if_neg (by simp [h]),if_neg h2,if_neg h3,if_pos h4]
theorem A8 {s:So}{l:List Ev}(h:kD l=0)(h2 : ¬512<s.ev.length+l.length)(h3:l≠ [])(h4 : ¬(255<nS (tab (s.ev++l))∨s.d.now.length/2<nS (tab (s.ev++l))))(h5:kJ s.gen s.frame (tab l)≠0∨((s.d.now.length/2:Nat):Int)<s.next+(nS (tab l):Nat)):nR s l=lV {s with ev:=s.ev++l}:=by
 unfold nR;rw [if_neg (by simp [h]),if_neg h2,if_neg h3,if_neg h4,if_pos h5]
theorem EO {s:So}{l:List Ev}(h:kD l=0)(h2 : ¬512<s.ev.length+l.length)(h3:l≠ [])(h4 : ¬(255<nS (tab (s.ev++l))∨s.d.now.length/2<nS (tab (s.ev++l))))(h5 : ¬(kJ s.gen s.frame (tab l)≠0∨((s.d.now.length/2:Nat):Int)<s.next+(nS (tab l):Nat)))
  {d:Dk} {e:Int} (hw:rJ s.d (s.half.toNat*(s.d.now.length/2)+s.next.toNat) (qO s.gen s.frame (tab l))=(d,e)) :
  nR s l=if e≠0 then(So.jA d,40)else(⟨d,s.gen,s.half,s.next+(nS (tab l):Nat),s.frame+1,s.ev++l⟩,0):=by
 unfold nR;rw [if_neg (by simp [h]),if_neg h2,if_neg h3,if_neg h4,if_neg h5,hw]
theorem OJ (s:So)(h:s.ok):bD Tryz.prog GS 21 [stA s] 0 [] (Is (.bH [stA (lV s).1,iv (lV s).2])):=by
 have hg:=h.gen
 refine au Tryz.func21 rfl mixed (by kernel_rfl) ?_
 conv=>whnf
 (refine bf [] (by kernel_rfl) (MO s h) rfl ?_ ?_;(focus trivial))
 conv=>whnf
 refine aj [] (by kernel_rfl) (wI s h.d h.ev (by omega) h.half) (by trivial) ?_
 rintro _ _ _ ⟨rfl,rfl,rfl⟩
 conv=>whnf
 exact aX [] (by trivial)
theorem TP (s:So)(h:s.ok)(l:List Ev)(hl : ∀e∈l,e.ok)(hll:l.length≤1000):bD Tryz.prog GS 23 [stA s,el l] 0 [] (Is (.bH [stA (nR s l).1,iv (nR s l).2])):=by
 have hV:=MO s h
 obtain⟨hd,hg,hh,hn,hf,he⟩:=h
 have hhi:=hd.hi
 have hel:=(pO he.2).1
 have hT:=tX l hl (by omega)
 refine au Tryz.func23 rfl mixed (by kernel_rfl) ?_
 conv=>whnf
 (refine bf [] (by kernel_rfl) (hV) rfl ?_ ?_;(focus trivial))
 conv=>whnf
 refine aj [] (by kernel_rfl) hT (by trivial) ?_
 rintro _ _ _ ⟨rfl,rfl,rfl⟩
 conv=>whnf
 apply ah<;>intro h
 ·have hne:kD l≠0:=by simpa using h
  rw [TN hne]
  conv=>whnf
  exact aX [] (by trivial)
 have h0:kD l=0:=by simpa using h
 have eB:Ir l=tab l:=by unfold Ir;rw [if_pos h0]
 rw [eB]
 conv=>whnf
 refine aI.i64 (by simp only [List.length_map];omega) ?_
 conv=>whnf
 apply ah<;>intro h
 ·have hgt:512<s.ev.length+l.length:=by simp only [List.length_map]at h;simp at h;omega
  rw [Df h0 hgt]
  conv=>whnf
  exact aX [] (by trivial)
 have hgt : ¬512<s.ev.length+l.length:=by simp only [List.length_map]at h;simp at h;omega
 conv=>whnf
 refine aj [2] (by kernel_rfl) (Yc s.ev l (by omega)) (by trivial) ?_
 rintro _ _ _ ⟨rfl,rfl,rfl⟩
 conv=>whnf
 apply ah<;>intro h
 ·have hnil:l = []:=by simpa using h
  subst hnil
  rw [AZ s hel]
  conv=>whnf
  refine aj [] (by kernel_rfl) (AU GS s.d hd) (by trivial) ?_
  rintro _ _ _ ⟨rfl,rfl,rfl⟩
  conv=>whnf
  rw [List.append_nil]
  exact aX [] (by trivial)
 have hnil:l≠ []:=by simpa using h
 have hev:(∀e∈s.ev++l,e.ok)∧kD (s.ev++l)=0:=⟨fun e h=>(List.mem_append.1 h).elim (he.1 e) (hl e),yI he.2 h0 (by rw [List.length_append];omega)⟩
 have hT2:=tX (s.ev++l) hev.1 (by rw [List.length_append];omega)
 have e2:Ir (s.ev++l)=tab (s.ev++l):=by unfold Ir;rw [if_pos hev.2]
 rw [e2,hev.2]at hT2
 have hFi:=ado s.gen (tab (s.ev++l)) (s.d.now.length/2) (by have:=AY hev.1 hev.2;omega) (by omega)
 have hC:=wI {s with ev:=s.ev++l} hd hev (by show 0≤s.gen∧s.gen≤4294967295;omega) hh
 have hS:=tZ GS s.gen s.frame (tab l) (by have:=AY hl h0;omega)
 conv=>whnf
 refine ay.mk (by decide) ?_
 rw [List.length_map]
 refine aI.divN s.d.now.length 2 (by omega) ?_
 conv=>whnf
 refine aj [] (by kernel_rfl) hT2 (by trivial) ?_
 rintro _ _ _ ⟨rfl,rfl,rfl⟩
 conv=>whnf
 refine aj [] (by kernel_rfl) hFi (by trivial) ?_
 rintro _ _ _ ⟨rfl,rfl,rfl⟩
 conv=>whnf
 apply ah<;>intro h
 ·have hfu:255<nS (tab (s.ev++l))∨s.d.now.length/2<nS (tab (s.ev++l)):=by
   by_cases h1:nS (tab (s.ev++l))≤255
   ·have:=wC (b:=tab (s.ev++l)) (f:=0) hg.1 hg.2 (by omega) (by omega) h1
    simp [this]at h;omega
   ·omega
  rw [wJ h0 hgt hnil hfu]
  conv=>whnf
  exact aX [] (by trivial)
 have hfu : ¬(255<nS (tab (s.ev++l))∨s.d.now.length/2<nS (tab (s.ev++l))):=by
  simp at h
  have:=(xg h.1).2.2.2.2
  omega
 conv=>whnf
 refine aj [] (by kernel_rfl) hS (by trivial) ?_
 rintro _ _ _ ⟨rfl,rfl,rfl⟩
 conv=>whnf
 have toC:kJ s.gen s.frame (tab l)≠0∨((s.d.now.length/2:Nat):Int)<s.next+(nS (tab l):Nat)→nR s l=lV {s with ev:=s.ev++l}:=A8 h0 hgt hnil hfu
 apply ah<;>intro h
 ·have hx:kJ s.gen s.frame (tab l)≠0∨((s.d.now.length/2:Nat):Int)<s.next+(nS (tab l):Nat):= .inl (by simpa using h)
  rw [toC hx]
  conv=>whnf
  refine aj [] (by kernel_rfl) hC (by trivial) ?_
  rintro _ _ _ ⟨rfl,rfl,rfl⟩
  conv=>whnf
  exact aX [] (by trivial)
 have hs0:kJ s.gen s.frame (tab l)=0:=by simpa using h
 obtain⟨hL1,hL2⟩:=um hs0
 have hq:=(xg hs0).2.2.2.2
 conv=>whnf
 refine aI.to (y:=s.next+(nS (tab l):Nat)) (by rw [List.length_map,hL1];exact IntWalk.i64_in _ (by omega)) ?_
 conv=>whnf
 apply ah<;>intro h
 ·have hx:kJ s.gen s.frame (tab l)≠0∨((s.d.now.length/2:Nat):Int)<s.next+(nS (tab l):Nat):= .inr (by simpa using h)
  rw [toC hx]
  conv=>whnf
  refine aj [] (by kernel_rfl) hC (by trivial) ?_
  rintro _ _ _ ⟨rfl,rfl,rfl⟩
  conv=>whnf
  exact aX [] (by trivial)
 have hfit:s.next+(nS (tab l):Nat)≤((s.d.now.length/2:Nat):Int):=by simp at h;omega
 obtain⟨hv,hhv,hh2⟩ : ∃hv:Nat,s.half=(hv:Int)∧hv≤1:=⟨s.half.toNat,by omega,by omega⟩
 obtain⟨nv,hnv⟩ : ∃nv:Nat,s.next=(nv:Int):=⟨s.next.toNat,by omega⟩
 obtain⟨d,e,hw⟩ : ∃d e,rJ s.d (s.half.toNat*(s.d.now.length/2)+s.next.toNat) (qO s.gen s.frame (tab l))=(d,e):=⟨_,_,rfl⟩
 rw [EO h0 hgt hnil hfu (by omega) hw]
 have hm:hv*(s.d.now.length/2)≤s.d.now.length/2:=by
  have:=Nat.mul_le_mul_right (s.d.now.length/2) hh2
  omega
 rw [hhv,hnv,Int.toNat_natCast,Int.toNat_natCast]at hw
 have hwo:=EH (at_:=hv*(s.d.now.length/2)+nv) hd hL2
 have hW:=ML GS s.d hd (hv*(s.d.now.length/2)+nv) (qO s.gen s.frame (tab l)) hL2 (by rw [hL1];omega)
 rw [hw]at hwo hW
 conv=>whnf
 refine aI.to (y:=((hv*(s.d.now.length/2):Nat):Int)) (by rw [hhv,IntWalk.i64_in _ (by rw [←Int.natCast_mul];omega)];omega) ?_
 conv=>whnf
 refine aI.to (y:=((hv*(s.d.now.length/2)+nv:Nat):Int)) (by rw [hnv,IntWalk.i64_in _ (by omega)];omega) ?_
 conv=>whnf
 refine aj [] (by kernel_rfl) hW (by trivial) ?_
 rintro _ _ _ ⟨rfl,rfl,rfl⟩
 conv=>whnf
 apply ah<;>intro h
 ·have hne:e≠0:=by simpa using h
  have h40:e=40:=by rcases hwo.2.2 with h | h;exact absurd h hne;exact h.1
  subst h40
  rw [if_pos hne]
  conv=>whnf
  refine aj [] (by kernel_rfl) (J8 GS d) (by trivial) ?_
  rintro _ _ _ ⟨rfl,rfl,rfl⟩
  conv=>whnf
  exact aX [] (by trivial)
 have abk:e=0:=by simpa using h
 rw [if_neg (by rw [abk];simp)]
 conv=>whnf
 refine aI.to (y:=s.next+(nS (tab l):Nat)) (by rw [List.length_map,hL1];exact IntWalk.i64_in _ (by omega)) ?_
 conv=>whnf
 refine aI.i64 (by omega) ?_
 conv=>whnf
 exact aX [] (by trivial)
end
section
attribute [local irreducible] num hsh oV kC
end
end Go.Proofs.YtocckceefcmeaaaGreatDoor.Cl
