/- Joined parts of the proof. Lists of byte strings compared; texts and numbers read; the walk of the store's Bytes, of the program -/
import Derived.Test.YtocckceefcmeaaaGreatDoorPk18
set_option linter.unusedVariables false
set_option linter.unusedSimpArgs false
set_option maxRecDepth 100000
set_option maxHeartbeats 16000000
namespace Go.Proofs.YtocckceefcmeaaaGreatDoor.Cl
open Go Go.RowKit Go.Proofs Go.Proofs.YtocckceefcmeaaaGreatDoor.Vc Go.Proofs.YtocckceefcmeaaaGreatDoor.Ax
attribute [local irreducible] loadVar storeVar Instr.indexAt Instr.index Instr.sliceAt Instr.makeSlice Instr.lookup Instr.mapUpdate Instr.range Instr.next Instr.entry Instr.makeMap Builtin.append_ Builtin.copy_ Builtin.len_ Builtin.min_ Builtin.max_ Builtin.cap_ Builtin.delete_ Builtin.clear_ convert binOp eqGuard Op.unary Calls
section
attribute [local irreducible] num hsh
theorem NV {α:Type}{a b:List α}{i:Nat}(ha:i<a.length)(hb:i<b.length)(h:a.take i=b.take i)(e:a[i]=b[i]):a.take (i+1)=b.take (i+1):=by
 rw [List.take_succ_eq_append_getElem ha,List.take_succ_eq_append_getElem hb,h,e]
abbrev fnV (f:Nat):AV:= .v (.func (.func f) #[] #[])
theorem aei (G:Glob)(a b:List By)(hl:a.length≤1000000):bC Tryz.prog G 35 [ss a,ss b,fnV 36] 0 [] (Is (bv (decide (a=b)))):=by
 refine au Tryz.func35 rfl mixed (by kernel_rfl) ?_
 conv=>whnf
 apply ah<;>intro h
 ·have hn:a≠b:=fun e=>by subst e;simp at h
  conv=>whnf
  exact aZ [] (congrArg Value.bool (decide_eq_false hn).symm)
 have hlen:a.length=b.length:=by simp at h;omega
 conv=>whnf
 refine uU Y5 [17] (fun i:Nat=> [(17,iv i)]) (fun i=>i≤a.length∧a.take i=b.take i) (fun i=>a.length-i) 0 (by kernel_rfl) (fun _=>rfl) (by kernel_rfl) ⟨Nat.zero_le _,rfl⟩ (by trivial) (by trivial) ?_
 rintro i ⟨hi,ht⟩
 conv=>whnf
 apply ah<;>intro h
 rotate_left 1
 ·have hie:i=a.length:=by simp at h;omega
  subst hie
  have hab:a=b:=by rw [List.take_length,hlen,List.take_length]at ht;exact ht
  conv=>whnf
  exact aZ [] (congrArg Value.bool (decide_eq_true hab).symm)
 have hlt:i<a.length:=by simp at h;omega
 have hlt2:i<b.length:=by omega
 conv=>whnf
 refine bD.mk' i rfl (iT hlt) ?_
 conv=>whnf
 refine aT.aB (List.getElem?_eq_getElem hlt) ?_
 conv=>whnf
 refine bD.mk' i rfl (iT hlt2) ?_
 conv=>whnf
 refine aT.aB (List.getElem?_eq_getElem hlt2) ?_
 conv=>whnf
 (refine aW [] (by kernel_rfl) (GK G a[i] b[i]) rfl ?_ ?_;(focus trivial))
 conv=>whnf
 apply ah<;>intro h
 ·have hne:a[i]≠b[i]:=by simpa using h
  have hn:a≠b:=fun e=>hne (by subst e;rfl)
  conv=>whnf
  exact aZ [] (congrArg Value.bool (decide_eq_false hn).symm)
 have he:a[i]=b[i]:=by simpa using h
 conv=>whnf
 refine aK.i64 (by omega) ?_
 conv=>whnf
 exact aI (i+1) [] [] rfl (by show a.length -(i+1)<a.length-i;omega) ⟨hlt,NV hlt hlt2 ht he⟩ (by trivial) ⟨rfl,trivial⟩
theorem aaz (b:By)(n:Nat)(hn:n≤3000000):bC Tryz.prog GC 72 [.ptr 0 0,iv n] 1 [(0,jC b 0)] (fun a m H=>a=bs (if n≤b.length then b.take n else [])∧m=1∧H = [(0,jC (if n≤b.length then b.drop n else b) (if n≤b.length then 0 else 16))]):=by
 refine au Tryz.func72 rfl mixed (by kernel_rfl) ?_
 conv=>whnf
 apply ah<;>intro h
 ·have hl : ¬n≤b.length:=by simp at h;omega
  simp only [hl,if_false]
  conv=>whnf
  exact aU (bs []) 1 [(0,jC b 16)] [] [] ⟨rfl,rfl,rfl⟩ rfl (by trivial) (by trivial)
 have hl:n≤b.length:=by simp at h;omega
 simp only [hl,if_true]
 conv=>whnf
 refine ay.mk ⟨Int.le_refl _,by rw [List.length_map];omega⟩ ?_
 refine kU.mk' 0 n rfl rfl (Nat.zero_le _) (by rw [List.length_map];exact hl) ?_
 conv=>whnf
 refine kU.mk' n b.length rfl (by rw [List.length_map]) hl (by rw [List.length_map];exact Nat.le_refl _) ?_
 conv=>whnf
 exact aU (bs (b.take n)) 1 [(0,jC (b.drop n) 0)] [] [] ⟨rfl,rfl,rfl⟩ rfl ⟨⟨rfl,⟨rfl,List.map_drop.symm⟩,rfl,trivial⟩,trivial⟩ ⟨rfl,List.map_take.symm⟩
def TxL (b:By)(a:AV)(n:Nat)(H:aj):Prop:= ∃t b' e',a=tv t∧t.length≤b.length∧(∀l r,I64 (l.length:Int)→b=dat l++r→t=l)∧n=1∧H = [(0,jC b' e')]
theorem aaA (b:By)(hb:b.length≤3000000):bC Tryz.prog GC 34 [.ptr 0 0,iv (b.length:Nat)] 1 [(0,jC b 0)] (TxL b):=by
 have hL:=D8 b 0 (b.length:Nat) 4 hb (by decide) (by omega)
 have hr:=jX b 0 (b.length:Nat) 4 (by omega) (by decide)
 have hg : ∀l r,I64 (l.length:Int)→b=dat l++r→iD b 0 (b.length:Nat) 4=((l.length:Int),(num (l.length:Int)).length,0):=fun l r hl e=>by
  have h1:=iU hl (l++r)
  rw [←List.append_assoc]at h1
  have e2:b=num (l.length:Int)++l++r:=e
  rw [←e2]at h1
  have hle:l.length≤b.length:=by rw [e2];simp;omega
  have q1 : ¬((l.length:Int)<0):=by omega
  have q2 : ¬(((b.length:Nat):Int)<(l.length:Int)):=by omega
  rw [jW,h1]
  simp only [if_true,q1,q2,if_false]
 have hz:(iD b 0 (b.length:Nat) 4).2.2≠0→(iD b 0 (b.length:Nat) 4).1=0:=fun h=>by rw [jW]at h ⊢;simp only at h ⊢;rw [if_neg h]
 generalize iD b 0 (b.length:Nat) 4=c at *
 obtain⟨x,k,e'⟩:=c
 simp only at hL hr hz
 obtain⟨n,rfl⟩ : ∃n:Nat,x=(n:Int):=⟨x.toNat,by omega⟩
 have hn:n≤b.length:=by omega
 by_cases he:e'=0
 ·subst he
  have hT:=aaz (b.drop k) n (by omega)
  by_cases h:n≤(b.drop k).length
  ·simp only [h,if_true]at hT
   refine au Tryz.func34 rfl mixed (by kernel_rfl) ?_
   conv=>whnf
   refine aG [0] [] (by kernel_rfl) hL rfl (by trivial) (by trivial) ?_
   rintro _ _ _ ⟨rfl,rfl,rfl⟩
   refine⟨rfl, ?_⟩
   conv=>whnf
   refine aG [0] [] (by kernel_rfl) hT rfl (by trivial) (by trivial) ?_
   rintro _ _ _ ⟨rfl,rfl,rfl⟩
   refine⟨rfl, ?_⟩
   conv=>whnf
   refine MJ.of ?_
   conv=>whnf
   refine aU (tv ((b.drop k).take n)) 1 [(0,jC ((b.drop k).drop n) 0)] [] [] ⟨_,_,_,rfl, ?_, ?_,rfl,rfl⟩ rfl (by trivial) (by trivial)
   ·rw [List.length_take];omega
   ·intro l r hl e
    have:=hg l r hl e
    injection this with q1 q2
    injection q2 with q2 q3
    have q1:n=l.length:=by omega
    have e2:b=num (l.length:Int)++(l++r):=by rw [←List.append_assoc];exact e
    rw [e2,q2,List.drop_left' rfl,q1,List.take_left' rfl]
  ·simp only [h,if_false]at hT
   refine au Tryz.func34 rfl mixed (by kernel_rfl) ?_
   conv=>whnf
   refine aG [0] [] (by kernel_rfl) hL rfl (by trivial) (by trivial) ?_
   rintro _ _ _ ⟨rfl,rfl,rfl⟩
   refine⟨rfl, ?_⟩
   conv=>whnf
   refine aG [0] [] (by kernel_rfl) hT rfl (by trivial) (by trivial) ?_
   rintro _ _ _ ⟨rfl,rfl,rfl⟩
   refine⟨rfl, ?_⟩
   conv=>whnf
   refine MJ.of (s:= []) ?_
   conv=>whnf
   refine aU (tv []) 1 [(0,jC (b.drop k) 16)] [] [] ⟨_,_,_,rfl,Nat.zero_le _, ?_,rfl,rfl⟩ rfl (by trivial) (by trivial)
   intro l r hl e
   exfalso
   have:=hg l r hl e
   injection this with q1 q2
   injection q2 with q2 q3
   have q1:n=l.length:=by omega
   have e2:b=num (l.length:Int)++(l++r):=by rw [←List.append_assoc];exact e
   rw [e2,q2,List.drop_left' rfl,q1]at h
   simp at h
 ·have h0:=hz he
  have hn0:n=0:=by omega
  subst hn0
  refine au Tryz.func34 rfl mixed (by kernel_rfl) ?_
  conv=>whnf
  refine aG [0] [] (by kernel_rfl) hL rfl (by trivial) (by trivial) ?_
  rintro _ _ _ ⟨rfl,rfl,rfl⟩
  refine⟨rfl, ?_⟩
  conv=>whnf
  refine aG [0] [] (by kernel_rfl) (Rz (b.drop k) e' he) rfl (by trivial) (by trivial) ?_
  rintro _ _ _ ⟨rfl,rfl,rfl⟩
  refine⟨rfl, ?_⟩
  conv=>whnf
  refine MJ.of (s:= []) ?_
  conv=>whnf
  refine aU (tv []) 1 [(0,jC (b.drop k) e')] [] [] ⟨_,_,_,rfl,Nat.zero_le _, ?_,rfl,rfl⟩ rfl (by trivial) (by trivial)
  intro l r hl e
  exfalso
  have:=hg l r hl e
  injection this with q1 q2
  injection q2 with q2 q3
  exact he q3
end
section
attribute [local irreducible] num hsh oM jM
def dtA (l:List By)(i:Nat):By:=(l.take i).flatMap (·.drop 16)
theorem GV {l:List By}{i:Nat}(h:i<l.length):dtA l (i+1)=dtA l i++l[i].drop 16:=by
 unfold dtA;rw [List.take_succ_eq_append_getElem h,List.flatMap_append,List.flatMap_singleton]
theorem Xo {l:List By} : ∀ {i:Nat},i≤l.length→(∀s∈l.take i,s.length=64)→(dtA l i).length=48*i:=by
 intro i
 induction i with
 | zero=>intro _ _;rfl
 | succ i ih=>
  intro h hs
  have hi:i<l.length:=by omega
  rw [List.take_succ_eq_append_getElem hi]at hs
  rw [GV hi,List.length_append,ih (by omega) fun s h=>hs s (List.mem_append_left _ h),List.length_drop,hs l[i] (List.mem_append_right _ (List.mem_singleton.2 rfl))]
  omega
theorem Xp (l:List By):dtA l l.length=l.flatMap (·.drop 16):=by unfold dtA;rw [List.take_length]
noncomputable def NW (l:List By):AV:= .bG [iv (oM l).1,iv (oM l).2.1,bs (oM l).2.2.1,bv (oM l).2.2.2]
theorem sK {l:List By}(h : ∀g f b, ¬rW l g f b):NW l = .bG [iv 0,iv 0,bs [],bv false]:=by unfold NW;rw [QB h]
theorem Xq {l:List By}{g f:Nat}{b:By}(h:rW l g f b):NW l = .bG [iv g,iv f,bs b,bv true]:=by unfold NW;rw [Jj h]
theorem rW.acO {l:List By}{g f:Nat}{b:By}(h:rW l g f b){s:By}(hs:s∈l):s.length=64:=by
 rw [h.2]at hs;exact Gp hs
theorem rW.acP {l:List By}{g f:Nat}{b:By}(h:rW l g f b):b.length≤12240:=by
 have h3:=h.len.2.2
 unfold nS dat at h3
 rw [List.length_append]at h3
 omega
theorem RY {l:List By}{g f:Nat}{b:By}(hr : ∀g' f' b',rW l g' f' b'→g'=g∧f'=f)(ht : ∀c r,I64 (c.length:Int)→l.flatMap (·.drop 16)=dat c++r→b=c) :
  (jO g f b=0∧secs g f b=l→rW l g f b)∧(¬(jO g f b=0∧secs g f b=l)→∀g' f' b', ¬rW l g' f' b'):=by
 refine⟨fun⟨h1,h2⟩=>⟨h1,h2.symm⟩,fun hn g' f' b' h=>hn ?_⟩
 obtain⟨rfl,rfl⟩:=hr _ _ _ h
 have hl:=h.acP
 have e:b=b':=ht b' (List.replicate (nS b'*48 -(dat b').length) 0) (bU (by omega)) (by rw [h.2,vF];rfl)
 subst e
 exact⟨h.1,h.2.symm⟩
theorem aaC (G:Glob)(l:List By)(hl:l.length≤1000):bC Tryz.prog G 13 [ss l] 0 [] (Is (NW l)):=by
 refine au Tryz.func13 rfl mixed (by kernel_rfl) ?_
 conv=>whnf
 apply ah<;>intro h
 ·have h0:l.length=0:=by simp at h;exact congrArg List.length h
  rw [sK fun g f b hx=>by have:=hx.len;omega]
  conv=>whnf
  exact aZ [] (by trivial)
 have h0:0<l.length:=by simp at h;exact List.length_pos_iff.2 h
 conv=>whnf
 refine bD.mk' 0 rfl (iT h0) ?_
 conv=>whnf
 refine aT.aB (List.getElem?_eq_getElem h0) ?_
 conv=>whnf
 refine ak [] (by kernel_rfl) (Js G l[0]) (by trivial) ?_
 rintro _ _ _ ⟨rfl,rfl,g,f,ix,m,rfl,hrd⟩
 conv=>whnf
 apply ah<;>intro h
 ·have hno:jM l[0]=false:=by simpa using h
  rw [sK fun g f b hx=>by have:=(hx.at h0).2.1;rw [hno]at this;cases this]
  conv=>whnf
  exact aZ [] (by trivial)
 have hok:jM l[0]=true:=by simpa using h
 obtain⟨rfl,rfl,rfl,rfl⟩:=hrd hok
 conv=>whnf
 refine bf Y1 2 [7,26] (fun i:Nat=> [(7, .own 1),(26,iv i)]) (fun i=> [(1, .rows 5 1 ((dtA l i).map dO)),(0, .var 59 [iv (hG l[0]),iv (hF l[0]),iv (hI l[0]),iv (hN l[0])])]) (fun i=>i≤l.length∧∀s∈l.take i,s.length=64) (fun i=>l.length-i) [(1, .nil)] [] 0 (by kernel_rfl) (fun _=>rfl) rfl ⟨Nat.zero_le _,fun s hs=>by simp at hs⟩ (by trivial) (by trivial) ?_
 rintro i ⟨hi,h64⟩
 have hdl:=Xo hi h64
 conv=>whnf
 apply ah<;>intro h
 ·have hlt:i<l.length:=by simp at h;omega
  conv=>whnf
  refine bD.mk' i rfl (iT hlt) ?_
  conv=>whnf
  refine aT.aB (List.getElem?_eq_getElem hlt) ?_
  conv=>whnf
  apply ah<;>intro h
  ·have hne:l[i].length≠64:=by simp at h;omega
   rw [sK fun g f b hx=>hne (hx.acO (List.getElem_mem hlt))]
   conv=>whnf
   exact aZ [] (by trivial)
  have h6:l[i].length=64:=by simp at h;omega
  conv=>whnf
  refine kU.mk' 16 l[i].length rfl (by rw [List.length_map]) (by omega) (by rw [List.length_map];exact Nat.le_refl _) ?_
  conv=>whnf
  refine ay.mk (aF (by simp only [cut,List.length_map,List.length_drop];omega) (by kernel_rfl)) ?_
  conv=>whnf
  refine aK.i64 (by omega) ?_
  conv=>whnf
  refine aI (i+1) [(1, .lab 2)] [] rfl (by show l.length -(i+1)<l.length-i;omega) ⟨hlt,fun s hs=> ?_⟩ ⟨⟨rfl,rfl, ?_⟩,(by trivial),trivial⟩ ⟨rfl,rfl,trivial⟩
  ·rw [List.take_succ_eq_append_getElem hlt]at hs
   rcases List.mem_append.1 hs with h1 | h1
   ·exact h64 s h1
   ·rw [List.mem_singleton]at h1;rw [h1];exact h6
  ·rw [GV hlt,List.map_append,List.map_drop];rfl
 have hie:i=l.length:=by simp at h;omega
 subst hie
 rw [Xp]at hdl ⊢
 conv=>whnf
 refine ak [1] (by kernel_rfl) (bC.up (D7 (l.flatMap (·.drop 16)) (by omega)) G) (by trivial) ?_
 rintro _ _ _ ⟨rfl,rfl,rfl⟩
 conv=>whnf
 have hT:bC Tryz.prog G 34 [.ptr 0 0,iv (((l.flatMap (·.drop 16)).map dO).length:Nat)] 1 [(0,jC (l.flatMap (·.drop 16)) 0)] (TxL (l.flatMap (·.drop 16))):=by
  rw [List.length_map];exact bC.up (aaA (l.flatMap (·.drop 16)) (by omega)) G
 refine aG [2] [] (by kernel_rfl) hT rfl (by trivial) (by trivial) ?_
 rintro _ _ _ ⟨t,b',e',rfl,htl,htd,rfl,rfl⟩
 refine⟨rfl, ?_⟩
 conv=>whnf
 have hgl:=RF l[0]
 have hfr : ∀g' f' c,rW l g' f' c→g'=hG l[0]∧f'=hF l[0]:=fun g' f' c hx=>by
  have:=hx.at h0
  exact⟨this.2.2.1.symm,this.2.2.2.1.symm⟩
 have hB:=RY (b:=t) hfr htd
 have hS:=sJ G (hG l[0]:Nat) (hF l[0]:Nat) t (by omega)
 refine ak [] (by kernel_rfl) hS (by trivial) ?_
 rintro _ _ _ ⟨rfl,rfl,rfl⟩
 conv=>whnf
 apply ah<;>intro h
 ·have he:jO (hG l[0]:Nat) (hF l[0]:Nat) t≠0:=by simpa using h
  rw [sK (hB.2 fun hx=>he hx.1)]
  conv=>whnf
  exact aZ [] (by trivial)
 have he:jO (hG l[0]:Nat) (hF l[0]:Nat) t=0:=by simpa using h
 have hLl:qm (hG l[0]:Nat) (hF l[0]:Nat) t=secs (hG l[0]) (hF l[0]) t:=by unfold qm;rw [if_pos he];rfl
 rw [hLl]
 conv=>whnf
 (refine aW [] (by kernel_rfl) (aei G (secs (hG l[0]) (hF l[0]) t) l (by rw [dP];have:=(wB he).2.2.2.2;omega)) rfl ?_ ?_;(focus trivial))
 conv=>whnf
 apply ah<;>intro h
 ·have hne : ¬secs (hG l[0]) (hF l[0]) t=l:=by simpa using h
  rw [sK (hB.2 fun hx=>hne hx.2)]
  conv=>whnf
  exact aZ [] (by trivial)
 have heq:secs (hG l[0]) (hF l[0]) t=l:=by simpa using h
 rw [Xq (hB.1 ⟨he,heq⟩)]
 conv=>whnf
 (refine bK abH [] (by kernel_rfl) ?_;conv=>whnf)
 exact aZ [] (by trivial)
end
abbrev Xr:Int×Int×Nat×By×Bool:=(0,0,0,[],false)
theorem sN {l:List By}(h0:0<l.length):fM l=if hN l[0]<1∨l.length<hN l[0]then Xr else if(oM (l.take (hN l[0]))).2.2.2 then((oM (l.take (hN l[0]))).1,(oM (l.take (hN l[0]))).2.1,hN l[0],(oM (l.take (hN l[0]))).2.2.1,true)else Xr:=by
 cases l with
 | nil=>cases h0
 | cons s r=>rfl
theorem Ef:fM []=Xr:=rfl
theorem Ls {l:List By}(h0:0<l.length)(h:jM l[0]=false):fM l=Xr:=by
 rw [sN h0]
 split
 ·rfl
 ·rename_i hn
  rcases vH (l.take (hN l[0]))with ⟨g,f,b,hx,e⟩ | ⟨_,e⟩
  ·have hp:0<(l.take (hN l[0])).length:=by rw [List.length_take];omega
   have h1:=(hx.at hp).2.1
   rw [List.getElem_take]at h1
   rw [h]at h1;cases h1
  ·rw [e];rfl
theorem RZ {l:List By}(h0:0<l.length)(h:l.length<hN l[0]):fM l=Xr:=by
 rw [sN h0,if_pos (.inr h)]
theorem Xt {s:By}(h:jM s=true):0<hN s∧s.length=64:=by
 unfold jM at h
 simp only [Bool.and_eq_true,decide_eq_true_eq]at h
 omega
theorem Xu {l:List By}(h0:0<l.length)(h:jM l[0]=true)(hl:hN l[0]≤l.length):fM l=if(oM (l.take (hN l[0]))).2.2.2 then((oM (l.take (hN l[0]))).1,(oM (l.take (hN l[0]))).2.1,hN l[0],(oM (l.take (hN l[0]))).2.2.1,true)else Xr:=by
 have:=(Xt h).1
 rw [sN h0,if_neg (by omega)]
theorem qL {l:List By}(h:(fM l).2.2.2.2=true) : ∃g f b,rW (l.take (fM l).2.2.1) g f b∧fM l=(((g:Nat):Int),((f:Nat):Int),nS b,b,true)∧nS b≤l.length∧0<nS b:=by
 have h0:0<l.length:=by
  cases l with
  | nil=>cases h
  | cons s r=>simp
 rw [sN h0]at h ⊢
 split at h
 ·cases h
 ·rename_i hn
  rw [if_neg hn]
  rcases vH (l.take (hN l[0]))with ⟨g,f,b,hx,e⟩ | ⟨_,e⟩
  ·rw [e]at h ⊢
   have hl:=hx.len
   rw [List.length_take]at hl
   have e2:hN l[0]=nS b:=by omega
   simp only [if_true]
   exact⟨g,f,b,hx,by rw [e2],by omega,hl.2.1⟩
  ·rw [e]at h;cases h
theorem Jz {l:List By}{g f n:Nat}{b:By}(hn:nS b=n)(hl:n≤l.length)(h:rW (l.take n) g f b):fM l=(((g:Nat):Int),((f:Nat):Int),n,b,true):=by
 have hp:=h.len
 have h0:0<l.length:=by omega
 have h1:=h.at (i:=0) (by rw [List.length_take];omega)
 rw [List.getElem_take]at h1
 have e:hN l[0]=n:=by rw [h1.2.2.2.2.2,hn]
 rw [sN h0,e,if_neg (by omega),Jj h]
 rfl
theorem Si (g:Int) : ∀(m m':Nat) (l:List By) (k:Nat),l.length≤m→l.length≤m'→TA g m l k=TA g m' l k:=by
 intro m
 induction m with
 | zero=>
  intro m' l k h1 h2
  have:l = []:=List.eq_nil_of_length_eq_zero (by omega)
  subst this
  cases m' with
  | zero=>rfl
  | succ m'=>simp [TA,Ef]
 | succ m ih=>
  intro m' l k h1 h2
  cases m' with
  | zero=>
   have:l = []:=List.eq_nil_of_length_eq_zero (by omega)
   subst this
   simp [TA,Ef]
  | succ m'=>
   unfold TA
   split
   ·rename_i hc
    obtain⟨g',f,b,_,e,h3,h4⟩:=qL hc.1
    rw [e]
    simp only
    rw [ih m' _ _ (by rw [List.length_drop];omega) (by rw [List.length_drop];omega)]
   ·rfl
noncomputable def lg (g:Int)(l:List By)(k:Nat):List By:=TA g l.length l k
theorem Eh {g:Int}{l:List By}{k:Nat}(h : ¬((fM l).2.2.2.2=true∧(fM l).1=g∧(fM l).2.1=(k:Int))):lg g l k = []:=by
 unfold lg
 cases hl:l.length with
 | zero=>rfl
 | succ m=>unfold TA;rw [if_neg h]
theorem Lu {g:Int}{l:List By}{k:Nat}(h:(fM l).2.2.2.2=true∧(fM l).1=g∧(fM l).2.1=(k:Int)):lg g l k=(fM l).2.2.2.1::lg g (l.drop (fM l).2.2.1) (k+1):=by
 obtain⟨g',f,b,_,e,h3,h4⟩:=qL h.1
 unfold lg
 cases hl:l.length with
 | zero=>omega
 | succ m=>
  conv=>lhs;unfold TA
  rw [if_pos h]
  congr 1
  exact Si g _ _ _ _ (by rw [List.length_drop,e];simp only;omega) (Nat.le_refl _)
theorem aaD {g:Int} : ∀ {m:Nat} {l:List By} {k:Nat},l.length≤m→(lg g l k).length≤l.length∧∀b∈lg g l k,b.length≤12240:=by
 intro m
 induction m with
 | zero=>
  intro l k h
  have:l = []:=List.eq_nil_of_length_eq_zero (by omega)
  subst this
  exact⟨Nat.le_refl _,fun b hb=>by cases hb⟩
 | succ m ih=>
  intro l k h
  by_cases hc:(fM l).2.2.2.2=true∧(fM l).1=g∧(fM l).2.1=(k:Int)
  ·rw [Lu hc]
   obtain⟨g',f,b,hx,e,h3,h4⟩:=qL hc.1
   have hi:=ih (l:=l.drop (fM l).2.2.1) (k:=k+1) (by rw [List.length_drop,e];simp only;omega)
   have hdl:(l.drop (fM l).2.2.1).length+1≤l.length:=by rw [List.length_drop,e];simp only;omega
   refine⟨by rw [List.length_cons];omega,fun c hcm=> ?_⟩
   rcases List.mem_cons.1 hcm with rfl | hcm
   ·rw [e];exact hx.acP
   ·exact hi.2 c hcm
  ·rw [Eh hc]
   exact⟨Nat.zero_le _,fun b hb=>by cases hb⟩
theorem sO (l:List By):zY l=((fM l).2.2.2.2&&decide ((fM l).2.1=0)):=rfl
noncomputable def Ei (l:List By):Int:=if zY l then(fM l).1 else 0
noncomputable def wS (l:List By):List By:=if zY l then lg (fM l).1 l 0 else []
theorem aaE {l:List By}(h:zY l=true):(fM l).2.2.2.2=true∧(fM l).1=(fM l).1∧(fM l).2.1=((0:Nat):Int):=by
 rw [sO,Bool.and_eq_true,decide_eq_true_eq]at h
 exact⟨h.1,rfl,h.2⟩
abbrev dkC (d:Dk):List AV:= [ss d.now,ss d.safe,iv d.fuse,iv d.ops,bv d.dead]
abbrev qc (d:Dk):AV:= .agg (dkC d)
def aaF:List FV:= [.v (.slice none 0 0)]
theorem sQ (G:Glob)(b:By)(h0:b≠ [])(hl:b.length≤1000000):bC Tryz.prog G 76 [bs b] 0 [] (kW 5 1 (b.map dO)):=by
 have h0:0<b.length:=List.length_pos_iff.2 h0
 refine au Tryz.func76 rfl mixed (by kernel_rfl) ?_
 conv=>whnf
 refine⟨fun b hb=> ?_⟩
 rw [hb (iT h0)]
 conv=>whnf
 refine ay.mk (aF (by simp only [List.length_map,List.length_nil];omega) (by kernel_rfl)) ?_
 conv=>whnf
 exact aU (.own 0) 1 _ [(0, .lab 1)] [] ⟨rfl,rfl,rfl⟩ rfl (by trivial) (by trivial)
def Om (l:List By)(i:Nat):List (List FV):=(l.take i).map A8++List.replicate (l.length-i) aaF
theorem Sj (l:List By):Om l 0=List.replicate l.length aaF:=by simp [Om]
theorem Xv (l:List By):Om l l.length=l.map A8:=by simp [Om]
theorem Xw {l:List By}{i:Nat}(h:i≤l.length):(Om l i).length=l.length:=by simp [Om];omega
theorem aaG {l:List By}{i:Nat}(h:i<l.length):(Om l i)[i]? = some aaF:=by
 unfold Om
 rw [List.getElem?_append_right (by simp;omega)]
 simp only [List.length_map,List.length_take]
 rw [Nat.min_eq_left (by omega),Nat.sub_self,List.getElem?_replicate,if_pos (by omega)]
theorem Xx {l:List By}{i:Nat}(h:i<l.length):(Om l i).set i (A8 l[i])=Om l (i+1):=by
 unfold Om
 rw [List.set_append_right _ _ (by simp;omega)]
 simp only [List.length_map,List.length_take]
 rw [Nat.min_eq_left (by omega),Nat.sub_self,show l.length-i=(l.length -(i+1))+1 by omega,List.replicate_succ,List.set_cons_zero,List.take_succ_eq_append_getElem h,List.map_append,List.append_assoc]
 rfl
theorem xR (G:Glob)(l:List By)(h64:Ol l)(hl:l.length≤1000):bC Tryz.prog G 127 [ss l] 0 [] (kW 22 1 (l.map A8)):=by
 refine au Tryz.func127 rfl mixed (by kernel_rfl) ?_
 conv=>whnf
 refine JQ.mk' l.length (by rw [List.length_map]) (by rw [List.length_map]) ⟨by show 24*l.length≤_;omega,by unfold maxLen;omega⟩ ?_
 conv=>whnf
 refine bf UK 1 [11] (fun i:Nat=> [(11,iv i)]) (fun i=> [(0, .rows 22 1 (Om l i))]) (fun i=>i≤l.length) (fun i=>l.length-i) [] [] 0 (by kernel_rfl) (fun _=>rfl) rfl (Nat.zero_le _) ⟨⟨rfl,rfl,(Sj l).symm⟩,trivial⟩ ⟨rfl,trivial⟩ ?_
 intro i hi
 conv=>whnf
 apply ah<;>intro h
 rotate_left 1
 ·have hie:i=l.length:=by simp at h;omega
  subst hie
  rw [Xv]
  conv=>whnf
  exact aU (.own 0) 1 _ [(0, .lab 0)] [] ⟨rfl,rfl,rfl⟩ rfl (by trivial) (by trivial)
 have hlt:i<l.length:=by simp at h;omega
 have h6:=h64 l[i] (List.getElem_mem hlt)
 conv=>whnf
 refine bD.mk' i rfl (iT hlt) ?_
 conv=>whnf
 refine aT.aB (List.getElem?_eq_getElem hlt) ?_
 conv=>whnf
 refine ak [] (by kernel_rfl) (sQ G l[i] (fun e=>by rw [e]at h6;cases h6) (by omega)) (by trivial) ?_
 rintro _ _ _ ⟨rfl,rfl,rfl⟩
 conv=>whnf
 refine bD.mk' i rfl (by rw [Xw hi];exact hlt) ?_
 conv=>whnf
 refine aT.at (aaG hlt) ?_
 conv=>whnf
 refine aK.i64 (by omega) ?_
 conv=>whnf
 exact aI (i+1) [] [] rfl (by show l.length -(i+1)<l.length-i;omega) hlt ⟨⟨rfl,rfl,Xx hlt⟩,trivial⟩ ⟨rfl,trivial⟩
theorem aaH (G:Glob)(b:By):bC Tryz.prog G 116 [bs b] 0 [] (Is (bv (decide (b.length≠64)))):=by
 refine au Tryz.func116 rfl mixed (by kernel_rfl) ?_
 conv=>whnf
 refine aZ [] (congrArg Value.bool ?_)
 rw [List.length_map]
 by_cases h:b.length=64
 ·simp [h]
 ·simp [h];omega
theorem Xy (G:Glob)(l:List By)(h64:Ol l)(hl:l.length≤1000):bC Tryz.prog G 141 [ss l,fnV 116] 0 [] (Is (iv (-1))):=by
 refine au Tryz.func141 rfl mixed (by kernel_rfl) ?_
 conv=>whnf
 refine uU UO [8] (fun i:Nat=> [(8,iv i)]) (fun i=>i≤l.length) (fun i=>l.length-i) 0 (by kernel_rfl) (fun _=>rfl) (by kernel_rfl) (Nat.zero_le _) (by trivial) (by trivial) ?_
 intro i hi
 conv=>whnf
 apply ah<;>intro h
 rotate_left 1
 ·conv=>whnf
  exact aZ [] rfl
 have hlt:i<l.length:=by simp at h;omega
 have h6:=h64 l[i] (List.getElem_mem hlt)
 have hw:=aaH G l[i]
 rw [h6]at hw
 conv=>whnf
 refine bD.mk' i rfl (iT hlt) ?_
 conv=>whnf
 refine aT.aB (List.getElem?_eq_getElem hlt) ?_
 conv=>whnf
 refine aW [] (by kernel_rfl) hw rfl (by trivial) ?_
 conv=>whnf
 refine aK.i64 (by omega) ?_
 conv=>whnf
 exact aI (i+1) [] [] rfl (by show l.length -(i+1)<l.length-i;omega) hlt (by trivial) ⟨rfl,trivial⟩
theorem zZ (G:Glob)(l:List By)(h64:Ol l)(hl:l.length≤1000):bC Tryz.prog G 117 [ss l,fnV 116] 0 [] (Is (bv false)):=by
 refine au Tryz.func117 rfl mixed (by kernel_rfl) ?_
 conv=>whnf
 (refine aW [] (by kernel_rfl) (Xy G l h64 hl) rfl ?_ ?_;(focus trivial))
 conv=>whnf
 exact aZ [] rfl
theorem NY (G:Glob)(n:Nat)(h1:n%2=0)(h2:8≤n)(h3:n≤256):bC Tryz.prog G 115 [iv n] 0 [] (Is (bv true)):=by
 refine au Tryz.func115 rfl mixed (by kernel_rfl) ?_
 conv=>whnf
 have hm:((n:Int)).tmod 2=((n%2:Nat):Int):=rfl
 refine ay.mk (by decide) ?_
 rw [hm,h1]
 conv=>whnf
 apply ah<;>intro h
 rotate_left 1
 ·exfalso;simp at h;omega
 conv=>whnf
 exact aZ [] (congrArg Value.bool (by simp;omega))
theorem JA (G:Glob)(d:Dk)(h:d.ok):bC Tryz.prog G 84 [qc d] 0 [] (Is (bv true)):=by
 obtain⟨h1,h2,h3,h4,h5,h6,h7,h8⟩:=h
 have hs:=NY G d.now.length h1 h2 h3
 have hs:bC Tryz.prog G 115 [iv ((d.now.map A8).length:Nat)] 0 [] (Is (bv true)):=by rw [List.length_map];exact hs
 refine au Tryz.func84 rfl mixed (by kernel_rfl) ?_
 conv=>whnf
 (refine aW [] (by kernel_rfl) (hs) rfl ?_ ?_;(focus trivial))
 conv=>whnf
 apply ah<;>intro h
 ·exfalso;rw [List.length_map,List.length_map]at h;simp at h;omega
 conv=>whnf
 apply ah<;>intro h
 ·exfalso;simp at h;omega
 conv=>whnf
 apply ah<;>intro h
 ·exfalso;simp at h;omega
 conv=>whnf
 apply ah<;>intro h
 ·exfalso;simp at h;omega
 conv=>whnf
 (refine aW [] (by kernel_rfl) (zZ G d.now h7 (by omega)) rfl ?_ ?_;(focus trivial))
 conv=>whnf
 (refine aW [] (by kernel_rfl) (zZ G d.safe h8 (by omega)) rfl ?_ ?_;(focus trivial))
 conv=>whnf
 exact aZ [] rfl
theorem NZ (G:Glob):bC Tryz.prog G 115 [iv 0] 0 [] (Is (bv false)):=by
 refine au Tryz.func115 rfl mixed (by kernel_rfl) ?_
 conv=>whnf
 refine ay.mk (by decide) ?_
 conv=>whnf
 exact aZ [] rfl
theorem Xz (G:Glob):bC Tryz.prog G 84 [qc Dk.zero] 0 [] (Is (bv false)):=by
 refine au Tryz.func84 rfl mixed (by kernel_rfl) ?_
 conv=>whnf
 (refine aW [] (by kernel_rfl) (NZ G) rfl ?_ ?_;(focus trivial))
 conv=>whnf
 exact aZ [] rfl
def wI (d:Dk):Int:=if d.dead then 40 else 0
theorem JB (G:Glob)(d:Dk)(h:d.ok):bC Tryz.prog G 75 [qc d] 0 [] (Is (iv (wI d))):=by
 refine au Tryz.func75 rfl mixed (by kernel_rfl) ?_
 conv=>whnf
 (refine aW [] (by kernel_rfl) (JA G d h) rfl ?_ ?_;(focus trivial))
 conv=>whnf
 apply ah<;>intro h
 ·conv=>whnf
  exact aZ [] (DF (by unfold wI;rw [if_pos h]))
 ·conv=>whnf
  exact aZ [] (DF (by unfold wI;rw [h];rfl))
theorem aaI (G:Glob)(d:Dk)(h:d.ok):bC Tryz.prog G 40 [qc d,iv 0] 0 [] (fun a n H=>n=0∧H = []∧∃b,a = .bG [bs b,iv (wI d)]):=by
 have hr:=JB G d h
 have hlo:=h.lo
 have h0:0<d.now.length:=by omega
 have h6:=h.n64 d.now[0] (List.getElem_mem h0)
 unfold wI at hr ⊢
 refine au Tryz.func40 rfl mixed (by kernel_rfl) ?_
 conv=>whnf
 (refine aW [] (by kernel_rfl) (hr) rfl ?_ ?_;(focus trivial))
 conv=>whnf
 cases hd:d.dead with
 | true=>
  simp only [hd,if_true]
  conv=>whnf
  exact aU (.bG [bs [],iv 40]) 0 [] [] [] ⟨rfl,rfl,[],rfl⟩ rfl trivial (by trivial)
 | false=>
  simp only [hd,Bool.false_eq_true,if_false]
  conv=>whnf
  apply ah<;>intro h
  ·exfalso;simp at h;rw [h]at h0;exact absurd h0 (by decide)
  conv=>whnf
  refine bD.mk' 0 rfl (iT h0) ?_
  conv=>whnf
  refine aT.aB (List.getElem?_eq_getElem h0) ?_
  conv=>whnf
  refine ak [] (by kernel_rfl) (sQ G d.now[0] (fun e=>by rw [e]at h6;cases h6) (by omega)) (by trivial) ?_
  rintro _ _ _ ⟨rfl,rfl,rfl⟩
  conv=>whnf
  refine aU (.bG [bs d.now[0],iv 0]) 0 [] [] [1] ⟨rfl,rfl,_,rfl⟩ rfl trivial (by trivial)
def CpD (T:Nat)(d:Dk)(a:AV)(n:Nat)(H:aj):Prop:=a = .agg [.own 0, .own 1,iv d.fuse,iv d.ops,bv d.dead]∧n=2∧H = [(0, .rows T 1 (d.now.map A8)),(1, .rows T 1 (d.safe.map A8))]
theorem GY (G:Glob)(d:Dk)(h:d.ok):bC Tryz.prog G 159 [qc d] 0 [] (CpD 22 d):=by
 have hhi:=h.hi
 have hsf:=h.sf
 refine au Tryz.func159 rfl mixed (by kernel_rfl) ?_
 conv=>whnf
 (refine bK Zl [] (by kernel_rfl) ?_;conv=>whnf)
 refine ak [] (by kernel_rfl) (xR G d.now h.n64 (by omega)) (by trivial) ?_
 rintro _ _ _ ⟨rfl,rfl,rfl⟩
 conv=>whnf
 refine ak [] (by kernel_rfl) (xR G d.safe h.f64 (by omega)) (by trivial) ?_
 rintro _ _ _ ⟨rfl,rfl,rfl⟩
 conv=>whnf
 exact aU (.agg [.own 0, .own 1,iv d.fuse,iv d.ops,bv d.dead]) 2 _ [(0, .lab 2),(1, .lab 3)] [] ⟨rfl,rfl,rfl⟩ rfl (by trivial) (by trivial)
def dWt (d:Dk)(n:Nat)(b:By):AV:=if d.dead then .bG [qc Dk.zero,iv 40]else if d.fuse=0 then .bG [qc d.dying,iv 40]else .bG [qc (d.put n b),iv 0]
theorem wJ {G:Glob}{n n1:Nat}{H1:aj}{a:AV}{K:AV→Nat→aj→Prop}(a':AV)(Z:List Nat)(k:Ax.spine (FP n H1) fun H0=>K a' n H0)(hwf:FM n n [] Z (FP n H1)=true)(hH:IU H1 [] Z n (FP n H1))(hc:co H1 [] Z n a' a):AP G n K a n1 H1:=
 aU a' n _ [] Z (by rw [Ax.dU]at k;exact k) hwf hH hc
theorem LC {G:Glob}{n n1:Nat}{H1:aj}{a:AV}{K:AV→Nat→aj→Prop}(hn:n≤n1)(k:K a n1 H1):AP G n K a n1 H1:=
 ⟨⟨a,n1,H1,k,hn,fun _ _ _ σ' F' _ _ s r=>⟨σ',F',s,r,fun _ _=>rfl,fun _ h=>h⟩⟩⟩
theorem XA (G:Glob)(d:Dk)(h:d.ok)(n:Nat)(hn:n<d.now.length)(b:By)(hb:b.length=64):bC Tryz.prog G 89 [qc d,iv n,bs b] 0 [] (Is (dWt d n b)):=by
 have hr:=JB G d h
 have hC:=GY G d h
 obtain⟨h1,h2,h3,h4,h5,h6,h7,h8⟩:=h
 obtain⟨now,safe,fuse,ops,dead⟩:=d
 unfold wI at hr
 unfold dWt
 unfold CpD at hC
 simp only at *
 refine au Tryz.func89 rfl mixed (by kernel_rfl) ?_
 conv=>whnf
 (refine aW [] (by kernel_rfl) (hr) rfl ?_ ?_;(focus trivial))
 cases dead with
 | true=>
  simp only [if_true]
  conv=>whnf
  exact aZ [] (by trivial)
 | false=>
  simp only [Bool.false_eq_true,if_false]at *
  conv=>whnf
  apply ah<;>intro h
  ·exfalso;rw [List.length_map]at h;simp at h;omega
  conv=>whnf
  apply ah<;>intro h
  ·exfalso;rw [List.length_map,hb]at h;simp at h
  conv=>whnf
  (refine dV (by kernel_rfl) (au Tryz.func124 rfl mixed (by kernel_rfl) ?_);(conv=>whnf))
  refine ak [] (by kernel_rfl) hC (by trivial) ?_
  rintro _ _ _ ⟨rfl,rfl,rfl⟩
  conv=>whnf
  apply ah<;>intro h
  ·have hf:fuse=0:=by simpa using h
   rw [if_pos hf]
   conv=>whnf
   refine wJ (.bG [qc (Dk.dying ⟨now,safe,fuse,ops,false⟩),iv 40]) [6,7] ?_ rfl ?_ ?_
   rotate_left 1
   ·trivial
   ·trivial
   conv=>whnf
   exact aZ [] (by trivial)
  have hf:fuse≠0:=by simpa using h
  rw [if_neg hf]
  conv=>whnf
  apply ah<;>intro h
  ·conv=>whnf
   refine aK.i64 (by omega) ?_
   conv=>whnf
   (refine dV (by kernel_rfl) (au Tryz.func125 rfl mixed (by kernel_rfl) ?_);(conv=>whnf))
   (refine bK PN [] (by kernel_rfl) ?_;conv=>whnf)
   refine ak [] (by kernel_rfl) (sQ G b (fun e=>by rw [e]at hb;cases hb) (by omega)) (by trivial) ?_
   rintro _ _ _ ⟨rfl,rfl,rfl⟩
   conv=>whnf
   refine bD.mk' n rfl (iT hn) ?_
   conv=>whnf
   refine aT.aB (List.getElem?_eq_getElem hn) ?_
   conv=>whnf
   refine wJ (.bG []) [] ?_ rfl ?_ ?_
   rotate_left 1
   ·trivial
   ·trivial
   conv=>whnf
   refine aK.i64 (by omega) ?_
   conv=>whnf
   refine wJ (.bG [qc (Dk.put ⟨now,safe,fuse,ops,false⟩ n b),iv 0]) [6,7] ?_ rfl ?_ ?_
   rotate_left 1
   ·trivial
   ·exact⟨⟨⟨rfl,rfl,List.map_set.symm⟩,⟨rfl,rfl,rfl⟩,DF (by simp at h;show (fuse-1)=if 0<fuse then fuse-1 else fuse;split<;>omega),rfl,rfl,trivial⟩,rfl,trivial⟩
   conv=>whnf
   exact aZ [] (by trivial)
  ·conv=>whnf
   (refine dV (by kernel_rfl) (au Tryz.func125 rfl mixed (by kernel_rfl) ?_);(conv=>whnf))
   (refine bK PN [] (by kernel_rfl) ?_;conv=>whnf)
   refine ak [] (by kernel_rfl) (sQ G b (fun e=>by rw [e]at hb;cases hb) (by omega)) (by trivial) ?_
   rintro _ _ _ ⟨rfl,rfl,rfl⟩
   conv=>whnf
   refine bD.mk' n rfl (iT hn) ?_
   conv=>whnf
   refine aT.aB (List.getElem?_eq_getElem hn) ?_
   conv=>whnf
   refine wJ (.bG []) [] ?_ rfl ?_ ?_
   rotate_left 1
   ·trivial
   ·trivial
   conv=>whnf
   refine aK.i64 (by omega) ?_
   conv=>whnf
   refine wJ (.bG [qc (Dk.put ⟨now,safe,fuse,ops,false⟩ n b),iv 0]) [6,7] ?_ rfl ?_ ?_
   rotate_left 1
   ·trivial
   ·exact⟨⟨⟨rfl,rfl,List.map_set.symm⟩,⟨rfl,rfl,rfl⟩,DF (by simp at h;show fuse=if 0<fuse then fuse-1 else fuse;split<;>omega),rfl,rfl,trivial⟩,rfl,trivial⟩
   conv=>whnf
   exact aZ [] (by trivial)
def dFl (d:Dk):AV:=if d.dead then .bG [qc Dk.zero,iv 40]else if d.fuse=0 then .bG [qc d.dying,iv 40]else .bG [qc d.flush,iv 0]
theorem XB (G:Glob)(d:Dk)(h:d.ok):bC Tryz.prog G 91 [qc d] 0 [] (Is (dFl d)):=by
 have hr:=JB G d h
 have hC:=GY G d h
 obtain⟨h1,h2,h3,h4,h5,h6,h7,h8⟩:=h
 obtain⟨now,safe,fuse,ops,dead⟩:=d
 unfold wI at hr
 unfold dFl
 unfold CpD at hC
 simp only at *
 refine au Tryz.func91 rfl mixed (by kernel_rfl) ?_
 conv=>whnf
 (refine aW [] (by kernel_rfl) (hr) rfl ?_ ?_;(focus trivial))
 cases dead with
 | true=>
  simp only [if_true]
  conv=>whnf
  exact aZ [] (by trivial)
 | false=>
  simp only [Bool.false_eq_true,if_false]at *
  conv=>whnf
  (refine dV (by kernel_rfl) (au Tryz.func124 rfl mixed (by kernel_rfl) ?_);(conv=>whnf))
  refine ak [] (by kernel_rfl) hC (by trivial) ?_
  rintro _ _ _ ⟨rfl,rfl,rfl⟩
  conv=>whnf
  apply ah<;>intro h
  ·have hf:fuse=0:=by simpa using h
   rw [if_pos hf]
   conv=>whnf
   refine wJ (.bG [qc (Dk.dying ⟨now,safe,fuse,ops,false⟩),iv 40]) [4,5] ?_ rfl ?_ ?_
   rotate_left 1
   ·trivial
   ·trivial
   conv=>whnf
   exact aZ [] (by trivial)
  have hf:fuse≠0:=by simpa using h
  rw [if_neg hf]
  conv=>whnf
  apply ah<;>intro h
  ·conv=>whnf
   refine aK.i64 (by omega) ?_
   conv=>whnf
   (refine dV (by kernel_rfl) (au Tryz.func126 rfl mixed (by kernel_rfl) ?_);(conv=>whnf))
   refine ak [4] (by kernel_rfl) (xR G now h7 (by omega)) (by trivial) ?_
   rintro _ _ _ ⟨rfl,rfl,rfl⟩
   conv=>whnf
   refine LC (by decide) ?_
   conv=>whnf
   refine aK.i64 (by omega) ?_
   conv=>whnf
   refine wJ (.bG [qc (Dk.flush ⟨now,safe,fuse,ops,false⟩),iv 0]) [7] ?_ rfl ?_ ?_
   rotate_left 1
   ·trivial
   ·exact⟨⟨⟨rfl,rfl⟩,⟨rfl,rfl,rfl⟩,DF (by simp at h;show (fuse-1)=if 0<fuse then fuse-1 else fuse;split<;>omega),rfl,rfl,trivial⟩,rfl,trivial⟩
   conv=>whnf
   exact aZ [] (by trivial)
  ·conv=>whnf
   (refine dV (by kernel_rfl) (au Tryz.func126 rfl mixed (by kernel_rfl) ?_);(conv=>whnf))
   refine ak [4] (by kernel_rfl) (xR G now h7 (by omega)) (by trivial) ?_
   rintro _ _ _ ⟨rfl,rfl,rfl⟩
   conv=>whnf
   refine LC (by decide) ?_
   conv=>whnf
   refine aK.i64 (by omega) ?_
   conv=>whnf
   refine wJ (.bG [qc (Dk.flush ⟨now,safe,fuse,ops,false⟩),iv 0]) [7] ?_ rfl ?_ ?_
   rotate_left 1
   ·trivial
   ·exact⟨⟨⟨rfl,rfl⟩,⟨rfl,rfl,rfl⟩,DF (by simp at h;show fuse=if 0<fuse then fuse-1 else fuse;split<;>omega),rfl,rfl,trivial⟩,rfl,trivial⟩
   conv=>whnf
   exact aZ [] (by trivial)
abbrev stC (s:So):List AV:=dkC s.d++ [iv s.gen,iv s.half,iv s.next,iv s.frame,el s.ev]
abbrev stA (s:So):AV:= .agg (stC s)
theorem Sl {l:List By}{i:Nat}(h:i<l.length):(l.take (i+1)).map A8=(l.take i).map A8++ [[.lst 1 (l[i].map dO)]]:=by
 rw [List.take_succ_eq_append_getElem h,List.map_append];rfl
theorem GZ (G:Glob)(l:List By)(h64:Ol l)(hl:l.length≤1000):bC Tryz.prog G 77 [ss l] 0 [] (Is (ss l)):=by
 refine au Tryz.func77 rfl mixed (by kernel_rfl) ?_
 conv=>whnf
 refine bf Zh 1 [3,8] (fun i:Nat=> [(3, .own 0),(8,iv i)]) (fun i=> [(0, .rows 22 1 ((l.take i).map A8))]) (fun i=>i≤l.length) (fun i=>l.length-i) [(0, .nil)] [] 0 (by kernel_rfl) (fun _=>rfl) rfl (Nat.zero_le _) (by trivial) (by trivial) ?_
 intro i hi
 conv=>whnf
 apply ah<;>intro h
 rotate_left 1
 ·have hie:i=l.length:=by simp at h;omega
  subst hie
  rw [List.take_length]
  conv=>whnf
  exact aZ [0] (by trivial)
 have hlt:i<l.length:=by simp at h;omega
 have h6:=h64 l[i] (List.getElem_mem hlt)
 conv=>whnf
 refine bD.mk' i rfl (iT hlt) ?_
 conv=>whnf
 refine aT.aB (List.getElem?_eq_getElem hlt) ?_
 conv=>whnf
 refine ak [] (by kernel_rfl) (sQ G l[i] (fun e=>by rw [e]at h6;cases h6) (by omega)) (by trivial) ?_
 rintro _ _ _ ⟨rfl,rfl,rfl⟩
 conv=>whnf
 refine ay.mk (aF (by simp only [List.length_map,List.length_take,List.length_cons,List.length_nil];omega) (by kernel_rfl)) ?_
 conv=>whnf
 refine aK.i64 (by omega) ?_
 conv=>whnf
 exact aI (i+1) [(0, .lab 3)] [] rfl (by show l.length -(i+1)<l.length-i;omega) hlt ⟨⟨rfl,rfl,(Sl hlt).symm⟩,trivial⟩ ⟨rfl,rfl,trivial⟩
theorem Aa (G:Glob)(d:Dk)(h:d.ok):bC Tryz.prog G 42 [qc d] 0 [] (Is (qc d)):=by
 have hhi:=h.hi
 have hsf:=h.sf
 refine au Tryz.func42 rfl mixed (by kernel_rfl) ?_
 conv=>whnf
 (refine bK abJ [] (by kernel_rfl) ?_;conv=>whnf)
 repeat' (first
  | (refine ak [] (by kernel_rfl) (GZ G d.now h.n64 (by omega)) ?_ ?_;(focus (trivial;done));rintro _ _ _ ⟨rfl,rfl,rfl⟩;conv=>whnf)
  | (refine ak [] (by kernel_rfl) (GZ G d.safe h.f64 (by omega)) ?_ ?_;(focus (trivial;done));rintro _ _ _ ⟨rfl,rfl,rfl⟩;conv=>whnf))
 exact aZ [] (by trivial)
theorem leftA (G:Glob)(d d':Dk)(h:d'.ok):bC Tryz.prog G 90 [qc d,qc d'] 0 [] (Is (qc d')):=by
 refine au Tryz.func90 rfl mixed (by kernel_rfl) ?_
 conv=>whnf
 (refine aW [] (by kernel_rfl) (JA G d' h) rfl ?_ ?_;(focus trivial))
 conv=>whnf
 exact aZ [] (by trivial)
theorem Sm (G:Glob)(d:Dk)(h:d.ok):bC Tryz.prog G 90 [qc d,qc Dk.zero] 0 [] (Is (qc d)):=by
 refine au Tryz.func90 rfl mixed (by kernel_rfl) ?_
 conv=>whnf
 (refine aW [] (by kernel_rfl) (Xz G) rfl ?_ ?_;(focus trivial))
 conv=>whnf
 refine ak [] (by kernel_rfl) (Aa G d h) (by trivial) ?_
 rintro _ _ _ ⟨rfl,rfl,rfl⟩
 conv=>whnf
 exact aZ [] (by trivial)
theorem JC (G:Glob)(d:Dk):bC Tryz.prog G 41 [qc d,iv 40] 0 [] (Is (.bG [stA (So.wR d),iv 40])):=by
 refine au Tryz.func41 rfl mixed (by kernel_rfl) ?_
 conv=>whnf
 exact aZ [] (by trivial)
structure WS where
 d:Dk
 i:Nat
theorem LD (G:Glob)(d:Dk)(h:d.ok)(at_:Nat)(l:List By)(h64:Ol l)(hat:at_+l.length≤d.now.length):bC Tryz.prog G 59 [qc d,iv at_,ss l] 0 [] (Is (.bG [qc (qK d at_ l).1,iv (qK d at_ l).2])):=by
 have hhi:=h.hi
 refine au Tryz.func59 rfl mixed (by kernel_rfl) ?_
 conv=>whnf
 refine bf Zd 2 [16] (fun x:WS=> [(16,iv x.i)]) (fun x=> [(0, .var 40 (dkC x.d)),(1, .var 40 [.v (.slice none 0 0), .v (.slice none 0 0),iv 0,iv 0,bv false])]) (fun x=>x.i≤l.length∧x.d.ok∧x.d.now.length=d.now.length∧qK d at_ l=qK x.d (at_+x.i) (l.drop x.i)) (fun x=>l.length-x.i) [] [] ⟨d,0⟩ (by kernel_rfl) (fun _=>rfl) rfl ⟨Nat.zero_le _,h,rfl,rfl⟩ (by trivial) (by trivial) ?_
 rintro⟨d1,i⟩ ⟨hi,hok,hlen,hw⟩
 dsimp only at hi hok hlen hw
 rw [hw]
 conv=>whnf
 apply ah<;>intro h
 ·have hlt:i<l.length:=by simp at h;omega
  have h6:=h64 l[i] (List.getElem_mem hlt)
  have hstep:qK d1 (at_+i) (l.drop i)=if d1.dead then(d1,40)else if d1.fuse=0 then(d1.dying,40)else qK (d1.put (at_+i) l[i]) (at_+i+1) (l.drop (i+1)):=by
   rw [List.drop_eq_getElem_cons hlt];rfl
  have hW:=XA G d1 hok (at_+i) (by omega) l[i] h6
  unfold dWt at hW
  conv=>whnf
  refine bD.mk' i rfl (iT hlt) ?_
  conv=>whnf
  refine aT.aB (List.getElem?_eq_getElem hlt) ?_
  conv=>whnf
  refine aK.to (y:=((at_+i:Nat):Int)) (by dsimp only;rw [IntWalk.i64_in _ (by omega)];omega) ?_
  conv=>whnf
  rcases Bool.eq_false_or_eq_true d1.dead with hd | hd
  ·skip
   rw [hd,if_pos rfl]at hW hstep
   rw [hstep]
   refine ak [] (by kernel_rfl) hW (by trivial) ?_
   rintro _ _ _ ⟨rfl,rfl,rfl⟩
   conv=>whnf
   refine ak [] (by kernel_rfl) (Sm G d1 hok) (by trivial) ?_
   rintro _ _ _ ⟨rfl,rfl,rfl⟩
   conv=>whnf
   exact aZ [] (by trivial)
  ·rw [hd,if_neg (by decide)]at hW hstep
   by_cases hf:d1.fuse=0
   ·rw [if_pos hf]at hW hstep
    rw [hstep]
    refine ak [] (by kernel_rfl) hW (by trivial) ?_
    rintro _ _ _ ⟨rfl,rfl,rfl⟩
    conv=>whnf
    refine ak [] (by kernel_rfl) (leftA G d1 d1.dying hok.dying) (by trivial) ?_
    rintro _ _ _ ⟨rfl,rfl,rfl⟩
    conv=>whnf
    exact aZ [] (by trivial)
   ·rw [if_neg hf]at hW hstep
    refine ak [] (by kernel_rfl) hW (by trivial) ?_
    rintro _ _ _ ⟨rfl,rfl,rfl⟩
    conv=>whnf
    refine aK.i64 (by dsimp only;omega) ?_
    conv=>whnf
    refine aI ⟨d1.put (at_+i) l[i],i+1⟩ [] [] rfl (by show l.length -(i+1)<l.length-i;omega) ⟨hlt,hok.put h6, ?_,hstep⟩ (by trivial) ⟨rfl,trivial⟩
    show (d1.now.set (at_+i) l[i]).length=d.now.length
    rw [List.length_set];exact hlen
 have hie:i=l.length:=by simp at h;omega
 subst hie
 have hstep:qK d1 (at_+l.length) (l.drop l.length)=if d1.dead then(d1,40)else if d1.fuse=0 then(d1.dying,40)else(d1.flush,0):=by
  rw [List.drop_length];rfl
 have hW:=XB G d1 hok
 unfold dFl at hW
 rw [hstep]
 conv=>whnf
 rcases Bool.eq_false_or_eq_true d1.dead with hd | hd
 ·skip
  rw [hd,if_pos rfl]at hW
  simp only [if_pos hd]
  refine ak [] (by kernel_rfl) hW (by trivial) ?_
  rintro _ _ _ ⟨rfl,rfl,rfl⟩
  conv=>whnf
  refine ak [] (by kernel_rfl) (Sm G d1 hok) (by trivial) ?_
  rintro _ _ _ ⟨rfl,rfl,rfl⟩
  conv=>whnf
  exact aZ [] (by trivial)
 ·rw [hd,if_neg (by decide)]at hW
  simp only [if_neg (show ¬(d1.dead=true) by rw [hd];decide)]
  by_cases hf:d1.fuse=0
  ·rw [if_pos hf]at hW ⊢
   refine ak [] (by kernel_rfl) hW (by trivial) ?_
   rintro _ _ _ ⟨rfl,rfl,rfl⟩
   conv=>whnf
   refine ak [] (by kernel_rfl) (leftA G d1 d1.dying hok.dying) (by trivial) ?_
   rintro _ _ _ ⟨rfl,rfl,rfl⟩
   conv=>whnf
   exact aZ [] (by trivial)
  ·rw [if_neg hf]at hW ⊢
   refine ak [] (by kernel_rfl) hW (by trivial) ?_
   rintro _ _ _ ⟨rfl,rfl,rfl⟩
   conv=>whnf
   refine ak [] (by kernel_rfl) (leftA G d1 d1.flush hok.flush) (by trivial) ?_
   rintro _ _ _ ⟨rfl,rfl,rfl⟩
   conv=>whnf
   exact aZ [] (by trivial)
section
attribute [local irreducible] num hsh oM jM fM lg tV sH
def NxR (l:List By)(a:AV)(n:Nat)(H:aj):Prop:= ∃k:Nat,a = .bG [iv (fM l).1,iv (fM l).2.1,iv k,bs (fM l).2.2.2.1,bv (fM l).2.2.2.2]∧n=0∧H = []∧((fM l).2.2.2.2=true→k=(fM l).2.2.1)
theorem Sr (G:Glob)(l:List By)(hl:l.length≤1000):bC Tryz.prog G 78 [ss l] 0 [] (NxR l):=by
 have zero:fM l=Xr→∀k:Nat,NxR l (.bG [iv 0,iv 0,iv k,bs [],bv false]) 0 []:=fun e k=>by
  unfold NxR;rw [e];exact⟨k,rfl,rfl,rfl,fun h=>by cases h⟩
 refine au Tryz.func78 rfl mixed (by kernel_rfl) ?_
 conv=>whnf
 apply ah<;>intro h
 ·have h0:l = []:=by simpa using h
  conv=>whnf
  exact aU (.bG [iv 0,iv 0,iv (0:Nat),bs [],bv false]) 0 [] [] [] (zero (by rw [h0,Ef]) 0) rfl trivial (by trivial)
 have h0:0<l.length:=List.length_pos_iff.2 (by simpa using h)
 conv=>whnf
 refine bD.mk' 0 rfl (iT h0) ?_
 conv=>whnf
 refine aT.aB (List.getElem?_eq_getElem h0) ?_
 conv=>whnf
 refine ak [] (by kernel_rfl) (Js G l[0]) (by trivial) ?_
 rintro _ _ _ ⟨rfl,rfl,g,f,ix,m,rfl,hrd⟩
 conv=>whnf
 apply ah<;>intro h
 ·have hno:jM l[0]=false:=by simpa using h
  conv=>whnf
  exact aU (.bG [iv 0,iv 0,iv (0:Nat),bs [],bv false]) 0 [] [] [] (zero (Ls h0 hno) 0) rfl trivial (by trivial)
 have hok:jM l[0]=true:=by simpa using h
 obtain⟨rfl,rfl,rfl,rfl⟩:=hrd hok
 conv=>whnf
 apply ah<;>intro h
 ·have hlg:l.length<hN l[0]:=by rw [List.length_map]at h;simp at h;omega
  conv=>whnf
  exact aU (.bG [iv 0,iv 0,iv (0:Nat),bs [],bv false]) 0 [] [] [] (zero (RZ h0 hlg) 0) rfl trivial (by trivial)
 have hle:hN l[0]≤l.length:=by rw [List.length_map]at h;simp at h;omega
 have hg:=Xu h0 hok hle
 have hB:=aaC G (l.take (hN l[0])) (by rw [List.length_take];omega)
 unfold NW at hB
 conv=>whnf
 refine kU.mk' 0 (hN l[0]) rfl rfl (Nat.zero_le _) (by rw [List.length_map];exact hle) ?_
 conv=>whnf
 refine ak [] (by kernel_rfl) hB ⟨⟨rfl,List.map_take.symm⟩,trivial⟩ ?_
 rintro _ _ _ ⟨rfl,rfl,rfl⟩
 conv=>whnf
 (refine bK abM [] (by kernel_rfl) ?_;conv=>whnf)
 rcases vH (l.take (hN l[0]))with ⟨g',f',b',hx,e⟩ | ⟨_,e⟩
 ·rw [e]at hg
  have hg:fM l=(((g':Nat):Int),((f':Nat):Int),hN l[0],b',true):=hg
  refine aU (.bG [iv g',iv f',iv (hN l[0]:Nat),bs b',bv true]) 0 [] [] [] ?_ rfl trivial ?_
  ·unfold NxR;rw [hg];exact⟨_,rfl,rfl,rfl,fun _=>rfl⟩
  ·rw [e];trivial
 ·rw [e]at hg
  have hg:fM l=Xr:=hg
  refine aU (.bG [iv 0,iv 0,iv (hN l[0]:Nat),bs [],bv false]) 0 [] [] [] (zero hg _) rfl trivial ?_
  rw [e];trivial
structure LS where
 fr:List By
 at_:Nat
 n:Nat
theorem Yo (G:Glob)(l:List By)(hl:l.length≤1000):bC Tryz.prog G 43 [ss l] 0 [] (Is (.bG [iv (Ei l),ss (wS l),bv (zY l)])):=by
 refine au Tryz.func43 rfl mixed (by kernel_rfl) ?_
 conv=>whnf
 refine ak [] (by kernel_rfl) (Sr G l hl) (by trivial) ?_
 rintro _ _ _ ⟨k,rfl,rfl,rfl,hk⟩
 obtain⟨g,f,n,b,ok,hq⟩ : ∃g f n b ok,fM l=(g,f,n,b,ok):=⟨_,_,_,_,_,rfl⟩
 have aaJ:zY l=(ok&&decide (f=0)):=by rw [sO,hq]
 have hgo:=Lu (g:=g) (l:=l) (k:=0)
 have hnx:= @qL l
 have acQ:(fM l).1=g:=by rw [hq]
 rw [hq]at hk hgo hnx ⊢
 dsimp only at hk hgo hnx ⊢
 conv=>whnf
 apply ah<;>intro h
 ·have hz:zY l=false:=by rw [aaJ];simp at h;rw [h];rfl
  unfold Ei wS
  rw [hz]
  conv=>whnf
  exact aZ [] (by trivial)
 have hok:ok=true:=by simpa using h
 subst hok
 conv=>whnf
 apply ah<;>intro h
 ·have hz:zY l=false:=by rw [aaJ];simp at h;simp [h]
  unfold Ei wS
  rw [hz]
  conv=>whnf
  exact aZ [] (by trivial)
 have hf:f=0:=by simpa using h
 subst hf
 have hy:zY l=true:=by rw [aaJ];rfl
 have hG:Ei l=g:=by unfold Ei;rw [if_pos hy,acQ]
 have hF:wS l=b::lg g (l.drop n) 1:=by unfold wS;rw [if_pos hy,acQ];exact hgo ⟨rfl,rfl,rfl⟩
 obtain⟨g0,f0,b0,_,e0,e1,e2⟩:=hnx rfl
 injection e0 with _ e0
 injection e0 with _ e0
 injection e0 with e0 _
 obtain rfl:=hk rfl
 rw [hy,hG,hF]
 conv=>whnf
 refine bf Y6 2 [7,10,11] (fun x:LS=> [(7,iv x.n),(10, .own 1),(11,iv x.at_)]) (fun x=> [(1, .rows 22 1 (x.fr.map A8))]) (fun x=>x.at_≤l.length∧x.fr.length≤x.at_∧b::lg g (l.drop k) 1=x.fr++lg g (l.drop x.at_) x.fr.length) (fun x=>l.length-x.at_) [(1, .lab 0)] [] ⟨[b],k,k⟩ (by kernel_rfl) (fun _=>rfl) rfl ⟨by show k≤l.length;omega,by show 1≤k;omega,rfl⟩ (by trivial) (by trivial) ?_
 rintro⟨fr,at_,n'⟩ ⟨hat,hfl,hI⟩
 dsimp only at hat hfl hI
 conv=>whnf
 refine kU.mk' at_ l.length rfl (by rw [List.length_map]) hat (by rw [List.length_map];exact Nat.le_refl _) ?_
 conv=>whnf
 refine ak [] (by kernel_rfl) (Sr G (l.drop at_) (by rw [List.length_drop];omega)) ⟨⟨rfl,List.map_drop.symm⟩,trivial⟩ ?_
 rintro _ _ _ ⟨k2,rfl,rfl,rfl,hk2⟩
 obtain⟨g2,f2,n2,b2,ok2,hq2⟩ : ∃g f n b ok,fM (l.drop at_)=(g,f,n,b,ok):=⟨_,_,_,_,_,rfl⟩
 have aaK:=Lu (g:=g) (l:=l.drop at_) (k:=fr.length)
 have hst2:=Eh (g:=g) (l:=l.drop at_) (k:=fr.length)
 have hnx2:= @qL (l.drop at_)
 rw [hq2]at hk2 aaK hst2 hnx2 ⊢
 dsimp only at hk2 aaK hst2 hnx2 ⊢
 rw [hI]
 conv=>whnf
 apply ah<;>intro h
 ·have ho:ok2=false:=by simpa using h
  rw [hst2 (by rw [ho];simp),List.append_nil]
  conv=>whnf
  exact aZ [1] (by trivial)
 have hok2:ok2=true:=by simpa using h
 subst hok2
 conv=>whnf
 apply ah<;>intro h
 ·have ho:g2≠g:=by simpa using h
  rw [hst2 (fun hx=>ho hx.2.1),List.append_nil]
  conv=>whnf
  exact aZ [1] (by trivial)
 have hg2:g2=g:=by simpa using h
 subst hg2
 conv=>whnf
 apply ah<;>intro h
 ·have ho:f2≠(fr.length:Int):=by simpa using h
  rw [hst2 (fun hx=>ho hx.2.2),List.append_nil]
  conv=>whnf
  exact aZ [1] (by trivial)
 have hf2:f2=(fr.length:Int):=by simpa using h
 subst hf2
 obtain⟨g3,f3,b3,_,e3,e4,e5⟩:=hnx2 rfl
 injection e3 with _ e3
 injection e3 with _ e3
 injection e3 with e3 _
 obtain rfl:=hk2 rfl
 rw [List.length_drop]at e4
 conv=>whnf
 refine ay.mk (aF (by simp only [List.length_map,List.length_cons,List.length_nil];omega) (by kernel_rfl)) ?_
 conv=>whnf
 refine aK.to (y:=((at_+k2:Nat):Int)) (by rw [IntWalk.i64_in _ (by omega)];omega) ?_
 conv=>whnf
 refine aI ⟨fr++ [b2],at_+k2,k2⟩ [(1, .lab 3)] [] rfl (by show l.length -(at_+k2)<l.length-at_;omega) ⟨by show at_+k2≤l.length;omega,by show (fr++ [b2]).length≤at_+k2;rw [List.length_append];simp only [List.length_cons,List.length_nil];omega, ?_⟩ ⟨⟨rfl,rfl,(Yn fr b2).symm⟩,trivial⟩ ⟨rfl,rfl,rfl,trivial⟩
 show fr++lg g2 (l.drop at_) fr.length=(fr++ [b2])++lg g2 (l.drop (at_+k2)) (fr++ [b2]).length
 rw [aaK ⟨rfl,rfl,rfl⟩,List.drop_drop,List.length_append,List.append_assoc]
 rfl
end
section
open Go.Proofs.YtocckceefcmeaaaGreatDoor.Ky
attribute [local irreducible] num hsh oM jM fM lg tV tab jY wG
theorem Sv (l:List Ev)(hs:l.length≤10000):bC Tryz.prog GS 80 [el l] 0 [] (Is (el l)):=by
 by_cases hl:l = []
 ·subst hl
  refine au Tryz.func80 rfl mixed (by kernel_rfl) ?_
  conv=>whnf
  refine⟨fun b hb=> ?_⟩
  cases b with
  | true=>
   conv=>whnf
   exact aZ [] (by trivial)
  | false=>
   conv=>whnf
   refine ay.mk (BU (by decide)) ?_
   conv=>whnf
   exact aZ [1] (by trivial)
 ·exact bC.Aq (Ll l hl hs)
structure ES2 where
 out:List Ev
 i:Nat
theorem Ad (a b:List Ev):a.map iE++b.map iE=(a++b).map iE:=List.map_append.symm
theorem G5 (fr:List By)(hl:fr.length≤1000)(hb : ∀b∈fr,b.length≤12240):bC Tryz.prog GS 44 [ss fr] 0 [] (Is (el (sH [] fr))):=by
 refine au Tryz.func44 rfl mixed (by kernel_rfl) ?_
 conv=>whnf
 refine bf Y7 1 [3,10] (fun x:ES2=> [(3, .own 0),(10,iv x.i)]) (fun x=> [(0, .rows 95 10 (x.out.map iE))]) (fun x=>x.i≤fr.length∧x.out.length≤512∧sH [] fr=sH x.out (fr.drop x.i)) (fun x=>fr.length-x.i) [(0, .nil)] [] ⟨[],0⟩ (by kernel_rfl) (fun _=>rfl) rfl ⟨Nat.zero_le _,Nat.zero_le _,rfl⟩ (by trivial) (by trivial) ?_
 rintro⟨out,i⟩ ⟨hi,ho,hI⟩
 dsimp only at hi ho hI
 conv=>whnf
 apply ah<;>intro h
 rotate_left 1
 ·have hie:i=fr.length:=by simp at h;omega
  subst hie
  have e:sH [] fr=out:=by rw [hI,List.drop_length];unfold sH;rfl
  rw [e]
  conv=>whnf
  exact aZ [0] (by trivial)
 have hlt:i<fr.length:=by simp at h;omega
 have hbl:=hb fr[i] (List.getElem_mem hlt)
 have hstep:sH [] fr=if(tV fr[i]).2≠0∨512<out.length+(tV fr[i]).1.length then out else sH (out++(tV fr[i]).1) (fr.drop (i+1)):=by
  rw [hI,List.drop_eq_getElem_cons hlt];rfl
 conv=>whnf
 refine bD.mk' i rfl (iT hlt) ?_
 conv=>whnf
 refine aT.aB (List.getElem?_eq_getElem hlt) ?_
 conv=>whnf
 refine ak [] (by kernel_rfl) (zX fr[i] (by omega)) (by trivial) ?_
 rintro _ _ _ ⟨l,e,hR,rfl,rfl,rfl⟩
 have hrd:=RV hR
 have hll:=hR.2.1
 rw [hrd]at hstep
 conv=>whnf
 apply ah<;>intro h
 ·have he:e≠0:=by simpa using h
  rw [if_pos (.inl he)]at hstep
  rw [hstep]
  conv=>whnf
  exact aZ [0] (by trivial)
 have he:e=0:=by simpa using h
 subst he
 conv=>whnf
 refine aK.i64 (by simp only [List.length_map];omega) ?_
 conv=>whnf
 apply ah<;>intro h
 ·have hg:512<out.length+l.length:=by simp only [List.length_map]at h;simp at h;omega
  rw [if_pos (.inr hg)]at hstep
  rw [hstep]
  conv=>whnf
  exact aZ [0] (by trivial)
 have hg : ¬512<out.length+l.length:=by simp only [List.length_map]at h;simp at h;omega
 rw [if_neg (by simp only [not_or];exact⟨by simp,hg⟩)]at hstep
 conv=>whnf
 refine ay.mk (BU (by simp only [List.length_map];omega)) ?_
 conv=>whnf
 refine aK.i64 (by dsimp only;omega) ?_
 conv=>whnf
 exact aI ⟨out++l,i+1⟩ [(0, .lab 1)] [] rfl (by show fr.length -(i+1)<fr.length-i;omega) ⟨hlt,by show (out++l).length≤512;rw [List.length_append];omega,hstep⟩ ⟨⟨rfl,rfl,Ad out l⟩,trivial⟩ ⟨rfl,rfl,trivial⟩
theorem Sz {a:Int}{l:List By}{i:Nat}(h:i<l.length):lW a (l.take (i+1))=if jM l[i]then max (lW a (l.take i)) (hG l[i]:Int)else lW a (l.take i):=by
 unfold lW
 rw [List.take_succ_eq_append_getElem h,List.foldl_append];rfl
theorem Ae {l:List Ev}(hok : ∀e∈l,e.ok)(h:jJ l=0):(tab l).length≤2300000:=by
 have h0:=oO h
 have hn:nC l≤32:=by unfold nC;omega
 have:=GU hok (zV h0.2) (nC l) (Nat.le_refl _)
 have h2:tab l=zU l (nC l):=by unfold tab;rfl
 rw [h2]
 omega
theorem vJ {s:So}(h:jO (lW s.gen s.d.now+1) 0 (tab s.ev)≠0∨s.d.now.length/2<nS (tab s.ev)):kX s=(So.zero,19):=by
 unfold kX;rw [if_pos h]
theorem xU {s:So}(h : ¬(jO (lW s.gen s.d.now+1) 0 (tab s.ev)≠0∨s.d.now.length/2<nS (tab s.ev))){d:Dk}{e:Int}(hw:qK s.d ((1-s.half).toNat*(s.d.now.length/2)) (qm (lW s.gen s.d.now+1) 0 (tab s.ev))=(d,e)) :
  kX s=if e≠0 then(So.wR d,40)else(⟨d,lW s.gen s.d.now+1,1-s.half,(nS (tab s.ev):Nat),1,s.ev⟩,0):=by
 unfold kX;rw [if_neg h,hw]
theorem sS {g f:Int}{b:By}(h:jO g f b=0):(qm g f b).length=nS b∧Ol (qm g f b):=by
 unfold qm;rw [if_pos h];exact⟨dP _ _ _,fun s hs=>Gp hs⟩
theorem vK (s:So)(hd:s.d.ok)(he:(∀e∈s.ev,e.ok)∧jJ s.ev=0)(hg:0≤s.gen∧s.gen≤4294967295)(hh:s.half=0∨s.half=1):bC Tryz.prog GS 45 [stA s] 0 [] (Is (.bG [stA (kX s).1,iv (kX s).2])):=by
 have hhi:=hd.hi
 refine au Tryz.func45 rfl mixed (by kernel_rfl) ?_
 conv=>whnf
 refine uU Y8 [4,21] (fun i:Nat=> [(4,iv (lW s.gen (s.d.now.take i))),(21,iv i)]) (fun i=>i≤s.d.now.length) (fun i=>s.d.now.length-i) 0 (by kernel_rfl) (fun _=>rfl) (by kernel_rfl) (Nat.zero_le _) (by trivial) (by trivial) ?_
 intro i hi
 conv=>whnf
 apply ah<;>intro h
 ·have hlt:i<s.d.now.length:=by simp at h;omega
  conv=>whnf
  refine bD.mk' i rfl (iT hlt) ?_
  conv=>whnf
  refine aT.aB (List.getElem?_eq_getElem hlt) ?_
  conv=>whnf
  refine ak [] (by kernel_rfl) (Js GS s.d.now[i]) (by trivial) ?_
  rintro _ _ _ ⟨rfl,rfl,g,f,ix,m,rfl,hrd⟩
  conv=>whnf
  have hs:=Sz (a:=s.gen) hlt
  apply ah<;>intro h
  ·obtain⟨rfl,rfl,rfl,rfl⟩:=hrd h
   rw [if_pos h]at hs
   conv=>whnf
   refine aK.i64 (by omega) ?_
   conv=>whnf
   exact aI (i+1) [] [] rfl (by show s.d.now.length -(i+1)<s.d.now.length-i;omega) hlt (by trivial) ⟨DF hs.symm,rfl,trivial⟩
  ·rw [h,if_neg (by decide)]at hs
   conv=>whnf
   refine aK.i64 (by omega) ?_
   conv=>whnf
   exact aI (i+1) [] [] rfl (by show s.d.now.length -(i+1)<s.d.now.length-i;omega) hlt (by trivial) ⟨DF hs.symm,rfl,trivial⟩
 have hie:i=s.d.now.length:=by simp at h;omega
 subst hie
 rw [List.take_length]
 have hT:=sG s.ev he.1 (by have:=(oO he.2).1;omega)
 have e1:Ho s.ev=tab s.ev:=by unfold Ho;rw [if_pos he.2]
 rw [e1,he.2]at hT
 conv=>whnf
 refine ak [] (by kernel_rfl) hT (by trivial) ?_
 rintro _ _ _ ⟨rfl,rfl,rfl⟩
 conv=>whnf
 have hgr:=aaw (l:=s.d.now) hg.2
 have afq:=Jy (l:=s.d.now) (a:=s.gen)
 refine ay.mk (by decide) ?_
 rw [List.length_map]
 refine aK.divN s.d.now.length 2 (by omega) ?_
 conv=>whnf
 refine aK.i64 (by omega) ?_
 conv=>whnf
 refine ak [] (by kernel_rfl) (sJ GS (lW s.gen s.d.now+1) 0 (tab s.ev) (by have:=Ae he.1 he.2;omega)) (by trivial) ?_
 rintro _ _ _ ⟨rfl,rfl,rfl⟩
 conv=>whnf
 apply ah<;>intro h
 ·have hne:jO (lW s.gen s.d.now+1) 0 (tab s.ev)≠0:=by simpa using h
  rw [vJ (.inl hne)]
  conv=>whnf
  exact aZ [] (by trivial)
 have he0:jO (lW s.gen s.d.now+1) 0 (tab s.ev)=0:=by simpa using h
 obtain⟨hL1,hL2⟩:=sS he0
 conv=>whnf
 apply ah<;>intro h
 ·have hlt:s.d.now.length/2<nS (tab s.ev):=by rw [List.length_map,hL1]at h;simp at h;omega
  rw [vJ (.inr hlt)]
  conv=>whnf
  exact aZ [] (by trivial)
 have hle:nS (tab s.ev)≤s.d.now.length/2:=by rw [List.length_map,hL1]at h;simp at h;omega
 obtain⟨hv,hhv,hh2⟩ : ∃hv:Nat,1-s.half=(hv:Int)∧hv≤1:=⟨(1-s.half).toNat,by omega,by omega⟩
 obtain⟨d,e,hw⟩ : ∃d e,qK s.d ((1-s.half).toNat*(s.d.now.length/2)) (qm (lW s.gen s.d.now+1) 0 (tab s.ev))=(d,e):=⟨_,_,rfl⟩
 rw [xU (by omega) hw]
 have hm:hv*(s.d.now.length/2)≤s.d.now.length/2:=by
  have:=Nat.mul_le_mul_right (s.d.now.length/2) hh2
  omega
 rw [hhv,Int.toNat_natCast]at hw
 have hwo:=Ee (at_:=hv*(s.d.now.length/2)) hd hL2
 have hW:=LD GS s.d hd (hv*(s.d.now.length/2)) (qm (lW s.gen s.d.now+1) 0 (tab s.ev)) hL2 (by rw [hL1];omega)
 rw [hw]at hwo hW
 conv=>whnf
 refine aK.to (y:=(hv:Int)) (by rw [hhv];exact IntWalk.i64_in _ (by omega)) ?_
 conv=>whnf
 refine aK.to (y:=((hv*(s.d.now.length/2):Nat):Int)) (by rw [IntWalk.i64_in _ (by rw [←Int.natCast_mul];omega)];omega) ?_
 conv=>whnf
 refine ak [] (by kernel_rfl) hW (by trivial) ?_
 rintro _ _ _ ⟨rfl,rfl,rfl⟩
 conv=>whnf
 apply ah<;>intro h
 ·have hne:e≠0:=by simpa using h
  have h40:e=40:=by rcases hwo.2.2 with h | h;exact absurd h hne;exact h.1
  subst h40
  rw [if_pos hne]
  conv=>whnf
  refine ak [] (by kernel_rfl) (JC GS d) (by trivial) ?_
  rintro _ _ _ ⟨rfl,rfl,rfl⟩
  conv=>whnf
  exact aZ [] (by trivial)
 have aaL:e=0:=by simpa using h
 rw [if_neg (by rw [aaL];simp)]
 conv=>whnf
 rw [hhv]
 (refine bK abK [] (by kernel_rfl) ?_;conv=>whnf)
 refine aK.i64 (by omega) ?_
 conv=>whnf
 refine ak [] (by kernel_rfl) (Sv s.ev (by have:=(oO he.2).1;omega)) (by trivial) ?_
 rintro _ _ _ ⟨rfl,rfl,rfl⟩
 conv=>whnf
 refine aZ [] ⟨⟨⟨rfl,rfl⟩,⟨rfl,rfl⟩,rfl,rfl,rfl,rfl,rfl,congrArg (fun n:Nat=>Value.int .i64 (n:Int)) (by rw [List.length_map,hL1]),rfl,⟨rfl,rfl⟩,trivial⟩,rfl,trivial⟩
theorem XC {l:List Ev} : jY l=0↔∀e∈l,tK e=0:=by
 induction l with
 | nil=>simp [jY]
 | cons e r ih=>
  unfold jY
  by_cases h:tK e=0
  ·rw [if_neg (by simpa using h),ih]
   simp [h]
  ·rw [if_pos h]
   simp [h]
theorem Ej {l:List Ev} : jJ l=0↔l.length≤512∧∀e∈l,tK e=0:=by
 unfold jJ
 split
 ·constructor
  ·intro h;simp at h
  ·intro h;omega
 ·rw [XC]
  constructor
  ·intro h;exact⟨by omega,h⟩
  ·intro h;exact h.2
theorem xW {a b:List Ev}(ha:jJ a=0)(hb:jJ b=0)(h:(a++b).length≤512):jJ (a++b)=0:=by
 rw [Ej]at *
 exact⟨h,fun e he=>(List.mem_append.1 he).elim (ha.2 e) (hb.2 e)⟩
theorem aaM : ∀(fr:List By) (out:List Ev),(∀e∈out,e.ok)→jJ out=0→(∀e∈sH out fr,e.ok)∧jJ (sH out fr)=0:=by
 intro fr
 induction fr with
 | nil=>intro out h1 h2;unfold sH;exact⟨h1,h2⟩
 | cons b r ih=>
  intro out h1 h2
  unfold sH
  split
  ·exact⟨h1,h2⟩
  ·rename_i hc
   have hr:=aax b
   simp only [not_or]at hc
   have h0:(tV b).2=0:=by simpa using hc.1
   refine ih _ (fun e he=>(List.mem_append.1 he).elim (h1 e) (hr.1 e)) (xW h2 (hr.2.2.1 h0).1 (by rw [List.length_append];omega))
theorem xX:jJ []=0:=Ej.2 ⟨Nat.zero_le _,fun e he=>by cases he⟩
theorem sU (l:List By):(wS l).length≤l.length∧∀b∈wS l,b.length≤12240:=by
 unfold wS
 split
 ·exact aaD (Nat.le_refl _)
 ·exact⟨Nat.zero_le _,fun b hb=>by cases hb⟩
theorem sV {l:List By}(h:zY l=true):NU l=sH [] (wS l):=by
 unfold NU wS;rw [if_pos h];unfold lg;rfl
theorem SA (l:List By):(∀e∈NU l,e.ok)∧jJ (NU l)=0:=aaM _ [] (fun e he=>by cases he) xX
theorem SB (a b:List By):((∀e∈(hlf a b).2,e.ok)∧jJ (hlf a b).2=0)∧((hlf a b).1=0∨(hlf a b).1=1):=by
 unfold hlf
 split
 ·exact⟨SA a, .inl rfl⟩
 ·split
  ·exact⟨SA b, .inr rfl⟩
  ·exact⟨⟨(fun e he=>by cases he),xX⟩, .inr rfl⟩
theorem Em (d:Dk)(hd:d.ok):bC Tryz.prog GS 16 [qc d] 0 [] (Is (.bG [stA (nN d).1,iv (nN d).2])):=by
 have hhi:=hd.hi
 have hR:=aaI GS d hd
 unfold wI at hR
 refine au Tryz.func16 rfl mixed (by kernel_rfl) ?_
 conv=>whnf
 refine ak [] (by kernel_rfl) hR (by trivial) ?_
 rintro _ _ _ ⟨rfl,rfl,b0,rfl⟩
 conv=>whnf
 rcases Bool.eq_false_or_eq_true d.dead with hdd | hdd
 ·have e:nN d=(So.wR d,40):=by unfold nN;rw [if_pos hdd]
  rw [if_pos hdd,e]
  conv=>whnf
  refine ak [] (by kernel_rfl) (Aa GS d hd) (by trivial) ?_
  rintro _ _ _ ⟨rfl,rfl,rfl⟩
  conv=>whnf
  refine ak [] (by kernel_rfl) (JC GS d) (by trivial) ?_
  rintro _ _ _ ⟨rfl,rfl,rfl⟩
  conv=>whnf
  exact aZ [] (by trivial)
 have hnd : ¬d.dead=true:=by rw [hdd];decide
 have e:nN d=kX ⟨d,0,(hlf (d.now.take (d.now.length/2)) (d.now.drop (d.now.length/2))).1,0,0,(hlf (d.now.take (d.now.length/2)) (d.now.drop (d.now.length/2))).2⟩:=by unfold nN;rw [if_neg hnd]
 rw [if_neg hnd,e]
 conv=>whnf
 refine ay.mk (by decide) ?_
 rw [List.length_map]
 refine aK.divN d.now.length 2 (by omega) ?_
 conv=>whnf
 refine kU.mk' 0 (d.now.length/2) rfl rfl (Nat.zero_le _) (by rw [List.length_map];omega) ?_
 conv=>whnf
 refine ak [] (by kernel_rfl) (Yo GS (d.now.take (d.now.length/2)) (by rw [List.length_take];omega)) ⟨⟨rfl,List.map_take.symm⟩,trivial⟩ ?_
 rintro _ _ _ ⟨rfl,rfl,rfl⟩
 conv=>whnf
 refine kU.mk' (d.now.length/2) d.now.length rfl (by rw [List.length_map]) (by omega) (by rw [List.length_map];exact Nat.le_refl _) ?_
 conv=>whnf
 refine ak [] (by kernel_rfl) (Yo GS (d.now.drop (d.now.length/2)) (by rw [List.length_drop];omega)) ⟨⟨rfl,List.map_drop.symm⟩,trivial⟩ ?_
 rintro _ _ _ ⟨rfl,rfl,rfl⟩
 have hC:=fun h=>vK ⟨d,0,(hlf (d.now.take (d.now.length/2)) (d.now.drop (d.now.length/2))).1,0,0,(hlf (d.now.take (d.now.length/2)) (d.now.drop (d.now.length/2))).2⟩ hd (SB _ _).1 h (SB _ _).2
 have hC:=hC ⟨Int.le_refl _,by show (0:Int)≤4294967295;decide⟩
 have hA:=fun h=>G5 (wS (d.now.take (d.now.length/2))) h (sU _).2
 have hA:=hA (by have:=(sU (d.now.take (d.now.length/2))).1;rw [List.length_take]at this;omega)
 have hB:=fun h=>G5 (wS (d.now.drop (d.now.length/2))) h (sU _).2
 have hB:=hB (by have:=(sU (d.now.drop (d.now.length/2))).1;rw [List.length_drop]at this;omega)
 generalize d.now.take (d.now.length/2)=A at *
 generalize d.now.drop (d.now.length/2)=B at *
 conv=>whnf
 refine ah (fun ha=> ?_) (fun ha=> ?_)
 ·have hga:Ei A=(fM A).1:=by unfold Ei;rw [if_pos ha]
  conv=>whnf
  apply ah<;>intro h
  ·have hb:zY B=false:=by simpa using h
   have hx:hlf A B=(0,NU A):=by unfold hlf;rw [if_pos ⟨ha, .inl hb⟩]
   rw [hx]at hC ⊢
   conv=>whnf
   refine ak [] (by kernel_rfl) hA (by trivial) ?_
   rintro _ _ _ ⟨rfl,rfl,rfl⟩
   conv=>whnf
   rw [←sV ha]
   refine ak [] (by kernel_rfl) hC (by trivial) ?_
   rintro _ _ _ ⟨rfl,rfl,rfl⟩
   conv=>whnf
   exact aZ [] (by trivial)
  have hb:zY B=true:=by simpa using h
  have hgb:Ei B=(fM B).1:=by unfold Ei;rw [if_pos hb]
  conv=>whnf
  apply ah<;>intro h
  ·have hle:(fM B).1≤(fM A).1:=by rw [←hga, ←hgb];simpa using h
   have hx:hlf A B=(0,NU A):=by unfold hlf;rw [if_pos ⟨ha, .inr hle⟩]
   rw [hx]at hC ⊢
   conv=>whnf
   refine ak [] (by kernel_rfl) hA (by trivial) ?_
   rintro _ _ _ ⟨rfl,rfl,rfl⟩
   conv=>whnf
   rw [←sV ha]
   refine ak [] (by kernel_rfl) hC (by trivial) ?_
   rintro _ _ _ ⟨rfl,rfl,rfl⟩
   conv=>whnf
   exact aZ [] (by trivial)
  ·have hx:hlf A B=(1,NU B):=by
    unfold hlf
    rw [if_neg,if_pos hb]
    rintro⟨_,hy⟩
    rcases hy with hy | hy
    ·rw [hb]at hy;cases hy
    ·rw [←hga, ←hgb]at hy;simp at h;omega
   conv=>whnf
   rw [hb]
   rw [hx]at hC ⊢
   conv=>whnf
   refine ak [] (by kernel_rfl) hB (by trivial) ?_
   rintro _ _ _ ⟨rfl,rfl,rfl⟩
   conv=>whnf
   rw [←sV hb]
   refine ak [] (by kernel_rfl) hC (by trivial) ?_
   rintro _ _ _ ⟨rfl,rfl,rfl⟩
   conv=>whnf
   exact aZ [] (by trivial)
 ·conv=>whnf
  apply ah<;>intro h
  ·have hb:zY B=true:=by simpa using h
   have hx:hlf A B=(1,NU B):=by
    unfold hlf
    rw [if_neg (fun hy=>by rw [ha]at hy;cases hy.1),if_pos hb]
   rw [hx]at hC ⊢
   conv=>whnf
   refine ak [] (by kernel_rfl) hB (by trivial) ?_
   rintro _ _ _ ⟨rfl,rfl,rfl⟩
   conv=>whnf
   rw [←sV hb]
   refine ak [] (by kernel_rfl) hC (by trivial) ?_
   rintro _ _ _ ⟨rfl,rfl,rfl⟩
   conv=>whnf
   exact aZ [] (by trivial)
  ·have hb:zY B=false:=by simpa using h
   have hx:hlf A B=(1,[]):=by
    unfold hlf
    rw [if_neg (fun hy=>by rw [ha]at hy;cases hy.1),if_neg (by rw [hb];decide)]
   rw [hx]at hC ⊢
   conv=>whnf
   refine ak [] (by kernel_rfl) hC (by trivial) ?_
   rintro _ _ _ ⟨rfl,rfl,rfl⟩
   conv=>whnf
   exact aZ [] (by trivial)
end
section
open Go.Proofs.YtocckceefcmeaaaGreatDoor.Ky
attribute [local irreducible] num hsh oM jM fM lg tV tab jY wG
def En (e:Ev):List Value:=(iE e).map fun x=>match x with | .v w=>w | _=> .bool false
theorem N7 (e:Ev):iE e=(En e).map .v:=rfl
theorem SC (w:World):vS Tryz.prog 88 #[.slice none 0 0, .int .i64 (0:Nat)] w fun v w'=>v = .slice none 0 0∧Below w.heap.size w w':=by
 refine eu Tryz.func88 rfl mixed (by kernel_rfl) ?_
 conv=>whnf
 refine I5 rfl ?_
 conv=>whnf
 exact jS.mk ⟨rfl,Below.refl _ _⟩
theorem XD (n:Nat)(hl:n≤1000000):bC Tryz.prog GS 88 [.v (.slice none 0 0),iv n] 0 [] (kW 95 10 []):=by
 have key:=wC (P:=Tryz.prog) (G:=GS) (f:=88) (args:= [.v (.slice none 0 0),iv n]) (E:=95) (sz:=10) (enc:=iE) (c:=En) N7 (fun _=>rfl) (fun e v hv=>by
  simp only [En,iE,List.map_cons,List.map_nil,List.mem_cons,List.not_mem_nil,or_false]at hv
  rcases hv with rfl | rfl | rfl | rfl | rfl | rfl | rfl | rfl | rfl | rfl<;>rfl) (l:= []) (fun w F σ vs hF r=>by
  match vs,r with
  | [u,y],⟨ru,ry,_⟩=>
   rw [ru.dA,ry.dA]
   rcases Nat.eq_zero_or_pos n with rfl | hn
   ·exact(SC w).mono fun v w' ⟨e,hB⟩=>⟨none,0,e,Own.nil _ _ _ _,hB⟩
   ·exact(PX n w hn hl).mono fun v w' ⟨oa,c,e,hO,hB⟩=>⟨oa,c,e,hO,hB⟩)
 exact key
def AA (a b:List Ev):List (List Ev):= [a,b]
theorem LG (a b:List Ev){i:Nat}(h:i<2):([[FV.lst 10 (a.map iE)],[FV.lst 10 (b.map iE)]]:List (List FV))[i]? = some [.lst 10 (((AA a b).getD i []).map iE)]:=by
 match i,h with
 | 0,_=>rfl
 | 1,_=>rfl
theorem SE (a b:List Ev){i:Nat}(h:i<2):((AA a b).take i).flatten.length+((AA a b).getD i []).length≤a.length+b.length:=by
 match i,h with
 | 0,_=>simp [AA]
 | 1,_=>simp [AA]
theorem G6 (a b:List Ev){i:Nat}(h:i<2):((AA a b).take (i+1)).flatten=((AA a b).take i).flatten++(AA a b).getD i []:=by
 match i,h with
 | 0,_=>simp [AA]
 | 1,_=>simp [AA]
attribute [local irreducible] AA
theorem XE (a b:List Ev)(hl:a.length+b.length≤100000):bC Tryz.prog GS 57 [.lst 1 [[.lst 10 (a.map iE)],[.lst 10 (b.map iE)]]] 0 [] (Is (el (a++b))):=by
 have e2:((AA a b).take 2).flatten=a++b:=by unfold AA;simp
 have e0:((AA a b).take 0).flatten = []:=rfl
 refine au Tryz.func57 rfl mixed (by kernel_rfl) ?_
 conv=>whnf
 refine uU Zb [3,11] (fun i:Nat=> [(3,iv (((AA a b).take i).flatten.length:Nat)),(11,iv i)]) (fun i=>i≤2) (fun i=>2-i) 0 (by kernel_rfl) (fun _=>rfl) (by kernel_rfl) (Nat.zero_le _) (by trivial) ⟨by rw [e0];rfl,rfl,trivial⟩ ?_
 intro i hi
 conv=>whnf
 apply ah<;>intro h
 ·have hlt:i<2:=by simp at h;omega
  have hle:=SE a b hlt
  have hsu:=G6 a b hlt
  have hx:(((AA a b).take (i+1)).flatten.length:Int)=(((AA a b).take i).flatten.length:Int)+(((AA a b).getD i []).length:Int):=by rw [hsu,List.length_append,Int.natCast_add]
  have hrow:=LG a b hlt
  generalize (AA a b).getD i []=x at *
  conv=>whnf
  refine bD.mk' i rfl hlt ?_
  conv=>whnf
  refine aT.at hrow ?_
  conv=>whnf
  refine aK.to (y:=(((AA a b).take (i+1)).flatten.length:Int)) (by rw [List.length_map,hx];exact IntWalk.i64_in _ (by omega)) ?_
  conv=>whnf
  refine aK.i64 (by omega) ?_
  conv=>whnf
  exact aI (i+1) [] [] rfl (by show 2 -(i+1)<2-i;omega) hlt (by trivial) ⟨rfl,rfl,trivial⟩
 have hie:i=2:=by simp at h;omega
 subst hie
 rw [e2]
 have hG:=XD (a++b).length (by rw [List.length_append];omega)
 conv=>whnf
 refine ak [] (by kernel_rfl) hG (by trivial) ?_
 rintro _ _ _ ⟨rfl,rfl,rfl⟩
 conv=>whnf
 refine bf Zc 2 [6,27] (fun i:Nat=> [(6, .own 1),(27,iv i)]) (fun i=> [(1, .rows 95 10 (((AA a b).take i).flatten.map iE))]) (fun i=>i≤2) (fun i=>2-i) [(1, .lab 0)] [] 0 (by kernel_rfl) (fun _=>rfl) rfl (Nat.zero_le _) (by trivial) (by trivial) ?_
 intro i hi
 conv=>whnf
 apply ah<;>intro h
 rotate_left 1
 ·have hie:i=2:=by simp at h;omega
  subst hie
  rw [e2]
  conv=>whnf
  exact aZ [1] (by trivial)
 have hlt:i<2:=by simp at h;omega
 have hle:=SE a b hlt
 have hsu:=G6 a b hlt
 have hrow:=LG a b hlt
 generalize (AA a b).getD i []=x at *
 conv=>whnf
 refine bD.mk' i rfl hlt ?_
 conv=>whnf
 refine aT.at hrow ?_
 conv=>whnf
 refine ay.mk (BU (by simp only [List.length_map];omega)) ?_
 conv=>whnf
 refine aK.i64 (by omega) ?_
 conv=>whnf
 exact aI (i+1) [(1, .lab 2)] [] rfl (by show 2 -(i+1)<2-i;omega) hlt ⟨⟨rfl,rfl,by rw [hsu];exact Ad _ _⟩,trivial⟩ ⟨rfl,rfl,trivial⟩
theorem acR (g:Int)(b:By)(half:Nat)(hb:b.length≤3000000)(hh:half≤1000):bC Tryz.prog GS 58 [iv g,bs b,iv half] 0 [] (Is (bv (decide (jO g 0 b=0∧nS b≤half)))):=by
 refine au Tryz.func58 rfl mixed (by kernel_rfl) ?_
 conv=>whnf
 refine ak [] (by kernel_rfl) (sJ GS g 0 b hb) (by trivial) ?_
 rintro _ _ _ ⟨rfl,rfl,rfl⟩
 conv=>whnf
 apply ah<;>intro h
 ·have he:jO g 0 b=0:=by simpa using h
  conv=>whnf
  refine aZ [] (congrArg Value.bool ?_)
  rw [List.length_map,(sS he).1]
  simp [he]
 ·have he:jO g 0 b≠0:=by simpa using h
  conv=>whnf
  refine aZ [] (congrArg Value.bool ?_)
  simp [he]
theorem LH (s:So)(h:s.ok):bC Tryz.prog GS 54 [stA s] 0 [] (Is (bv true)):=by
 obtain⟨hd,hg,hh,hn,hf,he⟩:=h
 have hhi:=hd.hi
 have hT:=sG s.ev he.1 (by have:=(oO he.2).1;omega)
 rw [he.2]at hT
 refine au Tryz.func54 rfl mixed (by kernel_rfl) ?_
 conv=>whnf
 (refine aW [] (by kernel_rfl) (JA GS s.d hd) rfl ?_ ?_;(focus trivial))
 conv=>whnf
 repeat' (first
  | (apply ah<;>intro h<;>(first | (exfalso;(try rw [List.length_map]at h);simp at h;omega) | ((try simp at h);conv=>whnf)))
  | (refine ay.mk (by decide) ?_;rw [List.length_map];refine aK.divN s.d.now.length 2 (by omega) ?_;conv=>whnf)
  | (refine ak [] (by kernel_rfl) hT ?_ ?_;(focus (trivial;done));rintro _ _ _ ⟨rfl,rfl,rfl⟩;conv=>whnf))
 all_goals exact aZ [] rfl
theorem SG {s:So}{l:List Ev}(h:jJ l≠0):nO s l=(So.zero,jJ l):=by unfold nO;rw [if_pos h]
theorem Cb {s:So}{l:List Ev}(h:jJ l=0)(h2:512<s.ev.length+l.length):nO s l=(So.zero,5):=by unfold nO;rw [if_neg (by simp [h]),if_pos h2]
theorem Af (s:So)(h:s.ev.length≤512):nO s []=(s,0):=by
 unfold nO;rw [if_neg (by rw [xX];simp),if_neg (by simp;omega),if_pos rfl]
theorem vM {s:So}{l:List Ev}(h:jJ l=0)(h2 : ¬512<s.ev.length+l.length)(h3:l≠ [])(h4:255<nS (tab (s.ev++l))∨s.d.now.length/2<nS (tab (s.ev++l))):nO s l=(So.zero,19):=by
 unfold nO;rw [if_neg (by simp [h]),if_neg h2,if_neg h3,if_pos h4]
theorem Ag {s:So}{l:List Ev}(h:jJ l=0)(h2 : ¬512<s.ev.length+l.length)(h3:l≠ [])(h4 : ¬(255<nS (tab (s.ev++l))∨s.d.now.length/2<nS (tab (s.ev++l))))(h5:jO s.gen s.frame (tab l)≠0∨((s.d.now.length/2:Nat):Int)<s.next+(nS (tab l):Nat)):nO s l=kX {s with ev:=s.ev++l}:=by
 unfold nO;rw [if_neg (by simp [h]),if_neg h2,if_neg h3,if_neg h4,if_pos h5]
theorem Eo {s:So}{l:List Ev}(h:jJ l=0)(h2 : ¬512<s.ev.length+l.length)(h3:l≠ [])(h4 : ¬(255<nS (tab (s.ev++l))∨s.d.now.length/2<nS (tab (s.ev++l))))(h5 : ¬(jO s.gen s.frame (tab l)≠0∨((s.d.now.length/2:Nat):Int)<s.next+(nS (tab l):Nat)))
  {d:Dk} {e:Int} (hw:qK s.d (s.half.toNat*(s.d.now.length/2)+s.next.toNat) (qm s.gen s.frame (tab l))=(d,e)) :
  nO s l=if e≠0 then(So.wR d,40)else(⟨d,s.gen,s.half,s.next+(nS (tab l):Nat),s.frame+1,s.ev++l⟩,0):=by
 unfold nO;rw [if_neg (by simp [h]),if_neg h2,if_neg h3,if_neg h4,if_neg h5,hw]
theorem Cc (s:So)(h:s.ok):bC Tryz.prog GS 21 [stA s] 0 [] (Is (.bG [stA (kX s).1,iv (kX s).2])):=by
 have hg:=h.gen
 refine au Tryz.func21 rfl mixed (by kernel_rfl) ?_
 conv=>whnf
 (refine aW [] (by kernel_rfl) (LH s h) rfl ?_ ?_;(focus trivial))
 conv=>whnf
 refine ak [] (by kernel_rfl) (vK s h.d h.ev (by omega) h.half) (by trivial) ?_
 rintro _ _ _ ⟨rfl,rfl,rfl⟩
 conv=>whnf
 exact aZ [] (by trivial)
theorem SH (s:So)(h:s.ok)(l:List Ev)(hl : ∀e∈l,e.ok)(hll:l.length≤1000):bC Tryz.prog GS 23 [stA s,el l] 0 [] (Is (.bG [stA (nO s l).1,iv (nO s l).2])):=by
 have hV:=LH s h
 obtain⟨hd,hg,hh,hn,hf,he⟩:=h
 have hhi:=hd.hi
 have hel:=(oO he.2).1
 have hT:=sG l hl (by omega)
 refine au Tryz.func23 rfl mixed (by kernel_rfl) ?_
 conv=>whnf
 (refine aW [] (by kernel_rfl) (hV) rfl ?_ ?_;(focus trivial))
 conv=>whnf
 refine ak [] (by kernel_rfl) hT (by trivial) ?_
 rintro _ _ _ ⟨rfl,rfl,rfl⟩
 conv=>whnf
 apply ah<;>intro h
 ·have hne:jJ l≠0:=by simpa using h
  rw [SG hne]
  conv=>whnf
  exact aZ [] (by trivial)
 have h0:jJ l=0:=by simpa using h
 have eB:Ho l=tab l:=by unfold Ho;rw [if_pos h0]
 rw [eB]
 conv=>whnf
 refine aK.i64 (by simp only [List.length_map];omega) ?_
 conv=>whnf
 apply ah<;>intro h
 ·have hgt:512<s.ev.length+l.length:=by simp only [List.length_map]at h;simp at h;omega
  rw [Cb h0 hgt]
  conv=>whnf
  exact aZ [] (by trivial)
 have hgt : ¬512<s.ev.length+l.length:=by simp only [List.length_map]at h;simp at h;omega
 conv=>whnf
 refine ak [2] (by kernel_rfl) (XE s.ev l (by omega)) (by trivial) ?_
 rintro _ _ _ ⟨rfl,rfl,rfl⟩
 conv=>whnf
 apply ah<;>intro h
 ·have hnil:l = []:=by simpa using h
  subst hnil
  rw [Af s hel]
  conv=>whnf
  refine ak [] (by kernel_rfl) (Aa GS s.d hd) (by trivial) ?_
  rintro _ _ _ ⟨rfl,rfl,rfl⟩
  conv=>whnf
  rw [List.append_nil]
  exact aZ [] (by trivial)
 have hnil:l≠ []:=by simpa using h
 have hev:(∀e∈s.ev++l,e.ok)∧jJ (s.ev++l)=0:=⟨fun e h=>(List.mem_append.1 h).elim (he.1 e) (hl e),xW he.2 h0 (by rw [List.length_append];omega)⟩
 have hT2:=sG (s.ev++l) hev.1 (by rw [List.length_append];omega)
 have e2:Ho (s.ev++l)=tab (s.ev++l):=by unfold Ho;rw [if_pos hev.2]
 rw [e2,hev.2]at hT2
 have hFi:=acR s.gen (tab (s.ev++l)) (s.d.now.length/2) (by have:=Ae hev.1 hev.2;omega) (by omega)
 have hC:=vK {s with ev:=s.ev++l} hd hev (by show 0≤s.gen∧s.gen≤4294967295;omega) hh
 have hS:=sJ GS s.gen s.frame (tab l) (by have:=Ae hl h0;omega)
 conv=>whnf
 refine ay.mk (by decide) ?_
 rw [List.length_map]
 refine aK.divN s.d.now.length 2 (by omega) ?_
 conv=>whnf
 refine ak [] (by kernel_rfl) hT2 (by trivial) ?_
 rintro _ _ _ ⟨rfl,rfl,rfl⟩
 conv=>whnf
 refine ak [] (by kernel_rfl) hFi (by trivial) ?_
 rintro _ _ _ ⟨rfl,rfl,rfl⟩
 conv=>whnf
 apply ah<;>intro h
 ·have hfu:255<nS (tab (s.ev++l))∨s.d.now.length/2<nS (tab (s.ev++l)):=by
   by_cases h1:nS (tab (s.ev++l))≤255
   ·have:=vG (b:=tab (s.ev++l)) (f:=0) hg.1 hg.2 (by omega) (by omega) h1
    simp [this]at h;omega
   ·omega
  rw [vM h0 hgt hnil hfu]
  conv=>whnf
  exact aZ [] (by trivial)
 have hfu : ¬(255<nS (tab (s.ev++l))∨s.d.now.length/2<nS (tab (s.ev++l))):=by
  simp at h
  have:=(wB h.1).2.2.2.2
  omega
 conv=>whnf
 refine ak [] (by kernel_rfl) hS (by trivial) ?_
 rintro _ _ _ ⟨rfl,rfl,rfl⟩
 conv=>whnf
 have toC:jO s.gen s.frame (tab l)≠0∨((s.d.now.length/2:Nat):Int)<s.next+(nS (tab l):Nat)→nO s l=kX {s with ev:=s.ev++l}:=Ag h0 hgt hnil hfu
 apply ah<;>intro h
 ·have hx:jO s.gen s.frame (tab l)≠0∨((s.d.now.length/2:Nat):Int)<s.next+(nS (tab l):Nat):= .inl (by simpa using h)
  rw [toC hx]
  conv=>whnf
  refine ak [] (by kernel_rfl) hC (by trivial) ?_
  rintro _ _ _ ⟨rfl,rfl,rfl⟩
  conv=>whnf
  exact aZ [] (by trivial)
 have hs0:jO s.gen s.frame (tab l)=0:=by simpa using h
 obtain⟨hL1,hL2⟩:=sS hs0
 have hq:=(wB hs0).2.2.2.2
 conv=>whnf
 refine aK.to (y:=s.next+(nS (tab l):Nat)) (by rw [List.length_map,hL1];exact IntWalk.i64_in _ (by omega)) ?_
 conv=>whnf
 apply ah<;>intro h
 ·have hx:jO s.gen s.frame (tab l)≠0∨((s.d.now.length/2:Nat):Int)<s.next+(nS (tab l):Nat):= .inr (by simpa using h)
  rw [toC hx]
  conv=>whnf
  refine ak [] (by kernel_rfl) hC (by trivial) ?_
  rintro _ _ _ ⟨rfl,rfl,rfl⟩
  conv=>whnf
  exact aZ [] (by trivial)
 have hfit:s.next+(nS (tab l):Nat)≤((s.d.now.length/2:Nat):Int):=by simp at h;omega
 obtain⟨hv,hhv,hh2⟩ : ∃hv:Nat,s.half=(hv:Int)∧hv≤1:=⟨s.half.toNat,by omega,by omega⟩
 obtain⟨nv,hnv⟩ : ∃nv:Nat,s.next=(nv:Int):=⟨s.next.toNat,by omega⟩
 obtain⟨d,e,hw⟩ : ∃d e,qK s.d (s.half.toNat*(s.d.now.length/2)+s.next.toNat) (qm s.gen s.frame (tab l))=(d,e):=⟨_,_,rfl⟩
 rw [Eo h0 hgt hnil hfu (by omega) hw]
 have hm:hv*(s.d.now.length/2)≤s.d.now.length/2:=by
  have:=Nat.mul_le_mul_right (s.d.now.length/2) hh2
  omega
 rw [hhv,hnv,Int.toNat_natCast,Int.toNat_natCast]at hw
 have hwo:=Ee (at_:=hv*(s.d.now.length/2)+nv) hd hL2
 have hW:=LD GS s.d hd (hv*(s.d.now.length/2)+nv) (qm s.gen s.frame (tab l)) hL2 (by rw [hL1];omega)
 rw [hw]at hwo hW
 conv=>whnf
 refine aK.to (y:=((hv*(s.d.now.length/2):Nat):Int)) (by rw [hhv,IntWalk.i64_in _ (by rw [←Int.natCast_mul];omega)];omega) ?_
 conv=>whnf
 refine aK.to (y:=((hv*(s.d.now.length/2)+nv:Nat):Int)) (by rw [hnv,IntWalk.i64_in _ (by omega)];omega) ?_
 conv=>whnf
 refine ak [] (by kernel_rfl) hW (by trivial) ?_
 rintro _ _ _ ⟨rfl,rfl,rfl⟩
 conv=>whnf
 apply ah<;>intro h
 ·have hne:e≠0:=by simpa using h
  have h40:e=40:=by rcases hwo.2.2 with h | h;exact absurd h hne;exact h.1
  subst h40
  rw [if_pos hne]
  conv=>whnf
  refine ak [] (by kernel_rfl) (JC GS d) (by trivial) ?_
  rintro _ _ _ ⟨rfl,rfl,rfl⟩
  conv=>whnf
  exact aZ [] (by trivial)
 have aaL:e=0:=by simpa using h
 rw [if_neg (by rw [aaL];simp)]
 conv=>whnf
 refine aK.to (y:=s.next+(nS (tab l):Nat)) (by rw [List.length_map,hL1];exact IntWalk.i64_in _ (by omega)) ?_
 conv=>whnf
 refine aK.i64 (by omega) ?_
 conv=>whnf
 exact aZ [] (by trivial)
end
section
attribute [local irreducible] num hsh oM jM
end
end Go.Proofs.YtocckceefcmeaaaGreatDoor.Cl
