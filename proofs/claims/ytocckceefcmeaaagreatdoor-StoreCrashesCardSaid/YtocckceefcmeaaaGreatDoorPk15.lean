/- Joined parts of the proof. bits.Mul, and the walk of slices.Repeat on one number -/
import Derived.Test.YtocckceefcmeaaaGreatDoorPk14
import Derived.Test.YtocckceefcmeaaaGreatDoorPk11
import Derived.Sort.Walk0
set_option linter.unusedVariables false
set_option linter.unusedSimpArgs false
set_option maxRecDepth 100000
set_option maxHeartbeats 16000000
namespace Go.Proofs.YtocckceefcmeaaaGreatDoor.Cl
open Go Go.RowKit Go.Proofs Go.Proofs.YtocckceefcmeaaaGreatDoor.Vc Go.Proofs.YtocckceefcmeaaaGreatDoor.Ax
attribute [local irreducible] loadVar storeVar Instr.indexAt Instr.index Instr.sliceAt Instr.makeSlice Instr.lookup Instr.mapUpdate Instr.range Instr.next Instr.entry Instr.makeMap Builtin.append_ Builtin.copy_ Builtin.len_ Builtin.min_ Builtin.max_ Builtin.cap_ Builtin.delete_ Builtin.clear_ convert binOp eqGuard Op.unary Calls
theorem aeB (x y:Nat)(hx:x<18446744073709551616)(hy:y<18446744073709551616):bD Tryz.prog GC 215 [uv x,uv y] 0 [] (Is (.bH [uv (x*y/18446744073709551616),uv (x*y%18446744073709551616)])):=
 RI (l:= [.int .u64 (x:Int), .int .u64 (y:Int)]) fun w=>Calls.mono (Tryz.bits_Mul x y hx hy w) fun e w' ⟨h1,h2⟩=>⟨_,h1,rfl,by rw [h2];exact Below.refl _ _⟩
def rH (x:Int)(n k:Nat):List (List FV):=(List.replicate n x++List.replicate (k-n) 0).map oM
theorem Hg (x:Int){n k:Nat}(h:n≤k):(rH x n k).length=k:=by simp [rH];omega
theorem Am (x:Int){n c k:Nat}(h:n+c≤k)(ys:List (List FV))(hy:ys=List.replicate c (oM x)):splice (rH x n k) n ys=rH x (n+c) k:=by
 subst hy
 unfold splice rH
 rw [List.length_replicate,List.map_append,List.map_append,List.map_replicate,List.map_replicate,List.map_replicate,List.map_replicate]
 rw [List.take_left' (by simp),List.drop_append,List.length_replicate,List.drop_eq_nil_of_le (by simp),List.nil_append,List.drop_replicate,List.replicate_append_replicate]
 congr 2
 omega
theorem Xx (x:Int)(k:Nat)(hk:1≤k)(hk2:k≤100000):bD Tryz.prog GC 201 [li [x],iv k] 0 [] (lM 3 1 ((List.replicate k x).map oM)):=by
 have hm:=aeB 1 k (by decide) (by omega)
 refine au Tryz.func201 rfl mixed (by kernel_rfl) ?_
 conv=>whnf
 refine aI.to (y:=((1:Nat):Int)) (lN (n:=1) (by decide)) ?_
 conv=>whnf
 refine aI.to (y:=((k:Nat):Int)) (lN (by omega)) ?_
 conv=>whnf
 (refine bf [] (by kernel_rfl) (hm) rfl ?_ ?_;(focus trivial))
 conv=>whnf
 apply ah<;>intro h
 ·exfalso;simp at h;omega
 conv=>whnf
 apply ah<;>intro h
 ·exfalso;simp at h;omega
 conv=>whnf
 refine aI.to (y:=((k:Nat):Int)) (by
  have e:1*k%18446744073709551616=k:=by omega
  rw [e];exact IntWalk.i64_in _ (by omega)) ?_
 conv=>whnf
 refine KG.mk' (iQ:=8) k rfl rfl (by unfold maxLen;omega) ?_
 conv=>whnf
 refine bg VO 1 [8] (fun n:Nat=> [(8,iv n)]) (fun n=> [(0, .rows 3 1 (rH x n k))]) (fun n=>1≤n∧n≤k) (fun n=>k-n) [] [] 1 (by kernel_rfl) (fun _=>rfl) rfl ⟨Nat.le_refl _,hk⟩ ⟨⟨rfl,rfl, ?_⟩,trivial⟩ ⟨?_,trivial⟩ ?_
 ·have e:=Am x (n:=0) (c:=1) (k:=k) (by omega) [oM x] rfl
  have e2:List.replicate k [FV.v (.int .i64 0)]=rH x 0 k:=by unfold rH;rw [List.replicate_zero,List.nil_append,Nat.sub_zero,List.map_replicate];rfl
  show splice (List.replicate k [FV.v (.int .i64 0)]) 0 (List.take (min 1 (List.replicate k [FV.v (.int .i64 0)]).length) [oM x])=_
  rw [e2,Hg x (Nat.zero_le _),Nat.min_eq_left hk]
  exact e
 ·show Value.int .i64 ((min 1 (List.replicate k [FV.v (.int .i64 0)]).length:Nat):Int)=Value.int .i64 ((1:Nat):Int)
  rw [List.length_replicate,Nat.min_eq_left hk]
 rintro n ⟨hn1,hn2⟩
 have hrl:=Hg x hn2
 conv=>whnf
 apply ah<;>intro h
 ·have hlt:n<k:=by rw [hrl]at h;simp at h;omega
  conv=>whnf
  (refine aP ZY [0] (by kernel_rfl) ?_;conv=>whnf)
  refine lT.mk' n k rfl (by rw [hrl]) hn2 (by rw [hrl];exact Nat.le_refl _) ?_
  conv=>whnf
  refine lT.mk' 0 n rfl rfl (Nat.zero_le _) (by rw [hrl];exact hn2) ?_
  conv=>whnf
  have hy:((rH x n k).drop 0).take (n-0)=List.replicate n (oM x):=by
   unfold rH
   rw [List.drop_zero,Nat.sub_zero,List.map_append,List.map_replicate,List.take_left' (by simp)]
  have hc:min (((rH x n k).drop 0).take (n-0)).length (k-n)=min n (k-n):=by rw [hy,List.length_replicate]
  have hys:List.take (min (((rH x n k).drop 0).take (n-0)).length (k-n)) (((rH x n k).drop 0).take (n-0))=List.replicate (min n (k-n)) (oM x):=by
   rw [hc,hy,List.take_replicate]
   congr 1;omega
  have hsp:=Am x (n:=n) (c:=min n (k-n)) (k:=k) (by omega) _ hys
  refine aI.to (y:=((n+min n (k-n):Nat):Int)) (by rw [hc,IntWalk.i64_in _ (by omega)];omega) ?_
  conv=>whnf
  exact aF (n+min n (k-n)) [] [] rfl (by show k -(n+min n (k-n))<k-n;omega) ⟨by omega,by omega⟩ ⟨⟨rfl,rfl,hsp⟩,trivial⟩ ⟨rfl,trivial⟩
 ·have:n=k:=by rw [hrl]at h;simp at h;omega
  subst this
  conv=>whnf
  have e:rH x n n=(List.replicate n x).map oM:=by unfold rH;rw [Nat.sub_self,List.replicate_zero,List.append_nil]
  exact aV (.own 0) 1 _ [(0, .lab 0)] [] ⟨rfl,rfl,rfl⟩ rfl ⟨⟨rfl,rfl,e⟩,trivial⟩ (by trivial)
def BL (body:Li→By)(b:By)(n:Nat)(a:AV)(m:Nat)(H:ak):Prop:= ∃l ok,JG body b n l ok∧a = .bH [.own 0,bv ok]∧m=1∧H = [(0, .rows 3 1 (l.map oM))]
structure RX where
 b:By
 e:Int
 out:Li
theorem gJ {b:By}{m k:Nat}(h:b.length≤m):(b.drop k).length≤m:=by rw [List.length_drop];omega
theorem Ap (b:By)(n:Nat)(hb:b.length≤3000000)(hn:n≤512):bD Tryz.prog GC 177 [bs b,iv n] 0 [] (BL b1 b n):=by
 refine au Tryz.func177 rfl mixed (by kernel_rfl) ?_
 conv=>whnf
 (refine aj [] (by kernel_rfl) (Ew b hb) ?_ ?_;(focus trivial))
 rintro _ _ _ ⟨rfl,rfl,rfl⟩
 conv=>whnf
 refine bg Vz 2 [7] (fun _:RX=> [(7, .own 1)]) (fun x=> [(1, .rows 3 1 (x.out.map oM)),(0,jS x.b x.e)]) (fun x=>x.out.length≤n∧cO x.out∧x.b.length≤3000000∧Pr b n b1 (Q1 x.b x.out x.e)) (fun x=>n-x.out.length) [(1, .nil)] [] ⟨b,0,[]⟩ (by kernel_rfl) (fun _=>rfl) rfl ⟨Nat.zero_le _,cO.nil,hb,(Pr.start b n b1).mono fun l0 r _ _ h=>Q1.start h⟩ ⟨rfl,(by trivial),trivial⟩ ⟨trivial,trivial⟩ ?_
 rintro⟨b',e,out⟩ ⟨h1,h2,h3,h4⟩
 change out.length≤n at h1
 change cO out at h2
 change b'.length≤3000000 at h3
 change Pr b n b1 (Q1 b' out e)at h4
 have fin:((e=0→out.length=n))→JG b1 b n out (e==0):=fun hx=>⟨h2,h1,h4.mono fun l0 r _ hl h=>by
  have:=h.fin fun he=>by rw [hx he,hl]
  exact⟨by simp [this.1],this.2.1⟩⟩
 conv=>whnf
 apply ah<;>intro h
 ·have hlt:out.length<n:=by simp at h;omega
  conv=>whnf
  refine aH [0] [] (by kernel_rfl) (tH b' e) rfl (by trivial) (by trivial) ?_
  rintro _ _ _ ⟨rfl,rfl,rfl⟩
  refine⟨rfl, ?_⟩
  conv=>whnf
  apply ah<;>intro h
  ·have he:e=0:=by simpa using h
   conv=>whnf
   refine aH [0] [] (by kernel_rfl) (jH b' e h3) rfl (by trivial) (by trivial) ?_
   rintro _ _ _ ⟨rfl,rfl,rfl⟩
   refine⟨rfl, ?_⟩
   conv=>whnf
   refine ay.mk (aG (by simp only [List.length_map,List.length_append,List.length_cons,List.length_nil];omega) (by kernel_rfl)) ?_
   conv=>whnf
   refine aF ⟨b'.drop (bT b' e).2.1,(bT b' e).2.2,out++ [(bT b' e).1]⟩ [(1, .lab 3)] [] rfl (by show n -(out++ [(bT b' e).1]).length<n-out.length;rw [List.length_append];simp;omega)
    ⟨by show (out++ [(bT b' e).1]).length≤n;rw [List.length_append];simp;omega,h2.snoc (jv b' e).1,gJ h3,fun l0 r ha hl hb0=>(h4 l0 r ha hl hb0).step ha (by omega)⟩ ⟨⟨rfl,rfl,(Hf out _).symm⟩,(by trivial),trivial⟩ ⟨rfl,trivial⟩
  ·have he:e≠0:=by simpa using h
   conv=>whnf
   refine aH [0] [] (by kernel_rfl) (tH b' e) rfl (by trivial) (by trivial) ?_
   rintro _ _ _ ⟨rfl,rfl,rfl⟩
   refine⟨rfl, ?_⟩
   conv=>whnf
   exact aV (.bH [.own 0,bv (e==0)]) 1 _ [(0, .lab 1)] [] ⟨out,e==0,fin fun h=>absurd h he,rfl,rfl,rfl⟩ rfl (by trivial) (by trivial)
 ·have hlt:out.length=n:=by simp at h;omega
  conv=>whnf
  refine aH [0] [] (by kernel_rfl) (tH b' e) rfl (by trivial) (by trivial) ?_
  rintro _ _ _ ⟨rfl,rfl,rfl⟩
  refine⟨rfl, ?_⟩
  conv=>whnf
  exact aV (.bH [.own 0,bv (e==0)]) 1 _ [(0, .lab 1)] [] ⟨out,e==0,fin fun _=>hlt,rfl,rfl,rfl⟩ rfl (by trivial) (by trivial)
def Iq (l:Li)(i:Nat):Li:=(sm 0 l).take i++l.drop i
theorem Xy (l:Li)(i:Nat)(h:i≤l.length):(Iq l i).length=l.length:=by unfold Iq;rw [List.length_append,List.length_take,List.length_drop,pJ];omega
theorem aaJ {l:Li}{i:Nat}(h:i<l.length):(Iq l i)[i]? = some l[i]:=by
 unfold Iq
 rw [List.getElem?_append_right (by rw [List.length_take,pJ];omega),List.length_take,pJ,Nat.min_eq_left (by omega),Nat.sub_self,List.getElem?_drop,Nat.add_zero,List.getElem?_eq_getElem h]
theorem JQ {l:Li}{i:Nat}(h:i<l.length)(h0:0<i):(Iq l i)[i-1]? = some ((sm 0 l).getD (i-1) 0):=by
 unfold Iq
 rw [List.getElem?_append_left (by rw [List.length_take,pJ];omega),List.getElem?_take,if_pos (by omega),List.getD_eq_getElem?_getD,List.getElem?_eq_getElem (by rw [pJ];omega)]
 rfl
theorem Sm {l:Li}{i:Nat}(h:i<l.length)(h0:0<i):Iq l (i+1)=(Iq l i).set i (Bo (l[i]+(sm 0 l).getD (i-1) 0)):=by
 obtain⟨j,rfl⟩ : ∃j,i=j+1:=⟨i-1,by omega⟩
 have hs:=sm_at l 0 j h
 have hg:l.getD (j+1) 0=l[j+1]:=by rw [List.getD_eq_getElem?_getD,List.getElem?_eq_getElem h];rfl
 rw [hg,Int.add_comm]at hs
 have hlt:j+1<(sm 0 l).length:=by rw [pJ];exact h
 unfold Iq
 rw [List.take_succ_eq_append_getElem hlt,List.set_append_right _ _ (by rw [List.length_take];omega),List.length_take,Nat.min_eq_left (by omega),Nat.sub_self,drop_cons h,List.set_cons_zero,List.append_assoc]
 rw [List.getElem?_eq_getElem hlt]at hs
 injection hs with hs
 rw [hs]
 rfl
theorem Xz {l:Li}(h:cO l):Iq l 1=l:=by
 cases l with
 | nil=>rfl
 | cons x r=>
  have:=QW (h x List.mem_cons_self)
  simp only [Iq,sm,Int.zero_add,this]
  rfl
theorem Ol {b:By}{n:Nat}{l:Li}{ok:Bool}(h:JG b1 b n l ok):JG b3 b n (sm 0 l) ok:=by
 refine⟨aaC l 0,by rw [pJ];exact h.2.1,fun l0 r ha hl hb=> ?_⟩
 have:=h.2.2 (dl 0 l0) r (aaB l0 0) (by rw [aaA];exact hl) (by rw [hb, ←acI];rfl)
 exact⟨this.1,by rw [this.2,acJ l0 0 ha]⟩
theorem JR (b:By)(n:Nat)(hb:b.length≤3000000)(hn:n≤512):bD Tryz.prog GC 181 [bs b,iv n] 0 [] (BL b3 b n):=by
 refine au Tryz.func181 rfl mixed (by kernel_rfl) ?_
 conv=>whnf
 (refine aj [] (by kernel_rfl) (Ap b n hb hn) ?_ ?_;(focus trivial))
 rintro _ _ _ ⟨l,ok,hd,rfl,rfl,rfl⟩
 conv=>whnf
 have hll:=hd.2.1
 refine bg VF 1 [8] (fun i:Nat=> [(8,iv i)]) (fun i=> [(0, .rows 3 1 ((Iq l i).map oM))]) (fun i=>1≤i∧(l.length=0∨i≤l.length)) (fun i=>l.length-i) [] [] 1 (by kernel_rfl) (fun _=>rfl) rfl ⟨Nat.le_refl _,by omega⟩ ⟨⟨rfl,rfl,by rw [Xz hd.1]⟩,trivial⟩ ⟨rfl,trivial⟩ ?_
 rintro i ⟨hi1,hi2⟩
 have hsl:(Iq l i).length=l.length:=by
  rcases hi2 with h | h
  ·have:l = []:=List.eq_nil_of_length_eq_zero h
   subst this;simp [Iq,sm]
  ·exact Xy l i h
 conv=>whnf
 apply ah<;>intro h
 ·have hlt:i<l.length:=by simp only [List.length_map,hsl]at h;simp at h;omega
  conv=>whnf
  (refine aP ZW [] (by kernel_rfl) ?_;conv=>whnf)
  repeat' (first
   | (refine bC.mk' i rfl (by rw [List.length_map,hsl];exact hlt) ?_;conv=>whnf)
   | (refine bC.mk' (i-1) (by show (i:Int)-1=_;omega) (by rw [List.length_map,hsl];omega) ?_;conv=>whnf)
   | (refine aS.aA (aaJ hlt) ?_;conv=>whnf)
   | (refine aS.aA (JQ hlt hi1) ?_;conv=>whnf)
   | (refine aI.i64 (x:=(i:Int)-1) (by omega) ?_;conv=>whnf)
   | (refine aI.i64 (x:=(i:Int)+1) (by omega) ?_;conv=>whnf)
   | (refine aI.to rfl ?_;conv=>whnf))
  refine aF (i+1) [] [] rfl (by show l.length -(i+1)<l.length-i;omega) ⟨by omega, .inr hlt⟩ ⟨⟨rfl,rfl, ?_⟩,trivial⟩ ⟨rfl,trivial⟩
  rw [Sm hlt hi1,List.map_set]
  rfl
 ·have hge:l.length≤i:=by simp only [List.length_map,hsl]at h;simp at h;omega
  have e:Iq l i=sm 0 l:=by unfold Iq;rw [List.drop_eq_nil_of_le hge,List.append_nil,List.take_of_length_le (by rw [pJ];exact hge)]
  conv=>whnf
  exact aV (.bH [.own 0,bv ok]) 1 _ [(0, .lab 0)] [] ⟨sm 0 l,ok,Ol hd,rfl,rfl,by rw [←e]⟩ rfl (by trivial) (by trivial)
structure SX where
 b:By
 out:Li
theorem Om (b:By)(n:Nat)(hb:b.length≤3000000)(hn:n≤512):bD Tryz.prog GC 179 [bs b,iv n] 0 [] (BL b2 b n):=by
 refine au Tryz.func179 rfl mixed (by kernel_rfl) ?_
 conv=>whnf
 (refine aj [] (by kernel_rfl) (Ew b hb) ?_ ?_;(focus trivial))
 rintro _ _ _ ⟨rfl,rfl,rfl⟩
 conv=>whnf
 refine bg VD 2 [7] (fun _:SX=> [(7, .own 1)]) (fun x=> [(1, .rows 3 1 (x.out.map oM)),(0,jS x.b 0)]) (fun x=>x.out.length≤n∧cO x.out∧x.b.length≤3000000∧Pr b n b2 (Q2 x.b x.out 0)) (fun x=>n-x.out.length) [(1, .nil)] [] ⟨b,[]⟩ (by kernel_rfl) (fun _=>rfl) rfl ⟨Nat.zero_le _,cO.nil,hb,(Pr.start b n b2).mono fun l0 r _ _ h=>Q2.start h⟩ ⟨rfl,(by trivial),trivial⟩ ⟨trivial,trivial⟩ ?_
 rintro⟨b',out⟩ ⟨h1,h2,h3,h4⟩
 change out.length≤n at h1
 change cO out at h2
 change b'.length≤3000000 at h3
 change Pr b n b2 (Q2 b' out 0)at h4
 conv=>whnf
 apply ah<;>intro h
 rotate_left 1
 ·have hlt:out.length=n:=by simp at h;omega
  conv=>whnf
  exact aV (.bH [.own 0,bv true]) 1 _ [(0, .lab 1)] [] ⟨out,true,⟨h2,h1,h4.mono fun l0 r _ hl h=>⟨rfl,(h.fin (by omega)).1⟩⟩,rfl,rfl,rfl⟩ rfl (by trivial) (by trivial)
 have hlt:out.length<n:=by simp at h;omega
 conv=>whnf
 refine aH [0] [] (by kernel_rfl) (jH b' 0 h3) rfl (by trivial) (by trivial) ?_
 rintro _ _ _ ⟨rfl,rfl,rfl⟩
 refine⟨rfl, ?_⟩
 conv=>whnf
 refine aH [0] [] (by kernel_rfl) (jH (b'.drop (bT b' 0).2.1) (bT b' 0).2.2 (gJ h3)) rfl (by trivial) (by trivial) ?_
 rintro _ _ _ ⟨rfl,rfl,rfl⟩
 refine⟨rfl, ?_⟩
 conv=>whnf
 have hx:=(jv b' 0).1
 have hb2:((b'.drop (bT b' 0).2.1).drop (bT (b'.drop (bT b' 0).2.1) (bT b' 0).2.2).2.1).length≤3000000:=gJ (gJ h3)
 have step:Pr b n b2 fun l0 r=> ∃m:Nat,(bT (b'.drop (bT b' 0).2.1) (bT b' 0).2.2).2.2=0∧(bT (b'.drop (bT b' 0).2.1) (bT b' 0).2.2).1=((m+1:Nat):Int)∧m+1+out.length≤n∧
   Q2 ((b'.drop (bT b' 0).2.1).drop (bT (b'.drop (bT b' 0).2.1) (bT b' 0).2.2).2.1) (out++List.replicate (m+1) (bT b' 0).1) 0 l0 r:=fun l0 r ha hl hb0=>by
  have:=(h4 l0 r ha hl hb0).step ha (by omega) (by omega)
  rw [hl]at this
  exact this
 generalize (bT b' 0).1=x at *
 generalize hq:bT (b'.drop (bT b' 0).2.1) (bT b' 0).2.2=t at *
 obtain⟨kk,j,e⟩:=t
 simp only at step hb2 ⊢
 generalize (b'.drop (bT b' 0).2.1).drop j=b2' at *
 refine aH [0] [] (by kernel_rfl) (tH b2' e) rfl (by trivial) (by trivial) ?_
 rintro _ _ _ ⟨rfl,rfl,rfl⟩
 refine⟨rfl, ?_⟩
 conv=>whnf
 have bad:(¬(e=0∧1≤kk∧kk≤(n:Int) -(out.length:Int)))→JG b2 b n [] false:=fun hbad=>⟨cO.nil,Nat.zero_le _,fun l0 r ha hl hb0=>by
  obtain⟨m,m1,m2,m3,_⟩:=step l0 r ha hl hb0
  exact absurd ⟨m1,by omega,by omega⟩ hbad⟩
 apply ah<;>intro h
 ·have he:e≠0:=by simpa using h
  conv=>whnf
  exact aV (.bH [.own 0,bv false]) 1 [(0, .rows 3 1 [])] [(0, .nil)] [] ⟨[],false,bad fun h=>he h.1,rfl,rfl,rfl⟩ rfl (by trivial) (by trivial)
 have he:e=0:=by simpa using h
 subst he
 conv=>whnf
 apply ah<;>intro h
 ·have hk:kk<1:=by simpa using h
  conv=>whnf
  exact aV (.bH [.own 0,bv false]) 1 [(0, .rows 3 1 [])] [(0, .nil)] [] ⟨[],false,bad fun h=>by omega,rfl,rfl,rfl⟩ rfl (by trivial) (by trivial)
 have hk:1≤kk:=by simp at h;omega
 conv=>whnf
 refine aI.to (y:=(n:Int) -(out.length:Int)) (by rw [List.length_map];exact IntWalk.i64_in _ (by show _≤(n:Int) -(out.length:Int)∧(n:Int) -(out.length:Int)≤_;omega)) ?_
 conv=>whnf
 apply ah<;>intro h
 ·have hk2:(n:Int) -(out.length:Int)<kk:=by simp at h;omega
  conv=>whnf
  exact aV (.bH [.own 0,bv false]) 1 [(0, .rows 3 1 [])] [(0, .nil)] [] ⟨[],false,bad fun h=>by omega,rfl,rfl,rfl⟩ rfl (by trivial) (by trivial)
 have hk2:kk≤(n:Int) -(out.length:Int):=by simp at h;omega
 obtain⟨k,rfl⟩ : ∃k:Nat,kk=(k:Int):=⟨kk.toNat,by omega⟩
 conv=>whnf
 (refine aj [2] (by kernel_rfl) (Xx x k (by omega) (by omega)) ?_ ?_;(focus trivial))
 rintro _ _ _ ⟨rfl,rfl,rfl⟩
 conv=>whnf
 refine ay.mk (aG (by simp only [List.length_map,List.length_append,List.length_replicate];omega) (by kernel_rfl)) ?_
 conv=>whnf
 refine aF ⟨b2',out++List.replicate k x⟩ [(1, .lab 4)] [] rfl (by show n -(out++List.replicate k x).length<n-out.length;rw [List.length_append,List.length_replicate];omega)
  ⟨by show (out++List.replicate k x).length≤n;rw [List.length_append,List.length_replicate];omega,h2.app (cO.rep hx k),hb2,fun l0 r ha hl hb0=> ?_⟩ ⟨⟨rfl,rfl,by rw [List.map_append]⟩,(by trivial),trivial⟩ ⟨rfl,trivial⟩
 obtain⟨m,m1,m2,m3,m4⟩:=step l0 r ha hl hb0
 have:m+1=k:=by omega
 rw [this]at m4
 exact m4
theorem kT (b:By)(e most em:Int)(hm:0≤most)(hem:em≠0):0≤(iT b e most em).1∧(iT b e most em).1≤most∧(iT b e most em).2.1=(bT b e).2.1∧((iT b e most em).2.2=0→(bT b e).2.2=0∧(iT b e most em).1=(bT b e).1):=by
 rw [kS]
 generalize bT b e=t
 obtain⟨x,k,e'⟩:=t
 simp only
 by_cases h1:e'=0
 ·by_cases h2:x<0
  ·simp [h1,h2,hm]
  ·by_cases h3:most<x
   ·simp [h1,h2,h3,hm,hem]
   ·simp [h1,h2,h3];omega
 ·simp [h1,hm]
theorem JU (b:By)(n:Nat)(hb:b.length≤3000000)(hn:n≤512):bD Tryz.prog GC 183 [bs b,iv n] 0 [] (BL b4 b n):=by
 have hstart:=Q4k.start (b:=b) (n:=n) hn (most:=(n:Int)) (em:=5) (Int.le_refl _)
 have hcb:(b.drop (iT b 0 n 5).2.1).length≤3000000:=gJ hb
 have hcnt:=wF b 0 n hb (by omega)
 have hkk:=kT b 0 (n:Int) 5 (by omega) (by decide)
 generalize iT b 0 n 5=t at *
 obtain⟨kk,j,e0⟩:=t
 simp only at hstart hcb hcnt hkk
 have hkk:=And.intro hkk.1 hkk.2.1
 generalize b.drop j=b0 at *
 obtain⟨k,rfl⟩ : ∃k:Nat,kk=(k:Int):=⟨kk.toNat,by omega⟩
 refine au Tryz.func183 rfl mixed (by kernel_rfl) ?_
 conv=>whnf
 (refine aj [] (by kernel_rfl) (Ew b hb) ?_ ?_;(focus trivial))
 rintro _ _ _ ⟨rfl,rfl,rfl⟩
 conv=>whnf
 refine aH [0] [] (by kernel_rfl) hcnt rfl (by trivial) (by trivial) ?_
 rintro _ _ _ ⟨rfl,rfl,rfl⟩
 refine⟨rfl, ?_⟩
 conv=>whnf
 refine bg VH 2 [8] (fun _:RX=> [(8, .own 1)]) (fun x=> [(1, .rows 3 1 (x.out.map oM)),(0,jS x.b x.e)]) (fun x=>x.out.length≤k∧cO x.out∧x.b.length≤3000000∧Pr b n b4 (Q4k k x.b x.out x.e)) (fun x=>k-x.out.length) [(1, .nil)] [] ⟨b0,e0,[]⟩ (by kernel_rfl) (fun _=>rfl) rfl ⟨Nat.zero_le _,cO.nil,hcb,fun l0 r ha hl hb0=>(hstart l0 r ha hl hb0).2⟩ ⟨rfl,(by trivial),trivial⟩ ⟨trivial,trivial⟩ ?_
 rintro⟨b',e,keys⟩ ⟨h1,h2,h3,h4⟩
 change keys.length≤k at h1
 change cO keys at h2
 change b'.length≤3000000 at h3
 change Pr b n b4 (Q4k k b' keys e)at h4
 conv=>whnf
 apply ah<;>intro h
 ·have hlt:keys.length<k:=by simp at h;omega
  conv=>whnf
  refine aH [0] [] (by kernel_rfl) (tH b' e) rfl (by trivial) (by trivial) ?_
  rintro _ _ _ ⟨rfl,rfl,rfl⟩
  refine⟨rfl, ?_⟩
  conv=>whnf
  apply ah<;>intro h
  ·have he:e=0:=by simpa using h
   conv=>whnf
   refine aH [0] [] (by kernel_rfl) (jH b' e h3) rfl (by trivial) (by trivial) ?_
   rintro _ _ _ ⟨rfl,rfl,rfl⟩
   refine⟨rfl, ?_⟩
   conv=>whnf
   refine ay.mk (aG (by simp only [List.length_map,List.length_append,List.length_cons,List.length_nil];omega) (by kernel_rfl)) ?_
   conv=>whnf
   refine aF ⟨b'.drop (bT b' e).2.1,(bT b' e).2.2,keys++ [(bT b' e).1]⟩ [(1, .lab 3)] [] rfl (by show k -(keys++ [(bT b' e).1]).length<k-keys.length;rw [List.length_append];simp;omega)
    ⟨by show (keys++ [(bT b' e).1]).length≤k;rw [List.length_append];simp;omega,h2.snoc (jv b' e).1,gJ h3,fun l0 r ha hl hb0=> ?_⟩ ⟨⟨rfl,rfl,(Hf keys _).symm⟩,(by trivial),trivial⟩ ⟨rfl,trivial⟩
   obtain⟨hk,hq⟩:=h4 l0 r ha hl hb0
   exact⟨hk,hq.step (fun y hy=>ha y ((oC l0 y).1 hy)) (by omega)⟩
  have he:e≠0:=by simpa using h
  have hx:e=0→keys.length=k:=fun h=>absurd h he
  conv=>whnf
  refine bg Le 3 [9] (fun _:RX=> [(9, .own 2)]) (fun x=> [(2, .rows 3 1 (x.out.map oM)),(1, .rows 3 1 (keys.map oM)),(0,jS x.b x.e)]) (fun x=>x.out.length≤n∧cO x.out∧x.b.length≤3000000∧Pr b n b4 (Q4 keys x.b x.out x.e)) (fun x=>n-x.out.length) [(2, .nil)] [] ⟨b',e,[]⟩ (by kernel_rfl) (fun _=>rfl) rfl ⟨Nat.zero_le _,cO.nil,h3,h4.mono fun l0 r _ _ h=>Q4.start (fun he=>by rw [hx he]) h⟩ ⟨rfl,⟨rfl,rfl,rfl⟩,(by trivial),trivial⟩ ⟨trivial,trivial⟩ ?_
  clear h3 h4 hx h1
  rintro⟨b',e,out⟩ ⟨h1,h5,h3,h4⟩
  change out.length≤n at h1
  change cO out at h5
  change b'.length≤3000000 at h3
  change Pr b n b4 (Q4 keys b' out e)at h4
  conv=>whnf
  apply ah<;>intro h
  rotate_left 1
  ·have hlt:out.length=n:=by simp at h;omega
   conv=>whnf
   exact aV (.bH [.own 0,bv true]) 1 _ [(0, .lab 2)] [] ⟨out,true,⟨h5,h1,h4.mono fun l0 r _ hl h=>⟨rfl,(h.fin (by omega)).1⟩⟩,rfl,rfl,rfl⟩ rfl (by trivial) (by trivial)
  have hlt:out.length<n:=by simp at h;omega
  have step:Pr b n b4 fun l0 r=> ∃(i:Nat) (x:Int),(bT b' e).2.2=0∧(bT b' e).1=(i:Int)∧keys[i]? = some x∧Q4 keys (b'.drop (bT b' e).2.1) (out++ [x]) 0 l0 r:=fun l0 r ha hl hb0=>(h4 l0 r ha hl hb0).step (by omega) (by omega)
  have hnum:=jH b' e h3
  have hb2:(b'.drop (bT b' e).2.1).length≤3000000:=gJ h3
  generalize bT b' e=t at *
  obtain⟨ii,j,e2⟩:=t
  simp only at step hnum hb2
  generalize b'.drop j=b2' at *
  conv=>whnf
  refine aH [0] [] (by kernel_rfl) hnum rfl (by trivial) (by trivial) ?_
  rintro _ _ _ ⟨rfl,rfl,rfl⟩
  refine⟨rfl, ?_⟩
  conv=>whnf
  refine aH [0] [] (by kernel_rfl) (tH b2' e2) rfl (by trivial) (by trivial) ?_
  rintro _ _ _ ⟨rfl,rfl,rfl⟩
  refine⟨rfl, ?_⟩
  conv=>whnf
  have bad:(¬(e2=0∧0≤ii∧ii<(keys.length:Int)))→JG b4 b n [] false:=fun hbad=>⟨cO.nil,Nat.zero_le _,fun l0 r ha hl hb0=>by
   obtain⟨i,x,m1,m2,m3,_⟩:=step l0 r ha hl hb0
   have:=(List.getElem?_eq_some_iff.1 m3).1
   exact absurd ⟨m1,by omega,by omega⟩ hbad⟩
  apply ah<;>intro h
  ·have he:e2≠0:=by simpa using h
   conv=>whnf
   exact aV (.bH [.own 0,bv false]) 1 [(0, .rows 3 1 [])] [(0, .nil)] [] ⟨[],false,bad fun h=>he h.1,rfl,rfl,rfl⟩ rfl (by trivial) (by trivial)
  have he:e2=0:=by simpa using h
  subst he
  conv=>whnf
  apply ah<;>intro h
  ·have hk:ii<0:=by simpa using h
   conv=>whnf
   exact aV (.bH [.own 0,bv false]) 1 [(0, .rows 3 1 [])] [(0, .nil)] [] ⟨[],false,bad fun h=>by omega,rfl,rfl,rfl⟩ rfl (by trivial) (by trivial)
  have hk:0≤ii:=by simp at h;omega
  conv=>whnf
  apply ah<;>intro h
  ·have hk2:(keys.length:Int)≤ii:=by simp at h;omega
   conv=>whnf
   exact aV (.bH [.own 0,bv false]) 1 [(0, .rows 3 1 [])] [(0, .nil)] [] ⟨[],false,bad fun h=>by omega,rfl,rfl,rfl⟩ rfl (by trivial) (by trivial)
  have hk2:ii<(keys.length:Int):=by simp at h;omega
  obtain⟨i,rfl⟩ : ∃i:Nat,ii=(i:Int):=⟨ii.toNat,by omega⟩
  have hil:i<keys.length:=by omega
  conv=>whnf
  refine bC.mk' i rfl (fQ hil) ?_
  conv=>whnf
  refine aS.map hil ?_
  conv=>whnf
  refine ay.mk (aG (by simp only [List.length_map,List.length_append,List.length_cons,List.length_nil];omega) (by kernel_rfl)) ?_
  conv=>whnf
  refine aF ⟨b2',0,out++ [keys[i]]⟩ [(2, .lab 4)] [] rfl (by show n -(out++ [keys[i]]).length<n-out.length;rw [List.length_append];simp;omega)
   ⟨by show (out++ [keys[i]]).length≤n;rw [List.length_append];simp;omega,h5.snoc (h2 _ (List.getElem_mem hil)),hb2,fun l0 r ha hl hb0=> ?_⟩ ⟨⟨rfl,rfl,(Hf out _).symm⟩,⟨rfl,rfl,rfl⟩,(by trivial),trivial⟩ ⟨rfl,trivial⟩
  obtain⟨i',x,m1,m2,m3,m4⟩:=step l0 r ha hl hb0
  have:i'=i:=by omega
  subst this
  rw [List.getElem?_eq_getElem hil]at m3
  injection m3 with m3
  rw [m3]
  exact m4
 ·have hlt:keys.length=k:=by simp at h;omega
  have hx:e=0→keys.length=k:=fun _=>hlt
  conv=>whnf
  refine bg Le 3 [9] (fun _:RX=> [(9, .own 2)]) (fun x=> [(2, .rows 3 1 (x.out.map oM)),(1, .rows 3 1 (keys.map oM)),(0,jS x.b x.e)]) (fun x=>x.out.length≤n∧cO x.out∧x.b.length≤3000000∧Pr b n b4 (Q4 keys x.b x.out x.e)) (fun x=>n-x.out.length) [(2, .nil)] [] ⟨b',e,[]⟩ (by kernel_rfl) (fun _=>rfl) rfl ⟨Nat.zero_le _,cO.nil,h3,h4.mono fun l0 r _ _ h=>Q4.start (fun he=>by rw [hx he]) h⟩ ⟨rfl,⟨rfl,rfl,rfl⟩,(by trivial),trivial⟩ ⟨trivial,trivial⟩ ?_
  clear h3 h4 hx h1
  rintro⟨b',e,out⟩ ⟨h1,h5,h3,h4⟩
  change out.length≤n at h1
  change cO out at h5
  change b'.length≤3000000 at h3
  change Pr b n b4 (Q4 keys b' out e)at h4
  conv=>whnf
  apply ah<;>intro h
  rotate_left 1
  ·have hlt:out.length=n:=by simp at h;omega
   conv=>whnf
   exact aV (.bH [.own 0,bv true]) 1 _ [(0, .lab 2)] [] ⟨out,true,⟨h5,h1,h4.mono fun l0 r _ hl h=>⟨rfl,(h.fin (by omega)).1⟩⟩,rfl,rfl,rfl⟩ rfl (by trivial) (by trivial)
  have hlt:out.length<n:=by simp at h;omega
  have step:Pr b n b4 fun l0 r=> ∃(i:Nat) (x:Int),(bT b' e).2.2=0∧(bT b' e).1=(i:Int)∧keys[i]? = some x∧Q4 keys (b'.drop (bT b' e).2.1) (out++ [x]) 0 l0 r:=fun l0 r ha hl hb0=>(h4 l0 r ha hl hb0).step (by omega) (by omega)
  have hnum:=jH b' e h3
  have hb2:(b'.drop (bT b' e).2.1).length≤3000000:=gJ h3
  generalize bT b' e=t at *
  obtain⟨ii,j,e2⟩:=t
  simp only at step hnum hb2
  generalize b'.drop j=b2' at *
  conv=>whnf
  refine aH [0] [] (by kernel_rfl) hnum rfl (by trivial) (by trivial) ?_
  rintro _ _ _ ⟨rfl,rfl,rfl⟩
  refine⟨rfl, ?_⟩
  conv=>whnf
  refine aH [0] [] (by kernel_rfl) (tH b2' e2) rfl (by trivial) (by trivial) ?_
  rintro _ _ _ ⟨rfl,rfl,rfl⟩
  refine⟨rfl, ?_⟩
  conv=>whnf
  have bad:(¬(e2=0∧0≤ii∧ii<(keys.length:Int)))→JG b4 b n [] false:=fun hbad=>⟨cO.nil,Nat.zero_le _,fun l0 r ha hl hb0=>by
   obtain⟨i,x,m1,m2,m3,_⟩:=step l0 r ha hl hb0
   have:=(List.getElem?_eq_some_iff.1 m3).1
   exact absurd ⟨m1,by omega,by omega⟩ hbad⟩
  apply ah<;>intro h
  ·have he:e2≠0:=by simpa using h
   conv=>whnf
   exact aV (.bH [.own 0,bv false]) 1 [(0, .rows 3 1 [])] [(0, .nil)] [] ⟨[],false,bad fun h=>he h.1,rfl,rfl,rfl⟩ rfl (by trivial) (by trivial)
  have he:e2=0:=by simpa using h
  subst he
  conv=>whnf
  apply ah<;>intro h
  ·have hk:ii<0:=by simpa using h
   conv=>whnf
   exact aV (.bH [.own 0,bv false]) 1 [(0, .rows 3 1 [])] [(0, .nil)] [] ⟨[],false,bad fun h=>by omega,rfl,rfl,rfl⟩ rfl (by trivial) (by trivial)
  have hk:0≤ii:=by simp at h;omega
  conv=>whnf
  apply ah<;>intro h
  ·have hk2:(keys.length:Int)≤ii:=by simp at h;omega
   conv=>whnf
   exact aV (.bH [.own 0,bv false]) 1 [(0, .rows 3 1 [])] [(0, .nil)] [] ⟨[],false,bad fun h=>by omega,rfl,rfl,rfl⟩ rfl (by trivial) (by trivial)
  have hk2:ii<(keys.length:Int):=by simp at h;omega
  obtain⟨i,rfl⟩ : ∃i:Nat,ii=(i:Int):=⟨ii.toNat,by omega⟩
  have hil:i<keys.length:=by omega
  conv=>whnf
  refine bC.mk' i rfl (fQ hil) ?_
  conv=>whnf
  refine aS.map hil ?_
  conv=>whnf
  refine ay.mk (aG (by simp only [List.length_map,List.length_append,List.length_cons,List.length_nil];omega) (by kernel_rfl)) ?_
  conv=>whnf
  refine aF ⟨b2',0,out++ [keys[i]]⟩ [(2, .lab 4)] [] rfl (by show n -(out++ [keys[i]]).length<n-out.length;rw [List.length_append];simp;omega)
   ⟨by show (out++ [keys[i]]).length≤n;rw [List.length_append];simp;omega,h5.snoc (h2 _ (List.getElem_mem hil)),hb2,fun l0 r ha hl hb0=> ?_⟩ ⟨⟨rfl,rfl,(Hf out _).symm⟩,⟨rfl,rfl,rfl⟩,(by trivial),trivial⟩ ⟨rfl,trivial⟩
  obtain⟨i',x,m1,m2,m3,m4⟩:=step l0 r ha hl hb0
  have:i'=i:=by omega
  subst this
  rw [List.getElem?_eq_getElem hil]at m3
  injection m3 with m3
  rw [m3]
  exact m4
theorem acU (c:UInt8){s:Nat}(hs:s<8):IntKind.u64.wrap (bn .and .u8 (Int.fdiv (c.toNat:Int) (2^min (Int.toNat (s:Int)) IntKind.u8.bits)) 1)=(((if c.toNat.testBit s=true then 1 else 0):Nat):Int):=by
 have e:IntKind.u8.bits=8:=rfl
 have e1:(1:Int)=((1:Nat):Int):=rfl
 have hc:=c.toNat_lt
 have hd:c.toNat/2^s≤c.toNat:=Nat.div_le_self _ _
 have e2:Int.fdiv (c.toNat:Int) (2^s)=((c.toNat/2^s:Nat):Int):=by rw [Int.fdiv_eq_ediv_of_nonneg _ (Int.pow_nonneg (by decide))];simp
 rw [e,Int.toNat_natCast,Nat.min_eq_left (by omega),e2,e1,Lu _ _ (by omega) (by decide),and1,JI,lN (by split<;>omega)]
theorem acV {c k:Nat}(hc:c≤1)(hk:k<64):IntKind.u64.wrap ((c:Int)*2^min (Int.toNat (k:Int)) IntKind.u64.bits)=((c*2^k:Nat):Int)∧c*2^k<18446744073709551616:=by
 have e:IntKind.u64.bits=64:=rfl
 have h1:2^k≤2^63:=Nat.pow_le_pow_right (by decide) (by omega)
 have h2:=Nat.mul_le_mul hc h1
 have h3:(1:Nat)*2^63<18446744073709551616:=by decide
 have e2:(c:Int)*2^k=((c*2^k:Nat):Int):=by simp
 rw [e,Int.toNat_natCast,Nat.min_eq_left (by omega),e2]
 exact⟨lN (by omega),by omega⟩
theorem or_bit {d c k:Nat}(hd:d<2^k)(hk:k<64)(hc:c*2^k<18446744073709551616):bn .or .u64 (d:Int) ((c*2^k:Nat):Int)=((d+c*2^k:Nat):Int):=by
 have h1:2^k≤2^63:=Nat.pow_le_pow_right (by decide) (by omega)
 have h3:(2:Nat)^63<18446744073709551616:=by decide
 rw [Ls d _ (by omega) hc,vZ _ _ hd]
theorem aaK (x:Int)(d:Nat):IntKind.i64.wrap (IntKind.u64.wrap (IntKind.u64.wrap x+(d:Int)))=Bo (x+(d:Int)):=by
 have e:IntKind.u64.bits=64:=rfl
 have e1:IntKind.u64.signed=false:=rfl
 have:=Ae (IntKind.u64.wrap (IntKind.u64.wrap x+(d:Int)))
 unfold Bo at this
 rw [this,Ae]
 simp only [IntKind.wrap,e,e1,Bool.false_and,Bool.false_eq_true,if_false]
 omega
theorem aaL {b:By}(h:(iT (b.drop (bT b 0).2.1) (bT b 0).2.2 64 5).2.2=0) : ∃(w:Nat) (rest:By),w≤64∧(iT (b.drop (bT b 0).2.1) (bT b 0).2.2 64 5).1=(w:Int)∧I64 (bT b 0).1∧b=num (bT b 0).1++(num (w:Int)++rest):=by
 have hr:=kT (b.drop (bT b 0).2.1) (bT b 0).2.2 64 5 (by decide) (by decide)
 have h2:=hr.2.2.2 h
 have o2:=(jv (b.drop (bT b 0).2.1) (bT b 0).2.2).2.2.1 h2.1
 have o1:=jv b 0
 have o3:=o1.2.2.1 o2.1
 refine⟨(iT (b.drop (bT b 0).2.1) (bT b 0).2.2 64 5).1.toNat,(b.drop (bT b 0).2.1).drop (bT (b.drop (bT b 0).2.1) (bT b 0).2.2).2.1,by omega,by omega,o1.1, ?_⟩
 have e:(((iT (b.drop (bT b 0).2.1) (bT b 0).2.2 64 5).1.toNat:Nat):Int)=(bT (b.drop (bT b 0).2.1) (bT b 0).2.2).1:=by omega
 rw [e, ←o2.2.1]
 exact o3.2.1
theorem Sr {b rest:By}{least:Int}{n w:Nat}(hi:I64 least)(hw:w≤64)(hb:b=num least++(num (w:Int)++rest)):Pr b n b5 (Q5 least w rest):=fun l0 r ha hl h=>by
 rw [hb]at h
 have hlw:=LK l0 ha
 cases l0 with
 | nil=>
  have e0:b5 []=num 0++(num ((0:Nat):Int)++ []):=by decide
  have r1:=jl hi (num (w:Int)++rest)
  have r2:=jl (n:=0) (by unfold I64;omega) (num ((0:Nat):Int)++r)
  rw [h,e0]at r1
  simp only [List.append_nil,List.append_assoc]at r1
  rw [r2]at r1
  have e1:least=0:=by injection r1 with h _;exact h.symm
  subst e1
  rw [e0]at h
  simp only [List.append_nil,List.append_assoc]at h
  have h:=List.append_cancel_left h
  have r3:=jl (n:=(w:Int)) (bW (by omega)) rest
  have r4:=jl (n:=((0:Nat):Int)) (by unfold I64;omega) r
  rw [h,r4]at r3
  have e2:w=0:=by injection r3 with h _;omega
  subst e2
  have h:=List.append_cancel_left h
  exact⟨by decide,by decide,by rw [h];rfl⟩
 | cons x t=>
  have hlo:=ha _ (lo_le (l:=x::t) (x:=x) List.mem_cons_self).2
  have e0:b5 (x::t)++r=num (lo (x::t))++(num (wd (x::t):Int)++(pk (rG (lo (x::t)) (wd (x::t)) (x::t)) (uI (x::t).length (wd (x::t))) ((x::t).length*wd (x::t))++r)):=by unfold b5;simp only [List.append_assoc]
  rw [e0]at h
  have r1:=jl hi (num (w:Int)++rest)
  rw [h,jl hlo]at r1
  have e1:lo (x::t)=least:=by injection r1
  rw [e1]at h
  have h:=List.append_cancel_left h
  have r3:=jl (n:=(w:Int)) (bW (by omega)) rest
  rw [h,jl (n:=((wd (x::t):Nat):Int)) (bW (by omega))]at r3
  have e2:wd (x::t)=w:=by injection r3 with h _;omega
  rw [e2]at h
  have h:=List.append_cancel_left h
  exact⟨e1.symm,e2.symm,by rw [h,e1,e2]⟩
theorem aaM {b:By}{n:Nat} : Pr b n b5 fun _ _=>(iT (b.drop (bT b 0).2.1) (bT b 0).2.2 64 5).2.2=0:=fun l0 r ha hl h=>by
 have hlw:=LK l0 ha
 have hlo:I64 (lo l0):=by
  cases l0 with
  | nil=>show I64 0;unfold I64;omega
  | cons x t=>exact ha _ (lo_le (l:=x::t) (x:=x) List.mem_cons_self).2
 have r1:=JH (b:=b) (e:=0) (z:=num (wd l0:Int)++(pk (rG (lo l0) (wd l0) l0) (uI l0.length (wd l0)) (l0.length*wd l0)++r)) hlo rfl (by rw [h];unfold b5;simp only [List.append_assoc])
 rw [r1.2.1,r1.2.2]
 have r2:=JH (e:=0) (bW (by omega:wd l0≤9223372036854775807)) rfl (rfl:num (wd l0:Int)++(pk (rG (lo l0) (wd l0) l0) (uI l0.length (wd l0)) (l0.length*wd l0)++r)=_)
 rw [kS]
 simp only
 rw [r2.1,r2.2.1,if_pos rfl,if_neg (by omega),if_neg (by omega)]
theorem Oo (b:By)(n:Nat)(hb:b.length≤3000000)(hn:n≤512):bD Tryz.prog GC 185 [bs b,iv n] 0 [] (BL b5 b n):=by
 have herr:=aaM (b:=b) (n:=n)
 have acW:=aaL (b:=b)
 have hN:=jH b 0 hb
 have hC:=wF (b.drop (bT b 0).2.1) (bT b 0).2.2 64 (gJ hb) (by decide)
 generalize hc:iT (b.drop (bT b 0).2.1) (bT b 0).2.2 64 5=t at *
 obtain⟨ww,j2,e2⟩:=t
 simp only at herr acW hC
 generalize (bT b 0).1=least at *
 generalize hb1:b.drop (bT b 0).2.1=b1' at *
 generalize (bT b 0).2.2=e1 at *
 generalize b1'.drop j2=b2' at *
 clear hc hb1
 refine au Tryz.func185 rfl mixed (by kernel_rfl) ?_
 conv=>whnf
 (refine aj [] (by kernel_rfl) (Ew b hb) ?_ ?_;(focus trivial))
 rintro _ _ _ ⟨rfl,rfl,rfl⟩
 conv=>whnf
 refine aH [0] [] (by kernel_rfl) hN rfl (by trivial) (by trivial) ?_
 rintro _ _ _ ⟨rfl,rfl,rfl⟩
 refine⟨rfl, ?_⟩
 conv=>whnf
 refine aH [0] [] (by kernel_rfl) hC rfl (by trivial) (by trivial) ?_
 rintro _ _ _ ⟨rfl,rfl,rfl⟩
 refine⟨rfl, ?_⟩
 conv=>whnf
 refine aH [0] [] (by kernel_rfl) (tH b2' e2) rfl (by trivial) (by trivial) ?_
 rintro _ _ _ ⟨rfl,rfl,rfl⟩
 refine⟨rfl, ?_⟩
 conv=>whnf
 apply ah<;>intro h
 ·have he:e2≠0:=by simpa using h
  conv=>whnf
  exact aV (.bH [.own 0,bv false]) 1 [(0, .rows 3 1 [])] [(0, .nil)] [] ⟨[],false,⟨cO.nil,Nat.zero_le _,fun l0 r ha hl hb0=>absurd (herr l0 r ha hl hb0) he⟩,rfl,rfl,rfl⟩ rfl (by trivial) (by trivial)
 have he:e2=0:=by simpa using h
 subst he
 obtain⟨w,rest,hw,rfl,hi,hbe⟩:=acW rfl
 have hQ:=Sr (n:=n) hi hw hbe
 have n1:=(bF least).2
 have n2:=(bF (w:Int)).2
 have hbl:=congrArg List.length hbe
 simp only [List.length_append]at hbl
 conv=>whnf
 (refine aj [] (by kernel_rfl) (iD [] least hi (by simp)) ?_ ?_;(focus trivial))
 rintro _ _ _ ⟨rfl,rfl,rfl⟩
 conv=>whnf
 (refine aj [1] (by kernel_rfl) (iD (num least) (w:Int) (bW (by omega)) (by omega)) ?_ ?_;(focus trivial))
 rintro _ _ _ ⟨rfl,rfl,rfl⟩
 conv=>whnf
 refine lT.mk' (num least++num (w:Int)).length b.length (by rw [List.length_map]) (by rw [List.length_map]) (by rw [List.length_append];omega) (by rw [List.length_map];exact Nat.le_refl _) ?_
 have hdrop:(b.map dW).drop (num least++num (w:Int)).length=rest.map dW:=by
  rw [←List.map_drop,hbe, ←List.append_assoc,List.drop_left]
 have hnw:n*w≤40000:=by
  have:=Nat.mul_le_mul hn hw;omega
 have hs8:uI n w≤5001:=by unfold uI;omega
 rw [show cut (some (AV.v (.int .i64 (((num least++num (w:Int)).map dW).length:Nat)))) none (num least++num (w:Int)).length b.length (b.map dW)=rest.map dW from hdrop]
 conv=>whnf
 refine aI.to (y:=((n*w:Nat):Int)) (by rw [←Int.natCast_mul];exact IntWalk.i64_in _ (by omega)) ?_
 conv=>whnf
 refine aI.i64 (by omega) ?_
 conv=>whnf
 refine ay.mk (by decide) ?_
 conv=>whnf
 refine aI.to (y:=((uI n w:Nat):Int)) (by
  have e:Int.tdiv (((n*w:Nat):Int)+7) 8=((uI n w:Nat):Int):=rfl
  rw [e];exact IntWalk.i64_in _ (by omega)) ?_
 conv=>whnf
 apply ah<;>intro h
 ·have hlt:rest.length<uI n w:=by simp at h;omega
  conv=>whnf
  exact aV (.bH [.own 0,bv false]) 1 [(0, .rows 3 1 [])] [(0, .nil)] [] ⟨[],false,⟨cO.nil,Nat.zero_le _,fun l0 r ha hl hb0=>by have:=(hQ l0 r ha hl hb0).size;rw [hl]at this;omega⟩,rfl,rfl,rfl⟩ rfl (by trivial) (by trivial)
 have hrl:uI n w≤rest.length:=by simp at h;omega
 conv=>whnf
 refine bg VK 4 [9,39] (fun x:BX=> [(9, .own 3),(39,iv x.i)]) (fun x=> [(3, .rows 3 1 (x.out.map oM))]) (fun x=>x.i≤n∧x.out.length=x.i∧cO x.out∧Pr b n b5 (fun l0 _=>x.out=l0.take x.i)) (fun x=>n-x.i) [(3, .nil)] [] ⟨0,[]⟩ (by kernel_rfl) (fun _=>rfl) rfl ⟨Nat.zero_le _,rfl,cO.nil,fun l0 r _ _ _=>rfl⟩ ⟨rfl,trivial⟩ ⟨trivial,rfl,trivial⟩ ?_
 rintro⟨i,out⟩ ⟨hin,hol,hall,hP⟩
 change i≤n at hin
 change out.length=i at hol
 change cO out at hall
 change Pr b n b5 (fun l0 _=>out=l0.take i)at hP
 conv=>whnf
 apply ah<;>intro h
 rotate_left 1
 ·have:i=n:=by simp at h;omega
  subst this
  conv=>whnf
  exact aV (.bH [.own 0,bv true]) 1 _ [(0, .lab 3)] [] ⟨out,true,⟨hall,by omega,fun l0 r ha hl hb0=>⟨rfl,by have:=hP l0 r ha hl hb0;rw [this, ←hl,List.take_length]⟩⟩,rfl,rfl,rfl⟩ rfl (by trivial) (by trivial)
 have hlt:i<n:=by simp at h;omega
 conv=>whnf
 refine bg VL 4 [11,43] (fun x:NX=> [(11,uv x.u),(43,iv x.i)]) (fun _=> [(3, .rows 3 1 (out.map oM))]) (fun x=>x.i≤w∧x.u<2^x.i∧Pr b n b5 (fun l0 _=>x.u=dif least (l0.getD i 0)%2^x.i)) (fun x=>w-x.i) [] [] ⟨0,0⟩ (by kernel_rfl) (fun _=>rfl) rfl ⟨Nat.zero_le _,Nat.one_pos,fun l0 r _ _ _=>by show 0=_%2^0;rw [Nat.pow_zero,Nat.mod_one]⟩ ⟨⟨rfl,rfl,rfl⟩,trivial⟩ ⟨rfl,rfl,trivial⟩ ?_
 rintro⟨k,d⟩ ⟨hk,hd,hD⟩
 change k≤w at hk
 change d<2^k at hd
 change Pr b n b5 (fun l0 _=>d=dif least (l0.getD i 0)%2^k)at hD
 conv=>whnf
 apply ah<;>intro h
 ·have hkw:k<w:=by simp at h;omega
  have hat:=YL hlt hkw
  have hmul:i*w+k≤640000:=by omega
  have hbit:Pr b n b5 fun l0 _=> ∃c,rest[(i*w+k)/8]? = some c∧c.toNat.testBit ((i*w+k)%8)=(dif least (l0.getD i 0)).testBit k:=fun l0 r ha hl hb0=>(hQ l0 r ha hl hb0).bit (by omega) hkw
  conv=>whnf
  refine aI.to (y:=((i*w:Nat):Int)) (by show IntKind.i64.wrap ((i:Int)*(w:Int))=_;rw [←Int.natCast_mul];exact IntWalk.i64_in _ (by omega)) ?_
  conv=>whnf
  refine aI.to (y:=((i*w+k:Nat):Int)) (by show IntKind.i64.wrap (((i*w:Nat):Int)+(k:Int))=_;rw [←Int.natCast_add];exact IntWalk.i64_in _ (by omega)) ?_
  conv=>whnf
  generalize i*w+k=p at *
  refine ay.mk (by decide) ?_
  conv=>whnf
  refine aI.to (y:=((p/8:Nat):Int)) (by
   have e:Int.tdiv (p:Int) 8=((p/8:Nat):Int):=rfl
   rw [e];exact IntWalk.i64_in _ (by omega)) ?_
  conv=>whnf
  have Aq:p/8<rest.length:=by omega
  refine bC.mk' (p/8) rfl (fQ Aq) ?_
  conv=>whnf
  refine aS.map Aq ?_
  conv=>whnf
  have acX:Pr b n b5 fun l0 _=>(rest[p/8]).toNat.testBit (p%8)=(dif least (l0.getD i 0)).testBit k:=fun l0 r ha hl hb0=>by
   obtain⟨c,c1,c2⟩:=hbit l0 r ha hl hb0
   rw [List.getElem?_eq_getElem Aq]at c1
   injection c1 with c1
   rw [c1];exact c2
  generalize rest[p/8]=c at *
  refine ay.mk (by decide) ?_
  conv=>whnf
  refine ay.mk (by show (0:Int)≤((p%8:Nat):Int);omega) ?_
  conv=>whnf
  refine aI.to (acU c (s:=p%8) (Nat.mod_lt _ (by decide))) ?_
  conv=>whnf
  have acY:k<64:=by omega
  have hsh:=acV (c:=if c.toNat.testBit (p%8)=true then 1 else 0) (k:=k) (by split<;>omega) acY
  refine ay.mk (by show (0:Int)≤(k:Int);omega) ?_
  conv=>whnf
  refine aI.to hsh.1 ?_
  conv=>whnf
  rw [or_bit hd acY hsh.2]
  conv=>whnf
  refine aI.i64 (x:=(k:Int)+1) (by omega) ?_
  conv=>whnf
  refine aF ⟨k+1,d+(if c.toNat.testBit (p%8)=true then 1 else 0)*2^k⟩ [] [] rfl (by show w -(k+1)<w-k;omega) ⟨hkw, ?_,fun l0 r ha hl hb0=> ?_⟩ ⟨⟨rfl,rfl,rfl⟩,trivial⟩ ⟨rfl,rfl,trivial⟩
  ·show d+(if c.toNat.testBit (p%8)=true then 1 else 0)*2^k<2^(k+1)
   rw [Nat.pow_succ]
   split<;>omega
  ·show d+(if c.toNat.testBit (p%8)=true then 1 else 0)*2^k=dif least (l0.getD i 0)%2^(k+1)
   rw [W9, ←hD l0 r ha hl hb0,acX l0 r ha hl hb0]
 ·have:k=w:=by simp at h;omega
  subst this
  conv=>whnf
  refine aI.to rfl ?_
  conv=>whnf
  refine aI.to rfl ?_
  conv=>whnf
  refine aI.to (aaK _ _) ?_
  conv=>whnf
  refine ay.mk (aG (by simp only [List.length_map,List.length_append,List.length_cons,List.length_nil];omega) (by kernel_rfl)) ?_
  conv=>whnf
  refine aI.i64 (x:=(i:Int)+1) (by omega) ?_
  conv=>whnf
  refine aF ⟨i+1,out++ [Bo (least+(d:Int))]⟩ [(3, .lab 5)] [] rfl (by show n -(i+1)<n-i;omega) ⟨hlt,by show (out++ [Bo (least+(d:Int))]).length=i+1;simp [hol],hall.snoc (LP _),fun l0 r ha hl hb0=> ?_⟩ ⟨⟨rfl,rfl,(Hf out _).symm⟩,trivial⟩ ⟨rfl,rfl,trivial⟩
  show out++ [Bo (least+(d:Int))]=l0.take (i+1)
  have hil:i<l0.length:=by omega
  rw [List.take_succ_eq_append_getElem hil, ←hP l0 r ha hl hb0]
  congr 2
  have:=(hQ l0 r ha hl hb0).val ha (i:=i) (x:=l0[i]) (List.getElem?_eq_getElem hil)
  rw [←hD l0 r ha hl hb0]at this
  exact this
section
theorem aaN (a b:By):oU ⟨a.toArray⟩ ⟨b.toArray⟩=decide (a=b):=by
 rw [UW]
 by_cases h:a=b
 ·subst h;simp
 ·rw [decide_eq_false h]
  refine decide_eq_false fun e=>h ?_
  injection e with e
  simpa using congrArg Array.toList e
theorem equalA (a b:By):bD Tryz.prog GC 36 [bs a,bs b] 0 [] (Is (bv (decide (a=b)))):=by
 refine au Tryz.func36 rfl mixed (by kernel_rfl) ?_
 conv=>whnf
 refine IX.of ?_
 conv=>whnf
 refine IX.of ?_
 conv=>whnf
 exact aX [] (congrArg Value.bool (aaN a b))
theorem oD (b x:By):bD Tryz.prog GC 166 [bs b,bs x] 0 [] (Is (bv (decide (b.take x.length=x)))):=by
 refine au Tryz.func166 rfl mixed (by kernel_rfl) ?_
 conv=>whnf
 apply ah<;>intro h
 ·have hl:x.length≤b.length:=by simp at h;omega
  conv=>whnf
  refine lT.mk' 0 x.length rfl (by rw [List.length_map]) (Nat.zero_le _) (by rw [List.length_map];exact hl) ?_
  conv=>whnf
  have he:=equalA (b.take x.length) x
  refine bf [] (by kernel_rfl) he rfl ⟨⟨rfl,(List.map_take).symm⟩,⟨rfl,rfl⟩,trivial⟩ ?_
  conv=>whnf
  exact aX [] (by trivial)
 ·have hl:b.length<x.length:=by simp at h;omega
  conv=>whnf
  refine aX [] (congrArg Value.bool ?_)
  refine(decide_eq_false fun e=> ?_).symm
  have:=congrArg List.length e
  rw [List.length_take]at this
  omega
theorem Oq (l:Li) : ∃(k:Nat) (body:By),1≤k∧k≤5∧ints l=num (k:Int)++(num (l.length:Int)++body)∧(l≠ []→body=bd k l):=by
 by_cases h:l = []
 ·subst h
  exact⟨1,[],by omega,by omega,by decide,fun h=>absurd rfl h⟩
 ·obtain⟨k,h1,h2,h3⟩:=WZ h
  exact⟨k,bd k l,h1,h2,by rw [h3];unfold en;rw [List.append_assoc],fun _=>rfl⟩
def Gd (b:By)(Q:Li→By→Prop):Prop:= ∀l0 r,cO l0→l0.length≤512→b=ints l0++r→Q l0 r
theorem XA (b:By):Gd b fun l0 r=>(iT (b.drop (bT b 0).2.1) (bT b 0).2.2 512 5).2.2=0∧∃k:Nat,1≤k∧k≤5∧(bT b 0).1=(k:Int)∧(iT (b.drop (bT b 0).2.1) (bT b 0).2.2 512 5).1=(l0.length:Int)∧(l0≠ []→b=num (k:Int)++(num (l0.length:Int)++(bd k l0++r))):=fun l0 r ha hl h=>by
 obtain⟨k,body,k1,k2,he,hbd⟩:=Oq l0
 have hb:b=num (k:Int)++(num (l0.length:Int)++(body++r)):=by rw [h,he];simp only [List.append_assoc]
 have r1:=JH (b:=b) (e:=0) (z:=num (l0.length:Int)++(body++r)) (bW (by omega:k≤9223372036854775807)) rfl hb
 have r2:=JH (e:=0) (bW (by omega:l0.length≤9223372036854775807)) rfl (rfl:num (l0.length:Int)++(body++r)=_)
 rw [r1.1,r1.2.1,r1.2.2]
 rw [kS]
 simp only
 rw [r2.1,r2.2.1,if_pos rfl,if_neg (by omega),if_neg (by omega),if_pos rfl]
 exact⟨rfl,k,k1,k2,rfl,rfl,fun hne=>by rw [hb,hbd hne]⟩
theorem Sv {b:By}(h:(iT (b.drop (bT b 0).2.1) (bT b 0).2.2 512 5).2.2=0) : ∃(n:Nat) (rest:By),n≤512∧(iT (b.drop (bT b 0).2.1) (bT b 0).2.2 512 5).1=(n:Int)∧I64 (bT b 0).1∧b=num (bT b 0).1++(num (n:Int)++rest):=by
 have hr:=kT (b.drop (bT b 0).2.1) (bT b 0).2.2 512 5 (by decide) (by decide)
 have h2:=hr.2.2.2 h
 have o2:=(jv (b.drop (bT b 0).2.1) (bT b 0).2.2).2.2.1 h2.1
 have o1:=jv b 0
 have o3:=o1.2.2.1 o2.1
 refine⟨(iT (b.drop (bT b 0).2.1) (bT b 0).2.2 512 5).1.toNat,(b.drop (bT b 0).2.1).drop (bT (b.drop (bT b 0).2.1) (bT b 0).2.2).2.1,by omega,by omega,o1.1, ?_⟩
 have e:(((iT (b.drop (bT b 0).2.1) (bT b 0).2.2 512 5).1.toNat:Nat):Int)=(bT (b.drop (bT b 0).2.1) (bT b 0).2.2).1:=by omega
 rw [e, ←o2.2.1]
 exact o3.2.1
def BM (b:By)(l:Li)(n:Nat)(e:Int):Prop:=cO l∧l.length≤512∧((e=0∧n=(ints l).length∧b.take (ints l).length=ints l)∨(e=1∧l = []∧n=0))∧Gd b fun l0 _=>e=0∧l=l0
def RIa (b:By)(a:AV)(m:Nat)(H:ak):Prop:= ∃l n e,BM b l n e∧a = .bH [li l,iv (n:Nat),iv e]∧m=0∧H = []
theorem BM.bad {b:By}(h:Gd b fun _ _=>False):BM b [] 0 1:=⟨cO.nil,Nat.zero_le _, .inr ⟨rfl,rfl,rfl⟩,fun l0 r ha hl hb=>(h l0 r ha hl hb).elim⟩
theorem BM.two (b:By){l:Li}{n:Nat}{e:Int}(h1:BM b l n e){l':Li}{n':Nat}{e':Int}(h2:BM b l' n' e'):l=l'∧n=n'∧e=e':=by
 obtain⟨a1,a2,a3,a4⟩:=h1
 obtain⟨b1,b2,b3,b4⟩:=h2
 rcases a3 with ⟨rfl,rfl,p1⟩ | ⟨rfl,rfl,rfl⟩
 ·have:=b4 l (b.drop (ints l).length) a1 a2 (by rw [←p1];rw [p1];conv=>lhs;rw [←List.take_append_drop (ints l).length b,p1])
  obtain⟨rfl,rfl⟩:=this
  rcases b3 with ⟨_,rfl,_⟩ | ⟨h,_⟩
  ·exact⟨rfl,rfl,rfl⟩
  ·omega
 ·rcases b3 with ⟨rfl,rfl,p1⟩ | ⟨rfl,rfl,rfl⟩
  ·have:=a4 l' (b.drop (ints l').length) b1 b2 (by conv=>lhs;rw [←List.take_append_drop (ints l').length b,p1])
   omega
  ·exact⟨rfl,rfl,rfl⟩
theorem aaO (b:By)(n:Nat)(hb:b.length≤3000000)(hn:n≤512):(bD Tryz.prog GC 177 [bs b,iv n] 0 [] (BL (bd 1) b n))∧(bD Tryz.prog GC 179 [bs b,iv n] 0 [] (BL (bd 2) b n))∧(bD Tryz.prog GC 181 [bs b,iv n] 0 [] (BL (bd 3) b n))∧(bD Tryz.prog GC 183 [bs b,iv n] 0 [] (BL (bd 4) b n))∧(bD Tryz.prog GC 185 [bs b,iv n] 0 [] (BL (bd 5) b n)):=
 ⟨Ap b n hb hn,Om b n hb hn,JR b n hb hn,JU b n hb hn,Oo b n hb hn⟩
attribute [local irreducible] best ints en bd
theorem jP (b:By)(hb:b.length≤100000):bD Tryz.prog GC 138 [bs b] 0 [] (RIa b):=by
 have hhead:=XA b
 have hrd:=Sv (b:=b)
 have hN:=jH b 0 (by omega)
 have hC:=wF (b.drop (bT b 0).2.1) (bT b 0).2.2 512 (gJ (by omega)) (by decide)
 generalize hc:iT (b.drop (bT b 0).2.1) (bT b 0).2.2 512 5=t at *
 obtain⟨nn,j2,e2⟩:=t
 simp only at hhead hrd hC
 generalize (bT b 0).1=kk at *
 generalize hb1:b.drop (bT b 0).2.1=b1' at *
 generalize (bT b 0).2.2=e1 at *
 generalize b1'.drop j2=b2' at *
 clear hc hb1
 refine au Tryz.func138 rfl mixed (by kernel_rfl) ?_
 conv=>whnf
 (refine aj [] (by kernel_rfl) (Ew b (by omega)) ?_ ?_;(focus trivial))
 rintro _ _ _ ⟨rfl,rfl,rfl⟩
 conv=>whnf
 refine aH [0] [] (by kernel_rfl) hN rfl (by trivial) (by trivial) ?_
 rintro _ _ _ ⟨rfl,rfl,rfl⟩
 refine⟨rfl, ?_⟩
 conv=>whnf
 refine aH [0] [] (by kernel_rfl) hC rfl (by trivial) (by trivial) ?_
 rintro _ _ _ ⟨rfl,rfl,rfl⟩
 refine⟨rfl, ?_⟩
 conv=>whnf
 refine aH [0] [] (by kernel_rfl) (tH b2' e2) rfl (by trivial) (by trivial) ?_
 rintro _ _ _ ⟨rfl,rfl,rfl⟩
 refine⟨rfl, ?_⟩
 conv=>whnf
 apply ah<;>intro h
 ·have he:e2≠0:=by simpa using h
  conv=>whnf
  exact aV (.bH [li [],iv (0:Nat),iv 1]) 0 [] [] [] ⟨[],0,1,(BM.bad fun l0 r ha hl h=>he (hhead l0 r ha hl h).1),rfl,rfl,rfl⟩ rfl trivial (by trivial)
 have he:e2=0:=by simpa using h
 subst he
 conv=>whnf
 apply ah<;>intro h
 ·have hk:kk<1:=by simpa using h
  conv=>whnf
  exact aV (.bH [li [],iv (0:Nat),iv 1]) 0 [] [] [] ⟨[],0,1,(BM.bad fun l0 r ha hl h=>by obtain⟨_,k,k1,k2,k3,_⟩:=hhead l0 r ha hl h;omega),rfl,rfl,rfl⟩ rfl trivial (by trivial)
 have hk1:1≤kk:=by simp at h;omega
 conv=>whnf
 apply ah<;>intro h
 ·have hk:5<kk:=by simpa using h
  conv=>whnf
  exact aV (.bH [li [],iv (0:Nat),iv 1]) 0 [] [] [] ⟨[],0,1,(BM.bad fun l0 r ha hl h=>by obtain⟨_,k,k1,k2,k3,_⟩:=hhead l0 r ha hl h;omega),rfl,rfl,rfl⟩ rfl trivial (by trivial)
 have hk2:kk≤5:=by simp at h;omega
 obtain⟨n,rest,hn,rfl,hi,hbe⟩:=hrd rfl
 have n1:=(bF kk).2
 have n2:=(bF (n:Int)).2
 have hbl:=congrArg List.length hbe
 simp only [List.length_append]at hbl
 conv=>whnf
 apply ah<;>intro h
 ·have hn0:0<n:=by simp at h;omega
  have hdrop:(b.map dW).drop (num kk++num (n:Int)).length=rest.map dW:=by
   rw [←List.map_drop,hbe, ←List.append_assoc,List.drop_left]
  have hcs:kk=1∨kk=2∨kk=3∨kk=4∨kk=5:=by omega
  have hreads:=aaO rest n (by omega) hn
  rcases hcs with rfl | rfl | rfl | rfl | rfl
  ·conv=>whnf
   have hread:=hreads.1
   (refine aP zQ [1,2] (by kernel_rfl) ?_;conv=>whnf)
   refine aI.i64 (by decide) ?_
   conv=>whnf
   (refine aj [] (by kernel_rfl) (qp) ?_ ?_;(focus trivial))
   rintro _ _ _ ⟨rfl,rfl,rfl⟩
   conv=>whnf
   refine bC.mk' (1-1) rfl (by decide) ?_
   conv=>whnf
   (refine aj [] (by kernel_rfl) (iD [] 1 hi (by simp)) ?_ ?_;(focus trivial))
   rintro _ _ _ ⟨rfl,rfl,rfl⟩
   conv=>whnf
   (refine aj [1] (by kernel_rfl) (iD (num 1) (n:Int) (bW (by omega)) (by omega)) ?_ ?_;(focus trivial))
   rintro _ _ _ ⟨rfl,rfl,rfl⟩
   conv=>whnf
   refine lT.mk' (num 1++num (n:Int)).length b.length (by rw [List.length_map]) (by rw [List.length_map]) (by rw [List.length_append];omega) (by rw [List.length_map];exact Nat.le_refl _) ?_
   rw [show cut (some (AV.v (.int .i64 (((num 1++num (n:Int)).map dW).length:Nat)))) none (num 1++num (n:Int)).length b.length (b.map dW)=rest.map dW from hdrop]
   conv=>whnf
   (refine aj [] (by kernel_rfl) (hread) ?_ ?_;(focus trivial))
   rintro _ _ _ ⟨l,ok,hd,rfl,rfl,rfl⟩
   have hll:=hd.2.1
   have hgood:Gd b fun l0 _=>ok=true∧l=l0:=fun l0 r ha hl h=>by
    obtain⟨_,k,k1,k2,k3,k4,k5⟩:=hhead l0 r ha hl h
    have e1:k=1:=by omega
    have e2:l0.length=n:=by omega
    have hne:l0≠ []:=fun e=>by subst e;simp at e2;omega
    have h5:=k5 hne
    rw [e1,e2]at h5
    rw [hbe]at h5
    have h5:=List.append_cancel_left (List.append_cancel_left h5)
    exact hd.2.2 l0 r ha e2 h5
   conv=>whnf
   cases ok
   ·conv=>whnf
    exact aV (.bH [li [],iv (0:Nat),iv 1]) 0 [] [] [] ⟨[],0,1,BM.bad fun l0 r ha hl h=>absurd (hgood l0 r ha hl h).1 (by decide),rfl,rfl,rfl⟩ rfl trivial (by trivial)
   conv=>whnf
   have hI:=lS l hd.1 (by omega)
   have hpre:=oD b (ints l)
   (refine aj [3] (by kernel_rfl) (hI) ?_ ?_;(focus trivial))
   rintro _ _ _ ⟨rfl,rfl,rfl⟩
   conv=>whnf
   (refine bf [] (by kernel_rfl) (hpre) rfl ?_ ?_;(focus trivial))
   conv=>whnf
   apply ah<;>intro h
   ·have hp : ¬b.take (ints l).length=ints l:=by simpa using h
    conv=>whnf
    exact aV (.bH [li [],iv (0:Nat),iv 1]) 0 [] [] [] ⟨[],0,1,BM.bad fun l0 r ha hl h=>hp (by rw [(hgood l0 r ha hl h).2,h,List.take_left]),rfl,rfl,rfl⟩ rfl trivial (by trivial)
   ·have hp:b.take (ints l).length=ints l:=by simpa using h
    conv=>whnf
    exact aV (.bH [li l,iv ((ints l).length:Nat),iv 0]) 0 [] [] [] ⟨l,(ints l).length,0,⟨hd.1,by omega, .inl ⟨rfl,rfl,hp⟩,fun l0 r ha hl h=>⟨rfl,(hgood l0 r ha hl h).2⟩⟩,rfl,rfl,rfl⟩ rfl trivial ⟨⟨rfl,rfl⟩,congrArg (fun n:Nat=>Value.int .i64 (n:Int)) (List.length_map _),rfl,trivial⟩
  ·conv=>whnf
   have hread:=hreads.2.1
   (refine aP zQ [1,2] (by kernel_rfl) ?_;conv=>whnf)
   refine aI.i64 (by decide) ?_
   conv=>whnf
   (refine aj [] (by kernel_rfl) (qp) ?_ ?_;(focus trivial))
   rintro _ _ _ ⟨rfl,rfl,rfl⟩
   conv=>whnf
   refine bC.mk' (2-1) rfl (by decide) ?_
   conv=>whnf
   (refine aj [] (by kernel_rfl) (iD [] 2 hi (by simp)) ?_ ?_;(focus trivial))
   rintro _ _ _ ⟨rfl,rfl,rfl⟩
   conv=>whnf
   (refine aj [1] (by kernel_rfl) (iD (num 2) (n:Int) (bW (by omega)) (by omega)) ?_ ?_;(focus trivial))
   rintro _ _ _ ⟨rfl,rfl,rfl⟩
   conv=>whnf
   refine lT.mk' (num 2++num (n:Int)).length b.length (by rw [List.length_map]) (by rw [List.length_map]) (by rw [List.length_append];omega) (by rw [List.length_map];exact Nat.le_refl _) ?_
   rw [show cut (some (AV.v (.int .i64 (((num 2++num (n:Int)).map dW).length:Nat)))) none (num 2++num (n:Int)).length b.length (b.map dW)=rest.map dW from hdrop]
   conv=>whnf
   (refine aj [] (by kernel_rfl) (hread) ?_ ?_;(focus trivial))
   rintro _ _ _ ⟨l,ok,hd,rfl,rfl,rfl⟩
   have hll:=hd.2.1
   have hgood:Gd b fun l0 _=>ok=true∧l=l0:=fun l0 r ha hl h=>by
    obtain⟨_,k,k1,k2,k3,k4,k5⟩:=hhead l0 r ha hl h
    have e1:k=2:=by omega
    have e2:l0.length=n:=by omega
    have hne:l0≠ []:=fun e=>by subst e;simp at e2;omega
    have h5:=k5 hne
    rw [e1,e2]at h5
    rw [hbe]at h5
    have h5:=List.append_cancel_left (List.append_cancel_left h5)
    exact hd.2.2 l0 r ha e2 h5
   conv=>whnf
   cases ok
   ·conv=>whnf
    exact aV (.bH [li [],iv (0:Nat),iv 1]) 0 [] [] [] ⟨[],0,1,BM.bad fun l0 r ha hl h=>absurd (hgood l0 r ha hl h).1 (by decide),rfl,rfl,rfl⟩ rfl trivial (by trivial)
   conv=>whnf
   have hI:=lS l hd.1 (by omega)
   have hpre:=oD b (ints l)
   (refine aj [3] (by kernel_rfl) (hI) ?_ ?_;(focus trivial))
   rintro _ _ _ ⟨rfl,rfl,rfl⟩
   conv=>whnf
   (refine bf [] (by kernel_rfl) (hpre) rfl ?_ ?_;(focus trivial))
   conv=>whnf
   apply ah<;>intro h
   ·have hp : ¬b.take (ints l).length=ints l:=by simpa using h
    conv=>whnf
    exact aV (.bH [li [],iv (0:Nat),iv 1]) 0 [] [] [] ⟨[],0,1,BM.bad fun l0 r ha hl h=>hp (by rw [(hgood l0 r ha hl h).2,h,List.take_left]),rfl,rfl,rfl⟩ rfl trivial (by trivial)
   ·have hp:b.take (ints l).length=ints l:=by simpa using h
    conv=>whnf
    exact aV (.bH [li l,iv ((ints l).length:Nat),iv 0]) 0 [] [] [] ⟨l,(ints l).length,0,⟨hd.1,by omega, .inl ⟨rfl,rfl,hp⟩,fun l0 r ha hl h=>⟨rfl,(hgood l0 r ha hl h).2⟩⟩,rfl,rfl,rfl⟩ rfl trivial ⟨⟨rfl,rfl⟩,congrArg (fun n:Nat=>Value.int .i64 (n:Int)) (List.length_map _),rfl,trivial⟩
  ·conv=>whnf
   have hread:=hreads.2.2.1
   (refine aP zQ [1,2] (by kernel_rfl) ?_;conv=>whnf)
   refine aI.i64 (by decide) ?_
   conv=>whnf
   (refine aj [] (by kernel_rfl) (qp) ?_ ?_;(focus trivial))
   rintro _ _ _ ⟨rfl,rfl,rfl⟩
   conv=>whnf
   refine bC.mk' (3-1) rfl (by decide) ?_
   conv=>whnf
   (refine aj [] (by kernel_rfl) (iD [] 3 hi (by simp)) ?_ ?_;(focus trivial))
   rintro _ _ _ ⟨rfl,rfl,rfl⟩
   conv=>whnf
   (refine aj [1] (by kernel_rfl) (iD (num 3) (n:Int) (bW (by omega)) (by omega)) ?_ ?_;(focus trivial))
   rintro _ _ _ ⟨rfl,rfl,rfl⟩
   conv=>whnf
   refine lT.mk' (num 3++num (n:Int)).length b.length (by rw [List.length_map]) (by rw [List.length_map]) (by rw [List.length_append];omega) (by rw [List.length_map];exact Nat.le_refl _) ?_
   rw [show cut (some (AV.v (.int .i64 (((num 3++num (n:Int)).map dW).length:Nat)))) none (num 3++num (n:Int)).length b.length (b.map dW)=rest.map dW from hdrop]
   conv=>whnf
   (refine aj [] (by kernel_rfl) (hread) ?_ ?_;(focus trivial))
   rintro _ _ _ ⟨l,ok,hd,rfl,rfl,rfl⟩
   have hll:=hd.2.1
   have hgood:Gd b fun l0 _=>ok=true∧l=l0:=fun l0 r ha hl h=>by
    obtain⟨_,k,k1,k2,k3,k4,k5⟩:=hhead l0 r ha hl h
    have e1:k=3:=by omega
    have e2:l0.length=n:=by omega
    have hne:l0≠ []:=fun e=>by subst e;simp at e2;omega
    have h5:=k5 hne
    rw [e1,e2]at h5
    rw [hbe]at h5
    have h5:=List.append_cancel_left (List.append_cancel_left h5)
    exact hd.2.2 l0 r ha e2 h5
   conv=>whnf
   cases ok
   ·conv=>whnf
    exact aV (.bH [li [],iv (0:Nat),iv 1]) 0 [] [] [] ⟨[],0,1,BM.bad fun l0 r ha hl h=>absurd (hgood l0 r ha hl h).1 (by decide),rfl,rfl,rfl⟩ rfl trivial (by trivial)
   conv=>whnf
   have hI:=lS l hd.1 (by omega)
   have hpre:=oD b (ints l)
   (refine aj [3] (by kernel_rfl) (hI) ?_ ?_;(focus trivial))
   rintro _ _ _ ⟨rfl,rfl,rfl⟩
   conv=>whnf
   (refine bf [] (by kernel_rfl) (hpre) rfl ?_ ?_;(focus trivial))
   conv=>whnf
   apply ah<;>intro h
   ·have hp : ¬b.take (ints l).length=ints l:=by simpa using h
    conv=>whnf
    exact aV (.bH [li [],iv (0:Nat),iv 1]) 0 [] [] [] ⟨[],0,1,BM.bad fun l0 r ha hl h=>hp (by rw [(hgood l0 r ha hl h).2,h,List.take_left]),rfl,rfl,rfl⟩ rfl trivial (by trivial)
   ·have hp:b.take (ints l).length=ints l:=by simpa using h
    conv=>whnf
    exact aV (.bH [li l,iv ((ints l).length:Nat),iv 0]) 0 [] [] [] ⟨l,(ints l).length,0,⟨hd.1,by omega, .inl ⟨rfl,rfl,hp⟩,fun l0 r ha hl h=>⟨rfl,(hgood l0 r ha hl h).2⟩⟩,rfl,rfl,rfl⟩ rfl trivial ⟨⟨rfl,rfl⟩,congrArg (fun n:Nat=>Value.int .i64 (n:Int)) (List.length_map _),rfl,trivial⟩
  ·conv=>whnf
   have hread:=hreads.2.2.2.1
   (refine aP zQ [1,2] (by kernel_rfl) ?_;conv=>whnf)
   refine aI.i64 (by decide) ?_
   conv=>whnf
   (refine aj [] (by kernel_rfl) (qp) ?_ ?_;(focus trivial))
   rintro _ _ _ ⟨rfl,rfl,rfl⟩
   conv=>whnf
   refine bC.mk' (4-1) rfl (by decide) ?_
   conv=>whnf
   (refine aj [] (by kernel_rfl) (iD [] 4 hi (by simp)) ?_ ?_;(focus trivial))
   rintro _ _ _ ⟨rfl,rfl,rfl⟩
   conv=>whnf
   (refine aj [1] (by kernel_rfl) (iD (num 4) (n:Int) (bW (by omega)) (by omega)) ?_ ?_;(focus trivial))
   rintro _ _ _ ⟨rfl,rfl,rfl⟩
   conv=>whnf
   refine lT.mk' (num 4++num (n:Int)).length b.length (by rw [List.length_map]) (by rw [List.length_map]) (by rw [List.length_append];omega) (by rw [List.length_map];exact Nat.le_refl _) ?_
   rw [show cut (some (AV.v (.int .i64 (((num 4++num (n:Int)).map dW).length:Nat)))) none (num 4++num (n:Int)).length b.length (b.map dW)=rest.map dW from hdrop]
   conv=>whnf
   (refine aj [] (by kernel_rfl) (hread) ?_ ?_;(focus trivial))
   rintro _ _ _ ⟨l,ok,hd,rfl,rfl,rfl⟩
   have hll:=hd.2.1
   have hgood:Gd b fun l0 _=>ok=true∧l=l0:=fun l0 r ha hl h=>by
    obtain⟨_,k,k1,k2,k3,k4,k5⟩:=hhead l0 r ha hl h
    have e1:k=4:=by omega
    have e2:l0.length=n:=by omega
    have hne:l0≠ []:=fun e=>by subst e;simp at e2;omega
    have h5:=k5 hne
    rw [e1,e2]at h5
    rw [hbe]at h5
    have h5:=List.append_cancel_left (List.append_cancel_left h5)
    exact hd.2.2 l0 r ha e2 h5
   conv=>whnf
   cases ok
   ·conv=>whnf
    exact aV (.bH [li [],iv (0:Nat),iv 1]) 0 [] [] [] ⟨[],0,1,BM.bad fun l0 r ha hl h=>absurd (hgood l0 r ha hl h).1 (by decide),rfl,rfl,rfl⟩ rfl trivial (by trivial)
   conv=>whnf
   have hI:=lS l hd.1 (by omega)
   have hpre:=oD b (ints l)
   (refine aj [3] (by kernel_rfl) (hI) ?_ ?_;(focus trivial))
   rintro _ _ _ ⟨rfl,rfl,rfl⟩
   conv=>whnf
   (refine bf [] (by kernel_rfl) (hpre) rfl ?_ ?_;(focus trivial))
   conv=>whnf
   apply ah<;>intro h
   ·have hp : ¬b.take (ints l).length=ints l:=by simpa using h
    conv=>whnf
    exact aV (.bH [li [],iv (0:Nat),iv 1]) 0 [] [] [] ⟨[],0,1,BM.bad fun l0 r ha hl h=>hp (by rw [(hgood l0 r ha hl h).2,h,List.take_left]),rfl,rfl,rfl⟩ rfl trivial (by trivial)
   ·have hp:b.take (ints l).length=ints l:=by simpa using h
    conv=>whnf
    exact aV (.bH [li l,iv ((ints l).length:Nat),iv 0]) 0 [] [] [] ⟨l,(ints l).length,0,⟨hd.1,by omega, .inl ⟨rfl,rfl,hp⟩,fun l0 r ha hl h=>⟨rfl,(hgood l0 r ha hl h).2⟩⟩,rfl,rfl,rfl⟩ rfl trivial ⟨⟨rfl,rfl⟩,congrArg (fun n:Nat=>Value.int .i64 (n:Int)) (List.length_map _),rfl,trivial⟩
  ·conv=>whnf
   have hread:=hreads.2.2.2.2
   (refine aP zQ [1,2] (by kernel_rfl) ?_;conv=>whnf)
   refine aI.i64 (by decide) ?_
   conv=>whnf
   (refine aj [] (by kernel_rfl) (qp) ?_ ?_;(focus trivial))
   rintro _ _ _ ⟨rfl,rfl,rfl⟩
   conv=>whnf
   refine bC.mk' (5-1) rfl (by decide) ?_
   conv=>whnf
   (refine aj [] (by kernel_rfl) (iD [] 5 hi (by simp)) ?_ ?_;(focus trivial))
   rintro _ _ _ ⟨rfl,rfl,rfl⟩
   conv=>whnf
   (refine aj [1] (by kernel_rfl) (iD (num 5) (n:Int) (bW (by omega)) (by omega)) ?_ ?_;(focus trivial))
   rintro _ _ _ ⟨rfl,rfl,rfl⟩
   conv=>whnf
   refine lT.mk' (num 5++num (n:Int)).length b.length (by rw [List.length_map]) (by rw [List.length_map]) (by rw [List.length_append];omega) (by rw [List.length_map];exact Nat.le_refl _) ?_
   rw [show cut (some (AV.v (.int .i64 (((num 5++num (n:Int)).map dW).length:Nat)))) none (num 5++num (n:Int)).length b.length (b.map dW)=rest.map dW from hdrop]
   conv=>whnf
   (refine aj [] (by kernel_rfl) (hread) ?_ ?_;(focus trivial))
   rintro _ _ _ ⟨l,ok,hd,rfl,rfl,rfl⟩
   have hll:=hd.2.1
   have hgood:Gd b fun l0 _=>ok=true∧l=l0:=fun l0 r ha hl h=>by
    obtain⟨_,k,k1,k2,k3,k4,k5⟩:=hhead l0 r ha hl h
    have e1:k=5:=by omega
    have e2:l0.length=n:=by omega
    have hne:l0≠ []:=fun e=>by subst e;simp at e2;omega
    have h5:=k5 hne
    rw [e1,e2]at h5
    rw [hbe]at h5
    have h5:=List.append_cancel_left (List.append_cancel_left h5)
    exact hd.2.2 l0 r ha e2 h5
   conv=>whnf
   cases ok
   ·conv=>whnf
    exact aV (.bH [li [],iv (0:Nat),iv 1]) 0 [] [] [] ⟨[],0,1,BM.bad fun l0 r ha hl h=>absurd (hgood l0 r ha hl h).1 (by decide),rfl,rfl,rfl⟩ rfl trivial (by trivial)
   conv=>whnf
   have hI:=lS l hd.1 (by omega)
   have hpre:=oD b (ints l)
   (refine aj [3] (by kernel_rfl) (hI) ?_ ?_;(focus trivial))
   rintro _ _ _ ⟨rfl,rfl,rfl⟩
   conv=>whnf
   (refine bf [] (by kernel_rfl) (hpre) rfl ?_ ?_;(focus trivial))
   conv=>whnf
   apply ah<;>intro h
   ·have hp : ¬b.take (ints l).length=ints l:=by simpa using h
    conv=>whnf
    exact aV (.bH [li [],iv (0:Nat),iv 1]) 0 [] [] [] ⟨[],0,1,BM.bad fun l0 r ha hl h=>hp (by rw [(hgood l0 r ha hl h).2,h,List.take_left]),rfl,rfl,rfl⟩ rfl trivial (by trivial)
   ·have hp:b.take (ints l).length=ints l:=by simpa using h
    conv=>whnf
    exact aV (.bH [li l,iv ((ints l).length:Nat),iv 0]) 0 [] [] [] ⟨l,(ints l).length,0,⟨hd.1,by omega, .inl ⟨rfl,rfl,hp⟩,fun l0 r ha hl h=>⟨rfl,(hgood l0 r ha hl h).2⟩⟩,rfl,rfl,rfl⟩ rfl trivial ⟨⟨rfl,rfl⟩,congrArg (fun n:Nat=>Value.int .i64 (n:Int)) (List.length_map _),rfl,trivial⟩
 ·have hn0:n=0:=by simp at h;omega
  subst hn0
  conv=>whnf
  have hI:=lS [] cO.nil (by decide)
  (refine aj [] (by kernel_rfl) (hI) ?_ ?_;(focus trivial))
  rintro _ _ _ ⟨rfl,rfl,rfl⟩
  conv=>whnf
  have hpre:=oD b (ints [])
  (refine bf [] (by kernel_rfl) (hpre) rfl ?_ ?_;(focus trivial))
  conv=>whnf
  apply ah<;>intro h
  ·have hp : ¬b.take (ints []).length=ints []:=by simpa using h
   conv=>whnf
   exact aV (.bH [li [],iv (0:Nat),iv 1]) 0 [] [] [] ⟨[],0,1,(BM.bad fun l0 r ha hl h=>by
    obtain⟨_,k,k1,k2,k3,k4,_⟩:=hhead l0 r ha hl h
    have e0:l0 = []:=List.eq_nil_of_length_eq_zero (by omega)
    subst e0
    exact hp (by rw [h,List.take_left])),rfl,rfl,rfl⟩ rfl trivial (by trivial)
  ·have hp:b.take (ints []).length=ints []:=by simpa using h
   conv=>whnf
   refine aV (.bH [li [],iv ((ints []).length:Nat),iv 0]) 0 [] [] [] ⟨[],(ints []).length,0,⟨cO.nil,Nat.zero_le _, .inl ⟨rfl,rfl,hp⟩,fun l0 r ha hl h=> ?_⟩,rfl,rfl,rfl⟩ rfl trivial ?_
   ·obtain⟨_,k,k1,k2,k3,k4,_⟩:=hhead l0 r ha hl h
    exact⟨rfl,(List.eq_nil_of_length_eq_zero (by omega)).symm⟩
   ·exact⟨rfl,congrArg (fun n:Nat=>Value.int .i64 (n:Int)) (List.length_map _),rfl,trivial⟩
end
theorem yC (a:By) : ¬a<a:=List.lt_irrefl a
theorem Sz {a b c:By}(h1:a<b)(h2:b<c):a<c:=List.lt_trans h1 h2
theorem XB {a b:By}(h1 : ¬a<b)(h2:a≠b):b<a:=by
 by_cases h:b<a
 ·exact h
 ·exact absurd (List.le_antisymm (List.not_lt.1 h) (List.not_lt.1 h1)) h2
theorem Hl {a b:By}(h1:a<b)(h2:b<a):False:=yC a (Sz h1 h2)
def qH (d:Tx)(x:By):Tx:=
 match d with
 | []=> [x]
 | y::r=>if y<x then y::qH r x else if y=x then y::r else x::y::r
def dsT (l:Tx):Tx:=l.foldl qH []
def pK:Tx→By→Nat
 | [],_=>0
 | y::r,x=>if y=x then 0 else pK r x+1
def Ot (d:Tx):Prop:=d.Pairwise (· < ·)
theorem Ho (d:Tx)(x y:By):y∈qH d x↔y∈d∨y=x:=by
 induction d with
 | nil=>simp [qH]
 | cons z r ih=>
  unfold qH
  split
  ·simp only [List.mem_cons,ih,or_assoc]
  ·split
   ·rename_i e;subst e;simp only [List.mem_cons];constructor
    ·intro h;exact .inl h
    ·rintro(h | rfl)
     ·exact h
     ·exact .inl rfl
   ·simp only [List.mem_cons];constructor
    ·rintro(h | h | h)
     ·exact .inr h
     ·exact .inl (.inl h)
     ·exact .inl (.inr h)
    ·rintro((h | h) | h)
     ·exact .inr (.inl h)
     ·exact .inr (.inr h)
     ·exact .inl h
theorem XC {d:Tx}{x:By}(h:Ot d):Ot (qH d x):=by
 induction d with
 | nil=>simp [qH,Ot]
 | cons z r ih=>
  have h1:=List.pairwise_cons.1 h
  unfold qH
  split
  ·rename_i hz
   refine List.pairwise_cons.2 ⟨fun a ha=> ?_,ih h1.2⟩
   rcases(Ho r x a).1 ha with h2 | h2
   ·exact h1.1 a h2
   ·rw [h2];exact hz
  ·split
   ·exact h
   ·rename_i n1 n2
    have hx:=XB n1 n2
    refine List.pairwise_cons.2 ⟨fun a ha=> ?_,h⟩
    rcases List.mem_cons.1 ha with h2 | h2
    ·rw [h2];exact hx
    ·exact Sz hx (h1.1 a h2)
theorem Hq (l:Tx) : ∀d,Ot d→Ot (l.foldl qH d)∧∀y,y∈l.foldl qH d↔y∈d∨y∈l:=by
 induction l with
 | nil=>intro d h;simp [h]
 | cons x r ih=>
  intro d h
  have:=ih (qH d x) (XC h)
  refine⟨this.1,fun y=> ?_⟩
  rw [List.foldl_cons,this.2 y,Ho,List.mem_cons,or_assoc]
theorem SA (l:Tx):Ot (dsT l):=(Hq l [] List.Pairwise.nil).1
theorem oG (l:Tx)(y:By):y∈dsT l↔y∈l:=by rw [dsT,(Hq l [] List.Pairwise.nil).2 y];simp
theorem SB {a:Tx} : ∀ {b:Tx},Ot a→Ot b→(∀y,y∈a↔y∈b)→a=b:=by
 induction a with
 | nil=>intro b _ _ h;cases b with
  | nil=>rfl
  | cons y r=>exact absurd ((h y).2 List.mem_cons_self) (by simp)
 | cons x r ih=>
  intro b ha hb h
  have h1:=List.pairwise_cons.1 ha
  cases b with
  | nil=>exact absurd ((h x).1 List.mem_cons_self) (by simp)
  | cons y s=>
   have h2:=List.pairwise_cons.1 hb
   have e:x=y:=by
    have m1:=(h x).1 List.mem_cons_self
    have m2:=(h y).2 List.mem_cons_self
    rcases List.mem_cons.1 m1 with e | e
    ·exact e
    ·rcases List.mem_cons.1 m2 with e2 | e2
     ·exact e2.symm
     ·exact(Hl (h1.1 y e2) (h2.1 x e)).elim
   subst e
   congr 1
   refine ih h1.2 h2.2 fun z=>⟨fun hz=> ?_,fun hz=> ?_⟩
   ·rcases List.mem_cons.1 ((h z).1 (List.mem_cons_of_mem _ hz))with e | e
    ·have:=h1.1 z hz;rw [e]at this;exact(yC _ this).elim
    ·exact e
   ·rcases List.mem_cons.1 ((h z).2 (List.mem_cons_of_mem _ hz))with e | e
    ·have:=h2.1 z hz;rw [e]at this;exact(yC _ this).elim
    ·exact e
theorem aaP {l d:Tx}(h1:Ot d)(h2 : ∀y,y∈d↔y∈l):d=dsT l:=SB h1 (SA l) fun y=>by rw [h2,oG]
theorem SC (d:Tx)(x:By):(qH d x).length≤d.length+1:=by
 induction d with
 | nil=>simp [qH]
 | cons y r ih=>
  unfold qH
  split
  ·simp only [List.length_cons];omega
  ·split<;>simp
theorem qx (l:Tx):(dsT l).length≤l.length:=by
 have : ∀(l d:Tx),(l.foldl qH d).length≤d.length+l.length:=by
  intro l
  induction l with
  | nil=>intro d;simp
  | cons x r ih=>intro d;have h1:=ih (qH d x);have h2:=SC d x;simp only [List.foldl_cons,List.length_cons];omega
 have:=this l []
 simpa [dsT]using this
theorem tK {d:Tx}{x:By}(h:x∈d):pK d x<d.length∧d[pK d x]? = some x:=by
 induction d with
 | nil=>cases h
 | cons y r ih=>
  unfold pK
  by_cases e:y=x
  ·rw [if_pos e];simp [e]
  ·rw [if_neg e]
   have:=ih (by rcases List.mem_cons.1 h with h | h;exact absurd h.symm e;exact h)
   simp only [List.length_cons,List.getElem?_cons_succ]
   exact⟨by omega,this.2⟩
theorem SE {d:Tx}(hd:Ot d){i j:Nat}{x y:By}(h:i<j)(h1:d[i]? = some x)(h2:d[j]? = some y):x<y:=by
 obtain⟨hi,e1⟩:=List.getElem?_eq_some_iff.1 h1
 obtain⟨hj,e2⟩:=List.getElem?_eq_some_iff.1 h2
 rw [←e1, ←e2]
 exact List.pairwise_iff_getElem.1 hd i j hi hj h
def Ez (l:Tx):Tx:=l.mergeSort fun x y=>decide (x≤y)
theorem nO (l:Tx):(Ez l).length=l.length:=List.length_mergeSort l
theorem SG (l:Tx)(y:By):y∈Ez l↔y∈l:=List.mem_mergeSort
theorem Ht (l:Tx):(Ez l).Pairwise (· ≤ ·):=by
 have:=List.pairwise_mergeSort (le:=fun x y:By=>decide (x≤y)) (fun a b c h1 h2=>by simp only [decide_eq_true_eq]at *;exact List.le_trans h1 h2) (fun a b=>by simp only [Bool.or_eq_true,decide_eq_true_eq];exact List.le_total a b) l
 exact this.imp fun h=>by simpa using h
theorem Ou (z:Tx)(hs:z.Pairwise (· ≤ ·)) : ∀m,m≤z.length→Ot (Go.Lib.compactUpTo z.toArray m)∧∀y,y∈Go.Lib.compactUpTo z.toArray m↔y∈z.take m:=by
 intro m
 induction m with
 | zero=>intro _;simp [Go.Lib.compactUpTo,Ot]
 | succ m ih=>
  intro hm
  have hlt:m<z.length:=by omega
  obtain⟨h1,h2⟩:=ih (by omega)
  have em:z.toArray[m]! = z[m]:=by simp [hlt]
  have le : ∀j (hj:j<m),z[j]'(by omega)≤z[m]:=fun j hj=>List.pairwise_iff_getElem.1 hs j m (by omega) hlt hj
  rw [Go.Lib.compactUpTo_succ,List.take_succ_eq_append_getElem hlt,em]
  by_cases hk:Go.Lib.keeps z.toArray m=true
  ·rw [if_pos hk]
   refine⟨List.pairwise_append.2 ⟨h1,List.pairwise_singleton _ _,fun a ha b hb=> ?_⟩,fun y=>by simp only [List.mem_append,h2,List.mem_singleton]⟩
   rw [List.mem_singleton.1 hb]
   obtain⟨j,hj,e⟩:=List.getElem_of_mem ((h2 a).1 ha)
   rw [List.length_take]at hj
   rw [List.getElem_take]at e
   have hjm:j<m:=by omega
   have hne:z[m-1]'(by omega)≠z[m]:=by
    unfold Go.Lib.keeps at hk
    rw [decide_eq_true_eq]at hk
    rcases hk with h | h
    ·omega
    ·rw [em]at h
     have e1:z.toArray[m-1]! = z[m-1]'(by omega):=by simp [show m-1<z.length by omega]
     rw [e1]at h
     exact fun e=>h e.symm
   have l1:z[m-1]'(by omega)≤z[m]:=le (m-1) (by omega)
   have l2:z[j]'(by omega)≤z[m-1]'(by omega):=by
    rcases Nat.lt_or_ge j (m-1)with h | h
    ·exact List.pairwise_iff_getElem.1 hs j (m-1) (by omega) (by omega) h
    ·have:j=m-1:=by omega
     subst this;exact List.le_refl _
   have l3:z[m-1]'(by omega)<z[m]:=by
    by_cases h:z[m-1]'(by omega)<z[m]
    ·exact h
    ·exact absurd (List.le_antisymm l1 (List.not_lt.1 h)) hne
   rw [←e]
   exact List.lt_of_le_of_lt l2 l3
  ·rw [if_neg hk,List.append_nil]
   refine⟨h1,fun y=> ?_⟩
   rw [h2,List.mem_append,List.mem_singleton]
   constructor
   ·exact .inl
   ·rintro(h | h)
    ·exact h
    ·unfold Go.Lib.keeps at hk
     rw [decide_eq_true_eq]at hk
     have h0:0<m:=by
      rcases Nat.eq_zero_or_pos m with e | e
      ·exact absurd (.inl e) hk
      ·exact e
     have e1:z.toArray[m-1]! = z[m-1]'(by omega):=by simp [show m-1<z.length by omega]
     have e2:z[m]=z[m-1]'(by omega):=by
      rw [em,e1]at hk
      exact Classical.byContradiction fun h=>hk (.inr h)
     rw [h,e2]
     exact List.mem_iff_getElem.2 ⟨m-1,by rw [List.length_take];omega,by rw [List.getElem_take]⟩
theorem xu (l:Tx):Go.Lib.compact (Ez l)=dsT l:=by
 have h:=Ou (Ez l) (Ht l) (Ez l).length (Nat.le_refl _)
 rw [List.take_length]at h
 exact aaP h.1 fun y=>by
  have:=h.2 y
  rw [SG]at this
  exact this
abbrev tv (s:By):AV:= .v (.string ⟨s.toArray⟩)
def xK (s:By):List FV:= [.v (.string ⟨s.toArray⟩)]
abbrev tl (l:Tx):AV:= .lst 1 (l.map xK)
theorem nP (l:Tx)(s:By):(l++ [s]).map xK=l.map xK++ [[FV.v (.string ⟨s.toArray⟩)]]:=by rw [List.map_append];rfl
theorem aaQ (a b:By):E8 ⟨a.toArray⟩ ⟨b.toArray⟩=decide (a<b):=by
 unfold E8
 rw [bytesLess_eq,Lib.toList_data,Lib.toList_data]
section
variable {G:Glob}
theorem acZ (a:By):(encStr a).oneCell'=true:=rfl
theorem aaR (l:Tx)(hne:l≠ [])(hs:l.length≤1000000):bD Tryz.prog G 154 [.own 0] 1 [(0, .rows 9 1 (l.map xK))] (fun a n H=>a = .bH []∧n=1∧H = [(0, .rows 9 1 ((Ez l).map xK))]):=
 qo (enc:=encStr) (V:=fun _ _ v=>v = .tuple #[]) acZ hne (nO l)
  (fun w blk cap hH hb _=>Calls.mono (Tryz.slices_Sort_string blk 0 cap l w hH hb (by omega)) fun e w' ⟨h1,h2⟩=>⟨_,h1,rfl,h2⟩)
  (fun w σ F blk cap v _ _ hv=>by subst hv;exact bJ.bH («as» := []) (vs:= []) trivial)
theorem Ov (l:Tx)(hne:l≠ [])(hs:l.length≤1000000):bD Tryz.prog G 155 [.own 0] 1 [(0, .rows 9 1 ((Ez l).map xK))] (fun a n H=>a = .sub 0 0 (dsT l).length∧n=1∧H = [(0, .rows 9 1 ((dsT l++List.replicate (l.length -(dsT l).length) []).map xK))]):=
 qo (enc:=encStr) (zs':=dsT l++List.replicate (l.length -(dsT l).length) []) (V:=fun blk cap v=>v = .slice (some ⟨blk,0,none⟩) (dsT l).length cap) acZ (by intro h;have:=nO l;rw [h]at this;exact hne (List.eq_nil_of_length_eq_zero this.symm))
  (by have:=qx l;rw [nO,List.length_append,List.length_replicate];omega)
  (fun w blk cap hH hb hc=>Calls.mono (Tryz.slices_Compact_string blk 0 cap (Ez l) w hH (by rw [nO];omega) hc) fun e w' ⟨h1,q,h2⟩=>⟨_,h1,by rw [xu],q, #[],by rw [h2,xu,Sort.grow_empty,nO]⟩)
  (fun w σ F blk cap v hσ hc hv=>by
   subst hv
   have hd:=qx l
   rw [nO]at hσ hc
   refine .sub 0 0 _ _ cap (by decide) (by rw [hσ];show 0+_≤l.length;omega) (by omega) (fun h=>by cases h) fun _=>⟨blk,by rw [hσ],by rw [Nat.zero_mul]⟩)
theorem SH (l:Tx)(x:Tx):(((dsT l++x).map xK).drop 0).take (dsT l).length=(dsT l).map xK:=by
 rw [List.drop_zero,List.map_append]
 exact List.take_left' (List.length_map _)
end
end Go.Proofs.YtocckceefcmeaaaGreatDoor.Cl
