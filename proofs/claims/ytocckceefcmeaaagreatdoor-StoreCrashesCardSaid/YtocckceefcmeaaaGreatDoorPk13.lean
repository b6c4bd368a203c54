/- Joined parts of the proof. The walk of the library's Len64 -/
import Derived.Test.YtocckceefcmeaaaGreatDoorPk12
import Derived.Test.YtocckceefcmeaaaGreatDoorPk10
import Derived.Test.YtocckceefcmeaaaGreatDoorPk9
import Derived.Test.YtocckceefcmeaaaGreatDoorProg
set_option linter.unusedVariables false
set_option linter.unusedSimpArgs false
set_option maxRecDepth 100000
set_option maxHeartbeats 16000000
namespace Go.Proofs.YtocckceefcmeaaaGreatDoor.Cl
open Go Go.RowKit Go.Proofs Go.Proofs.YtocckceefcmeaaaGreatDoor.Vc Go.Proofs.YtocckceefcmeaaaGreatDoor.Ax
attribute [local irreducible] loadVar storeVar Instr.indexAt Instr.index Instr.sliceAt Instr.makeSlice Instr.lookup Instr.mapUpdate Instr.range Instr.next Instr.entry Instr.makeMap Builtin.append_ Builtin.copy_ Builtin.len_ Builtin.min_ Builtin.max_ Builtin.cap_ Builtin.delete_ Builtin.clear_ convert binOp eqGuard Op.unary Calls
theorem acL:(2:Int)^min (Int.toNat 1) IntKind.u64.bits=2:=by decide
def l8:List UInt8:= [0,1,2,2,3,3,3,3,4,4,4,4,4,4,4,4,5,5,5,5,5,5,5,5,5,5,5,5,5,5,5,5,6,6,6,6,6,6,6,6,6,6,6,6,6,6,6,6,6,6,6,6,6,6,6,6,6,6,6,6,6,6,6,6,7,7,7,7,7,7,7,7,7,7,7,7,7,7,7,7,7,7,7,7,7,7,7,7,7,7,7,7,7,7,7,7,7,7,7,7,7,7,7,7,7,7,7,7,7,7,7,7,7,7,7,7,7,7,7,7,7,7,7,7,7,7,7,7,8,8,8,8,8,8,8,8,8,8,8,8,8,8,8,8,8,8,8,8,8,8,8,8,8,8,8,8,8,8,8,8,8,8,8,8,8,8,8,8,8,8,8,8,8,8,8,8,8,8,8,8,8,8,8,8,8,8,8,8,8,8,8,8,8,8,8,8,8,8,8,8,8,8,8,8,8,8,8,8,8,8,8,8,8,8,8,8,8,8,8,8,8,8,8,8,8,8,8,8,8,8,8,8,8,8,8,8,8,8,8,8,8,8,8,8,8,8,8,8,8,8,8,8,8,8,8,8]
theorem acM : ∀j,j<256→(l8.getD j 0).toNat=wid 8 j:=by decide
theorem Xg : ∀(f u:Nat),u<2^f→0<u→0<wid f u∧2^(wid f u-1)≤u:=by
 intro f
 induction f with
 | zero=>intro u h h0;simp at h;omega
 | succ f ih=>
  intro u h h0
  unfold wid
  rw [if_neg (by omega)]
  refine⟨by omega, ?_⟩
  rw [Nat.add_sub_cancel]
  rcases Nat.eq_zero_or_pos (u/2)with e | e
  ·rw [e]
   have:wid f 0=0:=by cases f<;>simp [wid]
   rw [this];simp;omega
  ·have:=ih (u/2) (by rw [Nat.pow_succ]at h;omega) e
   obtain⟨w,hw⟩ : ∃w,wid f (u/2)=w+1:=⟨wid f (u/2)-1,by omega⟩
   rw [hw]at this ⊢
   rw [Nat.add_sub_cancel]at this
   rw [Nat.pow_succ]
   omega
theorem RF {f u w:Nat}(hu:u<2^f)(h1:u<2^w)(h2:w=0∨2^(w-1)≤u):wid f u=w:=by
 have h3:=WQ f u w h1
 rcases Nat.lt_or_ge (wid f u) w with h | h
 ·exfalso
  have h4:=(gX f u hu).1
  have h5:2^(wid f u)≤2^(w-1):=Nat.pow_le_pow_right (by decide) (by omega)
  omega
 ·omega
theorem RG {u:Nat}(hu:u<18446744073709551616)(s:Nat)(h8:u/2^s<256)(h1:s=0∨1≤u/2^s):wid 64 u=s+wid 8 (u/2^s):=by
 have h2:=gX 8 (u/2^s) h8
 refine RF hu ?_ ?_
 ·rw [Nat.pow_add]
  have:=(Nat.div_lt_iff_lt_mul (Nat.pow_pos (by decide):0<2^s)).1 h2.1
  rwa [Nat.mul_comm]at this
 ·rcases Nat.eq_zero_or_pos (u/2^s)with h0 | h0
  ·left;rw [h0];have:s=0:=by omega
   subst this;decide
  ·right
   have h3:=Xg 8 _ h8 h0
   obtain⟨w,hw⟩ : ∃w,wid 8 (u/2^s)=w+1:=⟨wid 8 (u/2^s)-1,by omega⟩
   rw [hw]at h3 ⊢
   rw [Nat.add_sub_cancel]at h3
   rw [show s+(w+1)-1=s+w by omega,Nat.pow_add]
   exact Nat.le_trans (Nat.mul_le_mul_left _ h3.2) (Nat.mul_div_le u _)
theorem Xh (u s:Nat)(hs:s≤64):Int.fdiv (u:Int) (2^min (Int.toNat (s:Int)) IntKind.u64.bits)=((u/2^s:Nat):Int):=by
 have e:IntKind.u64.bits=64:=rfl
 rw [e,Int.toNat_natCast,Nat.min_eq_left hs,Int.fdiv_eq_ediv_of_nonneg _ (by exact Int.pow_nonneg (by decide))]
 simp
theorem acN (u:Nat):Int.fdiv (u:Int) (2^min (Int.toNat 32) IntKind.u64.bits)=((u/4294967296:Nat):Int):=Xh u 32 (by decide)
theorem YJ (u:Nat):Int.fdiv (u:Int) (2^min (Int.toNat 16) IntKind.u64.bits)=((u/65536:Nat):Int):=Xh u 16 (by decide)
theorem Xi (u:Nat):Int.fdiv (u:Int) (2^min (Int.toNat 8) IntKind.u64.bits)=((u/256:Nat):Int):=Xh u 8 (by decide)
theorem leaf {u v:Nat}(hu:u<18446744073709551616)(s:Nat)(hv:v=u/2^s)(h8:v<256)(h1:s=0∨1≤v):wid 64 u=s+wid 8 v:=by
 subst hv;exact RG hu s h8 h1
theorem xq {j:Nat}(h:j<256):IntKind.i64.wrap (((l8.getD j 0).toNat:Nat):Int)=(wid 8 j:Int):=by
 rw [acM j h]
 have:=(gX 8 j h).2
 exact IntWalk.i64_in _ (by omega)
theorem RH (u:Nat)(hu:u<18446744073709551616):bD Tryz.prog GC 199 [uv u] 0 [] (Is (iv (wid 64 u))):=by
 refine au Tryz.func199 rfl mixed (by kernel_rfl) ?_
 conv=>whnf
 refine ah (fun h1=> ?_) (fun h1=> ?_)<;>(simp at h1;conv=>whnf)
 ·refine ay.mk (by decide) ?_
  rw [acN]
  conv=>whnf
  refine ah (fun h2=> ?_) (fun h2=> ?_)<;>(simp at h2;conv=>whnf)
  refine ay.mk (by decide) ?_
  rw [YJ]
  conv=>whnf
  refine aI.i64 (by omega) ?_
  conv=>whnf
  refine ah (fun h3=> ?_) (fun h3=> ?_)<;>(simp at h3;conv=>whnf)
  ·refine ay.mk (by decide) ?_
   rw [Xi]
   conv=>whnf
   refine aI.i64 (by omega) ?_
   conv=>whnf
   refine aI.to (ku (by omega)) ?_
   conv=>whnf
   refine bC.mk' _ rfl (by show _<256;omega) ?_
   conv=>whnf
   refine aI.to (xq (by omega)) ?_
   conv=>whnf
   refine aI.to (y:=(wid 64 u:Int)) (by
    have hw:=gX 64 u hu
    have:=leaf (v:=u/4294967296/65536/256) hu 56 (by first | rfl | (show _=u/72057594037927936;omega)) (by omega) (by omega)
    rw [IntWalk.i64_in _ (by omega)];omega) ?_
   conv=>whnf
   exact aX [] (by repeat' (first | rfl | trivial | apply And.intro))
  ·skip
   refine aI.to (ku (by omega)) ?_
   conv=>whnf
   refine bC.mk' _ rfl (by show _<256;omega) ?_
   conv=>whnf
   refine aI.to (xq (by omega)) ?_
   conv=>whnf
   refine aI.to (y:=(wid 64 u:Int)) (by
    have hw:=gX 64 u hu
    have:=leaf (v:=u/4294967296/65536) hu 48 (by first | rfl | (show _=u/281474976710656;omega)) (by omega) (by omega)
    rw [IntWalk.i64_in _ (by omega)];omega) ?_
   conv=>whnf
   exact aX [] (by repeat' (first | rfl | trivial | apply And.intro))
  refine ah (fun h3=> ?_) (fun h3=> ?_)<;>(simp at h3;conv=>whnf)
  ·refine ay.mk (by decide) ?_
   rw [Xi]
   conv=>whnf
   refine aI.i64 (by omega) ?_
   conv=>whnf
   refine aI.to (ku (by omega)) ?_
   conv=>whnf
   refine bC.mk' _ rfl (by show _<256;omega) ?_
   conv=>whnf
   refine aI.to (xq (by omega)) ?_
   conv=>whnf
   refine aI.to (y:=(wid 64 u:Int)) (by
    have hw:=gX 64 u hu
    have:=leaf (v:=u/4294967296/256) hu 40 (by first | rfl | (show _=u/1099511627776;omega)) (by omega) (by omega)
    rw [IntWalk.i64_in _ (by omega)];omega) ?_
   conv=>whnf
   exact aX [] (by repeat' (first | rfl | trivial | apply And.intro))
  ·skip
   refine aI.to (ku (by omega)) ?_
   conv=>whnf
   refine bC.mk' _ rfl (by show _<256;omega) ?_
   conv=>whnf
   refine aI.to (xq (by omega)) ?_
   conv=>whnf
   refine aI.to (y:=(wid 64 u:Int)) (by
    have hw:=gX 64 u hu
    have:=leaf (v:=u/4294967296) hu 32 (by first | rfl | (show _=u/4294967296;omega)) (by omega) (by omega)
    rw [IntWalk.i64_in _ (by omega)];omega) ?_
   conv=>whnf
   exact aX [] (by repeat' (first | rfl | trivial | apply And.intro))
 ·refine ah (fun h2=> ?_) (fun h2=> ?_)<;>(simp at h2;conv=>whnf)
  refine ay.mk (by decide) ?_
  rw [YJ]
  conv=>whnf
  refine aI.i64 (by omega) ?_
  conv=>whnf
  refine ah (fun h3=> ?_) (fun h3=> ?_)<;>(simp at h3;conv=>whnf)
  ·refine ay.mk (by decide) ?_
   rw [Xi]
   conv=>whnf
   refine aI.i64 (by omega) ?_
   conv=>whnf
   refine aI.to (ku (by omega)) ?_
   conv=>whnf
   refine bC.mk' _ rfl (by show _<256;omega) ?_
   conv=>whnf
   refine aI.to (xq (by omega)) ?_
   conv=>whnf
   refine aI.to (y:=(wid 64 u:Int)) (by
    have hw:=gX 64 u hu
    have:=leaf (v:=u/65536/256) hu 24 (by first | rfl | (show _=u/16777216;omega)) (by omega) (by omega)
    rw [IntWalk.i64_in _ (by omega)];omega) ?_
   conv=>whnf
   exact aX [] (by repeat' (first | rfl | trivial | apply And.intro))
  ·skip
   refine aI.to (ku (by omega)) ?_
   conv=>whnf
   refine bC.mk' _ rfl (by show _<256;omega) ?_
   conv=>whnf
   refine aI.to (xq (by omega)) ?_
   conv=>whnf
   refine aI.to (y:=(wid 64 u:Int)) (by
    have hw:=gX 64 u hu
    have:=leaf (v:=u/65536) hu 16 (by first | rfl | (show _=u/65536;omega)) (by omega) (by omega)
    rw [IntWalk.i64_in _ (by omega)];omega) ?_
   conv=>whnf
   exact aX [] (by repeat' (first | rfl | trivial | apply And.intro))
  refine ah (fun h3=> ?_) (fun h3=> ?_)<;>(simp at h3;conv=>whnf)
  ·refine ay.mk (by decide) ?_
   rw [Xi]
   conv=>whnf
   refine aI.i64 (by omega) ?_
   conv=>whnf
   refine aI.to (ku (by omega)) ?_
   conv=>whnf
   refine bC.mk' _ rfl (by show _<256;omega) ?_
   conv=>whnf
   refine aI.to (xq (by omega)) ?_
   conv=>whnf
   refine aI.to (y:=(wid 64 u:Int)) (by
    have hw:=gX 64 u hu
    have:=leaf (v:=u/256) hu 8 (by first | rfl | (show _=u/256;omega)) (by omega) (by omega)
    rw [IntWalk.i64_in _ (by omega)];omega) ?_
   conv=>whnf
   exact aX [] (by repeat' (first | rfl | trivial | apply And.intro))
  ·skip
   refine aI.to (ku (by omega)) ?_
   conv=>whnf
   refine bC.mk' _ rfl (by show _<256;omega) ?_
   conv=>whnf
   refine aI.to (xq (by omega)) ?_
   conv=>whnf
   refine aI.to (y:=(wid 64 u:Int)) (by
    have hw:=gX 64 u hu
    have:=leaf (v:=u) hu 0 (by first | rfl | (show _=u/1;omega)) (by omega) (by omega)
    rw [IntWalk.i64_in _ (by omega)];omega) ?_
   conv=>whnf
   exact aX [] (by repeat' (first | rfl | trivial | apply And.intro))
theorem RI {f:FuncId}{l:List Value}{x y:Value}(h : ∀w,wQ Tryz.prog f l.toArray w fun v w'=>v = .tuple #[x,y]∧Below w.heap.size w w'):bD Tryz.prog GC f (l.map .v) 0 [] (Is (.bH [.v x, .v y])):=by
 intro w σ F vs st r
 refine(zN (G:=GC) (x:= .tuple #[x,y]) (fun w _=>h w) w σ F vs st r).mono fun v w' ⟨a,n',σ',F',H',⟨e1,e2,e3⟩,s,x',ra⟩=> ?_
 subst e1;subst e2;subst e3
 refine⟨.bH [.v x, .v y],0,σ',F',[],⟨rfl,rfl,rfl⟩,s,x', ?_⟩
 rw [ra.dH]
 exact bJ.bH («as» := [.v x, .v y]) (vs:= [x,y]) ⟨.v _, .v _,trivial⟩
theorem aaF (b more:By)(hb:b.length+more.length≤4000000):bD Tryz.prog GC 65 [bs b,bs more] 0 [] (lM 5 1 ((b++more).map dW)):=by
 refine au Tryz.func65 rfl mixed (by kernel_rfl) ?_
 conv=>whnf
 (repeat' ((first | refine And.intro ?_ ?_ | (apply ah<;>intro h<;>try simp only [bl]at h) | refine aI.i64 (by first | omega | ((try simp only [List.length_map]at *);omega)) ?_ | refine bC.mk' _ rfl (by first | omega | (simp only [ln];omega) | (simp only [ln]at *;omega)) ?_ | refine aS.aA (by assumption) ?_ | refine aS.set (by(try simp only [ln]at *);omega) ?_ | refine aS.map (by first | omega | (simp only [List.length_map]at *;omega)) ?_ | refine ay.mk (by first | decide | omega) ?_ | refine kG.mk (by kernel_rfl) rfl rfl ?_ | refine ay.mk (aG (by(try simp only [ln]at *);omega) (by kernel_rfl)) ?_)<;>conv=>whnf))
 refine KG.cap (iQ:=1) 0 (b.length+more.length) rfl (by rw [List.length_map,List.length_map];omega) (Nat.zero_le _) (by unfold maxLen;omega) ?_
 conv=>whnf
 (repeat' ((first | refine And.intro ?_ ?_ | (apply ah<;>intro h<;>try simp only [bl]at h) | refine aI.i64 (by first | omega | ((try simp only [List.length_map]at *);omega)) ?_ | refine bC.mk' _ rfl (by first | omega | (simp only [ln];omega) | (simp only [ln]at *;omega)) ?_ | refine aS.aA (by assumption) ?_ | refine aS.set (by(try simp only [ln]at *);omega) ?_ | refine aS.map (by first | omega | (simp only [List.length_map]at *;omega)) ?_ | refine ay.mk (by first | decide | omega) ?_ | refine kG.mk (by kernel_rfl) rfl rfl ?_ | refine ay.mk (aG (by(try simp only [ln]at *);omega) (by kernel_rfl)) ?_)<;>conv=>whnf))
 rw [List.map_append]
 exact aV (.own 0) 1 _ [(0, .lab 2)] [] ⟨rfl,rfl,rfl⟩ rfl (by trivial) (by trivial)
theorem aeu:(2:Int)^min (Int.toNat 7) IntKind.u64.bits=128:=by decide
theorem acO:(2:Int)^min (Int.toNat 63) IntKind.u64.bits=9223372036854775808:=by decide
def GI (f u:Nat)(out:By):Prop:=u<2*128^f∧f≤9∧out.length+f=9
theorem GI.next {f u:Nat}{out:By}(h:GI f u out)(hu:128≤u) : ∃g,f=g+1∧GI g (u/128) (out++ [UInt8.ofNat (128+u%128)])∧out++grp f u=(out++ [UInt8.ofNat (128+u%128)])++grp g (u/128):=by
 obtain⟨h1,h2,h3⟩:=h
 cases f with
 | zero=>simp at h1;omega
 | succ g=>
  refine⟨g,rfl,⟨?_,by omega,by simp;omega⟩, ?_⟩
  ·rw [rF]at h1;omega
  ·rw [show grp (g+1) u=UInt8.ofNat (128+u%128)::grp g (u/128) by unfold grp;rw [if_neg (by omega)];cases g<;>rfl];simp
theorem RJ {f u:Nat}(h:u<128):grp f u = [UInt8.ofNat u]:=by cases f with
 | zero=>rfl
 | succ f=>unfold grp;rw [if_pos h]
theorem GI.start {n:Int}(hn:I64 n):GI 9 (zu n) []∧ []++grp 9 (zu n)=num n:=by
 have hz:=QJ hn
 have e:(128:Nat)^9=9223372036854775808:=by decide
 exact⟨⟨by rw [e];omega,Nat.le_refl _,rfl⟩,rfl⟩
structure GX where
 f:Nat
 u:Nat
 out:By
theorem G9 (out:By)(c:UInt8):(out++ [c]).map dW=out.map dW++ [[FV.v (.int .u8 (c.toNat:Int))]]:=by rw [List.map_append];rfl
theorem LW (n:Int)(hn:I64 n):bD Tryz.prog GC 66 [iv n] 0 [] (lM 5 1 ((num n).map dW)):=by
 have hz:=QJ hn
 have acP:bn .xor .u64 (IntKind.u64.wrap (IntKind.u64.wrap n*2^min (Int.toNat 1) IntKind.u64.bits)) (IntKind.u64.wrap (n.fdiv (2^min (Int.toNat 63) IntKind.u64.bits)))=(zu n:Int):=by
  rw [acL,acO];exact WI n hn
 refine au Tryz.func66 rfl mixed (by kernel_rfl) ?_
 conv=>whnf
 refine aI.to rfl ?_
 conv=>whnf
 (repeat' ((first | refine And.intro ?_ ?_ | (apply ah<;>intro h<;>try simp only [bl]at h) | refine aI.i64 (by first | omega | ((try simp only [List.length_map]at *);omega)) ?_ | refine bC.mk' _ rfl (by first | omega | (simp only [ln];omega) | (simp only [ln]at *;omega)) ?_ | refine aS.aA (by assumption) ?_ | refine aS.set (by(try simp only [ln]at *);omega) ?_ | refine aS.map (by first | omega | (simp only [List.length_map]at *;omega)) ?_ | refine ay.mk (by first | decide | omega) ?_ | refine kG.mk (by kernel_rfl) rfl rfl ?_ | refine ay.mk (aG (by(try simp only [ln]at *);omega) (by kernel_rfl)) ?_)<;>conv=>whnf))
 refine aI.to rfl ?_
 conv=>whnf
 (repeat' ((first | refine And.intro ?_ ?_ | (apply ah<;>intro h<;>try simp only [bl]at h) | refine aI.i64 (by first | omega | ((try simp only [List.length_map]at *);omega)) ?_ | refine bC.mk' _ rfl (by first | omega | (simp only [ln];omega) | (simp only [ln]at *;omega)) ?_ | refine aS.aA (by assumption) ?_ | refine aS.set (by(try simp only [ln]at *);omega) ?_ | refine aS.map (by first | omega | (simp only [List.length_map]at *;omega)) ?_ | refine ay.mk (by first | decide | omega) ?_ | refine kG.mk (by kernel_rfl) rfl rfl ?_ | refine ay.mk (aG (by(try simp only [ln]at *);omega) (by kernel_rfl)) ?_)<;>conv=>whnf))
 refine aI.to rfl ?_
 conv=>whnf
 refine bg ZN 1 [3,4] (fun x:GX=> [(3,uv x.u),(4, .own 0)]) (fun x=> [(0, .rows 5 1 (x.out.map dW))]) (fun x=>GI x.f x.u x.out∧x.out++grp x.f x.u=num n) (fun x=>x.f) [(0, .nil)] [] ⟨9,zu n,[]⟩ (by kernel_rfl) (fun _=>rfl) rfl (GI.start hn) ⟨rfl,trivial⟩ ⟨congrArg (Value.int .u64) acP,trivial,trivial⟩ ?_
 rintro⟨f,u,out⟩ ⟨hg,hout⟩
 have hlen:=hg.2.2
 conv=>whnf
 apply ah<;>intro h
 ·have hu:128≤u:=by simp at h;omega
  obtain⟨g,rfl,hg2,ho2⟩:=hg.next hu
  conv=>whnf
  refine aI.to rfl ?_
  conv=>whnf
  (repeat' ((first | refine And.intro ?_ ?_ | (apply ah<;>intro h<;>try simp only [bl]at h) | refine aI.i64 (by first | omega | ((try simp only [List.length_map]at *);omega)) ?_ | refine bC.mk' _ rfl (by first | omega | (simp only [ln];omega) | (simp only [ln]at *;omega)) ?_ | refine aS.aA (by assumption) ?_ | refine aS.set (by(try simp only [ln]at *);omega) ?_ | refine aS.map (by first | omega | (simp only [List.length_map]at *;omega)) ?_ | refine ay.mk (by first | decide | omega) ?_ | refine kG.mk (by kernel_rfl) rfl rfl ?_ | refine ay.mk (aG (by(try simp only [ln]at *);omega) (by kernel_rfl)) ?_)<;>conv=>whnf))
  refine aF ⟨g,u/128,out++ [UInt8.ofNat (128+u%128)]⟩ [(0, .lab 2)] [] rfl (Nat.lt_succ_self g) ⟨hg2,by rw [←ho2];exact hout⟩ ?_ ?_
  ·refine⟨⟨rfl,rfl, ?_⟩,trivial⟩
   rw [G9, ←QM]
  ·refine⟨congrArg (Value.int .u64) (by rw [aeu];exact aeo u), ?_⟩
   trivial
 ·have hu:u<128:=by simp at h;omega
  conv=>whnf
  refine aI.to (Oa hu) ?_
  conv=>whnf
  (repeat' ((first | refine And.intro ?_ ?_ | (apply ah<;>intro h<;>try simp only [bl]at h) | refine aI.i64 (by first | omega | ((try simp only [List.length_map]at *);omega)) ?_ | refine bC.mk' _ rfl (by first | omega | (simp only [ln];omega) | (simp only [ln]at *;omega)) ?_ | refine aS.aA (by assumption) ?_ | refine aS.set (by(try simp only [ln]at *);omega) ?_ | refine aS.map (by first | omega | (simp only [List.length_map]at *;omega)) ?_ | refine ay.mk (by first | decide | omega) ?_ | refine kG.mk (by kernel_rfl) rfl rfl ?_ | refine ay.mk (aG (by(try simp only [ln]at *);omega) (by kernel_rfl)) ?_)<;>conv=>whnf))
  refine aV (.own 0) 1 _ [(0, .lab 2)] [] ⟨rfl,rfl,rfl⟩ rfl ⟨⟨rfl,rfl, ?_⟩,trivial⟩ (by trivial)
  rw [←hout,RJ hu,G9]
theorem iD (b:By)(n:Int)(hn:I64 n)(hb:b.length≤3999990):bD Tryz.prog GC 28 [bs b,iv n] 0 [] (lM 5 1 ((b++num n).map dW)):=by
 have hl:=(bF n).2
 refine au Tryz.func28 rfl mixed (by kernel_rfl) ?_
 conv=>whnf
 (refine aj [] (by kernel_rfl) (LW n hn) ?_ ?_;(focus trivial))
 rintro _ _ _ ⟨rfl,rfl,rfl⟩
 conv=>whnf
 (refine aj [0] (by kernel_rfl) (aaF b (num n) (by omega)) ?_ ?_;(focus trivial))
 rintro _ _ _ ⟨rfl,rfl,rfl⟩
 conv=>whnf
 exact aV (.own 0) 1 _ [(0, .lab 1)] [] ⟨rfl,rfl,rfl⟩ rfl (by trivial) (by trivial)
theorem GI.u64 {f u:Nat}{out:By}(h:GI f u out):u<18446744073709551616:=by
 have e:(128:Nat)^9=9223372036854775808:=by decide
 have:=Nat.pow_le_pow_right (show 0<128 by decide) h.2.1
 have:=h.1
 omega
structure LX where
 k:Nat
 p:Int
 out:By
theorem Xj (l:Li)(x:Int):b1 (l++ [x])=b1 l++num x:=by simp [b1]
theorem Xk {l:Li}{k:Nat}(h:k<l.length):b1 (l.take (k+1))=b1 (l.take k)++num l[k]:=by rw [List.take_succ_eq_append_getElem h,Xj]
theorem He (l:Li)(k:Nat):(b1 (l.take k)).length≤10*l.length:=by
 have:=Ad (l.take k);rw [List.length_take]at this;omega
theorem CY (b:By)(l:Li)(hl:cO l)(hs:b.length+10*l.length≤3000000):bD Tryz.prog GC 176 [bs b,li l] 0 [] (Is (bs (b++b1 l))):=by
 refine au Tryz.func176 rfl mixed (by kernel_rfl) ?_
 conv=>whnf
 refine bg Vy 0 [0,9] (fun k:Nat=> [(0,bs (b++b1 (l.take k))),(9,iv k)]) (fun _=> []) (fun k=>k≤l.length) (fun k=>l.length-k) [] [] 0 (by kernel_rfl) (fun _=>rfl) rfl (Nat.zero_le _) trivial ⟨⟨rfl,by simp [b1]⟩,rfl,trivial⟩ ?_
 rintro k hk
 have hbl:=He l k
 conv=>whnf
 refine ah (fun hlt=> ?_) (fun hge=> ?_)
 ·have hlt:k<l.length:=by simpa using hlt
  conv=>whnf
  (repeat' ((first | refine And.intro ?_ ?_ | (apply ah<;>intro h<;>try simp only [bl]at h) | refine aI.i64 (by first | omega | ((try simp only [List.length_map]at *);omega)) ?_ | refine bC.mk' _ rfl (by first | omega | (simp only [ln];omega) | (simp only [ln]at *;omega)) ?_ | refine aS.aA (by assumption) ?_ | refine aS.set (by(try simp only [ln]at *);omega) ?_ | refine aS.map (by first | omega | (simp only [List.length_map]at *;omega)) ?_ | refine ay.mk (by first | decide | omega) ?_ | refine kG.mk (by kernel_rfl) rfl rfl ?_ | refine ay.mk (aG (by(try simp only [ln]at *);omega) (by kernel_rfl)) ?_)<;>conv=>whnf))
  (refine aj [] (by kernel_rfl) (iD (b++b1 (l.take k)) l[k] (hl _ (List.getElem_mem hlt)) (by rw [List.length_append];omega)) ?_ ?_;(focus trivial))
  rintro _ _ _ ⟨rfl,rfl,rfl⟩
  conv=>whnf
  (repeat' ((first | refine And.intro ?_ ?_ | (apply ah<;>intro h<;>try simp only [bl]at h) | refine aI.i64 (by first | omega | ((try simp only [List.length_map]at *);omega)) ?_ | refine bC.mk' _ rfl (by first | omega | (simp only [ln];omega) | (simp only [ln]at *;omega)) ?_ | refine aS.aA (by assumption) ?_ | refine aS.set (by(try simp only [ln]at *);omega) ?_ | refine aS.map (by first | omega | (simp only [List.length_map]at *;omega)) ?_ | refine ay.mk (by first | decide | omega) ?_ | refine kG.mk (by kernel_rfl) rfl rfl ?_ | refine ay.mk (aG (by(try simp only [ln]at *);omega) (by kernel_rfl)) ?_)<;>conv=>whnf))
  refine aF (k+1) [] [0] rfl (by show l.length -(k+1)<l.length-k;omega) hlt trivial ⟨⟨rfl,rfl,by rw [Xk hlt,List.append_assoc]⟩,rfl,trivial⟩
 ·have:k=l.length:=by simp at hge;omega
  subst this
  conv=>whnf
  rw [List.take_length]
  exact aX [] (by trivial)
theorem drop_cons {l:Li}{k:Nat}(h:k<l.length):l.drop k=l[k]::l.drop (k+1):=List.drop_eq_getElem_cons h
theorem Og (b:By)(l:Li)(hs:b.length+10*l.length≤3000000):bD Tryz.prog GC 180 [bs b,li l] 0 [] (Is (bs (b++b3 l))):=by
 refine au Tryz.func180 rfl mixed (by kernel_rfl) ?_
 conv=>whnf
 refine bg VE 0 [0,5,10] (fun x:LX=> [(0,bs x.out),(5,iv x.p),(10,iv x.k)]) (fun _=> []) (fun x=>x.k≤l.length∧x.out++st x.p (l.drop x.k)=b++b3 l) (fun x=>l.length-x.k) [] [] ⟨0,0,b⟩ (by kernel_rfl) (fun _=>rfl) rfl ⟨Nat.zero_le _,rfl⟩ trivial ⟨⟨rfl,rfl⟩,rfl,rfl,trivial⟩ ?_
 rintro⟨k,p,out⟩ ⟨hk,ho⟩
 change k≤l.length at hk
 change out++st p (l.drop k)=b++b3 l at ho
 have hbl:=st_len l 0
 have hol:out.length≤b.length+10*l.length:=by have:=congrArg List.length ho;simp only [List.length_append,b3]at this;omega
 conv=>whnf
 refine ah (fun hlt=> ?_) (fun hge=> ?_)
 ·have hlt:k<l.length:=by simp at hlt;omega
  simp only [drop_cons hlt,st]at ho
  conv=>whnf
  (repeat' ((first | refine And.intro ?_ ?_ | (apply ah<;>intro h<;>try simp only [bl]at h) | refine aI.i64 (by first | omega | ((try simp only [List.length_map]at *);omega)) ?_ | refine bC.mk' _ rfl (by first | omega | (simp only [ln];omega) | (simp only [ln]at *;omega)) ?_ | refine aS.aA (by assumption) ?_ | refine aS.set (by(try simp only [ln]at *);omega) ?_ | refine aS.map (by first | omega | (simp only [List.length_map]at *;omega)) ?_ | refine ay.mk (by first | decide | omega) ?_ | refine kG.mk (by kernel_rfl) rfl rfl ?_ | refine ay.mk (aG (by(try simp only [ln]at *);omega) (by kernel_rfl)) ?_)<;>conv=>whnf))
  refine aI.to rfl ?_
  conv=>whnf
  (refine aj [] (by kernel_rfl) (iD out (Bo (l[k]-p)) (LP _) (by omega)) ?_ ?_;(focus trivial))
  rintro _ _ _ ⟨rfl,rfl,rfl⟩
  conv=>whnf
  (repeat' ((first | refine And.intro ?_ ?_ | (apply ah<;>intro h<;>try simp only [bl]at h) | refine aI.i64 (by first | omega | ((try simp only [List.length_map]at *);omega)) ?_ | refine bC.mk' _ rfl (by first | omega | (simp only [ln];omega) | (simp only [ln]at *;omega)) ?_ | refine aS.aA (by assumption) ?_ | refine aS.set (by(try simp only [ln]at *);omega) ?_ | refine aS.map (by first | omega | (simp only [List.length_map]at *;omega)) ?_ | refine ay.mk (by first | decide | omega) ?_ | refine kG.mk (by kernel_rfl) rfl rfl ?_ | refine ay.mk (aG (by(try simp only [ln]at *);omega) (by kernel_rfl)) ?_)<;>conv=>whnf))
  refine aF ⟨k+1,l[k],out++num (Bo (l[k]-p))⟩ [] [0] rfl (by show l.length -(k+1)<l.length-k;omega) ⟨hlt,by rw [←ho,List.append_assoc]⟩ trivial ⟨⟨rfl,rfl,rfl⟩,rfl,rfl,trivial⟩
 ·have:k=l.length:=by simp at hge;omega
  subst this
  simp only [List.drop_length,st,List.append_nil]at ho
  conv=>whnf
  rw [←ho]
  exact aX [] (by trivial)
def Oh (l:Li)(i k:Nat):Prop:=i≤k∧k≤l.length∧l.drop i=List.replicate (k-i) (l.getD i 0)++l.drop k
theorem Oh.next {l:Li}{i k:Nat}(h:Oh l i k)(hk:k<l.length)(e:l[k]=l.getD i 0):Oh l i (k+1):=by
 obtain⟨h1,h2,h3⟩:=h
 refine⟨by omega,hk, ?_⟩
 rw [h3,drop_cons hk,e,show k+1-i=(k-i)+1 by omega,List.replicate_succ']
 simp
theorem Oh.fin {l:Li}{i k:Nat}(h:Oh l i k)(hi:i<l.length)(e : ∀hk:k<l.length,l[k]≠l.getD i 0):i<k∧b2 (l.drop i)=num (l.getD i 0)++(num ((k-i:Nat):Int)++b2 (l.drop k)):=by
 obtain⟨h1,h2,h3⟩:=h
 have hlt:i<k:=by
  rcases Nat.lt_or_ge i k with h | h
  ·exact h
  ·have:k=i:=by omega
   subst this
   exact absurd (by rw [List.getD_eq_getElem?_getD,List.getElem?_eq_getElem hi];rfl) (e hi)
 refine⟨hlt, ?_⟩
 obtain⟨m,hm⟩ : ∃m,k-i=m+1:=⟨k-i-1,by omega⟩
 rw [h3,hm]
 unfold b2
 rw [aar _ m _ (by
  rcases Nat.lt_or_ge k l.length with h | h
  ·rw [drop_cons h];intro e2;exact e h (by simpa [List.getElem?_eq_getElem h]using e2)
  ·rw [List.drop_eq_nil_of_le h];simp)]
 simp [enP]
theorem RP (b:By)(l:Li)(hl:cO l)(hs:b.length+20*l.length≤3000000):bD Tryz.prog GC 178 [bs b,li l] 0 [] (Is (bs (b++b2 l))):=by
 have hbl:=QU l
 refine au Tryz.func178 rfl mixed (by kernel_rfl) ?_
 conv=>whnf
 refine bg VA 0 [0,5] (fun x:LX=> [(0,bs x.out),(5,iv x.k)]) (fun _=> []) (fun x=>x.k≤l.length∧x.out++b2 (l.drop x.k)=b++b2 l) (fun x=>l.length-x.k) [] [] ⟨0,0,b⟩ (by kernel_rfl) (fun _=>rfl) rfl ⟨Nat.zero_le _,rfl⟩ trivial ⟨⟨rfl,rfl⟩,rfl,trivial⟩ ?_
 rintro⟨i,p,out⟩ ⟨hi,ho⟩
 change i≤l.length at hi
 change out++b2 (l.drop i)=b++b2 l at ho
 have hol:out.length≤b.length+20*l.length:=by have:=congrArg List.length ho;simp only [List.length_append]at this;omega
 conv=>whnf
 (repeat' ((first | refine And.intro ?_ ?_ | (apply ah<;>intro h<;>try simp only [bl]at h) | refine aI.i64 (by first | omega | ((try simp only [List.length_map]at *);omega)) ?_ | refine bC.mk' _ rfl (by first | omega | (simp only [ln];omega) | (simp only [ln]at *;omega)) ?_ | refine aS.aA (by assumption) ?_ | refine aS.set (by(try simp only [ln]at *);omega) ?_ | refine aS.map (by first | omega | (simp only [List.length_map]at *;omega)) ?_ | refine ay.mk (by first | decide | omega) ?_ | refine kG.mk (by kernel_rfl) rfl rfl ?_ | refine ay.mk (aG (by(try simp only [ln]at *);omega) (by kernel_rfl)) ?_)<;>conv=>whnf))
 ·have hlt:i<l.length:=by simp at h;omega
  conv=>whnf
  refine bg VB 0 [6] (fun k:Nat=> [(6,iv k)]) (fun _=> []) (fun k=>Oh l i k) (fun k=>l.length-k) [] [] i (by kernel_rfl) (fun _=>rfl) rfl ⟨Nat.le_refl _,hi,by simp⟩ trivial ⟨rfl,trivial⟩ ?_
  rintro k hr
  have hk:=hr.2.1
  conv=>whnf
  (refine aP ZV [] (by kernel_rfl) ?_;conv=>whnf)
  have hgi:l.getD i 0=l[i]:=by rw [List.getD_eq_getElem?_getD,List.getElem?_eq_getElem hlt];rfl
  have done:(∀hk:k<l.length,l[k]≠l.getD i 0)→i<k∧out++num l[i]++num ((k-i:Nat):Int)++b2 (l.drop k)=b++b2 l:=fun e=>by
   have:=hr.fin hlt e
   refine⟨this.1, ?_⟩
   rw [←ho,this.2,hgi]
   simp only [List.append_assoc]
  (repeat' ((first | refine And.intro ?_ ?_ | (apply ah<;>intro h<;>try simp only [bl]at h) | refine aI.i64 (by first | omega | ((try simp only [List.length_map]at *);omega)) ?_ | refine bC.mk' _ rfl (by first | omega | (simp only [ln];omega) | (simp only [ln]at *;omega)) ?_ | refine aS.aA (by assumption) ?_ | refine aS.set (by(try simp only [ln]at *);omega) ?_ | refine aS.map (by first | omega | (simp only [List.length_map]at *;omega)) ?_ | refine ay.mk (by first | decide | omega) ?_ | refine kG.mk (by kernel_rfl) rfl rfl ?_ | refine ay.mk (aG (by(try simp only [ln]at *);omega) (by kernel_rfl)) ?_)<;>conv=>whnf))
  ·rename_i h1
   have hkl:k<l.length:=by simp at h1;omega
   have e:l[k]=l.getD i 0:=by rw [hgi];exact h
   exact aF (k+1) [] [] rfl (by show l.length -(k+1)<l.length-k;omega) (hr.next hkl e) trivial ⟨rfl,trivial⟩
  all_goals
   have ⟨hik,hd⟩:=done (by first | (intro hkl e;rw [hgi]at e;exact absurd e h) | (intro hkl;simp at h;omega))
   have h10:=(bF l[i]).2
   have h20:=congrArg List.length hd
   simp only [List.length_append]at h20
   (refine aj [] (by kernel_rfl) (iD out l[i] (hl _ (List.getElem_mem hlt)) (by omega)) ?_ ?_;(focus trivial))
   rintro _ _ _ ⟨rfl,rfl,rfl⟩
   conv=>whnf
   (repeat' ((first | refine And.intro ?_ ?_ | (apply ah<;>intro h<;>try simp only [bl]at h) | refine aI.i64 (by first | omega | ((try simp only [List.length_map]at *);omega)) ?_ | refine bC.mk' _ rfl (by first | omega | (simp only [ln];omega) | (simp only [ln]at *;omega)) ?_ | refine aS.aA (by assumption) ?_ | refine aS.set (by(try simp only [ln]at *);omega) ?_ | refine aS.map (by first | omega | (simp only [List.length_map]at *;omega)) ?_ | refine ay.mk (by first | decide | omega) ?_ | refine kG.mk (by kernel_rfl) rfl rfl ?_ | refine ay.mk (aG (by(try simp only [ln]at *);omega) (by kernel_rfl)) ?_)<;>conv=>whnf))
   have hp:bD Tryz.prog GC 28 [bs (out++num l[i]),iv ((k:Int) -(i:Int))] 0 [] (lM 5 1 ((out++num l[i]++num ((k-i:Nat):Int)).map dW)):=by
    rw [←show ((k-i:Nat):Int)=(k:Int) -(i:Int) by omega]
    exact iD (out++num l[i]) ((k-i:Nat):Int) (bW (by omega)) (by rw [List.length_append];omega)
   (refine aj [0] (by kernel_rfl) (hp) ?_ ?_;(focus trivial))
   rintro _ _ _ ⟨rfl,rfl,rfl⟩
   conv=>whnf
   (repeat' ((first | refine And.intro ?_ ?_ | (apply ah<;>intro h<;>try simp only [bl]at h) | refine aI.i64 (by first | omega | ((try simp only [List.length_map]at *);omega)) ?_ | refine bC.mk' _ rfl (by first | omega | (simp only [ln];omega) | (simp only [ln]at *;omega)) ?_ | refine aS.aA (by assumption) ?_ | refine aS.set (by(try simp only [ln]at *);omega) ?_ | refine aS.map (by first | omega | (simp only [List.length_map]at *;omega)) ?_ | refine ay.mk (by first | decide | omega) ?_ | refine kG.mk (by kernel_rfl) rfl rfl ?_ | refine ay.mk (aG (by(try simp only [ln]at *);omega) (by kernel_rfl)) ?_)<;>conv=>whnf))
   exact aF ⟨k,0,out++num l[i]++num ((k-i:Nat):Int)⟩ [] [1] rfl (by show l.length-k<l.length-i;omega) ⟨hk,hd⟩ trivial ⟨⟨rfl,rfl,rfl⟩,rfl,trivial⟩
 ·have:i=l.length:=by simp at h;omega
  subst this
  simp only [List.drop_length,b2,rl,List.flatMap_nil,List.append_nil]at ho
  rw [ho]
  exact aX [] (by trivial)
def fnv (f:FuncId):AV:= .v (.func (.func f) #[] #[])
def cds:List AV:= [fnv 176,fnv 177,fnv 178,fnv 179,fnv 180,fnv 181,fnv 182,fnv 183,fnv 184,fnv 185]
theorem qp:bD Tryz.prog GC 158 [] 0 [] (Is (.agg cds)):=by
 refine au Tryz.func158 rfl mixed (by kernel_rfl) ?_
 conv=>whnf
 exact aX [] (by trivial)
theorem Xl {l:Li}{m:Int}(h1:m∈l)(h2 : ∀x∈l,m≤x):m=lo l:=by
 have:=lo_le h1
 have:=h2 _ this.2
 omega
theorem Xm {l:Li}{m:Int}(h1:m∈l)(h2 : ∀x∈l,x≤m):m=hi l:=by
 have:=LH h1
 have:=h2 _ this.2
 omega
structure KX where
 k:Nat
 m:Int
theorem aev (l:Li)(hl:l≠ [])(hs:l.length≤1000000):bD Tryz.prog GC 206 [li l] 0 [] (Is (iv (lo l))):=by
 have h0:0<l.length:=List.length_pos_iff.2 hl
 have st : ∀j (hj:j<1) (hjl:j<l.length),l[j]=l[0]:=fun j hj hjl=>by
  have:j=0:=by omega
  subst this;rfl
 refine au Tryz.func206 rfl mixed (by kernel_rfl) ?_
 conv=>whnf
 apply ah<;>intro h
 ·simp at h;omega
 conv=>whnf
 (repeat' ((first | refine And.intro ?_ ?_ | (apply ah<;>intro h<;>try simp only [bl]at h) | refine aI.i64 (by first | omega | ((try simp only [List.length_map]at *);omega)) ?_ | refine bC.mk' _ rfl (by first | omega | (simp only [ln];omega) | (simp only [ln]at *;omega)) ?_ | refine aS.aA (by assumption) ?_ | refine aS.set (by(try simp only [ln]at *);omega) ?_ | refine aS.map (by first | omega | (simp only [List.length_map]at *;omega)) ?_ | refine ay.mk (by first | decide | omega) ?_ | refine kG.mk (by kernel_rfl) rfl rfl ?_ | refine ay.mk (aG (by(try simp only [ln]at *);omega) (by kernel_rfl)) ?_)<;>conv=>whnf))
 refine bg VQ 0 [3,4] (fun x:KX=> [(3,iv x.m),(4,iv x.k)]) (fun _=> []) (fun x=>x.k≤l.length∧x.m∈l∧∀j (hj:j<x.k) (hjl:j<l.length),x.m≤l[j]) (fun x=>l.length-x.k) [] [] ⟨1,l[0]⟩ (by kernel_rfl) (fun _=>rfl) rfl ⟨h0,List.getElem_mem h0,fun j hj hjl=>by have:=st j hj hjl;simp only;omega⟩ trivial ⟨rfl,rfl,trivial⟩ ?_
 rintro⟨k,m⟩ ⟨hk,hm,ha⟩
 change k≤l.length at hk
 change m∈l at hm
 conv=>whnf
 apply ah<;>intro h
 ·have hlt:k<l.length:=by simp at h;omega
  conv=>whnf
  (repeat' ((first | refine And.intro ?_ ?_ | (apply ah<;>intro h<;>try simp only [bl]at h) | refine aI.i64 (by first | omega | ((try simp only [List.length_map]at *);omega)) ?_ | refine bC.mk' _ rfl (by first | omega | (simp only [ln];omega) | (simp only [ln]at *;omega)) ?_ | refine aS.aA (by assumption) ?_ | refine aS.set (by(try simp only [ln]at *);omega) ?_ | refine aS.map (by first | omega | (simp only [List.length_map]at *;omega)) ?_ | refine ay.mk (by first | decide | omega) ?_ | refine kG.mk (by kernel_rfl) rfl rfl ?_ | refine ay.mk (aG (by(try simp only [ln]at *);omega) (by kernel_rfl)) ?_)<;>conv=>whnf))
  refine aF ⟨k+1,min m l[k]⟩ [] [] rfl (by show l.length -(k+1)<l.length-k;omega) ⟨hlt, ?_,fun j hj hjl=> ?_⟩ trivial ⟨rfl,rfl,trivial⟩
  ·show min m l[k]∈l
   have hm2:=List.getElem_mem hlt
   rcases Int.le_total m l[k]with h1 | h1
   ·rw [Int.min_eq_left h1];exact hm
   ·rw [Int.min_eq_right h1];exact hm2
  ·rcases Nat.lt_or_ge j k with h1 | h1
   ·have:=ha j h1 hjl;simp only at this ⊢;omega
   ·have hj':j<k+1:=hj
    have:j=k:=by omega
    subst this;simp only;omega
 ·have:k=l.length:=by simp at h;omega
  subst this
  conv=>whnf
  have e:m=lo l:=Xl hm fun x hx=>by
   obtain⟨j,hj,e⟩:=List.getElem_of_mem hx
   rw [←e];exact ha j hj hj
  rw [←e]
  exact aX [] (by trivial)
theorem aew (l:Li)(hl:l≠ [])(hs:l.length≤1000000):bD Tryz.prog GC 207 [li l] 0 [] (Is (iv (hi l))):=by
 have h0:0<l.length:=List.length_pos_iff.2 hl
 have st : ∀j (hj:j<1) (hjl:j<l.length),l[j]=l[0]:=fun j hj hjl=>by
  have:j=0:=by omega
  subst this;rfl
 refine au Tryz.func207 rfl mixed (by kernel_rfl) ?_
 conv=>whnf
 apply ah<;>intro h
 ·simp at h;omega
 conv=>whnf
 (repeat' ((first | refine And.intro ?_ ?_ | (apply ah<;>intro h<;>try simp only [bl]at h) | refine aI.i64 (by first | omega | ((try simp only [List.length_map]at *);omega)) ?_ | refine bC.mk' _ rfl (by first | omega | (simp only [ln];omega) | (simp only [ln]at *;omega)) ?_ | refine aS.aA (by assumption) ?_ | refine aS.set (by(try simp only [ln]at *);omega) ?_ | refine aS.map (by first | omega | (simp only [List.length_map]at *;omega)) ?_ | refine ay.mk (by first | decide | omega) ?_ | refine kG.mk (by kernel_rfl) rfl rfl ?_ | refine ay.mk (aG (by(try simp only [ln]at *);omega) (by kernel_rfl)) ?_)<;>conv=>whnf))
 refine bg VR 0 [3,4] (fun x:KX=> [(3,iv x.m),(4,iv x.k)]) (fun _=> []) (fun x=>x.k≤l.length∧x.m∈l∧∀j (hj:j<x.k) (hjl:j<l.length),l[j]≤x.m) (fun x=>l.length-x.k) [] [] ⟨1,l[0]⟩ (by kernel_rfl) (fun _=>rfl) rfl ⟨h0,List.getElem_mem h0,fun j hj hjl=>by have:=st j hj hjl;simp only;omega⟩ trivial ⟨rfl,rfl,trivial⟩ ?_
 rintro⟨k,m⟩ ⟨hk,hm,ha⟩
 change k≤l.length at hk
 change m∈l at hm
 conv=>whnf
 apply ah<;>intro h
 ·have hlt:k<l.length:=by simp at h;omega
  conv=>whnf
  (repeat' ((first | refine And.intro ?_ ?_ | (apply ah<;>intro h<;>try simp only [bl]at h) | refine aI.i64 (by first | omega | ((try simp only [List.length_map]at *);omega)) ?_ | refine bC.mk' _ rfl (by first | omega | (simp only [ln];omega) | (simp only [ln]at *;omega)) ?_ | refine aS.aA (by assumption) ?_ | refine aS.set (by(try simp only [ln]at *);omega) ?_ | refine aS.map (by first | omega | (simp only [List.length_map]at *;omega)) ?_ | refine ay.mk (by first | decide | omega) ?_ | refine kG.mk (by kernel_rfl) rfl rfl ?_ | refine ay.mk (aG (by(try simp only [ln]at *);omega) (by kernel_rfl)) ?_)<;>conv=>whnf))
  refine aF ⟨k+1,max m l[k]⟩ [] [] rfl (by show l.length -(k+1)<l.length-k;omega) ⟨hlt, ?_,fun j hj hjl=> ?_⟩ trivial ⟨rfl,rfl,trivial⟩
  ·show max m l[k]∈l
   have hm2:=List.getElem_mem hlt
   rcases Int.le_total m l[k]with h1 | h1
   ·rw [Int.max_eq_right h1];exact hm2
   ·rw [Int.max_eq_left h1];exact hm
  ·rcases Nat.lt_or_ge j k with h1 | h1
   ·have:=ha j h1 hjl;simp only at this ⊢;omega
   ·have hj':j<k+1:=hj
    have:j=k:=by omega
    subst this;simp only;omega
 ·have:k=l.length:=by simp at h;omega
  subst this
  conv=>whnf
  have e:m=hi l:=Xm hm fun x hx=>by
   obtain⟨j,hj,e⟩:=List.getElem_of_mem hx
   rw [←e];exact ha j hj hj
  rw [←e]
  exact aX [] (by trivial)
theorem aaG (l:Li)(hl:l≠ [])(hs:l.length≤1000000):bD Tryz.prog GC 202 [li l] 0 [] (lM 3 1 (l.map oM)):=by
 have h0:0<l.length:=List.length_pos_iff.2 hl
 refine au Tryz.func202 rfl mixed (by kernel_rfl) ?_
 conv=>whnf
 refine⟨fun b hb=> ?_⟩
 rw [hb (fQ h0)]
 conv=>whnf
 (repeat' ((first | refine And.intro ?_ ?_ | (apply ah<;>intro h<;>try simp only [bl]at h) | refine aI.i64 (by first | omega | ((try simp only [List.length_map]at *);omega)) ?_ | refine bC.mk' _ rfl (by first | omega | (simp only [ln];omega) | (simp only [ln]at *;omega)) ?_ | refine aS.aA (by assumption) ?_ | refine aS.set (by(try simp only [ln]at *);omega) ?_ | refine aS.map (by first | omega | (simp only [List.length_map]at *;omega)) ?_ | refine ay.mk (by first | decide | omega) ?_ | refine kG.mk (by kernel_rfl) rfl rfl ?_ | refine ay.mk (aG (by(try simp only [ln]at *);omega) (by kernel_rfl)) ?_)<;>conv=>whnf))
 exact aV (.own 0) 1 _ [(0, .lab 1)] [] ⟨rfl,rfl,rfl⟩ rfl (by trivial) (by trivial)
theorem YK {d:Li}(hd:SS d){i j:Nat}{x y:Int}(h:i<j)(h1:d[i]? = some x)(h2:d[j]? = some y):x<y:=by
 obtain⟨hi,e1⟩:=List.getElem?_eq_some_iff.1 h1
 obtain⟨hj,e2⟩:=List.getElem?_eq_some_iff.1 h2
 rw [←e1, ←e2]
 exact List.pairwise_iff_getElem.1 hd i j hi hj h
theorem CZ (u:Nat):Int.fdiv (u:Int) (2^min (Int.toNat 1) IntKind.u64.bits)=((u/2:Nat):Int):=by rw [acL];exact aep u
theorem ne_self (n:Int):(n != n)=false:=by simp
theorem acQ (n:Int):bD Tryz.prog GC 230 [iv n] 0 [] (Is (bv false)):=by
 refine au Tryz.func230 rfl mixed (by kernel_rfl) ?_
 conv=>whnf
 rw [ne_self]
 exact aX [] (by trivial)
theorem acR (x y:Int):bD Tryz.prog GC 217 [iv x,iv y] 0 [] (Is (bv (decide (x<y)))):=by
 refine au Tryz.func217 rfl mixed (by kernel_rfl) ?_
 conv=>whnf
 (refine bf [] (by kernel_rfl) (acQ x) rfl ?_ ?_;(focus trivial))
 conv=>whnf
 (repeat' ((first | refine And.intro ?_ ?_ | (apply ah<;>intro h<;>try simp only [bl]at h) | refine aI.i64 (by first | omega | ((try simp only [List.length_map]at *);omega)) ?_ | refine bC.mk' _ rfl (by first | omega | (simp only [ln];omega) | (simp only [ln]at *;omega)) ?_ | refine aS.aA (by assumption) ?_ | refine aS.set (by(try simp only [ln]at *);omega) ?_ | refine aS.map (by first | omega | (simp only [List.length_map]at *;omega)) ?_ | refine ay.mk (by first | decide | omega) ?_ | refine kG.mk (by kernel_rfl) rfl rfl ?_ | refine ay.mk (aG (by(try simp only [ln]at *);omega) (by kernel_rfl)) ?_)<;>conv=>whnf))
 exact aX [] (by trivial)
theorem Xn (d:Li)(x:Int)(hd:SS d)(hx:x∈d)(hs:d.length≤1000000):bD Tryz.prog GC 205 [li d,iv x] 0 [] (Is (.bH [iv (idx d x),bv true])):=by
 have hi:=JE hx
 refine au Tryz.func205 rfl mixed (by kernel_rfl) ?_
 conv=>whnf
 refine bg VP 0 [7,8] (fun x:Nat×Nat=> [(7,iv x.1),(8,iv x.2)]) (fun _=> []) (fun y=>y.1≤idx d x∧idx d x≤y.2∧y.2≤d.length) (fun y=>y.2-y.1) [] [] (0,d.length) (by kernel_rfl) (fun _=>rfl) rfl ⟨Nat.zero_le _,Nat.le_of_lt hi.1,Nat.le_refl _⟩ trivial ⟨rfl,congrArg (fun n:Nat=>Value.int .i64 (n:Int)) (List.length_map _),trivial⟩ ?_
 rintro⟨i,j⟩ ⟨h1,h2,h3⟩
 change i≤idx d x at h1
 change idx d x≤j at h2
 change j≤d.length at h3
 conv=>whnf
 apply ah<;>intro h
 ·have hlt:i<j:=by simp at h;omega
  conv=>whnf
  (repeat' ((first | refine And.intro ?_ ?_ | (apply ah<;>intro h<;>try simp only [bl]at h) | refine aI.i64 (by first | omega | ((try simp only [List.length_map]at *);omega)) ?_ | refine bC.mk' _ rfl (by first | omega | (simp only [ln];omega) | (simp only [ln]at *;omega)) ?_ | refine aS.aA (by assumption) ?_ | refine aS.set (by(try simp only [ln]at *);omega) ?_ | refine aS.map (by first | omega | (simp only [List.length_map]at *;omega)) ?_ | refine ay.mk (by first | decide | omega) ?_ | refine kG.mk (by kernel_rfl) rfl rfl ?_ | refine ay.mk (aG (by(try simp only [ln]at *);omega) (by kernel_rfl)) ?_)<;>conv=>whnf))
  refine aI.to (y:=((i+j:Nat):Int)) (by rw [←Int.natCast_add];exact lN (by omega)) ?_
  conv=>whnf
  refine ay.mk (by decide) ?_
  rw [CZ]
  conv=>whnf
  refine aI.i64 (by omega) ?_
  conv=>whnf
  have hm:(i+j)/2<d.length:=by omega
  (repeat' ((first | refine And.intro ?_ ?_ | (apply ah<;>intro h<;>try simp only [bl]at h) | refine aI.i64 (by first | omega | ((try simp only [List.length_map]at *);omega)) ?_ | refine bC.mk' _ rfl (by first | omega | (simp only [ln];omega) | (simp only [ln]at *;omega)) ?_ | refine aS.aA (by assumption) ?_ | refine aS.set (by(try simp only [ln]at *);omega) ?_ | refine aS.map (by first | omega | (simp only [List.length_map]at *;omega)) ?_ | refine ay.mk (by first | decide | omega) ?_ | refine kG.mk (by kernel_rfl) rfl rfl ?_ | refine ay.mk (aG (by(try simp only [ln]at *);omega) (by kernel_rfl)) ?_)<;>conv=>whnf))
  (refine bf [] (by kernel_rfl) (acR d[(i+j)/2] x) rfl ?_ ?_;(focus trivial))
  conv=>whnf
  have hat:=List.getElem?_eq_getElem hm
  apply ah<;>intro h
  ·conv=>whnf
   refine aI.i64 (by omega) ?_
   conv=>whnf
   have hlt2:d[(i+j)/2]<x:=by simpa using h
   have hc:(i+j)/2<idx d x:=by
    rcases Nat.lt_trichotomy ((i+j)/2) (idx d x)with h4 | h4 | h4
    ·exact h4
    ·have:=hi.2;rw [←h4,hat]at this;injection this with this;omega
    ·have:=YK hd h4 hi.2 hat;omega
   exact aF ((i+j)/2+1,j) [] [] rfl (by show j -((i+j)/2+1)<j-i;omega) ⟨hc,h2,h3⟩ trivial ⟨rfl,rfl,trivial⟩
  ·conv=>whnf
   have hlt2:x≤d[(i+j)/2]:=by simp at h;omega
   have hc:idx d x≤(i+j)/2:=by
    rcases Nat.lt_or_ge ((i+j)/2) (idx d x)with h4 | h4
    ·have:=YK hd h4 hat hi.2;omega
    ·exact h4
   exact aF (i,(i+j)/2) [] [] rfl (by show (i+j)/2-i<j-i;omega) ⟨h1,hc,by show (i+j)/2≤_;omega⟩ trivial ⟨rfl,rfl,trivial⟩
 ·have hij:i=idx d x:=by simp at h;omega
  have hil:i<d.length:=by omega
  have hat:d[i]? = some x:=by rw [hij];exact hi.2
  rw [←hij]
  conv=>whnf
  (repeat' ((first | refine And.intro ?_ ?_ | (apply ah<;>intro h<;>try simp only [bl]at h) | refine aI.i64 (by first | omega | ((try simp only [List.length_map]at *);omega)) ?_ | refine bC.mk' _ rfl (by first | omega | (simp only [ln];omega) | (simp only [ln]at *;omega)) ?_ | refine aS.aA (by assumption) ?_ | refine aS.set (by(try simp only [ln]at *);omega) ?_ | refine aS.map (by first | omega | (simp only [List.length_map]at *;omega)) ?_ | refine ay.mk (by first | decide | omega) ?_ | refine kG.mk (by kernel_rfl) rfl rfl ?_ | refine ay.mk (aG (by(try simp only [ln]at *);omega) (by kernel_rfl)) ?_)<;>conv=>whnf))
  all_goals first
   | (exfalso;omega)
   | (exfalso;simp only [List.length_map]at h;omega)
   | (exfalso;simp at h;done)
   | exact aX [] (by trivial)
end Go.Proofs.YtocckceefcmeaaaGreatDoor.Cl
