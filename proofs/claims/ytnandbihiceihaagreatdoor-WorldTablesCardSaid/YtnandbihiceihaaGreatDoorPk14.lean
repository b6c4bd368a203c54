/- Joined parts of the proof. The walks of package wire's number writing and of the reference's: own, groups, PutNumber -/
import Derived.Test.YtnandbihiceihaaGreatDoorPk13
set_option linter.unusedVariables false
set_option linter.unusedSimpArgs false
set_option maxRecDepth 100000
set_option maxHeartbeats 16000000
namespace Go.Proofs.YtnandbihiceihaaGreatDoor.Cl
open RowKit Vc Ax Go.Proofs.Tryz
attribute [local irreducible] loadVar storeVar Instr.indexAt Instr.index Instr.sliceAt Instr.makeSlice Instr.lookup Instr.mapUpdate Instr.range Instr.next Instr.entry Instr.makeMap Builtin.append_ Builtin.copy_ Builtin.len_ Builtin.min_ Builtin.max_ Builtin.cap_ Builtin.delete_ Builtin.clear_ convert binOp eqGuard Op.unary Calls
theorem ak8 (b more:By)(hb:b.length+more.length<=4000000):mP Tryz.prog GC 192 [bs b,bs more] 0 [] (vZ 5 1 ((b++more).map wJ)):=by
 refine lJ func192 rfl mixed aag ?_
 conv=>whnf
 (repeat' ((first|refine And.intro ?_ ?_|(apply lH<;>intro h<;>try simp only [bl]at h)|refine rnS ?_|fail)<;>conv=>whnf))
 refine uT.cap (qp:=1) 0 (b.length+more.length) rfl (by rw [aj,aj];omega) (aH _) aa5 ?_
 conv=>whnf
 (repeat' ((first|refine And.intro ?_ ?_|(apply lH<;>intro h<;>try simp only [bl]at h)|refine rnS ?_|fail)<;>conv=>whnf))
 rw [aS]
 exact nI (.own 0) 1 _ [(0, .lab 2)] [] ⟨rfl,rfl,rfl⟩ rfl aam aam
theorem ak9:(2:Int)^min (Int.toNat 7) IntKind.u64.bits=128:=aaw
theorem ai3:(2:Int)^min (Int.toNat 63) IntKind.u64.bits=9223372036854775808:=aaw
def GI (f u:Nat)(out:By):Prop:=u<2*128^f∧f<=9∧out.length+f=9
theorem GI.next {f u:Nat}{out:By}(h:GI f u out)(hu:128<=u) : ∃g,f=g+1∧GI g (u/128) (out++ [UInt8.ofNat (128+u%128)])∧out++grp f u=(out++ [UInt8.ofNat (128+u%128)])++grp g (u/128):=by
 obtain⟨h1,h2,h3⟩:=h
 cases f with
 | zero=>simp at h1;omega
 | succ g=>
  refine⟨g,rfl,⟨?_,by omega,by simp;omega⟩, ?_⟩
  ·rw [Bg]at h1;omega
  ·rw [show grp (g+1) u=UInt8.ofNat (128+u%128)::grp g (u/128) by unfold grp;rw [if_neg aai];cases g<;>rfl];simp
theorem YW {f u:Nat}(h:u<128):grp f u = [UInt8.ofNat u]:=by cases f with
 | zero=>rfl
 | succ f=>unfold grp;rw [if_pos h]
theorem GI.start {n:Int}(hn:I64 n):GI 9 (zu n) []∧ []++grp 9 (zu n)=num n:=by
 have hz:=Yr hn
 have e:(128:Nat)^9=9223372036854775808:=aaw
 exact⟨⟨by rw [e];omega,au _,rfl⟩,rfl⟩
structure GX where
 f:Nat
 u:Nat
 out:By
theorem Pe (out:By)(c:UInt8):(out++ [c]).map wJ=out.map wJ++ [[FV.v (.int .u8 (c.toNat:Int))]]:=by rw [aS];rfl
theorem ac1 (n:Int)(hn:I64 n):mP Tryz.prog GC 193 [iv n] 0 [] (vZ 5 1 ((num n).map wJ)):=by
 have hz:=Yr hn
 have ai4:nV .xor .u64 (IntKind.u64.wrap (IntKind.u64.wrap n*2^min (Int.toNat 1) IntKind.u64.bits)) (IntKind.u64.wrap (n.fdiv (2^min (Int.toNat 63) IntKind.u64.bits)))=(zu n:Int):=by
  rw [ak7,ai3];exact acP n hn
 refine lJ func193 rfl mixed aag ?_
 refine lN.to rfl ?_
 conv=>whnf
 (repeat' ((first|refine And.intro ?_ ?_|(apply lH<;>intro h<;>try simp only [bl]at h)|refine rnS ?_|fail)<;>conv=>whnf))
 refine lN.to rfl ?_
 conv=>whnf
 (repeat' ((first|refine And.intro ?_ ?_|(apply lH<;>intro h<;>try simp only [bl]at h)|refine rnS ?_|fail)<;>conv=>whnf))
 refine lN.to rfl ?_
 refine mY abV 1 [3,4] (fun x:GX=> [(3,uv x.u),(4, .own 0)]) (fun x=> [(0, .rows 5 1 (x.out.map wJ))]) (fun x=>GI x.f x.u x.out∧x.out++grp x.f x.u=num n) (fun x=>x.f) [(0, .nil)] [] ⟨9,zu n,[]⟩ aag (fun _=>rfl) rfl (GI.start hn) ⟨rfl,trivial⟩ ⟨congrArg (Value.int .u64) ai4,trivial,trivial⟩ ?_
 rintro⟨f,u,out⟩ ⟨hg,hout⟩
 have hlen:=hg.2.2
 apply lH<;>intro h
 ·have hu:128<=u:=aaG
  obtain⟨g,rfl,hg2,ho2⟩:=hg.next hu
  refine lN.to rfl ?_
  conv=>whnf
  (repeat' ((first|refine And.intro ?_ ?_|(apply lH<;>intro h<;>try simp only [bl]at h)|refine rnS ?_|fail)<;>conv=>whnf))
  refine lK ⟨g,u/128,out++ [UInt8.ofNat (128+u%128)]⟩ [(0, .lab 2)] [] rfl (jm g) ⟨hg2,by rw [<-ho2];exact hout⟩ ?_ ?_
  ·refine⟨⟨rfl,rfl, ?_⟩,trivial⟩
   rw [Pe, <-Yv]
  ·refine⟨congrArg (Value.int .u64) (by rw [ak9];exact ak0 u), ?_⟩
   trivial
 ·have hu:u<128:=aaG
  refine lN.to (VR hu) ?_
  conv=>whnf
  (repeat' ((first|refine And.intro ?_ ?_|(apply lH<;>intro h<;>try simp only [bl]at h)|refine rnS ?_|fail)<;>conv=>whnf))
  refine nI (.own 0) 1 _ [(0, .lab 2)] [] ⟨rfl,rfl,rfl⟩ rfl ⟨⟨rfl,rfl, ?_⟩,trivial⟩ aam
  rw [<-hout,YW hu,Pe]
theorem ala (b:By)(n:Int)(hn:I64 n)(hb:b.length<=3999990):mP Tryz.prog GC 124 [bs b,iv n] 0 [] (vZ 5 1 ((b++num n).map wJ)):=by
 have hl:=(Mc n).2
 refine lJ func124 rfl mixed aag ?_
 refine qc [] aag (ac1 n hn) aam ?_
 refine qc [0] aag (ak8 b (num n) aai) aam ?_
 exact nI (.own 0) 1 _ [(0, .lab 1)] [] ⟨rfl,rfl,rfl⟩ rfl aam aam
theorem GI.u64 {f u:Nat}{out:By}(h:GI f u out):u<18446744073709551616:=by
 have e:(128:Nat)^9=9223372036854775808:=aaw
 have:=jQ (show 0<128 by decide) h.2.1
 have:=h.1
 omega
structure LX where
 k:Nat
 p:Int
 out:By
theorem drop_cons {l:Li}{k:Nat}(h:k<l.length):l.drop k=l[k]::l.drop (k+1):=dH h
def YX (l:Li)(i k:Nat):Prop:=i<=k∧k<=l.length∧l.drop i=List.replicate (k-i) (l.getD i 0)++l.drop k
theorem YX.next {l:Li}{i k:Nat}(h:YX l i k)(hk:k<l.length)(e:l[k]=l.getD i 0):YX l i (k+1):=by
 obtain⟨h1,h2,h3⟩:=h
 refine⟨by omega,hk, ?_⟩
 rw [h3,drop_cons hk,e,show k+1-i=(k-i)+1 by omega,List.replicate_succ']
 simp
theorem YX.fin {l:Li}{i k:Nat}(h:YX l i k)(hi:i<l.length)(e : ∀hk:k<l.length,l[k]≠l.getD i 0):i<k∧b2 (l.drop i)=num (l.getD i 0)++(num ((k-i:Nat):Int)++b2 (l.drop k)):=by
 obtain⟨h1,h2,h3⟩:=h
 have hlt:i<k:=by
  rcases eG i k with h|h
  ·exact h
  ·have:k=i:=aai
   subst this
   exact absurd (by rw [aT,ah hi];rfl) (e hi)
 refine⟨hlt, ?_⟩
 obtain⟨m,hm⟩ : ∃m,k-i=m+1:=⟨k-i-1,by omega⟩
 rw [h3,hm]
 unfold b2
 rw [agu _ m _ (by
  rcases eG k l.length with h|h
  ·rw [drop_cons h];intro e2;exact e h (by simpa [ah h]using e2)
  ·rw [kT h];simp)]
 simp [enP]
structure KX where
 k:Nat
 m:Int
end Go.Proofs.YtnandbihiceihaaGreatDoor.Cl
