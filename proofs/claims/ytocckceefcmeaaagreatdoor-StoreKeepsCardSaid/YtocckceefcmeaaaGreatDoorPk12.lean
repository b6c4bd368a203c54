/- Joined parts of the proof. Numbers as bytes in plain Lean: how a number is written, that it is read as it was written, and that what is read was wr -/
import Derived.Test.YtocckceefcmeaaaGreatDoorPk11
import Derived.Test.YtocckceefcmeaaaGreatDoorPk9
import Derived.Test.YtocckceefcmeaaaGreatDoorPk8
import Derived.Test.YtocckceefcmeaaaGreatDoorPk10
set_option linter.unusedVariables false
set_option linter.unusedSimpArgs false
set_option maxRecDepth 100000
set_option maxHeartbeats 16000000
namespace Go.Proofs.YtocckceefcmeaaaGreatDoor.Cl
def zu (n:Int):Nat:=if n<0 then(-2*n-1).toNat else(2*n).toNat
def zz (u:Nat):Int:=if u%2=1 then -((u/2:Nat):Int)-1 else((u/2:Nat):Int)
theorem abX (n:Int):zz (zu n)=n:=by
 unfold zz zu
 by_cases h:n<0
 ·rw [if_pos h];split<;>omega
 ·rw [if_neg h];split<;>omega
theorem abY (u:Nat):zu (zz u)=u:=by
 unfold zz zu
 split<;>split<;>omega
theorem Qd {n:Int}(h:I64 n):zu n<18446744073709551616:=by
 unfold zu I64 at *
 split<;>omega
theorem ZF {u:Nat}(h:u<18446744073709551616):I64 (zz u):=by
 unfold zz I64
 split<;>omega
def grp:Nat→Nat→By
 | 0,u=> [UInt8.ofNat u]
 | f+1,u=>if u<128 then [UInt8.ofNat u]else UInt8.ofNat (128+u%128)::grp f (u/128)
def num (n:Int):By:=grp 9 (zu n)
inductive RN where
 | bad (e:Int)
 | ok (n:Int) (k:Nat)
def xH:By→Nat→Nat→RN
 | [],_,_=> .bad 16
 | c::r,i,u=>if i=9∧1<c.toNat then .bad 3 else if 128≤c.toNat then xH r (i+1) (u+c.toNat%128*128^i)else if c.toNat=0∧0<i then .bad 1 else .ok (zz (u+c.toNat%128*128^i)) (i+1)
theorem ZG (f u:Nat):grp f u≠ []:=by
 cases f with
 | zero=>simp [grp]
 | succ f=>unfold grp;split<;>simp
theorem VP (f u:Nat):0<(grp f u).length:=by
 have:=ZG f u
 cases h:grp f u with
 | nil=>exact absurd h this
 | cons a r=>simp
theorem VQ (f u:Nat):(grp f u).length≤f+1:=by
 induction f generalizing u with
 | zero=>simp [grp]
 | succ f ih=>
  unfold grp
  split
  ·simp
  ·have:=ih (u/128);simp;omega
theorem qH (i:Nat):128^(i+1)=128*128^i:=by rw [Nat.pow_succ,Nat.mul_comm]
theorem ZH (r:By) : ∀(f u i acc:Nat),i+f=9→u<2*128^f→(i=0∨u≠0)→xH (grp f u++r) i acc = .ok (zz (acc+u*128^i)) (i+(grp f u).length):=by
 intro f
 induction f with
 | zero=>
  intro u i acc hi hu h0
  have hu2:u<2:=by simpa using hu
  simp only [grp,List.cons_append,List.nil_append,xH]
  rw [toNat_ofNat (by omega)]
  rw [if_neg (by omega),if_neg (by omega),if_neg (by omega),Nat.mod_eq_of_lt (by omega:u<128)]
  simp
 | succ f ih=>
  intro u i acc hi hu h0
  unfold grp
  by_cases h:u<128
  ·rw [if_pos h]
   simp only [List.cons_append,List.nil_append,xH]
   rw [toNat_ofNat (by omega)]
   rw [if_neg (by omega),if_neg (by omega),if_neg (by omega),Nat.mod_eq_of_lt h]
   simp
  ·rw [if_neg h]
   have hm:u%128<128:=Nat.mod_lt _ (by decide)
   simp only [List.cons_append,xH]
   rw [toNat_ofNat (by omega)]
   rw [if_neg (by omega),if_pos (by omega)]
   rw [qH]at hu
   rw [ih (u/128) (i+1) _ (by omega) (by omega) (by omega)]
   have e1:(128+u%128)%128=u%128:=by omega
   have e2:u%128*128^i+u/128*128^(i+1)=u*128^i:=by
    rw [qH, ←Nat.mul_assoc, ←Nat.add_mul]
    have:u%128+u/128*128=u:=by omega
    rw [this]
   rw [e1,Nat.add_assoc,e2]
   simp only [List.length_cons]
   congr 1
   omega
theorem ZI (n:Int)(hn:I64 n)(r:By):xH (num n++r) 0 0 = .ok n (num n).length:=by
 unfold num
 rw [ZH r 9 (zu n) 0 0 rfl (by have:=Qd hn;omega) (.inl rfl)]
 simp [abX]
theorem VR : ∀(b:By) (i acc:Nat) (n:Int) (k:Nat),i≤9→xH b i acc = .ok n k→∃u,u<2*128^(9-i)∧b.take (k-i)=grp (9-i) u∧n=zz (acc+u*128^i)∧i<k∧k-i≤b.length∧(i=0∨u≠0):=by
 intro b
 induction b with
 | nil=>intro i acc n k _ h;cases h
 | cons c r ih=>
  intro i acc n k hi h
  simp only [xH]at h
  have hc:c.toNat<256:=c.toNat_lt
  have ec:UInt8.ofNat c.toNat=c:=by simp
  split at h
  ·cases h
  rename_i h9
  split at h
  ·rename_i h128
   have hi9:i≠9:=fun e=>h9 ⟨e,by omega⟩
   obtain⟨u,h1,h2,h3,h4,h5,h6⟩:=ih (i+1) _ n k (by omega) h
   obtain⟨f,hf⟩ : ∃f,9-i=f+1:=⟨8-i,by omega⟩
   have hf':9 -(i+1)=f:=by omega
   rw [hf']at h1 h2
   have hu:u≠0:=h6.resolve_left (by omega)
   refine⟨c.toNat-128+128*u, ?_, ?_, ?_,by omega,by simp only [List.length_cons];omega, .inr (by omega)⟩
   ·rw [hf,qH];omega
   ·rw [hf]
    have ek:k-i=(k -(i+1))+1:=by omega
    rw [ek,List.take_succ_cons,h2]
    unfold grp
    rw [if_neg (by omega)]
    have e1:128+(c.toNat-128+128*u)%128=c.toNat:=by omega
    have e2:(c.toNat-128+128*u)/128=u:=by omega
    rw [e1,e2,ec]
    cases f<;>rfl
   ·rw [h3]
    have e1:c.toNat%128=c.toNat-128:=by omega
    rw [e1,qH,Nat.add_mul,Nat.add_assoc]
    congr 2
    rw [←Nat.mul_assoc,Nat.mul_comm u 128]
  ·rename_i h128
   split at h
   ·cases h
   ·rename_i h0
    injection h with e1 e2
    subst e2
    have hc1:c.toNat<128:=by omega
    refine⟨c.toNat, ?_, ?_, ?_,by omega,by simp,by omega⟩
    ·rcases Nat.lt_or_ge i 9 with hl | hl
     ·obtain⟨f,hf⟩ : ∃f,9-i=f+1:=⟨8-i,by omega⟩
      rw [hf,qH]
      have:0<128^f:=Nat.pow_pos (by decide)
      omega
     ·have:i=9:=by omega
      subst this
      have : ¬1<c.toNat:=fun h=>h9 ⟨rfl,h⟩
      simp;omega
    ·have e3:i+1-i=1:=by omega
     rw [e3]
     simp only [List.take_succ_cons,List.take_zero]
     cases hf:9-i with
     | zero=>simp [grp]
     | succ f=>unfold grp;rw [if_pos hc1,ec]
    ·rw [←e1,Nat.mod_eq_of_lt hc1]
theorem Np {b:By}{n:Int}{k:Nat}(h:xH b 0 0 = .ok n k):b=num n++b.drop k∧k=(num n).length∧I64 n∧0<k∧k≤b.length:=by
 obtain⟨u,h1,h2,h3,h4,h5,_⟩:=VR b 0 0 n k (by omega) h
 have e:n=zz u:=by simpa using h3
 have hg:num n=grp 9 u:=by unfold num;rw [e,abY]
 simp only [Nat.sub_zero]at h2 h5
 refine⟨by rw [hg, ←h2,List.take_append_drop], ?_, ?_,h4,h5⟩
 ·rw [hg, ←h2,List.length_take];omega
 ·rw [e];exact ZF (by simp only [Nat.sub_zero]at h1;omega)
theorem bn (n:Int):0<(num n).length∧(num n).length≤10:=⟨VP _ _,VQ _ _⟩
def bP (b:By)(e:Int):Int×Nat×Int:=
 if e=0 then(match xH b 0 0 with
  | .bad e'=>(0,0,e')
  | .ok n k=>(n,k,0))else(0,0,e)
theorem VT : ∀ {b:By} {i u:Nat} {e:Int},xH b i u = .bad e→e=16∨e=3∨e=1:=by
 intro b
 induction b with
 | nil=>intro i u e h;injection h with h;exact .inl h.symm
 | cons c r ih=>
  intro i u e h
  simp only [xH]at h
  split at h
  ·injection h with h;exact .inr (.inl h.symm)
  ·split at h
   ·exact ih h
   ·split at h
    ·injection h with h;exact .inr (.inr h.symm)
    ·cases h
theorem iU {n:Int}(hn:I64 n)(r:By):bP (num n++r) 0=(n,(num n).length,0):=by
 unfold bP
 rw [if_pos rfl,ZI n hn r]
theorem jc (b:By)(e:Int):I64 (bP b e).1∧(bP b e).2.1≤b.length∧((bP b e).2.2=0→e=0∧b=num (bP b e).1++b.drop (bP b e).2.1∧(bP b e).2.1=(num (bP b e).1).length)∧((bP b e).2.2≠0→(bP b e).1=0∧(bP b e).2.1=0):=by
 have z:I64 0:=by unfold I64;omega
 unfold bP
 by_cases h:e=0
 ·rw [if_pos h]
  cases hr:xH b 0 0 with
  | bad e'=>exact⟨z,Nat.zero_le _,fun h=>by have:=VT hr;simp only at h;omega,fun _=>⟨rfl,rfl⟩⟩
  | ok n k=>
   have:=Np hr
   exact⟨this.2.2.1,this.2.2.2.2,fun _=>⟨h,this.1,this.2.1⟩,fun h=>absurd rfl h⟩
 ·rw [if_neg h]
  exact⟨z,Nat.zero_le _,fun h'=>absurd h' h,fun _=>⟨rfl,rfl⟩⟩
def iD (b:By)(e most em:Int):Int×Nat×Int:=
 let t:=bP b e
 let e1:=if t.2.2=0 then(if t.1<0 then 3 else if most<t.1 then em else 0)else t.2.2
 (if e1=0 then t.1 else 0,t.2.1,e1)
section
open Go Go.RowKit Go.Proofs.YtocckceefcmeaaaGreatDoor.Vc
theorem kR {n:Nat}(h:n<18446744073709551616):IntKind.u64.wrap (n:Int)=n:=by
 have e:IntKind.u64.bits=64:=rfl
 have s:IntKind.u64.signed=false:=rfl
 simp only [IntKind.wrap,e,s,Bool.false_and,Bool.false_eq_true,if_false]
 omega
theorem nX {n:Nat}(h:n<256):IntKind.u8.wrap (n:Int)=n:=by
 have e:IntKind.u8.bits=8:=rfl
 have s:IntKind.u8.signed=false:=rfl
 simp only [IntKind.wrap,e,s,Bool.false_and,Bool.false_eq_true,if_false]
 omega
theorem kC (k n:Nat):BitVec.ofInt k (n:Int)=BitVec.ofNat k n:=by
 apply BitVec.eq_of_toNat_eq
 simp
theorem KA (a b:Nat)(ha:a<18446744073709551616)(hb:b<18446744073709551616):bg .or .u64 a b=((a ||| b:Nat):Int):=by
 have e:IntKind.u64.bits=64:=rfl
 have h:=Nat.or_lt_two_pow (n:=64) ha hb
 simp only [bg,e,kC,BitVec.toNat_or,BitVec.toNat_ofNat]
 rw [Nat.mod_eq_of_lt ha,Nat.mod_eq_of_lt hb,kR h]
theorem Gj (a b:Nat)(ha:a<18446744073709551616)(hb:b<18446744073709551616):bg .and .u64 a b=((a &&& b:Nat):Int):=by
 have e:IntKind.u64.bits=64:=rfl
 have h:=Nat.and_lt_two_pow (n:=64) a hb
 simp only [bg,e,kC,BitVec.toNat_and,BitVec.toNat_ofNat]
 rw [Nat.mod_eq_of_lt ha,Nat.mod_eq_of_lt hb,kR h]
theorem Gl (a b:Nat)(ha:a<18446744073709551616)(hb:b<18446744073709551616):bg .xor .u64 a b=((a ^^^ b:Nat):Int):=by
 have e:IntKind.u64.bits=64:=rfl
 have h:=Nat.xor_lt_two_pow (n:=64) ha hb
 simp only [bg,e,kC,BitVec.toNat_xor,BitVec.toNat_ofNat]
 rw [Nat.mod_eq_of_lt ha,Nat.mod_eq_of_lt hb,kR h]
theorem Jc (a b:Nat)(ha:a<256)(hb:b<256):bg .or .u8 a b=((a ||| b:Nat):Int):=by
 have e:IntKind.u8.bits=8:=rfl
 have h:=Nat.or_lt_two_pow (n:=8) ha hb
 simp only [bg,e,kC,BitVec.toNat_or,BitVec.toNat_ofNat]
 rw [Nat.mod_eq_of_lt ha,Nat.mod_eq_of_lt hb,nX h]
theorem KC (a b:Nat)(ha:a<256)(hb:b<256):bg .and .u8 a b=((a &&& b:Nat):Int):=by
 have e:IntKind.u8.bits=8:=rfl
 have h:=Nat.and_lt_two_pow (n:=8) a hb
 simp only [bg,e,kC,BitVec.toNat_and,BitVec.toNat_ofNat]
 rw [Nat.mod_eq_of_lt ha,Nat.mod_eq_of_lt hb,nX h]
theorem ZJ (a:Nat):a &&& 127=a%128:=Nat.and_two_pow_sub_one_eq_mod a 7
theorem and1 (a:Nat):a &&& 1=a%2:=Nat.and_two_pow_sub_one_eq_mod a 1
theorem uZ {a:Nat}(k c:Nat)(ha:a<2^k):a ||| c*2^k=a+c*2^k:=by
 rw [Nat.or_comm,Nat.mul_comm, ←Nat.two_pow_add_eq_or_of_lt ha,Nat.add_comm]
theorem abZ {a:Nat}(h:a<256):a ||| 128=128+a%128:=by
 have e:a ||| 128=(a%128) ||| 1*2^7 ||| (a/128)*2^7:=by
  have h1:a=a%128 ||| (a/128)*2^7:=by rw [uZ 7 _ (by omega)];omega
  have h2:a ||| 128=(a%128 ||| (a/128)*2^7) ||| 128:=by rw [←h1]
  rw [h2,Nat.or_assoc,Nat.or_assoc,Nat.or_comm (a/128*2^7)]
 rw [e,uZ 7 1 (by omega)]
 have:a/128=0∨a/128=1:=by omega
 rcases this with h0 | h0
 ·rw [h0];simp;omega
 ·rw [h0]
  have e2:a%128+1*2^7=a%128 ||| 1*2^7:=(uZ 7 1 (by omega)).symm
  rw [e2,Nat.or_assoc,Nat.or_self, ←e2];omega
theorem Qe {a:Nat}(h:a<18446744073709551616):a ^^^ 18446744073709551615=18446744073709551615-a:=by
 have h1:(BitVec.ofNat 64 a ^^^ BitVec.allOnes 64).toNat=(~~~ (BitVec.ofNat 64 a)).toNat:=by rw [BitVec.xor_allOnes]
 simp only [BitVec.toNat_xor,BitVec.toNat_not,BitVec.toNat_ofNat,BitVec.toNat_allOnes]at h1
 have e:(2:Nat)^64=18446744073709551616:=by decide
 rw [e,Nat.mod_eq_of_lt h]at h1
 omega
def pat (n:Int):Nat:=(n%18446744073709551616).toNat
theorem zC (n:Int)(h : -9223372036854775808≤n∧n≤9223372036854775807):IntKind.i64.wrap ((pat n:Nat):Int)=n:=by
 have e:IntKind.i64.bits=64:=rfl
 have s:IntKind.i64.signed=true:=rfl
 unfold pat
 simp only [IntKind.wrap,e,s,Bool.true_and,decide_eq_true_eq]
 split<;>omega
theorem BN (n:Int):BitVec.ofInt 64 n=BitVec.ofNat 64 (pat n):=by
 apply BitVec.eq_of_toNat_eq
 simp only [BitVec.toNat_ofInt,BitVec.toNat_ofNat,pat]
 omega
theorem ZK (a:Int)(h : -9223372036854775808≤a∧a≤9223372036854775807):bg .xor .i64 a 0=a:=by
 show IntKind.i64.wrap ((BitVec.ofInt 64 a ^^^ BitVec.ofInt 64 0).toNat:Int)=a
 have:BitVec.ofInt 64 a ^^^ BitVec.ofInt 64 0=BitVec.ofInt 64 a:=by simp
 rw [this,BN,BitVec.toNat_ofNat,Nat.mod_eq_of_lt (by unfold pat;omega),zC a h]
theorem ZL (a:Int)(h : -9223372036854775808≤a∧a≤9223372036854775807):bg .xor .i64 a (-1) = -a-1:=by
 show IntKind.i64.wrap ((BitVec.ofInt 64 a ^^^ BitVec.ofInt 64 (-1)).toNat:Int) = -a-1
 have h1:BitVec.ofInt 64 (-1)=BitVec.allOnes 64:=by decide
 rw [h1,BitVec.xor_allOnes,BitVec.toNat_not,BN,BitVec.toNat_ofNat]
 have e2:2^64-1-pat a%2^64=pat (-a-1):=by unfold pat;omega
 rw [e2,zC _ (by omega)]
theorem Yc (i:Nat):2^(7*i)=128^i:=by rw [Nat.pow_mul]
theorem Qg {x i:Nat}(hi:i≤9)(hx:x<128)(h9:i=9→x≤1):IntKind.u64.wrap ((x:Int)*2^min (7*(i:Int)).toNat IntKind.u64.bits)=((x*128^i:Nat):Int)∧x*128^i<18446744073709551616:=by
 have e:IntKind.u64.bits=64:=rfl
 have e2:(7*(i:Int)).toNat=7*i:=by omega
 have e3:min (7*i) 64=7*i:=by omega
 have hb:x*128^i<18446744073709551616:=by
  rcases Nat.lt_or_ge i 9 with h | h
  ·have:128^i≤128^8:=Nat.pow_le_pow_right (by decide) (by omega)
   calc x*128^i<128*128^i:=Nat.mul_lt_mul_of_pos_right hx (Nat.pow_pos (by decide))
    _≤128*128^8:=Nat.mul_le_mul_left _ this
    _≤18446744073709551616:=by decide
  ·have:i=9:=by omega
   subst this
   have:=h9 rfl
   calc x*128^9≤1*128^9:=Nat.mul_le_mul_right _ this
    _<18446744073709551616:=by decide
 refine⟨?_,hb⟩
 rw [e,e2,e3]
 have e4:(x:Int)*2^(7*i)=((x*128^i:Nat):Int):=by rw [←Yc];simp
 rw [e4,kR hb]
theorem Yd {u x i:Nat}(hu:u<128^i)(hi:i≤9)(hx:x*128^i<18446744073709551616):bg .or .u64 (u:Int) ((x*128^i:Nat):Int)=((u+x*128^i:Nat):Int):=by
 have h1:128^i≤128^9:=Nat.pow_le_pow_right (by decide) hi
 have h2:(128:Nat)^9<18446744073709551616:=by decide
 rw [KA u _ (by omega) hx]
 rw [←Yc]at hu ⊢
 rw [uZ _ _ hu]
theorem xI {u:Nat}(h:u<18446744073709551616):bg .xor .i64 ((u/2:Nat):Int) (0 -((u%2:Nat):Int))=zz u:=by
 unfold zz
 have hr : -9223372036854775808≤((u/2:Nat):Int)∧((u/2:Nat):Int)≤9223372036854775807:=by omega
 by_cases h1:u%2=1
 ·rw [if_pos h1,h1];exact ZL _ hr
 ·have h0:u%2=0:=by omega
  rw [if_neg h1,h0];exact ZK _ hr
theorem VU (n:Int)(h:I64 n):bg .xor .u64 (IntKind.u64.wrap (IntKind.u64.wrap n*2)) (IntKind.u64.wrap (n.fdiv 9223372036854775808))=(zu n:Int):=by
 have e:IntKind.u64.bits=64:=rfl
 have s:IntKind.u64.signed=false:=rfl
 unfold I64 at h
 unfold zu
 by_cases hn:n<0
 ·rw [if_pos hn]
  have e1:IntKind.u64.wrap (IntKind.u64.wrap n*2)=((18446744073709551616 -(-2*n).toNat:Nat):Int):=by
   simp only [IntKind.wrap,e,s,Bool.false_and,Bool.false_eq_true,if_false];omega
  have e2:n.fdiv 9223372036854775808 = -1:=by rw [Int.fdiv_eq_ediv];simp;omega
  have e3:IntKind.u64.wrap (-1)=((18446744073709551615:Nat):Int):=by decide
  rw [e1,e2,e3,Gl _ _ (by omega) (by omega),Qe (by omega)]
  omega
 ·rw [if_neg hn]
  have e1:IntKind.u64.wrap (IntKind.u64.wrap n*2)=(((2*n).toNat:Nat):Int):=by
   simp only [IntKind.wrap,e,s,Bool.false_and,Bool.false_eq_true,if_false];omega
  have e2:n.fdiv 9223372036854775808=0:=by rw [Int.fdiv_eq_ediv];simp;omega
  have e3:IntKind.u64.wrap 0=((0:Nat):Int):=by decide
  rw [e1,e2,e3,Gl _ _ (by omega) (by omega),Nat.xor_zero]
theorem Qh {u:Nat} : bg .or .u8 (IntKind.u8.wrap (u:Int)) 128=((UInt8.ofNat (128+u%128)).toNat:Int):=by
 have e:IntKind.u8.wrap (u:Int)=((u%256:Nat):Int):=by
  have e:IntKind.u8.bits=8:=rfl
  have s:IntKind.u8.signed=false:=rfl
  simp only [IntKind.wrap,e,s,Bool.false_and,Bool.false_eq_true,if_false]
  omega
 have e2:(128:Int)=((128:Nat):Int):=rfl
 rw [e,e2,Jc _ _ (by omega) (by omega),abZ (by omega),toNat_ofNat (by omega)]
 congr 1
 omega
theorem Nq {u:Nat}(h:u<128):IntKind.u8.wrap (u:Int)=((UInt8.ofNat u).toNat:Int):=by
 rw [nX (by omega),toNat_ofNat (by omega)]
theorem adW (u:Nat):Int.fdiv (u:Int) 128=((u/128:Nat):Int):=by rw [Int.fdiv_eq_ediv_of_nonneg _ (by decide)];rfl
theorem adX (u:Nat):Int.fdiv (u:Int) 2=((u/2:Nat):Int):=by rw [Int.fdiv_eq_ediv_of_nonneg _ (by decide)];rfl
end
def Au (n:Int):Int:=Go.IntKind.i64.wrap n
def b1 (l:Li):By:=l.flatMap num
def rl:Li→List (Int×Nat)
 | []=> []
 | x::r=>match rl r with
  | []=> [(x,1)]
  | p::t=>if x=p.1 then(x,p.2+1)::t else(x,1)::p::t
def enP (p:Int×Nat):By:=num p.1++num p.2
def b2 (l:Li):By:=(rl l).flatMap enP
def st:Int→Li→By
 | _,[]=> []
 | p,x::r=>num (Au (x-p))++st x r
def b3 (l:Li):By:=st 0 l
def ins (d:Li)(x:Int):Li:=
 match d with
 | []=> [x]
 | y::r=>if y<x then y::ins r x else if y=x then y::r else x::y::r
def ds (l:Li):Li:=l.foldl ins []
def idx:Li→Int→Nat
 | [],_=>0
 | y::r,x=>if y=x then 0 else idx r x+1
def b4 (l:Li):By:=num (ds l).length++b1 (ds l)++l.flatMap fun x=>num (idx (ds l) x)
def wid:Nat→Nat→Nat
 | 0,_=>0
 | f+1,u=>if u=0 then 0 else wid f (u/2)+1
def dif (lo x:Int):Nat:=(x-lo).toNat
def qI (lo:Int)(w:Nat)(l:Li)(p:Nat):Bool:=(dif lo (l.getD (p/w) 0)).testBit (p%w)
def AZ (bit:Nat→Bool)(p j:Nat):Nat→Nat
 | 0=>0
 | t+1=>AZ bit p j t+(if 8*j+t<p∧bit (8*j+t)=true then 2^t else 0)
def pk (bit:Nat→Bool)(n p:Nat):By:=(List.range n).map fun j=>UInt8.ofNat (AZ bit p j 8)
def lo (l:Li):Int:=(ds l).headD 0
def hi (l:Li):Int:=(ds l).getLastD 0
def wd (l:Li):Nat:=wid 64 (dif (lo l) (hi l))
def tJ (n w:Nat):Nat:=(n*w+7)/8
def b5 (l:Li):By:=num (lo l)++num (wd l)++pk (qI (lo l) (wd l) l) (tJ l.length (wd l)) (l.length*wd l)
def bd:Nat→Li→By
 | 1,l=>b1 l
 | 2,l=>b2 l
 | 3,l=>b3 l
 | 4,l=>b4 l
 | _,l=>b5 l
def en (k:Nat)(l:Li):By:=num k++num l.length++bd k l
def sh (a b:By):By:=if b.length<a.length then b else a
def best (l:Li):Nat→By
 | 0=>en 1 l
 | k+1=>sh (best l k) (en (k+2) l)
def ints (l:Li):By:=if l = []then num 1++num 0 else best l 4
example:ints [7,7,7,7] = [4,8,14,8]:=by decide
example:ints [] = [2,0]:=by decide
theorem ab1 {x:Int}{r:Li} : ∃k t,rl (x::r)=(x,k+1)::t:=by
 simp only [rl]
 split
 ·exact⟨0,[],rfl⟩
 ·rename_i p t _
  split
  ·exact⟨p.2,t,rfl⟩
  ·exact⟨0,p::t,rfl⟩
theorem ZM (x:Int)(m:Nat)(r:Li)(h:r.head? ≠some x):rl (List.replicate (m+1) x++r)=(x,m+1)::rl r:=by
 induction m with
 | zero=>
  simp only [List.replicate,List.cons_append,List.nil_append,rl]
  cases r with
  | nil=>rfl
  | cons y r=>
   obtain⟨k,t,e⟩:=ab1 (x:=y) (r:=r)
   rw [e]
   have hne:x≠y:=fun e=>h (by rw [e];rfl)
   simp only [hne,if_false]
 | succ m ih=>
  rw [List.replicate_succ,List.cons_append]
  simp only [rl]
  rw [ih]
  simp
def SS (d:Li):Prop:=d.Pairwise (· < ·)
theorem KD (d:Li)(x y:Int):y∈ins d x↔y∈d∨y=x:=by
 induction d with
 | nil=>simp [ins]
 | cons z r ih=>
  unfold ins
  split
  ·simp only [List.mem_cons,ih,or_assoc]
  ·split
   ·rename_i e;subst e;simp only [List.mem_cons];constructor
    ·intro h;exact .inl h
    ·rintro(h | rfl)
     ·exact h
     ·exact .inl rfl
   ·simp only [List.mem_cons];constructor
    ·rintro(h | h | h)
     ·exact .inr h
     ·exact .inl (.inl h)
     ·exact .inl (.inr h)
    ·rintro((h | h) | h)
     ·exact .inr (.inl h)
     ·exact .inr (.inr h)
     ·exact .inl h
theorem ZN {d:Li}{x:Int}(h:SS d):SS (ins d x):=by
 induction d with
 | nil=>simp [ins,SS]
 | cons z r ih=>
  have h1:=List.pairwise_cons.1 h
  unfold ins
  split
  ·rename_i hz
   refine List.pairwise_cons.2 ⟨fun a ha=> ?_,ih h1.2⟩
   rcases(KD r x a).1 ha with h2 | h2
   ·exact h1.1 a h2
   ·omega
  ·split
   ·exact h
   ·refine List.pairwise_cons.2 ⟨fun a ha=> ?_,h⟩
    rcases List.mem_cons.1 ha with h2 | h2
    ·omega
    ·have:=h1.1 a h2;omega
theorem KE (l:Li) : ∀d,SS d→SS (l.foldl ins d)∧∀y,y∈l.foldl ins d↔y∈d∨y∈l:=by
 induction l with
 | nil=>intro d h;simp [h]
 | cons x r ih=>
  intro d h
  have:=ih (ins d x) (ZN h)
  refine⟨this.1,fun y=> ?_⟩
  rw [List.foldl_cons,this.2 y,KD,List.mem_cons,or_assoc]
theorem KF (l:Li):SS (ds l):=(KE l [] List.Pairwise.nil).1
theorem nH (l:Li)(y:Int):y∈ds l↔y∈l:=by rw [ds,(KE l [] List.Pairwise.nil).2 y];simp
theorem VW {a:Li} : ∀ {b:Li},SS a→SS b→(∀y,y∈a↔y∈b)→a=b:=by
 induction a with
 | nil=>intro b _ _ h;cases b with
  | nil=>rfl
  | cons y r=>exact absurd ((h y).2 List.mem_cons_self) (by simp)
 | cons x r ih=>
  intro b ha hb h
  have h1:=List.pairwise_cons.1 ha
  cases b with
  | nil=>exact absurd ((h x).1 List.mem_cons_self) (by simp)
  | cons y s=>
   have h2:=List.pairwise_cons.1 hb
   have e:x=y:=by
    have m1:=(h x).1 List.mem_cons_self
    have m2:=(h y).2 List.mem_cons_self
    rcases List.mem_cons.1 m1 with e | e
    ·exact e
    ·rcases List.mem_cons.1 m2 with e2 | e2
     ·exact e2.symm
     ·have:=h1.1 y e2;have:=h2.1 x e;omega
   subst e
   congr 1
   refine ih h1.2 h2.2 fun z=>⟨fun hz=> ?_,fun hz=> ?_⟩
   ·rcases List.mem_cons.1 ((h z).1 (List.mem_cons_of_mem _ hz))with e | e
    ·have:=h1.1 z hz;omega
    ·exact e
   ·rcases List.mem_cons.1 ((h z).2 (List.mem_cons_of_mem _ hz))with e | e
    ·have:=h2.1 z hz;omega
    ·exact e
theorem ab2 {l d:Li}(h1:SS d)(h2 : ∀y,y∈d↔y∈l):d=ds l:=VW h1 (KF l) fun y=>by rw [h2,nH]
theorem VX (d:Li)(x:Int):(ins d x).length≤d.length+1:=by
 induction d with
 | nil=>simp [ins]
 | cons y r ih=>
  unfold ins
  split
  ·simp only [List.length_cons];omega
  ·split<;>simp
theorem vg (l:Li):(ds l).length≤l.length:=by
 have : ∀(l d:Li),(l.foldl ins d).length≤d.length+l.length:=by
  intro l
  induction l with
  | nil=>intro d;simp
  | cons x r ih=>intro d;have h1:=ih (ins d x);have h2:=VX d x;simp only [List.foldl_cons,List.length_cons];omega
 have:=this l []
 simpa [ds]using this
theorem Jd {d:Li}{x:Int}(h:x∈d):idx d x<d.length∧d[idx d x]? = some x:=by
 induction d with
 | nil=>cases h
 | cons y r ih=>
  unfold idx
  by_cases e:y=x
  ·rw [if_pos e];simp [e]
  ·rw [if_neg e]
   have:=ih (by rcases List.mem_cons.1 h with h | h;exact absurd h.symm e;exact h)
   simp only [List.length_cons,List.getElem?_cons_succ]
   exact⟨by omega,this.2⟩
theorem lo_le {l:Li}{x:Int}(h:x∈l):lo l≤x∧lo l∈l:=by
 have hm:=(nH l x).2 h
 have hs:=KF l
 have hb:=fun y=>(nH l y)
 unfold lo
 cases hd:ds l with
 | nil=>rw [hd]at hm;cases hm
 | cons y r=>
  rw [hd]at hm hs
  have h1:=List.pairwise_cons.1 hs
  refine⟨?_,(hb y).1 (by rw [hd];exact List.mem_cons_self)⟩
  show y≤x
  rcases List.mem_cons.1 hm with e | e
  ·omega
  ·have:=h1.1 x e;omega
theorem VY {d:Li}(hs:SS d){x:Int}(h:x∈d):x≤d.getLastD 0∧d.getLastD 0∈d:=by
 induction d generalizing x with
 | nil=>cases h
 | cons y r ih=>
  have h1:=List.pairwise_cons.1 hs
  cases r with
  | nil=>simp at h ⊢;omega
  | cons z s=>
   have e:(y::z::s).getLastD 0=(z::s).getLastD 0:=by simp [List.getLastD]
   rw [e]
   have hz:=ih h1.2 (x:=z) List.mem_cons_self
   rcases List.mem_cons.1 h with h2 | h2
   ·have:=h1.1 z List.mem_cons_self
    exact⟨by omega,List.mem_cons_of_mem _ hz.2⟩
   ·have:=ih h1.2 h2
    exact⟨this.1,List.mem_cons_of_mem _ this.2⟩
theorem KG {l:Li}{x:Int}(h:x∈l):x≤hi l∧hi l∈l:=by
 have:=VY (KF l) ((nH l x).2 h)
 exact⟨this.1,(nH l _).1 this.2⟩
theorem gq : ∀(f u:Nat),u<2^f→u<2^wid f u∧wid f u≤f:=by
 intro f
 induction f with
 | zero=>intro u h;simp [wid]at h ⊢;omega
 | succ f ih=>
  intro u h
  unfold wid
  split
  ·simp [*]
  ·have:=ih (u/2) (by rw [Nat.pow_succ]at h;omega)
   refine⟨?_,by omega⟩
   rw [Nat.pow_succ]
   omega
theorem VZ : ∀(f u k:Nat),u<2^k→wid f u≤k:=by
 intro f
 induction f with
 | zero=>intro u k _;simp [wid]
 | succ f ih=>
  intro u k h
  unfold wid
  split
  ·omega
  ·cases k with
   | zero=>simp at h;omega
   | succ k=>have:=ih (u/2) k (by rw [Nat.pow_succ]at h;omega);omega
theorem Je (bit:Nat→Bool)(p j:Nat) : ∀t,AZ bit p j t<2^t:=by
 intro t
 induction t with
 | zero=>simp [AZ]
 | succ t ih=>unfold AZ;rw [Nat.pow_succ];split<;>omega
theorem KH (bit:Nat→Bool)(p j:Nat) : ∀t s,s<t→(AZ bit p j t).testBit s=(decide (8*j+s<p)&&bit (8*j+s)):=by
 intro t
 induction t with
 | zero=>intro s h;omega
 | succ t ih=>
  intro s hs
  unfold AZ
  have hl:=Je bit p j t
  have key : ∀c:Nat,c≤1→(AZ bit p j t+c*2^t).testBit s=if s<t then(AZ bit p j t).testBit s else decide (c=1):=by
   intro c hc
   rw [Nat.add_comm,Nat.mul_comm,Nat.testBit_two_pow_mul_add c hl]
   split
   ·rfl
   ·have:s-t=0:=by omega
    rw [this]
    have:c=0∨c=1:=by omega
    rcases this with rfl | rfl<;>rfl
  by_cases hb:8*j+t<p∧bit (8*j+t)=true
  ·rw [if_pos hb]
   have:=key 1 (Nat.le_refl _)
   rw [Nat.one_mul]at this
   rw [this]
   split
   ·exact ih s (by assumption)
   ·have e:s=t:=by omega
    subst e
    simp [hb.1,hb.2]
  ·rw [if_neg hb]
   have:=key 0 (Nat.zero_le _)
   rw [Nat.zero_mul]at this
   rw [this]
   split
   ·exact ih s (by assumption)
   ·have e:s=t:=by omega
    subst e
    by_cases h1:8*j+s<p
    ·have:bit (8*j+s)=false:=by
      cases hbb:bit (8*j+s)with
      | false=>rfl
      | true=>exact absurd ⟨h1,hbb⟩ hb
     simp [this]
    ·simp [h1]
theorem Qi (bit:Nat→Bool)(p j:Nat) : ∀t,AZ bit (p+1) j t=AZ bit p j t+(if 8*j≤p∧p<8*j+t∧bit p=true then 2^(p-8*j)else 0):=by
 intro t
 induction t with
 | zero=>simp only [AZ];rw [if_neg (by omega)]
 | succ t ih=>
  unfold AZ
  rw [ih]
  by_cases hp:p=8*j+t
  ·subst hp
   have e:8*j+t-8*j=t:=by omega
   rw [e,if_neg (show ¬(8*j≤8*j+t∧8*j+t<8*j+t∧bit (8*j+t)=true) by omega),if_neg (show ¬(8*j+t<8*j+t∧bit (8*j+t)=true) by omega)]
   by_cases hb:bit (8*j+t)=true
   ·rw [if_pos ⟨by omega,hb⟩,if_pos ⟨by omega,by omega,hb⟩]
   ·rw [if_neg (by simp [hb]),if_neg (by simp [hb])]
  ·have e1:(8*j+t<p+1∧bit (8*j+t)=true)↔(8*j+t<p∧bit (8*j+t)=true):=by
    constructor<;>rintro⟨a,b⟩<;>exact⟨by omega,b⟩
   have e2:(8*j≤p∧p<8*j+(t+1)∧bit p=true)↔(8*j≤p∧p<8*j+t∧bit p=true):=by
    constructor<;>rintro⟨a,b,c⟩<;>exact⟨by omega,by omega,c⟩
   simp only [e1,e2]
   omega
theorem Qj (bit:Nat→Bool)(j:Nat) : ∀t,AZ bit 0 j t=0:=by
 intro t
 induction t with
 | zero=>rfl
 | succ t ih=>unfold AZ;rw [ih,if_neg (by omega)]
theorem pk_len (bit:Nat→Bool)(n p:Nat):(pk bit n p).length=n:=by simp [pk]
theorem V3 (bit:Nat→Bool)(n:Nat):pk bit n 0=List.replicate n 0:=by
 apply List.ext_getElem
 ·simp [pk]
 ·intro i h1 h2;simp [pk,Qj]
theorem V4 (bit:Nat→Bool)(n p:Nat):pk bit n (p+1)=(pk bit n p).set (p/8) (UInt8.ofNat (AZ bit p (p/8) 8+(if bit p=true then 2^(p%8)else 0))):=by
 apply List.ext_getElem
 ·simp [pk]
 ·intro i h1 h2
  rw [List.getElem_set]
  simp only [pk,List.getElem_map,List.getElem_range]
  rw [Qi]
  by_cases e:p/8=i
  ·rw [if_pos e]
   subst e
   have e1:p-8*(p/8)=p%8:=by omega
   rw [e1]
   by_cases hb:bit p=true
   ·rw [if_pos ⟨by omega,by omega,hb⟩,if_pos hb]
   ·rw [if_neg (by simp [hb]),if_neg hb]
  ·rw [if_neg e,if_neg (by omega)];rfl
theorem Qk (n:Nat):zu (n:Int)=2*n:=by unfold zu;rw [if_neg (by omega)];omega
theorem V5 {n:Int}(h:zu n<128):(num n).length=1:=by unfold num grp;rw [if_pos h];rfl
theorem V6 {n:Int}(h:zu n<16384):(num n).length≤2:=by
 unfold num grp
 split
 ·simp
 ·unfold grp;rw [if_pos (by omega)];simp
theorem zD {α:Type}(f:α→By)(c:Nat) : ∀l:List α,(∀x∈l,(f x).length≤c)→(l.flatMap f).length≤c*l.length:=by
 intro l
 induction l with
 | nil=>intro _;simp
 | cons x r ih=>
  intro h
  have h1:=h x List.mem_cons_self
  have h2:=ih fun y hy=>h y (List.mem_cons_of_mem _ hy)
  rw [List.flatMap_cons,List.length_append,List.length_cons,Nat.mul_succ]
  omega
theorem zF (l:Li):(b1 l).length≤10*l.length:=zD num 10 l fun x _=>(bn x).2
theorem ZO (l:Li):(rl l).length≤l.length:=by
 induction l with
 | nil=>simp [rl]
 | cons x r ih=>
  simp only [rl]
  split
  ·simp
  ·rename_i p t e
   rw [e]at ih
   simp only [List.length_cons]at ih
   split<;>simp only [List.length_cons]<;>omega
theorem V7 (p:Int×Nat):(enP p).length≤20:=by
 have h1:=bn p.1;have h2:=bn p.2
 unfold enP;rw [List.length_append];omega
theorem Ql (l:Li):(b2 l).length≤20*l.length:=by
 have h1:=zD enP 20 (rl l) fun x _=>V7 x
 have h2:=ZO l
 unfold b2;omega
theorem st_len (l:Li) : ∀p,(st p l).length≤10*l.length:=by
 induction l with
 | nil=>intro p;simp [st]
 | cons x r ih=>intro p;have h1:=ih x;have h2:=bn (Au (x-p));simp only [st,List.length_append,List.length_cons];omega
theorem ZP (l:Li):(b4 l).length≤10+20*l.length:=by
 have h1:=bn (ds l).length
 have h2:=zF (ds l)
 have h3:=vg l
 have h4:=zD (fun x=>num (idx (ds l) x)) 10 l fun x _=>(bn _).2
 unfold b4
 simp only [List.length_append]
 omega
theorem KJ (l:Li)(h:bZ l):wd l≤64:=by
 unfold wd
 cases l with
 | nil=>decide
 | cons x r=>
  have h1:=lo_le (l:=x::r) (x:=x) List.mem_cons_self
  have h2:=KG (l:=x::r) (x:=x) List.mem_cons_self
  have h3:=h _ h1.2
  have h4:=h _ h2.2
  unfold I64 at h3 h4
  exact(gq 64 _ (by unfold dif;omega)).2
theorem ZQ (n w:Nat)(h:w≤64):tJ n w≤8*n+1:=by
 unfold tJ
 have:=Nat.mul_le_mul_left n h
 omega
theorem ZR (l:Li)(h:bZ l):(b5 l).length≤21+8*l.length:=by
 have h1:=bn (lo l)
 have h2:=bn (wd l)
 have h3:=ZQ l.length (wd l) (KJ l h)
 unfold b5
 simp only [List.length_append,pk_len]
 omega
theorem ZT (k:Nat)(l:Li)(h:bZ l):(bd k l).length≤21+20*l.length:=by
 have h1:=zF l;have h2:=Ql l;have h3:=st_len l 0;have h4:=ZP l;have h5:=ZR l h
 unfold bd
 split
 ·omega
 ·omega
 ·unfold b3;omega
 ·omega
 ·omega
theorem ZU (k:Nat)(l:Li)(h:bZ l):(en k l).length≤41+20*l.length:=by
 have h1:=ZT k l h;have h2:=bn k;have h3:=bn l.length
 unfold en;simp only [List.length_append];omega
theorem ZV (k:Nat)(l:Li):0<(en k l).length:=by
 have h2:=bn k
 unfold en;simp only [List.length_append];omega
theorem ab3 (a b:By):(sh a b).length≤a.length∧(sh a b).length≤b.length:=by unfold sh;split<;>omega
theorem ab4 (a b:By):sh a b=a∨sh a b=b:=by unfold sh;split;exact .inr rfl;exact .inl rfl
theorem V8 (l:Li) : ∀k j,j≤k→(best l k).length≤(en (j+1) l).length:=by
 intro k
 induction k with
 | zero=>
  intro j h
  have:j=0:=by omega
  subst this;exact Nat.le_refl _
 | succ k ih=>
  intro j h
  have h1:=ab3 (best l k) (en (k+2) l)
  show (sh _ _).length≤_
  by_cases e:j=k+1
  ·subst e;exact h1.2
  ·exact Nat.le_trans h1.1 (ih j (by omega))
theorem KL (l:Li) : ∀k, ∃j,j≤k∧best l k=en (j+1) l:=by
 intro k
 induction k with
 | zero=>exact⟨0,Nat.le_refl _,rfl⟩
 | succ k ih=>
  obtain⟨j,h1,h2⟩:=ih
  rcases ab4 (best l k) (en (k+2) l)with e | e
  ·exact⟨j,by omega,by rw [←h2];exact e⟩
  ·exact⟨k+1,Nat.le_refl _,e⟩
theorem V9 {l:Li}(h:l≠ []){k:Nat}(h1:1≤k)(h2:k≤5):(ints l).length≤(en k l).length:=by
 unfold ints
 rw [if_neg h]
 obtain⟨j,rfl⟩ : ∃j,k=j+1:=⟨k-1,by omega⟩
 exact V8 l 4 j (by omega)
theorem Wh {l:Li}(h:l≠ []) : ∃k:Nat,1≤k∧k≤5∧ints l=en k l:=by
 unfold ints
 rw [if_neg h]
 obtain⟨j,h1,h2⟩:=KL l 4
 exact⟨j+1,by omega,by omega,h2⟩
theorem Qm (l:Li)(h:l.length≤512):(ints l).length≤10*l.length+4:=by
 by_cases e:l = []
 ·subst e;decide
 ·refine Nat.le_trans (V9 e (k:=1) (by omega) (by omega)) ?_
  have h1:=zF l
  have h2:(num (1:Nat)).length=1:=V5 (by rw [Qk];omega)
  have h3:(num l.length).length≤2:=V6 (by rw [Qk];omega)
  show (num (1:Nat)++num l.length++b1 l).length≤_
  simp only [List.length_append]
  omega
theorem bV (l:Li)(h:l.length≤512):(ints l).length≤5124:=by have:=Qm l h;omega
theorem zG (n:Int):Au n=(n+9223372036854775808)%18446744073709551616-9223372036854775808:=by
 have e:Go.IntKind.i64.bits=64:=rfl
 have s:Go.IntKind.i64.signed=true:=rfl
 simp only [Au,Go.IntKind.wrap,e,s,Bool.true_and,decide_eq_true_eq]
 split<;>omega
theorem KN (n:Int):I64 (Au n):=by rw [zG];unfold I64;omega
theorem Qn {n:Int}(h:I64 n):Au n=n:=by rw [zG];unfold I64 at h;omega
def Pr (b:By)(n:Nat)(body:Li→By)(Q:Li→By→Prop):Prop:= ∀l0 r,bZ l0→l0.length=n→b=body l0++r→Q l0 r
theorem Pr.mono {b:By}{n:Nat}{body:Li→By}{Q Q':Li→By→Prop}(h:Pr b n body Q)(k : ∀l0 r,bZ l0→l0.length=n→Q l0 r→Q' l0 r):Pr b n body Q':=
 fun l0 r h1 h2 h3=>k l0 r h1 h2 (h l0 r h1 h2 h3)
theorem Pr.start (b:By)(n:Nat)(body:Li→By):Pr b n body fun l0 r=>b=body l0++r:=fun _ _ _ _ h=>h
def Jf (body:Li→By)(b:By)(n:Nat)(l:Li)(ok:Bool):Prop:=bZ l∧l.length≤n∧Pr b n body fun l0 _=>ok=true∧l=l0
theorem Jg {y:Int}{z b:By}{e:Int}(hy:I64 y)(he:e=0)(h:b=num y++z):(bP b e).1=y∧(bP b e).2.2=0∧b.drop (bP b e).2.1=z:=by
 subst he;subst h
 rw [iU hy]
 exact⟨rfl,rfl,List.drop_left⟩
theorem bZ.at {l:Li}{i:Nat}{x:Int}(h:bZ l)(e:l[i]? = some x):I64 x:=h x (List.mem_of_getElem? e)
theorem bZ.snoc {l:Li}{x:Int}(h:bZ l)(hx:I64 x):bZ (l++ [x]):=fun y hy=>by
 rcases List.mem_append.1 hy with e | e
 ·exact h y e
 ·rw [List.mem_singleton.1 e];exact hx
theorem bZ.app {l m:Li}(h:bZ l)(hm:bZ m):bZ (l++m):=fun y hy=>(List.mem_append.1 hy).elim (h y) (hm y)
theorem bZ.nil:bZ []:=fun _ h=>absurd h (by simp)
theorem bZ.rep {x:Int}(hx:I64 x)(k:Nat):bZ (List.replicate k x):=fun y hy=>by rw [List.eq_of_mem_replicate hy];exact hx
def Q1 (b':By)(out:Li)(e:Int)(l0:Li)(r:By):Prop:=e=0∧∃rest,l0=out++rest∧b'=b1 rest++r
theorem Q1.start {b:By}{l0:Li}{r:By}(h:b=b1 l0++r):Q1 b [] 0 l0 r:=⟨rfl,l0,rfl,h⟩
theorem Q1.step {b':By}{out:Li}{e:Int}{l0:Li}{r:By}(ha:bZ l0)(hlt:out.length<l0.length)(h:Q1 b' out e l0 r) :
  Q1 (b'.drop (bP b' e).2.1) (out++ [(bP b' e).1]) (bP b' e).2.2 l0 r:=by
 obtain⟨he,rest,h1,h2⟩:=h
 cases rest with
 | nil=>rw [h1]at hlt;simp at hlt
 | cons y rest=>
  have hy:I64 y:=ha y (by rw [h1];simp)
  have:=Jg (b:=b') (z:=b1 rest++r) hy he (by rw [h2];simp [b1])
  rw [this.1,this.2.1,this.2.2]
  exact⟨rfl,rest,by rw [h1];simp,rfl⟩
theorem Q1.fin {b':By}{out:Li}{e:Int}{l0:Li}{r:By}(hlen:e=0→out.length=l0.length)(h:Q1 b' out e l0 r):e=0∧out=l0∧b'=r:=by
 obtain⟨he,rest,h1,h2⟩:=h
 have:=hlen he
 have hr:rest = []:=by
  rw [h1,List.length_append]at this
  exact List.eq_nil_of_length_eq_zero (by omega)
 subst hr
 exact⟨he,by rw [h1];simp,by rw [h2];simp [b1]⟩
def dl:Int→Li→Li
 | _,[]=> []
 | p,x::r=>Au (x-p)::dl x r
theorem ab5 (l:Li) : ∀p,st p l=b1 (dl p l):=by
 induction l with
 | nil=>intro p;rfl
 | cons x r ih=>intro p;simp only [st,dl,b1,List.flatMap_cons];rw [ih x];rfl
theorem ZW (l:Li) : ∀p,(dl p l).length=l.length:=by
 induction l with
 | nil=>intro p;rfl
 | cons x r ih=>intro p;simp [dl,ih]
theorem ZX (l:Li) : ∀p,bZ (dl p l):=by
 induction l with
 | nil=>intro p;exact bZ.nil
 | cons x r ih=>
  intro p y hy
  rcases List.mem_cons.1 hy with e | e
  ·rw [e];exact KN _
  ·exact ih x y e
def sm:Int→Li→Li
 | _,[]=> []
 | p,y::r=>Au (p+y)::sm (Au (p+y)) r
theorem Qo {p x:Int}(h:I64 x):Au (p+Au (x-p))=x:=by simp only [zG];unfold I64 at h;omega
theorem ab6 (l:Li) : ∀p,bZ l→sm p (dl p l)=l:=by
 induction l with
 | nil=>intro p _;rfl
 | cons x r ih=>
  intro p h
  have hx:I64 x:=h x List.mem_cons_self
  simp only [dl,sm,Qo hx]
  rw [ih x fun y hy=>h y (List.mem_cons_of_mem _ hy)]
theorem oL (d:Li) : ∀p,(sm p d).length=d.length:=by
 induction d with
 | nil=>intro p;rfl
 | cons x r ih=>intro p;simp [sm,ih]
theorem ZY (d:Li) : ∀p,bZ (sm p d):=by
 induction d with
 | nil=>intro p;exact bZ.nil
 | cons x r ih=>
  intro p y hy
  rcases List.mem_cons.1 hy with e | e
  ·rw [e];exact KN _
  ·exact ih _ y e
theorem sm_at (d:Li) : ∀(p:Int) (i:Nat),i+1<d.length→(sm p d)[i+1]? = some (Au ((sm p d).getD i 0+d.getD (i+1) 0)):=by
 induction d with
 | nil=>intro p i h;simp at h
 | cons x r ih=>
  intro p i h
  cases i with
  | zero=>
   cases r with
   | nil=>simp at h
   | cons y r=>simp [sm]
  | succ i=>
   have:=ih (Au (p+x)) i (by simp at h ⊢;omega)
   simp only [sm,List.getElem?_cons_succ]
   rw [this]
   simp
theorem Qp (l:Li)(h:l≠ []) : ∃y m t,l=List.replicate (m+1) y++t∧rl l=(y,m+1)::rl t:=by
 induction l with
 | nil=>exact absurd rfl h
 | cons x r ih=>
  by_cases hr:r = []
  ·subst hr;exact⟨x,0,[],rfl,rfl⟩
  ·obtain⟨y,m,t,h1,h2⟩:=ih hr
   by_cases e:x=y
   ·subst e
    refine⟨x,m+1,t, ?_, ?_⟩
    ·rw [h1,List.replicate_succ (n:=m+1)];rfl
    ·simp only [rl,h2];simp
   ·refine⟨x,0,r,rfl, ?_⟩
    simp only [rl,h2]
    rw [if_neg e]
def Q2 (b':By)(out:Li)(e:Int)(l0:Li)(r:By):Prop:=e=0∧∃rest,l0=out++rest∧b'=b2 rest++r
theorem Q2.start {b:By}{l0:Li}{r:By}(h:b=b2 l0++r):Q2 b [] 0 l0 r:=⟨rfl,l0,rfl,h⟩
theorem Q2.step {b':By}{out:Li}{e:Int}{l0:Li}{r:By}(ha:bZ l0)(hl:l0.length≤9223372036854775807)(hlt:out.length<l0.length)(h:Q2 b' out e l0 r) :
  ∃m:Nat,(bP (b'.drop (bP b' e).2.1) (bP b' e).2.2).2.2=0∧(bP (b'.drop (bP b' e).2.1) (bP b' e).2.2).1=((m+1:Nat):Int)∧m+1+out.length≤l0.length∧
   Q2 ((b'.drop (bP b' e).2.1).drop (bP (b'.drop (bP b' e).2.1) (bP b' e).2.2).2.1) (out++List.replicate (m+1) (bP b' e).1) 0 l0 r:=by
 obtain⟨he,rest,h1,h2⟩:=h
 have hne:rest≠ []:=by rintro rfl;rw [h1]at hlt;simp at hlt
 obtain⟨y,m,t,h3,h4⟩:=Qp rest hne
 have hy:I64 y:=ha y (by rw [h1,h3];simp)
 have hlen:m+1+out.length≤l0.length:=by rw [h1,h3];simp;omega
 have r1:=Jg (b:=b') (z:=num ((m+1:Nat):Int)++(b2 t++r)) hy he (by rw [h2,b2,h4];simp [enP,b2])
 rw [r1.1,r1.2.1,r1.2.2]
 have r2:=Jg (e:=0) (bU (by omega:m+1≤9223372036854775807)) rfl (rfl:num ((m+1:Nat):Int)++(b2 t++r)=_)
 refine⟨m,r2.2.1,r2.1,hlen, ?_⟩
 rw [r2.2.2]
 exact⟨rfl,t,by rw [h1,h3];simp,rfl⟩
theorem Q2.fin {b':By}{out:Li}{e:Int}{l0:Li}{r:By}(hlen:out.length=l0.length)(h:Q2 b' out e l0 r):out=l0∧b'=r:=by
 obtain⟨_,rest,h1,h2⟩:=h
 have hr:rest = []:=by
  rw [h1,List.length_append]at hlen
  exact List.eq_nil_of_length_eq_zero (by omega)
 subst hr
 exact⟨by rw [h1];simp,by rw [h2];simp [b2,rl]⟩
def ixs (d l:Li):By:=l.flatMap fun x=>num (idx d x)
def Q4k (k:Int)(b':By)(keys:Li)(e:Int)(l0:Li)(r:By):Prop:=k=(ds l0).length∧Q1 b' keys e (ds l0) (ixs (ds l0) l0++r)
theorem Q4k.start {b:By}{n:Nat}(hn:n≤512){most em:Int}(hm:(n:Int)≤most):Pr b n b4 fun l0 r=>(iD b 0 most em).2.2=0∧Q4k (iD b 0 most em).1 (b.drop (iD b 0 most em).2.1) [] (iD b 0 most em).2.2 l0 r:=fun l0 r _ hl h=>by
 have hd:=vg l0
 have r1:=Jg (b:=b) (z:=b1 (ds l0)++(ixs (ds l0) l0++r)) (e:=0) (bU (by omega:(ds l0).length≤9223372036854775807)) rfl (by rw [h];simp [b4,ixs])
 have e1:(iD b 0 most em).2.2=0:=by
  simp only [iD]
  rw [r1.1,r1.2.1,if_pos rfl,if_neg (by omega),if_neg (by omega)]
 have e2:(iD b 0 most em).1=(ds l0).length:=by
  have:(iD b 0 most em).1=if(iD b 0 most em).2.2=0 then(bP b 0).1 else 0:=rfl
  rw [this,if_pos e1,r1.1]
 have e3:(iD b 0 most em).2.1=(bP b 0).2.1:=rfl
 refine⟨e1, ?_⟩
 rw [e2,e1,e3,r1.2.2]
 exact⟨rfl,Q1.start rfl⟩
def Q4 (keys:Li)(b':By)(out:Li)(e:Int)(l0:Li)(r:By):Prop:=keys=ds l0∧e=0∧∃rest,l0=out++rest∧b'=ixs (ds l0) rest++r
theorem Q4.start {k:Int}{b':By}{keys:Li}{e:Int}{l0:Li}{r:By}(hlen:e=0→(keys.length:Int)=k)(h:Q4k k b' keys e l0 r):Q4 keys b' [] e l0 r:=by
 obtain⟨h1,h2⟩:=h
 have:=h2.fin fun he=>by have:=hlen he;omega
 exact⟨this.2.1,this.1,l0,rfl,this.2.2⟩
theorem Q4.step {keys:Li}{b':By}{out:Li}{e:Int}{l0:Li}{r:By}(hl:l0.length≤512)(hlt:out.length<l0.length)(h:Q4 keys b' out e l0 r) :
  ∃(i:Nat) (x:Int),(bP b' e).2.2=0∧(bP b' e).1=(i:Int)∧keys[i]? = some x∧Q4 keys (b'.drop (bP b' e).2.1) (out++ [x]) 0 l0 r:=by
 obtain⟨hk,he,rest,h1,h2⟩:=h
 cases rest with
 | nil=>rw [h1]at hlt;simp at hlt
 | cons y rest=>
  have hm:y∈ds l0:=(nH l0 y).2 (by rw [h1];simp)
  have hi:=Jd hm
  have hd:=vg l0
  have r1:=Jg (b:=b') (z:=ixs (ds l0) rest++r) (bU (by omega:idx (ds l0) y≤9223372036854775807)) he (by rw [h2];simp [ixs])
  refine⟨idx (ds l0) y,y,r1.2.1,r1.1,by rw [hk];exact hi.2,hk,rfl,rest,by rw [h1];simp,r1.2.2⟩
theorem Q4.fin {keys:Li}{b':By}{out:Li}{e:Int}{l0:Li}{r:By}(hlen:out.length=l0.length)(h:Q4 keys b' out e l0 r):out=l0∧b'=r:=by
 obtain⟨_,_,rest,h1,h2⟩:=h
 have hr:rest = []:=by
  rw [h1,List.length_append]at hlen
  exact List.eq_nil_of_length_eq_zero (by omega)
 subst hr
 exact⟨by rw [h1];simp,by rw [h2];simp [ixs]⟩
def Q5 (least:Int)(w:Nat)(b':By)(l0:Li)(r:By):Prop:=least=lo l0∧w=wd l0∧b'=pk (qI (lo l0) (wd l0) l0) (tJ l0.length (wd l0)) (l0.length*wd l0)++r
theorem Z4 {l:Li}(h:bZ l){x:Int}(hx:x∈l):dif (lo l) x<2^wd l:=by
 have h1:=lo_le hx
 have h2:=KG hx
 have h3:=h _ h1.2
 have h4:=h _ h2.2
 unfold I64 at h3 h4
 have h5:=(gq 64 (dif (lo l) (hi l)) (by unfold dif;omega)).1
 refine Nat.lt_of_le_of_lt ?_ h5
 unfold dif;omega
theorem Q5.bit {least:Int}{w:Nat}{b':By}{l0:Li}{r:By}(h:Q5 least w b' l0 r){i k:Nat}(hi:i<l0.length)(hk:k<w) :
  ∃c,b'[(i*w+k)/8]? = some c∧c.toNat.testBit ((i*w+k)%8)=(dif least (l0.getD i 0)).testBit k:=by
 obtain⟨h1,h2,h3⟩:=h
 subst h2
 have hw:0<wd l0:=by omega
 have hat:i*wd l0+k<l0.length*wd l0:=by
  have:=Nat.mul_le_mul_right (wd l0) (show i+1≤l0.length from hi)
  rw [Nat.add_mul,Nat.one_mul]at this;omega
 have h8:(i*wd l0+k)/8<tJ l0.length (wd l0):=by unfold tJ;omega
 refine⟨UInt8.ofNat (AZ (qI (lo l0) (wd l0) l0) (l0.length*wd l0) ((i*wd l0+k)/8) 8),by rw [h3,List.getElem?_append_left (by rw [pk_len];exact h8)];simp only [pk,List.getElem?_map,List.getElem?_range h8,Option.map_some], ?_⟩
 have hlt:=Je (qI (lo l0) (wd l0) l0) (l0.length*wd l0) ((i*wd l0+k)/8) 8
 rw [toNat_ofNat (by omega),KH _ _ _ _ _ (by omega)]
 have e:8*((i*wd l0+k)/8)+(i*wd l0+k)%8=i*wd l0+k:=by omega
 rw [e,decide_eq_true hat,Bool.true_and,h1]
 unfold qI
 have e1:(i*wd l0+k)/wd l0=i:=by rw [Nat.mul_comm,Nat.mul_add_div hw,Nat.div_eq_of_lt hk,Nat.add_zero]
 have e2:(i*wd l0+k)%wd l0=k:=by rw [Nat.mul_comm,Nat.mul_add_mod,Nat.mod_eq_of_lt hk]
 rw [e1,e2]
theorem Jh (c s:Nat):c/2^s%2=if c.testBit s=true then 1 else 0:=by
 rw [Nat.testBit_eq_decide_div_mod_eq]
 by_cases h:c/2^s%2=1
 ·simp [h]
 ·have:c/2^s%2=0:=by omega
  simp [this]
theorem Wi (x k:Nat):x%2^(k+1)=x%2^k+(if x.testBit k=true then 1 else 0)*2^k:=by
 rw [Nat.pow_succ,Nat.mod_mul,Jh,Nat.mul_comm (2^k)]
theorem Q5.val {least:Int}{w:Nat}{b':By}{l0:Li}{r:By}(h:Q5 least w b' l0 r)(ha:bZ l0){i:Nat}{x:Int}(hx:l0[i]? = some x):Au (least+(dif least (l0.getD i 0)%2^w:Nat))=x:=by
 obtain⟨h1,h2,_⟩:=h
 have hm:=List.mem_of_getElem? hx
 have e:l0.getD i 0=x:=by rw [List.getD_eq_getElem?_getD,hx];rfl
 have h3:=Z4 ha hm
 have h4:=lo_le hm
 rw [e,h1,h2,Nat.mod_eq_of_lt h3]
 have:lo l0+(dif (lo l0) x:Nat)=x:=by unfold dif;omega
 rw [this]
 exact Qn (ha x hm)
theorem Q5.size {least:Int}{w:Nat}{b':By}{l0:Li}{r:By}(h:Q5 least w b' l0 r):tJ l0.length w≤b'.length:=by
 obtain⟨_,h2,h3⟩:=h
 rw [h3,h2,List.length_append,pk_len];omega
attribute [local irreducible] loadVar storeVar Instr.indexAt Instr.index Instr.sliceAt Instr.makeSlice Instr.lookup Instr.mapUpdate Instr.range Instr.next Instr.entry Instr.makeMap Builtin.append_ Builtin.copy_ Builtin.len_ Builtin.min_ Builtin.max_ Builtin.cap_ Builtin.delete_ Builtin.clear_ convert binOp eqGuard Op.unary Calls
section
open Go Go.RowKit Go.Proofs Go.Proofs.YtocckceefcmeaaaGreatDoor.Vc Go.Proofs.YtocckceefcmeaaaGreatDoor.Ax
def A8 (b:By):List FV:= [.lst 1 (b.map dO)]
abbrev ss (l:List By):AV:= .lst 1 (l.map A8)
theorem BO {F:Nat→Prop}{w:World}{b:By}{v:Value}(h:dN F w (.lst 1 (b.map dO)) v)(hF : ∀b,F b→b<w.heap.size) :
  ∃oa c,v = .slice oa b.length c∧b.length≤c∧(oa=none→c=0)∧Row w oa (cZ b):=by
 obtain⟨oa,m,c,news,rfl,hm,hc,hn,hr,h1,h2,h3,h4⟩:=rC h hF
 rw [List.length_map]at hm h2
 subst hm
 refine⟨oa,c,rfl,hc,hn, ?_⟩
 have e:news=cZ b:=by
  refine List.ext_getElem? fun i=> ?_
  by_cases hi:i<b.length
  ·have hl:i<news.length:=by omega
   have hx:=h4 i 0 (dO b[i]) _ news[i] (by rw [List.getElem?_map,List.getElem?_eq_getElem hi];rfl) rfl (by rw [Nat.mul_one,Nat.add_zero];exact List.getElem?_eq_getElem hl)
   rw [List.getElem?_eq_getElem hl]
   generalize news[i]=x at hx
   cases hx
   simp [cZ,hi]
  ·rw [List.getElem?_eq_none (by omega),List.getElem?_eq_none (by simp [cZ];omega)]
 rw [←e];exact hr
theorem Wj {F:Nat→Prop}{w:World}{ls:List By}{v:Value}(h:dN F w (.lst 1 (ls.map A8)) v)(hF : ∀b,F b→b<w.heap.size) :
  ∃oa c vs,v = .slice oa ls.length c∧Row w oa vs∧Dg.Zr w vs ls:=by
 obtain⟨oa,m,c,news,rfl,hm,hc,hn,hr,h1,h2,h3,h4⟩:=rC h hF
 rw [List.length_map]at hm h2
 subst hm
 refine⟨oa,c,news,rfl,hr,by omega,fun i hi=> ?_⟩
 have hl:i<news.length:=by omega
 have hx:=h4 i 0 (A8 ls[i]) _ news[i] (by rw [List.getElem?_map,List.getElem?_eq_getElem hi];rfl) rfl (by rw [Nat.mul_one,Nat.add_zero];exact List.getElem?_eq_getElem hl)
 obtain⟨gG,c',e,q1,q2,q3⟩:=BO hx hF
 exact⟨gG,c',by rw [List.getElem?_eq_getElem hl,e],q1,q2,q3⟩
def hsh (d:Int)(ls:List By):Int:=Dg.DR d 0 (Dg.frame ls)
theorem Qq {P:Program}{G:Glob}{f:FuncId}{d:Int}{ls:List By}(h : ∀(oa:Option Addr) (c:Nat) (vs:List Value) (w:World),Row w oa vs→Dg.Zr w vs ls→vS P f #[.int .u64 d, .slice oa ls.length c] w fun v w'=>v = .int .u64 (Dg.DR d 0 (Dg.frame ls))∧Below w.heap.size w w') :
  bC P G f [.v (.int .u64 d),ss ls] 0 [] (Is (.v (.int .u64 (hsh d ls)))):=by
 intro w σ F vs st r
 match vs,r with
 | [x,y],⟨rx,ry,_⟩=>
  rw [rx.dA]
  cases ry with
  | lst hy=>
   obtain⟨oa,c,us,rfl,hr,hf⟩:=Wj hy fun b hb=>(st.dG b hb).1
   refine(h oa c us w hr hf).mono fun v w' ⟨e,hB⟩=> ?_
   subst e
   have hE:Ext 0 σ F w 0 σ F w':=⟨Nat.le_refl _,fun _ _=>rfl,fun b hb=>⟨hb,hB.block b (st.dG b hb).1⟩,hB.size⟩
   exact⟨_,0,σ,F,[],⟨rfl,rfl,rfl⟩,⟨Glob.fJ st.glob hB.size fun b hb=>hB.block b (Nat.lt_of_lt_of_le hb st.glob.1),(pV.ji hB).mono fun _ _ h=>h.elim,fun b hb=>⟨Nat.lt_of_lt_of_le (st.dG b hb).1 hB.size, .inl hb⟩,
    (fun aP b h=>by cases h),(fun aP b g h=>by cases h),(fun aP pW b b' g h=>by cases h),(fun aP b h=>by cases h)⟩,hE, .v _⟩
theorem ab7 (G:Glob)(d:Int)(ls:List By)(h1:ls.length≤1000)(h2:(Dg.frame ls).length≤140737488355328):bC Tryz.prog G 69 [.v (.int .u64 d),ss ls] 0 [] (Is (.v (.int .u64 (hsh d ls)))):=
 Qq fun oa c vs w hr hf=>Dg.Vl d oa c vs ls w (by omega) h2 hr hf
end
section
open Go Go.RowKit Go.Proofs Go.Proofs.YtocckceefcmeaaaGreatDoor.Vc Go.Proofs.YtocckceefcmeaaaGreatDoor.Ax
abbrev bt (n:Nat):UInt8:=UInt8.ofNat n
def be (k n:Nat):By:=(List.range k).map fun j=>bt (n/2^(8*(k-1-j)))
theorem kS (k n:Nat):(be k n).length=k:=by simp [be]
theorem Wn (k n:Nat):be (k+1) n=be k (n/256)++ [bt n]:=by
 unfold be
 rw [List.range_succ,List.map_append]
 congr 1
 ·refine List.map_congr_left fun j hj=> ?_
  have hj:=List.mem_range.1 hj
  rw [Nat.div_div_eq_div_mul,show 8*(k+1-1-j)=8*(k-1-j)+8 by omega,Nat.pow_add,Nat.mul_comm]
 ·simp
def Tz (b:By):Nat:=b.foldl (fun n c=>n*256+c.toNat) 0
theorem Gm (b:By)(c:UInt8):Tz (b++ [c])=Tz b*256+c.toNat:=by simp [Tz]
theorem zH (n:Nat):(bt n).toNat=n%256:=by simp
theorem Qr : ∀(k n:Nat),n<256^k→Tz (be k n)=n:=by
 intro k
 induction k with
 | zero=>
  intro n h
  have:n=0:=by simpa using h
  subst this;rfl
 | succ k ih=>
  intro n h
  rw [Nat.pow_succ]at h
  rw [Wn,Gm,ih _ (by omega),zH]
  omega
theorem Z5 : ∀(b:By),Tz b<256^b.length:=by
 intro b
 suffices h : ∀(r:By),Tz r.reverse<256^r.length by
  have:=h b.reverse
  rwa [List.reverse_reverse,List.length_reverse]at this
 intro r
 induction r with
 | nil=>decide
 | cons c r ih=>
  rw [List.reverse_cons,Gm,List.length_cons,Nat.pow_succ]
  have:=c.toNat_lt
  omega
def hd (g f i n:Nat):By:=be 4 g++be 2 f++ [bt i,bt n]
theorem rV (g f i n:Nat):(hd g f i n).length=8:=by simp [hd,kS]
def hw (g f i n:Nat)(d:By):Nat:=(hsh 101 [hd g f i n,d]).toNat
def sec (g f i n:Nat)(d:By):By:=hd g f i n++be 8 (hw g f i n d)++d
theorem KO (g f i n:Nat)(d:By):(sec g f i n d).length=16+d.length:=by
 unfold sec;rw [List.length_append,List.length_append,rV,kS]
theorem Gn (g f i n:Nat)(d:By):(sec g f i n d).drop 16=d:=by
 unfold sec;rw [List.drop_left' (by rw [List.length_append,rV,kS])]
theorem Qs (g f i n:Nat)(d:By):(sec g f i n d).take 8=hd g f i n:=by
 unfold sec;rw [List.append_assoc,List.take_left' (rV _ _ _ _)]
def hG (s:By):Nat:=Tz (s.take 4)
def hF (s:By):Nat:=Tz ((s.drop 4).take 2)
def hI (s:By):Nat:=(s.getD 6 0).toNat
def hN (s:By):Nat:=(s.getD 7 0).toNat
theorem Qu {g f i n:Nat}(d:By)(h:g<4294967296):hG (sec g f i n d)=g:=by
 have e:(sec g f i n d).take 4=be 4 g:=by
  have:=congrArg (List.take 4) (Qs g f i n d)
  rw [List.take_take,show min 4 8=4 from rfl]at this
  rw [this];unfold hd;rw [List.append_assoc,List.take_left' (kS _ _)]
 unfold hG;rw [e];exact Qr 4 g h
theorem Qv {g f i n:Nat}(d:By)(h:f<65536):hF (sec g f i n d)=f:=by
 have e:((sec g f i n d).drop 4).take 2=be 2 f:=by
  unfold sec hd
  rw [List.append_assoc,List.append_assoc,List.append_assoc,List.drop_left' (kS _ _),List.take_left' (kS _ _)]
 unfold hF;rw [e];exact Qr 2 f h
theorem Qw (g f i n:Nat)(d:By):(sec g f i n d)[6]? = some (bt i)∧(sec g f i n d)[7]? = some (bt n):=by
 have e : ∀k,k<2→(sec g f i n d)[6+k]? = [bt i,bt n][k]? :=fun k hk=>by
  unfold sec hd
  have hl:(be 4 g++be 2 f).length=6:=by rw [List.length_append,kS,kS]
  rw [List.append_assoc (be 4 g++be 2 f),List.append_assoc (be 4 g++be 2 f),List.getElem?_append_right (by omega),hl,Nat.add_sub_cancel_left,List.append_assoc,List.getElem?_append_left (by simpa using hk)]
 exact⟨e 0 (by decide),e 1 (by decide)⟩
theorem Qx {g f i n:Nat}(d:By)(h:i<256):hI (sec g f i n d)=i:=by
 unfold hI
 rw [List.getD_eq_getElem?_getD,(Qw g f i n d).1,Option.getD_some,zH];omega
theorem Qy {g f i n:Nat}(d:By)(h:n<256):hN (sec g f i n d)=n:=by
 unfold hN
 rw [List.getD_eq_getElem?_getD,(Qw g f i n d).2,Option.getD_some,zH];omega
def jM (s:By):Bool:=decide (s.length=64)&&(decide (0<hG s)&&(decide (hI s<hN s)&&decide (s=sec (hG s) (hF s) (hI s) (hN s) (s.drop 16))))
def dat (b:By):By:=num (b.length:Int)++b
def nS (b:By):Nat:=((dat b).length+47)/48
def pad (b:By):By:=dat b++List.replicate (nS b*48 -(dat b).length) 0
def prt (b:By)(i:Nat):By:=((pad b).drop (i*48)).take 48
def vw (g f:Nat)(b:By)(i:Nat):List By:=(List.range i).map fun j=>sec g f j (nS b) (prt b j)
def secs (g f:Nat)(b:By):List By:=vw g f b (nS b)
def jO (g f:Int)(b:By):Int:=if g<1∨4294967295<g∨f<0∨65535<f then 3 else if 255<nS b then 4 else 0
def qm (g f:Int)(b:By):List By:=if jO g f b=0 then secs g.toNat f.toNat b else []
theorem Wp (b:By):0<(dat b).length:=by
 unfold dat;rw [List.length_append];have:=(bn (b.length:Int)).1;omega
theorem Ji (b:By):0<nS b:=by unfold nS;have:=Wp b;omega
theorem D5 (b:By):(pad b).length=nS b*48:=by
 unfold pad nS;rw [List.length_append,List.length_replicate];omega
theorem D6 {b:By}{i:Nat}(h:i<nS b):(prt b i).length=48:=by
 unfold prt;rw [List.length_take,List.length_drop,D5];omega
theorem zI (g f:Nat)(b:By)(i:Nat):(vw g f b i).length=i:=by simp [vw]
theorem Nr (g f:Nat)(b:By)(i:Nat):vw g f b (i+1)=vw g f b i++ [sec g f i (nS b) (prt b i)]:=by simp [vw,List.range_succ]
theorem Qz {g f:Nat}{b:By}{i j:Nat}(h:j<i):(vw g f b i)[j]? = some (sec g f j (nS b) (prt b j)):=by
 simp [vw,h]
theorem dP (g f:Nat)(b:By):(secs g f b).length=nS b:=zI _ _ _ _
theorem Gp {g f:Nat}{b s:By}(h:s∈secs g f b):s.length=64:=by
 simp only [secs,vw,List.mem_map,List.mem_range]at h
 obtain⟨j,hj,rfl⟩:=h
 rw [KO,D6 hj]
theorem QA (b:By) : ∀i,i≤nS b→(List.range i).flatMap (prt b)=(pad b).take (i*48):=by
 intro i
 induction i with
 | zero=>intro _;simp
 | succ i ih=>
  intro h
  rw [List.range_succ,List.flatMap_append,ih (by omega),List.flatMap_singleton,Nat.add_mul,Nat.one_mul,List.take_add]
  rfl
theorem Ns (g f:Nat)(b:By)(i:Nat):(vw g f b i).flatMap (·.drop 16)=(List.range i).flatMap (prt b):=by
 unfold vw
 rw [List.flatMap_map]
 simp only [Gn]
theorem vF (g f:Nat)(b:By):(secs g f b).flatMap (·.drop 16)=pad b:=by
 unfold secs
 rw [Ns,QA b _ (Nat.le_refl _), ←D5,List.take_length]
def rW (l:List By)(g f:Nat)(b:By):Prop:=jO g f b=0∧l=secs g f b
theorem wB {g f:Int}{b:By}(h:jO g f b=0):1≤g∧g≤4294967295∧0≤f∧f≤65535∧nS b≤255:=by
 unfold jO at h
 split at h
 ·simp at h
 ·split at h
  ·simp at h
  ·omega
theorem vG {g f:Int}{b:By}(h1:1≤g)(h2:g≤4294967295)(h3:0≤f)(h4:f≤65535)(h5:nS b≤255):jO g f b=0:=by
 unfold jO;rw [if_neg (by omega),if_neg (by omega)]
theorem Wq {g f i n:Nat}{d:By}(hg:0<g)(hg2:g<4294967296)(hf:f<65536)(hi:i<n)(hn:n<256)(hd:d.length=48):jM (sec g f i n d)=true:=by
 unfold jM
 rw [Qu d hg2,Qv d hf,Qx d (by omega),Qy d hn,Gn,KO,hd]
 simp [hg,hi]
theorem rW.at {l:List By}{g f:Nat}{b:By}(h:rW l g f b){i:Nat}(hi:i<l.length):l[i]=sec g f i (nS b) (prt b i)∧jM l[i]=true∧hG l[i]=g∧hF l[i]=f∧hI l[i]=i∧hN l[i]=nS b:=by
 obtain⟨h0,rfl⟩:=h
 have hs:=wB h0
 rw [dP]at hi
 have e:(secs g f b)[i]'(by rw [dP];exact hi)=sec g f i (nS b) (prt b i):=by
  have:=Qz (g:=g) (f:=f) (b:=b) hi
  rw [List.getElem?_eq_getElem (by rw [zI];exact hi)]at this
  injection this
 rw [e]
 exact⟨rfl,Wq (by omega) (by omega) (by omega) hi (by omega) (D6 hi),Qu _ (by omega),Qv _ (by omega),Qx _ (by omega),Qy _ (by omega)⟩
theorem rW.len {l:List By}{g f:Nat}{b:By}(h:rW l g f b):l.length=nS b∧0<nS b∧nS b≤255:=by
 obtain⟨h0,rfl⟩:=h
 exact⟨dP _ _ _,Ji b,(wB h0).2.2.2.2⟩
theorem Ws {a b:By}{x y:By}(ha:I64 (a.length:Int))(hb:I64 (b.length:Int))(h:dat a++x=dat b++y):a=b:=by
 have h1:=iU ha (a++x)
 have h2:=iU hb (b++y)
 rw [←List.append_assoc]at h1 h2
 unfold dat at h
 rw [h,h2]at h1
 injection h1 with e1 e2
 have e1:b.length=a.length:=by omega
 rw [e1,List.append_assoc,List.append_assoc]at h
 exact(List.append_inj (List.append_cancel_left h) e1.symm).1
theorem rW.inj {l:List By}{g f g' f':Nat}{b b':By}(h:rW l g f b)(h':rW l g' f' b'):g=g'∧f=f'∧b=b':=by
 obtain⟨hl,hp,hq⟩:=h.len
 obtain⟨_,_,hq'⟩:=h'.len
 obtain⟨_,_,a1,a2,_⟩:=h.at (i:=0) (by omega)
 obtain⟨_,_,b1,b2,_⟩:=h'.at (i:=0) (by omega)
 refine⟨a1.symm.trans b1,a2.symm.trans b2, ?_⟩
 have e1:=vF g f b
 have e2:=vF g' f' b'
 rw [←h.2]at e1
 rw [←h'.2,e1]at e2
 have bl : ∀x:By,nS x≤255→I64 (x.length:Int):=fun x hx=>by
  unfold nS dat at hx;rw [List.length_append]at hx;unfold I64;omega
 exact Ws (bl b hq) (bl b' hq') e2
noncomputable def oM (l:List By):Int×Int×By×Bool:=
 open Classical in if h : ∃x:Nat×Nat×By,rW l x.1 x.2.1 x.2.2 then(((Classical.choose h).1:Nat),((Classical.choose h).2.1:Nat),(Classical.choose h).2.2,true)else(0,0,[],false)
theorem Jj {l:List By}{g f:Nat}{b:By}(h:rW l g f b):oM l=(((g:Nat):Int),((f:Nat):Int),b,true):=by
 have hx : ∃x:Nat×Nat×By,rW l x.1 x.2.1 x.2.2:=⟨(g,f,b),h⟩
 unfold oM
 rw [dif_pos hx]
 obtain⟨e1,e2,e3⟩:=(Classical.choose_spec hx).inj h
 rw [e1,e2,e3]
theorem QB {l:List By}(h : ∀g f b, ¬rW l g f b):oM l=(0,0,[],false):=by
 unfold oM
 rw [dif_neg fun⟨x,hx⟩=>h _ _ _ hx]
theorem vH (l:List By):(∃g f b,rW l g f b∧oM l=(((g:Nat):Int),((f:Nat):Int),b,true))∨((∀g f b, ¬rW l g f b)∧oM l=(0,0,[],false)):=by
 by_cases h : ∃g f b,rW l g f b
 ·obtain⟨g,f,b,h⟩:=h
  exact .inl ⟨g,f,b,h,Jj h⟩
 ·exact .inr ⟨fun g f b hx=>h ⟨g,f,b,hx⟩,QB fun g f b hx=>h ⟨g,f,b,hx⟩⟩
end
section
open Go Go.RowKit Go.Proofs Go.Proofs.YtocckceefcmeaaaGreatDoor.Vc Go.Proofs.YtocckceefcmeaaaGreatDoor.Ax
structure Ev where
 client:By
 seq:Int
 kind:Int
 time:Int
 id:By
 name:By
 other:By
 ver:Int
 arm:Int
 val:Int
abbrev sF (s:By):FV:= .v (.string ⟨s.toArray⟩)
abbrev iF (n:Int):FV:= .v (.int .i64 n)
def iE (e:Ev):List FV:= [sF e.client,iF e.seq,iF e.kind,iF e.time,sF e.id,sF e.name,sF e.other,iF e.ver,iF e.arm,iF e.val]
def evA (e:Ev):AV:= .agg ((iE e).map FV.up)
abbrev el (l:List Ev):AV:= .lst 10 (l.map iE)
structure Ev.ok (e:Ev):Prop where
 seq:I64 e.seq
 kind:I64 e.kind
 time:I64 e.time
 ver:I64 e.ver
 arm:I64 e.arm
 val:I64 e.val
 client:e.client.length≤140737488355328
 id:e.id.length≤140737488355328
 name:e.name.length≤140737488355328
 other:e.other.length≤140737488355328
end
end Go.Proofs.YtocckceefcmeaaaGreatDoor.Cl
namespace Go.Proofs.YtocckceefcmeaaaGreatDoor.Ax
open Go Go.RowKit Go.Proofs.YtocckceefcmeaaaGreatDoor.Vc
def Gh (n:Nat)(H:aj)(n':Nat)(H':aj):Prop:=
 ∀(G:Glob) (w₀:World) (aJ aN:Nat→Prop) (σ:Nat→Loc) (F:Nat→Prop) (w:World),St G w₀ aJ aN n σ F H w→∃σ' F',St G w₀ aJ aN n' σ' F' H' w∧Ext n σ F w n' σ' F' w
theorem Gh.refl (n:Nat)(H:aj):Gh n H n H:=fun _ _ _ _ σ F w st=>⟨σ,F,st, .refl _ _ _ _⟩
theorem Gh.trans {n n' n'':Nat}{H H' jm:aj}(h:Gh n H n' H')(k:Gh n' H' n'' jm):Gh n H n'' jm:=fun G w₀ aJ aN σ F w st=>by
 obtain⟨σ1,F1,s1,x1⟩:=h G w₀ aJ aN σ F w st
 obtain⟨σ2,F2,s2,x2⟩:=k G w₀ aJ aN σ1 F1 w s1
 exact⟨σ2,F2,s2,x1.trans x2⟩
section
variable {G:Glob}{w₀:World}{aJ aN:Nat→Prop}{n:Nat}{σ:Nat→Loc}{F:Nat→Prop}{H:aj}{w:World}
theorem St.KP (st:St G w₀ aJ aN n σ F H w){n':Nat}{σ':Nat→Loc}{F':Nat→Prop}{H':aj}(hn:n≤n')(hσ : ∀k,k<n→σ' k=σ k)(hF : ∀b,F b→F' b)
  (hF' : ∀b,F' b→F b∨∃e c,look H e=some c∧c.own=true∧gZ w (σ e) c b) (hlab : ∀k b,look H' k=some b→k<n')
  (adY : ∀k b g,look H' k=some b→b.own=true→gZ w (σ' k) b g→¬F' g∧∃e c,look H e=some c∧c.own=true∧gZ w (σ e) c g)
  (hinj : ∀k k' b b' g,look H' k=some b→look H' k'=some b'→b.own=true→b'.own=true→gZ w (σ' k) b g→gZ w (σ' k') b' g→k=k')
  (hblk:Ext n σ F w n' σ' F' w→∀k b,look H' k=some b→jT n' σ' F' w (σ' k) b):St G w₀ aJ aN n' σ' F' H' w∧Ext n σ F w n' σ' F' w:=by
 have hE:Ext n σ F w n' σ' F' w:=⟨hn,hσ,fun b hb=>⟨hF b hb,rfl⟩,Nat.le_refl _⟩
 refine⟨⟨st.glob,st.fJ,fun b hb=> ?_,hlab,fun k b g h1 h2 h3=> ?_,hinj,hblk hE⟩,hE⟩
 ·rcases hF' b hb with h | ⟨e,c,h1,h2,h3⟩
  ·exact st.dG b h
  ·obtain⟨_,_,m3,m4⟩:=st.mu e c b h1 h2 h3
   exact⟨m3,m4.elim (fun h=> .inr (.inr h)) fun h=> .inr (.inl h)⟩
 ·obtain⟨nf,e,c,h4,h5,h6⟩:=adY k b g h1 h2 h3
  obtain⟨_,m2,m3,m4⟩:=st.mu e c g h4 h5 h6
  exact⟨nf,m2,m3,m4⟩
theorem St.QC (st:St G w₀ aJ aN n σ F H w){F':Nat→Prop}{aP:Nat}{blk blk':dM}(hk:look H aP=some blk)(hm:blk.own=true)(hF : ∀b,F b→F' b)(hF' : ∀b,F' b→F b∨(gZ w (σ aP) blk b∧∀g,gZ w (σ aP) blk' g→g≠b))
  (ho : ∀g,gZ w (σ aP) blk' g→gZ w (σ aP) blk g) (hB:Ext n σ F w n σ F' w→jT n σ F' w (σ aP) blk'):St G w₀ aJ aN n σ F' (setH H aP blk') w∧Ext n σ F w n σ F' w:=by
 refine st.KP (Nat.le_refl _) (fun _ _=>rfl) hF (fun b hb=>(hF' b hb).imp id fun h=>⟨aP,blk,hk,hm,h.1⟩) (fun k b h=> ?_) (fun k b g h h1 h2=> ?_) (fun k k' b b' g h h' m m' g1 g2=> ?_) fun hE k b h=> ?_
 ·rw [dw hk]at h
  split at h
  ·rename_i e;subst e;exact st.lab _ _ hk
  ·exact st.lab k b h
 ·rw [dw hk]at h
  split at h
  ·rename_i e
   subst e
   injection h with h
   subst h
   refine⟨fun hf=> ?_,_,_,hk,hm,ho g h2⟩
   rcases hF' g hf with hf | hf
   ·exact(st.mu _ _ g hk hm (ho g h2)).1 hf
   ·exact hf.2 g h2 rfl
  ·rename_i e
   refine⟨fun hf=> ?_,k,b,h,h1,h2⟩
   rcases hF' g hf with hf | hf
   ·exact(st.mu _ _ g h h1 h2).1 hf
   ·exact e (st.inj k aP b blk g h hk h1 hm h2 hf.1)
 ·have key : ∀k b,look (setH H aP blk') k=some b→b.own=true→gZ w (σ k) b g→∃c,look H k=some c∧c.own=true∧gZ w (σ k) c g:=by
   intro k b h0 m g1
   rw [dw hk]at h0
   split at h0
   ·rename_i e;subst e;injection h0 with h0;subst h0;exact⟨_,hk,hm,ho g g1⟩
   ·exact⟨_,h0,m,g1⟩
  obtain⟨c,a1,a2,a3⟩:=key k b h m g1
  obtain⟨c',b1,b2,b3⟩:=key k' b' h' m' g2
  exact st.inj k k' c c' g a1 b1 a2 b2 a3 b3
 ·rw [dw hk]at h
  split at h
  ·rename_i e;subst e;injection h with h;subst h;exact hB hE
  ·exact(st.blk k b h).mono hE fun _ _ _=>rfl
def Jk (T s:Nat):FV→TV
 | .v (.slice none 0 0)=> .n T s []
 | x=> .f x
def TV.fz:TV→FV
 | .f x=>x
 | .n _ s l=> .lst s l
theorem zJ (T s:Nat)(x:FV):(x = .v (.slice none 0 0)∧Jk T s x = .n T s [])∨Jk T s x = .f x:=by
 unfold Jk
 split
 ·exact .inl ⟨rfl,rfl⟩
 ·exact .inr rfl
theorem lS {α β:Type}{f:α→β}{l:List (List α)}{i j:Nat}{row:List β}{b:β}(h:(l.map fun r=>r.map f)[i]? = some row)(k:row[j]? = some b) : ∃r a,l[i]? = some r∧r[j]? = some a∧f a=b:=by
 rw [List.getElem?_map]at h
 cases hr:l[i]? with
 | none=>rw [hr]at h;cases h
 | some r=>
  rw [hr]at h
  injection h with h
  subst h
  rw [List.getElem?_map]at k
  cases ha:r[j]? with
  | none=>rw [ha]at k;cases k
  | some a=>rw [ha]at k;injection k with k;exact⟨r,a,rfl,ha,k⟩
theorem Gq {α β:Type}{f:α→β}{l:List (List α)}{sz:Nat}(h : ∀row∈l,row.length=sz) : ∀row∈l.map fun r=>r.map f,row.length=sz:=fun row hr=>by
 obtain⟨r,h1,rfl⟩:=List.mem_map.1 hr
 rw [List.length_map];exact h r h1
theorem Gh.tree {aP t sz:Nat}{l:List (List FV)}(T s:Nat)(hk:look H aP=some (.rows t sz l)):Gh n H n (setH H aP (.tree t sz (l.map fun r=>r.map (Jk T s)) none)):=by
 intro G w₀ aJ aN σ F w st
 obtain⟨h1,h2,xs,hO,hR⟩:=st.blk _ _ hk
 have noN : ∀i j g, ¬Ih w (σ aP) sz (l.map fun r=>r.map (Jk T s)) i j g:=by
  rintro i j g ⟨b,row,t',s',r,m,c,n1,n2,n3,n4,n5⟩
  obtain⟨r0,a,e1,e2,e3⟩:=lS n2 n3
  rcases zJ T s a with ⟨rfl,_⟩ | e
  ·have hrl:=hR.1 r0 (List.mem_of_getElem? e1)
   have hil:=(List.getElem?_eq_some_iff.1 e1).1
   have hjl:=(List.getElem?_eq_some_iff.1 e2).1
   have hlt:i*sz+j<xs.length:=by
    have:(i+1)*sz≤l.length*sz:=Nat.mul_le_mul_right _ hil
    rw [Nat.add_mul,Nat.one_mul]at this
    rw [hR.2.1];omega
   have hx:=List.getElem?_eq_getElem hlt
   obtain⟨b',hb',hc⟩:=lZ hO e1 hrl e2 hR.2.1 hx
   rw [n1]at hb'
   injection hb' with hb'
   subst hb'
   have hf:=hR.2.2.2 i j r0 _ _ e1 e2 hx
   rw [hc]at n4
   injection n4 with n4
   rw [n4]at hf
   cases hf
  ·rw [e]at e3;cases e3
 have ho : ∀g,gZ w (σ aP) (.tree t sz (l.map fun r=>r.map (Jk T s)) none) g→(σ aP).b=some g:=fun g h=>h.elim id fun⟨i,j,h⟩=>(noN i j g h).elim
 obtain⟨s1,x1⟩:=st.QC (F':=F) (blk':= .tree t sz (l.map fun r=>r.map (Jk T s)) none) hk rfl (fun _ h=>h) (fun _ h=> .inl h) (fun g h=> .inl (ho g h)) fun hE=>by
  refine⟨h1,by rw [List.length_map];exact h2,xs,by rw [List.length_map];exact hO,⟨Gq hR.1,by rw [List.length_map];exact hR.2.1,hR.2.2.1,fun i j row a v hi hj hv=> ?_⟩,⟨fun i j i' j' g h=>(noN i j g h).elim,fun i j g h=>(noN i j g h).elim⟩,fun _ _ _ h=>by cases h⟩
  obtain⟨r0,a0,e1,e2,rfl⟩:=lS hi hj
  have hf:=hR.2.2.2 i j r0 a0 v e1 e2 hv
  rcases zJ T s a0 with ⟨rfl,e⟩ | e
  ·rw [e]
   cases hf
   exact⟨none,0,rfl, .inl ⟨rfl,rfl⟩⟩
  ·rw [e];exact hf
 exact⟨σ,F,s1,x1⟩
theorem QD {t sz c:Nat}{oa:Option Addr}{l:List (List FV)}{ys:List Value}{F':Nat→Prop}(hO:Vc.Own w 0 t sz oa l.length c ys)(hR:fA F w sz l ys)(hF : ∀b,F b→F' b)(hg : ∀g,oa=some ⟨g,0,none⟩→F' g):dN F' w (.lst sz l) (.slice oa l.length c):=by
 have hb:jT 0 (fun _=>⟨oa.map (·.block),l.length,c,sz⟩) F w ⟨oa.map (·.block),l.length,c,sz⟩ (.rows t sz l):=⟨rfl,rfl,ys,by
  have:(Loc.mk (oa.map (·.block)) l.length c sz).oa=oa:=Dn hO
  rw [this];exact hO,hR⟩
 have:=jv hb hF fun g hgb=>by
  refine hg g ?_
  rcases hO.2 with ⟨hv,_⟩ | ⟨g',cap,cur,hv,_⟩
  ·injection hv with e _ _;subst e;cases hgb
  ·injection hv with e _ _;subst e;simp at hgb;rw [hgb]
 have h3:=this.2.2.1
 have e:(Loc.mk (oa.map (·.block)) l.length c sz).oa=oa:=Dn hO
 rw [e]at h3
 exact h3
theorem Ic {aP t sz:Nat}{l:List (List TV)}{c i j t' s':Nat}{r:List (List FV)}{row:List TV}{xs:List Value}{g m cc:Nat}(hO:Vc.Own w 0 t sz (σ aP).oa l.length c xs)(hT:OT F w sz l xs)(hi:l[i]? = some row)(hj:row[j]? = some (.n t' s' r))(hv:xs[i*sz+j]? = some (.slice (some ⟨g,0,none⟩) m cc))(hc:0<cc) :
  Ih w (σ aP) sz l i j g:=by
 obtain⟨b,hb,hcell⟩:=lZ hO hi (hT.1 row (List.mem_of_getElem? hi)) hj hT.2.1 hv
 exact⟨b,row,t',s',r,m,cc,hb,hi,hj,hcell,hc⟩
theorem QE {t sz c:Nat}{oa:Option Addr}{m:Nat}{ys:List Value}(hO:Vc.Own w 0 t sz oa m c ys)(hc:0<c) : ∃g,oa=some ⟨g,0,none⟩:=by
 rcases hO.2 with ⟨hv,_⟩ | ⟨g',cap,cur,hv,_⟩
 ·injection hv with _ _ e;omega
 ·injection hv with e _ _;exact⟨g',e⟩
theorem Gh.freeze {aP t sz:Nat}{l:List (List TV)}(hk:look H aP=some (.tree t sz l none)):Gh n H n (setH H aP (.rows t sz (l.map fun r=>r.map TV.fz))):=by
 intro G w₀ aJ aN σ F w st
 obtain⟨h1,h2,xs,hO,hT,hS,_⟩:=st.blk _ _ hk
 obtain⟨s1,x1⟩:=st.QC (F':=fun b=>F b∨Nst w (σ aP) (.tree t sz l none) b) (blk':= .rows t sz (l.map fun r=>r.map TV.fz)) hk rfl (fun _ h=> .inl h)
  (fun b h=>h.imp id fun h=>⟨.inr h,fun g hg e=>by
   subst e
   obtain⟨i,j,h⟩:=h
   exact hS.2 i j g h (hg.flat rfl)⟩) (fun g h=> .inl (h.flat rfl)) fun hE=>by
  refine⟨h1,by rw [List.length_map];exact h2,xs,by rw [List.length_map];exact hO,Gq hT.1,by rw [List.length_map];exact hT.2.1,hT.2.2.1,fun i j row a v hi hj hv=> ?_⟩
  obtain⟨r0,a0,e1,e2,rfl⟩:=lS hi hj
  have hf:=hT.2.2.2 i j r0 a0 v e1 e2 hv
  cases a0 with
  | f x=>exact dN.mono hE.f hf
  | n t' s' r=>
   obtain⟨oa,c,rfl,hf⟩:=hf
   rcases hf with ⟨rfl,rfl⟩ | ⟨ys,hc,hO',hR'⟩
   ·exact o8 s' oa
   ·refine QD hO' hR' (fun b hb=> .inl hb) fun g hg=> .inr ⟨i,j, ?_⟩
    subst hg
    exact Ic hO hT e1 e2 hv hc
 exact⟨σ,_,s1,x1⟩
theorem Gs {α:Type}{l:List (List α)}{i j i2 j2:Nat}{row uM:List α}{x y:α}(hi:l[i]? = some row)(hj:j<row.length)(h:(l.set i (row.set j x))[i2]? = some uM)(k:uM[j2]? = some y) :
  (i2=i∧j2=j∧y=x)∨(¬(i2=i∧j2=j)∧∃r,l[i2]? = some r∧r[j2]? = some y):=by
 have hil:=(List.getElem?_eq_some_iff.1 hi).1
 by_cases e:i2=i
 ·subst e
  rw [List.getElem?_set_self hil]at h
  injection h with h
  subst h
  by_cases e2:j2=j
  ·subst e2
   rw [List.getElem?_set_self hj]at k
   injection k with k
   exact .inl ⟨rfl,rfl,k.symm⟩
  ·rw [List.getElem?_set_ne (fun h=>e2 h.symm)]at k
   exact .inr ⟨fun h=>e2 h.2,row,hi,k⟩
 ·rw [List.getElem?_set_ne (fun h=>e h.symm)]at h
  exact .inr ⟨fun h=>e h.1,uM,h,k⟩
theorem QF {α:Type}{l:List (List α)}{i j sz:Nat}{row:List α}{x:α}(hi:l[i]? = some row)(h : ∀r∈l,r.length=sz) : ∀r∈l.set i (row.set j x),r.length=sz:=fun r hr=>by
 rcases List.mem_or_eq_of_mem_set hr with hr | rfl
 ·exact h r hr
 ·rw [List.length_set];exact h row (List.mem_of_getElem? hi)
theorem Gh.unfold {aP t sz i j T s:Nat}{l:List (List TV)}{row:List TV}{r:List (List FV)}(hk:look H aP=some (.tree t sz l none))(hi:l[i]? = some row)(hj:row[j]? = some (.n T s r)) :
  Gh n H (n+1) ((n, .rows T s r)::setH H aP (.tree t sz (l.set i (row.set j (.f .top))) (some (i,j,n)))):=by
 intro G w₀ aJ aN σ F w st
 obtain⟨h1,h2,xs,hO,hT,hS,_⟩:=st.blk _ _ hk
 have hrl:=hT.1 row (List.mem_of_getElem? hi)
 have hil:=(List.getElem?_eq_some_iff.1 hi).1
 have hjl:=(List.getElem?_eq_some_iff.1 hj).1
 have hlt:i*sz+j<xs.length:=by
  have:(i+1)*sz≤l.length*sz:=Nat.mul_le_mul_right _ hil
  rw [Nat.add_mul,Nat.one_mul]at this
  rw [hT.2.1];omega
 have hx:=List.getElem?_eq_getElem hlt
 obtain⟨oa,c,ev,hf⟩:=hT.2.2.2 i j row _ _ hi hj hx
 have hell:=st.lab _ _ hk
 have hloc : ∃L:Loc,L.n=r.length∧L.sz=s∧(∀σ',jT (n+1) σ' F w L (.rows T s r))∧(∀g,L.b=some g→Ih w (σ aP) sz l i j g)∧
   ∀σ',σ' n=L→aX (n+1) σ' F w (.own n) xs[i*sz+j]:=by
  rcases hf with ⟨rfl,rfl⟩ | ⟨ys,hc,hO',hR'⟩
  ·refine⟨⟨none,0,0,s⟩,rfl,rfl,fun σ'=>⟨rfl,rfl,[],Vc.Own.nil _ _ _ _,fA.nil s⟩,(fun g h=>by cases h),fun σ' hσ=> ?_⟩
   rw [ev]
   exact .iO n oa (by omega) (by rw [hσ]) (by rw [hσ])
  ·obtain⟨g,rfl⟩:=QE hO' hc
   refine⟨⟨some g,r.length,c,s⟩,rfl,rfl,fun σ'=>⟨rfl,rfl,ys,hO',hR'⟩,(fun g' h=> ?_),fun σ' hσ=> ?_⟩
   ·injection h with h
    subst h
    rw [ev]at hx
    exact Ic hO hT hi hj hx hc
   ·rw [ev]
    have:=aX.own (n:=n+1) (σ:=σ') (F:=F) (w:=w) n (by omega)
    rw [hσ]at this
    exact this
 obtain⟨L,_,_,hB,hN,hA⟩:=hloc
 have nat : ∀i2 j2 g,Ih w (σ aP) sz (l.set i (row.set j (.f .top))) i2 j2 g→Ih w (σ aP) sz l i2 j2 g∧¬(i2=i∧j2=j):=by
  rintro i2 j2 g ⟨b,uM,t',s',r2,m,c,n1,n2,n3,n4,n5⟩
  rcases Gs hi hjl n2 n3 with ⟨_,_,e⟩ | ⟨hne,r3,e1,e2⟩
  ·cases e
  ·exact⟨⟨b,r3,t',s',r2,m,c,n1,e1,e2,n4,n5⟩,hne⟩
 have Wu : ∀g,gZ w (σ aP) (.tree t sz (l.set i (row.set j (.f .top))) (some (i,j,n))) g→gZ w (σ aP) (.tree t sz l none) g∧¬Ih w (σ aP) sz l i j g:=by
  rintro g (h | ⟨i2,j2,h⟩)
  ·exact⟨.inl h,fun hn=>hS.2 i j g hn h⟩
  ·obtain⟨h0,hne⟩:=nat i2 j2 g h
   exact⟨.inr ⟨i2,j2,h0⟩,fun hn=>hne (hS.1 _ _ _ _ g h0 hn)⟩
 have hlook : ∀ {k b},look ((n, .rows T s r)::setH H aP (.tree t sz (l.set i (row.set j (.f .top))) (some (i,j,n)))) k=some b→
   (k=n∧b = .rows T s r)∨(k≠n∧k=aP∧b = .tree t sz (l.set i (row.set j (.f .top))) (some (i,j,n)))∨(k≠n∧k≠aP∧look H k=some b):=by
  intro k b h
  rw [aV]at h
  split at h
  ·rename_i e;injection h with h;exact .inl ⟨e.symm,h.symm⟩
  ·rename_i e
   rw [dw hk]at h
   split at h
   ·rename_i e2;injection h with h;exact .inr (.inl ⟨fun h=>e h.symm,e2,h.symm⟩)
   ·rename_i e2;exact .inr (.inr ⟨fun h=>e h.symm,e2,h⟩)
 obtain⟨s1,x1⟩:=st.KP (n':=n+1) (σ':=ny σ n L) (F':=F) (H':=(n, .rows T s r)::setH H aP (.tree t sz (l.set i (row.set j (.f .top))) (some (i,j,n)))) (by omega) (fun k hk=>dD (by omega)) (fun _ h=>h) (fun _ h=> .inl h)
  (fun k b h=>by
   rcases hlook h with ⟨e,_⟩ | ⟨_,e,_⟩ | ⟨_,_,h⟩
   ·omega
   ·omega
   ·have:=st.lab k b h;omega)
  (fun k b g h m ho=>by
   rcases hlook h with ⟨e,rfl⟩ | ⟨e0,e,rfl⟩ | ⟨e0,e,h⟩
   ·subst e
    rw [bT]at ho
    have h3:=hN g (ho.flat rfl)
    have h4:gZ w (σ aP) (.tree t sz l none) g:= .inr ⟨i,j,h3⟩
    exact⟨(st.mu _ _ g hk rfl h4).1,_,_,hk,rfl,h4⟩
   ·subst e
    rw [dD e0]at ho
    have h4:=(Wu g ho).1
    exact⟨(st.mu _ _ g hk rfl h4).1,_,_,hk,rfl,h4⟩
   ·rw [dD e0]at ho
    exact⟨(st.mu _ _ g h m ho).1,_,_,h,m,ho⟩)
  (fun k k' b b' g h h' m m' ho ho'=>by
   have cross : ∀ {k b},look ((n, .rows T s r)::setH H aP (.tree t sz (l.set i (row.set j (.f .top))) (some (i,j,n)))) k=some b→b.own=true→gZ w (ny σ n L k) b g→L.b=some g→k=n:=by
    intro k b h m ho hL
    have h3:=hN g hL
    rcases hlook h with ⟨e,_⟩ | ⟨e0,e,rfl⟩ | ⟨e0,e,h⟩
    ·exact e
    ·subst e
     rw [dD e0]at ho
     exact((Wu g ho).2 h3).elim
    ·rw [dD e0]at ho
     exact(e (st.inj k aP b _ g h hk m rfl ho (.inr ⟨i,j,h3⟩))).elim
   rcases hlook h with ⟨e,rfl⟩ | ⟨e0,e,rfl⟩ | ⟨e0,e,h0⟩
   ·subst e
    rw [bT]at ho
    exact(cross h' m' ho' (ho.flat rfl)).symm
   ·rcases hlook h' with ⟨e',rfl⟩ | ⟨e0',e',rfl⟩ | ⟨e0',e',h0'⟩
    ·subst e'
     rw [bT]at ho'
     exact cross h m ho (ho'.flat rfl)
    ·rw [e,e']
    ·subst e
     rw [dD e0]at ho
     rw [dD e0']at ho'
     exact st.inj _ _ _ _ g hk h0' rfl m' (Wu g ho).1 ho'
   ·rcases hlook h' with ⟨e',rfl⟩ | ⟨e0',e',rfl⟩ | ⟨e0',e',h0'⟩
    ·subst e'
     rw [bT]at ho'
     exact cross h m ho (ho'.flat rfl)
    ·subst e'
     rw [dD e0]at ho
     rw [dD e0']at ho'
     exact st.inj _ _ _ _ g h0 hk m rfl ho (Wu g ho').1
    ·rw [dD e0]at ho
     rw [dD e0']at ho'
     exact st.inj _ _ _ _ g h0 h0' m m' ho ho')
  (fun hE k b h=>by
   rcases hlook h with ⟨e,rfl⟩ | ⟨e0,e,rfl⟩ | ⟨e0,e,h⟩
   ·subst e;rw [bT];exact hB _
   ·subst e
    rw [dD e0]
    refine⟨h1,by rw [List.length_set];exact h2,xs,by rw [List.length_set];exact hO,⟨QF hi hT.1,by rw [List.length_set];exact hT.2.1,hT.2.2.1,fun i2 j2 uM a v n1 n2 n3=> ?_⟩,⟨fun a b c d g x y=>hS.1 a b c d g (nat _ _ _ x).1 (nat _ _ _ y).1,fun a b g x=>hS.2 a b g (nat _ _ _ x).1⟩,fun i2 j2 e2 he=> ?_⟩
    ·rcases Gs hi hjl n1 n2 with ⟨_,_,e⟩ | ⟨_,r3,e1,e2⟩
     ·subst e;exact dN.top v
     ·exact hT.2.2.2 i2 j2 r3 a v e1 e2 n3
    ·injection he with he
     injection he with ee1 he
     injection he with YQ ee3
     subst ee1;subst YQ;subst ee3
     exact⟨by omega,by rw [List.length_set];exact hil,by omega,⟨_,List.getElem?_set_self hil,List.getElem?_set_self hjl⟩,_,hx,hA _ (bT _ _ _)⟩
   ·rw [dD e0]
    exact(st.blk k b h).mono hE fun _ _ _=>rfl)
 exact⟨_,F,s1,x1⟩
end
end Go.Proofs.YtocckceefcmeaaaGreatDoor.Ax
namespace Go.Proofs.YtocckceefcmeaaaGreatDoor.Cl
open Go Go.RowKit Go.Proofs Go.Proofs.YtocckceefcmeaaaGreatDoor.Vc Go.Proofs.YtocckceefcmeaaaGreatDoor.Ax
attribute [local irreducible] loadVar storeVar Instr.indexAt Instr.index Instr.sliceAt Instr.makeSlice Instr.lookup Instr.mapUpdate Instr.range Instr.next Instr.entry Instr.makeMap Builtin.append_ Builtin.copy_ Builtin.len_ Builtin.min_ Builtin.max_ Builtin.cap_ Builtin.delete_ Builtin.clear_ convert binOp eqGuard Op.unary Calls
theorem rH {α:Type}{sz:Nat}{enc:α→List FV}{c:α→List Value}(he : ∀x,enc x=(c x).map .v)(hk : ∀a,(c a).length=sz)(h1 : ∀a, ∀v∈c a,v.oneCell'=true)(F:Nat→Prop)(w:World)(l:List α):fA F w sz (l.map enc) (recs c l):=by
 refine⟨fun row hr=> ?_, ?_,fun v hv=> ?_,fun i j row a v hi hj hv=> ?_⟩
 ·obtain⟨x,_,rfl⟩:=List.mem_map.1 hr
  rw [he,List.length_map,hk]
 ·rw [EK hk,List.length_map]
 ·obtain⟨x,_,hx⟩:=List.mem_flatMap.1 hv
  exact h1 x v hx
 ·rw [List.getElem?_map]at hi
  cases hx:l[i]? with
  | none=>rw [hx]at hi;cases hi
  | some x=>
   rw [hx]at hi
   injection hi with hi
   subst hi
   rw [he,List.getElem?_map]at hj
   cases hy:(c x)[j]? with
   | none=>rw [hy]at hj;cases hj
   | some y=>
    rw [hy]at hj
    injection hj with hj
    subst hj
    rw [P9 hk hx hy]at hv
    injection hv with hv
    subst hv
    exact .v _
theorem wC {P:Program}{G:Glob}{f:FuncId}{args:List AV}{α:Type}{sz E:Nat}{enc:α→List FV}{c:α→List Value}(he : ∀x,enc x=(c x).map .v)(hk : ∀a,(c a).length=sz)(h1 : ∀a, ∀v∈c a,v.oneCell'=true){l:List α}
  (h : ∀(w:World) (F:Nat→Prop) (σ:Nat→Ax.Loc) (vs:List Value),(∀b,F b→b<w.heap.size)→bI 0 σ F w args vs→vS P f vs.toArray w fun v w'=> ∃oa cp,v = .slice oa l.length cp∧Vc.Own w' w.heap.size E sz oa l.length cp (recs c l)∧Below w.heap.size w w') :
  bC P G f args 0 [] (kW E sz (l.map enc)):=by
 intro w σ F vs st r
 refine(h w F σ vs (fun b hb=>(st.dG b hb).1) r).mono fun v w' ⟨oa,cp,e,hO,hB⟩=> ?_
 subst e
 have hO0:Vc.Own w' 0 E sz oa l.length cp (recs c l):=⟨hO.1,hO.2.imp id fun⟨g,cap,cur,h1,_,h2⟩=>⟨g,cap,cur,h1,Nat.zero_le _,h2⟩⟩
 have hR:=rH he hk h1 F w' l
 obtain⟨s2,x2⟩:=st.new (w':=w') (pV.ji hB) ⟨oa.map (·.block),l.length,cp,sz⟩ (fun g hg=>by
   cases oa with
   | none=>cases hg
   | some a=>exact hO.ge g hg) (.rows E sz (l.map enc)) (o9 hO0 (by rw [List.length_map]) hR)
 exact⟨_,1,_,F,_,⟨rfl,rfl,rfl⟩,s2,x2,uN hO0⟩
theorem Jl (b:By):recs (fun a:UInt8=> [Value.int .u8 (a.toNat:Int)]) b=cZ b:=F9 _ b
theorem QG (x:Nat):Dg.lG x 8=be 8 x:=by
 have e : ∀k,Dg.nG x k=bt (x/2^(8*k)):=fun k=>by
  unfold Dg.nG
  apply UInt8.toNat_inj.1
  simp
 simp only [Dg.lG,e]
 rfl
theorem QH (G:Glob)(b:By)(x:Nat)(hl:b.length≤1000000)(hx:x<18446744073709551616):bC Tryz.prog G 68 [bs b,uv x] 0 [] (kW 5 1 ((b++be 8 x).map dO)):=by
 refine wC (E:=5) (c:=fun a:UInt8=> [Value.int .u8 (a.toNat:Int)]) (fun _=>rfl) (fun _=>rfl) (fun _ v hv=>by simp at hv;subst hv;rfl) fun w F σ vs hF r=> ?_
 match vs,r with
 | [u,y],⟨ru,ry,_⟩=>
  rw [ry.dA]
  cases ru with
  | lst hu=>
   obtain⟨oa,c,rfl,hc,hn,hr⟩:=BO hu hF
   refine(I4 oa b.length c b x w rfl hl hc hn hx hr).mono fun v w' ⟨gG,c',e,hO,hB⟩=> ?_
   rw [QG]at hO
   refine⟨gG,c', ?_, ?_,hB⟩
   ·rw [e,List.length_append,kS]
   ·rw [Jl,List.length_append,kS];exact hO
end Go.Proofs.YtocckceefcmeaaaGreatDoor.Cl
namespace Go.Proofs.YtocckceefcmeaaaGreatDoor.Ax
open Go Go.RowKit Go.Proofs.YtocckceefcmeaaaGreatDoor.Vc
structure QI (p:Prop):Prop where
 go:p
theorem QJ (p:Prop):QI p=p:=propext ⟨fun h=>h.go,fun h=>⟨h⟩⟩
def pre:List Nat→Plan→Plan
 | [],p=>p
 | i::r,p=> .take i (pre r p)
section
variable {P:Program}{G:Glob}{all:List Oper}{D:List Nat}{p:Plan}{n:Nat}{H:aj}{K:aH→Nat→aj→Prop}
theorem BP : ∀(ts:List Nat) (ρ:aH),aD P G all D (pre ts p) ρ n H K=Tt P G all (jw D H) H ts ρ (fun ρ'=>aD P G all D p ρ' n H K)
 | [],ρ=>rfl
 | i::ts,ρ=>by
  simp only [pre,aD,Tt]
  cases all[i]? with
  | none=>rfl
  | some o=>simp only [BP ts]
theorem QK {ρ:aH}(ts:List Nat)(h:Tt P G all (jw D H) H ts ρ (fun ρ'=>QI (aD P G all D p ρ' n H K))):aD P G all D (pre ts p) ρ n H K:=by
 rw [BP]
 have e:(fun ρ'=>QI (aD P G all D p ρ' n H K))=fun ρ'=>aD P G all D p ρ' n H K:=funext fun ρ'=>QJ _
 rw [e]at h
 exact h
theorem Nu (ρ:aH)(s:Nat):jF ρ s (ρ s)=ρ:=by
 funext k
 unfold jF
 cases h:Nat.beq k s with
 | true=>rw [Nat.eq_of_beq_eq_true h];simp
 | false=>simp
theorem KQ {ρ:aH}(s:Nat){t:Bool}(hr:ρ s = .v (.bool t))(h1:t=true→aD P G all D p (jF ρ s (.v (.bool true))) n H K)(h2:t=false→aD P G all D p (jF ρ s (.v (.bool false))) n H K):aD P G all D p ρ n H K:=by
 have e:=Nu ρ s
 rw [hr]at e
 cases t with
 | true=>have:=h1 rfl;rw [e]at this;exact this
 | false=>have:=h2 rfl;rw [e]at this;exact this
end
end Go.Proofs.YtocckceefcmeaaaGreatDoor.Ax
