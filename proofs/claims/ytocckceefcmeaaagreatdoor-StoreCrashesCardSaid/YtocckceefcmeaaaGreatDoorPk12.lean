/- Joined parts of the proof. Numbers as bytes in plain Lean: how a number is written, that it is read as it was written, and that what is read was wr -/
import Derived.Test.YtocckceefcmeaaaGreatDoorPk11
import Derived.Test.YtocckceefcmeaaaGreatDoorPk9
import Derived.Test.YtocckceefcmeaaaGreatDoorPk8
import Derived.Test.YtocckceefcmeaaaGreatDoorPk10
set_option linter.unusedVariables false
set_option linter.unusedSimpArgs false
set_option maxRecDepth 100000
set_option maxHeartbeats 16000000
namespace Go.Proofs.YtocckceefcmeaaaGreatDoor.Cl
def zu (n:Int):Nat:=if n<0 then(-2*n-1).toNat else(2*n).toNat
def zz (u:Nat):Int:=if u%2=1 then -((u/2:Nat):Int)-1 else((u/2:Nat):Int)
theorem acA (n:Int):zz (zu n)=n:=by
 unfold zz zu
 by_cases h:n<0
 ·rw [if_pos h];split<;>omega
 ·rw [if_neg h];split<;>omega
theorem acB (u:Nat):zu (zz u)=u:=by
 unfold zz zu
 split<;>split<;>omega
theorem QJ {n:Int}(h:I64 n):zu n<18446744073709551616:=by
 unfold zu I64 at *
 split<;>omega
theorem aak {u:Nat}(h:u<18446744073709551616):I64 (zz u):=by
 unfold zz I64
 split<;>omega
def grp:Nat→Nat→By
 | 0,u=> [UInt8.ofNat u]
 | f+1,u=>if u<128 then [UInt8.ofNat u]else UInt8.ofNat (128+u%128)::grp f (u/128)
def num (n:Int):By:=grp 9 (zu n)
inductive RN where
 | bad (e:Int)
 | ok (n:Int) (k:Nat)
def yu:By→Nat→Nat→RN
 | [],_,_=> .bad 16
 | c::r,i,u=>if i=9∧1<c.toNat then .bad 3 else if 128≤c.toNat then yu r (i+1) (u+c.toNat%128*128^i)else if c.toNat=0∧0<i then .bad 1 else .ok (zz (u+c.toNat%128*128^i)) (i+1)
theorem aal (f u:Nat):grp f u≠ []:=by
 cases f with
 | zero=>simp [grp]
 | succ f=>unfold grp;split<;>simp
theorem WC (f u:Nat):0<(grp f u).length:=by
 have:=aal f u
 cases h:grp f u with
 | nil=>exact absurd h this
 | cons a r=>simp
theorem WE (f u:Nat):(grp f u).length≤f+1:=by
 induction f generalizing u with
 | zero=>simp [grp]
 | succ f ih=>
  unfold grp
  split
  ·simp
  ·have:=ih (u/128);simp;omega
theorem rF (i:Nat):128^(i+1)=128*128^i:=by rw [Nat.pow_succ,Nat.mul_comm]
theorem aam (r:By) : ∀(f u i acc:Nat),i+f=9→u<2*128^f→(i=0∨u≠0)→yu (grp f u++r) i acc = .ok (zz (acc+u*128^i)) (i+(grp f u).length):=by
 intro f
 induction f with
 | zero=>
  intro u i acc hi hu h0
  have hu2:u<2:=by simpa using hu
  simp only [grp,List.cons_append,List.nil_append,yu]
  rw [toNat_ofNat (by omega)]
  rw [if_neg (by omega),if_neg (by omega),if_neg (by omega),Nat.mod_eq_of_lt (by omega:u<128)]
  simp
 | succ f ih=>
  intro u i acc hi hu h0
  unfold grp
  by_cases h:u<128
  ·rw [if_pos h]
   simp only [List.cons_append,List.nil_append,yu]
   rw [toNat_ofNat (by omega)]
   rw [if_neg (by omega),if_neg (by omega),if_neg (by omega),Nat.mod_eq_of_lt h]
   simp
  ·rw [if_neg h]
   have hm:u%128<128:=Nat.mod_lt _ (by decide)
   simp only [List.cons_append,yu]
   rw [toNat_ofNat (by omega)]
   rw [if_neg (by omega),if_pos (by omega)]
   rw [rF]at hu
   rw [ih (u/128) (i+1) _ (by omega) (by omega) (by omega)]
   have e1:(128+u%128)%128=u%128:=by omega
   have e2:u%128*128^i+u/128*128^(i+1)=u*128^i:=by
    rw [rF, ←Nat.mul_assoc, ←Nat.add_mul]
    have:u%128+u/128*128=u:=by omega
    rw [this]
   rw [e1,Nat.add_assoc,e2]
   simp only [List.length_cons]
   congr 1
   omega
theorem aan (n:Int)(hn:I64 n)(r:By):yu (num n++r) 0 0 = .ok n (num n).length:=by
 unfold num
 rw [aam r 9 (zu n) 0 0 rfl (by have:=QJ hn;omega) (.inl rfl)]
 simp [acA]
theorem WG : ∀(b:By) (i acc:Nat) (n:Int) (k:Nat),i≤9→yu b i acc = .ok n k→∃u,u<2*128^(9-i)∧b.take (k-i)=grp (9-i) u∧n=zz (acc+u*128^i)∧i<k∧k-i≤b.length∧(i=0∨u≠0):=by
 intro b
 induction b with
 | nil=>intro i acc n k _ h;cases h
 | cons c r ih=>
  intro i acc n k hi h
  simp only [yu]at h
  have hc:c.toNat<256:=c.toNat_lt
  have ec:UInt8.ofNat c.toNat=c:=by simp
  split at h
  ·cases h
  rename_i h9
  split at h
  ·rename_i h128
   have hi9:i≠9:=fun e=>h9 ⟨e,by omega⟩
   obtain⟨u,h1,h2,h3,h4,h5,h6⟩:=ih (i+1) _ n k (by omega) h
   obtain⟨f,hf⟩ : ∃f,9-i=f+1:=⟨8-i,by omega⟩
   have hf':9 -(i+1)=f:=by omega
   rw [hf']at h1 h2
   have hu:u≠0:=h6.resolve_left (by omega)
   refine⟨c.toNat-128+128*u, ?_, ?_, ?_,by omega,by simp only [List.length_cons];omega, .inr (by omega)⟩
   ·rw [hf,rF];omega
   ·rw [hf]
    have ek:k-i=(k -(i+1))+1:=by omega
    rw [ek,List.take_succ_cons,h2]
    unfold grp
    rw [if_neg (by omega)]
    have e1:128+(c.toNat-128+128*u)%128=c.toNat:=by omega
    have e2:(c.toNat-128+128*u)/128=u:=by omega
    rw [e1,e2,ec]
    cases f<;>rfl
   ·rw [h3]
    have e1:c.toNat%128=c.toNat-128:=by omega
    rw [e1,rF,Nat.add_mul,Nat.add_assoc]
    congr 2
    rw [←Nat.mul_assoc,Nat.mul_comm u 128]
  ·rename_i h128
   split at h
   ·cases h
   ·rename_i h0
    injection h with e1 e2
    subst e2
    have hc1:c.toNat<128:=by omega
    refine⟨c.toNat, ?_, ?_, ?_,by omega,by simp,by omega⟩
    ·rcases Nat.lt_or_ge i 9 with hl | hl
     ·obtain⟨f,hf⟩ : ∃f,9-i=f+1:=⟨8-i,by omega⟩
      rw [hf,rF]
      have:0<128^f:=Nat.pow_pos (by decide)
      omega
     ·have:i=9:=by omega
      subst this
      have : ¬1<c.toNat:=fun h=>h9 ⟨rfl,h⟩
      simp;omega
    ·have e3:i+1-i=1:=by omega
     rw [e3]
     simp only [List.take_succ_cons,List.take_zero]
     cases hf:9-i with
     | zero=>simp [grp]
     | succ f=>unfold grp;rw [if_pos hc1,ec]
    ·rw [←e1,Nat.mod_eq_of_lt hc1]
theorem N9 {b:By}{n:Int}{k:Nat}(h:yu b 0 0 = .ok n k):b=num n++b.drop k∧k=(num n).length∧I64 n∧0<k∧k≤b.length:=by
 obtain⟨u,h1,h2,h3,h4,h5,_⟩:=WG b 0 0 n k (by omega) h
 have e:n=zz u:=by simpa using h3
 have hg:num n=grp 9 u:=by unfold num;rw [e,acB]
 simp only [Nat.sub_zero]at h2 h5
 refine⟨by rw [hg, ←h2,List.take_append_drop], ?_, ?_,h4,h5⟩
 ·rw [hg, ←h2,List.length_take];omega
 ·rw [e];exact aak (by simp only [Nat.sub_zero]at h1;omega)
theorem bF (n:Int):0<(num n).length∧(num n).length≤10:=⟨WC _ _,WE _ _⟩
def bT (b:By)(e:Int):Int×Nat×Int:=
 if e=0 then(match yu b 0 0 with
  | .bad e'=>(0,0,e')
  | .ok n k=>(n,k,0))else(0,0,e)
theorem WH : ∀ {b:By} {i u:Nat} {e:Int},yu b i u = .bad e→e=16∨e=3∨e=1:=by
 intro b
 induction b with
 | nil=>intro i u e h;injection h with h;exact .inl h.symm
 | cons c r ih=>
  intro i u e h
  simp only [yu]at h
  split at h
  ·injection h with h;exact .inr (.inl h.symm)
  ·split at h
   ·exact ih h
   ·split at h
    ·injection h with h;exact .inr (.inr h.symm)
    ·cases h
theorem jl {n:Int}(hn:I64 n)(r:By):bT (num n++r) 0=(n,(num n).length,0):=by
 unfold bT
 rw [if_pos rfl,aan n hn r]
theorem jv (b:By)(e:Int):I64 (bT b e).1∧(bT b e).2.1≤b.length∧((bT b e).2.2=0→e=0∧b=num (bT b e).1++b.drop (bT b e).2.1∧(bT b e).2.1=(num (bT b e).1).length)∧((bT b e).2.2≠0→(bT b e).1=0∧(bT b e).2.1=0):=by
 have z:I64 0:=by unfold I64;omega
 unfold bT
 by_cases h:e=0
 ·rw [if_pos h]
  cases hr:yu b 0 0 with
  | bad e'=>exact⟨z,Nat.zero_le _,fun h=>by have:=WH hr;simp only at h;omega,fun _=>⟨rfl,rfl⟩⟩
  | ok n k=>
   have:=N9 hr
   exact⟨this.2.2.1,this.2.2.2.2,fun _=>⟨h,this.1,this.2.1⟩,fun h=>absurd rfl h⟩
 ·rw [if_neg h]
  exact⟨z,Nat.zero_le _,fun h'=>absurd h' h,fun _=>⟨rfl,rfl⟩⟩
def iT (b:By)(e most em:Int):Int×Nat×Int:=
 let t:=bT b e
 let e1:=if t.2.2=0 then(if t.1<0 then 3 else if most<t.1 then em else 0)else t.2.2
 (if e1=0 then t.1 else 0,t.2.1,e1)
section
open Go Go.RowKit Go.Proofs.YtocckceefcmeaaaGreatDoor.Vc
theorem lN {n:Nat}(h:n<18446744073709551616):IntKind.u64.wrap (n:Int)=n:=by
 have e:IntKind.u64.bits=64:=rfl
 have s:IntKind.u64.signed=false:=rfl
 simp only [IntKind.wrap,e,s,Bool.false_and,Bool.false_eq_true,if_false]
 omega
theorem ku {n:Nat}(h:n<256):IntKind.u8.wrap (n:Int)=n:=by
 have e:IntKind.u8.bits=8:=rfl
 have s:IntKind.u8.signed=false:=rfl
 simp only [IntKind.wrap,e,s,Bool.false_and,Bool.false_eq_true,if_false]
 omega
theorem kY (k n:Nat):BitVec.ofInt k (n:Int)=BitVec.ofNat k n:=by
 apply BitVec.eq_of_toNat_eq
 simp
theorem Ls (a b:Nat)(ha:a<18446744073709551616)(hb:b<18446744073709551616):bn .or .u64 a b=((a ||| b:Nat):Int):=by
 have e:IntKind.u64.bits=64:=rfl
 have h:=Nat.or_lt_two_pow (n:=64) ha hb
 simp only [bn,e,kY,BitVec.toNat_or,BitVec.toNat_ofNat]
 rw [Nat.mod_eq_of_lt ha,Nat.mod_eq_of_lt hb,lN h]
theorem GV (a b:Nat)(ha:a<18446744073709551616)(hb:b<18446744073709551616):bn .and .u64 a b=((a &&& b:Nat):Int):=by
 have e:IntKind.u64.bits=64:=rfl
 have h:=Nat.and_lt_two_pow (n:=64) a hb
 simp only [bn,e,kY,BitVec.toNat_and,BitVec.toNat_ofNat]
 rw [Nat.mod_eq_of_lt ha,Nat.mod_eq_of_lt hb,lN h]
theorem GY (a b:Nat)(ha:a<18446744073709551616)(hb:b<18446744073709551616):bn .xor .u64 a b=((a ^^^ b:Nat):Int):=by
 have e:IntKind.u64.bits=64:=rfl
 have h:=Nat.xor_lt_two_pow (n:=64) ha hb
 simp only [bn,e,kY,BitVec.toNat_xor,BitVec.toNat_ofNat]
 rw [Nat.mod_eq_of_lt ha,Nat.mod_eq_of_lt hb,lN h]
theorem JD (a b:Nat)(ha:a<256)(hb:b<256):bn .or .u8 a b=((a ||| b:Nat):Int):=by
 have e:IntKind.u8.bits=8:=rfl
 have h:=Nat.or_lt_two_pow (n:=8) ha hb
 simp only [bn,e,kY,BitVec.toNat_or,BitVec.toNat_ofNat]
 rw [Nat.mod_eq_of_lt ha,Nat.mod_eq_of_lt hb,ku h]
theorem Lu (a b:Nat)(ha:a<256)(hb:b<256):bn .and .u8 a b=((a &&& b:Nat):Int):=by
 have e:IntKind.u8.bits=8:=rfl
 have h:=Nat.and_lt_two_pow (n:=8) a hb
 simp only [bn,e,kY,BitVec.toNat_and,BitVec.toNat_ofNat]
 rw [Nat.mod_eq_of_lt ha,Nat.mod_eq_of_lt hb,ku h]
theorem aao (a:Nat):a &&& 127=a%128:=Nat.and_two_pow_sub_one_eq_mod a 7
theorem and1 (a:Nat):a &&& 1=a%2:=Nat.and_two_pow_sub_one_eq_mod a 1
theorem vZ {a:Nat}(k c:Nat)(ha:a<2^k):a ||| c*2^k=a+c*2^k:=by
 rw [Nat.or_comm,Nat.mul_comm, ←Nat.two_pow_add_eq_or_of_lt ha,Nat.add_comm]
theorem acC {a:Nat}(h:a<256):a ||| 128=128+a%128:=by
 have e:a ||| 128=(a%128) ||| 1*2^7 ||| (a/128)*2^7:=by
  have h1:a=a%128 ||| (a/128)*2^7:=by rw [vZ 7 _ (by omega)];omega
  have h2:a ||| 128=(a%128 ||| (a/128)*2^7) ||| 128:=by rw [←h1]
  rw [h2,Nat.or_assoc,Nat.or_assoc,Nat.or_comm (a/128*2^7)]
 rw [e,vZ 7 1 (by omega)]
 have:a/128=0∨a/128=1:=by omega
 rcases this with h0 | h0
 ·rw [h0];simp;omega
 ·rw [h0]
  have e2:a%128+1*2^7=a%128 ||| 1*2^7:=(vZ 7 1 (by omega)).symm
  rw [e2,Nat.or_assoc,Nat.or_self, ←e2];omega
theorem QK {a:Nat}(h:a<18446744073709551616):a ^^^ 18446744073709551615=18446744073709551615-a:=by
 have h1:(BitVec.ofNat 64 a ^^^ BitVec.allOnes 64).toNat=(~~~ (BitVec.ofNat 64 a)).toNat:=by rw [BitVec.xor_allOnes]
 simp only [BitVec.toNat_xor,BitVec.toNat_not,BitVec.toNat_ofNat,BitVec.toNat_allOnes]at h1
 have e:(2:Nat)^64=18446744073709551616:=by decide
 rw [e,Nat.mod_eq_of_lt h]at h1
 omega
def pat (n:Int):Nat:=(n%18446744073709551616).toNat
theorem zZ (n:Int)(h : -9223372036854775808≤n∧n≤9223372036854775807):IntKind.i64.wrap ((pat n:Nat):Int)=n:=by
 have e:IntKind.i64.bits=64:=rfl
 have s:IntKind.i64.signed=true:=rfl
 unfold pat
 simp only [IntKind.wrap,e,s,Bool.true_and,decide_eq_true_eq]
 split<;>omega
theorem CV (n:Int):BitVec.ofInt 64 n=BitVec.ofNat 64 (pat n):=by
 apply BitVec.eq_of_toNat_eq
 simp only [BitVec.toNat_ofInt,BitVec.toNat_ofNat,pat]
 omega
theorem aap (a:Int)(h : -9223372036854775808≤a∧a≤9223372036854775807):bn .xor .i64 a 0=a:=by
 show IntKind.i64.wrap ((BitVec.ofInt 64 a ^^^ BitVec.ofInt 64 0).toNat:Int)=a
 have:BitVec.ofInt 64 a ^^^ BitVec.ofInt 64 0=BitVec.ofInt 64 a:=by simp
 rw [this,CV,BitVec.toNat_ofNat,Nat.mod_eq_of_lt (by unfold pat;omega),zZ a h]
theorem aaq (a:Int)(h : -9223372036854775808≤a∧a≤9223372036854775807):bn .xor .i64 a (-1) = -a-1:=by
 show IntKind.i64.wrap ((BitVec.ofInt 64 a ^^^ BitVec.ofInt 64 (-1)).toNat:Int) = -a-1
 have h1:BitVec.ofInt 64 (-1)=BitVec.allOnes 64:=by decide
 rw [h1,BitVec.xor_allOnes,BitVec.toNat_not,CV,BitVec.toNat_ofNat]
 have e2:2^64-1-pat a%2^64=pat (-a-1):=by unfold pat;omega
 rw [e2,zZ _ (by omega)]
theorem YH (i:Nat):2^(7*i)=128^i:=by rw [Nat.pow_mul]
theorem QL {x i:Nat}(hi:i≤9)(hx:x<128)(h9:i=9→x≤1):IntKind.u64.wrap ((x:Int)*2^min (7*(i:Int)).toNat IntKind.u64.bits)=((x*128^i:Nat):Int)∧x*128^i<18446744073709551616:=by
 have e:IntKind.u64.bits=64:=rfl
 have e2:(7*(i:Int)).toNat=7*i:=by omega
 have e3:min (7*i) 64=7*i:=by omega
 have hb:x*128^i<18446744073709551616:=by
  rcases Nat.lt_or_ge i 9 with h | h
  ·have:128^i≤128^8:=Nat.pow_le_pow_right (by decide) (by omega)
   calc x*128^i<128*128^i:=Nat.mul_lt_mul_of_pos_right hx (Nat.pow_pos (by decide))
    _≤128*128^8:=Nat.mul_le_mul_left _ this
    _≤18446744073709551616:=by decide
  ·have:i=9:=by omega
   subst this
   have:=h9 rfl
   calc x*128^9≤1*128^9:=Nat.mul_le_mul_right _ this
    _<18446744073709551616:=by decide
 refine⟨?_,hb⟩
 rw [e,e2,e3]
 have e4:(x:Int)*2^(7*i)=((x*128^i:Nat):Int):=by rw [←YH];simp
 rw [e4,lN hb]
theorem YI {u x i:Nat}(hu:u<128^i)(hi:i≤9)(hx:x*128^i<18446744073709551616):bn .or .u64 (u:Int) ((x*128^i:Nat):Int)=((u+x*128^i:Nat):Int):=by
 have h1:128^i≤128^9:=Nat.pow_le_pow_right (by decide) hi
 have h2:(128:Nat)^9<18446744073709551616:=by decide
 rw [Ls u _ (by omega) hx]
 rw [←YH]at hu ⊢
 rw [vZ _ _ hu]
theorem yw {u:Nat}(h:u<18446744073709551616):bn .xor .i64 ((u/2:Nat):Int) (0 -((u%2:Nat):Int))=zz u:=by
 unfold zz
 have hr : -9223372036854775808≤((u/2:Nat):Int)∧((u/2:Nat):Int)≤9223372036854775807:=by omega
 by_cases h1:u%2=1
 ·rw [if_pos h1,h1];exact aaq _ hr
 ·have h0:u%2=0:=by omega
  rw [if_neg h1,h0];exact aap _ hr
theorem WI (n:Int)(h:I64 n):bn .xor .u64 (IntKind.u64.wrap (IntKind.u64.wrap n*2)) (IntKind.u64.wrap (n.fdiv 9223372036854775808))=(zu n:Int):=by
 have e:IntKind.u64.bits=64:=rfl
 have s:IntKind.u64.signed=false:=rfl
 unfold I64 at h
 unfold zu
 by_cases hn:n<0
 ·rw [if_pos hn]
  have e1:IntKind.u64.wrap (IntKind.u64.wrap n*2)=((18446744073709551616 -(-2*n).toNat:Nat):Int):=by
   simp only [IntKind.wrap,e,s,Bool.false_and,Bool.false_eq_true,if_false];omega
  have e2:n.fdiv 9223372036854775808 = -1:=by rw [Int.fdiv_eq_ediv];simp;omega
  have e3:IntKind.u64.wrap (-1)=((18446744073709551615:Nat):Int):=by decide
  rw [e1,e2,e3,GY _ _ (by omega) (by omega),QK (by omega)]
  omega
 ·rw [if_neg hn]
  have e1:IntKind.u64.wrap (IntKind.u64.wrap n*2)=(((2*n).toNat:Nat):Int):=by
   simp only [IntKind.wrap,e,s,Bool.false_and,Bool.false_eq_true,if_false];omega
  have e2:n.fdiv 9223372036854775808=0:=by rw [Int.fdiv_eq_ediv];simp;omega
  have e3:IntKind.u64.wrap 0=((0:Nat):Int):=by decide
  rw [e1,e2,e3,GY _ _ (by omega) (by omega),Nat.xor_zero]
theorem QM {u:Nat} : bn .or .u8 (IntKind.u8.wrap (u:Int)) 128=((UInt8.ofNat (128+u%128)).toNat:Int):=by
 have e:IntKind.u8.wrap (u:Int)=((u%256:Nat):Int):=by
  have e:IntKind.u8.bits=8:=rfl
  have s:IntKind.u8.signed=false:=rfl
  simp only [IntKind.wrap,e,s,Bool.false_and,Bool.false_eq_true,if_false]
  omega
 have e2:(128:Int)=((128:Nat):Int):=rfl
 rw [e,e2,JD _ _ (by omega) (by omega),acC (by omega),toNat_ofNat (by omega)]
 congr 1
 omega
theorem Oa {u:Nat}(h:u<128):IntKind.u8.wrap (u:Int)=((UInt8.ofNat u).toNat:Int):=by
 rw [ku (by omega),toNat_ofNat (by omega)]
theorem aeo (u:Nat):Int.fdiv (u:Int) 128=((u/128:Nat):Int):=by rw [Int.fdiv_eq_ediv_of_nonneg _ (by decide)];rfl
theorem aep (u:Nat):Int.fdiv (u:Int) 2=((u/2:Nat):Int):=by rw [Int.fdiv_eq_ediv_of_nonneg _ (by decide)];rfl
end
def Bo (n:Int):Int:=Go.IntKind.i64.wrap n
def b1 (l:Li):By:=l.flatMap num
def rl:Li→List (Int×Nat)
 | []=> []
 | x::r=>match rl r with
  | []=> [(x,1)]
  | p::t=>if x=p.1 then(x,p.2+1)::t else(x,1)::p::t
def enP (p:Int×Nat):By:=num p.1++num p.2
def b2 (l:Li):By:=(rl l).flatMap enP
def st:Int→Li→By
 | _,[]=> []
 | p,x::r=>num (Bo (x-p))++st x r
def b3 (l:Li):By:=st 0 l
def ins (d:Li)(x:Int):Li:=
 match d with
 | []=> [x]
 | y::r=>if y<x then y::ins r x else if y=x then y::r else x::y::r
def ds (l:Li):Li:=l.foldl ins []
def idx:Li→Int→Nat
 | [],_=>0
 | y::r,x=>if y=x then 0 else idx r x+1
def b4 (l:Li):By:=num (ds l).length++b1 (ds l)++l.flatMap fun x=>num (idx (ds l) x)
def wid:Nat→Nat→Nat
 | 0,_=>0
 | f+1,u=>if u=0 then 0 else wid f (u/2)+1
def dif (lo x:Int):Nat:=(x-lo).toNat
def rG (lo:Int)(w:Nat)(l:Li)(p:Nat):Bool:=(dif lo (l.getD (p/w) 0)).testBit (p%w)
def BK (bit:Nat→Bool)(p j:Nat):Nat→Nat
 | 0=>0
 | t+1=>BK bit p j t+(if 8*j+t<p∧bit (8*j+t)=true then 2^t else 0)
def pk (bit:Nat→Bool)(n p:Nat):By:=(List.range n).map fun j=>UInt8.ofNat (BK bit p j 8)
def lo (l:Li):Int:=(ds l).headD 0
def hi (l:Li):Int:=(ds l).getLastD 0
def wd (l:Li):Nat:=wid 64 (dif (lo l) (hi l))
def uI (n w:Nat):Nat:=(n*w+7)/8
def b5 (l:Li):By:=num (lo l)++num (wd l)++pk (rG (lo l) (wd l) l) (uI l.length (wd l)) (l.length*wd l)
def bd:Nat→Li→By
 | 1,l=>b1 l
 | 2,l=>b2 l
 | 3,l=>b3 l
 | 4,l=>b4 l
 | _,l=>b5 l
def en (k:Nat)(l:Li):By:=num k++num l.length++bd k l
def sh (a b:By):By:=if b.length<a.length then b else a
def best (l:Li):Nat→By
 | 0=>en 1 l
 | k+1=>sh (best l k) (en (k+2) l)
def ints (l:Li):By:=if l = []then num 1++num 0 else best l 4
example:ints [7,7,7,7] = [4,8,14,8]:=by decide
example:ints [] = [2,0]:=by decide
theorem acD {x:Int}{r:Li} : ∃k t,rl (x::r)=(x,k+1)::t:=by
 simp only [rl]
 split
 ·exact⟨0,[],rfl⟩
 ·rename_i p t _
  split
  ·exact⟨p.2,t,rfl⟩
  ·exact⟨0,p::t,rfl⟩
theorem aar (x:Int)(m:Nat)(r:Li)(h:r.head? ≠some x):rl (List.replicate (m+1) x++r)=(x,m+1)::rl r:=by
 induction m with
 | zero=>
  simp only [List.replicate,List.cons_append,List.nil_append,rl]
  cases r with
  | nil=>rfl
  | cons y r=>
   obtain⟨k,t,e⟩:=acD (x:=y) (r:=r)
   rw [e]
   have hne:x≠y:=fun e=>h (by rw [e];rfl)
   simp only [hne,if_false]
 | succ m ih=>
  rw [List.replicate_succ,List.cons_append]
  simp only [rl]
  rw [ih]
  simp
def SS (d:Li):Prop:=d.Pairwise (· < ·)
theorem LC (d:Li)(x y:Int):y∈ins d x↔y∈d∨y=x:=by
 induction d with
 | nil=>simp [ins]
 | cons z r ih=>
  unfold ins
  split
  ·simp only [List.mem_cons,ih,or_assoc]
  ·split
   ·rename_i e;subst e;simp only [List.mem_cons];constructor
    ·intro h;exact .inl h
    ·rintro(h | rfl)
     ·exact h
     ·exact .inl rfl
   ·simp only [List.mem_cons];constructor
    ·rintro(h | h | h)
     ·exact .inr h
     ·exact .inl (.inl h)
     ·exact .inl (.inr h)
    ·rintro((h | h) | h)
     ·exact .inr (.inl h)
     ·exact .inr (.inr h)
     ·exact .inl h
theorem aas {d:Li}{x:Int}(h:SS d):SS (ins d x):=by
 induction d with
 | nil=>simp [ins,SS]
 | cons z r ih=>
  have h1:=List.pairwise_cons.1 h
  unfold ins
  split
  ·rename_i hz
   refine List.pairwise_cons.2 ⟨fun a ha=> ?_,ih h1.2⟩
   rcases(LC r x a).1 ha with h2 | h2
   ·exact h1.1 a h2
   ·omega
  ·split
   ·exact h
   ·refine List.pairwise_cons.2 ⟨fun a ha=> ?_,h⟩
    rcases List.mem_cons.1 ha with h2 | h2
    ·omega
    ·have:=h1.1 a h2;omega
theorem LD (l:Li) : ∀d,SS d→SS (l.foldl ins d)∧∀y,y∈l.foldl ins d↔y∈d∨y∈l:=by
 induction l with
 | nil=>intro d h;simp [h]
 | cons x r ih=>
  intro d h
  have:=ih (ins d x) (aas h)
  refine⟨this.1,fun y=> ?_⟩
  rw [List.foldl_cons,this.2 y,LC,List.mem_cons,or_assoc]
theorem LG (l:Li):SS (ds l):=(LD l [] List.Pairwise.nil).1
theorem oC (l:Li)(y:Int):y∈ds l↔y∈l:=by rw [ds,(LD l [] List.Pairwise.nil).2 y];simp
theorem WJ {a:Li} : ∀ {b:Li},SS a→SS b→(∀y,y∈a↔y∈b)→a=b:=by
 induction a with
 | nil=>intro b _ _ h;cases b with
  | nil=>rfl
  | cons y r=>exact absurd ((h y).2 List.mem_cons_self) (by simp)
 | cons x r ih=>
  intro b ha hb h
  have h1:=List.pairwise_cons.1 ha
  cases b with
  | nil=>exact absurd ((h x).1 List.mem_cons_self) (by simp)
  | cons y s=>
   have h2:=List.pairwise_cons.1 hb
   have e:x=y:=by
    have m1:=(h x).1 List.mem_cons_self
    have m2:=(h y).2 List.mem_cons_self
    rcases List.mem_cons.1 m1 with e | e
    ·exact e
    ·rcases List.mem_cons.1 m2 with e2 | e2
     ·exact e2.symm
     ·have:=h1.1 y e2;have:=h2.1 x e;omega
   subst e
   congr 1
   refine ih h1.2 h2.2 fun z=>⟨fun hz=> ?_,fun hz=> ?_⟩
   ·rcases List.mem_cons.1 ((h z).1 (List.mem_cons_of_mem _ hz))with e | e
    ·have:=h1.1 z hz;omega
    ·exact e
   ·rcases List.mem_cons.1 ((h z).2 (List.mem_cons_of_mem _ hz))with e | e
    ·have:=h2.1 z hz;omega
    ·exact e
theorem acF {l d:Li}(h1:SS d)(h2 : ∀y,y∈d↔y∈l):d=ds l:=WJ h1 (LG l) fun y=>by rw [h2,oC]
theorem WM (d:Li)(x:Int):(ins d x).length≤d.length+1:=by
 induction d with
 | nil=>simp [ins]
 | cons y r ih=>
  unfold ins
  split
  ·simp only [List.length_cons];omega
  ·split<;>simp
theorem wo (l:Li):(ds l).length≤l.length:=by
 have : ∀(l d:Li),(l.foldl ins d).length≤d.length+l.length:=by
  intro l
  induction l with
  | nil=>intro d;simp
  | cons x r ih=>intro d;have h1:=ih (ins d x);have h2:=WM d x;simp only [List.foldl_cons,List.length_cons];omega
 have:=this l []
 simpa [ds]using this
theorem JE {d:Li}{x:Int}(h:x∈d):idx d x<d.length∧d[idx d x]? = some x:=by
 induction d with
 | nil=>cases h
 | cons y r ih=>
  unfold idx
  by_cases e:y=x
  ·rw [if_pos e];simp [e]
  ·rw [if_neg e]
   have:=ih (by rcases List.mem_cons.1 h with h | h;exact absurd h.symm e;exact h)
   simp only [List.length_cons,List.getElem?_cons_succ]
   exact⟨by omega,this.2⟩
theorem lo_le {l:Li}{x:Int}(h:x∈l):lo l≤x∧lo l∈l:=by
 have hm:=(oC l x).2 h
 have hs:=LG l
 have hb:=fun y=>(oC l y)
 unfold lo
 cases hd:ds l with
 | nil=>rw [hd]at hm;cases hm
 | cons y r=>
  rw [hd]at hm hs
  have h1:=List.pairwise_cons.1 hs
  refine⟨?_,(hb y).1 (by rw [hd];exact List.mem_cons_self)⟩
  show y≤x
  rcases List.mem_cons.1 hm with e | e
  ·omega
  ·have:=h1.1 x e;omega
theorem WO {d:Li}(hs:SS d){x:Int}(h:x∈d):x≤d.getLastD 0∧d.getLastD 0∈d:=by
 induction d generalizing x with
 | nil=>cases h
 | cons y r ih=>
  have h1:=List.pairwise_cons.1 hs
  cases r with
  | nil=>simp at h ⊢;omega
  | cons z s=>
   have e:(y::z::s).getLastD 0=(z::s).getLastD 0:=by simp [List.getLastD]
   rw [e]
   have hz:=ih h1.2 (x:=z) List.mem_cons_self
   rcases List.mem_cons.1 h with h2 | h2
   ·have:=h1.1 z List.mem_cons_self
    exact⟨by omega,List.mem_cons_of_mem _ hz.2⟩
   ·have:=ih h1.2 h2
    exact⟨this.1,List.mem_cons_of_mem _ this.2⟩
theorem LH {l:Li}{x:Int}(h:x∈l):x≤hi l∧hi l∈l:=by
 have:=WO (LG l) ((oC l x).2 h)
 exact⟨this.1,(oC l _).1 this.2⟩
theorem gX : ∀(f u:Nat),u<2^f→u<2^wid f u∧wid f u≤f:=by
 intro f
 induction f with
 | zero=>intro u h;simp [wid]at h ⊢;omega
 | succ f ih=>
  intro u h
  unfold wid
  split
  ·simp [*]
  ·have:=ih (u/2) (by rw [Nat.pow_succ]at h;omega)
   refine⟨?_,by omega⟩
   rw [Nat.pow_succ]
   omega
theorem WQ : ∀(f u k:Nat),u<2^k→wid f u≤k:=by
 intro f
 induction f with
 | zero=>intro u k _;simp [wid]
 | succ f ih=>
  intro u k h
  unfold wid
  split
  ·omega
  ·cases k with
   | zero=>simp at h;omega
   | succ k=>have:=ih (u/2) k (by rw [Nat.pow_succ]at h;omega);omega
theorem JF (bit:Nat→Bool)(p j:Nat) : ∀t,BK bit p j t<2^t:=by
 intro t
 induction t with
 | zero=>simp [BK]
 | succ t ih=>unfold BK;rw [Nat.pow_succ];split<;>omega
theorem LJ (bit:Nat→Bool)(p j:Nat) : ∀t s,s<t→(BK bit p j t).testBit s=(decide (8*j+s<p)&&bit (8*j+s)):=by
 intro t
 induction t with
 | zero=>intro s h;omega
 | succ t ih=>
  intro s hs
  unfold BK
  have hl:=JF bit p j t
  have key : ∀c:Nat,c≤1→(BK bit p j t+c*2^t).testBit s=if s<t then(BK bit p j t).testBit s else decide (c=1):=by
   intro c hc
   rw [Nat.add_comm,Nat.mul_comm,Nat.testBit_two_pow_mul_add c hl]
   split
   ·rfl
   ·have:s-t=0:=by omega
    rw [this]
    have:c=0∨c=1:=by omega
    rcases this with rfl | rfl<;>rfl
  by_cases hb:8*j+t<p∧bit (8*j+t)=true
  ·rw [if_pos hb]
   have:=key 1 (Nat.le_refl _)
   rw [Nat.one_mul]at this
   rw [this]
   split
   ·exact ih s (by assumption)
   ·have e:s=t:=by omega
    subst e
    simp [hb.1,hb.2]
  ·rw [if_neg hb]
   have:=key 0 (Nat.zero_le _)
   rw [Nat.zero_mul]at this
   rw [this]
   split
   ·exact ih s (by assumption)
   ·have e:s=t:=by omega
    subst e
    by_cases h1:8*j+s<p
    ·have:bit (8*j+s)=false:=by
      cases hbb:bit (8*j+s)with
      | false=>rfl
      | true=>exact absurd ⟨h1,hbb⟩ hb
     simp [this]
    ·simp [h1]
theorem QN (bit:Nat→Bool)(p j:Nat) : ∀t,BK bit (p+1) j t=BK bit p j t+(if 8*j≤p∧p<8*j+t∧bit p=true then 2^(p-8*j)else 0):=by
 intro t
 induction t with
 | zero=>simp only [BK];rw [if_neg (by omega)]
 | succ t ih=>
  unfold BK
  rw [ih]
  by_cases hp:p=8*j+t
  ·subst hp
   have e:8*j+t-8*j=t:=by omega
   rw [e,if_neg (show ¬(8*j≤8*j+t∧8*j+t<8*j+t∧bit (8*j+t)=true) by omega),if_neg (show ¬(8*j+t<8*j+t∧bit (8*j+t)=true) by omega)]
   by_cases hb:bit (8*j+t)=true
   ·rw [if_pos ⟨by omega,hb⟩,if_pos ⟨by omega,by omega,hb⟩]
   ·rw [if_neg (by simp [hb]),if_neg (by simp [hb])]
  ·have e1:(8*j+t<p+1∧bit (8*j+t)=true)↔(8*j+t<p∧bit (8*j+t)=true):=by
    constructor<;>rintro⟨a,b⟩<;>exact⟨by omega,b⟩
   have e2:(8*j≤p∧p<8*j+(t+1)∧bit p=true)↔(8*j≤p∧p<8*j+t∧bit p=true):=by
    constructor<;>rintro⟨a,b,c⟩<;>exact⟨by omega,by omega,c⟩
   simp only [e1,e2]
   omega
theorem QO (bit:Nat→Bool)(j:Nat) : ∀t,BK bit 0 j t=0:=by
 intro t
 induction t with
 | zero=>rfl
 | succ t ih=>unfold BK;rw [ih,if_neg (by omega)]
theorem pk_len (bit:Nat→Bool)(n p:Nat):(pk bit n p).length=n:=by simp [pk]
theorem WR (bit:Nat→Bool)(n:Nat):pk bit n 0=List.replicate n 0:=by
 apply List.ext_getElem
 ·simp [pk]
 ·intro i h1 h2;simp [pk,QO]
theorem WT (bit:Nat→Bool)(n p:Nat):pk bit n (p+1)=(pk bit n p).set (p/8) (UInt8.ofNat (BK bit p (p/8) 8+(if bit p=true then 2^(p%8)else 0))):=by
 apply List.ext_getElem
 ·simp [pk]
 ·intro i h1 h2
  rw [List.getElem_set]
  simp only [pk,List.getElem_map,List.getElem_range]
  rw [QN]
  by_cases e:p/8=i
  ·rw [if_pos e]
   subst e
   have e1:p-8*(p/8)=p%8:=by omega
   rw [e1]
   by_cases hb:bit p=true
   ·rw [if_pos ⟨by omega,by omega,hb⟩,if_pos hb]
   ·rw [if_neg (by simp [hb]),if_neg hb]
  ·rw [if_neg e,if_neg (by omega)];rfl
theorem QS (n:Nat):zu (n:Int)=2*n:=by unfold zu;rw [if_neg (by omega)];omega
theorem WU {n:Int}(h:zu n<128):(num n).length=1:=by unfold num grp;rw [if_pos h];rfl
theorem WV {n:Int}(h:zu n<16384):(num n).length≤2:=by
 unfold num grp
 split
 ·simp
 ·unfold grp;rw [if_pos (by omega)];simp
theorem Aa {α:Type}(f:α→By)(c:Nat) : ∀l:List α,(∀x∈l,(f x).length≤c)→(l.flatMap f).length≤c*l.length:=by
 intro l
 induction l with
 | nil=>intro _;simp
 | cons x r ih=>
  intro h
  have h1:=h x List.mem_cons_self
  have h2:=ih fun y hy=>h y (List.mem_cons_of_mem _ hy)
  rw [List.flatMap_cons,List.length_append,List.length_cons,Nat.mul_succ]
  omega
theorem Ad (l:Li):(b1 l).length≤10*l.length:=Aa num 10 l fun x _=>(bF x).2
theorem aat (l:Li):(rl l).length≤l.length:=by
 induction l with
 | nil=>simp [rl]
 | cons x r ih=>
  simp only [rl]
  split
  ·simp
  ·rename_i p t e
   rw [e]at ih
   simp only [List.length_cons]at ih
   split<;>simp only [List.length_cons]<;>omega
theorem WW (p:Int×Nat):(enP p).length≤20:=by
 have h1:=bF p.1;have h2:=bF p.2
 unfold enP;rw [List.length_append];omega
theorem QU (l:Li):(b2 l).length≤20*l.length:=by
 have h1:=Aa enP 20 (rl l) fun x _=>WW x
 have h2:=aat l
 unfold b2;omega
theorem st_len (l:Li) : ∀p,(st p l).length≤10*l.length:=by
 induction l with
 | nil=>intro p;simp [st]
 | cons x r ih=>intro p;have h1:=ih x;have h2:=bF (Bo (x-p));simp only [st,List.length_append,List.length_cons];omega
theorem aau (l:Li):(b4 l).length≤10+20*l.length:=by
 have h1:=bF (ds l).length
 have h2:=Ad (ds l)
 have h3:=wo l
 have h4:=Aa (fun x=>num (idx (ds l) x)) 10 l fun x _=>(bF _).2
 unfold b4
 simp only [List.length_append]
 omega
theorem LK (l:Li)(h:cO l):wd l≤64:=by
 unfold wd
 cases l with
 | nil=>decide
 | cons x r=>
  have h1:=lo_le (l:=x::r) (x:=x) List.mem_cons_self
  have h2:=LH (l:=x::r) (x:=x) List.mem_cons_self
  have h3:=h _ h1.2
  have h4:=h _ h2.2
  unfold I64 at h3 h4
  exact(gX 64 _ (by unfold dif;omega)).2
theorem aav (n w:Nat)(h:w≤64):uI n w≤8*n+1:=by
 unfold uI
 have:=Nat.mul_le_mul_left n h
 omega
theorem aaw (l:Li)(h:cO l):(b5 l).length≤21+8*l.length:=by
 have h1:=bF (lo l)
 have h2:=bF (wd l)
 have h3:=aav l.length (wd l) (LK l h)
 unfold b5
 simp only [List.length_append,pk_len]
 omega
theorem aax (k:Nat)(l:Li)(h:cO l):(bd k l).length≤21+20*l.length:=by
 have h1:=Ad l;have h2:=QU l;have h3:=st_len l 0;have h4:=aau l;have h5:=aaw l h
 unfold bd
 split
 ·omega
 ·omega
 ·unfold b3;omega
 ·omega
 ·omega
theorem aay (k:Nat)(l:Li)(h:cO l):(en k l).length≤41+20*l.length:=by
 have h1:=aax k l h;have h2:=bF k;have h3:=bF l.length
 unfold en;simp only [List.length_append];omega
theorem aaz (k:Nat)(l:Li):0<(en k l).length:=by
 have h2:=bF k
 unfold en;simp only [List.length_append];omega
theorem acG (a b:By):(sh a b).length≤a.length∧(sh a b).length≤b.length:=by unfold sh;split<;>omega
theorem acH (a b:By):sh a b=a∨sh a b=b:=by unfold sh;split;exact .inr rfl;exact .inl rfl
theorem WX (l:Li) : ∀k j,j≤k→(best l k).length≤(en (j+1) l).length:=by
 intro k
 induction k with
 | zero=>
  intro j h
  have:j=0:=by omega
  subst this;exact Nat.le_refl _
 | succ k ih=>
  intro j h
  have h1:=acG (best l k) (en (k+2) l)
  show (sh _ _).length≤_
  by_cases e:j=k+1
  ·subst e;exact h1.2
  ·exact Nat.le_trans h1.1 (ih j (by omega))
theorem LM (l:Li) : ∀k, ∃j,j≤k∧best l k=en (j+1) l:=by
 intro k
 induction k with
 | zero=>exact⟨0,Nat.le_refl _,rfl⟩
 | succ k ih=>
  obtain⟨j,h1,h2⟩:=ih
  rcases acH (best l k) (en (k+2) l)with e | e
  ·exact⟨j,by omega,by rw [←h2];exact e⟩
  ·exact⟨k+1,Nat.le_refl _,e⟩
theorem WY {l:Li}(h:l≠ []){k:Nat}(h1:1≤k)(h2:k≤5):(ints l).length≤(en k l).length:=by
 unfold ints
 rw [if_neg h]
 obtain⟨j,rfl⟩ : ∃j,k=j+1:=⟨k-1,by omega⟩
 exact WX l 4 j (by omega)
theorem WZ {l:Li}(h:l≠ []) : ∃k:Nat,1≤k∧k≤5∧ints l=en k l:=by
 unfold ints
 rw [if_neg h]
 obtain⟨j,h1,h2⟩:=LM l 4
 exact⟨j+1,by omega,by omega,h2⟩
theorem QV (l:Li)(h:l.length≤512):(ints l).length≤10*l.length+4:=by
 by_cases e:l = []
 ·subst e;decide
 ·refine Nat.le_trans (WY e (k:=1) (by omega) (by omega)) ?_
  have h1:=Ad l
  have h2:(num (1:Nat)).length=1:=WU (by rw [QS];omega)
  have h3:(num l.length).length≤2:=WV (by rw [QS];omega)
  show (num (1:Nat)++num l.length++b1 l).length≤_
  simp only [List.length_append]
  omega
theorem bY (l:Li)(h:l.length≤512):(ints l).length≤5124:=by have:=QV l h;omega
theorem Ae (n:Int):Bo n=(n+9223372036854775808)%18446744073709551616-9223372036854775808:=by
 have e:Go.IntKind.i64.bits=64:=rfl
 have s:Go.IntKind.i64.signed=true:=rfl
 simp only [Bo,Go.IntKind.wrap,e,s,Bool.true_and,decide_eq_true_eq]
 split<;>omega
theorem LP (n:Int):I64 (Bo n):=by rw [Ae];unfold I64;omega
theorem QW {n:Int}(h:I64 n):Bo n=n:=by rw [Ae];unfold I64 at h;omega
def Pr (b:By)(n:Nat)(body:Li→By)(Q:Li→By→Prop):Prop:= ∀l0 r,cO l0→l0.length=n→b=body l0++r→Q l0 r
theorem Pr.mono {b:By}{n:Nat}{body:Li→By}{Q Q':Li→By→Prop}(h:Pr b n body Q)(k : ∀l0 r,cO l0→l0.length=n→Q l0 r→Q' l0 r):Pr b n body Q':=
 fun l0 r h1 h2 h3=>k l0 r h1 h2 (h l0 r h1 h2 h3)
theorem Pr.start (b:By)(n:Nat)(body:Li→By):Pr b n body fun l0 r=>b=body l0++r:=fun _ _ _ _ h=>h
def JG (body:Li→By)(b:By)(n:Nat)(l:Li)(ok:Bool):Prop:=cO l∧l.length≤n∧Pr b n body fun l0 _=>ok=true∧l=l0
theorem JH {y:Int}{z b:By}{e:Int}(hy:I64 y)(he:e=0)(h:b=num y++z):(bT b e).1=y∧(bT b e).2.2=0∧b.drop (bT b e).2.1=z:=by
 subst he;subst h
 rw [jl hy]
 exact⟨rfl,rfl,List.drop_left⟩
theorem cO.at {l:Li}{i:Nat}{x:Int}(h:cO l)(e:l[i]? = some x):I64 x:=h x (List.mem_of_getElem? e)
theorem cO.snoc {l:Li}{x:Int}(h:cO l)(hx:I64 x):cO (l++ [x]):=fun y hy=>by
 rcases List.mem_append.1 hy with e | e
 ·exact h y e
 ·rw [List.mem_singleton.1 e];exact hx
theorem cO.app {l m:Li}(h:cO l)(hm:cO m):cO (l++m):=fun y hy=>(List.mem_append.1 hy).elim (h y) (hm y)
theorem cO.nil:cO []:=fun _ h=>absurd h (by simp)
theorem cO.rep {x:Int}(hx:I64 x)(k:Nat):cO (List.replicate k x):=fun y hy=>by rw [List.eq_of_mem_replicate hy];exact hx
def Q1 (b':By)(out:Li)(e:Int)(l0:Li)(r:By):Prop:=e=0∧∃rest,l0=out++rest∧b'=b1 rest++r
theorem Q1.start {b:By}{l0:Li}{r:By}(h:b=b1 l0++r):Q1 b [] 0 l0 r:=⟨rfl,l0,rfl,h⟩
theorem Q1.step {b':By}{out:Li}{e:Int}{l0:Li}{r:By}(ha:cO l0)(hlt:out.length<l0.length)(h:Q1 b' out e l0 r) :
  Q1 (b'.drop (bT b' e).2.1) (out++ [(bT b' e).1]) (bT b' e).2.2 l0 r:=by
 obtain⟨he,rest,h1,h2⟩:=h
 cases rest with
 | nil=>rw [h1]at hlt;simp at hlt
 | cons y rest=>
  have hy:I64 y:=ha y (by rw [h1];simp)
  have:=JH (b:=b') (z:=b1 rest++r) hy he (by rw [h2];simp [b1])
  rw [this.1,this.2.1,this.2.2]
  exact⟨rfl,rest,by rw [h1];simp,rfl⟩
theorem Q1.fin {b':By}{out:Li}{e:Int}{l0:Li}{r:By}(hlen:e=0→out.length=l0.length)(h:Q1 b' out e l0 r):e=0∧out=l0∧b'=r:=by
 obtain⟨he,rest,h1,h2⟩:=h
 have:=hlen he
 have hr:rest = []:=by
  rw [h1,List.length_append]at this
  exact List.eq_nil_of_length_eq_zero (by omega)
 subst hr
 exact⟨he,by rw [h1];simp,by rw [h2];simp [b1]⟩
def dl:Int→Li→Li
 | _,[]=> []
 | p,x::r=>Bo (x-p)::dl x r
theorem acI (l:Li) : ∀p,st p l=b1 (dl p l):=by
 induction l with
 | nil=>intro p;rfl
 | cons x r ih=>intro p;simp only [st,dl,b1,List.flatMap_cons];rw [ih x];rfl
theorem aaA (l:Li) : ∀p,(dl p l).length=l.length:=by
 induction l with
 | nil=>intro p;rfl
 | cons x r ih=>intro p;simp [dl,ih]
theorem aaB (l:Li) : ∀p,cO (dl p l):=by
 induction l with
 | nil=>intro p;exact cO.nil
 | cons x r ih=>
  intro p y hy
  rcases List.mem_cons.1 hy with e | e
  ·rw [e];exact LP _
  ·exact ih x y e
def sm:Int→Li→Li
 | _,[]=> []
 | p,y::r=>Bo (p+y)::sm (Bo (p+y)) r
theorem QX {p x:Int}(h:I64 x):Bo (p+Bo (x-p))=x:=by simp only [Ae];unfold I64 at h;omega
theorem acJ (l:Li) : ∀p,cO l→sm p (dl p l)=l:=by
 induction l with
 | nil=>intro p _;rfl
 | cons x r ih=>
  intro p h
  have hx:I64 x:=h x List.mem_cons_self
  simp only [dl,sm,QX hx]
  rw [ih x fun y hy=>h y (List.mem_cons_of_mem _ hy)]
theorem pJ (d:Li) : ∀p,(sm p d).length=d.length:=by
 induction d with
 | nil=>intro p;rfl
 | cons x r ih=>intro p;simp [sm,ih]
theorem aaC (d:Li) : ∀p,cO (sm p d):=by
 induction d with
 | nil=>intro p;exact cO.nil
 | cons x r ih=>
  intro p y hy
  rcases List.mem_cons.1 hy with e | e
  ·rw [e];exact LP _
  ·exact ih _ y e
theorem sm_at (d:Li) : ∀(p:Int) (i:Nat),i+1<d.length→(sm p d)[i+1]? = some (Bo ((sm p d).getD i 0+d.getD (i+1) 0)):=by
 induction d with
 | nil=>intro p i h;simp at h
 | cons x r ih=>
  intro p i h
  cases i with
  | zero=>
   cases r with
   | nil=>simp at h
   | cons y r=>simp [sm]
  | succ i=>
   have:=ih (Bo (p+x)) i (by simp at h ⊢;omega)
   simp only [sm,List.getElem?_cons_succ]
   rw [this]
   simp
theorem QY (l:Li)(h:l≠ []) : ∃y m t,l=List.replicate (m+1) y++t∧rl l=(y,m+1)::rl t:=by
 induction l with
 | nil=>exact absurd rfl h
 | cons x r ih=>
  by_cases hr:r = []
  ·subst hr;exact⟨x,0,[],rfl,rfl⟩
  ·obtain⟨y,m,t,h1,h2⟩:=ih hr
   by_cases e:x=y
   ·subst e
    refine⟨x,m+1,t, ?_, ?_⟩
    ·rw [h1,List.replicate_succ (n:=m+1)];rfl
    ·simp only [rl,h2];simp
   ·refine⟨x,0,r,rfl, ?_⟩
    simp only [rl,h2]
    rw [if_neg e]
def Q2 (b':By)(out:Li)(e:Int)(l0:Li)(r:By):Prop:=e=0∧∃rest,l0=out++rest∧b'=b2 rest++r
theorem Q2.start {b:By}{l0:Li}{r:By}(h:b=b2 l0++r):Q2 b [] 0 l0 r:=⟨rfl,l0,rfl,h⟩
theorem Q2.step {b':By}{out:Li}{e:Int}{l0:Li}{r:By}(ha:cO l0)(hl:l0.length≤9223372036854775807)(hlt:out.length<l0.length)(h:Q2 b' out e l0 r) :
  ∃m:Nat,(bT (b'.drop (bT b' e).2.1) (bT b' e).2.2).2.2=0∧(bT (b'.drop (bT b' e).2.1) (bT b' e).2.2).1=((m+1:Nat):Int)∧m+1+out.length≤l0.length∧
   Q2 ((b'.drop (bT b' e).2.1).drop (bT (b'.drop (bT b' e).2.1) (bT b' e).2.2).2.1) (out++List.replicate (m+1) (bT b' e).1) 0 l0 r:=by
 obtain⟨he,rest,h1,h2⟩:=h
 have hne:rest≠ []:=by rintro rfl;rw [h1]at hlt;simp at hlt
 obtain⟨y,m,t,h3,h4⟩:=QY rest hne
 have hy:I64 y:=ha y (by rw [h1,h3];simp)
 have hlen:m+1+out.length≤l0.length:=by rw [h1,h3];simp;omega
 have r1:=JH (b:=b') (z:=num ((m+1:Nat):Int)++(b2 t++r)) hy he (by rw [h2,b2,h4];simp [enP,b2])
 rw [r1.1,r1.2.1,r1.2.2]
 have r2:=JH (e:=0) (bW (by omega:m+1≤9223372036854775807)) rfl (rfl:num ((m+1:Nat):Int)++(b2 t++r)=_)
 refine⟨m,r2.2.1,r2.1,hlen, ?_⟩
 rw [r2.2.2]
 exact⟨rfl,t,by rw [h1,h3];simp,rfl⟩
theorem Q2.fin {b':By}{out:Li}{e:Int}{l0:Li}{r:By}(hlen:out.length=l0.length)(h:Q2 b' out e l0 r):out=l0∧b'=r:=by
 obtain⟨_,rest,h1,h2⟩:=h
 have hr:rest = []:=by
  rw [h1,List.length_append]at hlen
  exact List.eq_nil_of_length_eq_zero (by omega)
 subst hr
 exact⟨by rw [h1];simp,by rw [h2];simp [b2,rl]⟩
def ixs (d l:Li):By:=l.flatMap fun x=>num (idx d x)
def Q4k (k:Int)(b':By)(keys:Li)(e:Int)(l0:Li)(r:By):Prop:=k=(ds l0).length∧Q1 b' keys e (ds l0) (ixs (ds l0) l0++r)
theorem Q4k.start {b:By}{n:Nat}(hn:n≤512){most em:Int}(hm:(n:Int)≤most):Pr b n b4 fun l0 r=>(iT b 0 most em).2.2=0∧Q4k (iT b 0 most em).1 (b.drop (iT b 0 most em).2.1) [] (iT b 0 most em).2.2 l0 r:=fun l0 r _ hl h=>by
 have hd:=wo l0
 have r1:=JH (b:=b) (z:=b1 (ds l0)++(ixs (ds l0) l0++r)) (e:=0) (bW (by omega:(ds l0).length≤9223372036854775807)) rfl (by rw [h];simp [b4,ixs])
 have e1:(iT b 0 most em).2.2=0:=by
  simp only [iT]
  rw [r1.1,r1.2.1,if_pos rfl,if_neg (by omega),if_neg (by omega)]
 have e2:(iT b 0 most em).1=(ds l0).length:=by
  have:(iT b 0 most em).1=if(iT b 0 most em).2.2=0 then(bT b 0).1 else 0:=rfl
  rw [this,if_pos e1,r1.1]
 have e3:(iT b 0 most em).2.1=(bT b 0).2.1:=rfl
 refine⟨e1, ?_⟩
 rw [e2,e1,e3,r1.2.2]
 exact⟨rfl,Q1.start rfl⟩
def Q4 (keys:Li)(b':By)(out:Li)(e:Int)(l0:Li)(r:By):Prop:=keys=ds l0∧e=0∧∃rest,l0=out++rest∧b'=ixs (ds l0) rest++r
theorem Q4.start {k:Int}{b':By}{keys:Li}{e:Int}{l0:Li}{r:By}(hlen:e=0→(keys.length:Int)=k)(h:Q4k k b' keys e l0 r):Q4 keys b' [] e l0 r:=by
 obtain⟨h1,h2⟩:=h
 have:=h2.fin fun he=>by have:=hlen he;omega
 exact⟨this.2.1,this.1,l0,rfl,this.2.2⟩
theorem Q4.step {keys:Li}{b':By}{out:Li}{e:Int}{l0:Li}{r:By}(hl:l0.length≤512)(hlt:out.length<l0.length)(h:Q4 keys b' out e l0 r) :
  ∃(i:Nat) (x:Int),(bT b' e).2.2=0∧(bT b' e).1=(i:Int)∧keys[i]? = some x∧Q4 keys (b'.drop (bT b' e).2.1) (out++ [x]) 0 l0 r:=by
 obtain⟨hk,he,rest,h1,h2⟩:=h
 cases rest with
 | nil=>rw [h1]at hlt;simp at hlt
 | cons y rest=>
  have hm:y∈ds l0:=(oC l0 y).2 (by rw [h1];simp)
  have hi:=JE hm
  have hd:=wo l0
  have r1:=JH (b:=b') (z:=ixs (ds l0) rest++r) (bW (by omega:idx (ds l0) y≤9223372036854775807)) he (by rw [h2];simp [ixs])
  refine⟨idx (ds l0) y,y,r1.2.1,r1.1,by rw [hk];exact hi.2,hk,rfl,rest,by rw [h1];simp,r1.2.2⟩
theorem Q4.fin {keys:Li}{b':By}{out:Li}{e:Int}{l0:Li}{r:By}(hlen:out.length=l0.length)(h:Q4 keys b' out e l0 r):out=l0∧b'=r:=by
 obtain⟨_,_,rest,h1,h2⟩:=h
 have hr:rest = []:=by
  rw [h1,List.length_append]at hlen
  exact List.eq_nil_of_length_eq_zero (by omega)
 subst hr
 exact⟨by rw [h1];simp,by rw [h2];simp [ixs]⟩
def Q5 (least:Int)(w:Nat)(b':By)(l0:Li)(r:By):Prop:=least=lo l0∧w=wd l0∧b'=pk (rG (lo l0) (wd l0) l0) (uI l0.length (wd l0)) (l0.length*wd l0)++r
theorem aaD {l:Li}(h:cO l){x:Int}(hx:x∈l):dif (lo l) x<2^wd l:=by
 have h1:=lo_le hx
 have h2:=LH hx
 have h3:=h _ h1.2
 have h4:=h _ h2.2
 unfold I64 at h3 h4
 have h5:=(gX 64 (dif (lo l) (hi l)) (by unfold dif;omega)).1
 refine Nat.lt_of_le_of_lt ?_ h5
 unfold dif;omega
theorem Q5.bit {least:Int}{w:Nat}{b':By}{l0:Li}{r:By}(h:Q5 least w b' l0 r){i k:Nat}(hi:i<l0.length)(hk:k<w) :
  ∃c,b'[(i*w+k)/8]? = some c∧c.toNat.testBit ((i*w+k)%8)=(dif least (l0.getD i 0)).testBit k:=by
 obtain⟨h1,h2,h3⟩:=h
 subst h2
 have hw:0<wd l0:=by omega
 have hat:i*wd l0+k<l0.length*wd l0:=by
  have:=Nat.mul_le_mul_right (wd l0) (show i+1≤l0.length from hi)
  rw [Nat.add_mul,Nat.one_mul]at this;omega
 have h8:(i*wd l0+k)/8<uI l0.length (wd l0):=by unfold uI;omega
 refine⟨UInt8.ofNat (BK (rG (lo l0) (wd l0) l0) (l0.length*wd l0) ((i*wd l0+k)/8) 8),by rw [h3,List.getElem?_append_left (by rw [pk_len];exact h8)];simp only [pk,List.getElem?_map,List.getElem?_range h8,Option.map_some], ?_⟩
 have hlt:=JF (rG (lo l0) (wd l0) l0) (l0.length*wd l0) ((i*wd l0+k)/8) 8
 rw [toNat_ofNat (by omega),LJ _ _ _ _ _ (by omega)]
 have e:8*((i*wd l0+k)/8)+(i*wd l0+k)%8=i*wd l0+k:=by omega
 rw [e,decide_eq_true hat,Bool.true_and,h1]
 unfold rG
 have e1:(i*wd l0+k)/wd l0=i:=by rw [Nat.mul_comm,Nat.mul_add_div hw,Nat.div_eq_of_lt hk,Nat.add_zero]
 have e2:(i*wd l0+k)%wd l0=k:=by rw [Nat.mul_comm,Nat.mul_add_mod,Nat.mod_eq_of_lt hk]
 rw [e1,e2]
theorem JI (c s:Nat):c/2^s%2=if c.testBit s=true then 1 else 0:=by
 rw [Nat.testBit_eq_decide_div_mod_eq]
 by_cases h:c/2^s%2=1
 ·simp [h]
 ·have:c/2^s%2=0:=by omega
  simp [this]
theorem W9 (x k:Nat):x%2^(k+1)=x%2^k+(if x.testBit k=true then 1 else 0)*2^k:=by
 rw [Nat.pow_succ,Nat.mod_mul,JI,Nat.mul_comm (2^k)]
theorem Q5.val {least:Int}{w:Nat}{b':By}{l0:Li}{r:By}(h:Q5 least w b' l0 r)(ha:cO l0){i:Nat}{x:Int}(hx:l0[i]? = some x):Bo (least+(dif least (l0.getD i 0)%2^w:Nat))=x:=by
 obtain⟨h1,h2,_⟩:=h
 have hm:=List.mem_of_getElem? hx
 have e:l0.getD i 0=x:=by rw [List.getD_eq_getElem?_getD,hx];rfl
 have h3:=aaD ha hm
 have h4:=lo_le hm
 rw [e,h1,h2,Nat.mod_eq_of_lt h3]
 have:lo l0+(dif (lo l0) x:Nat)=x:=by unfold dif;omega
 rw [this]
 exact QW (ha x hm)
theorem Q5.size {least:Int}{w:Nat}{b':By}{l0:Li}{r:By}(h:Q5 least w b' l0 r):uI l0.length w≤b'.length:=by
 obtain⟨_,h2,h3⟩:=h
 rw [h3,h2,List.length_append,pk_len];omega
attribute [local irreducible] loadVar storeVar Instr.indexAt Instr.index Instr.sliceAt Instr.makeSlice Instr.lookup Instr.mapUpdate Instr.range Instr.next Instr.entry Instr.makeMap Builtin.append_ Builtin.copy_ Builtin.len_ Builtin.min_ Builtin.max_ Builtin.cap_ Builtin.delete_ Builtin.clear_ convert binOp eqGuard Op.unary Calls
section
open Go Go.RowKit Go.Proofs Go.Proofs.YtocckceefcmeaaaGreatDoor.Vc Go.Proofs.YtocckceefcmeaaaGreatDoor.Ax
def Af (b:By):List FV:= [.lst 1 (b.map dW)]
abbrev ss (l:List By):AV:= .lst 1 (l.map Af)
theorem CW {F:Nat→Prop}{w:World}{b:By}{v:Value}(h:dV F w (.lst 1 (b.map dW)) v)(hF : ∀b,F b→b<w.heap.size) :
  ∃oa c,v = .slice oa b.length c∧b.length≤c∧(oa=none→c=0)∧Row w oa (dw b):=by
 obtain⟨oa,m,c,news,rfl,hm,hc,hn,hr,h1,h2,h3,h4⟩:=sH h hF
 rw [List.length_map]at hm h2
 subst hm
 refine⟨oa,c,rfl,hc,hn, ?_⟩
 have e:news=dw b:=by
  refine List.ext_getElem? fun i=> ?_
  by_cases hi:i<b.length
  ·have hl:i<news.length:=by omega
   have hx:=h4 i 0 (dW b[i]) _ news[i] (by rw [List.getElem?_map,List.getElem?_eq_getElem hi];rfl) rfl (by rw [Nat.mul_one,Nat.add_zero];exact List.getElem?_eq_getElem hl)
   rw [List.getElem?_eq_getElem hl]
   generalize news[i]=x at hx
   cases hx
   simp [dw,hi]
  ·rw [List.getElem?_eq_none (by omega),List.getElem?_eq_none (by simp [dw];omega)]
 rw [←e];exact hr
theorem Xa {F:Nat→Prop}{w:World}{ls:List By}{v:Value}(h:dV F w (.lst 1 (ls.map Af)) v)(hF : ∀b,F b→b<w.heap.size) :
  ∃oa c vs,v = .slice oa ls.length c∧Row w oa vs∧Dg.Z5 w vs ls:=by
 obtain⟨oa,m,c,news,rfl,hm,hc,hn,hr,h1,h2,h3,h4⟩:=sH h hF
 rw [List.length_map]at hm h2
 subst hm
 refine⟨oa,c,news,rfl,hr,by omega,fun i hi=> ?_⟩
 have hl:i<news.length:=by omega
 have hx:=h4 i 0 (Af ls[i]) _ news[i] (by rw [List.getElem?_map,List.getElem?_eq_getElem hi];rfl) rfl (by rw [Nat.mul_one,Nat.add_zero];exact List.getElem?_eq_getElem hl)
 obtain⟨iq,c',e,q1,q2,q3⟩:=CW hx hF
 exact⟨iq,c',by rw [List.getElem?_eq_getElem hl,e],q1,q2,q3⟩
def hsh (d:Int)(ls:List By):Int:=Dg.Ei d 0 (Dg.frame ls)
theorem QZ {P:Program}{G:Glob}{f:FuncId}{d:Int}{ls:List By}(h : ∀(oa:Option Addr) (c:Nat) (vs:List Value) (w:World),Row w oa vs→Dg.Z5 w vs ls→wQ P f #[.int .u64 d, .slice oa ls.length c] w fun v w'=>v = .int .u64 (Dg.Ei d 0 (Dg.frame ls))∧Below w.heap.size w w') :
  bD P G f [.v (.int .u64 d),ss ls] 0 [] (Is (.v (.int .u64 (hsh d ls)))):=by
 intro w σ F vs st r
 match vs,r with
 | [x,y],⟨rx,ry,_⟩=>
  rw [rx.dH]
  cases ry with
  | lst hy=>
   obtain⟨oa,c,us,rfl,hr,hf⟩:=Xa hy fun b hb=>(st.dL b hb).1
   refine(h oa c us w hr hf).mono fun v w' ⟨e,hB⟩=> ?_
   subst e
   have hE:Ext 0 σ F w 0 σ F w':=⟨Nat.le_refl _,fun _ _=>rfl,fun b hb=>⟨hb,hB.block b (st.dL b hb).1⟩,hB.size⟩
   exact⟨_,0,σ,F,[],⟨rfl,rfl,rfl⟩,⟨Glob.gI st.glob hB.size fun b hb=>hB.block b (Nat.lt_of_lt_of_le hb st.glob.1),(qE.jF hB).mono fun _ _ h=>h.elim,fun b hb=>⟨Nat.lt_of_lt_of_le (st.dL b hb).1 hB.size, .inl hb⟩,
    (fun aT b h=>by cases h),(fun aT b g h=>by cases h),(fun aT qF b b' g h=>by cases h),(fun aT b h=>by cases h)⟩,hE, .v _⟩
theorem acK (G:Glob)(d:Int)(ls:List By)(h1:ls.length≤1000)(h2:(Dg.frame ls).length≤140737488355328):bD Tryz.prog G 69 [.v (.int .u64 d),ss ls] 0 [] (Is (.v (.int .u64 (hsh d ls)))):=
 QZ fun oa c vs w hr hf=>Dg.VT d oa c vs ls w (by omega) h2 hr hf
end
section
open Go Go.RowKit Go.Proofs Go.Proofs.YtocckceefcmeaaaGreatDoor.Vc Go.Proofs.YtocckceefcmeaaaGreatDoor.Ax
abbrev bt (n:Nat):UInt8:=UInt8.ofNat n
def be (k n:Nat):By:=(List.range k).map fun j=>bt (n/2^(8*(k-1-j)))
theorem lQ (k n:Nat):(be k n).length=k:=by simp [be]
theorem Xb (k n:Nat):be (k+1) n=be k (n/256)++ [bt n]:=by
 unfold be
 rw [List.range_succ,List.map_append]
 congr 1
 ·refine List.map_congr_left fun j hj=> ?_
  have hj:=List.mem_range.1 hj
  rw [Nat.div_div_eq_div_mul,show 8*(k+1-1-j)=8*(k-1-j)+8 by omega,Nat.pow_add,Nat.mul_comm]
 ·simp
def Um (b:By):Nat:=b.foldl (fun n c=>n*256+c.toNat) 0
theorem GZ (b:By)(c:UInt8):Um (b++ [c])=Um b*256+c.toNat:=by simp [Um]
theorem Ag (n:Nat):(bt n).toNat=n%256:=by simp
theorem Q7 : ∀(k n:Nat),n<256^k→Um (be k n)=n:=by
 intro k
 induction k with
 | zero=>
  intro n h
  have:n=0:=by simpa using h
  subst this;rfl
 | succ k ih=>
  intro n h
  rw [Nat.pow_succ]at h
  rw [Xb,GZ,ih _ (by omega),Ag]
  omega
theorem aaE : ∀(b:By),Um b<256^b.length:=by
 intro b
 suffices h : ∀(r:By),Um r.reverse<256^r.length by
  have:=h b.reverse
  rwa [List.reverse_reverse,List.length_reverse]at this
 intro r
 induction r with
 | nil=>decide
 | cons c r ih=>
  rw [List.reverse_cons,GZ,List.length_cons,Nat.pow_succ]
  have:=c.toNat_lt
  omega
def hd (g f i n:Nat):By:=be 4 g++be 2 f++ [bt i,bt n]
theorem tu (g f i n:Nat):(hd g f i n).length=8:=by simp [hd,lQ]
def hw (g f i n:Nat)(d:By):Nat:=(hsh 101 [hd g f i n,d]).toNat
def sec (g f i n:Nat)(d:By):By:=hd g f i n++be 8 (hw g f i n d)++d
theorem LQ (g f i n:Nat)(d:By):(sec g f i n d).length=16+d.length:=by
 unfold sec;rw [List.length_append,List.length_append,tu,lQ]
theorem G5 (g f i n:Nat)(d:By):(sec g f i n d).drop 16=d:=by
 unfold sec;rw [List.drop_left' (by rw [List.length_append,tu,lQ])]
theorem Q8 (g f i n:Nat)(d:By):(sec g f i n d).take 8=hd g f i n:=by
 unfold sec;rw [List.append_assoc,List.take_left' (tu _ _ _ _)]
def hG (s:By):Nat:=Um (s.take 4)
def hF (s:By):Nat:=Um ((s.drop 4).take 2)
def hI (s:By):Nat:=(s.getD 6 0).toNat
def hN (s:By):Nat:=(s.getD 7 0).toNat
theorem Q9 {g f i n:Nat}(d:By)(h:g<4294967296):hG (sec g f i n d)=g:=by
 have e:(sec g f i n d).take 4=be 4 g:=by
  have:=congrArg (List.take 4) (Q8 g f i n d)
  rw [List.take_take,show min 4 8=4 from rfl]at this
  rw [this];unfold hd;rw [List.append_assoc,List.take_left' (lQ _ _)]
 unfold hG;rw [e];exact Q7 4 g h
theorem Rf {g f i n:Nat}(d:By)(h:f<65536):hF (sec g f i n d)=f:=by
 have e:((sec g f i n d).drop 4).take 2=be 2 f:=by
  unfold sec hd
  rw [List.append_assoc,List.append_assoc,List.append_assoc,List.drop_left' (lQ _ _),List.take_left' (lQ _ _)]
 unfold hF;rw [e];exact Q7 2 f h
theorem Rh (g f i n:Nat)(d:By):(sec g f i n d)[6]? = some (bt i)∧(sec g f i n d)[7]? = some (bt n):=by
 have e : ∀k,k<2→(sec g f i n d)[6+k]? = [bt i,bt n][k]? :=fun k hk=>by
  unfold sec hd
  have hl:(be 4 g++be 2 f).length=6:=by rw [List.length_append,lQ,lQ]
  rw [List.append_assoc (be 4 g++be 2 f),List.append_assoc (be 4 g++be 2 f),List.getElem?_append_right (by omega),hl,Nat.add_sub_cancel_left,List.append_assoc,List.getElem?_append_left (by simpa using hk)]
 exact⟨e 0 (by decide),e 1 (by decide)⟩
theorem Ri {g f i n:Nat}(d:By)(h:i<256):hI (sec g f i n d)=i:=by
 unfold hI
 rw [List.getD_eq_getElem?_getD,(Rh g f i n d).1,Option.getD_some,Ag];omega
theorem Rj {g f i n:Nat}(d:By)(h:n<256):hN (sec g f i n d)=n:=by
 unfold hN
 rw [List.getD_eq_getElem?_getD,(Rh g f i n d).2,Option.getD_some,Ag];omega
def kC (s:By):Bool:=decide (s.length=64)&&(decide (0<hG s)&&(decide (hI s<hN s)&&decide (s=sec (hG s) (hF s) (hI s) (hN s) (s.drop 16))))
def dat (b:By):By:=num (b.length:Int)++b
def nS (b:By):Nat:=((dat b).length+47)/48
def pad (b:By):By:=dat b++List.replicate (nS b*48 -(dat b).length) 0
def prt (b:By)(i:Nat):By:=((pad b).drop (i*48)).take 48
def wu (g f:Nat)(b:By)(i:Nat):List By:=(List.range i).map fun j=>sec g f j (nS b) (prt b j)
def secs (g f:Nat)(b:By):List By:=wu g f b (nS b)
def kJ (g f:Int)(b:By):Int:=if g<1∨4294967295<g∨f<0∨65535<f then 3 else if 255<nS b then 4 else 0
def qO (g f:Int)(b:By):List By:=if kJ g f b=0 then secs g.toNat f.toNat b else []
theorem Xc (b:By):0<(dat b).length:=by
 unfold dat;rw [List.length_append];have:=(bF (b.length:Int)).1;omega
theorem JJ (b:By):0<nS b:=by unfold nS;have:=Xc b;omega
theorem Et (b:By):(pad b).length=nS b*48:=by
 unfold pad nS;rw [List.length_append,List.length_replicate];omega
theorem Eu {b:By}{i:Nat}(h:i<nS b):(prt b i).length=48:=by
 unfold prt;rw [List.length_take,List.length_drop,Et];omega
theorem Ah (g f:Nat)(b:By)(i:Nat):(wu g f b i).length=i:=by simp [wu]
theorem Ob (g f:Nat)(b:By)(i:Nat):wu g f b (i+1)=wu g f b i++ [sec g f i (nS b) (prt b i)]:=by simp [wu,List.range_succ]
theorem Rk {g f:Nat}{b:By}{i j:Nat}(h:j<i):(wu g f b i)[j]? = some (sec g f j (nS b) (prt b j)):=by
 simp [wu,h]
theorem dX (g f:Nat)(b:By):(secs g f b).length=nS b:=Ah _ _ _ _
theorem G6 {g f:Nat}{b s:By}(h:s∈secs g f b):s.length=64:=by
 simp only [secs,wu,List.mem_map,List.mem_range]at h
 obtain⟨j,hj,rfl⟩:=h
 rw [LQ,Eu hj]
theorem Rl (b:By) : ∀i,i≤nS b→(List.range i).flatMap (prt b)=(pad b).take (i*48):=by
 intro i
 induction i with
 | zero=>intro _;simp
 | succ i ih=>
  intro h
  rw [List.range_succ,List.flatMap_append,ih (by omega),List.flatMap_singleton,Nat.add_mul,Nat.one_mul,List.take_add]
  rfl
theorem Oc (g f:Nat)(b:By)(i:Nat):(wu g f b i).flatMap (·.drop 16)=(List.range i).flatMap (prt b):=by
 unfold wu
 rw [List.flatMap_map]
 simp only [G5]
theorem wB (g f:Nat)(b:By):(secs g f b).flatMap (·.drop 16)=pad b:=by
 unfold secs
 rw [Oc,Rl b _ (Nat.le_refl _), ←Et,List.take_length]
def tC (l:List By)(g f:Nat)(b:By):Prop:=kJ g f b=0∧l=secs g f b
theorem xg {g f:Int}{b:By}(h:kJ g f b=0):1≤g∧g≤4294967295∧0≤f∧f≤65535∧nS b≤255:=by
 unfold kJ at h
 split at h
 ·simp at h
 ·split at h
  ·simp at h
  ·omega
theorem wC {g f:Int}{b:By}(h1:1≤g)(h2:g≤4294967295)(h3:0≤f)(h4:f≤65535)(h5:nS b≤255):kJ g f b=0:=by
 unfold kJ;rw [if_neg (by omega),if_neg (by omega)]
theorem Xd {g f i n:Nat}{d:By}(hg:0<g)(hg2:g<4294967296)(hf:f<65536)(hi:i<n)(hn:n<256)(hd:d.length=48):kC (sec g f i n d)=true:=by
 unfold kC
 rw [Q9 d hg2,Rf d hf,Ri d (by omega),Rj d hn,G5,LQ,hd]
 simp [hg,hi]
theorem tC.at {l:List By}{g f:Nat}{b:By}(h:tC l g f b){i:Nat}(hi:i<l.length):l[i]=sec g f i (nS b) (prt b i)∧kC l[i]=true∧hG l[i]=g∧hF l[i]=f∧hI l[i]=i∧hN l[i]=nS b:=by
 obtain⟨h0,rfl⟩:=h
 have hs:=xg h0
 rw [dX]at hi
 have e:(secs g f b)[i]'(by rw [dX];exact hi)=sec g f i (nS b) (prt b i):=by
  have:=Rk (g:=g) (f:=f) (b:=b) hi
  rw [List.getElem?_eq_getElem (by rw [Ah];exact hi)]at this
  injection this
 rw [e]
 exact⟨rfl,Xd (by omega) (by omega) (by omega) hi (by omega) (Eu hi),Q9 _ (by omega),Rf _ (by omega),Ri _ (by omega),Rj _ (by omega)⟩
theorem tC.len {l:List By}{g f:Nat}{b:By}(h:tC l g f b):l.length=nS b∧0<nS b∧nS b≤255:=by
 obtain⟨h0,rfl⟩:=h
 exact⟨dX _ _ _,JJ b,(xg h0).2.2.2.2⟩
theorem Xe {a b:By}{x y:By}(ha:I64 (a.length:Int))(hb:I64 (b.length:Int))(h:dat a++x=dat b++y):a=b:=by
 have h1:=jl ha (a++x)
 have h2:=jl hb (b++y)
 rw [←List.append_assoc]at h1 h2
 unfold dat at h
 rw [h,h2]at h1
 injection h1 with e1 e2
 have e1:b.length=a.length:=by omega
 rw [e1,List.append_assoc,List.append_assoc]at h
 exact(List.append_inj (List.append_cancel_left h) e1.symm).1
theorem tC.inj {l:List By}{g f g' f':Nat}{b b':By}(h:tC l g f b)(h':tC l g' f' b'):g=g'∧f=f'∧b=b':=by
 obtain⟨hl,hp,hq⟩:=h.len
 obtain⟨_,_,hq'⟩:=h'.len
 obtain⟨_,_,a1,a2,_⟩:=h.at (i:=0) (by omega)
 obtain⟨_,_,b1,b2,_⟩:=h'.at (i:=0) (by omega)
 refine⟨a1.symm.trans b1,a2.symm.trans b2, ?_⟩
 have e1:=wB g f b
 have e2:=wB g' f' b'
 rw [←h.2]at e1
 rw [←h'.2,e1]at e2
 have bl : ∀x:By,nS x≤255→I64 (x.length:Int):=fun x hx=>by
  unfold nS dat at hx;rw [List.length_append]at hx;unfold I64;omega
 exact Xe (bl b hq) (bl b' hq') e2
noncomputable def oV (l:List By):Int×Int×By×Bool:=
 open Classical in if h : ∃x:Nat×Nat×By,tC l x.1 x.2.1 x.2.2 then(((Classical.choose h).1:Nat),((Classical.choose h).2.1:Nat),(Classical.choose h).2.2,true)else(0,0,[],false)
theorem JK {l:List By}{g f:Nat}{b:By}(h:tC l g f b):oV l=(((g:Nat):Int),((f:Nat):Int),b,true):=by
 have hx : ∃x:Nat×Nat×By,tC l x.1 x.2.1 x.2.2:=⟨(g,f,b),h⟩
 unfold oV
 rw [dif_pos hx]
 obtain⟨e1,e2,e3⟩:=(Classical.choose_spec hx).inj h
 rw [e1,e2,e3]
theorem Rn {l:List By}(h : ∀g f b, ¬tC l g f b):oV l=(0,0,[],false):=by
 unfold oV
 rw [dif_neg fun⟨x,hx⟩=>h _ _ _ hx]
theorem wE (l:List By):(∃g f b,tC l g f b∧oV l=(((g:Nat):Int),((f:Nat):Int),b,true))∨((∀g f b, ¬tC l g f b)∧oV l=(0,0,[],false)):=by
 by_cases h : ∃g f b,tC l g f b
 ·obtain⟨g,f,b,h⟩:=h
  exact .inl ⟨g,f,b,h,JK h⟩
 ·exact .inr ⟨fun g f b hx=>h ⟨g,f,b,hx⟩,Rn fun g f b hx=>h ⟨g,f,b,hx⟩⟩
end
section
open Go Go.RowKit Go.Proofs Go.Proofs.YtocckceefcmeaaaGreatDoor.Vc Go.Proofs.YtocckceefcmeaaaGreatDoor.Ax
structure Ev where
 client:By
 seq:Int
 kind:Int
 time:Int
 id:By
 name:By
 other:By
 ver:Int
 arm:Int
 val:Int
abbrev sF (s:By):FV:= .v (.string ⟨s.toArray⟩)
abbrev iF (n:Int):FV:= .v (.int .i64 n)
def jg (e:Ev):List FV:= [sF e.client,iF e.seq,iF e.kind,iF e.time,sF e.id,sF e.name,sF e.other,iF e.ver,iF e.arm,iF e.val]
def evA (e:Ev):AV:= .agg ((jg e).map FV.up)
abbrev el (l:List Ev):AV:= .lst 10 (l.map jg)
structure Ev.ok (e:Ev):Prop where
 seq:I64 e.seq
 kind:I64 e.kind
 time:I64 e.time
 ver:I64 e.ver
 arm:I64 e.arm
 val:I64 e.val
 client:e.client.length≤140737488355328
 id:e.id.length≤140737488355328
 name:e.name.length≤140737488355328
 other:e.other.length≤140737488355328
end
end Go.Proofs.YtocckceefcmeaaaGreatDoor.Cl
namespace Go.Proofs.YtocckceefcmeaaaGreatDoor.Ax
open Go Go.RowKit Go.Proofs.YtocckceefcmeaaaGreatDoor.Vc
def Gh (n:Nat)(H:ak)(n':Nat)(H':ak):Prop:=
 ∀(G:Glob) (w₀:World) (aK aN:Nat→Prop) (σ:Nat→Loc) (F:Nat→Prop) (w:World),St G w₀ aK aN n σ F H w→∃σ' F',St G w₀ aK aN n' σ' F' H' w∧Ext n σ F w n' σ' F' w
theorem Gh.refl (n:Nat)(H:ak):Gh n H n H:=fun _ _ _ _ σ F w st=>⟨σ,F,st, .refl _ _ _ _⟩
theorem Gh.trans {n n' n'':Nat}{H H' jI:ak}(h:Gh n H n' H')(k:Gh n' H' n'' jI):Gh n H n'' jI:=fun G w₀ aK aN σ F w st=>by
 obtain⟨σ1,F1,s1,x1⟩:=h G w₀ aK aN σ F w st
 obtain⟨σ2,F2,s2,x2⟩:=k G w₀ aK aN σ1 F1 w s1
 exact⟨σ2,F2,s2,x1.trans x2⟩
section
variable {G:Glob}{w₀:World}{aK aN:Nat→Prop}{n:Nat}{σ:Nat→Loc}{F:Nat→Prop}{H:ak}{w:World}
theorem St.LU (st:St G w₀ aK aN n σ F H w){n':Nat}{σ':Nat→Loc}{F':Nat→Prop}{H':ak}(hn:n≤n')(hσ : ∀k,k<n→σ' k=σ k)(hF : ∀b,F b→F' b)
  (hF' : ∀b,F' b→F b∨∃e c,look H e=some c∧c.own=true∧iL w (σ e) c b) (hlab : ∀k b,look H' k=some b→k<n')
  (aer : ∀k b g,look H' k=some b→b.own=true→iL w (σ' k) b g→¬F' g∧∃e c,look H e=some c∧c.own=true∧iL w (σ e) c g)
  (hinj : ∀k k' b b' g,look H' k=some b→look H' k'=some b'→b.own=true→b'.own=true→iL w (σ' k) b g→iL w (σ' k') b' g→k=k')
  (hblk:Ext n σ F w n' σ' F' w→∀k b,look H' k=some b→kP n' σ' F' w (σ' k) b):St G w₀ aK aN n' σ' F' H' w∧Ext n σ F w n' σ' F' w:=by
 have hE:Ext n σ F w n' σ' F' w:=⟨hn,hσ,fun b hb=>⟨hF b hb,rfl⟩,Nat.le_refl _⟩
 refine⟨⟨st.glob,st.gI,fun b hb=> ?_,hlab,fun k b g h1 h2 h3=> ?_,hinj,hblk hE⟩,hE⟩
 ·rcases hF' b hb with h | ⟨e,c,h1,h2,h3⟩
  ·exact st.dL b h
  ·obtain⟨_,_,m3,m4⟩:=st.mu e c b h1 h2 h3
   exact⟨m3,m4.elim (fun h=> .inr (.inr h)) fun h=> .inr (.inl h)⟩
 ·obtain⟨nf,e,c,h4,h5,h6⟩:=aer k b g h1 h2 h3
  obtain⟨_,m2,m3,m4⟩:=st.mu e c g h4 h5 h6
  exact⟨nf,m2,m3,m4⟩
theorem St.Ro (st:St G w₀ aK aN n σ F H w){F':Nat→Prop}{aT:Nat}{blk blk':dU}(hk:look H aT=some blk)(hm:blk.own=true)(hF : ∀b,F b→F' b)(hF' : ∀b,F' b→F b∨(iL w (σ aT) blk b∧∀g,iL w (σ aT) blk' g→g≠b))
  (ho : ∀g,iL w (σ aT) blk' g→iL w (σ aT) blk g) (hB:Ext n σ F w n σ F' w→kP n σ F' w (σ aT) blk'):St G w₀ aK aN n σ F' (setH H aT blk') w∧Ext n σ F w n σ F' w:=by
 refine st.LU (Nat.le_refl _) (fun _ _=>rfl) hF (fun b hb=>(hF' b hb).imp id fun h=>⟨aT,blk,hk,hm,h.1⟩) (fun k b h=> ?_) (fun k b g h h1 h2=> ?_) (fun k k' b b' g h h' m m' g1 g2=> ?_) fun hE k b h=> ?_
 ·rw [dG hk]at h
  split at h
  ·rename_i e;subst e;exact st.lab _ _ hk
  ·exact st.lab k b h
 ·rw [dG hk]at h
  split at h
  ·rename_i e
   subst e
   injection h with h
   subst h
   refine⟨fun hf=> ?_,_,_,hk,hm,ho g h2⟩
   rcases hF' g hf with hf | hf
   ·exact(st.mu _ _ g hk hm (ho g h2)).1 hf
   ·exact hf.2 g h2 rfl
  ·rename_i e
   refine⟨fun hf=> ?_,k,b,h,h1,h2⟩
   rcases hF' g hf with hf | hf
   ·exact(st.mu _ _ g h h1 h2).1 hf
   ·exact e (st.inj k aT b blk g h hk h1 hm h2 hf.1)
 ·have key : ∀k b,look (setH H aT blk') k=some b→b.own=true→iL w (σ k) b g→∃c,look H k=some c∧c.own=true∧iL w (σ k) c g:=by
   intro k b h0 m g1
   rw [dG hk]at h0
   split at h0
   ·rename_i e;subst e;injection h0 with h0;subst h0;exact⟨_,hk,hm,ho g g1⟩
   ·exact⟨_,h0,m,g1⟩
  obtain⟨c,a1,a2,a3⟩:=key k b h m g1
  obtain⟨c',b1,b2,b3⟩:=key k' b' h' m' g2
  exact st.inj k k' c c' g a1 b1 a2 b2 a3 b3
 ·rw [dG hk]at h
  split at h
  ·rename_i e;subst e;injection h with h;subst h;exact hB hE
  ·exact(st.blk k b h).mono hE fun _ _ _=>rfl
def JL (T s:Nat):FV→TV
 | .v (.slice none 0 0)=> .n T s []
 | x=> .f x
def TV.fz:TV→FV
 | .f x=>x
 | .n _ s l=> .lst s l
theorem Ai (T s:Nat)(x:FV):(x = .v (.slice none 0 0)∧JL T s x = .n T s [])∨JL T s x = .f x:=by
 unfold JL
 split
 ·exact .inl ⟨rfl,rfl⟩
 ·exact .inr rfl
theorem mX {α β:Type}{f:α→β}{l:List (List α)}{i j:Nat}{row:List β}{b:β}(h:(l.map fun r=>r.map f)[i]? = some row)(k:row[j]? = some b) : ∃r a,l[i]? = some r∧r[j]? = some a∧f a=b:=by
 rw [List.getElem?_map]at h
 cases hr:l[i]? with
 | none=>rw [hr]at h;cases h
 | some r=>
  rw [hr]at h
  injection h with h
  subst h
  rw [List.getElem?_map]at k
  cases ha:r[j]? with
  | none=>rw [ha]at k;cases k
  | some a=>rw [ha]at k;injection k with k;exact⟨r,a,rfl,ha,k⟩
theorem G7 {α β:Type}{f:α→β}{l:List (List α)}{sz:Nat}(h : ∀row∈l,row.length=sz) : ∀row∈l.map fun r=>r.map f,row.length=sz:=fun row hr=>by
 obtain⟨r,h1,rfl⟩:=List.mem_map.1 hr
 rw [List.length_map];exact h r h1
theorem Gh.tree {aT t sz:Nat}{l:List (List FV)}(T s:Nat)(hk:look H aT=some (.rows t sz l)):Gh n H n (setH H aT (.tree t sz (l.map fun r=>r.map (JL T s)) none)):=by
 intro G w₀ aK aN σ F w st
 obtain⟨h1,h2,xs,hO,hR⟩:=st.blk _ _ hk
 have noN : ∀i j g, ¬IW w (σ aT) sz (l.map fun r=>r.map (JL T s)) i j g:=by
  rintro i j g ⟨b,row,t',s',r,m,c,n1,n2,n3,n4,n5⟩
  obtain⟨r0,a,e1,e2,e3⟩:=mX n2 n3
  rcases Ai T s a with ⟨rfl,_⟩ | e
  ·have hrl:=hR.1 r0 (List.mem_of_getElem? e1)
   have hil:=(List.getElem?_eq_some_iff.1 e1).1
   have hjl:=(List.getElem?_eq_some_iff.1 e2).1
   have hlt:i*sz+j<xs.length:=by
    have:(i+1)*sz≤l.length*sz:=Nat.mul_le_mul_right _ hil
    rw [Nat.add_mul,Nat.one_mul]at this
    rw [hR.2.1];omega
   have hx:=List.getElem?_eq_getElem hlt
   obtain⟨b',hb',hc⟩:=nG hO e1 hrl e2 hR.2.1 hx
   rw [n1]at hb'
   injection hb' with hb'
   subst hb'
   have hf:=hR.2.2.2 i j r0 _ _ e1 e2 hx
   rw [hc]at n4
   injection n4 with n4
   rw [n4]at hf
   cases hf
  ·rw [e]at e3;cases e3
 have ho : ∀g,iL w (σ aT) (.tree t sz (l.map fun r=>r.map (JL T s)) none) g→(σ aT).b=some g:=fun g h=>h.elim id fun⟨i,j,h⟩=>(noN i j g h).elim
 obtain⟨s1,x1⟩:=st.Ro (F':=F) (blk':= .tree t sz (l.map fun r=>r.map (JL T s)) none) hk rfl (fun _ h=>h) (fun _ h=> .inl h) (fun g h=> .inl (ho g h)) fun hE=>by
  refine⟨h1,by rw [List.length_map];exact h2,xs,by rw [List.length_map];exact hO,⟨G7 hR.1,by rw [List.length_map];exact hR.2.1,hR.2.2.1,fun i j row a v hi hj hv=> ?_⟩,⟨fun i j i' j' g h=>(noN i j g h).elim,fun i j g h=>(noN i j g h).elim⟩,fun _ _ _ h=>by cases h⟩
  obtain⟨r0,a0,e1,e2,rfl⟩:=mX hi hj
  have hf:=hR.2.2.2 i j r0 a0 v e1 e2 hv
  rcases Ai T s a0 with ⟨rfl,e⟩ | e
  ·rw [e]
   cases hf
   exact⟨none,0,rfl, .inl ⟨rfl,rfl⟩⟩
  ·rw [e];exact hf
 exact⟨σ,F,s1,x1⟩
theorem Rq {t sz c:Nat}{oa:Option Addr}{l:List (List FV)}{ys:List Value}{F':Nat→Prop}(hO:Vc.Own w 0 t sz oa l.length c ys)(hR:fU F w sz l ys)(hF : ∀b,F b→F' b)(hg : ∀g,oa=some ⟨g,0,none⟩→F' g):dV F' w (.lst sz l) (.slice oa l.length c):=by
 have hb:kP 0 (fun _=>⟨oa.map (·.block),l.length,c,sz⟩) F w ⟨oa.map (·.block),l.length,c,sz⟩ (.rows t sz l):=⟨rfl,rfl,ys,by
  have:(Loc.mk (oa.map (·.block)) l.length c sz).oa=oa:=DU hO
  rw [this];exact hO,hR⟩
 have:=jM hb hF fun g hgb=>by
  refine hg g ?_
  rcases hO.2 with ⟨hv,_⟩ | ⟨g',cap,cur,hv,_⟩
  ·injection hv with e _ _;subst e;cases hgb
  ·injection hv with e _ _;subst e;simp at hgb;rw [hgb]
 have h3:=this.2.2.1
 have e:(Loc.mk (oa.map (·.block)) l.length c sz).oa=oa:=DU hO
 rw [e]at h3
 exact h3
theorem IQ {aT t sz:Nat}{l:List (List TV)}{c i j t' s':Nat}{r:List (List FV)}{row:List TV}{xs:List Value}{g m cc:Nat}(hO:Vc.Own w 0 t sz (σ aT).oa l.length c xs)(hT:PG F w sz l xs)(hi:l[i]? = some row)(hj:row[j]? = some (.n t' s' r))(hv:xs[i*sz+j]? = some (.slice (some ⟨g,0,none⟩) m cc))(hc:0<cc) :
  IW w (σ aT) sz l i j g:=by
 obtain⟨b,hb,hcell⟩:=nG hO hi (hT.1 row (List.mem_of_getElem? hi)) hj hT.2.1 hv
 exact⟨b,row,t',s',r,m,cc,hb,hi,hj,hcell,hc⟩
theorem Rt {t sz c:Nat}{oa:Option Addr}{m:Nat}{ys:List Value}(hO:Vc.Own w 0 t sz oa m c ys)(hc:0<c) : ∃g,oa=some ⟨g,0,none⟩:=by
 rcases hO.2 with ⟨hv,_⟩ | ⟨g',cap,cur,hv,_⟩
 ·injection hv with _ _ e;omega
 ·injection hv with e _ _;exact⟨g',e⟩
theorem Gh.freeze {aT t sz:Nat}{l:List (List TV)}(hk:look H aT=some (.tree t sz l none)):Gh n H n (setH H aT (.rows t sz (l.map fun r=>r.map TV.fz))):=by
 intro G w₀ aK aN σ F w st
 obtain⟨h1,h2,xs,hO,hT,hS,_⟩:=st.blk _ _ hk
 obtain⟨s1,x1⟩:=st.Ro (F':=fun b=>F b∨Nst w (σ aT) (.tree t sz l none) b) (blk':= .rows t sz (l.map fun r=>r.map TV.fz)) hk rfl (fun _ h=> .inl h)
  (fun b h=>h.imp id fun h=>⟨.inr h,fun g hg e=>by
   subst e
   obtain⟨i,j,h⟩:=h
   exact hS.2 i j g h (hg.flat rfl)⟩) (fun g h=> .inl (h.flat rfl)) fun hE=>by
  refine⟨h1,by rw [List.length_map];exact h2,xs,by rw [List.length_map];exact hO,G7 hT.1,by rw [List.length_map];exact hT.2.1,hT.2.2.1,fun i j row a v hi hj hv=> ?_⟩
  obtain⟨r0,a0,e1,e2,rfl⟩:=mX hi hj
  have hf:=hT.2.2.2 i j r0 a0 v e1 e2 hv
  cases a0 with
  | f x=>exact dV.mono hE.f hf
  | n t' s' r=>
   obtain⟨oa,c,rfl,hf⟩:=hf
   rcases hf with ⟨rfl,rfl⟩ | ⟨ys,hc,hO',hR'⟩
   ·exact qg s' oa
   ·refine Rq hO' hR' (fun b hb=> .inl hb) fun g hg=> .inr ⟨i,j, ?_⟩
    subst hg
    exact IQ hO hT e1 e2 hv hc
 exact⟨σ,_,s1,x1⟩
theorem G8 {α:Type}{l:List (List α)}{i j i2 j2:Nat}{row vM:List α}{x y:α}(hi:l[i]? = some row)(hj:j<row.length)(h:(l.set i (row.set j x))[i2]? = some vM)(k:vM[j2]? = some y) :
  (i2=i∧j2=j∧y=x)∨(¬(i2=i∧j2=j)∧∃r,l[i2]? = some r∧r[j2]? = some y):=by
 have hil:=(List.getElem?_eq_some_iff.1 hi).1
 by_cases e:i2=i
 ·subst e
  rw [List.getElem?_set_self hil]at h
  injection h with h
  subst h
  by_cases e2:j2=j
  ·subst e2
   rw [List.getElem?_set_self hj]at k
   injection k with k
   exact .inl ⟨rfl,rfl,k.symm⟩
  ·rw [List.getElem?_set_ne (fun h=>e2 h.symm)]at k
   exact .inr ⟨fun h=>e2 h.2,row,hi,k⟩
 ·rw [List.getElem?_set_ne (fun h=>e h.symm)]at h
  exact .inr ⟨fun h=>e h.1,vM,h,k⟩
theorem Ru {α:Type}{l:List (List α)}{i j sz:Nat}{row:List α}{x:α}(hi:l[i]? = some row)(h : ∀r∈l,r.length=sz) : ∀r∈l.set i (row.set j x),r.length=sz:=fun r hr=>by
 rcases List.mem_or_eq_of_mem_set hr with hr | rfl
 ·exact h r hr
 ·rw [List.length_set];exact h row (List.mem_of_getElem? hi)
theorem Gh.unfold {aT t sz i j T s:Nat}{l:List (List TV)}{row:List TV}{r:List (List FV)}(hk:look H aT=some (.tree t sz l none))(hi:l[i]? = some row)(hj:row[j]? = some (.n T s r)) :
  Gh n H (n+1) ((n, .rows T s r)::setH H aT (.tree t sz (l.set i (row.set j (.f .top))) (some (i,j,n)))):=by
 intro G w₀ aK aN σ F w st
 obtain⟨h1,h2,xs,hO,hT,hS,_⟩:=st.blk _ _ hk
 have hrl:=hT.1 row (List.mem_of_getElem? hi)
 have hil:=(List.getElem?_eq_some_iff.1 hi).1
 have hjl:=(List.getElem?_eq_some_iff.1 hj).1
 have hlt:i*sz+j<xs.length:=by
  have:(i+1)*sz≤l.length*sz:=Nat.mul_le_mul_right _ hil
  rw [Nat.add_mul,Nat.one_mul]at this
  rw [hT.2.1];omega
 have hx:=List.getElem?_eq_getElem hlt
 obtain⟨oa,c,ev,hf⟩:=hT.2.2.2 i j row _ _ hi hj hx
 have hell:=st.lab _ _ hk
 have hloc : ∃L:Loc,L.n=r.length∧L.sz=s∧(∀σ',kP (n+1) σ' F w L (.rows T s r))∧(∀g,L.b=some g→IW w (σ aT) sz l i j g)∧
   ∀σ',σ' n=L→aZ (n+1) σ' F w (.own n) xs[i*sz+j]:=by
  rcases hf with ⟨rfl,rfl⟩ | ⟨ys,hc,hO',hR'⟩
  ·refine⟨⟨none,0,0,s⟩,rfl,rfl,fun σ'=>⟨rfl,rfl,[],Vc.Own.nil _ _ _ _,fU.nil s⟩,(fun g h=>by cases h),fun σ' hσ=> ?_⟩
   rw [ev]
   exact .je n oa (by omega) (by rw [hσ]) (by rw [hσ])
  ·obtain⟨g,rfl⟩:=Rt hO' hc
   refine⟨⟨some g,r.length,c,s⟩,rfl,rfl,fun σ'=>⟨rfl,rfl,ys,hO',hR'⟩,(fun g' h=> ?_),fun σ' hσ=> ?_⟩
   ·injection h with h
    subst h
    rw [ev]at hx
    exact IQ hO hT hi hj hx hc
   ·rw [ev]
    have:=aZ.own (n:=n+1) (σ:=σ') (F:=F) (w:=w) n (by omega)
    rw [hσ]at this
    exact this
 obtain⟨L,_,_,hB,hN,hA⟩:=hloc
 have nat : ∀i2 j2 g,IW w (σ aT) sz (l.set i (row.set j (.f .top))) i2 j2 g→IW w (σ aT) sz l i2 j2 g∧¬(i2=i∧j2=j):=by
  rintro i2 j2 g ⟨b,vM,t',s',r2,m,c,n1,n2,n3,n4,n5⟩
  rcases G8 hi hjl n2 n3 with ⟨_,_,e⟩ | ⟨hne,r3,e1,e2⟩
  ·cases e
  ·exact⟨⟨b,r3,t',s',r2,m,c,n1,e1,e2,n4,n5⟩,hne⟩
 have Xf : ∀g,iL w (σ aT) (.tree t sz (l.set i (row.set j (.f .top))) (some (i,j,n))) g→iL w (σ aT) (.tree t sz l none) g∧¬IW w (σ aT) sz l i j g:=by
  rintro g (h | ⟨i2,j2,h⟩)
  ·exact⟨.inl h,fun hn=>hS.2 i j g hn h⟩
  ·obtain⟨h0,hne⟩:=nat i2 j2 g h
   exact⟨.inr ⟨i2,j2,h0⟩,fun hn=>hne (hS.1 _ _ _ _ g h0 hn)⟩
 have hlook : ∀ {k b},look ((n, .rows T s r)::setH H aT (.tree t sz (l.set i (row.set j (.f .top))) (some (i,j,n)))) k=some b→
   (k=n∧b = .rows T s r)∨(k≠n∧k=aT∧b = .tree t sz (l.set i (row.set j (.f .top))) (some (i,j,n)))∨(k≠n∧k≠aT∧look H k=some b):=by
  intro k b h
  rw [aW]at h
  split at h
  ·rename_i e;injection h with h;exact .inl ⟨e.symm,h.symm⟩
  ·rename_i e
   rw [dG hk]at h
   split at h
   ·rename_i e2;injection h with h;exact .inr (.inl ⟨fun h=>e h.symm,e2,h.symm⟩)
   ·rename_i e2;exact .inr (.inr ⟨fun h=>e h.symm,e2,h⟩)
 obtain⟨s1,x1⟩:=st.LU (n':=n+1) (σ':=oq σ n L) (F':=F) (H':=(n, .rows T s r)::setH H aT (.tree t sz (l.set i (row.set j (.f .top))) (some (i,j,n)))) (by omega) (fun k hk=>dJ (by omega)) (fun _ h=>h) (fun _ h=> .inl h)
  (fun k b h=>by
   rcases hlook h with ⟨e,_⟩ | ⟨_,e,_⟩ | ⟨_,_,h⟩
   ·omega
   ·omega
   ·have:=st.lab k b h;omega)
  (fun k b g h m ho=>by
   rcases hlook h with ⟨e,rfl⟩ | ⟨e0,e,rfl⟩ | ⟨e0,e,h⟩
   ·subst e
    rw [bV]at ho
    have h3:=hN g (ho.flat rfl)
    have h4:iL w (σ aT) (.tree t sz l none) g:= .inr ⟨i,j,h3⟩
    exact⟨(st.mu _ _ g hk rfl h4).1,_,_,hk,rfl,h4⟩
   ·subst e
    rw [dJ e0]at ho
    have h4:=(Xf g ho).1
    exact⟨(st.mu _ _ g hk rfl h4).1,_,_,hk,rfl,h4⟩
   ·rw [dJ e0]at ho
    exact⟨(st.mu _ _ g h m ho).1,_,_,h,m,ho⟩)
  (fun k k' b b' g h h' m m' ho ho'=>by
   have cross : ∀ {k b},look ((n, .rows T s r)::setH H aT (.tree t sz (l.set i (row.set j (.f .top))) (some (i,j,n)))) k=some b→b.own=true→iL w (oq σ n L k) b g→L.b=some g→k=n:=by
    intro k b h m ho hL
    have h3:=hN g hL
    rcases hlook h with ⟨e,_⟩ | ⟨e0,e,rfl⟩ | ⟨e0,e,h⟩
    ·exact e
    ·subst e
     rw [dJ e0]at ho
     exact((Xf g ho).2 h3).elim
    ·rw [dJ e0]at ho
     exact(e (st.inj k aT b _ g h hk m rfl ho (.inr ⟨i,j,h3⟩))).elim
   rcases hlook h with ⟨e,rfl⟩ | ⟨e0,e,rfl⟩ | ⟨e0,e,h0⟩
   ·subst e
    rw [bV]at ho
    exact(cross h' m' ho' (ho.flat rfl)).symm
   ·rcases hlook h' with ⟨e',rfl⟩ | ⟨e0',e',rfl⟩ | ⟨e0',e',h0'⟩
    ·subst e'
     rw [bV]at ho'
     exact cross h m ho (ho'.flat rfl)
    ·rw [e,e']
    ·subst e
     rw [dJ e0]at ho
     rw [dJ e0']at ho'
     exact st.inj _ _ _ _ g hk h0' rfl m' (Xf g ho).1 ho'
   ·rcases hlook h' with ⟨e',rfl⟩ | ⟨e0',e',rfl⟩ | ⟨e0',e',h0'⟩
    ·subst e'
     rw [bV]at ho'
     exact cross h m ho (ho'.flat rfl)
    ·subst e'
     rw [dJ e0]at ho
     rw [dJ e0']at ho'
     exact st.inj _ _ _ _ g h0 hk m rfl ho (Xf g ho').1
    ·rw [dJ e0]at ho
     rw [dJ e0']at ho'
     exact st.inj _ _ _ _ g h0 h0' m m' ho ho')
  (fun hE k b h=>by
   rcases hlook h with ⟨e,rfl⟩ | ⟨e0,e,rfl⟩ | ⟨e0,e,h⟩
   ·subst e;rw [bV];exact hB _
   ·subst e
    rw [dJ e0]
    refine⟨h1,by rw [List.length_set];exact h2,xs,by rw [List.length_set];exact hO,⟨Ru hi hT.1,by rw [List.length_set];exact hT.2.1,hT.2.2.1,fun i2 j2 vM a v n1 n2 n3=> ?_⟩,⟨fun a b c d g x y=>hS.1 a b c d g (nat _ _ _ x).1 (nat _ _ _ y).1,fun a b g x=>hS.2 a b g (nat _ _ _ x).1⟩,fun i2 j2 e2 he=> ?_⟩
    ·rcases G8 hi hjl n1 n2 with ⟨_,_,e⟩ | ⟨_,r3,e1,e2⟩
     ·subst e;exact dV.top v
     ·exact hT.2.2.2 i2 j2 r3 a v e1 e2 n3
    ·injection he with he
     injection he with ee1 he
     injection he with Zm ee3
     subst ee1;subst Zm;subst ee3
     exact⟨by omega,by rw [List.length_set];exact hil,by omega,⟨_,List.getElem?_set_self hil,List.getElem?_set_self hjl⟩,_,hx,hA _ (bV _ _ _)⟩
   ·rw [dJ e0]
    exact(st.blk k b h).mono hE fun _ _ _=>rfl)
 exact⟨_,F,s1,x1⟩
end
end Go.Proofs.YtocckceefcmeaaaGreatDoor.Ax
namespace Go.Proofs.YtocckceefcmeaaaGreatDoor.Cl
open Go Go.RowKit Go.Proofs Go.Proofs.YtocckceefcmeaaaGreatDoor.Vc Go.Proofs.YtocckceefcmeaaaGreatDoor.Ax
attribute [local irreducible] loadVar storeVar Instr.indexAt Instr.index Instr.sliceAt Instr.makeSlice Instr.lookup Instr.mapUpdate Instr.range Instr.next Instr.entry Instr.makeMap Builtin.append_ Builtin.copy_ Builtin.len_ Builtin.min_ Builtin.max_ Builtin.cap_ Builtin.delete_ Builtin.clear_ convert binOp eqGuard Op.unary Calls
theorem sQ {α:Type}{sz:Nat}{enc:α→List FV}{c:α→List Value}(he : ∀x,enc x=(c x).map .v)(hk : ∀a,(c a).length=sz)(h1 : ∀a, ∀v∈c a,v.oneCell'=true)(F:Nat→Prop)(w:World)(l:List α):fU F w sz (l.map enc) (recs c l):=by
 refine⟨fun row hr=> ?_, ?_,fun v hv=> ?_,fun i j row a v hi hj hv=> ?_⟩
 ·obtain⟨x,_,rfl⟩:=List.mem_map.1 hr
  rw [he,List.length_map,hk]
 ·rw [Fp hk,List.length_map]
 ·obtain⟨x,_,hx⟩:=List.mem_flatMap.1 hv
  exact h1 x v hx
 ·rw [List.getElem?_map]at hi
  cases hx:l[i]? with
  | none=>rw [hx]at hi;cases hi
  | some x=>
   rw [hx]at hi
   injection hi with hi
   subst hi
   rw [he,List.getElem?_map]at hj
   cases hy:(c x)[j]? with
   | none=>rw [hy]at hj;cases hj
   | some y=>
    rw [hy]at hj
    injection hj with hj
    subst hj
    rw [QF hk hx hy]at hv
    injection hv with hv
    subst hv
    exact .v _
theorem xk {P:Program}{G:Glob}{f:FuncId}{args:List AV}{α:Type}{sz E:Nat}{enc:α→List FV}{c:α→List Value}(he : ∀x,enc x=(c x).map .v)(hk : ∀a,(c a).length=sz)(h1 : ∀a, ∀v∈c a,v.oneCell'=true){l:List α}
  (h : ∀(w:World) (F:Nat→Prop) (σ:Nat→Ax.Loc) (vs:List Value),(∀b,F b→b<w.heap.size)→bJ 0 σ F w args vs→wQ P f vs.toArray w fun v w'=> ∃oa cp,v = .slice oa l.length cp∧Vc.Own w' w.heap.size E sz oa l.length cp (recs c l)∧Below w.heap.size w w') :
  bD P G f args 0 [] (lM E sz (l.map enc)):=by
 intro w σ F vs st r
 refine(h w F σ vs (fun b hb=>(st.dL b hb).1) r).mono fun v w' ⟨oa,cp,e,hO,hB⟩=> ?_
 subst e
 have hO0:Vc.Own w' 0 E sz oa l.length cp (recs c l):=⟨hO.1,hO.2.imp id fun⟨g,cap,cur,h1,_,h2⟩=>⟨g,cap,cur,h1,Nat.zero_le _,h2⟩⟩
 have hR:=sQ he hk h1 F w' l
 obtain⟨s2,x2⟩:=st.new (w':=w') (qE.jF hB) ⟨oa.map (·.block),l.length,cp,sz⟩ (fun g hg=>by
   cases oa with
   | none=>cases hg
   | some a=>exact hO.ge g hg) (.rows E sz (l.map enc)) (qh hO0 (by rw [List.length_map]) hR)
 exact⟨_,1,_,F,_,⟨rfl,rfl,rfl⟩,s2,x2,vN hO0⟩
theorem JM (b:By):recs (fun a:UInt8=> [Value.int .u8 (a.toNat:Int)]) b=dw b:=GL _ b
theorem Rw (x:Nat):Dg.mG x 8=be 8 x:=by
 have e : ∀k,Dg.oz x k=bt (x/2^(8*k)):=fun k=>by
  unfold Dg.oz
  apply UInt8.toNat_inj.1
  simp
 simp only [Dg.mG,e]
 rfl
theorem Rx (G:Glob)(b:By)(x:Nat)(hl:b.length≤1000000)(hx:x<18446744073709551616):bD Tryz.prog G 68 [bs b,uv x] 0 [] (lM 5 1 ((b++be 8 x).map dW)):=by
 refine xk (E:=5) (c:=fun a:UInt8=> [Value.int .u8 (a.toNat:Int)]) (fun _=>rfl) (fun _=>rfl) (fun _ v hv=>by simp at hv;subst hv;rfl) fun w F σ vs hF r=> ?_
 match vs,r with
 | [u,y],⟨ru,ry,_⟩=>
  rw [ry.dH]
  cases ru with
  | lst hu=>
   obtain⟨oa,c,rfl,hc,hn,hr⟩:=CW hu hF
   refine(Jv oa b.length c b x w rfl hl hc hn hx hr).mono fun v w' ⟨iq,c',e,hO,hB⟩=> ?_
   rw [Rw]at hO
   refine⟨iq,c', ?_, ?_,hB⟩
   ·rw [e,List.length_append,lQ]
   ·rw [JM,List.length_append,lQ];exact hO
end Go.Proofs.YtocckceefcmeaaaGreatDoor.Cl
namespace Go.Proofs.YtocckceefcmeaaaGreatDoor.Ax
open Go Go.RowKit Go.Proofs.YtocckceefcmeaaaGreatDoor.Vc
structure Ry (p:Prop):Prop where
 go:p
theorem Rz (p:Prop):Ry p=p:=propext ⟨fun h=>h.go,fun h=>⟨h⟩⟩
def pre:List Nat→Plan→Plan
 | [],p=>p
 | i::r,p=> .take i (pre r p)
section
variable {P:Program}{G:Glob}{all:List Oper}{D:List Nat}{p:Plan}{n:Nat}{H:ak}{K:aJ→Nat→ak→Prop}
theorem CX : ∀(ts:List Nat) (ρ:aJ),aD P G all D (pre ts p) ρ n H K=Uk P G all (jO D H) H ts ρ (fun ρ'=>aD P G all D p ρ' n H K)
 | [],ρ=>rfl
 | i::ts,ρ=>by
  simp only [pre,aD,Uk]
  cases all[i]? with
  | none=>rfl
  | some o=>simp only [CX ts]
theorem RD {ρ:aJ}(ts:List Nat)(h:Uk P G all (jO D H) H ts ρ (fun ρ'=>Ry (aD P G all D p ρ' n H K))):aD P G all D (pre ts p) ρ n H K:=by
 rw [CX]
 have e:(fun ρ'=>Ry (aD P G all D p ρ' n H K))=fun ρ'=>aD P G all D p ρ' n H K:=funext fun ρ'=>Rz _
 rw [e]at h
 exact h
theorem Oe (ρ:aJ)(s:Nat):jW ρ s (ρ s)=ρ:=by
 funext k
 unfold jW
 cases h:Nat.beq k s with
 | true=>rw [Nat.eq_of_beq_eq_true h];simp
 | false=>simp
theorem LV {ρ:aJ}(s:Nat){t:Bool}(hr:ρ s = .v (.bool t))(h1:t=true→aD P G all D p (jW ρ s (.v (.bool true))) n H K)(h2:t=false→aD P G all D p (jW ρ s (.v (.bool false))) n H K):aD P G all D p ρ n H K:=by
 have e:=Oe ρ s
 rw [hr]at e
 cases t with
 | true=>have:=h1 rfl;rw [e]at this;exact this
 | false=>have:=h2 rfl;rw [e]at this;exact this
end
end Go.Proofs.YtocckceefcmeaaaGreatDoor.Ax
