/- Joined parts of the proof. Numbers as bytes in plain Lean: how a number is written, that it is read as it was written, and that what is read was wr -/
import Derived.Test.YtnandbihiceihaaGreatDoorPk12
import Derived.Test.YtnandbihiceihaaGreatDoorPk10
import Derived.Test.YtnandbihiceihaaGreatDoorPk9
import Derived.Test.YtnandbihiceihaaGreatDoorPk11
import Derived.Test.YtnandbihiceihaaGreatDoorProg
set_option linter.unusedVariables false
set_option linter.unusedSimpArgs false
set_option maxRecDepth 100000
set_option maxHeartbeats 16000000
namespace Go.Proofs.YtnandbihiceihaaGreatDoor.Cl
open Go.Proofs.Tryz
def zu (n:Int):Nat:=if n<0 then(-2*n-1).toNat else(2*n).toNat
def zz (u:Nat):Int:=if u%2=1 then -((u/2:Nat):Int)-1 else((u/2:Nat):Int)
theorem aiV (n:Int):zz (zu n)=n:=by
 unfold zz zu
 by_cases h:n<0
 ·rw [if_pos h];split<;>omega
 ·rw [if_neg h];split<;>omega
theorem aiW (u:Nat):zu (zz u)=u:=by
 unfold zz zu
 split<;>split<;>omega
theorem Yr {n:Int}(h:I64 n):zu n<18446744073709551616:=by
 unfold zu I64 at *
 split<;>omega
theorem agm {u:Nat}(h:u<18446744073709551616):I64 (zz u):=by
 unfold zz I64
 split<;>omega
def grp:Nat->Nat->By
 | 0,u=> [UInt8.ofNat u]
 | f+1,u=>if u<128 then [UInt8.ofNat u]else UInt8.ofNat (128+u%128)::grp f (u/128)
def num (n:Int):By:=grp 9 (zu n)
inductive RN where
 | bad (e:Int)
 | ok (n:Int) (k:Nat)
def Nu:By->Nat->Nat->RN
 | [],_,_=> .bad 16
 | c::r,i,u=>if i=9∧1<c.toNat then .bad 3 else if 128<=c.toNat then Nu r (i+1) (u+c.toNat%128*128^i)else if c.toNat=0∧0<i then .bad 1 else .ok (zz (u+c.toNat%128*128^i)) (i+1)
theorem agn (f u:Nat):grp f u≠ []:=by
 cases f with
 | zero=>simp [grp]
 | succ f=>unfold grp;split<;>simp
theorem acK (f u:Nat):0<(grp f u).length:=by
 have:=agn f u
 cases h:grp f u with
 | nil=>exact absurd h this
 | cons a r=>simp
theorem acL (f u:Nat):(grp f u).length<=f+1:=by
 induction f generalizing u with
 | zero=>simp [grp]
 | succ f ih=>
  unfold grp
  split
  ·simp
  ·have:=ih (u/128);simp;omega
theorem Bg (i:Nat):128^(i+1)=128*128^i:=by rw [iJ,gG]
theorem agp (r:By) : ∀(f u i acc:Nat),i+f=9->u<2*128^f->(i=0∨u≠0)->Nu (grp f u++r) i acc = .ok (zz (acc+u*128^i)) (i+(grp f u).length):=by
 intro f
 induction f with
 | zero=>
  intro u i acc hi hu h0
  have hu2:u<2:=by simpa using hu
  simp only [grp,gu,dI,Nu]
  rw [toNat_ofNat aai]
  rw [if_neg aai,if_neg aai,if_neg aai,dL (by omega:u<128)]
  simp
 | succ f ih=>
  intro u i acc hi hu h0
  unfold grp
  by_cases h:u<128
  ·rw [if_pos h]
   simp only [gu,dI,Nu]
   rw [toNat_ofNat aai]
   rw [if_neg aai,if_neg aai,if_neg aai,dL h]
   simp
  ·rw [if_neg h]
   have hm:u%128<128:=fO _ aaw
   simp only [gu,Nu]
   rw [toNat_ofNat aai]
   rw [if_neg aai,if_pos aai]
   rw [Bg]at hu
   rw [ih (u/128) (i+1) _ aai aai aai]
   have e1:(128+u%128)%128=u%128:=aai
   have e2:u%128*128^i+u/128*128^(i+1)=u*128^i:=by
    rw [Bg, <-Nat.mul_assoc, <-bK]
    have:u%128+u/128*128=u:=aai
    rw [this]
   rw [e1,fF,e2]
   simp only [bn]
   congr 1
   omega
theorem agq (n:Int)(hn:I64 n)(r:By):Nu (num n++r) 0 0 = .ok n (num n).length:=by
 unfold num
 rw [agp r 9 (zu n) 0 0 rfl (by have:=Yr hn;omega) (.inl rfl)]
 simp [aiV]
theorem acM : ∀(b:By) (i acc:Nat) (n:Int) (k:Nat),i<=9->Nu b i acc = .ok n k->∃u,u<2*128^(9-i)∧b.take (k-i)=grp (9-i) u∧n=zz (acc+u*128^i)∧i<k∧k-i<=b.length∧(i=0∨u≠0):=by
 intro b
 induction b with
 | nil=>intro i acc n k _ h;cases h
 | cons c r ih=>
  intro i acc n k hi h
  simp only [Nu]at h
  have hc:c.toNat<256:=c.toNat_lt
  have ec:UInt8.ofNat c.toNat=c:=abb
  split at h
  ·cases h
  rename_i h9
  split at h
  ·rename_i h128
   have hi9:i≠9:=fun e=>h9 ⟨e,by omega⟩
   obtain⟨u,h1,h2,h3,h4,h5,h6⟩:=ih (i+1) _ n k aai h
   obtain⟨f,hf⟩ : ∃f,9-i=f+1:=⟨8-i,by omega⟩
   have hf':9 -(i+1)=f:=aai
   rw [hf']at h1 h2
   have hu:u≠0:=h6.resolve_left aai
   refine⟨c.toNat-128+128*u, ?_, ?_, ?_,by omega,by simp only [bn];omega, .inr aai⟩
   ·rw [hf,Bg];omega
   ·rw [hf]
    have ek:k-i=(k -(i+1))+1:=aai
    rw [ek,List.take_succ_cons,h2]
    unfold grp
    rw [if_neg aai]
    have e1:128+(c.toNat-128+128*u)%128=c.toNat:=aai
    have e2:(c.toNat-128+128*u)/128=u:=aai
    rw [e1,e2,ec]
    cases f<;>rfl
   ·rw [h3]
    have e1:c.toNat%128=c.toNat-128:=aai
    rw [e1,Bg,bK,fF]
    congr 2
    rw [<-Nat.mul_assoc,gG u 128]
  ·rename_i h128
   split at h
   ·cases h
   ·rename_i h0
    injection h with e1 e2
    subst e2
    have hc1:c.toNat<128:=aai
    refine⟨c.toNat, ?_, ?_, ?_,by omega,by simp,by omega⟩
    ·rcases eG i 9 with hl|hl
     ·obtain⟨f,hf⟩ : ∃f,9-i=f+1:=⟨8-i,by omega⟩
      rw [hf,Bg]
      have:0<128^f:=Nat.pow_pos aaw
      omega
     ·have:i=9:=aai
      subst this
      have : ¬1<c.toNat:=fun h=>h9 ⟨rfl,h⟩
      simp;omega
    ·have e3:i+1-i=1:=aai
     rw [e3]
     simp only [List.take_succ_cons,iM]
     cases hf:9-i with
     | zero=>simp [grp]
     | succ f=>unfold grp;rw [if_pos hc1,ec]
    ·rw [<-e1,dL hc1]
theorem VQ {b:By}{n:Int}{k:Nat}(h:Nu b 0 0 = .ok n k):b=num n++b.drop k∧k=(num n).length∧I64 n∧0<k∧k<=b.length:=by
 obtain⟨u,h1,h2,h3,h4,h5,_⟩:=acM b 0 0 n k aai h
 have e:n=zz u:=ahq
 have hg:num n=grp 9 u:=by unfold num;rw [e,aiW]
 simp only [jK]at h2 h5
 refine⟨by rw [hg, <-h2,cZ], ?_, ?_,h4,h5⟩
 ·rw [hg, <-h2,aN];omega
 ·rw [e];exact agm (by simp only [jK]at h1;omega)
theorem Mc (n:Int):0<(num n).length∧(num n).length<=10:=⟨acK _ _,acL _ _⟩
def uP (b:By)(e:Int):Int×Nat×Int:=
 if e=0 then(match Nu b 0 0 with
  | .bad e'=>(0,0,e')
  | .ok n k=>(n,k,0))else(0,0,e)
theorem acN : ∀ {b:By} {i u:Nat} {e:Int},Nu b i u = .bad e->e=16∨e=3∨e=1:=by
 intro b
 induction b with
 | nil=>intro i u e h;injection h with h;exact .inl h.symm
 | cons c r ih=>
  intro i u e h
  simp only [Nu]at h
  split at h
  ·injection h with h;exact .inr (.inl h.symm)
  ·split at h
   ·exact ih h
   ·split at h
    ·injection h with h;exact .inr (.inr h.symm)
    ·cases h
theorem Md {n:Int}(hn:I64 n)(r:By):uP (num n++r) 0=(n,(num n).length,0):=by
 unfold uP
 rw [if_pos rfl,agq n hn r]
theorem agr (b:By)(e:Int):I64 (uP b e).1∧(uP b e).2.1<=b.length∧((uP b e).2.2=0->e=0∧b=num (uP b e).1++b.drop (uP b e).2.1∧(uP b e).2.1=(num (uP b e).1).length)∧((uP b e).2.2≠0->(uP b e).1=0∧(uP b e).2.1=0):=by
 have z:I64 0:=by unfold I64;omega
 unfold uP
 by_cases h:e=0
 ·rw [if_pos h]
  cases hr:Nu b 0 0 with
  | bad e'=>exact⟨z,aH _,fun h=>by have:=acN hr;simp only at h;omega,fun _=>⟨rfl,rfl⟩⟩
  | ok n k=>
   have:=VQ hr
   exact⟨this.2.2.1,this.2.2.2.2,fun _=>⟨h,this.1,this.2.1⟩,fun h=>absurd rfl h⟩
 ·rw [if_neg h]
  exact⟨z,aH _,fun h'=>absurd h' h,fun _=>⟨rfl,rfl⟩⟩
def FP (b:By)(e most em:Int):Int×Nat×Int:=
 let t:=uP b e
 let e1:=if t.2.2=0 then(if t.1<0 then 3 else if most<t.1 then em else 0)else t.2.2
 (if e1=0 then t.1 else 0,t.2.1,e1)
section
open RowKit Vc
theorem oh {n:Nat}(h:n<18446744073709551616):IntKind.u64.wrap (n:Int)=n:=by
 have e:IntKind.u64.bits=64:=rfl
 have s:IntKind.u64.signed=false:=rfl
 simp only [IntKind.wrap,e,s,gq,aX,if_false]
 omega
theorem zA {n:Nat}(h:n<256):IntKind.u8.wrap (n:Int)=n:=by
 have e:IntKind.u8.bits=8:=rfl
 have s:IntKind.u8.signed=false:=rfl
 simp only [IntKind.wrap,e,s,gq,aX,if_false]
 omega
theorem Ac (k n:Nat):BitVec.ofInt k (n:Int)=BitVec.ofNat k n:=by
 apply BitVec.eq_of_toNat_eq
 simp
theorem acO (a b:Nat)(ha:a<18446744073709551616)(hb:b<18446744073709551616):nV .or .u64 a b=((a ||| b:Nat):Int):=by
 have e:IntKind.u64.bits=64:=rfl
 have h:=kD (n:=64) ha hb
 simp only [nV,e,Ac,BitVec.toNat_or,iV]
 rw [dL ha,dL hb,oh h]
theorem Yt (a b:Nat)(ha:a<18446744073709551616)(hb:b<18446744073709551616):nV .and .u64 a b=((a &&& b:Nat):Int):=by
 have e:IntKind.u64.bits=64:=rfl
 have h:=Nat.and_lt_two_pow (n:=64) a hb
 simp only [nV,e,Ac,BitVec.toNat_and,iV]
 rw [dL ha,dL hb,oh h]
theorem OZ (a b:Nat)(ha:a<18446744073709551616)(hb:b<18446744073709551616):nV .xor .u64 a b=((a ^^^ b:Nat):Int):=by
 have e:IntKind.u64.bits=64:=rfl
 have h:=Nat.xor_lt_two_pow (n:=64) ha hb
 simp only [nV,e,Ac,BitVec.toNat_xor,iV]
 rw [dL ha,dL hb,oh h]
theorem ags (a b:Nat)(ha:a<256)(hb:b<256):nV .or .u8 a b=((a ||| b:Nat):Int):=by
 have e:IntKind.u8.bits=8:=rfl
 have h:=kD (n:=8) ha hb
 simp only [nV,e,Ac,BitVec.toNat_or,iV]
 rw [dL ha,dL hb,zA h]
theorem RV {a:Nat}(k c:Nat)(ha:a<2^k):a ||| c*2^k=a+c*2^k:=by
 rw [Nat.or_comm,gG, <-Nat.two_pow_add_eq_or_of_lt ha,Nat.add_comm]
theorem aiX {a:Nat}(h:a<256):a ||| 128=128+a%128:=by
 have e:a ||| 128=(a%128) ||| 1*2^7 ||| (a/128)*2^7:=by
  have h1:a=a%128 ||| (a/128)*2^7:=by rw [RV 7 _ aai];omega
  have h2:a ||| 128=(a%128 ||| (a/128)*2^7) ||| 128:=by rw [<-h1]
  rw [h2,lF,lF,Nat.or_comm (a/128*2^7)]
 rw [e,RV 7 1 aai]
 have:a/128=0∨a/128=1:=aai
 rcases this with h0|h0
 ·rw [h0];simp;omega
 ·rw [h0]
  have e2:a%128+1*2^7=a%128 ||| 1*2^7:=(RV 7 1 aai).symm
  rw [e2,lF,Nat.or_self, <-e2];omega
theorem Yu {a:Nat}(h:a<18446744073709551616):a ^^^ 18446744073709551615=18446744073709551615-a:=by
 have h1:(BitVec.ofNat 64 a ^^^ BitVec.allOnes 64).toNat=(~~~ (BitVec.ofNat 64 a)).toNat:=by rw [BitVec.xor_allOnes]
 simp only [BitVec.toNat_xor,BitVec.toNat_not,iV,BitVec.toNat_allOnes]at h1
 have e:(2:Nat)^64=18446744073709551616:=aaw
 rw [e,dL h]at h1
 omega
theorem acP (n:Int)(h:I64 n):nV .xor .u64 (IntKind.u64.wrap (IntKind.u64.wrap n*2)) (IntKind.u64.wrap (n.fdiv 9223372036854775808))=(zu n:Int):=by
 have e:IntKind.u64.bits=64:=rfl
 have s:IntKind.u64.signed=false:=rfl
 unfold I64 at h
 unfold zu
 by_cases hn:n<0
 ·rw [if_pos hn]
  have e1:IntKind.u64.wrap (IntKind.u64.wrap n*2)=((18446744073709551616 -(-2*n).toNat:Nat):Int):=by
   simp only [IntKind.wrap,e,s,gq,aX,if_false];omega
  have e2:n.fdiv 9223372036854775808 = -1:=by rw [Int.fdiv_eq_ediv];simp;omega
  have e3:IntKind.u64.wrap (-1)=((18446744073709551615:Nat):Int):=aaw
  rw [e1,e2,e3,OZ _ _ aai aai,Yu aai]
  omega
 ·rw [if_neg hn]
  have e1:IntKind.u64.wrap (IntKind.u64.wrap n*2)=(((2*n).toNat:Nat):Int):=by
   simp only [IntKind.wrap,e,s,gq,aX,if_false];omega
  have e2:n.fdiv 9223372036854775808=0:=by rw [Int.fdiv_eq_ediv];simp;omega
  have e3:IntKind.u64.wrap 0=((0:Nat):Int):=aaw
  rw [e1,e2,e3,OZ _ _ aai aai,Nat.xor_zero]
theorem Yv {u:Nat} : nV .or .u8 (IntKind.u8.wrap (u:Int)) 128=((UInt8.ofNat (128+u%128)).toNat:Int):=by
 have e:IntKind.u8.wrap (u:Int)=((u%256:Nat):Int):=by
  have e:IntKind.u8.bits=8:=rfl
  have s:IntKind.u8.signed=false:=rfl
  simp only [IntKind.wrap,e,s,gq,aX,if_false]
  omega
 have e2:(128:Int)=((128:Nat):Int):=rfl
 rw [e,e2,ags _ _ aai aai,aiX aai,toNat_ofNat aai]
 congr 1
 omega
theorem VR {u:Nat}(h:u<128):IntKind.u8.wrap (u:Int)=((UInt8.ofNat u).toNat:Int):=by
 rw [zA aai,toNat_ofNat aai]
theorem ak0 (u:Nat):Int.fdiv (u:Int) 128=((u/128:Nat):Int):=by rw [iy _ aaw];rfl
end
def w64 (n:Int):Int:=Go.IntKind.i64.wrap n
def b1 (l:Li):By:=l.flatMap num
def rl:Li->List (Int×Nat)
 | []=> []
 | x::r=>match rl r with
  | []=> [(x,1)]
  | p::t=>if x=p.1 then(x,p.2+1)::t else(x,1)::p::t
def enP (p:Int×Nat):By:=num p.1++num p.2
def b2 (l:Li):By:=(rl l).flatMap enP
def st:Int->Li->By
 | _,[]=> []
 | p,x::r=>num (w64 (x-p))++st x r
def b3 (l:Li):By:=st 0 l
def ins (d:Li)(x:Int):Li:=
 match d with
 | []=> [x]
 | y::r=>if y<x then y::ins r x else if y=x then y::r else x::y::r
def ds (l:Li):Li:=l.foldl ins []
def idx:Li->Int->Nat
 | [],_=>0
 | y::r,x=>if y=x then 0 else idx r x+1
def b4 (l:Li):By:=num (ds l).length++b1 (ds l)++l.flatMap fun x=>num (idx (ds l) x)
def wid:Nat->Nat->Nat
 | 0,_=>0
 | f+1,u=>if u=0 then 0 else wid f (u/2)+1
def dif (lo x:Int):Nat:=(x-lo).toNat
def Yw (lo:Int)(w:Nat)(l:Li)(p:Nat):Bool:=(dif lo (l.getD (p/w) 0)).testBit (p%w)
def byA (bit:Nat->Bool)(p j:Nat):Nat->Nat
 | 0=>0
 | t+1=>byA bit p j t+(if 8*j+t<p∧bit (8*j+t)=true then 2^t else 0)
def pk (bit:Nat->Bool)(n p:Nat):By:=(List.range n).map fun j=>UInt8.ofNat (byA bit p j 8)
def lo (l:Li):Int:=(ds l).headD 0
def hi (l:Li):Int:=(ds l).getLastD 0
def wd (l:Li):Nat:=wid 64 (dif (lo l) (hi l))
def sz5 (n w:Nat):Nat:=(n*w+7)/8
def b5 (l:Li):By:=num (lo l)++num (wd l)++pk (Yw (lo l) (wd l) l) (sz5 l.length (wd l)) (l.length*wd l)
def bd:Nat->Li->By
 | 1,l=>b1 l
 | 2,l=>b2 l
 | 3,l=>b3 l
 | 4,l=>b4 l
 | _,l=>b5 l
def en (k:Nat)(l:Li):By:=num k++num l.length++bd k l
def sh (a b:By):By:=if b.length<a.length then b else a
def best (l:Li):Nat->By
 | 0=>en 1 l
 | k+1=>sh (best l k) (en (k+2) l)
def ints (l:Li):By:=if l = []then num 1++num 0 else best l 4
example:ints [7,7,7,7] = [4,8,14,8]:=aaw
example:ints [] = [2,0]:=aaw
theorem aiZ {x:Int}{r:Li} : ∃k t,rl (x::r)=(x,k+1)::t:=by
 simp only [rl]
 split
 ·exact⟨0,[],rfl⟩
 ·rename_i p t _
  split
  ·exact⟨p.2,t,rfl⟩
  ·exact⟨0,p::t,rfl⟩
theorem agu (x:Int)(m:Nat)(r:Li)(h:r.head? ≠some x):rl (List.replicate (m+1) x++r)=(x,m+1)::rl r:=by
 induction m with
 | zero=>
  simp only [List.replicate,gu,dI,rl]
  cases r with
  | nil=>rfl
  | cons y r=>
   obtain⟨k,t,e⟩:=aiZ (x:=y) (r:=r)
   rw [e]
   have hne:x≠y:=fun e=>h (by rw [e];rfl)
   simp only [hne,if_false]
 | succ m ih=>
  rw [fK,gu]
  simp only [rl]
  rw [ih]
  simp
def SS (d:Li):Prop:=d.Pairwise (· < ·)
theorem Uk (d:Li)(x y:Int):y∈ins d x↔y∈d∨y=x:=by
 induction d with
 | nil=>simp [ins]
 | cons z r ih=>
  unfold ins
  split
  ·simp only [bI,ih,or_assoc]
  ·split
   ·rename_i e;subst e;simp only [bI];constructor
    ·intro h;exact .inl h
    ·rintro(h|rfl)
     ·exact h
     ·exact .inl rfl
   ·simp only [bI];constructor
    ·rintro(h|h|h)
     ·exact .inr h
     ·exact .inl (.inl h)
     ·exact .inl (.inr h)
    ·rintro((h|h)|h)
     ·exact .inr (.inl h)
     ·exact .inr (.inr h)
     ·exact .inl h
theorem agv {d:Li}{x:Int}(h:SS d):SS (ins d x):=by
 induction d with
 | nil=>simp [ins,SS]
 | cons z r ih=>
  have h1:=eY.1 h
  unfold ins
  split
  ·rename_i hz
   refine eY.2 ⟨fun a ha=> ?_,ih h1.2⟩
   rcases(Uk r x a).1 ha with h2|h2
   ·exact h1.1 a h2
   ·omega
  ·split
   ·exact h
   ·refine eY.2 ⟨fun a ha=> ?_,h⟩
    rcases bI.1 ha with h2|h2
    ·omega
    ·have:=h1.1 a h2;omega
theorem Ul (l:Li) : ∀d,SS d->SS (l.foldl ins d)∧∀y,y∈l.foldl ins d↔y∈d∨y∈l:=by
 induction l with
 | nil=>intro d h;simp [h]
 | cons x r ih=>
  intro d h
  have:=ih (ins d x) (agv h)
  refine⟨this.1,fun y=> ?_⟩
  rw [gJ,this.2 y,Uk,bI,or_assoc]
theorem ael (l:Li):SS (ds l):=(Ul l [] List.Pairwise.nil).1
theorem H9 (l:Li)(y:Int):y∈ds l↔y∈l:=by rw [ds,(Ul l [] List.Pairwise.nil).2 y];simp
theorem acQ (d:Li)(x:Int):(ins d x).length<=d.length+1:=by
 induction d with
 | nil=>simp [ins]
 | cons y r ih=>
  unfold ins
  split
  ·simp only [bn];omega
  ·split<;>simp
theorem Yx (l:Li):(ds l).length<=l.length:=by
 have : ∀(l d:Li),(l.foldl ins d).length<=d.length+l.length:=by
  intro l
  induction l with
  | nil=>intro d;simp
  | cons x r ih=>intro d;have h1:=ih (ins d x);have h2:=acQ d x;simp only [gJ,bn];omega
 have:=this l []
 simpa [ds]using this
theorem agw {d:Li}{x:Int}(h:x∈d):idx d x<d.length∧d[idx d x]? = some x:=by
 induction d with
 | nil=>cases h
 | cons y r ih=>
  unfold idx
  by_cases e:y=x
  ·rw [if_pos e];simp [e]
  ·rw [if_neg e]
   have:=ih (by rcases bI.1 h with h|h;exact absurd h.symm e;exact h)
   simp only [bn,fD]
   exact⟨by omega,this.2⟩
theorem lo_le {l:Li}{x:Int}(h:x∈l):lo l<=x∧lo l∈l:=by
 have hm:=(H9 l x).2 h
 have hs:=ael l
 have hb:=fun y=>(H9 l y)
 unfold lo
 cases hd:ds l with
 | nil=>rw [hd]at hm;cases hm
 | cons y r=>
  rw [hd]at hm hs
  have h1:=eY.1 hs
  refine⟨?_,(hb y).1 (by rw [hd];exact dw)⟩
  show y<=x
  rcases bI.1 hm with e|e
  ·omega
  ·have:=h1.1 x e;omega
theorem acR {d:Li}(hs:SS d){x:Int}(h:x∈d):x<=d.getLastD 0∧d.getLastD 0∈d:=by
 induction d generalizing x with
 | nil=>cases h
 | cons y r ih=>
  have h1:=eY.1 hs
  cases r with
  | nil=>simp at h ⊢;omega
  | cons z s=>
   have e:(y::z::s).getLastD 0=(z::s).getLastD 0:=by simp [List.getLastD]
   rw [e]
   have hz:=ih h1.2 (x:=z) dw
   rcases bI.1 h with h2|h2
   ·have:=h1.1 z dw
    exact⟨by omega,dU _ hz.2⟩
   ·have:=ih h1.2 h2
    exact⟨this.1,dU _ this.2⟩
theorem ai0 {l:Li}{x:Int}(h:x∈l):x<=hi l∧hi l∈l:=by
 have:=acR (ael l) ((H9 l x).2 h)
 exact⟨this.1,(H9 l _).1 this.2⟩
theorem qB : ∀(f u:Nat),u<2^f->u<2^wid f u∧wid f u<=f:=by
 intro f
 induction f with
 | zero=>intro u h;simp [wid]at h ⊢;omega
 | succ f ih=>
  intro u h
  unfold wid
  split
  ·simp [*]
  ·have:=ih (u/2) ako
   refine⟨?_,by omega⟩
   rw [iJ]
   omega
theorem acS : ∀(f u k:Nat),u<2^k->wid f u<=k:=by
 intro f
 induction f with
 | zero=>intro u k _;simp [wid]
 | succ f ih=>
  intro u k h
  unfold wid
  split
  ·omega
  ·cases k with
   | zero=>simp at h;omega
   | succ k=>have:=ih (u/2) k ako;omega
theorem Yy (bit:Nat->Bool)(p j:Nat) : ∀t,byA bit p j t<2^t:=by
 intro t
 induction t with
 | zero=>simp [byA]
 | succ t ih=>unfold byA;rw [iJ];split<;>omega
theorem acT (bit:Nat->Bool)(p j:Nat) : ∀t s,s<t->(byA bit p j t).testBit s=(decide (8*j+s<p)&&bit (8*j+s)):=by
 intro t
 induction t with
 | zero=>intro s h;omega
 | succ t ih=>
  intro s hs
  unfold byA
  have hl:=Yy bit p j t
  have key : ∀c:Nat,c<=1->(byA bit p j t+c*2^t).testBit s=if s<t then(byA bit p j t).testBit s else decide (c=1):=by
   intro c hc
   rw [Nat.add_comm,gG,Nat.testBit_two_pow_mul_add c hl]
   split
   ·rfl
   ·have:s-t=0:=aai
    rw [this]
    have:c=0∨c=1:=aai
    rcases this with rfl|rfl<;>rfl
  by_cases hb:8*j+t<p∧bit (8*j+t)=true
  ·rw [if_pos hb]
   have:=key 1 (au _)
   rw [dY]at this
   rw [this]
   split
   ·exact ih s aaH
   ·have e:s=t:=aai
    subst e
    simp [hb.1,hb.2]
  ·rw [if_neg hb]
   have:=key 0 (aH _)
   rw [fU]at this
   rw [this]
   split
   ·exact ih s aaH
   ·have e:s=t:=aai
    subst e
    by_cases h1:8*j+s<p
    ·have:bit (8*j+s)=false:=by
      cases hbb:bit (8*j+s)with
      | false=>rfl
      | true=>exact absurd ⟨h1,hbb⟩ hb
     simp [this]
    ·simp [h1]
theorem pk_len (bit:Nat->Bool)(n p:Nat):(pk bit n p).length=n:=by simp [pk]
theorem agx (n:Int):w64 n=(n+9223372036854775808)%18446744073709551616-9223372036854775808:=by
 have e:Go.IntKind.i64.bits=64:=rfl
 have s:Go.IntKind.i64.signed=true:=rfl
 simp only [w64,Go.IntKind.wrap,e,s,gX,decide_eq_true_eq]
 split<;>omega
theorem agy {n:Int}(h:I64 n):w64 n=n:=by rw [agx];unfold I64 at h;omega
def Pr (b:By)(n:Nat)(body:Li->By)(Q:Li->By->Prop):Prop:= ∀l0 r,Bd l0->l0.length=n->b=body l0++r->Q l0 r
theorem Pr.mono {b:By}{n:Nat}{body:Li->By}{Q Q':Li->By->Prop}(h:Pr b n body Q)(k : ∀l0 r,Bd l0->l0.length=n->Q l0 r->Q' l0 r):Pr b n body Q':=
 fun l0 r h1 h2 h3=>k l0 r h1 h2 (h l0 r h1 h2 h3)
theorem Pr.start (b:By)(n:Nat)(body:Li->By):Pr b n body fun l0 r=>b=body l0++r:=fun _ _ _ _ h=>h
theorem rd1 {y:Int}{z b:By}{e:Int}(hy:I64 y)(he:e=0)(h:b=num y++z):(uP b e).1=y∧(uP b e).2.2=0∧b.drop (uP b e).2.1=z:=by
 subst he;subst h
 rw [Md hy]
 exact⟨rfl,rfl,List.drop_left⟩
theorem Bd.at {l:Li}{i:Nat}{x:Int}(h:Bd l)(e:l[i]? = some x):I64 x:=h x (aU e)
theorem Bd.nil:Bd []:=fun _ h=>absurd h abb
def Q1 (b':By)(out:Li)(e:Int)(l0:Li)(r:By):Prop:=e=0∧∃rest,l0=out++rest∧b'=b1 rest++r
theorem Q1.start {b:By}{l0:Li}{r:By}(h:b=b1 l0++r):Q1 b [] 0 l0 r:=⟨rfl,l0,rfl,h⟩
theorem Q1.step {b':By}{out:Li}{e:Int}{l0:Li}{r:By}(ha:Bd l0)(hlt:out.length<l0.length)(h:Q1 b' out e l0 r) :
  Q1 (b'.drop (uP b' e).2.1) (out++ [(uP b' e).1]) (uP b' e).2.2 l0 r:=by
 obtain⟨he,rest,h1,h2⟩:=h
 cases rest with
 | nil=>rw [h1]at hlt;simp at hlt
 | cons y rest=>
  have hy:I64 y:=ha y (by rw [h1];simp)
  have:=rd1 (b:=b') (z:=b1 rest++r) hy he (by rw [h2];simp [b1])
  rw [this.1,this.2.1,this.2.2]
  exact⟨rfl,rest,by rw [h1];simp,rfl⟩
theorem Q1.fin {b':By}{out:Li}{e:Int}{l0:Li}{r:By}(hlen:e=0->out.length=l0.length)(h:Q1 b' out e l0 r):e=0∧out=l0∧b'=r:=by
 obtain⟨he,rest,h1,h2⟩:=h
 have:=hlen he
 have hr:rest = []:=by
  rw [h1,ay]at this
  exact aK aai
 subst hr
 exact⟨he,by rw [h1];simp,by rw [h2];simp [b1]⟩
def sm:Int->Li->Li
 | _,[]=> []
 | p,y::r=>w64 (p+y)::sm (w64 (p+y)) r
theorem Yz (l:Li)(h:l≠ []) : ∃y m t,l=List.replicate (m+1) y++t∧rl l=(y,m+1)::rl t:=by
 induction l with
 | nil=>exact absurd rfl h
 | cons x r ih=>
  by_cases hr:r = []
  ·subst hr;exact⟨x,0,[],rfl,rfl⟩
  ·obtain⟨y,m,t,h1,h2⟩:=ih hr
   by_cases e:x=y
   ·subst e
    refine⟨x,m+1,t, ?_, ?_⟩
    ·rw [h1,fK (n:=m+1)];rfl
    ·simp only [rl,h2];simp
   ·refine⟨x,0,r,rfl, ?_⟩
    simp only [rl,h2]
    rw [if_neg e]
def Q2 (b':By)(out:Li)(e:Int)(l0:Li)(r:By):Prop:=e=0∧∃rest,l0=out++rest∧b'=b2 rest++r
theorem Q2.start {b:By}{l0:Li}{r:By}(h:b=b2 l0++r):Q2 b [] 0 l0 r:=⟨rfl,l0,rfl,h⟩
theorem Q2.step {b':By}{out:Li}{e:Int}{l0:Li}{r:By}(ha:Bd l0)(hl:l0.length<=9223372036854775807)(hlt:out.length<l0.length)(h:Q2 b' out e l0 r) :
  ∃m:Nat,(uP (b'.drop (uP b' e).2.1) (uP b' e).2.2).2.2=0∧(uP (b'.drop (uP b' e).2.1) (uP b' e).2.2).1=((m+1:Nat):Int)∧m+1+out.length<=l0.length∧
   Q2 ((b'.drop (uP b' e).2.1).drop (uP (b'.drop (uP b' e).2.1) (uP b' e).2.2).2.1) (out++List.replicate (m+1) (uP b' e).1) 0 l0 r:=by
 obtain⟨he,rest,h1,h2⟩:=h
 have hne:rest≠ []:=by rintro rfl;rw [h1]at hlt;simp at hlt
 obtain⟨y,m,t,h3,h4⟩:=Yz rest hne
 have hy:I64 y:=ha y (by rw [h1,h3];simp)
 have hlen:m+1+out.length<=l0.length:=by rw [h1,h3];simp;omega
 have r1:=rd1 (b:=b') (z:=num ((m+1:Nat):Int)++(b2 t++r)) hy he (by rw [h2,b2,h4];simp [enP,b2])
 rw [r1.1,r1.2.1,r1.2.2]
 have r2:=rd1 (e:=0) (CU (by omega:m+1<=9223372036854775807)) rfl (rfl:num ((m+1:Nat):Int)++(b2 t++r)=_)
 refine⟨m,r2.2.1,r2.1,hlen, ?_⟩
 rw [r2.2.2]
 exact⟨rfl,t,by rw [h1,h3];simp,rfl⟩
theorem Q2.fin {b':By}{out:Li}{e:Int}{l0:Li}{r:By}(hlen:out.length=l0.length)(h:Q2 b' out e l0 r):out=l0∧b'=r:=by
 obtain⟨_,rest,h1,h2⟩:=h
 have hr:rest = []:=by
  rw [h1,ay]at hlen
  exact aK aai
 subst hr
 exact⟨by rw [h1];simp,by rw [h2];simp [b2,rl]⟩
def ixs (d l:Li):By:=l.flatMap fun x=>num (idx d x)
def Q4k (k:Int)(b':By)(keys:Li)(e:Int)(l0:Li)(r:By):Prop:=k=(ds l0).length∧Q1 b' keys e (ds l0) (ixs (ds l0) l0++r)
theorem Q4k.start {b:By}{n:Nat}(hn:n<=512){most em:Int}(hm:(n:Int)<=most):Pr b n b4 fun l0 r=>(FP b 0 most em).2.2=0∧Q4k (FP b 0 most em).1 (b.drop (FP b 0 most em).2.1) [] (FP b 0 most em).2.2 l0 r:=fun l0 r _ hl h=>by
 have hd:=Yx l0
 have r1:=rd1 (b:=b) (z:=b1 (ds l0)++(ixs (ds l0) l0++r)) (e:=0) (CU (by omega:(ds l0).length<=9223372036854775807)) rfl (by rw [h];simp [b4,ixs])
 have e1:(FP b 0 most em).2.2=0:=by
  simp only [FP]
  rw [r1.1,r1.2.1,if_pos rfl,if_neg aai,if_neg aai]
 have e2:(FP b 0 most em).1=(ds l0).length:=by
  have:(FP b 0 most em).1=if(FP b 0 most em).2.2=0 then(uP b 0).1 else 0:=rfl
  rw [this,if_pos e1,r1.1]
 have e3:(FP b 0 most em).2.1=(uP b 0).2.1:=rfl
 refine⟨e1, ?_⟩
 rw [e2,e1,e3,r1.2.2]
 exact⟨rfl,Q1.start rfl⟩
def Q4 (keys:Li)(b':By)(out:Li)(e:Int)(l0:Li)(r:By):Prop:=keys=ds l0∧e=0∧∃rest,l0=out++rest∧b'=ixs (ds l0) rest++r
theorem Q4.start {k:Int}{b':By}{keys:Li}{e:Int}{l0:Li}{r:By}(hlen:e=0->(keys.length:Int)=k)(h:Q4k k b' keys e l0 r):Q4 keys b' [] e l0 r:=by
 obtain⟨h1,h2⟩:=h
 have:=h2.fin fun he=>by have:=hlen he;omega
 exact⟨this.2.1,this.1,l0,rfl,this.2.2⟩
theorem Q4.step {keys:Li}{b':By}{out:Li}{e:Int}{l0:Li}{r:By}(hl:l0.length<=512)(hlt:out.length<l0.length)(h:Q4 keys b' out e l0 r) :
  ∃(i:Nat) (x:Int),(uP b' e).2.2=0∧(uP b' e).1=(i:Int)∧keys[i]? = some x∧Q4 keys (b'.drop (uP b' e).2.1) (out++ [x]) 0 l0 r:=by
 obtain⟨hk,he,rest,h1,h2⟩:=h
 cases rest with
 | nil=>rw [h1]at hlt;simp at hlt
 | cons y rest=>
  have hm:y∈ds l0:=(H9 l0 y).2 (by rw [h1];simp)
  have hi:=agw hm
  have hd:=Yx l0
  have r1:=rd1 (b:=b') (z:=ixs (ds l0) rest++r) (CU (by omega:idx (ds l0) y<=9223372036854775807)) he (by rw [h2];simp [ixs])
  refine⟨idx (ds l0) y,y,r1.2.1,r1.1,by rw [hk];exact hi.2,hk,rfl,rest,by rw [h1];simp,r1.2.2⟩
theorem Q4.fin {keys:Li}{b':By}{out:Li}{e:Int}{l0:Li}{r:By}(hlen:out.length=l0.length)(h:Q4 keys b' out e l0 r):out=l0∧b'=r:=by
 obtain⟨_,_,rest,h1,h2⟩:=h
 have hr:rest = []:=by
  rw [h1,ay]at hlen
  exact aK aai
 subst hr
 exact⟨by rw [h1];simp,by rw [h2];simp [ixs]⟩
def Q5 (least:Int)(w:Nat)(b':By)(l0:Li)(r:By):Prop:=least=lo l0∧w=wd l0∧b'=pk (Yw (lo l0) (wd l0) l0) (sz5 l0.length (wd l0)) (l0.length*wd l0)++r
theorem agz {l:Li}(h:Bd l){x:Int}(hx:x∈l):dif (lo l) x<2^wd l:=by
 have h1:=lo_le hx
 have h2:=ai0 hx
 have h3:=h _ h1.2
 have h4:=h _ h2.2
 unfold I64 at h3 h4
 have h5:=(qB 64 (dif (lo l) (hi l)) (by unfold dif;omega)).1
 refine iW ?_ h5
 unfold dif;omega
theorem Q5.bit {least:Int}{w:Nat}{b':By}{l0:Li}{r:By}(h:Q5 least w b' l0 r){i k:Nat}(hi:i<l0.length)(hk:k<w) :
  ∃c,b'[(i*w+k)/8]? = some c∧c.toNat.testBit ((i*w+k)%8)=(dif least (l0.getD i 0)).testBit k:=by
 obtain⟨h1,h2,h3⟩:=h
 subst h2
 have hw:0<wd l0:=aai
 have hat:i*wd l0+k<l0.length*wd l0:=by
  have:=bg (wd l0) (show i+1<=l0.length from hi)
  rw [bK,dY]at this;omega
 have h8:(i*wd l0+k)/8<sz5 l0.length (wd l0):=by unfold sz5;omega
 refine⟨UInt8.ofNat (byA (Yw (lo l0) (wd l0) l0) (l0.length*wd l0) ((i*wd l0+k)/8) 8),by rw [h3,eP (by rw [pk_len];exact h8)];simp only [pk,aJ,ig h8,bD], ?_⟩
 have hlt:=Yy (Yw (lo l0) (wd l0) l0) (l0.length*wd l0) ((i*wd l0+k)/8) 8
 rw [toNat_ofNat aai,acT _ _ _ _ _ aai]
 have e:8*((i*wd l0+k)/8)+(i*wd l0+k)%8=i*wd l0+k:=aai
 rw [e,decide_eq_true hat,gX,h1]
 unfold Yw
 have e1:(i*wd l0+k)/wd l0=i:=by rw [gG,Nat.mul_add_div hw,Nat.div_eq_of_lt hk,dV]
 have e2:(i*wd l0+k)%wd l0=k:=by rw [gG,Nat.mul_add_mod,dL hk]
 rw [e1,e2]
theorem Q5.val {least:Int}{w:Nat}{b':By}{l0:Li}{r:By}(h:Q5 least w b' l0 r)(ha:Bd l0){i:Nat}{x:Int}(hx:l0[i]? = some x):w64 (least+(dif least (l0.getD i 0)%2^w:Nat))=x:=by
 obtain⟨h1,h2,_⟩:=h
 have hm:=aU hx
 have e:l0.getD i 0=x:=by rw [aT,hx];rfl
 have h3:=agz ha hm
 have h4:=lo_le hm
 rw [e,h1,h2,dL h3]
 have:lo l0+(dif (lo l0) x:Nat)=x:=by unfold dif;omega
 rw [this]
 exact agy (ha x hm)
theorem Q5.size {least:Int}{w:Nat}{b':By}{l0:Li}{r:By}(h:Q5 least w b' l0 r):sz5 l0.length w<=b'.length:=by
 obtain⟨_,h2,h3⟩:=h
 rw [h3,h2,ay,pk_len];omega
attribute [local irreducible] loadVar storeVar Instr.indexAt Instr.index Instr.sliceAt Instr.makeSlice Instr.lookup Instr.mapUpdate Instr.range Instr.next Instr.entry Instr.makeMap Builtin.append_ Builtin.copy_ Builtin.len_ Builtin.min_ Builtin.max_ Builtin.cap_ Builtin.delete_ Builtin.clear_ convert binOp eqGuard Op.unary Calls
section
open RowKit Vc Ax
def xP (b:By):List FV:= [.lst 1 (b.map wJ)]
abbrev ss (l:List By):AV:= .lst 1 (l.map xP)
theorem JM {F:Nat->Prop}{w:World}{b:By}{v:Value}(h:oV F w (.lst 1 (b.map wJ)) v)(hF : ∀b,F b->b<w.heap.size) :
  ∃oa c,v = .slice oa b.length c∧b.length<=c∧(oa=none->c=0)∧Row w oa (pI b):=by
 obtain⟨oa,m,c,news,rfl,hm,hc,hn,hr,h1,h2,h3,h4⟩:=yD h hF
 rw [aj]at hm h2
 subst hm
 refine⟨oa,c,rfl,hc,hn, ?_⟩
 have e:news=pI b:=by
  refine eu fun i=> ?_
  by_cases hi:i<b.length
  ·have hl:i<news.length:=aai
   have hx:=h4 i 0 (wJ b[i]) _ news[i] akp rfl (by rw [dZ,dV];exact ah hl)
   rw [ah hl]
   generalize news[i]=x at hx
   cases hx
   simp [pI,hi]
  ·rw [dN aai,dN (by simp [pI];omega)]
 rw [<-e];exact hr
theorem Um {F:Nat->Prop}{w:World}{ls:List By}{v:Value}(h:oV F w (.lst 1 (ls.map xP)) v)(hF : ∀b,F b->b<w.heap.size) :
  ∃oa c vs,v = .slice oa ls.length c∧Row w oa vs∧Dg.Fld w vs ls:=by
 obtain⟨oa,m,c,news,rfl,hm,hc,hn,hr,h1,h2,h3,h4⟩:=yD h hF
 rw [aj]at hm h2
 subst hm
 refine⟨oa,c,news,rfl,hr,by omega,fun i hi=> ?_⟩
 have hl:i<news.length:=aai
 have hx:=h4 i 0 (xP ls[i]) _ news[i] akp rfl (by rw [dZ,dV];exact ah hl)
 obtain⟨pJ,c',e,q1,q2,q3⟩:=JM hx hF
 exact⟨pJ,c',by rw [ah hl,e],q1,q2,q3⟩
def hsh (d:Int)(ls:List By):Int:=Dg.Hw d 0 (Dg.frame ls)
theorem YA {P:Program}{G:Glob}{f:FuncId}{d:Int}{ls:List By}(h : ∀(oa:Option Addr) (c:Nat) (vs:List Value) (w:World),Row w oa vs->Dg.Fld w vs ls->zO P f #[.int .u64 d, .slice oa ls.length c] w fun v w'=>v = .int .u64 (Dg.Hw d 0 (Dg.frame ls))∧Below w.heap.size w w') :
  mP P G f [.v (.int .u64 d),ss ls] 0 [] (Is (.v (.int .u64 (hsh d ls)))):=by
 intro w σ F vs st r
 match vs,r with
 | [x,y],⟨rx,ry,_⟩=>
  rw [rx.nY]
  cases ry with
  | lst hy=>
   obtain⟨oa,c,us,rfl,hr,hf⟩:=Um hy fun b hb=>(st.oG b hb).1
   refine(h oa c us w hr hf).mono fun v w' ⟨e,hB⟩=> ?_
   subst e
   have hE:Ext 0 σ F w 0 σ F w':=⟨au _,fun _ _=>rfl,fun b hb=>⟨hb,hB.block b (st.oG b hb).1⟩,hB.size⟩
   exact⟨_,0,σ,F,[],⟨rfl,rfl,rfl⟩,⟨Glob.qF st.glob hB.size fun b hb=>hB.block b (aP hb st.glob.1),(y7.qX hB).mono fun _ _ h=>h.elim,fun b hb=>⟨aP (st.oG b hb).1 hB.size, .inl hb⟩,
    (fun mD b h=>by cases h),(fun mD b g h=>by cases h),(fun mD y8 b b' g h=>by cases h),(fun mD b h=>by cases h)⟩,hE, .v _⟩
theorem ai1 (G:Glob)(d:Int)(ls:List By)(h1:ls.length<=1000)(h2:(Dg.frame ls).length<=140737488355328):mP Tryz.prog G 289 [.v (.int .u64 d),ss ls] 0 [] (Is (.v (.int .u64 (hsh d ls)))):=
 YA fun oa c vs w hr hf=>Dg.acn d oa c vs ls w aai h2 hr hf
end
section
open RowKit Vc Ax
abbrev bt (n:Nat):UInt8:=UInt8.ofNat n
def be (k n:Nat):By:=(List.range k).map fun j=>bt (n/2^(8*(k-1-j)))
theorem uM (k n:Nat):(be k n).length=k:=by simp [be]
theorem acU (k n:Nat):be (k+1) n=be k (n/256)++ [bt n]:=by
 unfold be
 rw [jB,aS]
 congr 1
 ·refine jV fun j hj=> ?_
  have hj:=kZ.1 hj
  rw [Nat.div_div_eq_div_mul,show 8*(k+1-1-j)=8*(k-1-j)+8 by omega,kE,gG]
 ·simp
def beN (b:By):Nat:=b.foldl (fun n c=>n*256+c.toNat) 0
theorem YB (b:By)(c:UInt8):beN (b++ [c])=beN b*256+c.toNat:=by simp [beN]
theorem Ia (n:Nat):(bt n).toNat=n%256:=abb
theorem YC : ∀(k n:Nat),n<256^k->beN (be k n)=n:=by
 intro k
 induction k with
 | zero=>
  intro n h
  have:n=0:=aaE
  subst this;rfl
 | succ k ih=>
  intro n h
  rw [iJ]at h
  rw [acU,YB,ih _ aai,Ia]
  omega
def hd (g f i n:Nat):By:=be 4 g++be 2 f++ [bt i,bt n]
theorem CV (g f i n:Nat):(hd g f i n).length=8:=by simp [hd,uM]
def hw (g f i n:Nat)(d:By):Nat:=(hsh 101 [hd g f i n,d]).toNat
def sec (g f i n:Nat)(d:By):By:=hd g f i n++be 8 (hw g f i n d)++d
theorem Un (g f i n:Nat)(d:By):(sec g f i n d).length=16+d.length:=by
 unfold sec;rw [ay,ay,CV,uM]
theorem O4 (g f i n:Nat)(d:By):(sec g f i n d).drop 16=d:=by
 unfold sec;rw [jC (by rw [ay,CV,uM])]
theorem YD (g f i n:Nat)(d:By):(sec g f i n d).take 8=hd g f i n:=by
 unfold sec;rw [bW,jD (CV _ _ _ _)]
def hG (s:By):Nat:=beN (s.take 4)
def hF (s:By):Nat:=beN ((s.drop 4).take 2)
def hI (s:By):Nat:=(s.getD 6 0).toNat
def hN (s:By):Nat:=(s.getD 7 0).toNat
theorem YE {g f i n:Nat}(d:By)(h:g<4294967296):hG (sec g f i n d)=g:=by
 have e:(sec g f i n d).take 4=be 4 g:=by
  have:=congrArg (List.take 4) (YD g f i n d)
  rw [lg,show min 4 8=4 from rfl]at this
  rw [this];unfold hd;rw [bW,jD (uM _ _)]
 unfold hG;rw [e];exact YC 4 g h
theorem YF {g f i n:Nat}(d:By)(h:f<65536):hF (sec g f i n d)=f:=by
 have e:((sec g f i n d).drop 4).take 2=be 2 f:=by
  unfold sec hd
  rw [bW,bW,bW,jC (uM _ _),jD (uM _ _)]
 unfold hF;rw [e];exact YC 2 f h
theorem YG (g f i n:Nat)(d:By):(sec g f i n d)[6]? = some (bt i)∧(sec g f i n d)[7]? = some (bt n):=by
 have e : ∀k,k<2->(sec g f i n d)[6+k]? = [bt i,bt n][k]? :=fun k hk=>by
  unfold sec hd
  have hl:(be 4 g++be 2 f).length=6:=by rw [ay,uM,uM]
  rw [bW (be 4 g++be 2 f),bW (be 4 g++be 2 f),dS aai,hl,Nat.add_sub_cancel_left,bW,eP (by simpa using hk)]
 exact⟨e 0 aaw,e 1 aaw⟩
theorem YH {g f i n:Nat}(d:By)(h:i<256):hI (sec g f i n d)=i:=by
 unfold hI
 rw [aT,(YG g f i n d).1,cO,Ia];omega
theorem YI {g f i n:Nat}(d:By)(h:n<256):hN (sec g f i n d)=n:=by
 unfold hN
 rw [aT,(YG g f i n d).2,cO,Ia];omega
def rOk (s:By):Bool:=decide (s.length=64)&&(decide (0<hG s)&&(decide (hI s<hN s)&&decide (s=sec (hG s) (hF s) (hI s) (hN s) (s.drop 16))))
def dat (b:By):By:=num (b.length:Int)++b
def nS (b:By):Nat:=((dat b).length+47)/48
def pad (b:By):By:=dat b++List.replicate (nS b*48 -(dat b).length) 0
def prt (b:By)(i:Nat):By:=((pad b).drop (i*48)).take 48
def EW (g f:Nat)(b:By)(i:Nat):List By:=(List.range i).map fun j=>sec g f j (nS b) (prt b j)
def secs (g f:Nat)(b:By):List By:=EW g f b (nS b)
def Ji (g f:Int)(b:By):Int:=if g<1∨4294967295<g∨f<0∨65535<f then 3 else if 255<nS b then 4 else 0
def I7 (g f:Int)(b:By):List By:=if Ji g f b=0 then secs g.toNat f.toNat b else []
theorem acV (b:By):0<(dat b).length:=by
 unfold dat;rw [ay];have:=(Mc (b.length:Int)).1;omega
theorem YJ (b:By):0<nS b:=by unfold nS;have:=acV b;omega
theorem Me (b:By):(pad b).length=nS b*48:=by
 unfold pad nS;rw [ay,dX];omega
theorem MB {b:By}{i:Nat}(h:i<nS b):(prt b i).length=48:=by
 unfold prt;rw [aN,bU,Me];omega
theorem Ib (g f:Nat)(b:By)(i:Nat):(EW g f b i).length=i:=by simp [EW]
theorem VT (g f:Nat)(b:By)(i:Nat):EW g f b (i+1)=EW g f b i++ [sec g f i (nS b) (prt b i)]:=by simp [EW,jB]
theorem YK {g f:Nat}{b:By}{i j:Nat}(h:j<i):(EW g f b i)[j]? = some (sec g f j (nS b) (prt b j)):=by
 simp [EW,h]
theorem zB (g f:Nat)(b:By):(secs g f b).length=nS b:=Ib _ _ _ _
theorem O5 {g f:Nat}{b s:By}(h:s∈secs g f b):s.length=64:=by
 simp only [secs,EW,dW,kZ]at h
 obtain⟨j,hj,rfl⟩:=h
 rw [Un,MB hj]
theorem YL (b:By) : ∀i,i<=nS b->(List.range i).flatMap (prt b)=(pad b).take (i*48):=by
 intro i
 induction i with
 | zero=>intro _;simp
 | succ i ih=>
  intro h
  rw [jB,List.flatMap_append,ih aai,List.flatMap_singleton,bK,dY,List.take_add]
  rfl
theorem VU (g f:Nat)(b:By)(i:Nat):(EW g f b i).flatMap (·.drop 16)=(List.range i).flatMap (prt b):=by
 unfold EW
 rw [List.flatMap_map]
 simp only [O4]
theorem JO (g f:Nat)(b:By):(secs g f b).flatMap (·.drop 16)=pad b:=by
 unfold secs
 rw [VU,YL b _ (au _), <-Me,aZ]
def IsF (l:List By)(g f:Nat)(b:By):Prop:=Ji g f b=0∧l=secs g f b
theorem aem {g f:Int}{b:By}(h:Ji g f b=0):1<=g∧g<=4294967295∧0<=f∧f<=65535∧nS b<=255:=by
 unfold Ji at h
 split at h
 ·simp at h
 ·split at h
  ·simp at h
  ·omega
theorem acW {g f i n:Nat}{d:By}(hg:0<g)(hg2:g<4294967296)(hf:f<65536)(hi:i<n)(hn:n<256)(hd:d.length=48):rOk (sec g f i n d)=true:=by
 unfold rOk
 rw [YE d hg2,YF d hf,YH d aai,YI d hn,O4,Un,hd]
 simp [hg,hi]
theorem IsF.at {l:List By}{g f:Nat}{b:By}(h:IsF l g f b){i:Nat}(hi:i<l.length):l[i]=sec g f i (nS b) (prt b i)∧rOk l[i]=true∧hG l[i]=g∧hF l[i]=f∧hI l[i]=i∧hN l[i]=nS b:=by
 obtain⟨h0,rfl⟩:=h
 have hs:=aem h0
 rw [zB]at hi
 have e:(secs g f b)[i]'(by rw [zB];exact hi)=sec g f i (nS b) (prt b i):=by
  have:=YK (g:=g) (f:=f) (b:=b) hi
  rw [ah (by rw [Ib];exact hi)]at this
  injection this
 rw [e]
 exact⟨rfl,acW aai aai aai hi aai (MB hi),YE _ aai,YF _ aai,YH _ aai,YI _ aai⟩
theorem IsF.len {l:List By}{g f:Nat}{b:By}(h:IsF l g f b):l.length=nS b∧0<nS b∧nS b<=255:=by
 obtain⟨h0,rfl⟩:=h
 exact⟨zB _ _ _,YJ b,(aem h0).2.2.2.2⟩
theorem acX {a b:By}{x y:By}(ha:I64 (a.length:Int))(hb:I64 (b.length:Int))(h:dat a++x=dat b++y):a=b:=by
 have h1:=Md ha (a++x)
 have h2:=Md hb (b++y)
 rw [<-bW]at h1 h2
 unfold dat at h
 rw [h,h2]at h1
 injection h1 with e1 e2
 have e1:b.length=a.length:=aai
 rw [e1,bW,bW]at h
 exact(List.append_inj (List.append_cancel_left h) e1.symm).1
theorem IsF.inj {l:List By}{g f g' f':Nat}{b b':By}(h:IsF l g f b)(h':IsF l g' f' b'):g=g'∧f=f'∧b=b':=by
 obtain⟨hl,hp,hq⟩:=h.len
 obtain⟨_,_,hq'⟩:=h'.len
 obtain⟨_,_,a1,a2,_⟩:=h.at (i:=0) aai
 obtain⟨_,_,b1,b2,_⟩:=h'.at (i:=0) aai
 refine⟨a1.symm.trans b1,a2.symm.trans b2, ?_⟩
 have e1:=JO g f b
 have e2:=JO g' f' b'
 rw [<-h.2]at e1
 rw [<-h'.2,e1]at e2
 have bl : ∀x:By,nS x<=255->I64 (x.length:Int):=fun x hx=>by
  unfold nS dat at hx;rw [ay]at hx;unfold I64;omega
 exact acX (bl b hq) (bl b' hq') e2
end
section
open RowKit Vc Ax
structure Ev where
 client:By
 seq:Int
 kind:Int
 time:Int
 id:By
 name:By
 other:By
 ver:Int
 arm:Int
 val:Int
abbrev sF (s:By):FV:= .v (.string ⟨s.toArray⟩)
abbrev iF (n:Int):FV:= .v (.int .i64 n)
def wX (e:Ev):List FV:= [sF e.client,iF e.seq,iF e.kind,iF e.time,sF e.id,sF e.name,sF e.other,iF e.ver,iF e.arm,iF e.val]
def Uo (e:Ev):AV:= .agg ((wX e).map FV.up)
abbrev el (l:List Ev):AV:= .lst 10 (l.map wX)
structure Ev.ok (e:Ev):Prop where
 seq:I64 e.seq
 kind:I64 e.kind
 time:I64 e.time
 ver:I64 e.ver
 arm:I64 e.arm
 val:I64 e.val
 client:e.client.length<=140737488355328
 id:e.id.length<=140737488355328
 name:e.name.length<=140737488355328
 other:e.other.length<=140737488355328
def evc (e:Ev):List Value:= [.string ⟨e.client.toArray⟩, .int .i64 e.seq, .int .i64 e.kind, .int .i64 e.time, .string ⟨e.id.toArray⟩, .string ⟨e.name.toArray⟩, .string ⟨e.other.toArray⟩, .int .i64 e.ver, .int .i64 e.arm, .int .i64 e.val]
theorem Ur (e:Ev):(evc e).length=10:=rfl
theorem Us (e:Ev):wX e=(evc e).map .v:=rfl
end
end Go.Proofs.YtnandbihiceihaaGreatDoor.Cl
namespace Go.Proofs.YtnandbihiceihaaGreatDoor.Ax
open RowKit Vc Go.Proofs.Tryz
theorem ATr.here {i o e:Nat}{Kh:Nat->Prop}{K:Prop}(h:Kh e):ATr (some (i,o,e)) i o Kh K:=⟨fun e' he=>by injection he with he;injection he with _ he;injection he with _ he;subst he;exact h,fun hno=>(hno e rfl).elim⟩
theorem ATs.here {i o:Nat}{K:Prop}(h:K):ATs (i=i∧o=o) K:=⟨⟨rfl,rfl⟩,h⟩
def Gh (n:Nat)(H:lI)(n':Nat)(H':lI):Prop:=
 ∀(G:Glob) (lT:World) (lY lZ:Nat->Prop) (σ:Nat->Loc) (F:Nat->Prop) (w:World),St G lT lY lZ n σ F H w->∃σ' F',St G lT lY lZ n' σ' F' H' w∧Ext n σ F w n' σ' F' w
theorem Gh.refl (n:Nat)(H:lI):Gh n H n H:=fun _ _ _ _ σ F w st=>⟨σ,F,st, .refl _ _ _ _⟩
theorem Gh.trans {n n' n'':Nat}{H H' rW:lI}(h:Gh n H n' H')(k:Gh n' H' n'' rW):Gh n H n'' rW:=fun G lT lY lZ σ F w st=>by
 obtain⟨σ1,F1,s1,x1⟩:=h G lT lY lZ σ F w st
 obtain⟨σ2,F2,s2,x2⟩:=k G lT lY lZ σ1 F1 w s1
 exact⟨σ2,F2,s2,x1.trans x2⟩
theorem mP.gh {P:Program}{G:Glob}{f:FuncId}{args:List AV}{n n':Nat}{H H':lI}{R R':AV->Nat->lI->Prop}(g:Gh n H n' H')(h:mP P G f args n' H' R')(k : ∀a n1 H1,R' a n1 H1->∃n2 H2,Gh n1 H1 n2 H2∧R a n2 H2):mP P G f args n H R:=by
 intro w σ F vs st r
 obtain⟨σ1,F1,s1,x1⟩:=g G w _ _ σ F w st
 refine(h w σ1 F1 vs s1.start (r.mono x1)).mono fun v w' ⟨a,n2,σ2,F2,H2,hR,s2,x2,ra⟩=> ?_
 obtain⟨n3,H3,g3,hR3⟩:=k a n2 H2 hR
 obtain⟨σ3,F3,s3,x3⟩:=g3 G w _ _ σ2 F2 w' (s1.back s2)
 exact⟨a,n3,σ3,F3,H3,hR3,s3,(x1.trans x2).trans x3,ra.mono x3⟩
section
variable {G:Glob}{lT:World}{lY lZ:Nat->Prop}{n:Nat}{σ:Nat->Loc}{F:Nat->Prop}{H:lI}{w:World}
theorem St.MC (st:St G lT lY lZ n σ F H w){n':Nat}{σ':Nat->Loc}{F':Nat->Prop}{H':lI}(hn:n<=n')(hσ : ∀k,k<n->σ' k=σ k)(hF : ∀b,F b->F' b)
  (hF' : ∀b,F' b->F b∨∃e c,look H e=some c∧c.own=true∧qO w (σ e) c b) (hlab : ∀k b,look H' k=some b->k<n')
  (ak4 : ∀k b g,look H' k=some b->b.own=true->qO w (σ' k) b g->¬F' g∧∃e c,look H e=some c∧c.own=true∧qO w (σ e) c g)
  (hinj : ∀k k' b b' g,look H' k=some b->look H' k'=some b'->b.own=true->b'.own=true->qO w (σ' k) b g->qO w (σ' k') b' g->k=k')
  (hblk:Ext n σ F w n' σ' F' w->∀k b,look H' k=some b->uS n' σ' F' w (σ' k) b):St G lT lY lZ n' σ' F' H' w∧Ext n σ F w n' σ' F' w:=by
 have hE:Ext n σ F w n' σ' F' w:=⟨hn,hσ,fun b hb=>⟨hF b hb,rfl⟩,au _⟩
 refine⟨⟨st.glob,st.qF,fun b hb=> ?_,hlab,fun k b g h1 h2 h3=> ?_,hinj,hblk hE⟩,hE⟩
 ·rcases hF' b hb with h|⟨e,c,h1,h2,h3⟩
  ·exact st.oG b h
  ·obtain⟨_,_,m3,m4⟩:=st.mu e c b h1 h2 h3
   exact⟨m3,m4.elim (fun h=> .inr (.inr h)) fun h=> .inr (.inl h)⟩
 ·obtain⟨nf,e,c,h4,h5,h6⟩:=ak4 k b g h1 h2 h3
  obtain⟨_,m2,m3,m4⟩:=st.mu e c g h4 h5 h6
  exact⟨nf,m2,m3,m4⟩
theorem St.YM (st:St G lT lY lZ n σ F H w){F':Nat->Prop}{mD:Nat}{blk blk':oI}(hk:look H mD=some blk)(hm:blk.own=true)(hF : ∀b,F b->F' b)(hF' : ∀b,F' b->F b∨(qO w (σ mD) blk b∧∀g,qO w (σ mD) blk' g->g≠b))
  (ho : ∀g,qO w (σ mD) blk' g->qO w (σ mD) blk g) (hB:Ext n σ F w n σ F' w->uS n σ F' w (σ mD) blk'):St G lT lY lZ n σ F' (setH H mD blk') w∧Ext n σ F w n σ F' w:=by
 refine st.MC (au _) (fun _ _=>rfl) hF (fun b hb=>(hF' b hb).imp id fun h=>⟨mD,blk,hk,hm,h.1⟩) (fun k b h=> ?_) (fun k b g h h1 h2=> ?_) (fun k k' b b' g h h' m m' g1 g2=> ?_) fun hE k b h=> ?_
 ·rw [oz hk]at h
  split at h
  ·rename_i e;subst e;exact st.lab _ _ hk
  ·exact st.lab k b h
 ·rw [oz hk]at h
  split at h
  ·rename_i e
   subst e
   injection h with h
   subst h
   refine⟨fun hf=> ?_,_,_,hk,hm,ho g h2⟩
   rcases hF' g hf with hf|hf
   ·exact(st.mu _ _ g hk hm (ho g h2)).1 hf
   ·exact hf.2 g h2 rfl
  ·rename_i e
   refine⟨fun hf=> ?_,k,b,h,h1,h2⟩
   rcases hF' g hf with hf|hf
   ·exact(st.mu _ _ g h h1 h2).1 hf
   ·exact e (st.inj k mD b blk g h hk h1 hm h2 hf.1)
 ·have key : ∀k b,look (setH H mD blk') k=some b->b.own=true->qO w (σ k) b g->∃c,look H k=some c∧c.own=true∧qO w (σ k) c g:=by
   intro k b h0 m g1
   rw [oz hk]at h0
   split at h0
   ·rename_i e;subst e;injection h0 with h0;subst h0;exact⟨_,hk,hm,ho g g1⟩
   ·exact⟨_,h0,m,g1⟩
  obtain⟨c,a1,a2,a3⟩:=key k b h m g1
  obtain⟨c',b1,b2,b3⟩:=key k' b' h' m' g2
  exact st.inj k k' c c' g a1 b1 a2 b2 a3 b3
 ·rw [oz hk]at h
  split at h
  ·rename_i e;subst e;injection h with h;subst h;exact hB hE
  ·exact(st.blk k b h).mono hE fun _ _ _=>rfl
def O6 (T s:Nat):FV->TV
 | .v (.slice none 0 0)=> .n T s []
 | x=> .f x
def TV.fz:TV->FV
 | .f x=>x
 | .n _ s l=> .lst s l
theorem Ic (T s:Nat)(x:FV):(x = .v (.slice none 0 0)∧O6 T s x = .n T s [])∨O6 T s x = .f x:=by
 unfold O6
 split
 ·exact .inl ⟨rfl,rfl⟩
 ·exact .inr rfl
theorem wY {α β:Type}{f:α->β}{l:List (List α)}{i j:Nat}{row:List β}{b:β}(h:(l.map fun r=>r.map f)[i]? = some row)(k:row[j]? = some b) : ∃r a,l[i]? = some r∧r[j]? = some a∧f a=b:=by
 rw [aJ]at h
 cases hr:l[i]? with
 | none=>rw [hr]at h;cases h
 | some r=>
  rw [hr]at h
  injection h with h
  subst h
  rw [aJ]at k
  cases ha:r[j]? with
  | none=>rw [ha]at k;cases k
  | some a=>rw [ha]at k;injection k with k;exact⟨r,a,rfl,ha,k⟩
theorem O7 {α β:Type}{f:α->β}{l:List (List α)}{sz:Nat}(h : ∀row∈l,row.length=sz) : ∀row∈l.map fun r=>r.map f,row.length=sz:=fun row hr=>by
 obtain⟨r,h1,rfl⟩:=dW.1 hr
 rw [aj];exact h r h1
theorem Gh.tree {mD t sz:Nat}{l:List (List FV)}(T s:Nat)(hk:look H mD=some (.rows t sz l)):Gh n H n (setH H mD (.tree t sz (l.map fun r=>r.map (O6 T s)) none)):=by
 intro G lT lY lZ σ F w st
 obtain⟨h1,h2,xs,hO,hR⟩:=st.blk _ _ hk
 have noN : ∀i j g, ¬KN w (σ mD) sz (l.map fun r=>r.map (O6 T s)) i j g:=by
  rintro i j g ⟨b,row,t',s',r,m,c,n1,n2,n3,n4,n5⟩
  obtain⟨r0,a,e1,e2,e3⟩:=wY n2 n3
  rcases Ic T s a with ⟨rfl,_⟩|e
  ·have hrl:=hR.1 r0 (aU e1)
   have hil:=(aB.1 e1).1
   have hjl:=(aB.1 e2).1
   have hlt:i*sz+j<xs.length:=by
    have:(i+1)*sz<=l.length*sz:=bg _ hil
    rw [bK,dY]at this
    rw [hR.2.1];omega
   have hx:=ah hlt
   obtain⟨b',hb',hc⟩:=vU hO e1 hrl e2 hR.2.1 hx
   rw [n1]at hb'
   injection hb' with hb'
   subst hb'
   have hf:=hR.2.2.2 i j r0 _ _ e1 e2 hx
   rw [hc]at n4
   injection n4 with n4
   rw [n4]at hf
   cases hf
  ·rw [e]at e3;cases e3
 have ho : ∀g,qO w (σ mD) (.tree t sz (l.map fun r=>r.map (O6 T s)) none) g->(σ mD).b=some g:=fun g h=>h.elim id fun⟨i,j,h⟩=>(noN i j g h).elim
 obtain⟨s1,x1⟩:=st.YM (F':=F) (blk':= .tree t sz (l.map fun r=>r.map (O6 T s)) none) hk rfl (fun _ h=>h) (fun _ h=> .inl h) (fun g h=> .inl (ho g h)) fun hE=>by
  refine⟨h1,by rw [aj];exact h2,xs,by rw [aj];exact hO,⟨O7 hR.1,by rw [aj];exact hR.2.1,hR.2.2.1,fun i j row a v hi hj hv=> ?_⟩,⟨fun i j i' j' g h=>(noN i j g h).elim,fun i j g h=>(noN i j g h).elim⟩,fun _ _ _ h=>by cases h⟩
  obtain⟨r0,a0,e1,e2,rfl⟩:=wY hi hj
  have hf:=hR.2.2.2 i j r0 a0 v e1 e2 hv
  rcases Ic T s a0 with ⟨rfl,e⟩|e
  ·rw [e]
   cases hf
   exact⟨none,0,rfl, .inl ⟨rfl,rfl⟩⟩
  ·rw [e];exact hf
 exact⟨σ,F,s1,x1⟩
theorem QL {mD t sz:Nat}{l:List (List TV)}{c i j t' s':Nat}{r:List (List FV)}{row:List TV}{xs:List Value}{g m cc:Nat}(hO:Vc.Own w 0 t sz (σ mD).oa l.length c xs)(hT:Vy F w sz l xs)(hi:l[i]? = some row)(hj:row[j]? = some (.n t' s' r))(hv:xs[i*sz+j]? = some (.slice (some ⟨g,0,none⟩) m cc))(hc:0<cc) :
  KN w (σ mD) sz l i j g:=by
 obtain⟨b,hb,hcell⟩:=vU hO hi (hT.1 row (aU hi)) hj hT.2.1 hv
 exact⟨b,row,t',s',r,m,cc,hb,hi,hj,hcell,hc⟩
theorem YN {t sz c:Nat}{oa:Option Addr}{m:Nat}{ys:List Value}(hO:Vc.Own w 0 t sz oa m c ys)(hc:0<c) : ∃g,oa=some ⟨g,0,none⟩:=by
 rcases hO.2 with ⟨hv,_⟩|⟨g',cap,cur,hv,_⟩
 ·injection hv with _ _ e;omega
 ·injection hv with e _ _;exact⟨g',e⟩
theorem Gh.freeze {mD t sz:Nat}{l:List (List TV)}(hk:look H mD=some (.tree t sz l none)):Gh n H n (setH H mD (.rows t sz (l.map fun r=>r.map TV.fz))):=by
 intro G lT lY lZ σ F w st
 obtain⟨h1,h2,xs,hO,hT,hS,_⟩:=st.blk _ _ hk
 obtain⟨s1,x1⟩:=st.YM (F':=fun b=>F b∨Nst w (σ mD) (.tree t sz l none) b) (blk':= .rows t sz (l.map fun r=>r.map TV.fz)) hk rfl (fun _ h=> .inl h)
  (fun b h=>h.imp id fun h=>⟨.inr h,fun g hg e=>by
   subst e
   obtain⟨i,j,h⟩:=h
   exact hS.2 i j g h (hg.flat rfl)⟩) (fun g h=> .inl (h.flat rfl)) fun hE=>by
  refine⟨h1,by rw [aj];exact h2,xs,by rw [aj];exact hO,O7 hT.1,by rw [aj];exact hT.2.1,hT.2.2.1,fun i j row a v hi hj hv=> ?_⟩
  obtain⟨r0,a0,e1,e2,rfl⟩:=wY hi hj
  have hf:=hT.2.2.2 i j r0 a0 v e1 e2 hv
  cases a0 with
  | f x=>exact oV.mono hE.f hf
  | n t' s' r=>
   obtain⟨oa,c,rfl,hf⟩:=hf
   rcases hf with ⟨rfl,rfl⟩|⟨ys,hc,hO',hR'⟩
   ·exact zX s' oa
   ·refine NY hO' hR' (fun b hb=> .inl hb) fun g hg=> .inr ⟨i,j, ?_⟩
    subst hg
    exact QL hO hT e1 e2 hv hc
 exact⟨σ,_,s1,x1⟩
theorem CW {α:Type}{l:List (List α)}{i j i2 j2:Nat}{row uU:List α}{x y:α}(hi:l[i]? = some row)(hj:j<row.length)(h:(l.set i (row.set j x))[i2]? = some uU)(k:uU[j2]? = some y) :
  (i2=i∧j2=j∧y=x)∨(¬(i2=i∧j2=j)∧∃r,l[i2]? = some r∧r[j2]? = some y):=by
 have hil:=(aB.1 hi).1
 by_cases e:i2=i
 ·subst e
  rw [dh hil]at h
  injection h with h
  subst h
  by_cases e2:j2=j
  ·subst e2
   rw [dh hj]at k
   injection k with k
   exact .inl ⟨rfl,rfl,k.symm⟩
  ·rw [fP (fun h=>e2 h.symm)]at k
   exact .inr ⟨fun h=>e2 h.2,row,hi,k⟩
 ·rw [fP (fun h=>e h.symm)]at h
  exact .inr ⟨fun h=>e h.1,uU,h,k⟩
theorem O8 {α:Type}{l:List (List α)}{i j sz:Nat}{row:List α}{x:α}(hi:l[i]? = some row)(h : ∀r∈l,r.length=sz) : ∀r∈l.set i (row.set j x),r.length=sz:=fun r hr=>by
 rcases fZ hr with hr|rfl
 ·exact h r hr
 ·rw [bJ];exact h row (aU hi)
theorem Gh.unfold {mD t sz i j T s:Nat}{l:List (List TV)}{row:List TV}{r:List (List FV)}(hk:look H mD=some (.tree t sz l none))(hi:l[i]? = some row)(hj:row[j]? = some (.n T s r)) :
  Gh n H (n+1) ((n, .rows T s r)::setH H mD (.tree t sz (l.set i (row.set j (.f .top))) (some (i,j,n)))):=by
 intro G lT lY lZ σ F w st
 obtain⟨h1,h2,xs,hO,hT,hS,_⟩:=st.blk _ _ hk
 have hrl:=hT.1 row (aU hi)
 have hil:=(aB.1 hi).1
 have hjl:=(aB.1 hj).1
 have hlt:i*sz+j<xs.length:=by
  have:(i+1)*sz<=l.length*sz:=bg _ hil
  rw [bK,dY]at this
  rw [hT.2.1];omega
 have hx:=ah hlt
 obtain⟨oa,c,ev,hf⟩:=hT.2.2.2 i j row _ _ hi hj hx
 have hell:=st.lab _ _ hk
 have hloc : ∃L:Loc,L.n=r.length∧L.sz=s∧(∀σ',uS (n+1) σ' F w L (.rows T s r))∧(∀g,L.b=some g->KN w (σ mD) sz l i j g)∧
   ∀σ',σ' n=L->mM (n+1) σ' F w (.own n) xs[i*sz+j]:=by
  rcases hf with ⟨rfl,rfl⟩|⟨ys,hc,hO',hR'⟩
  ·refine⟨⟨none,0,0,s⟩,rfl,rfl,fun σ'=>⟨rfl,rfl,[],Vc.Own.nil _ _ _ _,qh.nil s⟩,(fun g h=>by cases h),fun σ' hσ=> ?_⟩
   rw [ev]
   exact .rH n oa aai (by rw [hσ]) (by rw [hσ])
  ·obtain⟨g,rfl⟩:=YN hO' hc
   refine⟨⟨some g,r.length,c,s⟩,rfl,rfl,fun σ'=>⟨rfl,rfl,ys,hO',hR'⟩,(fun g' h=> ?_),fun σ' hσ=> ?_⟩
   ·injection h with h
    subst h
    rw [ev]at hx
    exact QL hO hT hi hj hx hc
   ·rw [ev]
    have:=mM.own (n:=n+1) (σ:=σ') (F:=F) (w:=w) n aai
    rw [hσ]at this
    exact this
 obtain⟨L,_,_,hB,hN,hA⟩:=hloc
 have nat : ∀i2 j2 g,KN w (σ mD) sz (l.set i (row.set j (.f .top))) i2 j2 g->KN w (σ mD) sz l i2 j2 g∧¬(i2=i∧j2=j):=by
  rintro i2 j2 g ⟨b,uU,t',s',r2,m,c,n1,n2,n3,n4,n5⟩
  rcases CW hi hjl n2 n3 with ⟨_,_,e⟩|⟨hne,r3,e1,e2⟩
  ·cases e
  ·exact⟨⟨b,r3,t',s',r2,m,c,n1,e1,e2,n4,n5⟩,hne⟩
 have RY : ∀g,qO w (σ mD) (.tree t sz (l.set i (row.set j (.f .top))) (some (i,j,n))) g->qO w (σ mD) (.tree t sz l none) g∧¬KN w (σ mD) sz l i j g:=by
  rintro g (h|⟨i2,j2,h⟩)
  ·exact⟨.inl h,fun hn=>hS.2 i j g hn h⟩
  ·obtain⟨h0,hne⟩:=nat i2 j2 g h
   exact⟨.inr ⟨i2,j2,h0⟩,fun hn=>hne (hS.1 _ _ _ _ g h0 hn)⟩
 have hlook : ∀ {k b},look ((n, .rows T s r)::setH H mD (.tree t sz (l.set i (row.set j (.f .top))) (some (i,j,n)))) k=some b->
   (k=n∧b = .rows T s r)∨(k≠n∧k=mD∧b = .tree t sz (l.set i (row.set j (.f .top))) (some (i,j,n)))∨(k≠n∧k≠mD∧look H k=some b):=by
  intro k b h
  rw [mO]at h
  split at h
  ·rename_i e;injection h with h;exact .inl ⟨e.symm,h.symm⟩
  ·rename_i e
   rw [oz hk]at h
   split at h
   ·rename_i e2;injection h with h;exact .inr (.inl ⟨fun h=>e h.symm,e2,h.symm⟩)
   ·rename_i e2;exact .inr (.inr ⟨fun h=>e h.symm,e2,h⟩)
 obtain⟨s1,x1⟩:=st.MC (n':=n+1) (σ':=yC σ n L) (F':=F) (H':=(n, .rows T s r)::setH H mD (.tree t sz (l.set i (row.set j (.f .top))) (some (i,j,n)))) aai (fun k hk=>oK aai) (fun _ h=>h) (fun _ h=> .inl h)
  (fun k b h=>by
   rcases hlook h with ⟨e,_⟩|⟨_,e,_⟩|⟨_,_,h⟩
   ·omega
   ·omega
   ·have:=st.lab k b h;omega)
  (fun k b g h m ho=>by
   rcases hlook h with ⟨e,rfl⟩|⟨e0,e,rfl⟩|⟨e0,e,h⟩
   ·subst e
    rw [nP]at ho
    have h3:=hN g (ho.flat rfl)
    have h4:qO w (σ mD) (.tree t sz l none) g:= .inr ⟨i,j,h3⟩
    exact⟨(st.mu _ _ g hk rfl h4).1,_,_,hk,rfl,h4⟩
   ·subst e
    rw [oK e0]at ho
    have h4:=(RY g ho).1
    exact⟨(st.mu _ _ g hk rfl h4).1,_,_,hk,rfl,h4⟩
   ·rw [oK e0]at ho
    exact⟨(st.mu _ _ g h m ho).1,_,_,h,m,ho⟩)
  (fun k k' b b' g h h' m m' ho ho'=>by
   have cross : ∀ {k b},look ((n, .rows T s r)::setH H mD (.tree t sz (l.set i (row.set j (.f .top))) (some (i,j,n)))) k=some b->b.own=true->qO w (yC σ n L k) b g->L.b=some g->k=n:=by
    intro k b h m ho hL
    have h3:=hN g hL
    rcases hlook h with ⟨e,_⟩|⟨e0,e,rfl⟩|⟨e0,e,h⟩
    ·exact e
    ·subst e
     rw [oK e0]at ho
     exact((RY g ho).2 h3).elim
    ·rw [oK e0]at ho
     exact(e (st.inj k mD b _ g h hk m rfl ho (.inr ⟨i,j,h3⟩))).elim
   rcases hlook h with ⟨e,rfl⟩|⟨e0,e,rfl⟩|⟨e0,e,h0⟩
   ·subst e
    rw [nP]at ho
    exact(cross h' m' ho' (ho.flat rfl)).symm
   ·rcases hlook h' with ⟨e',rfl⟩|⟨e0',e',rfl⟩|⟨e0',e',h0'⟩
    ·subst e'
     rw [nP]at ho'
     exact cross h m ho (ho'.flat rfl)
    ·rw [e,e']
    ·subst e
     rw [oK e0]at ho
     rw [oK e0']at ho'
     exact st.inj _ _ _ _ g hk h0' rfl m' (RY g ho).1 ho'
   ·rcases hlook h' with ⟨e',rfl⟩|⟨e0',e',rfl⟩|⟨e0',e',h0'⟩
    ·subst e'
     rw [nP]at ho'
     exact cross h m ho (ho'.flat rfl)
    ·subst e'
     rw [oK e0]at ho
     rw [oK e0']at ho'
     exact st.inj _ _ _ _ g h0 hk m rfl ho (RY g ho').1
    ·rw [oK e0]at ho
     rw [oK e0']at ho'
     exact st.inj _ _ _ _ g h0 h0' m m' ho ho')
  (fun hE k b h=>by
   rcases hlook h with ⟨e,rfl⟩|⟨e0,e,rfl⟩|⟨e0,e,h⟩
   ·subst e;rw [nP];exact hB _
   ·subst e
    rw [oK e0]
    refine⟨h1,by rw [bJ];exact h2,xs,by rw [bJ];exact hO,⟨O8 hi hT.1,by rw [bJ];exact hT.2.1,hT.2.2.1,fun i2 j2 uU a v n1 n2 n3=> ?_⟩,⟨fun a b c d g x y=>hS.1 a b c d g (nat _ _ _ x).1 (nat _ _ _ y).1,fun a b g x=>hS.2 a b g (nat _ _ _ x).1⟩,fun i2 j2 e2 he=> ?_⟩
    ·rcases CW hi hjl n1 n2 with ⟨_,_,e⟩|⟨_,r3,e1,e2⟩
     ·subst e;exact oV.top v
     ·exact hT.2.2.2 i2 j2 r3 a v e1 e2 n3
    ·injection he with he
     injection he with ee1 he
     injection he with ee2 ee3
     subst ee1;subst ee2;subst ee3
     exact⟨by omega,by rw [bJ];exact hil,by omega,⟨_,dh hil,dh hjl⟩,_,hx,hA _ (nP _ _ _)⟩
   ·rw [oK e0]
    exact(st.blk k b h).mono hE fun _ _ _=>rfl)
 exact⟨_,F,s1,x1⟩
theorem Gh.fold {mD e t sz i j T s:Nat}{l:List (List TV)}{row:List TV}{r:List (List FV)}(hk:look H mD=some (.tree t sz l (some (i,j,e))))(he:look H e=some (.rows T s r))(hne:e≠mD)(hi:l[i]? = some row) :
  Gh n H n (setH (Gu H e) mD (.tree t sz (l.set i (row.set j (.n T s r))) none)):=by
 intro G lT lY lZ σ F w st
 obtain⟨h1,h2,xs,hO,hT,hS,hh⟩:=st.blk _ _ hk
 obtain⟨_,hil,hjs,⟨row',hi',hj⟩,v0,hv0,ra⟩:=hh _ _ _ rfl
 rw [hi]at hi'
 injection hi' with hi'
 subst hi'
 have hrl:=hT.1 row (aU hi)
 have hjl:=(aB.1 hj).1
 obtain⟨q1,q2,ys,hO',hR'⟩:=st.blk _ _ he
 obtain⟨bo,hbo,hcell0⟩:=vU hO hi hrl hj hT.2.1 hv0
 have hv : ∃oa c,v0 = .slice oa r.length c∧((c=0∧r = [])∨∃ys,0<c∧Vc.Own w 0 T s oa r.length c ys∧qh F w s r ys)∧∀g,oa=some ⟨g,0,none⟩->0<c->(σ e).b=some g:=by
  cases ra with
  | rH _ oa hl hn hc=>
   rw [hn]at q2
   have:r = []:=aK q2.symm
   subst this
   exact⟨oa,0,rfl, .inl ⟨rfl,rfl⟩,fun g _ h=>by omega⟩
  | own _ hl=>
   refine⟨(σ e).oa,(σ e).c,by rw [q2], ?_,fun g hg _=>uK hg⟩
   rcases bM (σ e).c with h0|h0
   ·have:=(JC hO').1
    exact .inl ⟨h0,aK aai⟩
   ·exact .inr ⟨ys,h0,hO',hR'⟩
 obtain⟨oa,c,rfl,hv1,hv2⟩:=hv
 have nat : ∀i2 j2 g,KN w (σ mD) sz (l.set i (row.set j (.n T s r))) i2 j2 g->(i2=i∧j2=j∧(σ e).b=some g)∨(¬(i2=i∧j2=j)∧KN w (σ mD) sz l i2 j2 g):=by
  rintro i2 j2 g ⟨b,uU,t',s',r2,m,c2,n1,n2,n3,n4,n5⟩
  rcases CW hi hjl n2 n3 with ⟨e1,e2,e3⟩|⟨hne,r3,e1,e2⟩
  ·subst e1;subst e2
   rw [hbo]at n1
   injection n1 with n1
   subst n1
   rw [hcell0]at n4
   injection n4 with n4
   injection n4 with n4 _ n6
   subst n6
   exact .inl ⟨rfl,rfl,hv2 g n4 n5⟩
  ·exact .inr ⟨hne,b,r3,t',s',r2,m,c2,n1,e1,e2,n4,n5⟩
 have acY : ∀ {g},(σ e).b=some g->qO w (σ e) (.rows T s r) g:=fun h=> .inl h
 have noE : ∀ {g},(σ e).b=some g->¬qO w (σ mD) (.tree t sz l (some (i,j,e))) g:=fun h ho=>hne (st.inj e mD _ _ _ he hk rfl rfl (acY h) ho)
 have hk':look (Gu H e) mD=some (.tree t sz l (some (i,j,e))):=by
  have : ∀ {H:lI} {b:oI},look H mD=some b->look (Gu H e) mD=some b:=by
   intro H
   induction H with
   | nil=>intro b h;cases h
   | cons p q ih=>
    intro b h
    obtain⟨x,bx⟩:=p
    rw [mO]at h
    simp only [Gu]
    cases hb:Nat.beq x e with
    | true=>
     have:=aA hb
     rw [cond_true]
     rw [if_neg aai]at h
     exact ih h
    | false=>
     rw [cond_false,mO]
     split at h
     ·rename_i e1;rw [if_pos e1];exact h
     ·rename_i e1;rw [if_neg e1];exact ih h
  exact this hk
 have hlook : ∀ {k b},look (setH (Gu H e) mD (.tree t sz (l.set i (row.set j (.n T s r))) none)) k=some b->
   (k=mD∧b = .tree t sz (l.set i (row.set j (.n T s r))) none)∨(k≠mD∧k≠e∧look H k=some b):=by
  intro k b h
  rw [oz hk']at h
  split at h
  ·rename_i e2;injection h with h;exact .inl ⟨e2,h.symm⟩
  ·rename_i e2;exact .inr ⟨e2,(pV h).1,(pV h).2⟩
 have RY : ∀g,qO w (σ mD) (.tree t sz (l.set i (row.set j (.n T s r))) none) g->qO w (σ mD) (.tree t sz l (some (i,j,e))) g∨(σ e).b=some g:=by
  rintro g (h|⟨i2,j2,h⟩)
  ·exact .inl (.inl h)
  ·rcases nat i2 j2 g h with ⟨_,_,h⟩|⟨_,h⟩
   ·exact .inr h
   ·exact .inl (.inr ⟨i2,j2,h⟩)
 obtain⟨s1,x1⟩:=st.MC (n':=n) (σ':=σ) (F':=F) (H':=setH (Gu H e) mD (.tree t sz (l.set i (row.set j (.n T s r))) none)) (au _) (fun _ _=>rfl) (fun _ h=>h) (fun _ h=> .inl h)
  (fun k b h=>by
   rcases hlook h with ⟨rfl,_⟩|⟨_,_,h⟩
   ·exact st.lab _ _ hk
   ·exact st.lab k b h)
  (fun k b g h m ho=>by
   rcases hlook h with ⟨rfl,rfl⟩|⟨_,_,h⟩
   ·rcases RY g ho with h4|h4
    ·exact⟨(st.mu _ _ g hk rfl h4).1,_,_,hk,rfl,h4⟩
    ·exact⟨(st.mu _ _ g he rfl (acY h4)).1,_,_,he,rfl,acY h4⟩
   ·exact⟨(st.mu _ _ g h m ho).1,_,_,h,m,ho⟩)
  (fun k k' b b' g h h' m m' ho ho'=>by
   have cross : ∀ {k b},k≠mD->k≠e->look H k=some b->b.own=true->qO w (σ k) b g->qO w (σ mD) (.tree t sz (l.set i (row.set j (.n T s r))) none) g->False:=by
    intro k b e1 e2 h m ho hT
    rcases RY g hT with h4|h4
    ·exact e1 (st.inj k mD b _ g h hk m rfl ho h4)
    ·exact e2 (st.inj k e b _ g h he m rfl ho (acY h4))
   rcases hlook h with ⟨e0,e1⟩|⟨e1,e2,h0⟩
   ·subst e0;subst e1
    rcases hlook h' with ⟨e0,e1⟩|⟨e1',e2',h0'⟩
    ·exact e0.symm
    ·exact(cross e1' e2' h0' m' ho' ho).elim
   ·rcases hlook h' with ⟨e0,e3⟩|⟨e1',e2',h0'⟩
    ·subst e0;subst e3
     exact(cross e1 e2 h0 m ho ho').elim
    ·exact st.inj k k' b b' g h0 h0' m m' ho ho')
  (fun hE k b h=>by
   rcases hlook h with ⟨rfl,rfl⟩|⟨_,_,h⟩
   ·refine⟨h1,by rw [bJ];exact h2,xs,by rw [bJ];exact hO,⟨O8 hi hT.1,by rw [bJ];exact hT.2.1,hT.2.2.1,fun i2 j2 uU a v n1 n2 n3=> ?_⟩,⟨fun a b c d g x y=> ?_,fun a b g x hb=> ?_⟩,fun _ _ _ h=>by cases h⟩
    ·rcases CW hi hjl n1 n2 with ⟨e1,e2,e3⟩|⟨_,r3,e1,e2⟩
     ·subst e1;subst e2;subst e3
      rw [hv0]at n3
      injection n3 with n3
      subst n3
      exact⟨oa,c,rfl,hv1⟩
     ·exact hT.2.2.2 i2 j2 r3 a v e1 e2 n3
    ·rcases nat a b g x with ⟨x1,x2,x3⟩|⟨_,x1⟩
     ·rcases nat c d g y with ⟨y1,y2,_⟩|⟨_,y1⟩
      ·exact⟨x1.trans y1.symm,x2.trans y2.symm⟩
      ·exact(noE x3 (.inr ⟨c,d,y1⟩)).elim
     ·rcases nat c d g y with ⟨_,_,y3⟩|⟨_,y1⟩
      ·exact(noE y3 (.inr ⟨a,b,x1⟩)).elim
      ·exact hS.1 a b c d g x1 y1
    ·rcases nat a b g x with ⟨_,_,x3⟩|⟨_,x1⟩
     ·exact noE x3 (.inl hb)
     ·exact hS.2 a b g x1 hb
   ·exact(st.blk k b h).mono hE fun _ _ _=>rfl)
 exact⟨σ,F,s1,x1⟩
end
end Go.Proofs.YtnandbihiceihaaGreatDoor.Ax
namespace Go.Proofs.YtnandbihiceihaaGreatDoor.Cl
open RowKit Vc Ax Go.Proofs.Tryz
attribute [local irreducible] loadVar storeVar Instr.indexAt Instr.index Instr.sliceAt Instr.makeSlice Instr.lookup Instr.mapUpdate Instr.range Instr.next Instr.entry Instr.makeMap Builtin.append_ Builtin.copy_ Builtin.len_ Builtin.min_ Builtin.max_ Builtin.cap_ Builtin.delete_ Builtin.clear_ convert binOp eqGuard Op.unary Calls
theorem Cm {α:Type}{sz:Nat}{enc:α->List FV}{c:α->List Value}(he : ∀x,enc x=(c x).map .v)(hk : ∀a,(c a).length=sz)(h1 : ∀a, ∀v∈c a,v.oneCell'=true)(F:Nat->Prop)(w:World)(l:List α):qh F w sz (l.map enc) (recs c l):=by
 refine⟨fun row hr=> ?_, ?_,fun v hv=> ?_,fun i j row a v hi hj hv=> ?_⟩
 ·obtain⟨x,_,rfl⟩:=dW.1 hr
  rw [he,aj,hk]
 ·rw [BL hk,aj]
 ·obtain⟨x,_,hx⟩:=List.mem_flatMap.1 hv
  exact h1 x v hx
 ·rw [aJ]at hi
  cases hx:l[i]? with
  | none=>rw [hx]at hi;cases hi
  | some x=>
   rw [hx]at hi
   injection hi with hi
   subst hi
   rw [he,aJ]at hj
   cases hy:(c x)[j]? with
   | none=>rw [hy]at hj;cases hj
   | some y=>
    rw [hy]at hj
    injection hj with hj
    subst hj
    rw [Yk hk hx hy]at hv
    injection hv with hv
    subst hv
    exact .v _
theorem EL {P:Program}{G:Glob}{f:FuncId}{args:List AV}{α:Type}{sz E:Nat}{enc:α->List FV}{c:α->List Value}(he : ∀x,enc x=(c x).map .v)(hk : ∀a,(c a).length=sz)(h1 : ∀a, ∀v∈c a,v.oneCell'=true){l:List α}
  (h : ∀(w:World) (F:Nat->Prop) (σ:Nat->Ax.Loc) (vs:List Value),(∀b,F b->b<w.heap.size)->mZ 0 σ F w args vs->zO P f vs.toArray w fun v w'=> ∃oa cp,v = .slice oa l.length cp∧Vc.Own w' w.heap.size E sz oa l.length cp (recs c l)∧Below w.heap.size w w') :
  mP P G f args 0 [] (vZ E sz (l.map enc)):=by
 intro w σ F vs st r
 refine(h w F σ vs (fun b hb=>(st.oG b hb).1) r).mono fun v w' ⟨oa,cp,e,hO,hB⟩=> ?_
 subst e
 have WC:Vc.Own w' 0 E sz oa l.length cp (recs c l):=⟨hO.1,hO.2.imp id fun⟨g,cap,cur,h1,_,h2⟩=>⟨g,cap,cur,h1,aH _,h2⟩⟩
 have hR:=Cm he hk h1 F w' l
 obtain⟨s2,x2⟩:=st.new (w':=w') (y7.qX hB) ⟨oa.map (·.block),l.length,cp,sz⟩ (fun g hg=>by
   cases oa with
   | none=>cases hg
   | some a=>exact hO.ge g hg) (.rows E sz (l.map enc)) (zY WC ahM hR)
 exact⟨_,1,_,F,_,⟨rfl,rfl,rfl⟩,s2,x2,DY WC⟩
theorem RZ (b:By):recs (fun a:UInt8=> [Value.int .u8 (a.toNat:Int)]) b=pI b:=OL _ b
theorem YO (x:Nat):Dg.wM x 8=be 8 x:=by
 have e : ∀k,Dg.yG x k=bt (x/2^(8*k)):=fun k=>by
  unfold Dg.yG
  apply UInt8.toNat_inj.1
  simp
 simp only [Dg.wM,e]
 rfl
theorem O9 (G:Glob)(b:By)(x:Nat)(hl:b.length<=1000000)(hx:x<18446744073709551616):mP Tryz.prog G 125 [bs b,uv x] 0 [] (vZ 5 1 ((b++be 8 x).map wJ)):=by
 refine EL (E:=5) (c:=fun a:UInt8=> [Value.int .u8 (a.toNat:Int)]) (fun _=>rfl) (fun _=>rfl) (fun _ v hv=>by simp at hv;subst hv;rfl) fun w F σ vs hF r=> ?_
 match vs,r with
 | [u,y],⟨ru,ry,_⟩=>
  rw [ry.nY]
  cases ru with
  | lst hu=>
   obtain⟨oa,c,rfl,hc,hn,hr⟩:=JM hu hF
   refine(RG oa b.length c b x w rfl hl hc hn hx hr).mono fun v w' ⟨pJ,c',e,hO,hB⟩=> ?_
   rw [YO]at hO
   refine⟨pJ,c', ?_, ?_,hB⟩
   ·rw [e,ay,uM]
   ·rw [RZ,ay,uM];exact hO
end Go.Proofs.YtnandbihiceihaaGreatDoor.Cl
namespace Go.Proofs.YtnandbihiceihaaGreatDoor.Ax
open RowKit Vc Go.Proofs.Tryz
structure YP (p:Prop):Prop where
 go:p
theorem YQ (p:Prop):YP p=p:=propext ⟨fun h=>h.go,fun h=>⟨h⟩⟩
def pre:List Nat->Plan->Plan
 | [],p=>p
 | i::r,p=> .take i (pre r p)
section
variable {P:Program}{G:Glob}{all:List Oper}{D:List Nat}{p:Plan}{n:Nat}{H:lI}{K:lV->Nat->lI->Prop}
theorem JQ : ∀(ts:List Nat) (ρ:lV),aD P G all D (pre ts p) ρ n H K=aDT P G all (tX D H) H ts ρ (fun ρ'=>aD P G all D p ρ' n H K)
 | [],ρ=>rfl
 | i::ts,ρ=>by
  simp only [pre,aD,aDT]
  cases all[i]? with
  | none=>rfl
  | some o=>simp only [JQ ts]
theorem agD {ρ:lV}(ts:List Nat)(h:aDT P G all (tX D H) H ts ρ (fun ρ'=>YP (aD P G all D p ρ' n H K))):aD P G all D (pre ts p) ρ n H K:=by
 rw [JQ]
 have e:(fun ρ'=>YP (aD P G all D p ρ' n H K))=fun ρ'=>aD P G all D p ρ' n H K:=funext fun ρ'=>YQ _
 rw [e]at h
 exact h
theorem VW (ρ:lV)(s:Nat):um ρ s (ρ s)=ρ:=by
 funext k
 unfold um
 cases h:Nat.beq k s with
 | true=>rw [aA h];simp
 | false=>simp
theorem acZ {ρ:lV}(s:Nat){t:Bool}(hr:ρ s = .v (.bool t))(h1:t=true->aD P G all D p (um ρ s (.v (.bool true))) n H K)(h2:t=false->aD P G all D p (um ρ s (.v (.bool false))) n H K):aD P G all D p ρ n H K:=by
 have e:=VW ρ s
 rw [hr]at e
 cases t with
 | true=>have:=h1 rfl;rw [e]at this;exact this
 | false=>have:=h2 rfl;rw [e]at this;exact this
end
end Go.Proofs.YtnandbihiceihaaGreatDoor.Ax
namespace Go.Proofs.YtnandbihiceihaaGreatDoor.Cl
open RowKit Vc Ax Go.Proofs.Tryz
attribute [local irreducible] loadVar storeVar Instr.indexAt Instr.index Instr.sliceAt Instr.makeSlice Instr.lookup Instr.mapUpdate Instr.range Instr.next Instr.entry Instr.makeMap Builtin.append_ Builtin.copy_ Builtin.len_ Builtin.min_ Builtin.max_ Builtin.cap_ Builtin.delete_ Builtin.clear_ convert binOp eqGuard Op.unary Calls
theorem ak7:(2:Int)^min (Int.toNat 1) IntKind.u64.bits=2:=aaw
def l8:List UInt8:= [0,1,2,2,3,3,3,3,4,4,4,4,4,4,4,4,5,5,5,5,5,5,5,5,5,5,5,5,5,5,5,5,6,6,6,6,6,6,6,6,6,6,6,6,6,6,6,6,6,6,6,6,6,6,6,6,6,6,6,6,6,6,6,6,7,7,7,7,7,7,7,7,7,7,7,7,7,7,7,7,7,7,7,7,7,7,7,7,7,7,7,7,7,7,7,7,7,7,7,7,7,7,7,7,7,7,7,7,7,7,7,7,7,7,7,7,7,7,7,7,7,7,7,7,7,7,7,7,8,8,8,8,8,8,8,8,8,8,8,8,8,8,8,8,8,8,8,8,8,8,8,8,8,8,8,8,8,8,8,8,8,8,8,8,8,8,8,8,8,8,8,8,8,8,8,8,8,8,8,8,8,8,8,8,8,8,8,8,8,8,8,8,8,8,8,8,8,8,8,8,8,8,8,8,8,8,8,8,8,8,8,8,8,8,8,8,8,8,8,8,8,8,8,8,8,8,8,8,8,8,8,8,8,8,8,8,8,8,8,8,8,8,8,8,8,8,8,8,8,8,8,8,8,8,8,8]
theorem ai2 : ∀j,j<256->(l8.getD j 0).toNat=wid 8 j:=aaw
theorem Ut : ∀(f u:Nat),u<2^f->0<u->0<wid f u∧2^(wid f u-1)<=u:=by
 intro f
 induction f with
 | zero=>intro u h h0;simp at h;omega
 | succ f ih=>
  intro u h h0
  unfold wid
  rw [if_neg aai]
  refine⟨by omega, ?_⟩
  rw [jF]
  rcases bM (u/2)with e|e
  ·rw [e]
   have:wid f 0=0:=by cases f<;>simp [wid]
   rw [this];simp;omega
  ·have:=ih (u/2) ako e
   obtain⟨w,hw⟩ : ∃w,wid f (u/2)=w+1:=⟨wid f (u/2)-1,by omega⟩
   rw [hw]at this ⊢
   rw [jF]at this
   rw [iJ]
   omega
theorem YR {f u w:Nat}(hu:u<2^f)(h1:u<2^w)(h2:w=0∨2^(w-1)<=u):wid f u=w:=by
 have h3:=acS f u w h1
 rcases eG (wid f u) w with h|h
 ·exfalso
  have h4:=(qB f u hu).1
  have h5:2^(wid f u)<=2^(w-1):=jQ aaw aai
  omega
 ·omega
theorem YS {u:Nat}(hu:u<18446744073709551616)(s:Nat)(h8:u/2^s<256)(h1:s=0∨1<=u/2^s):wid 64 u=s+wid 8 (u/2^s):=by
 have h2:=qB 8 (u/2^s) h8
 refine YR hu ?_ ?_
 ·rw [kE]
  have:=(kW (Nat.pow_pos aaw:0<2^s)).1 h2.1
  rwa [gG]at this
 ·rcases bM (u/2^s)with h0|h0
  ·left;rw [h0];have:s=0:=aai
   subst this;decide
  ·right
   have h3:=Ut 8 _ h8 h0
   obtain⟨w,hw⟩ : ∃w,wid 8 (u/2^s)=w+1:=⟨wid 8 (u/2^s)-1,by omega⟩
   rw [hw]at h3 ⊢
   rw [jF]at h3
   rw [show s+(w+1)-1=s+w by omega,kE]
   exact bG (Nat.mul_le_mul_left _ h3.2) (Nat.mul_div_le u _)
theorem VX (u s:Nat)(hs:s<=64):Int.fdiv (u:Int) (2^min (Int.toNat (s:Int)) IntKind.u64.bits)=((u/2^s:Nat):Int):=by
 have e:IntKind.u64.bits=64:=rfl
 rw [e,dK,fC hs,iy _ (by exact Int.pow_nonneg aaw)]
 simp
theorem YT (u:Nat):Int.fdiv (u:Int) (2^min (Int.toNat 32) IntKind.u64.bits)=((u/4294967296:Nat):Int):=VX u 32 aaw
theorem aen (u:Nat):Int.fdiv (u:Int) (2^min (Int.toNat 16) IntKind.u64.bits)=((u/65536:Nat):Int):=VX u 16 aaw
theorem ac0 (u:Nat):Int.fdiv (u:Int) (2^min (Int.toNat 8) IntKind.u64.bits)=((u/256:Nat):Int):=VX u 8 aaw
theorem leaf {u v:Nat}(hu:u<18446744073709551616)(s:Nat)(hv:v=u/2^s)(h8:v<256)(h1:s=0∨1<=v):wid 64 u=s+wid 8 v:=by
 subst hv;exact YS hu s h8 h1
theorem EM {j:Nat}(h:j<256):IntKind.i64.wrap (((l8.getD j 0).toNat:Nat):Int)=(wid 8 j:Int):=by
 rw [ai2 j h]
 have:=(qB 8 j h).2
 exact IntWalk.i64_in _ aai
theorem YU (u:Nat)(hu:u<18446744073709551616):mP Tryz.prog GC 311 [uv u] 0 [] (Is (iv (wid 64 u))):=by
 refine lJ func311 rfl mixed aag ?_
 refine lH (fun h1=> ?_) (fun h1=> ?_)<;>(simp at h1;conv=>whnf)
 ·refine lW.mk aaw ?_
  rw [YT]
  refine lH (fun h2=> ?_) (fun h2=> ?_)<;>(simp at h2;conv=>whnf)
  refine lW.mk aaw ?_
  rw [aen]
  refine lN.i64 aai ?_
  refine lH (fun h3=> ?_) (fun h3=> ?_)<;>(simp at h3;conv=>whnf)
  ·refine lW.mk aaw ?_
   rw [ac0]
   refine lN.i64 aai ?_
   refine lN.to (zA aai) ?_
   refine mJ.mk' _ rfl ahs ?_
   refine lN.to (EM aai) ?_
   refine lN.to (y:=(wid 64 u:Int)) (by
    have hw:=qB 64 u hu
    have:=leaf (v:=u/4294967296/65536/256) hu 56 (by first|rfl|(show _=u/72057594037927936;omega)) aai aai
    rw [IntWalk.i64_in _ aai];omega) ?_
   exact lQ [] aaM
  ·skip
   refine lN.to (zA aai) ?_
   refine mJ.mk' _ rfl ahs ?_
   refine lN.to (EM aai) ?_
   refine lN.to (y:=(wid 64 u:Int)) (by
    have hw:=qB 64 u hu
    have:=leaf (v:=u/4294967296/65536) hu 48 (by first|rfl|(show _=u/281474976710656;omega)) aai aai
    rw [IntWalk.i64_in _ aai];omega) ?_
   exact lQ [] aaM
  refine lH (fun h3=> ?_) (fun h3=> ?_)<;>(simp at h3;conv=>whnf)
  ·refine lW.mk aaw ?_
   rw [ac0]
   refine lN.i64 aai ?_
   refine lN.to (zA aai) ?_
   refine mJ.mk' _ rfl ahs ?_
   refine lN.to (EM aai) ?_
   refine lN.to (y:=(wid 64 u:Int)) (by
    have hw:=qB 64 u hu
    have:=leaf (v:=u/4294967296/256) hu 40 (by first|rfl|(show _=u/1099511627776;omega)) aai aai
    rw [IntWalk.i64_in _ aai];omega) ?_
   exact lQ [] aaM
  ·skip
   refine lN.to (zA aai) ?_
   refine mJ.mk' _ rfl ahs ?_
   refine lN.to (EM aai) ?_
   refine lN.to (y:=(wid 64 u:Int)) (by
    have hw:=qB 64 u hu
    have:=leaf (v:=u/4294967296) hu 32 (by first|rfl|(show _=u/4294967296;omega)) aai aai
    rw [IntWalk.i64_in _ aai];omega) ?_
   exact lQ [] aaM
 ·refine lH (fun h2=> ?_) (fun h2=> ?_)<;>(simp at h2;conv=>whnf)
  refine lW.mk aaw ?_
  rw [aen]
  refine lN.i64 aai ?_
  refine lH (fun h3=> ?_) (fun h3=> ?_)<;>(simp at h3;conv=>whnf)
  ·refine lW.mk aaw ?_
   rw [ac0]
   refine lN.i64 aai ?_
   refine lN.to (zA aai) ?_
   refine mJ.mk' _ rfl ahs ?_
   refine lN.to (EM aai) ?_
   refine lN.to (y:=(wid 64 u:Int)) (by
    have hw:=qB 64 u hu
    have:=leaf (v:=u/65536/256) hu 24 (by first|rfl|(show _=u/16777216;omega)) aai aai
    rw [IntWalk.i64_in _ aai];omega) ?_
   exact lQ [] aaM
  ·skip
   refine lN.to (zA aai) ?_
   refine mJ.mk' _ rfl ahs ?_
   refine lN.to (EM aai) ?_
   refine lN.to (y:=(wid 64 u:Int)) (by
    have hw:=qB 64 u hu
    have:=leaf (v:=u/65536) hu 16 (by first|rfl|(show _=u/65536;omega)) aai aai
    rw [IntWalk.i64_in _ aai];omega) ?_
   exact lQ [] aaM
  refine lH (fun h3=> ?_) (fun h3=> ?_)<;>(simp at h3;conv=>whnf)
  ·refine lW.mk aaw ?_
   rw [ac0]
   refine lN.i64 aai ?_
   refine lN.to (zA aai) ?_
   refine mJ.mk' _ rfl ahs ?_
   refine lN.to (EM aai) ?_
   refine lN.to (y:=(wid 64 u:Int)) (by
    have hw:=qB 64 u hu
    have:=leaf (v:=u/256) hu 8 (by first|rfl|(show _=u/256;omega)) aai aai
    rw [IntWalk.i64_in _ aai];omega) ?_
   exact lQ [] aaM
  ·skip
   refine lN.to (zA aai) ?_
   refine mJ.mk' _ rfl ahs ?_
   refine lN.to (EM aai) ?_
   refine lN.to (y:=(wid 64 u:Int)) (by
    have hw:=qB 64 u hu
    have:=leaf (v:=u) hu 0 (by first|rfl|(show _=u/1;omega)) aai aai
    rw [IntWalk.i64_in _ aai];omega) ?_
   exact lQ [] aaM
theorem YV {f:FuncId}{l:List Value}{x y:Value}(h : ∀w,zO Tryz.prog f l.toArray w fun v w'=>v = .tuple #[x,y]∧Below w.heap.size w w'):mP Tryz.prog GC f (l.map .v) 0 [] (Is (.og [.v x, .v y])):=by
 intro w σ F vs st r
 refine(Ba (G:=GC) (x:= .tuple #[x,y]) (fun w _=>h w) w σ F vs st r).mono fun v w' ⟨a,n',σ',F',H',⟨e1,e2,e3⟩,s,x',ra⟩=> ?_
 subst e1;subst e2;subst e3
 refine⟨.og [.v x, .v y],0,σ',F',[],⟨rfl,rfl,rfl⟩,s,x', ?_⟩
 rw [ra.nY]
 exact mZ.og («as» := [.v x, .v y]) (vs:= [x,y]) ⟨.v _, .v _,trivial⟩
end Go.Proofs.YtnandbihiceihaaGreatDoor.Cl
