/- Joined parts of the proof. Library contracts at this program (written by the kit's command lay-plain) -/
import Derived.Shelf.Sort.Plain
import Derived.Shelf.Bits.Mul64
import Derived.Ground.Names2Prog
import Derived.Shelf.Slices.CompactI
import Derived.Shelf.Slices.CompactS
import Derived.Test.YtnandbihiceihaaGreatDoorProg
import Derived.Test.YtnandbihiceihaaGreatDoorNk13
import Derived.Test.YtnandbihiceihaaGreatDoorNk12
import Derived.Sort.Walk0
import Derived.Test.YtnandbihiceihaaGreatDoorNk11
import Derived.Test.YtnandbihiceihaaGreatDoorNk10
set_option linter.unusedVariables false
set_option linter.unusedSimpArgs false
set_option maxRecDepth 100000
set_option maxHeartbeats 16000000
namespace Go.Proofs
open Go.Shelf
end Go.Proofs
namespace Go.Proofs.YtnandbihiceihaaGreatDoor.Cl
open RowKit Vc Ax Go.Proofs.Tryz
attribute [local irreducible] loadVar storeVar Instr.indexAt Instr.index Instr.sliceAt Instr.makeSlice Instr.lookup Instr.mapUpdate Instr.range Instr.next Instr.entry Instr.makeMap Builtin.append_ Builtin.copy_ Builtin.len_ Builtin.min_ Builtin.max_ Builtin.cap_ Builtin.delete_ Builtin.clear_ convert binOp eqGuard Op.unary Calls
theorem w8 {n:Nat}(h:n<256):IntKind.u8.wrap (n:Int)=n:=JU h
theorem pw8 {c s:Nat}(hc:c<=1)(hs:s<8):c*2^s<256:=by
 have:2^s<=2^7:=Nat.pow_le_pow_right (by decide) (by omega)
 have h2:=Nat.mul_le_mul hc this
 have:(1:Nat)*2^7=128:=by decide
 omega
theorem SE {c s:Nat}(hc:c<=1)(hs:s<8):IntKind.u8.wrap ((c:Int)*2^min (Int.toNat (s:Int)) IntKind.u8.bits)=((c*2^s:Nat):Int):=by
 have e:IntKind.u8.bits=8:=rfl
 rw [e,dA,eU (by omega)]
 have e2:(c:Int)*2^s=((c*2^s:Nat):Int):=by simp
 rw [e2,w8 (pw8 hc hs)]
section
attribute [local irreducible] best ints en bd
end
section
attribute [local irreducible] best ints en bd
structure BX where
 i:Nat
 out:Li
end
structure NX where
 i:Nat
 u:Nat
def NI (b:By)(i u:Nat):Prop:=GR b 0 0=GR (b.drop i) i u∧u<128^i∧i<=9∧i<=b.length
theorem NI.cons {b:By}{i u:Nat}(h:NI b i u)(hl:i<b.length):GR b 0 0=if i=9∧1<b[i].toNat then .bad 3 else if 128<=b[i].toNat then GR (b.drop (i+1)) (i+1) (u+b[i].toNat%128*128^i)else if b[i].toNat=0∧0<i then .bad 1 else .ok (zz (u+b[i].toNat%128*128^i)) (i+1):=by
 rw [h.1,cZ hl];rfl
theorem NI.lt {i u c:Nat}(hu:u<128^i):u+c%128*128^i<128^(i+1):=by
 have h1:c%128<=127:=by omega
 have h2:=aP (128^i) h1
 rw [wG];omega
theorem TT (b:By)(e most em:Int):zH b e most em=(if(if(qA b e).2.2=0 then(if(qA b e).1<0 then 3 else if most<(qA b e).1 then em else 0)else(qA b e).2.2)=0 then(qA b e).1 else 0,(qA b e).2.1,if(qA b e).2.2=0 then(if(qA b e).1<0 then 3 else if most<(qA b e).1 then em else 0)else(qA b e).2.2):=rfl
structure RX where
 b:By
 e:Int
 out:Li
structure SX where
 b:By
 out:Li
section
def Gd (b:By)(Q:Li->By->Prop):Prop:= ∀l0 r,wC l0->l0.length<=512->b=ints l0++r->Q l0 r
def XT (b:By)(l:Li)(n:Nat)(e:Int):Prop:=wC l∧l.length<=512∧((e=0∧n=(ints l).length∧b.take (ints l).length=ints l)∨(e=1∧l = []∧n=0))∧Gd b fun l0 _=>e=0∧l=l0
theorem XT.bad {b:By}(h:Gd b fun _ _=>False):XT b [] 0 1:=⟨wC.nil,aK _, .inr ⟨rfl,rfl,rfl⟩,fun l0 r ha hl hb=>(h l0 r ha hl hb).elim⟩
theorem XT.two (b:By){l:Li}{n:Nat}{e:Int}(h1:XT b l n e){l':Li}{n':Nat}{e':Int}(h2:XT b l' n' e'):l=l'∧n=n'∧e=e':=by
 obtain⟨a1,a2,a3,a4⟩:=h1
 obtain⟨b1,b2,b3,b4⟩:=h2
 rcases a3 with ⟨rfl,rfl,p1⟩|⟨rfl,rfl,rfl⟩
 ·have:=b4 l (b.drop (ints l).length) a1 a2 (by rw [<-p1];rw [p1];conv=>lhs;rw [<-fC (ints l).length b,p1])
  obtain⟨rfl,rfl⟩:=this
  rcases b3 with ⟨_,rfl,_⟩|⟨h,_⟩
  ·exact⟨rfl,rfl,rfl⟩
  ·omega
 ·rcases b3 with ⟨rfl,rfl,p1⟩|⟨rfl,rfl,rfl⟩
  ·have:=a4 l' (b.drop (ints l').length) b1 b2 (by conv=>lhs;rw [<-fC (ints l').length b,p1])
   omega
  ·exact⟨rfl,rfl,rfl⟩
attribute [local irreducible] best ints en bd
end
theorem Xf {a b c:By}(h1:a<b)(h2:b<c):a<c:=List.lt_trans h1 h2
theorem TU {a b:By}(h1 : ¬a<b)(h2:a≠b):b<a:=by
 by_cases h:b<a
 ·exact h
 ·exact absurd (List.le_antisymm (List.not_lt.1 h) (List.not_lt.1 h1)) h2
def Bq (d:Tx)(x:By):Tx:=
 match d with
 | []=> [x]
 | y::r=>if y<x then y::Bq r x else if y=x then y::r else x::y::r
def dsT (l:Tx):Tx:=l.foldl Bq []
def Y2:Tx->By->Nat
 | [],_=>0
 | y::r,x=>if y=x then 0 else Y2 r x+1
def Y3 (d:Tx):Prop:=d.Pairwise (· < ·)
theorem G8 (d:Tx)(x y:By):y∈Bq d x↔y∈d∨y=x:=by
 induction d with
 | nil=>simp [Bq]
 | cons z r ih=>
  unfold Bq
  split
  ·simp only [bG,ih,or_assoc]
  ·split
   ·rename_i e;subst e;simp only [bG];constructor
    ·intro h;exact .inl h
    ·rintro(h|rfl)
     ·exact h
     ·exact .inl rfl
   ·simp only [bG];constructor
    ·rintro(h|h|h)
     ·exact .inr h
     ·exact .inl (.inl h)
     ·exact .inl (.inr h)
    ·rintro((h|h)|h)
     ·exact .inr (.inl h)
     ·exact .inr (.inr h)
     ·exact .inl h
theorem TW {d:Tx}{x:By}(h:Y3 d):Y3 (Bq d x):=by
 induction d with
 | nil=>simp [Bq,Y3]
 | cons z r ih=>
  have h1:=dX.1 h
  unfold Bq
  split
  ·rename_i hz
   refine dX.2 ⟨fun a ha=> ?_,ih h1.2⟩
   rcases(G8 r x a).1 ha with h2|h2
   ·exact h1.1 a h2
   ·rw [h2];exact hz
  ·split
   ·exact h
   ·rename_i n1 n2
    have hx:=TU n1 n2
    refine dX.2 ⟨fun a ha=> ?_,h⟩
    rcases bG.1 ha with h2|h2
    ·rw [h2];exact hx
    ·exact Xf hx (h1.1 a h2)
theorem PD (l:Tx) : ∀d,Y3 d->Y3 (l.foldl Bq d)∧∀y,y∈l.foldl Bq d↔y∈d∨y∈l:=by
 induction l with
 | nil=>intro d h;simp [h]
 | cons x r ih=>
  intro d h
  have:=ih (Bq d x) (TW h)
  refine⟨this.1,fun y=> ?_⟩
  rw [iP,this.2 y,G8,bG,or_assoc]
theorem TY (l:Tx)(y:By):y∈dsT l↔y∈l:=by rw [dsT,(PD l [] List.Pairwise.nil).2 y];simp
abbrev tv (s:By):AV:= .v (.string ⟨s.toArray⟩)
theorem oh (a b:By):xP ⟨a.toArray⟩ ⟨b.toArray⟩=decide (a<b):=by
 unfold xP
 rw [bytesLess_eq,Lib.toList_data,Lib.toList_data]
section
variable {G:Glob}
end
def Jh (s:By):By:=num (s.length:Int)++s
def ZP (d l:Tx):Li:=l.map fun s=>((Y2 d s:Nat):Int)
def Cj (l:Tx):By:=num ((dsT l).length:Int)++(dsT l).flatMap Jh++ints (ZP (dsT l) l)
def Ua (l:Tx):Prop:= ∀s∈l,s.length<=200
theorem Ua.ds {l:Tx}(h:Ua l):Ua (dsT l):=fun s hs=>h s ((TY l s).1 hs)
theorem Ua.take {l:Tx}(h:Ua l)(k:Nat):Ua (l.take k):=fun s hs=>h s (dM hs)
def Y4 (b:By)(e:Int):By×Nat×Int:=
 let c:=zH b e 200 4
 if c.2.2=0 then(if((b.drop c.2.1).length:Int)<c.1 then([],c.2.1,16)else((b.drop c.2.1).take c.1.toNat,c.2.1+c.1.toNat,0))else([],c.2.1,c.2.2)
theorem Ub (b:By)(e:Int):Y4 b e=if(zH b e 200 4).2.2=0 then(if((b.drop (zH b e 200 4).2.1).length:Int)<(zH b e 200 4).1 then([],(zH b e 200 4).2.1,16)else((b.drop (zH b e 200 4).2.1).take (zH b e 200 4).1.toNat,(zH b e 200 4).2.1+(zH b e 200 4).1.toNat,0))else([],(zH b e 200 4).2.1,(zH b e 200 4).2.2):=rfl
theorem Xg {b:By}{e most em:Int}{n:Nat}(h1:(qA b e).1=(n:Int))(h2:(qA b e).2.2=0)(hm:(n:Int)<=most):zH b e most em=((n:Int),(qA b e).2.1,0):=by
 rw [TT,h1,h2]
 have a1 : ¬((n:Int)<0):=by omega
 have a2 : ¬(most<(n:Int)):=by omega
 simp only [a1,a2,if_true,if_false]
theorem Uc {s b r:By}(hs:s.length<=200)(h:b=Jh s++r):Y4 b 0=(s,(Jh s).length,0):=by
 have hb:b=num (s.length:Int)++(s++r):=by rw [h];unfold Jh;rw [bg]
 have r1:=XQ (b:=b) (e:=0) (uQ (by omega:s.length<=9223372036854775807)) rfl hb
 have o3:=(WV b 0).2.2.1 r1.2.1
 rw [r1.1]at o3
 have hc:zH b 0 200 4=((s.length:Int),(qA b 0).2.1,0):=Xg r1.1 r1.2.1 (by omega)
 rw [Ub,hc]
 simp only [if_true]
 rw [r1.2.2,if_neg (by rw [aG];omega),dA,iT rfl,o3.2.2]
 unfold Jh
 rw [aG]
def QT (l0:Tx)(r:By)(ks:Tx)(b':By):Prop:= ∃rest,dsT l0=ks++rest∧b'=rest.flatMap Jh++(ints (ZP (dsT l0) l0)++r)
theorem QT.step {l0:Tx}{r:By}{ks:Tx}{b':By}(ht:Ua l0)(hlt:ks.length<(dsT l0).length)(h:QT l0 r ks b'):(Y4 b' 0).2.2=0∧QT l0 r (ks++ [(Y4 b' 0).1]) (b'.drop (Y4 b' 0).2.1):=by
 obtain⟨rest,h1,h2⟩:=h
 cases rest with
 | nil=>rw [h1]at hlt;simp at hlt
 | cons y rest=>
  have hy:y.length<=200:=ht.ds y (by rw [h1];simp)
  have:=Uc (b:=b') (r:=rest.flatMap Jh++(ints (ZP (dsT l0) l0)++r)) hy (by rw [h2];simp)
  rw [this]
  refine⟨rfl,rest,by rw [h1];simp, ?_⟩
  rw [h2]
  simp only [iG,bg]
  rw [iw rfl]
theorem QT.fin {l0:Tx}{r:By}{ks:Tx}{b':By}(hlen:ks.length=(dsT l0).length)(h:QT l0 r ks b'):ks=dsT l0∧b'=ints (ZP (dsT l0) l0)++r:=by
 obtain⟨rest,h1,h2⟩:=h
 have hr:rest = []:=by
  rw [h1,aG]at hlen
  exact aH (by omega)
 subst hr
 exact⟨by rw [h1];simp,by rw [h2];simp⟩
def GT (b:By)(Q:Tx->By->Prop):Prop:= ∀l0 r,l0.length<=512->Ua l0->b=Cj l0++r->Q l0 r
def Y5 (b:By)(l:Tx)(n:Nat)(e:Int):Prop:=Ua l∧l.length<=512∧((e=0∧n=(Cj l).length∧b.take (Cj l).length=Cj l)∨(e=1∧l = []∧n=0))∧GT b fun l0 _=>e=0∧l=l0
theorem Y5.bad {b:By}(h:GT b fun _ _=>False):Y5 b [] 0 1:=⟨fun _ h=>(by cases h),aK _, .inr ⟨rfl,rfl,rfl⟩,fun l0 r ha hl hb=>(h l0 r ha hl hb).elim⟩
theorem Y5.two (b:By){l:Tx}{n:Nat}{e:Int}(h1:Y5 b l n e){l':Tx}{n':Nat}{e':Int}(h2:Y5 b l' n' e'):l=l'∧n=n'∧e=e':=by
 obtain⟨a1,a2,a3,a4⟩:=h1
 obtain⟨b1,b2,b3,b4⟩:=h2
 rcases a3 with ⟨rfl,rfl,p1⟩|⟨rfl,rfl,rfl⟩
 ·have:=b4 l (b.drop (Cj l).length) a2 a1 (by conv=>lhs;rw [<-fC (Cj l).length b,p1])
  obtain⟨rfl,rfl⟩:=this
  rcases b3 with ⟨_,rfl,_⟩|⟨h,_⟩
  ·exact⟨rfl,rfl,rfl⟩
  ·omega
 ·rcases b3 with ⟨rfl,rfl,p1⟩|⟨rfl,rfl,rfl⟩
  ·have:=a4 l' (b.drop (Cj l').length) b2 b1 (by conv=>lhs;rw [<-fC (Cj l').length b,p1])
   omega
  ·exact⟨rfl,rfl,rfl⟩
section
attribute [local irreducible] best ints en bd
end
section
attribute [local irreducible] best ints en bd
structure TX where
 ks:Tx
 b:By
end
abbrev hdA (g f i n:Int):AV:= .agg [iv g,iv f,iv i,iv n]
theorem Bv (n k:Nat)(m:Nat)(hm:m=k):IntKind.u8.wrap ((n:Int).fdiv (2^m))=((bt (n/2^k)).toNat:Int):=by
 subst hm
 rw [IntKind.wrap_u8,gW _ (Int.le_of_lt (Int.pow_pos (by decide))),Bh]
 have e:((n:Int)/2^m)=((n/2^m:Nat):Int):=by simp
 rw [e];omega
theorem PE (n:Nat):IntKind.u8.wrap (n:Int)=((bt n).toNat:Int):=by
 rw [IntKind.wrap_u8,Bh];omega
theorem Y6 (G:Glob)(g f i n:Nat)(h1:g<4294967296)(h2:f<65536)(h3:i<256)(h4:n<256):kQ Tryz.prog G 288 [hdA g f i n] 0 [] (Is (bs (hd g f i n))):=by
 refine jJ func288 rfl mixed (by kernel_rfl) ?_
 conv=>whnf
 repeat' (first|(refine jS.mk (by decide) ?_;conv=>whnf)|(refine kP.to (Bv g 24 _ rfl) ?_;conv=>whnf)|(refine kP.to (Bv g 16 _ rfl) ?_;conv=>whnf)|(refine kP.to (Bv g 8 _ rfl) ?_;conv=>whnf)|(refine kP.to (Bv f 8 _ rfl) ?_;conv=>whnf)|(refine kP.to (PE _) ?_;conv=>whnf))
 refine jW [1] ⟨rfl,rfl, ?_⟩
 simp only [hd,be,gI,List.range_zero,dD,fJ,iV,bK,List.singleton_append,fE,pR]
 simp
theorem G9 (a b:Int)(l:By):0<=Dg.vg a b l∧Dg.vg a b l<18446744073709551616:=by
 unfold Dg.vg Dg.S4.done Dg.xor
 simp only [kJ]
 rw [IntKind.wrap_u64]
 omega
theorem U9 (g f i n:Nat)(d:By):hw g f i n d<18446744073709551616∧hsh 101 [hd g f i n,d]=(hw g f i n d:Int):=by
 have h:=G9 101 0 (Dg.frame [hd g f i n,d])
 unfold hw hsh
 omega
theorem Bz (a b:By):(Dg.frame [a,b]).length=16+a.length+b.length:=by
 simp only [Dg.frame,aG,Dg.pV,dw];omega
theorem Ud (G:Glob)(g f i n:Nat)(d:By)(h1:g<4294967296)(h2:f<65536)(h3:i<256)(h4:n<256)(hd_:d.length<=1000):kQ Tryz.prog G 224 [hdA g f i n,bs d] 0 [] (Is (bs (sec g f i n d))):=by
 obtain⟨hH1,hH2⟩:=U9 g f i n d
 have hP:=Y6 G g f i n h1 h2 h3 h4
 have hh:=YV G 101 [hd g f i n,d] (show 2<=1000 by decide) (by rw [Bz,uS];omega)
 have hl:=uS g f i n
 have hW:=G6 G (hd g f i n) (hw g f i n d) (by omega) hH1
 rw [hH2]at hh
 have hl2:(hd g f i n++be 8 (hw g f i n d)).length=16:=by rw [aG,pI,hl]
 have hs:sec g f i n d=hd g f i n++be 8 (hw g f i n d)++d:=rfl
 rw [hs]
 clear hs
 generalize hd g f i n++be 8 (hw g f i n d)=x at *
 generalize hw g f i n d=y at *
 generalize hd g f i n=z at *
 refine jJ func224 rfl mixed (by kernel_rfl) ?_
 refine nI [] (by kernel_rfl) (hP) (by trivial) ?_
 refine nI [] (by kernel_rfl) (hP) (by trivial) ?_
 (refine kU [1] (by kernel_rfl) (hh) rfl ?_ ?_;(focus trivial))
 refine nI [] (by kernel_rfl) hW (by trivial) ?_
 refine jS.mk (og (by simp only [au];omega) (by kernel_rfl)) ?_
 refine jW [3] ⟨rfl,rfl, ?_⟩
 simp only [bK]
theorem PG (G:Glob)(a b:By):kQ Tryz.prog G 223 [bs a,bs b] 0 [] (Is (bv (decide (a=b)))):=by
 refine jJ func223 rfl mixed (by kernel_rfl) ?_
 refine Nl.of ?_
 refine Nl.of ?_
 refine jW [] ?_
 exact congrArg Value.bool (lU a b)
section
open Ky
def JZ (s:By):Bool:=wF ⟨s.toArray⟩
def PI (e:Ev):Int:=
 if ¬(e.kind=1∨e.kind=2∨e.kind=3)then 7
 else if JZ e.client=false∨JZ e.id=false∨(e.kind≠3∧JZ e.name=false)∨(e.kind=3∧JZ e.other=false)then 6
 else if e.seq<1∨1073741824<e.seq∨e.time<0∨1099511627776<e.time then 3
 else if e.kind=1∧(e.ver<0∨1099511627776<e.ver∨e.arm<1∨8<e.arm)then 3
 else if e.kind=2∧(e.val < -1099511627776∨1099511627776<e.val)then 3
 else if(e.kind=1∧(e.other≠ []∨e.val≠0))∨(e.kind=2∧(e.other≠ []∨e.ver≠0∨e.arm≠0))∨(e.kind=3∧(e.name≠ []∨e.ver≠0∨e.arm≠0∨e.val≠0∨e.other=e.id))then 15
 else 0
theorem Ue (k:Int)(client:By)(seq time:Int)(id name other:By)(ver arm val:Int)(z1:client.length<=140737488355328)(z2:id.length<=140737488355328)(z3:name.length<=140737488355328)(z4:other.length<=140737488355328):kQ Tryz.prog GS 191 [.agg [tv client,iv seq,iv k,iv time,tv id,tv name,tv other,iv ver,iv arm,iv val]] 0 [] (Is (.v (.int .i64 (PI ⟨client,seq,k,time,id,name,other,ver,arm,val⟩)))):=by
 have k1:=GL ⟨client.toArray⟩ (by show client.length<=_;omega)
 have k2:=GL ⟨id.toArray⟩ (by show id.length<=_;omega)
 have k3:=GL ⟨name.toArray⟩ (by show name.length<=_;omega)
 have k4:=GL ⟨other.toArray⟩ (by show other.length<=_;omega)
 unfold PI JZ
 generalize wF ⟨client.toArray⟩=b1 at *
 generalize wF ⟨id.toArray⟩=b2 at *
 generalize wF ⟨name.toArray⟩=b3 at *
 generalize wF ⟨other.toArray⟩=b4 at *
 clear z1 z2 z3 z4
 by_cases c1:k=1
 ·subst c1
  simp only [true_or,not_true,if_false,true_and,show ¬(1:Int)=2 by decide,show ¬(1:Int)=3 by decide,false_and,or_false,ne_eq,not_false_eq_true]
  refine jJ func191 rfl mixed (by kernel_rfl) ?_
  (refine kN Eu [] (by kernel_rfl) ?_;conv=>whnf)
  repeat' (first
   | ((refine kU [] (by kernel_rfl) (k1) rfl ?_ ?_;(focus (trivial;done));(conv=>whnf)))
   | ((refine kU [] (by kernel_rfl) (k2) rfl ?_ ?_;(focus (trivial;done));(conv=>whnf)))
   | ((refine kU [] (by kernel_rfl) (k3) rfl ?_ ?_;(focus (trivial;done));(conv=>whnf)))
   | ((refine kU [] (by kernel_rfl) (k4) rfl ?_ ?_;(focus (trivial;done));(conv=>whnf)))
   | ((refine kU [] (by kernel_rfl) (k1 seq 1 1073741824) rfl ?_ ?_;(focus (trivial;done));(conv=>whnf)))
   | ((refine kU [] (by kernel_rfl) (k1 time 0 1099511627776) rfl ?_ ?_;(focus (trivial;done));(conv=>whnf)))
   | ((refine kU [] (by kernel_rfl) (k1 ver 0 1099511627776) rfl ?_ ?_;(focus (trivial;done));(conv=>whnf)))
   | ((refine kU [] (by kernel_rfl) (k1 arm 1 8) rfl ?_ ?_;(focus (trivial;done));(conv=>whnf)))
   | ((refine kU [] (by kernel_rfl) (k1 val (-1099511627776) 1099511627776) rfl ?_ ?_;(focus (trivial;done));(conv=>whnf)))
   | (apply jH<;>intro h<;>(first|(exfalso;simp only [*,eu,dO,aS,dW,reduceCtorEq]at *;done)|(conv=>whnf))))
  all_goals (refine jW [] (MF ?_))
  all_goals (simp only [cond_true,cond_false,lU,dR,dV,decide_eq_true_eq,decide_eq_false_iff_not,beq_iff_eq,bne_iff_ne,beq_eq_false_iff_ne,bne_eq_false_iff_eq,ne_eq,dB,eu,dO,jg,gt_iff_lt,iy]at *)
  all_goals (clear k1 k2 k3 k4)
  all_goals first
   | (simp_all;done)
   | (simp_all;omega)
   | ((repeat' split)<;>first|rfl|(exfalso;simp_all;done)|(exfalso;simp_all;omega))
 by_cases c2:k=2
 ·subst c2
  simp only [true_or,or_true,not_true,if_false,true_and,show ¬(2:Int)=1 by decide,show ¬(2:Int)=3 by decide,false_and,or_false,false_or,ne_eq,not_false_eq_true]
  refine jJ func191 rfl mixed (by kernel_rfl) ?_
  (refine kN Eu [] (by kernel_rfl) ?_;conv=>whnf)
  repeat' (first
   | ((refine kU [] (by kernel_rfl) (k1) rfl ?_ ?_;(focus (trivial;done));(conv=>whnf)))
   | ((refine kU [] (by kernel_rfl) (k2) rfl ?_ ?_;(focus (trivial;done));(conv=>whnf)))
   | ((refine kU [] (by kernel_rfl) (k3) rfl ?_ ?_;(focus (trivial;done));(conv=>whnf)))
   | ((refine kU [] (by kernel_rfl) (k4) rfl ?_ ?_;(focus (trivial;done));(conv=>whnf)))
   | ((refine kU [] (by kernel_rfl) (k1 seq 1 1073741824) rfl ?_ ?_;(focus (trivial;done));(conv=>whnf)))
   | ((refine kU [] (by kernel_rfl) (k1 time 0 1099511627776) rfl ?_ ?_;(focus (trivial;done));(conv=>whnf)))
   | ((refine kU [] (by kernel_rfl) (k1 ver 0 1099511627776) rfl ?_ ?_;(focus (trivial;done));(conv=>whnf)))
   | ((refine kU [] (by kernel_rfl) (k1 arm 1 8) rfl ?_ ?_;(focus (trivial;done));(conv=>whnf)))
   | ((refine kU [] (by kernel_rfl) (k1 val (-1099511627776) 1099511627776) rfl ?_ ?_;(focus (trivial;done));(conv=>whnf)))
   | (apply jH<;>intro h<;>(first|(exfalso;simp only [*,eu,dO,aS,dW,reduceCtorEq]at *;done)|(conv=>whnf))))
  all_goals (refine jW [] (MF ?_))
  all_goals (simp only [cond_true,cond_false,lU,dR,dV,decide_eq_true_eq,decide_eq_false_iff_not,beq_iff_eq,bne_iff_ne,beq_eq_false_iff_ne,bne_eq_false_iff_eq,ne_eq,dB,eu,dO,jg,gt_iff_lt,iy]at *)
  all_goals (clear k1 k2 k3 k4)
  all_goals first
   | (simp_all;done)
   | (simp_all;omega)
   | ((repeat' split)<;>first|rfl|(exfalso;simp_all;done)|(exfalso;simp_all;omega))
 by_cases c3:k=3
 ·subst c3
  simp only [or_true,not_true,if_false,true_and,show ¬(3:Int)=1 by decide,show ¬(3:Int)=2 by decide,false_and,false_or,ne_eq]
  refine jJ func191 rfl mixed (by kernel_rfl) ?_
  (refine kN Eu [] (by kernel_rfl) ?_;conv=>whnf)
  repeat' (first
   | ((refine kU [] (by kernel_rfl) (k1) rfl ?_ ?_;(focus (trivial;done));(conv=>whnf)))
   | ((refine kU [] (by kernel_rfl) (k2) rfl ?_ ?_;(focus (trivial;done));(conv=>whnf)))
   | ((refine kU [] (by kernel_rfl) (k3) rfl ?_ ?_;(focus (trivial;done));(conv=>whnf)))
   | ((refine kU [] (by kernel_rfl) (k4) rfl ?_ ?_;(focus (trivial;done));(conv=>whnf)))
   | ((refine kU [] (by kernel_rfl) (k1 seq 1 1073741824) rfl ?_ ?_;(focus (trivial;done));(conv=>whnf)))
   | ((refine kU [] (by kernel_rfl) (k1 time 0 1099511627776) rfl ?_ ?_;(focus (trivial;done));(conv=>whnf)))
   | ((refine kU [] (by kernel_rfl) (k1 ver 0 1099511627776) rfl ?_ ?_;(focus (trivial;done));(conv=>whnf)))
   | ((refine kU [] (by kernel_rfl) (k1 arm 1 8) rfl ?_ ?_;(focus (trivial;done));(conv=>whnf)))
   | ((refine kU [] (by kernel_rfl) (k1 val (-1099511627776) 1099511627776) rfl ?_ ?_;(focus (trivial;done));(conv=>whnf)))
   | (apply jH<;>intro h<;>(first|(exfalso;simp only [*,eu,dO,aS,dW,reduceCtorEq]at *;done)|(conv=>whnf))))
  all_goals (refine jW [] (MF ?_))
  all_goals (simp only [cond_true,cond_false,lU,dR,dV,decide_eq_true_eq,decide_eq_false_iff_not,beq_iff_eq,bne_iff_ne,beq_eq_false_iff_ne,bne_eq_false_iff_eq,ne_eq,dB,eu,dO,jg,gt_iff_lt,iy]at *)
  all_goals (clear k1 k2 k3 k4)
  all_goals first
   | (simp_all;done)
   | (simp_all;omega)
   | ((repeat' split)<;>first|rfl|(exfalso;simp_all;done)|(exfalso;simp_all;omega))
 have q1:(k==1)=false:=by simpa using c1
 have q2:(k==2)=false:=by simpa using c2
 have q3:(k==3)=false:=by simpa using c3
 refine jJ func191 rfl mixed (by kernel_rfl) ?_
 (refine kN Eu [] (by kernel_rfl) ?_;conv=>whnf)
 rw [q1]
 conv=>whnf
 rw [q2]
 conv=>whnf
 rw [q3]
 exact jW [] (MF (by simp [c1,c2,c3]))
theorem Uf (e:Ev)(he:e.ok):kQ Tryz.prog GS 191 [evA e] 0 [] (Is (.v (.int .i64 (PI e)))):=
 Ue e.kind e.client e.seq e.time e.id e.name e.other e.ver e.arm e.val he.client he.id he.name he.other
end
def loT (a:Int)(l:List Ev):Int:=l.foldl (fun a e=>min a e.time) a
def hiT (a:Int)(l:List Ev):Int:=l.foldl (fun a e=>max a e.time) a
def Y7 (l:List Ev):Int×Int:=match l with | []=>(0,0)|e::_=>(loT e.time l,hiT e.time l)
theorem Va {n:Nat}(h:n<=100000):n*112<=140737488355328∧n<=maxLen:=⟨by omega,by unfold maxLen;omega⟩
section
attribute [local irreducible] best ints en bd Cj dsT
def bdy (l:List Ev):By:=Cj (l.map (·.client))++ints (l.map (·.seq))++ints (l.map (·.kind))++ints (l.map (·.time))++Cj (l.map (·.id))++Cj (l.map (·.name))++Cj (l.map (·.other))++ints (l.map (·.ver))++ints (l.map (·.arm))++ints (l.map (·.val))
def PK (l:List Ev):By:=num (Y7 l).1++num (Y7 l).2++num ((bdy l).length:Int)++bdy l
structure LOK (l:List Ev):Prop where
 ne:l≠ []
 len:l.length<=16
 ok : ∀e∈l,e.ok
 s1 : ∀e∈l,e.client.length<=200
 s2 : ∀e∈l,e.id.length<=200
 s3 : ∀e∈l,e.name.length<=200
 s4 : ∀e∈l,e.other.length<=200
 tm : ∀e∈l, -4611686018427387904<=e.time∧e.time<=4611686018427387904
theorem all_map {l:List Ev}{f:Ev->Int}(h : ∀e∈l,I64 (f e)):wC (l.map f):=fun s hs=>by
 obtain⟨e,he,rfl⟩:=dH.1 hs
 exact h e he
end
end Go.Proofs.YtnandbihiceihaaGreatDoor.Cl
namespace Go.Proofs.YtnandbihiceihaaGreatDoor.Ax
open RowKit Vc Go.Proofs.Tryz
def frN (n:Nat)(K:Nat->Prop):Prop:=match n with|0=>K 0|m+1=>K (m+1)
def frI (n:Int)(K:Int->Prop):Prop:=match n with | .ofNat m=>frN m fun m=>K (.ofNat m) | .negSucc m=>frN m fun m=>K (.negSucc m)
theorem kP.fr {k:IntKind}{x:Int}{K:Int->Prop}(h:frI (k.wrap x) K):kP k x K:=by
 refine⟨?_⟩
 generalize k.wrap x=n at h
 cases n<;>(rename_i m;cases m<;>exact h)
def Y8 (a:AV):List Nat:=match a with | .own l=> [l] | .sub l _ _=> [l] | .full l _=> [l]|_=> []
def Y9 (a:AV):List Nat:=match a with | .agg cs=>cs.flatMap Y8|a=>Y8 a
theorem jP {P:Program}{G:Glob}{n:Nat}{H:jI}{f:FuncId}{args args':List AV}{R:AV->Nat->jI->Prop}{K:AV->Nat->jI->Prop}(hc:callable P f=true)(h:kQ P G f args' 0 [] R)(ha:I4 H [] (args.flatMap Y9) 0 args' args)
  (k : ∀a m H',R a m H'->XP (n+m) (QZ n H'++EW (args.flatMap Y9) H) fun n' oN=>K (Og n a) n' oN):tY P G f args n H K:=rQ _ hc h ha k
end Go.Proofs.YtnandbihiceihaaGreatDoor.Ax
namespace Go.Proofs.YtnandbihiceihaaGreatDoor.Cl
open RowKit Vc Ax Go.Proofs.Tryz
attribute [local irreducible] loadVar storeVar Instr.indexAt Instr.index Instr.sliceAt Instr.makeSlice Instr.lookup Instr.mapUpdate Instr.range Instr.next Instr.entry Instr.makeMap Builtin.append_ Builtin.copy_ Builtin.len_ Builtin.min_ Builtin.max_ Builtin.cap_ Builtin.delete_ Builtin.clear_ convert binOp eqGuard Op.unary Calls
section
attribute [local irreducible] xP qU
theorem BA (G:Glob):kQ Tryz.prog G 292 [li [0]] 0 [] (Is (bs [2,2,0])):=by
 refine jJ func292 rfl mixed (by kernel_rfl) ?_
 conv=>whnf
 repeat' (first|exact jW (List.range 100) (by trivial)|(refine kP.fr ?_;conv=>whnf)|(refine jS.mk (by decide) ?_;conv=>whnf)|(refine mW 9 ?_;conv=>whnf)|(refine kF (by kernel_rfl) (jJ (by rfl) rfl mixed (by kernel_rfl) ?_);conv=>whnf)|(refine lD (by rfl) ?_;conv=>whnf)|(refine nG.mk ⟨_,rfl,by decide, ?_⟩;conv=>whnf)|(refine pO.mk ⟨_,_,rfl,rfl,by decide,by decide, ?_⟩;conv=>whnf)|(refine nH.mk ⟨_,rfl, ?_⟩;conv=>whnf)|(refine pW.mk ⟨_,_,rfl,rfl,by decide,by decide,by decide, ?_⟩;conv=>whnf)|(refine kM.mk fun b hb=> ?_;obtain rfl:=hb (by decide);conv=>whnf)|(refine kM.mk fun b hb=> ?_;cases b<;>(conv=>whnf))|(refine qY.mk (by kernel_rfl) rfl rfl ?_;conv=>whnf)|(refine kN Ot [] (by decide +kernel) ?_;conv=>whnf)|(refine kN Ou [] (by decide +kernel) ?_;conv=>whnf))
theorem Xh (G:Glob):kQ Tryz.prog G 292 [li [1]] 0 [] (Is (bs [2,2,2])):=by
 refine jJ func292 rfl mixed (by kernel_rfl) ?_
 conv=>whnf
 repeat' (first|exact jW (List.range 100) (by trivial)|(refine kP.fr ?_;conv=>whnf)|(refine jS.mk (by decide) ?_;conv=>whnf)|(refine mW 9 ?_;conv=>whnf)|(refine kF (by kernel_rfl) (jJ (by rfl) rfl mixed (by kernel_rfl) ?_);conv=>whnf)|(refine lD (by rfl) ?_;conv=>whnf)|(refine nG.mk ⟨_,rfl,by decide, ?_⟩;conv=>whnf)|(refine pO.mk ⟨_,_,rfl,rfl,by decide,by decide, ?_⟩;conv=>whnf)|(refine nH.mk ⟨_,rfl, ?_⟩;conv=>whnf)|(refine pW.mk ⟨_,_,rfl,rfl,by decide,by decide,by decide, ?_⟩;conv=>whnf)|(refine kM.mk fun b hb=> ?_;obtain rfl:=hb (by decide);conv=>whnf)|(refine kM.mk fun b hb=> ?_;cases b<;>(conv=>whnf))|(refine qY.mk (by kernel_rfl) rfl rfl ?_;conv=>whnf)|(refine kN Ot [] (by decide +kernel) ?_;conv=>whnf)|(refine kN Ou [] (by decide +kernel) ?_;conv=>whnf))
theorem Ug (G:Glob):kQ Tryz.prog G 291 [.lst 1 [[sF []]]] 0 [] (Is (bs [2,0,2,2,0])):=by
 refine jJ func291 rfl mixed (by kernel_rfl) ?_
 conv=>whnf
 repeat' (first|exact jW (List.range 100) (by trivial)|(refine jP (by kernel_rfl) (BA G) ?_ ?_;(focus (trivial;done));rintro _ _ _ ⟨rfl,rfl,rfl⟩;(conv=>whnf))|(rw [oh];conv=>whnf)|(rw [lU];conv=>whnf)|(refine kP.fr ?_;conv=>whnf)|(refine jS.mk (by decide) ?_;conv=>whnf)|(refine mW 9 ?_;conv=>whnf)|(refine kF (by kernel_rfl) (jJ (by rfl) rfl mixed (by kernel_rfl) ?_);conv=>whnf)|(refine lD (by rfl) ?_;conv=>whnf)|(refine nG.mk ⟨_,rfl,by decide, ?_⟩;conv=>whnf)|(refine pO.mk ⟨_,_,rfl,rfl,by decide,by decide, ?_⟩;conv=>whnf)|(refine nH.mk ⟨_,rfl, ?_⟩;conv=>whnf)|(refine pW.mk ⟨_,_,rfl,rfl,by decide,by decide,by decide, ?_⟩;conv=>whnf)|(refine kM.mk fun b hb=> ?_;obtain rfl:=hb (by decide);conv=>whnf)|(refine kM.mk fun b hb=> ?_;cases b<;>(conv=>whnf))|(refine qY.mk (by kernel_rfl) rfl rfl ?_;conv=>whnf))
theorem Uh (G:Glob):kQ Tryz.prog G 291 [.lst 1 [[sF [99,48]]]] 0 [] (Is (bs [2,4,99,48,2,2,0])):=by
 refine jJ func291 rfl mixed (by kernel_rfl) ?_
 conv=>whnf
 repeat' (first|exact jW (List.range 100) (by trivial)|(refine jP (by kernel_rfl) (BA G) ?_ ?_;(focus (trivial;done));rintro _ _ _ ⟨rfl,rfl,rfl⟩;(conv=>whnf))|(rw [oh];conv=>whnf)|(rw [lU];conv=>whnf)|(refine kP.fr ?_;conv=>whnf)|(refine jS.mk (by decide) ?_;conv=>whnf)|(refine mW 9 ?_;conv=>whnf)|(refine kF (by kernel_rfl) (jJ (by rfl) rfl mixed (by kernel_rfl) ?_);conv=>whnf)|(refine lD (by rfl) ?_;conv=>whnf)|(refine nG.mk ⟨_,rfl,by decide, ?_⟩;conv=>whnf)|(refine pO.mk ⟨_,_,rfl,rfl,by decide,by decide, ?_⟩;conv=>whnf)|(refine nH.mk ⟨_,rfl, ?_⟩;conv=>whnf)|(refine pW.mk ⟨_,_,rfl,rfl,by decide,by decide,by decide, ?_⟩;conv=>whnf)|(refine kM.mk fun b hb=> ?_;obtain rfl:=hb (by decide);conv=>whnf)|(refine kM.mk fun b hb=> ?_;cases b<;>(conv=>whnf))|(refine qY.mk (by kernel_rfl) rfl rfl ?_;conv=>whnf))
theorem Ui (G:Glob):kQ Tryz.prog G 291 [.lst 1 [[sF [97,110,110]]]] 0 [] (Is (bs [2,6,97,110,110,2,2,0])):=by
 refine jJ func291 rfl mixed (by kernel_rfl) ?_
 conv=>whnf
 repeat' (first|exact jW (List.range 100) (by trivial)|(refine jP (by kernel_rfl) (BA G) ?_ ?_;(focus (trivial;done));rintro _ _ _ ⟨rfl,rfl,rfl⟩;(conv=>whnf))|(rw [oh];conv=>whnf)|(rw [lU];conv=>whnf)|(refine kP.fr ?_;conv=>whnf)|(refine jS.mk (by decide) ?_;conv=>whnf)|(refine mW 9 ?_;conv=>whnf)|(refine kF (by kernel_rfl) (jJ (by rfl) rfl mixed (by kernel_rfl) ?_);conv=>whnf)|(refine lD (by rfl) ?_;conv=>whnf)|(refine nG.mk ⟨_,rfl,by decide, ?_⟩;conv=>whnf)|(refine pO.mk ⟨_,_,rfl,rfl,by decide,by decide, ?_⟩;conv=>whnf)|(refine nH.mk ⟨_,rfl, ?_⟩;conv=>whnf)|(refine pW.mk ⟨_,_,rfl,rfl,by decide,by decide,by decide, ?_⟩;conv=>whnf)|(refine kM.mk fun b hb=> ?_;obtain rfl:=hb (by decide);conv=>whnf)|(refine kM.mk fun b hb=> ?_;cases b<;>(conv=>whnf))|(refine qY.mk (by kernel_rfl) rfl rfl ?_;conv=>whnf))
theorem Uj (G:Glob):kQ Tryz.prog G 291 [.lst 1 [[sF [98,108,117,101]]]] 0 [] (Is (bs [2,8,98,108,117,101,2,2,0])):=by
 refine jJ func291 rfl mixed (by kernel_rfl) ?_
 conv=>whnf
 repeat' (first|exact jW (List.range 100) (by trivial)|(refine jP (by kernel_rfl) (BA G) ?_ ?_;(focus (trivial;done));rintro _ _ _ ⟨rfl,rfl,rfl⟩;(conv=>whnf))|(rw [oh];conv=>whnf)|(rw [lU];conv=>whnf)|(refine kP.fr ?_;conv=>whnf)|(refine jS.mk (by decide) ?_;conv=>whnf)|(refine mW 9 ?_;conv=>whnf)|(refine kF (by kernel_rfl) (jJ (by rfl) rfl mixed (by kernel_rfl) ?_);conv=>whnf)|(refine lD (by rfl) ?_;conv=>whnf)|(refine nG.mk ⟨_,rfl,by decide, ?_⟩;conv=>whnf)|(refine pO.mk ⟨_,_,rfl,rfl,by decide,by decide, ?_⟩;conv=>whnf)|(refine nH.mk ⟨_,rfl, ?_⟩;conv=>whnf)|(refine pW.mk ⟨_,_,rfl,rfl,by decide,by decide,by decide, ?_⟩;conv=>whnf)|(refine kM.mk fun b hb=> ?_;obtain rfl:=hb (by decide);conv=>whnf)|(refine kM.mk fun b hb=> ?_;cases b<;>(conv=>whnf))|(refine qY.mk (by kernel_rfl) rfl rfl ?_;conv=>whnf))
def e0:Ev:=⟨[99,48],1,1,0,[97,110,110],[98,108,117,101],[],0,1,0⟩
theorem Xi (G:Glob):kQ Tryz.prog G 226 [el [e0]] 0 [] (Is (bs (PK [e0]))):=by
 refine jJ func226 rfl mixed (by kernel_rfl) ?_
 conv=>whnf
 repeat' (first|exact jW (List.range 400) (by trivial)|(refine jP (by kernel_rfl) (BA G) ?_ ?_;(focus (trivial;done));rintro _ _ _ ⟨rfl,rfl,rfl⟩;(conv=>whnf))|(refine jP (by kernel_rfl) (Xh G) ?_ ?_;(focus (trivial;done));rintro _ _ _ ⟨rfl,rfl,rfl⟩;(conv=>whnf))|(refine jP (by kernel_rfl) (Ug G) ?_ ?_;(focus (trivial;done));rintro _ _ _ ⟨rfl,rfl,rfl⟩;(conv=>whnf))|(refine jP (by kernel_rfl) (Uh G) ?_ ?_;(focus (trivial;done));rintro _ _ _ ⟨rfl,rfl,rfl⟩;(conv=>whnf))|(refine jP (by kernel_rfl) (Ui G) ?_ ?_;(focus (trivial;done));rintro _ _ _ ⟨rfl,rfl,rfl⟩;(conv=>whnf))|(refine jP (by kernel_rfl) (Uj G) ?_ ?_;(focus (trivial;done));rintro _ _ _ ⟨rfl,rfl,rfl⟩;(conv=>whnf))|(rw [oh];conv=>whnf)|(rw [lU];conv=>whnf)|(refine kP.fr ?_;conv=>whnf)|(refine jS.mk (by decide) ?_;conv=>whnf)|(refine mW 9 ?_;conv=>whnf)|(refine kF (by kernel_rfl) (jJ (by rfl) rfl mixed (by kernel_rfl) ?_);conv=>whnf)|(refine lD (by rfl) ?_;conv=>whnf)|(refine nG.mk ⟨_,rfl,by decide, ?_⟩;conv=>whnf)|(refine pO.mk ⟨_,_,rfl,rfl,by decide,by decide, ?_⟩;conv=>whnf)|(refine nH.mk ⟨_,rfl, ?_⟩;conv=>whnf)|(refine pW.mk ⟨_,_,rfl,rfl,by decide,by decide,by decide, ?_⟩;conv=>whnf)|(refine kM.mk fun b hb=> ?_;obtain rfl:=hb (by decide);conv=>whnf)|(refine kM.mk fun b hb=> ?_;cases b<;>(conv=>whnf))|(refine qY.mk (by kernel_rfl) rfl rfl ?_;conv=>whnf)|(refine kN Ws [] (by decide +kernel) ?_;conv=>whnf)|(refine kN WB [] (by decide +kernel) ?_;conv=>whnf))
end
end Go.Proofs.YtnandbihiceihaaGreatDoor.Cl
namespace Go.Proofs.YtnandbihiceihaaGreatDoor.Ax
open RowKit Vc Go.Proofs.Tryz
attribute [local irreducible] loadVar storeVar Instr.indexAt Instr.index Instr.sliceAt Instr.makeSlice Instr.lookup Instr.mapUpdate Instr.range Instr.next Instr.entry Instr.makeMap Builtin.append_ Builtin.copy_ Builtin.len_ Builtin.min_ Builtin.max_ Builtin.cap_ Builtin.delete_ Builtin.clear_ convert binOp eqGuard Op.unary Calls
def Za (l:List (List FV))(i:Nat):List (List FV):=(l.drop (16*i)).take 16
def Qq (l:List (List FV)):Nat:=(l.length+15)/16
def Uk (l:List (List FV)):List (List AV):=(List.range (Qq l)).map fun i=> [.lst 10 (Za l i)]
theorem PL (G:Glob)(l:List (List FV))(hl:l.length<=1000000):AIt Tryz.prog G 290 [.fp [.lst 10 l] 0, .fp [.v (.int .i64 16)] 0] (Uk l):=by
 intro n σ F vs W lp J hG hF hr hst hkp hy h0
 match vs,hr with
 | [v1,v2],⟨r1,r2,_⟩=>
 cases r1 with
 | fp f1=>
 cases r2 with
 | fp f2=>
 cases f1 with
 | fp _ _ b1 o1 hb1 aaJ Zb=>
 cases f2 with
 | fp _ _ b2 o2 hb2 aaK Zc=>
 obtain⟨x1,hc1,_⟩:=aaJ 0 Nat.zero_lt_one
 obtain⟨x2,hc2,_⟩:=aaK 0 Nat.zero_lt_one
 have hx1:=Zb 0 _ x1 rfl hc1
 have hx2:=Zc 0 _ x2 rfl hc2
 cases hx2
 obtain⟨oa,m,c,rfl⟩ : ∃oa m c,x1 = .slice oa m c:=by cases hx1;exact⟨_,_,_,rfl⟩
 have hm:m=l.length:=by cases hx1;assumption
 subst hm
 refine Gw func290 rfl (by kernel_rfl) (ak rfl) rfl (by kernel_rfl) ?_
 refine oG (X:=Nat) Si (fun i=> [(4, .int .i64 (16*i:Nat))]) (fun i w'=>i<=Qq l∧J i w') (fun i=>Qq l-i) 0 (by kernel_rfl) ⟨rfl,trivial⟩ ⟨aK _,h0⟩ ?_
 rintro i w' j ⟨hi,hJ⟩
 obtain⟨k1,k2,k3⟩:=hkp i w' hJ
 have c1:w'.cell? ⟨b1,o1+0,none⟩=some (.slice oa l.length c):=by rw [oC (k3 b1 hb1)];exact hc1
 have c2:w'.cell? ⟨b2,o2+0,none⟩=some (.int .i64 16):=by rw [oC (k3 b2 hb2)];exact hc2
 refine lH rfl c1 ?_
 apply jH<;>intro h
 ·have hlt:16*i<l.length:=by simp at h;omega
  have hin:i<Qq l:=by unfold Qq;omega
  conv=>whnf
  have c1d:w'.drew.cell? ⟨b1,o1+0,none⟩=some (.slice oa l.length c):=c1
  have c2d:w'.drew.cell? ⟨b2,o2+0,none⟩=some (.int .i64 16):=c2
  have hlc:l.length<=c:=by cases hx1;assumption
  (refine mJ Sj (by kernel_rfl) ?_;conv=>whnf)
  repeat (first
   | (refine lH rfl c1d ?_;conv=>whnf)
   | (refine lH rfl c2d ?_;conv=>whnf)
   | (refine kY.mk rfl ?_;conv=>whnf)
   | (refine Il (sz:=10) (lo:=16*i) rfl rfl rfl (jo hlt) ?_;conv=>whnf))
  have we:IntKind.i64.wrap (((16*i:Nat):Int)+min 16 ((l.length-16*i:Nat):Int))=((16*i+min 16 (l.length-16*i):Nat):Int):=by
   have e1:(min 16 ((l.length-16*i:Nat):Int))=((min 16 (l.length-16*i):Nat):Int):=by omega
   rw [e1, <-Int.natCast_add]
   exact IntWalk.i64_in _ (by omega)
  rw [we]
  refine lJ (tZ (E:=63) (sz:=10) (i:=16*i) (j:=16*i+min 16 (l.length-16*i)) (m:=16*i+min 16 (l.length-16*i)) rfl rfl (.inr ⟨_,rfl⟩) (.inr ⟨_,rfl⟩) (.inr ⟨_,rfl⟩) (by omega) (ay _) (by omega)) ?_
  have hJd:J i w'.drew:=hst i w' _ hJ (CU (Below.refl _ _))
  have hch:Za l i=(l.take (16*i+min 16 (l.length-16*i))).drop (16*i):=by
   unfold Za
   rw [jD,show 16*i+min 16 (l.length-16*i)-16*i=min 16 (l.length-16*i) by omega]
   rcases Nat.le_total 16 (l.length-16*i)with h|h
   ·rw [eU h]
   ·rw [Nat.min_eq_right h,dI (by rw [bD];exact h),dI (by rw [bD];exact ay _)]
  have hfr:lN F w'.drew (.lst 10 (Za l i)) (.slice (sQ oa (16*i) 10 (16*i+min 16 (l.length-16*i))) (16*i+min 16 (l.length-16*i)-16*i) (16*i+min 16 (l.length-16*i)-16*i)):=by
   rw [hch]
   exact lN.part (lN.mono (w':=w'.drew) (fun b hb=>⟨hb,k3 b hb⟩) hx1) (by omega) (by omega) (ay _) (by omega)
  obtain⟨fn,tmps,assign,body,hyr,hR⟩:=hy i [.lst 10 (Za l i)] w'.drew [.slice (sQ oa (16*i) 10 (16*i+min 16 (l.length-16*i))) (16*i+min 16 (l.length-16*i)-16*i) (16*i+min 16 (l.length-16*i)-16*i)] (by unfold Uk;rw [aI,gq hin];rfl) hJd ⟨.lst hfr,trivial⟩
  refine⟨⟨fn,tmps,assign,body,hyr,RoundIn.mono hR ?_⟩⟩
  rintro e W2 ⟨rfl,hJ2⟩
  refine⟨_,rfl, ?_⟩
  obtain⟨m1,m2,m3⟩:=hkp (i+1) W2 hJ2
  have c3:W2.cell? ⟨b2,o2+0,none⟩=some (.int .i64 16):=by rw [oC (m3 b2 hb2)];exact hc2
  refine lH rfl c3 ?_
  refine nU.mk ⟨_, ?_,(i+1),rfl,⟨?_,trivial⟩,hin,hJ2⟩
  ·show Qq l -(i+1)<Qq l-i;omega
  show Value.int .i64 (IntKind.i64.wrap (((16*i:Nat):Int)+16)) = .int .i64 ((16*(i+1):Nat):Int)
  congr 1
  rw [show ((16*i:Nat):Int)+16=((16*(i+1):Nat):Int) by omega]
  exact IntWalk.i64_in _ (by omega)
 ·have hge:l.length<=16*i:=by simp at h;omega
  have hie:i=Qq l:=by unfold Qq at hi ⊢;omega
  subst hie
  refine⟨?_⟩
  have:(Uk l).length=Qq l:=by unfold Uk;simp
  rw [this]
  exact hJ
theorem PN (G:Glob)(l:List (List FV)):kQ Tryz.prog G 225 [.lst 10 l, .v (.int .i64 16)] 0 [] (Is (.fn (.func 290) [] [.fp [.lst 10 l] 0, .fp [.v (.int .i64 16)] 0])):=by
 refine jJ func225 rfl (by kernel_rfl) (by kernel_rfl) ?_
 exact SV [(0,28,[.lst 10 l]),(1,3,[.v (.int .i64 16)])] ⟨rfl,rfl,rfl⟩ (fun p hp=>by
  rcases bG.1 hp with rfl|hp
  ·rfl
  ·rw [bP.1 hp];rfl)
end Go.Proofs.YtnandbihiceihaaGreatDoor.Ax
namespace Go.Proofs.YtnandbihiceihaaGreatDoor.Cl
open RowKit Vc Ax Ky Go.Proofs.Tryz
attribute [local irreducible] loadVar storeVar Instr.indexAt Instr.index Instr.sliceAt Instr.makeSlice Instr.lookup Instr.mapUpdate Instr.range Instr.next Instr.entry Instr.makeMap Builtin.append_ Builtin.copy_ Builtin.len_ Builtin.min_ Builtin.max_ Builtin.cap_ Builtin.delete_ Builtin.clear_ convert binOp eqGuard Op.unary Calls
section
attribute [local irreducible] best ints en bd Cj dsT
structure EvV (e:Ev):Prop where
 s1:e.client.length<=200
 s2:e.id.length<=200
 s3:e.name.length<=200
 s4:e.other.length<=200
 tm : -4611686018427387904<=e.time∧e.time<=4611686018427387904
theorem Zd {e:Ev}(h:PI e=0):EvV e:=by
 have key : ∀s:By,JZ s=true->s.length<=200:=fun s hs=>by
  have:(⟨s.toArray⟩:ByteArray).size<=32:=Dp hs
  have e:(⟨s.toArray⟩:ByteArray).size=s.length:=rfl
  omega
 unfold PI at h
 split at h
 ·simp at h
 rename_i h1
 split at h
 ·simp at h
 rename_i h2
 split at h
 ·simp at h
 rename_i h3
 split at h
 ·simp at h
 split at h
 ·simp at h
 split at h
 ·simp at h
 rename_i h4
 have h1:e.kind=1∨e.kind=2∨e.kind=3:=fK h1
 have k1:JZ e.client=true:=by cases hk:JZ e.client<;>simp_all
 have k2:JZ e.id=true:=by cases hk:JZ e.id<;>simp_all
 refine⟨key _ k1,key _ k2, ?_, ?_,by omega⟩
 ·rcases h1 with c|c|c
  ·exact key _ (by cases hk:JZ e.name<;>simp_all)
  ·exact key _ (by cases hk:JZ e.name<;>simp_all)
  ·have:e.name = []:=fK fun hn=>h4 (.inr (.inr ⟨c, .inl hn⟩))
   rw [this];simp
 ·rcases h1 with c|c|c
  ·have:e.other = []:=fK fun hn=>h4 (.inl ⟨c, .inl hn⟩)
   rw [this];simp
  ·have:e.other = []:=fK fun hn=>h4 (.inr (.inl ⟨c, .inl hn⟩))
   rw [this];simp
  ·exact key _ (by cases hk:JZ e.other<;>simp_all)
def ch (l:List Ev)(i:Nat):List Ev:=(l.drop (16*i)).take 16
def nC (l:List Ev):Nat:=(l.length+15)/16
def aaL (l:List Ev)(i:Nat):By:=num (l.length:Int)++(List.range i).flatMap fun j=>PK (ch l j)
def tab (l:List Ev):By:=aaL l (nC l)
def PO (l:List Ev):Int:=match l with | []=>0|e::r=>if PI e≠0 then PI e else PO r
def Ze (l:List Ev):Int:=if 512<l.length then 5 else PO l
theorem PS {l:List Ev}(h:PO l=0) : ∀e∈l,PI e=0:=by
 induction l with
 | nil=>intro e he;cases he
 | cons x r ih=>
  unfold PO at h
  by_cases hc:PI x=0
  ·rw [if_neg (by simp [hc])]at h
   intro e he
   rcases bG.1 he with rfl|he
   ·exact hc
   ·exact ih h e he
  ·rw [if_pos hc]at h;exact absurd h hc
theorem Xj {l:List Ev}(hok : ∀e∈l,e.ok)(hv : ∀e∈l,PI e=0){i:Nat}(hi:i<nC l):LOK (ch l i):=by
 have sub : ∀e∈ch l i,e∈l:=fun e he=>fZ (dM he)
 have hV : ∀e∈ch l i,EvV e:=fun e he=>Zd (hv e (sub e he))
 refine⟨fun h0=> ?_,by unfold ch;rw [aU];omega,fun e he=>hok e (sub e he),fun e he=>(hV e he).s1,fun e he=>(hV e he).s2,fun e he=>(hV e he).s3,fun e he=>(hV e he).s4,fun e he=>(hV e he).tm⟩
 have:=congrArg List.length h0
 unfold ch at this
 rw [aU,bD]at this
 unfold nC at hi
 simp at this
 omega
end
section
attribute [local irreducible] best ints en bd Cj dsT
def mg (s:Nat)(x:Ev):Ev:=
 ⟨if 0<s then x.client else [],if 1<s then x.seq else 0,if 2<s then x.kind else 0,if 3<s then x.time else 0,if 4<s then x.id else [],if 5<s then x.name else [],if 6<s then x.other else [],if 7<s then x.ver else 0,if 8<s then x.arm else 0,if 9<s then x.val else 0⟩
def cols (c:List Ev):List By:= [Cj (c.map (·.client)),ints (c.map (·.seq)),ints (c.map (·.kind)),ints (c.map (·.time)),Cj (c.map (·.id)),Cj (c.map (·.name)),Cj (c.map (·.other)),ints (c.map (·.ver)),ints (c.map (·.arm)),ints (c.map (·.val))]
def rs (s:Nat)(c:List Ev):By:=((cols c).drop s).flatten
def Zf (b:By)(n:Nat)(Q:List Ev->By->Prop):Prop:= ∀c r,LOK c->c.length=n->b=PK c++r->Q c r
structure RCs (b:By)(n:Nat)(l:List Ev)(k:Nat)(ok:Bool):Prop where
 good:ok=true->l.length=n∧(∀e∈l,e.ok)∧k<=b.length
 bad:ok=false->l = []∧k=0
 full:Zf b n fun c _=>ok=true∧l=c∧k=(PK c).length
theorem RCs.no {b:By}{n:Nat}(h:Zf b n fun _ _=>False):RCs b n [] 0 false:=⟨(fun h=>by cases h),fun _=>⟨rfl,rfl⟩,fun c r h1 h2 h3=>(h c r h1 h2 h3).elim⟩
structure KR (b:By)(n:Nat)(s:Nat)(l:List Ev)(body:By):Prop where
 len:l.length=n
 ok : ∀e∈l,e.ok
 sz:body.length<=100000
 full:Zf b n fun c _=>l=c.map (mg s)∧body=rs s c
theorem Zg {α:Type}{g:Ev->α->Ev}{l:List Ev}{s:List α}(hl : ∀e∈l,e.ok)(hg : ∀e∈l, ∀v∈s,(g e v).ok) : ∀e∈List.zipWith g l s,e.ok:=by
 intro e he
 obtain⟨i,hi,rfl⟩:=List.getElem_of_mem he
 rw [List.getElem_zipWith]
 simp at hi
 exact hg _ (bQ _) _ (bQ _)
theorem zip_map {α:Type}(g:Ev->α->Ev)(c:List Ev)(a:Ev->Ev)(f:Ev->α):List.zipWith g (c.map a) (c.map f)=c.map fun x=>g (a x) (f x):=by
 induction c with
 | nil=>rfl
 | cons x r ih=>simp [ih]
theorem Ul (s:Nat)(c:List Ev)(x:By)(h:(cols c)[s]? = some x):rs s c=x++rs (s+1) c:=by
 unfold rs
 obtain⟨hs,rfl⟩:=aF.1 h
 rw [cZ hs];rfl
theorem KR.num {b:By}{n s:Nat}{l:List Ev}{body:By}(h:KR b n s l body)(g:Ev->Int->Ev)(f:Ev->Int)(hf : ∀c,(cols c)[s]? = some (ints (c.map f)))(hg : ∀x:Ev,g (mg s x) (f x)=mg (s+1) x)
  (hok : ∀e v,e.ok->I64 v->(g e v).ok) (hs : ∀c,LOK c->∀e∈c,I64 (f e)) {t:Li} {k:Nat} {e:Int} (hR:XT body t k e) :
  (e=0->t.length=n->KR b n (s+1) (List.zipWith g l t) (body.drop k)∧k<=body.length)∧(Zf b n fun _ _=>e=0∧t.length=n):=by
 obtain⟨r1,r2,r3,r4⟩:=hR
 have key:Zf b n fun c _=>e=0∧t=c.map f∧body.drop k=rs (s+1) c:=fun c r hc hn hb=>by
  obtain⟨_,hbody⟩:=h.full c r hc hn hb
  have hb2:body=ints (c.map f)++rs (s+1) c:=by rw [hbody,Ul s c _ (hf c)]
  have hcl:=hc.len
  have:=r4 (c.map f) (rs (s+1) c) (all_map (hs c hc)) (by rw [au];omega) hb2
  refine⟨this.1,this.2, ?_⟩
  rcases r3 with ⟨_,hk,_⟩|⟨h1,_⟩
  ·rw [hk,this.2,hb2,iw rfl]
  ·have:=this.1;omega
 refine⟨fun he ht=> ?_,fun c r hc hn hb=> ?_⟩
 ·have hk:k<=body.length:=by
   rcases r3 with ⟨_,hk,hp⟩|⟨h1,_⟩
   ·rw [hk]
    have:=congrArg List.length hp
    rw [aU]at this
    omega
   ·omega
  refine⟨⟨?_,Zg h.ok fun x hx v hv=>hok x v (h.ok x hx) (r1 v hv),by rw [bD];have:=h.sz;omega,fun c r hc hn hb=> ?_⟩,hk⟩
  ·rw [List.length_zipWith,h.len,ht];omega
  ·obtain⟨h1,_⟩:=h.full c r hc hn hb
   obtain⟨_,k2,k3⟩:=key c r hc hn hb
   refine⟨?_,k3⟩
   rw [h1,k2,zip_map]
   exact iU fun x _=>hg x
 ·obtain⟨k1,k2,_⟩:=key c r hc hn hb
  exact⟨k1,by rw [k2,au,hn]⟩
end
section
attribute [local irreducible] best ints en bd Cj dsT
structure TR where
 l:List Ev
 body:By
 i:Nat
end
section
attribute [local irreducible] best ints en bd Cj dsT
def XU (b:By)(Q:List Ev->Prop):Prop:= ∀l0:List Ev,(∀e∈l0,e.ok)->Ze l0=0->b=tab l0->Q l0
theorem Zh {l:List Ev}(h:Ze l=0):l.length<=512∧PO l=0:=by
 unfold Ze at h
 split at h
 ·omega
 ·exact⟨by omega,h⟩
def PU (b:By)(l:List Ev)(e:Int):Prop:=(∀x∈l,x.ok)∧l.length<=512∧((e=0∧Ze l=0∧tab l=b)∨(e=1∧l = []))∧XU b fun l0=>e=0∧l=l0
theorem PU.no {b:By}(h:XU b fun _=>False):PU b [] 1:=⟨fun _ h=>(by cases h),aK _, .inr ⟨rfl,rfl⟩,fun l0 h1 h2 h3=>(h l0 h1 h2 h3).elim⟩
theorem PU.two {b:By}{l l':List Ev}{e e':Int}(h:PU b l e)(h':PU b l' e'):l=l'∧e=e':=by
 obtain⟨a1,a2,a3,a4⟩:=h
 obtain⟨b1,b2,b3,b4⟩:=h'
 rcases a3 with ⟨rfl,p1,p2⟩|⟨rfl,rfl⟩
 ·have:=b4 l a1 p1 p2.symm
  exact⟨this.2.symm,this.1.symm⟩
 ·rcases b3 with ⟨rfl,p1,p2⟩|⟨rfl,rfl⟩
  ·have:=a4 l' b1 p1 p2.symm
   omega
  ·exact⟨rfl,rfl⟩
structure KT (b:By)(n:Nat)(l:List Ev)(at_:Nat):Prop where
 len:l.length<=n
 ok : ∀e∈l,e.ok
 atl:at_<=b.length
 full:XU b fun l0=>n=l0.length∧∃i,i<=nC l0∧l=l0.take (16*i)∧b.drop at_=((List.range (nC l0)).drop i).flatMap fun j=>PK (ch l0 j)
theorem KT.step {b:By}{n:Nat}{l:List Ev}{at_:Nat}(h:KT b n l at_)(hlt:l.length<n){c:List Ev}{k:Nat}{ok:Bool}(hR:RCs (b.drop at_) (min 16 (n-l.length)) c k ok) :
  (ok=true->KT b n (l++c) (at_+k)∧0<c.length)∧XU b fun _=>ok=true:=by
 have key:XU b fun l0=>ok=true∧∃i,i+1<=nC l0∧l++c=l0.take (16*(i+1))∧b.drop (at_+k)=((List.range (nC l0)).drop (i+1)).flatMap fun j=>PK (ch l0 j):=fun l0 h1 h2 h3=>by
  obtain⟨q1,i,q2,q3,q4⟩:=h.full l0 h1 h2 h3
  have hl:l.length=min (16*i) l0.length:=by rw [q3,aU]
  have hi:16*i<l0.length:=by omega
  have hic:i<nC l0:=by unfold nC;omega
  have aaN:=Xj h1 (PS (Zh h2).2) hic
  have hcl:(ch l0 i).length=min 16 (n-l.length):=by unfold ch;rw [aU,bD];omega
  have hd:(List.range (nC l0)).drop i=i::(List.range (nC l0)).drop (i+1):=by
   rw [cZ (by rw [gQ];exact hic),iZ]
  rw [hd,iG]at q4
  obtain⟨f1,f2,f3⟩:=hR.full _ _ aaN hcl q4
  refine⟨f1,i,hic, ?_, ?_⟩
  ·rw [f2,q3,show 16*(i+1)=16*i+16 by omega,List.take_add];rfl
  ·rw [<-List.drop_drop,q4,f3,iw rfl]
 refine⟨fun hk=> ?_,fun l0 h1 h2 h3=>(key l0 h1 h2 h3).1⟩
 obtain⟨g1,g2,g3⟩:=hR.good hk
 have ha:=h.atl
 rw [bD]at g3
 refine⟨⟨by rw [aG];omega,fun e he=> ?_,by omega,fun l0 h1 h2 h3=>⟨(h.full l0 h1 h2 h3).1, ?_⟩⟩,by omega⟩
 ·rcases dU.1 he with he|he
  ·exact h.ok e he
  ·exact g2 e he
 ·obtain⟨_,i,r1,r2,r3⟩:=key l0 h1 h2 h3
  exact⟨i+1,r1,r2,r3⟩
theorem KT.fin {b:By}{n:Nat}{l:List Ev}{at_:Nat}(h:KT b n l at_)(he:l.length=n):XU b fun l0=>l=l0:=fun l0 h1 h2 h3=>by
 obtain⟨q1,i,q2,q3,_⟩:=h.full l0 h1 h2 h3
 have hl:l.length=min (16*i) l0.length:=by rw [q3,aU]
 rw [q3,dI (by omega)]
structure TS where
 l:List Ev
 a:Nat
end
structure Dk where
 now:List By
 safe:List By
 fuse:Int
 ops:Int
 dead:Bool
def Dk.zero:Dk:=⟨[],[],0,0,false⟩
def Ji (l:List By):Prop:= ∀s∈l,s.length=64
structure Dk.ok (d:Dk):Prop where
 ev:d.now.length%2=0
 lo:8<=d.now.length
 hi:d.now.length<=256
 sf:d.safe.length=d.now.length
 fs : -1<=d.fuse∧d.fuse<=9223372036854775807
 op:0<=d.ops∧d.ops<=4611686018427387904
 n64:Ji d.now
 f64:Ji d.safe
def Dk.dying (d:Dk):Dk:= {d with dead:=true}
def Dk.tick (d:Dk):Dk:= {d with fuse:=if 0<d.fuse then d.fuse-1 else d.fuse,ops:=min (d.ops+1) 4611686018427387904}
def Dk.put (d:Dk)(n:Nat)(b:By):Dk:= {d.tick with now:=d.now.set n b}
def Dk.flush (d:Dk):Dk:= {d.tick with safe:=d.now}
theorem Um {l:List By}{n:Nat}{b:By}(h:Ji l)(hb:b.length=64):Ji (l.set n b):=fun s hs=>by
 rcases eY hs with h1|h1
 ·exact h s h1
 ·rw [h1];exact hb
theorem Dk.ok.tick {d:Dk}(h:d.ok):d.tick.ok:=by
 obtain⟨h1,h2,h3,h4,h5,h6,h7,h8⟩:=h
 refine⟨h1,h2,h3,h4, ?_, ?_,h7,h8⟩
 ·show -1<=(if 0<d.fuse then d.fuse-1 else d.fuse)∧(if 0<d.fuse then d.fuse-1 else d.fuse)<=9223372036854775807
  omega
 ·show 0<=min (d.ops+1) 4611686018427387904∧min (d.ops+1) 4611686018427387904<=4611686018427387904
  omega
theorem Dk.ok.dying {d:Dk}(h:d.ok):d.dying.ok:=⟨h.ev,h.lo,h.hi,h.sf,h.fs,h.op,h.n64,h.f64⟩
theorem Dk.ok.put {d:Dk}(h:d.ok){n:Nat}{b:By}(hb:b.length=64):(d.put n b).ok:=by
 obtain⟨h1,h2,h3,h4,h5,h6,h7,h8⟩:=h.tick
 refine⟨?_, ?_, ?_, ?_,h5,h6,Um h.n64 hb,h8⟩
 ·show (d.now.set n b).length%2=0;rw [bC];exact h1
 ·show 8<=(d.now.set n b).length;rw [bC];exact h2
 ·show (d.now.set n b).length<=256;rw [bC];exact h3
 ·show d.safe.length=(d.now.set n b).length;rw [bC];exact h4
theorem Dk.ok.flush {d:Dk}(h:d.ok):d.flush.ok:=by
 obtain⟨h1,h2,h3,h4,h5,h6,h7,h8⟩:=h.tick
 exact⟨h1,h2,h3,rfl,h5,h6,h7,h7⟩
def sG (d:Dk)(at_:Nat)(l:List By):Dk×Int:=
 match l with
 | []=>if d.dead then(d,40)else if d.fuse=0 then(d.dying,40)else(d.flush,0)
 | s::r=>if d.dead then(d,40)else if d.fuse=0 then(d.dying,40)else sG (d.put at_ s) (at_+1) r
theorem PV : ∀ {l:List By} {d:Dk} {at_:Nat},d.ok->Ji l->(sG d at_ l).1.ok∧(sG d at_ l).1.now.length=d.now.length∧((sG d at_ l).2=0∨((sG d at_ l).2=40∧(sG d at_ l).1.dead=true)):=by
 intro l
 induction l with
 | nil=>
  intro d at_ h _
  unfold sG
  cases hd:d.dead with
  | true=>exact⟨h,rfl, .inr ⟨rfl,hd⟩⟩
  | false=>
   rw [if_neg (by decide)]
   split
   ·exact⟨h.dying,rfl, .inr ⟨rfl,rfl⟩⟩
   ·exact⟨h.flush,rfl, .inl rfl⟩
 | cons s r ih=>
  intro d at_ h hl
  unfold sG
  cases hd:d.dead with
  | true=>exact⟨h,rfl, .inr ⟨rfl,hd⟩⟩
  | false=>
   rw [if_neg (by decide)]
   split
   ·exact⟨h.dying,rfl, .inr ⟨rfl,rfl⟩⟩
   ·have:=ih (d:=d.put at_ s) (at_:=at_+1) (h.put (hl s (dN ..))) fun x hx=>hl x (dY _ hx)
    refine⟨this.1,this.2.1.trans ?_,this.2.2⟩
    show (d.now.set at_ s).length=d.now.length
    simp
structure So where
 d:Dk
 gen:Int
 half:Int
 next:Int
 frame:Int
 ev:List Ev
def So.zero:So:=⟨Dk.zero,0,0,0,0,[]⟩
structure So.ok (s:So):Prop where
 d:s.d.ok
 gen:1<=s.gen∧s.gen<=4294967295
 half:s.half=0∨s.half=1
 next:1<=s.next∧s.next<=(s.d.now.length/2:Nat)
 frame:1<=s.frame∧s.frame<=65536
 ev:(∀e∈s.ev,e.ok)∧Ze s.ev=0
section
attribute [local irreducible] num hsh
theorem Vb {g f:Int}{b:By}(h:g<1∨4294967295<g∨f<0∨65535<f):Bj g f b=3∧zh g f b = []:=by
 have e:Bj g f b=3:=by unfold Bj;rw [if_pos h]
 exact⟨e,by unfold zh;rw [if_neg (by rw [e];decide)]⟩
theorem Vd {g f:Int}{b:By}(h : ¬(g<1∨4294967295<g∨f<0∨65535<f))(h2:255<nS b):Bj g f b=4∧zh g f b = []:=by
 have e:Bj g f b=4:=by unfold Bj;rw [if_neg h,if_pos h2]
 exact⟨e,by unfold zh;rw [if_neg (by rw [e];decide)]⟩
theorem PW {g f:Int}{b:By}(h : ¬(g<1∨4294967295<g∨f<0∨65535<f))(h2 : ¬255<nS b):Bj g f b=0∧zh g f b=secs g.toNat f.toNat b:=by
 have e:Bj g f b=0:=by unfold Bj;rw [if_neg h,if_neg h2]
 exact⟨e,by unfold zh;rw [if_pos e]⟩
theorem kP.divN {K:Int->Prop}(v k:Nat)(hv:v<1000000000)(c:K ((v/k:Nat):Int)):kP .i64 ((v:Int).tdiv (k:Int)) K:=by
 have h:=Nat.div_le_self v k
 refine kP.to (y:=((v/k:Nat):Int)) ?_ c
 rw [show (v:Int).tdiv (k:Int)=((v/k:Nat):Int)from rfl]
 generalize v/k=q at *
 exact IntWalk.i64_in _ (by omega)
theorem Ve (l:List By)(b:By):(l++ [b]).map oV=l.map oV++ [[.lst 1 (b.map pR)]]:=by rw [bK];rfl
theorem J3 (b:By)(i:Nat):List.drop (i*48) (List.take ((i+1)*48) ((pad b).map pR))=(prt b i).map pR:=by
 unfold prt
 rw [jD,show (i+1)*48-i*48=48 by omega,List.map_take,List.map_drop]
theorem BD (G:Glob)(gen frame:Int)(b:By)(hb:b.length<=3000000):kQ Tryz.prog G 146 [iv gen,iv frame,bs b] 0 [] (Is (.kZ [ss (zh gen frame b),iv (Bj gen frame b)])):=by
 have hP:=kQ.up (aaG [] (b.length:Int) (uQ (by omega)) (aK _)) G
 rw [dD]at hP
 have hP:kQ Tryz.prog G 124 [bs [],iv ((b.map pR).length:Nat)] 0 [] (wo 5 1 ((num (b.length:Int)).map pR)):=by rw [au];exact hP
 have hnl:=zG (b.length:Int)
 have hdl:(dat b).length=(num (b.length:Int)).length+b.length:=by unfold dat;rw [aG]
 have hdm:(num (b.length:Int)).map pR++b.map pR=(dat b).map pR:=by unfold dat;rw [bK]
 refine jJ func146 rfl mixed (by kernel_rfl) ?_
 by_cases hc:gen<1∨4294967295<gen∨frame<0∨65535<frame
 ·obtain⟨e1,e2⟩:=Vb (b:=b) hc
  rw [e1,e2]
  conv=>whnf
  repeat' (apply jH<;>intro h<;>(conv=>whnf))
  all_goals first
   | exact jW [] (by trivial)
   | (exfalso;simp at *;omega)
 apply jH<;>intro h
 ·exfalso;simp at h;omega
 apply jH<;>intro h
 ·exfalso;simp at h;omega
 apply jH<;>intro h
 ·exfalso;simp at h;omega
 apply jH<;>intro h
 ·exfalso;simp at h;omega
 refine nI [] (by kernel_rfl) (hP) (by trivial) ?_
 refine jS.mk (og (by simp only [au];omega) (by kernel_rfl)) ?_
 conv=>whnf
 rw [hdm]
 refine kP.i64 (by rw [au];omega) ?_
 refine kP.to (y:=(((dat b).length+47:Nat):Int)) (by rw [au,IntWalk.i64_in _ (by omega)];omega) ?_
 refine jS.mk (by decide) ?_
 refine kP.divN _ 48 (by omega) ?_
 conv=>whnf
 have hpl:=zJ b
 have hpos:=Jf b
 have hn1:nS b*48<(dat b).length+48:=by unfold nS;omega
 have hn2:(dat b).length<=nS b*48:=by unfold nS;omega
 have Xk:(dat b).map pR++(qg (nS b*48 -(dat b).length)).data.toList.map pR=(pad b).map pR:=by
  unfold pad;rw [bK];rfl
 rw [show ((dat b).length+47)/48=nS b from rfl]
 apply jH<;>intro h
 ·obtain⟨e1,e2⟩:=Vd hc (by simp at h;omega:255<nS b)
  rw [e1,e2]
  exact jW [] (by trivial)
 have hns : ¬255<nS b:=by simp at h;omega
 obtain⟨e1,e2⟩:=PW hc hns
 rw [e1,e2]
 refine kP.to (y:=((nS b*48:Nat):Int)) (by rw [IntWalk.i64_in _ (by omega)];omega) ?_
 refine kP.to (y:=((nS b*48 -(dat b).length:Nat):Int)) (by rw [au,IntWalk.i64_in _ (by omega)];omega) ?_
 refine pW.mk' (nS b*48 -(dat b).length) rfl rfl ⟨by omega,by unfold maxLen;omega⟩ ?_
 refine jS.mk ?_ ?_
 ·have:(qg (nS b*48 -(dat b).length)).size=nS b*48 -(dat b).length:=by simp [qg,ByteArray.size]
  rw [this,au];unfold maxLen;omega
 conv=>whnf
 rw [Xk]
 conv=>whnf
 obtain⟨g,hg⟩ : ∃g:Nat,gen=(g:Int):=⟨gen.toNat,by omega⟩
 obtain⟨f,hf⟩ : ∃f:Nat,frame=(f:Int):=⟨frame.toNat,by omega⟩
 subst hg;subst hf
 simp only [dA]
 refine qm ((8,8)::Rt) 4 [8,10,47] (fun i:Nat=> [(8,bs (pad b)),(10, .own 3),(47,iv i)]) (fun i=> [(3, .rows 38 1 ((yJ g f b i).map oV))]) (fun i=>i<=nS b) (fun i=>nS b-i) [(3, .nil)] [2] 0 (by kernel_rfl) (fun _=>rfl) rfl (aK _) ⟨rfl,trivial⟩ ⟨⟨rfl,rfl,rfl⟩,trivial,rfl,trivial⟩ ?_
 intro i hi
 apply jH<;>intro h
 rotate_left
 ·have hie:i=nS b:=by simp at h;omega
  subst hie
  refine jW [3] ?_
  trivial
 have hlt:i<nS b:=by simp at h;omega
 (refine kN Wh [3] (by kernel_rfl) ?_;conv=>whnf)
 refine kP.to (y:=((i*48:Nat):Int)) (by rw [IntWalk.i64_in _ (by omega)];omega) ?_
 refine kP.i64 (by omega) ?_
 refine kP.to (y:=(((i+1)*48:Nat):Int)) (by rw [IntWalk.i64_in _ (by omega)];omega) ?_
 refine pO.mk' (i*48) ((i+1)*48) rfl rfl (by omega) (by rw [au,hpl];omega) ?_
 conv=>whnf
 have aaO:=zK hlt
 refine nI [] (by kernel_rfl) (Ud G g f i (nS b) (prt b i) (by omega) (by omega) (by omega) (by omega) (by omega)) ⟨(by trivial),⟨rfl,J3 b i⟩,trivial⟩ ?_
 refine jS.mk (og (by rw [au,xJ];simp only [ln];omega) (by kernel_rfl)) ?_
 refine kP.i64 (by omega) ?_
 exact oI (i+1) [(3, .lab 6)] [] rfl (by show nS b -(i+1)<nS b-i;omega) hlt ⟨⟨rfl,rfl,by rw [Dt,Ve]⟩,trivial⟩ ⟨⟨rfl,rfl⟩,rfl,rfl,trivial⟩
end
end Go.Proofs.YtnandbihiceihaaGreatDoor.Cl
namespace Go.Proofs.YtnandbihiceihaaGreatDoor.Vc
open RowKit Vc Dg Cl Go.Proofs.Tryz
attribute [local irreducible] loadVar storeVar Instr.indexAt Instr.index Instr.sliceAt Instr.makeSlice Instr.lookup Instr.mapUpdate Instr.range Instr.next Instr.entry Instr.makeMap Builtin.append_ Builtin.copy_ Builtin.len_ Builtin.min_ Builtin.max_ Builtin.cap_ Builtin.delete_ Builtin.clear_ convert binOp eqGuard Op.unary Calls
def ZQ (k n j:Nat):List UInt8:=(List.range j).map fun t=>bt (n/2^(8*(k-1-t)))
theorem PX (k n j:Nat):ZQ k n (j+1)=ZQ k n j++ [bt (n/2^(8*(k-1-j)))]:=by
 simp only [ZQ,gI,bK,fJ,iV]
theorem BF {w:World}{B:Nat}{E:TypeId}{sz:Nat}{oa:Option Addr}{n c:Nat}{xs:List Value}(hO:Own w B E sz oa n c xs):oa=none->c=0:=by
 intro e
 rcases hO.2 with ⟨hv,hn⟩|⟨g,cap,cur,hv,_⟩
 ·injection hv with _ _ e3
 ·injection hv with e1 _ _
  rw [e]at e1;cases e1
theorem Jj (n k:Nat)(w:World)(hk:k<=8)(hn:n<18446744073709551616) :
  uD Tryz.prog 344 #[.int .u64 n, .int .i64 k] w fun v w'=> ∃oa c,v = .slice oa k c∧Own w' w.heap.size 5 1 oa k c (kV (be k n))∧Below w.heap.size w w':=by
 refine kL func344 rfl Dg.mixed (by kernel_rfl) ?_
 refine oG (X:=Nat×Option Addr×Nat) Sr (fun x=> [(5, .slice x.2.1 x.1 x.2.2),(6, .int .i64 ((k:Int)-1-x.1))]) (fun x w'=>x.1<=k∧Below w.heap.size w w'∧Own w' w.heap.size 5 1 x.2.1 x.1 x.2.2 (kV (ZQ k n x.1))) (fun x=>k-x.1) (0,none,0) (by kernel_rfl)
  ?_ ⟨aK _,Below.refl _ _,Own.nil _ _ _ _⟩ ?_
 ·refine⟨rfl,mX ?_,trivial⟩
  rw [IntWalk.i64_in _ (by omega)];simp
 rintro⟨j,oo,cc⟩ w1 r1 ⟨hj,hB,ho⟩
 dsimp only at hj ho
 apply jH<;>intro h
 ·have hlt:j<k:=by have:=of_decide_eq_true h;dsimp only at this;omega
  have e1:IntKind.i64.wrap (8*((k:Int)-1 -(j:Int)))=((8*(k-1-j):Nat):Int):=by rw [IntWalk.i64_in _ (by omega)];omega
  have e2:IntKind.u64.wrap (IntKind.i64.wrap (8*((k:Int)-1 -(j:Int))))=((8*(k-1-j):Nat):Int):=by rw [e1,IntWalk.u64_in _ (by omega)]
  refine jS.mk (by rw [e2];omega) ?_
  refine mZ (B:=w.heap.size) (sz:=1) (nV:=1) (m:=1) (n:=j) rfl rfl rfl rfl rfl rfl (ho.alloc _) (Row.alloc1 _ _ _) rfl (fun u hu=>by simp at hu;subst hu;rfl) (fun e=>by cases e) (by omega) (bZ hB.size (by simp)) (by unfold maxLen;omega) ?_
  intro o3 c3 w3 ho3 hB3 _
  refine nU.mk ⟨_, ?_,(j+1,o3,c3),rfl, ?_, ?_⟩
  ·show k -(j+1)<k-j;omega
  ·exact⟨rfl,mX (by rw [IntWalk.i64_in _ (by dsimp only;omega)];dsimp only;omega),trivial⟩
  ·refine⟨hlt,(nR hB (ay _) _).trans hB3, ?_⟩
   dsimp only
   rw [PX,lT,wu]
   rw [e2,Bv n (8*(k-1-j)) _ (by have:IntKind.u64.bits=64:=rfl;rw [this];omega)]at ho3
   exact ho3
 ·have hge : ¬j<k:=by have:=of_decide_eq_false h;dsimp only at this;omega
  obtain rfl:j=k:=by omega
  exact nP.mk ⟨oo,cc,rfl,ho,hB⟩
theorem Jk (g f i n:Nat)(oa:Option Addr)(m c:Nat)(d:List UInt8)(w:World)(h1:g<4294967296)(h2:f<65536)(h3:i<256)(h4:n<256)(hm:m=d.length)(hd_:d.length<=1000)(hc:m<=c)(hnil:oa=none->c=0)(hr:Row w oa (kV d)) :
  uD Tryz.prog 299 #[.int .i64 g, .int .i64 f, .int .i64 i, .int .i64 n, .slice oa m c] w fun v w'=> ∃lV c',v = .slice lV (16+m) c'∧Own w' w.heap.size 5 1 lV (16+m) c' (kV (sec g f i n d))∧Below w.heap.size w w':=by
 refine kL func299 rfl Dg.mixed (by kernel_rfl) ?_
 have lb : ∀l:List UInt8,(kV l).length=l.length:=fun l=>by simp [kV]
 have u1:IntKind.u64.wrap (g:Int)=(g:Int):=IntWalk.u64_in _ (by omega)
 have u2:IntKind.u64.wrap (f:Int)=(f:Int):=IntWalk.u64_in _ (by omega)
 conv=>whnf
 rw [u1]
 refine lW (by kernel_rfl) (Jj g 4 w (by decide) (by omega)) ?_
 rintro _ w1 ⟨o1,c1,rfl,YE,hB1⟩
 conv=>whnf
 rw [u2]
 refine lW (by kernel_rfl) (Jj f 2 w1 (by decide) (by omega)) ?_
 rintro _ w2 ⟨o2,c2,rfl,hO2,hB2⟩
 have hB2':=hB1.trans (hB2.mono hB1.size)
 have Zi:=YE.below hB2
 refine mZ (B:=w.heap.size) (sz:=1) (nV:=1) (m:=2) (n:=4) rfl rfl rfl rfl rfl rfl Zi hO2.row (by rw [lb,pI]) (pK _) (BF hO2) (by decide) hB2'.size (by decide) ?_
 intro o3 c3 w3 hO3 hB3 _
 have LP:=hB2'.trans hB3
 clear Zi hO2 YE hB1 hB2 hB3 hB2'
 rw [<-lT]at hO3
 refine mZ (B:=w.heap.size) (sz:=1) (nV:=1) (m:=2) (n:=4+2) rfl rfl rfl rfl rfl rfl (hO3.alloc _) (Row.alloc1 _ _ _) rfl (fun u hu=>by simp at hu;rcases hu with rfl|rfl<;>rfl) (fun e=>by cases e) (by decide) (bZ LP.size (by simp)) (by decide) ?_
 intro o4 c4 w4 hO4 hB4 _
 have Un:=(nR LP (ay _) _).trans hB4
 clear LP hB4 hO3
 rw [PE i,PE n]at hO4
 have hO4:Own w4 w.heap.size 5 1 o4 8 c4 (kV (hd g f i n)):=by
  unfold hd
  rw [lT]
  exact hO4
 have hl:=uS g f i n
 obtain⟨q1,q2⟩:=U9 g f i n d
 have q3:vg 101 0 (frame [hd g f i n,d])=(hw g f i n d:Int):=q2
 have Zj:kV (sec g f i n d)=kV (hd g f i n++be 8 (hw g f i n d))++kV d:=by unfold sec;rw [lT]
 rw [Zj]
 clear Zj q2
 generalize hw g f i n d=y at *
 generalize hd g f i n=z at *
 have c48:=JM hO4
 refine lW (by kernel_rfl) (Oy 101 (some ⟨w4.heap.size,0,none⟩) 2 [.slice o4 8 c4, .slice oa m c] [z,d] _ (show 2<=1099511627776 by decide) (by rw [Bz,hl];omega) (Row.alloc1 _ _ _) ?_) ?_
 ·refine⟨rfl,fun k hk=> ?_⟩
  have hk:k<2:=hk
  match k,hk with
  | 0,_=>exact⟨o4,c4,by show some (Value.slice o4 8 c4)=some (Value.slice o4 z.length c4);rw [hl],by show z.length<=c4;omega,BF hO4,hO4.row.alloc _⟩
  | 1,_=>exact⟨oa,c,by show some (Value.slice oa m c)=some (Value.slice oa d.length c);rw [hm],by show d.length<=c;omega,hnil,(hr.below Un).alloc _⟩
 rintro _ w5 ⟨rfl,U4⟩
 rw [q3]
 have Xl:Below w4.heap.size w4 w5:=(nR (Below.refl _ _) (ay _) _).trans (U4.mono (by simp))
 have Xm:=Un.trans (Xl.mono Un.size)
 have WM:=hO4.below Xl
 clear hO4 Un U4 Xl
 refine lW (by kernel_rfl) (Jj y 8 w5 (by decide) q1) ?_
 rintro _ w6 ⟨o6,c6,rfl,hO6,hB6⟩
 have Xn:=Xm.trans (hB6.mono Xm.size)
 have hO7:=WM.below hB6
 refine mZ (B:=w.heap.size) (sz:=1) (nV:=1) (m:=8) (n:=8) rfl rfl rfl rfl rfl rfl hO7 hO6.row (by rw [lb,pI]) (pK _) (BF hO6) (by decide) Xn.size (by decide) ?_
 intro o8 c8 w8 hO8 hB8 _
 have Uo:=Xn.trans hB8
 rw [<-lT]at hO8
 clear hO7 hO6 WM hB6 hB8 Xn Xm
 refine mZ (B:=w.heap.size) (sz:=1) (nV:=1) (m:=m) (n:=8+8) rfl rfl rfl rfl rfl rfl hO8 (hr.below Uo) (by rw [lb];omega) (pK _) hnil (by omega) Uo.size (by unfold maxLen;omega) ?_
 intro o9 c9 w9 hO9 hB9 _
 have aaS:=Uo.trans hB9
 clear hO8 Uo hB9
 exact nP.mk ⟨o9,c9,rfl,hO9,aaS⟩
end Go.Proofs.YtnandbihiceihaaGreatDoor.Vc
namespace Go.Proofs.YtnandbihiceihaaGreatDoor.Cl
open RowKit Vc Ax Go.Proofs.Tryz
attribute [local irreducible] loadVar storeVar Instr.indexAt Instr.index Instr.sliceAt Instr.makeSlice Instr.lookup Instr.mapUpdate Instr.range Instr.next Instr.entry Instr.makeMap Builtin.append_ Builtin.copy_ Builtin.len_ Builtin.min_ Builtin.max_ Builtin.cap_ Builtin.delete_ Builtin.clear_ convert binOp eqGuard Op.unary Calls
section
attribute [local irreducible] num hsh
theorem PY (G:Glob)(g f i n:Nat)(d:By)(h1:g<4294967296)(h2:f<65536)(h3:i<256)(h4:n<256)(hd_:d.length<=1000):kQ Tryz.prog G 299 [iv g,iv f,iv i,iv n,bs d] 0 [] (wo 5 1 ((sec g f i n d).map pR)):=by
 refine uq (E:=5) (c:=fun a:UInt8=> [Value.int .u8 (a.toNat:Int)]) (fun _=>rfl) (fun _=>rfl) (fun _ v hv=>by simp at hv;subst hv;rfl) fun w F σ vs hF r=> ?_
 match vs,r with
 | [x1,x2,x3,x4,x5],⟨r1,r2,r3,r4,r5,_⟩=>
  rw [r1.kR,r2.kR,r3.kR,r4.kR]
  cases r5 with
  | lst hu=>
   obtain⟨oa,c,rfl,hc,hn,hr⟩:=yI hu hF
   refine(Jk g f i n oa d.length c d w h1 h2 h3 h4 rfl hd_ hc hn hr).mono fun v w' ⟨lV,c',e,hO,hB⟩=> ?_
   refine⟨lV,c', ?_, ?_,hB⟩
   ·rw [e,zI]
   ·rw [Bo,zI];exact hO
theorem LW (G:Glob)(gen frame:Int)(b:By)(hb:b.length<=3000000):kQ Tryz.prog G 234 [iv gen,iv frame,bs b] 0 [] (Is (.kZ [ss (zh gen frame b),iv (Bj gen frame b)])):=by
 have hP:=kQ.up (Y1 [] (b.length:Int) (uQ (by omega)) (aK _)) G
 rw [dD]at hP
 have hP:kQ Tryz.prog G 298 [bs [],iv ((b.map pR).length:Nat)] 0 [] (wo 5 1 ((num (b.length:Int)).map pR)):=by rw [au];exact hP
 have hnl:=zG (b.length:Int)
 have hdl:(dat b).length=(num (b.length:Int)).length+b.length:=by unfold dat;rw [aG]
 have hdm:(num (b.length:Int)).map pR++b.map pR=(dat b).map pR:=by unfold dat;rw [bK]
 refine jJ func234 rfl mixed (by kernel_rfl) ?_
 by_cases hc:gen<1∨4294967295<gen∨frame<0∨65535<frame
 ·obtain⟨e1,e2⟩:=Vb (b:=b) hc
  rw [e1,e2]
  conv=>whnf
  repeat' (apply jH<;>intro h<;>(conv=>whnf))
  all_goals first
   | exact jW [] (by trivial)
   | (exfalso;simp at *;omega)
 apply jH<;>intro h
 ·exfalso;simp at h;omega
 apply jH<;>intro h
 ·exfalso;simp at h;omega
 apply jH<;>intro h
 ·exfalso;simp at h;omega
 apply jH<;>intro h
 ·exfalso;simp at h;omega
 refine nI [] (by kernel_rfl) (hP) (by trivial) ?_
 refine jS.mk (og (by simp only [au];omega) (by kernel_rfl)) ?_
 conv=>whnf
 rw [hdm]
 refine kP.i64 (by rw [au];omega) ?_
 refine kP.to (y:=(((dat b).length+47:Nat):Int)) (by rw [au,IntWalk.i64_in _ (by omega)];omega) ?_
 refine jS.mk (by decide) ?_
 refine kP.divN _ 48 (by omega) ?_
 conv=>whnf
 have hpl:=zJ b
 have hpos:=Jf b
 have hn1:nS b*48<(dat b).length+48:=by unfold nS;omega
 have hn2:(dat b).length<=nS b*48:=by unfold nS;omega
 have Xk:(dat b).map pR++(qg (nS b*48 -(dat b).length)).data.toList.map pR=(pad b).map pR:=by
  unfold pad;rw [bK];rfl
 rw [show ((dat b).length+47)/48=nS b from rfl]
 apply jH<;>intro h
 ·obtain⟨e1,e2⟩:=Vd hc (by simp at h;omega:255<nS b)
  rw [e1,e2]
  exact jW [] (by trivial)
 have hns : ¬255<nS b:=by simp at h;omega
 obtain⟨e1,e2⟩:=PW hc hns
 rw [e1,e2]
 refine kP.to (y:=((nS b*48:Nat):Int)) (by rw [IntWalk.i64_in _ (by omega)];omega) ?_
 refine kP.to (y:=((nS b*48 -(dat b).length:Nat):Int)) (by rw [au,IntWalk.i64_in _ (by omega)];omega) ?_
 refine pW.mk' (nS b*48 -(dat b).length) rfl rfl ⟨by omega,by unfold maxLen;omega⟩ ?_
 refine jS.mk ?_ ?_
 ·have:(qg (nS b*48 -(dat b).length)).size=nS b*48 -(dat b).length:=by simp [qg,ByteArray.size]
  rw [this,au];unfold maxLen;omega
 conv=>whnf
 rw [Xk]
 conv=>whnf
 obtain⟨g,hg⟩ : ∃g:Nat,gen=(g:Int):=⟨gen.toNat,by omega⟩
 obtain⟨f,hf⟩ : ∃f:Nat,frame=(f:Int):=⟨frame.toNat,by omega⟩
 subst hg;subst hf
 simp only [dA]
 refine qm ((8,8)::RY) 4 [8,10,11] (fun i:Nat=> [(8,bs (pad b)),(10, .own 3),(11,iv i)]) (fun i=> [(3, .rows 38 1 ((yJ g f b i).map oV))]) (fun i=>i<=nS b) (fun i=>nS b-i) [(3, .nil)] [2] 0 (by kernel_rfl) (fun _=>rfl) rfl (aK _) ⟨rfl,trivial⟩ ⟨⟨rfl,rfl,rfl⟩,trivial,rfl,trivial⟩ ?_
 intro i hi
 apply jH<;>intro h
 rotate_left
 ·have hie:i=nS b:=by simp at h;omega
  subst hie
  refine jW [3] ?_
  trivial
 have hlt:i<nS b:=by simp at h;omega
 refine kP.to (y:=((i*48:Nat):Int)) (by rw [IntWalk.i64_in _ (by omega)];omega) ?_
 refine kP.i64 (by omega) ?_
 refine kP.to (y:=(((i+1)*48:Nat):Int)) (by rw [IntWalk.i64_in _ (by omega)];omega) ?_
 refine pO.mk' (i*48) ((i+1)*48) rfl rfl (by omega) (by rw [au,hpl];omega) ?_
 conv=>whnf
 have aaO:=zK hlt
 refine nI [] (by kernel_rfl) (PY G g f i (nS b) (prt b i) (by omega) (by omega) (by omega) (by omega) (by omega)) ⟨rfl,rfl,rfl,rfl,⟨rfl,J3 b i⟩,trivial⟩ ?_
 refine jS.mk (og (by rw [au,xJ];simp only [ln];omega) (by kernel_rfl)) ?_
 refine kP.i64 (by omega) ?_
 exact oI (i+1) [(3, .lab 6)] [] rfl (by show nS b -(i+1)<nS b-i;omega) hlt ⟨⟨rfl,rfl,by rw [Dt,Ve]⟩,trivial⟩ ⟨⟨rfl,rfl⟩,rfl,rfl,trivial⟩
end
end Go.Proofs.YtnandbihiceihaaGreatDoor.Cl
