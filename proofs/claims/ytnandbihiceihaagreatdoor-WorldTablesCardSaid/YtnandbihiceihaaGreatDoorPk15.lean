/- Joined parts of the proof. Library contracts at this program (written by the kit's command lay-plain) -/
import Derived.Shelf.Sort.Plain
import Derived.Shelf.Bits.Mul64
import Derived.Ground.Names2Prog
import Derived.Shelf.Slices.CompactI
import Derived.Shelf.Slices.CompactS
import Derived.Test.YtnandbihiceihaaGreatDoorProg
import Derived.Test.YtnandbihiceihaaGreatDoorPk14
import Derived.Test.YtnandbihiceihaaGreatDoorPk12
import Derived.Sort.Walk0
import Derived.Test.YtnandbihiceihaaGreatDoorPk13
import Derived.Test.YtnandbihiceihaaGreatDoorPk11
import Derived.Test.YtnandbihiceihaaGreatDoorPk10
set_option linter.unusedVariables false
set_option linter.unusedSimpArgs false
set_option maxRecDepth 100000
set_option maxHeartbeats 16000000
namespace Go.Proofs
open Go.Shelf
open Go.Sort Go.RowKit in
def Tryz.lays190_ren:Go.Shelf.Ren:=⟨fun|190=>245|125=>308|258=>307|128=>361|129=>311|302=>352|303=>353|304=>354|305=>355|306=>356|307=>357|308=>358|309=>359|310=>360|333=>385|329=>386|330=>387|334=>388|335=>389|336=>315|344=>401|n=>n,fun|31=>52|9=>9|3=>3|46=>298|0=>0|51=>354|53=>22|4=>4|183=>428|182=>427|131=>271|5=>5|218=>439|222=>379|228=>451|229=>157|n=>n,fun|n=>n⟩
theorem Tryz.lays190:Go.Proofs.Lays.n190 Tryz.prog Tryz.lays190_ren:= {
 mixed:=by kernel_rfl
 f125:=func308.trans (congrArg some (by kernel_rfl))
 f128:=func361.trans (congrArg some (by kernel_rfl))
 f129:=func311.trans (congrArg some (by kernel_rfl))
 f190:=func245.trans (congrArg some (by kernel_rfl))
 f258:=func307.trans (congrArg some (by kernel_rfl))
 f302:=func352.trans (congrArg some (by kernel_rfl))
 f303:=func353.trans (congrArg some (by kernel_rfl))
 f304:=func354.trans (congrArg some (by kernel_rfl))
 f305:=func355.trans (congrArg some (by kernel_rfl))
 f306:=func356.trans (congrArg some (by kernel_rfl))
 f307:=func357.trans (congrArg some (by kernel_rfl))
 f308:=func358.trans (congrArg some (by kernel_rfl))
 f309:=func359.trans (congrArg some (by kernel_rfl))
 f310:=func360.trans (congrArg some (by kernel_rfl))
 f329:=func386.trans (congrArg some (by kernel_rfl))
 f330:=func387.trans (congrArg some (by kernel_rfl))
 f333:=func385.trans (congrArg some (by kernel_rfl))
 f334:=func388.trans (congrArg some (by kernel_rfl))
 f335:=func389.trans (congrArg some (by kernel_rfl))
 f336:=func315.trans (congrArg some (by kernel_rfl))
 f344:=func401.trans (congrArg some (by kernel_rfl))
 t0:=underlying0
 a0:=Tryz.isAgg0
 z0:=Tryz.sizeOf0
 v0:=Tryz.zeroValue0
 t3:=underlying3
 a3:=Tryz.isAgg3
 z3:=Tryz.sizeOf3
 v3:=Tryz.zeroValue3
 t4:=underlying4
 a4:=Tryz.isAgg4
 z4:=Tryz.sizeOf4
 v4:=Tryz.zeroValue4
 t5:=underlying5
 a5:=Tryz.isAgg5
 z5:=Tryz.sizeOf5
 v5:=Tryz.zeroValue5
 t9:=underlying9
 a9:=Tryz.isAgg9
 z9:=Tryz.sizeOf9
 v9:=Tryz.zeroValue9
 t31:=underlying52
 a31:=Tryz.isAgg52
 z31:=Tryz.sizeOf52
 v31:=Tryz.zeroValue52
 t46:=underlying298
 a46:=Tryz.isAgg298
 z46:=Tryz.sizeOf298
 v46:=Tryz.zeroValue298
 t51:=underlying354
 a51:=Tryz.isAgg354
 z51:=Tryz.sizeOf354
 v51:=Tryz.zeroValue354
 t53:=underlying22
 a53:=Tryz.isAgg22
 z53:=Tryz.sizeOf22
 v53:=Tryz.zeroValue22
 t131:=underlying271
 a131:=Tryz.isAgg271
 z131:=Tryz.sizeOf271
 v131:=Tryz.zeroValue271
 t182:=underlying427
 a182:=Tryz.isAgg427
 z182:=Tryz.sizeOf427
 v182:=Tryz.zeroValue427
 t183:=underlying428
 a183:=Tryz.isAgg428
 z183:=Tryz.sizeOf428
 v183:=Tryz.zeroValue428
 t218:=underlying439
 a218:=Tryz.isAgg439
 z218:=Tryz.sizeOf439
 v218:=Tryz.zeroValue439
 t222:=underlying379
 a222:=Tryz.isAgg379
 z222:=Tryz.sizeOf379
 v222:=Tryz.zeroValue379
 t228:=underlying451
 a228:=Tryz.isAgg451
 z228:=Tryz.sizeOf451
 v228:=Tryz.zeroValue451
 t229:=underlying157
 a229:=Tryz.isAgg157
 z229:=Tryz.sizeOf157
 v229:=Tryz.zeroValue157}
open Go.Sort Go.RowKit in
theorem Tryz.slices_Sort_string (blk off cap:Nat)(ss:List (List UInt8))(w:World)(hH:Holds encStr w blk off ss.toArray)(hblk:blk<w.heap.size)(hsz:ss.length<4611686018427387904) :
  Calls Tryz.prog 245 #[.slice (some ⟨blk,off,none⟩) ss.length cap] w fun e w'=>
   e = .returned (.tuple #[])∧∃n os,w'=grow (putRow encStr (Sort.ahead w n) blk off (ss.mergeSort fun x y=>decide (x<=y)).toArray) os:=Any.slices_Sort_string Tryz.lays190 blk off cap ss w hH hblk hsz
def Tryz.lays264_ren:Go.Shelf.Ren:=⟨fun|264=>175|n=>n,fun|53=>22|46=>298|n=>n,fun|n=>n⟩
theorem Tryz.lays264:Go.Proofs.Lays.n264 Tryz.prog Tryz.lays264_ren:= {
 mixed:=by kernel_rfl
 f264:=func175.trans (congrArg some (by kernel_rfl))
 t46:=underlying298
 a46:=Tryz.isAgg298
 z46:=Tryz.sizeOf298
 v46:=Tryz.zeroValue298
 t53:=underlying22
 a53:=Tryz.isAgg22
 z53:=Tryz.sizeOf22
 v53:=Tryz.zeroValue22}
open Go.RowKit Go.Lib in
theorem Tryz.bits_Mul64 (x y:Nat)(hx:x<18446744073709551616)(hy:y<18446744073709551616)(w:World) :
  Calls Tryz.prog 175 #[.int .u64 x, .int .u64 y] w fun e w'=>e = .returned (.tuple #[.int .u64 ((x*y/18446744073709551616:Nat):Int), .int .u64 ((x*y%18446744073709551616:Nat):Int)])∧w'=w:=Any.bits_Mul64 Tryz.lays264 x y hx hy w
open Go.RowKit Go.Lib in
open Go.RowKit Go.Lib Go.Sort in
def Tryz.lays194_ren:Go.Shelf.Ren:=⟨fun|194=>246|n=>n,fun|31=>52|9=>9|3=>3|4=>4|0=>0|n=>n,fun|n=>n⟩
theorem Tryz.lays194:Go.Proofs.Lays.n194 Tryz.prog Tryz.lays194_ren:= {
 mixed:=by kernel_rfl
 f194:=func246.trans (congrArg some (by kernel_rfl))
 t0:=underlying0
 a0:=Tryz.isAgg0
 z0:=Tryz.sizeOf0
 v0:=Tryz.zeroValue0
 t3:=underlying3
 a3:=Tryz.isAgg3
 z3:=Tryz.sizeOf3
 v3:=Tryz.zeroValue3
 t4:=underlying4
 a4:=Tryz.isAgg4
 z4:=Tryz.sizeOf4
 v4:=Tryz.zeroValue4
 t9:=underlying9
 a9:=Tryz.isAgg9
 z9:=Tryz.sizeOf9
 v9:=Tryz.zeroValue9
 t31:=underlying52
 a31:=Tryz.isAgg52
 z31:=Tryz.sizeOf52
 v31:=Tryz.zeroValue52}
open Go.RowKit Go.Lib Go.Sort in
theorem Tryz.slices_Compact_string (blk off cap:Nat)(zs:List (List UInt8))(w:World)(hH:Holds encStr w blk off zs.toArray)(hsz:zs.length<=9223372036854775807)(hcap:zs.length<=cap) :
  Calls Tryz.prog 246 #[.slice (some ⟨blk,off,none⟩) zs.length cap] w fun e w'=>e = .returned (.slice (some ⟨blk,off,none⟩) (Lib.compact zs).length cap)∧∃q,w'=putRow encStr (Sort.ahead w q) blk off (Lib.compact zs++List.replicate (zs.length -(Lib.compact zs).length) []).toArray:=Any.slices_Compact_string Tryz.lays194 blk off cap zs w hH hsz hcap
end Go.Proofs
namespace Go.Proofs.YtnandbihiceihaaGreatDoor.Cl
open RowKit Vc Ax Go.Proofs.Tryz
attribute [local irreducible] loadVar storeVar Instr.indexAt Instr.index Instr.sliceAt Instr.makeSlice Instr.lookup Instr.mapUpdate Instr.range Instr.next Instr.entry Instr.makeMap Builtin.append_ Builtin.copy_ Builtin.len_ Builtin.min_ Builtin.max_ Builtin.cap_ Builtin.delete_ Builtin.clear_ convert binOp eqGuard Op.unary Calls
theorem w8 {n:Nat}(h:n<256):IntKind.u8.wrap (n:Int)=n:=zA h
theorem pw8 {c s:Nat}(hc:c<=1)(hs:s<8):c*2^s<256:=by
 have:2^s<=2^7:=jQ (by decide) (by omega)
 have h2:=lu hc this
 have:(1:Nat)*2^7=128:=by decide
 omega
theorem acj {c s:Nat}(hc:c<=1)(hs:s<8):IntKind.u8.wrap ((c:Int)*2^min (Int.toNat (s:Int)) IntKind.u8.bits)=((c*2^s:Nat):Int):=by
 have e:IntKind.u8.bits=8:=rfl
 rw [e,dK,fC (by omega)]
 have e2:(c:Int)*2^s=((c*2^s:Nat):Int):=by simp
 rw [e2,w8 (pw8 hc hs)]
section
theorem en1 (l:Li):num (1:Int)++num l.length++b1 l=en 1 l:=rfl
attribute [local irreducible] best ints en bd
end
section
attribute [local irreducible] best ints en bd
structure BX where
 i:Nat
 out:Li
end
structure NX where
 i:Nat
 u:Nat
def NI (b:By)(i u:Nat):Prop:=Nu b 0 0=Nu (b.drop i) i u∧u<128^i∧i<=9∧i<=b.length
theorem NI.last {b:By}{i u:Nat}(h:NI b i u)(hl:b.length<=i):Nu b 0 0 = .bad 16:=by
 rw [h.1,kT hl];rfl
theorem NI.cons {b:By}{i u:Nat}(h:NI b i u)(hl:i<b.length):Nu b 0 0=if i=9∧1<b[i].toNat then .bad 3 else if 128<=b[i].toNat then Nu (b.drop (i+1)) (i+1) (u+b[i].toNat%128*128^i)else if b[i].toNat=0∧0<i then .bad 1 else .ok (zz (u+b[i].toNat%128*128^i)) (i+1):=by
 rw [h.1,dH hl];rfl
theorem NI.lt {i u c:Nat}(hu:u<128^i):u+c%128*128^i<128^(i+1):=by
 have h1:c%128<=127:=by omega
 have h2:=bg (128^i) h1
 rw [Bg];omega
theorem ac2 (b:By)(e most em:Int):FP b e most em=(if(if(uP b e).2.2=0 then(if(uP b e).1<0 then 3 else if most<(uP b e).1 then em else 0)else(uP b e).2.2)=0 then(uP b e).1 else 0,(uP b e).2.1,if(uP b e).2.2=0 then(if(uP b e).1<0 then 3 else if most<(uP b e).1 then em else 0)else(uP b e).2.2):=rfl
structure RX where
 b:By
 e:Int
 out:Li
structure SX where
 b:By
 out:Li
section
def Gd (b:By)(Q:Li->By->Prop):Prop:= ∀l0 r,Bd l0->l0.length<=512->b=ints l0++r->Q l0 r
def RIs (b:By)(l:Li)(n:Nat)(e:Int):Prop:=Bd l∧l.length<=512∧((e=0∧n=(ints l).length∧b.take (ints l).length=ints l)∨(e=1∧l = []∧n=0))∧Gd b fun l0 _=>e=0∧l=l0
theorem RIs.bad {b:By}(h:Gd b fun _ _=>False):RIs b [] 0 1:=⟨Bd.nil,aH _, .inr ⟨rfl,rfl,rfl⟩,fun l0 r ha hl hb=>(h l0 r ha hl hb).elim⟩
theorem RIs.two (b:By){l:Li}{n:Nat}{e:Int}(h1:RIs b l n e){l':Li}{n':Nat}{e':Int}(h2:RIs b l' n' e'):l=l'∧n=n'∧e=e':=by
 obtain⟨a1,a2,a3,a4⟩:=h1
 obtain⟨b1,b2,b3,b4⟩:=h2
 rcases a3 with ⟨rfl,rfl,p1⟩|⟨rfl,rfl,rfl⟩
 ·have:=b4 l (b.drop (ints l).length) a1 a2 (by rw [<-p1];rw [p1];conv=>lhs;rw [<-cZ (ints l).length b,p1])
  obtain⟨rfl,rfl⟩:=this
  rcases b3 with ⟨_,rfl,_⟩|⟨h,_⟩
  ·exact⟨rfl,rfl,rfl⟩
  ·omega
 ·rcases b3 with ⟨rfl,rfl,p1⟩|⟨rfl,rfl,rfl⟩
  ·have:=a4 l' (b.drop (ints l').length) b1 b2 (by conv=>lhs;rw [<-cZ (ints l').length b,p1])
   omega
  ·exact⟨rfl,rfl,rfl⟩
attribute [local irreducible] best ints en bd
end
theorem FQ (a:By) : ¬a<a:=List.lt_irrefl a
theorem Si {a b c:By}(h1:a<b)(h2:b<c):a<c:=List.lt_trans h1 h2
theorem Uu {a b:By}(h1 : ¬a<b)(h2:a≠b):b<a:=by
 by_cases h:b<a
 ·exact h
 ·exact absurd (List.le_antisymm (List.not_lt.1 h) (List.not_lt.1 h1)) h2
theorem YZ {a b:By}(h1:a<b)(h2:b<a):False:=FQ a (Si h1 h2)
def Aj (d:Tx)(x:By):Tx:=
 match d with
 | []=> [x]
 | y::r=>if y<x then y::Aj r x else if y=x then y::r else x::y::r
def dsT (l:Tx):Tx:=l.foldl Aj []
def ai5:Tx->By->Nat
 | [],_=>0
 | y::r,x=>if y=x then 0 else ai5 r x+1
def WE (d:Tx):Prop:=d.Pairwise (· < ·)
theorem Pg (d:Tx)(x y:By):y∈Aj d x↔y∈d∨y=x:=by
 induction d with
 | nil=>simp [Aj]
 | cons z r ih=>
  unfold Aj
  split
  ·simp only [bI,ih,or_assoc]
  ·split
   ·rename_i e;subst e;simp only [bI];constructor
    ·intro h;exact .inl h
    ·rintro(h|rfl)
     ·exact h
     ·exact .inl rfl
   ·simp only [bI];constructor
    ·rintro(h|h|h)
     ·exact .inr h
     ·exact .inl (.inl h)
     ·exact .inl (.inr h)
    ·rintro((h|h)|h)
     ·exact .inr (.inl h)
     ·exact .inr (.inr h)
     ·exact .inl h
theorem ac3 {d:Tx}{x:By}(h:WE d):WE (Aj d x):=by
 induction d with
 | nil=>simp [Aj,WE]
 | cons z r ih=>
  have h1:=eY.1 h
  unfold Aj
  split
  ·rename_i hz
   refine eY.2 ⟨fun a ha=> ?_,ih h1.2⟩
   rcases(Pg r x a).1 ha with h2|h2
   ·exact h1.1 a h2
   ·rw [h2];exact hz
  ·split
   ·exact h
   ·rename_i n1 n2
    have hx:=Uu n1 n2
    refine eY.2 ⟨fun a ha=> ?_,h⟩
    rcases bI.1 ha with h2|h2
    ·rw [h2];exact hx
    ·exact Si hx (h1.1 a h2)
theorem Ph (l:Tx) : ∀d,WE d->WE (l.foldl Aj d)∧∀y,y∈l.foldl Aj d↔y∈d∨y∈l:=by
 induction l with
 | nil=>intro d h;simp [h]
 | cons x r ih=>
  intro d h
  have:=ih (Aj d x) (ac3 h)
  refine⟨this.1,fun y=> ?_⟩
  rw [gJ,this.2 y,Pg,bI,or_assoc]
theorem Y2 (l:Tx):WE (dsT l):=(Ph l [] List.Pairwise.nil).1
theorem MF (l:Tx)(y:By):y∈dsT l↔y∈l:=by rw [dsT,(Ph l [] List.Pairwise.nil).2 y];simp
theorem Y3 {a:Tx} : ∀ {b:Tx},WE a->WE b->(∀y,y∈a↔y∈b)->a=b:=by
 induction a with
 | nil=>intro b _ _ h;cases b with
  | nil=>rfl
  | cons y r=>exact absurd ((h y).2 dw) (by simp)
 | cons x r ih=>
  intro b ha hb h
  have h1:=eY.1 ha
  cases b with
  | nil=>exact absurd ((h x).1 dw) (by simp)
  | cons y s=>
   have h2:=eY.1 hb
   have e:x=y:=by
    have m1:=(h x).1 dw
    have m2:=(h y).2 dw
    rcases bI.1 m1 with e|e
    ·exact e
    ·rcases bI.1 m2 with e2|e2
     ·exact e2.symm
     ·exact(YZ (h1.1 y e2) (h2.1 x e)).elim
   subst e
   congr 1
   refine ih h1.2 h2.2 fun z=>⟨fun hz=> ?_,fun hz=> ?_⟩
   ·rcases bI.1 ((h z).1 (dU _ hz))with e|e
    ·have:=h1.1 z hz;rw [e]at this;exact(FQ _ this).elim
    ·exact e
   ·rcases bI.1 ((h z).2 (dU _ hz))with e|e
    ·have:=h2.1 z hz;rw [e]at this;exact(FQ _ this).elim
    ·exact e
theorem agE {l d:Tx}(h1:WE d)(h2 : ∀y,y∈d↔y∈l):d=dsT l:=Y3 h1 (Y2 l) fun y=>by rw [h2,MF]
theorem Y4 (d:Tx)(x:By):(Aj d x).length<=d.length+1:=by
 induction d with
 | nil=>simp [Aj]
 | cons y r ih=>
  unfold Aj
  split
  ·simp only [bn];omega
  ·split<;>simp
theorem FT (l:Tx):(dsT l).length<=l.length:=by
 have : ∀(l d:Tx),(l.foldl Aj d).length<=d.length+l.length:=by
  intro l
  induction l with
  | nil=>intro d;simp
  | cons x r ih=>intro d;have h1:=ih (Aj d x);have h2:=Y4 d x;simp only [gJ,bn];omega
 have:=this l []
 simpa [dsT]using this
def MG (l:Tx):Tx:=l.mergeSort fun x y=>decide (x<=y)
theorem xQ (l:Tx):(MG l).length=l.length:=List.length_mergeSort l
theorem Y5 (l:Tx)(y:By):y∈MG l↔y∈l:=List.mem_mergeSort
theorem Pj (l:Tx):(MG l).Pairwise (· <= ·):=by
 have:=List.pairwise_mergeSort (le:=fun x y:By=>decide (x<=y)) (fun a b c h1 h2=>by simp only [decide_eq_true_eq]at *;exact List.le_trans h1 h2) (fun a b=>by simp only [jy,decide_eq_true_eq];exact List.le_total a b) l
 exact this.imp fun h=>by simpa using h
theorem VY (z:Tx)(hs:z.Pairwise (· <= ·)) : ∀m,m<=z.length->WE (Go.Lib.compactUpTo z.toArray m)∧∀y,y∈Go.Lib.compactUpTo z.toArray m↔y∈z.take m:=by
 intro m
 induction m with
 | zero=>intro _;simp [Go.Lib.compactUpTo,WE]
 | succ m ih=>
  intro hm
  have hlt:m<z.length:=by omega
  obtain⟨h1,h2⟩:=ih (by omega)
  have em:z.toArray[m]! = z[m]:=by simp [hlt]
  have le : ∀j (hj:j<m),z[j]'(by omega)<=z[m]:=fun j hj=>jq.1 hs j m (by omega) hlt hj
  rw [Go.Lib.compactUpTo_succ,aG hlt,em]
  by_cases hk:Go.Lib.keeps z.toArray m=true
  ·rw [if_pos hk]
   refine⟨List.pairwise_append.2 ⟨h1,kR _ _,fun a ha b hb=> ?_⟩,fun y=>by simp only [bC,h2,aW]⟩
   rw [aW.1 hb]
   obtain⟨j,hj,e⟩:=jr ((h2 a).1 ha)
   rw [aN]at hj
   rw [kF]at e
   have hjm:j<m:=by omega
   have hne:z[m-1]'(by omega)≠z[m]:=by
    unfold Go.Lib.keeps at hk
    rw [decide_eq_true_eq]at hk
    rcases hk with h|h
    ·omega
    ·rw [em]at h
     have e1:z.toArray[m-1]! = z[m-1]'(by omega):=by simp [show m-1<z.length by omega]
     rw [e1]at h
     exact fun e=>h e.symm
   have l1:z[m-1]'(by omega)<=z[m]:=le (m-1) (by omega)
   have l2:z[j]'(by omega)<=z[m-1]'(by omega):=by
    rcases eG j (m-1)with h|h
    ·exact jq.1 hs j (m-1) (by omega) (by omega) h
    ·have:j=m-1:=by omega
     subst this;exact List.le_refl _
   have l3:z[m-1]'(by omega)<z[m]:=by
    by_cases h:z[m-1]'(by omega)<z[m]
    ·exact h
    ·exact absurd (List.le_antisymm l1 (List.not_lt.1 h)) hne
   rw [<-e]
   exact List.lt_of_le_of_lt l2 l3
  ·rw [if_neg hk,gK]
   refine⟨h1,fun y=> ?_⟩
   rw [h2,bC,aW]
   constructor
   ·exact .inl
   ·rintro(h|h)
    ·exact h
    ·unfold Go.Lib.keeps at hk
     rw [decide_eq_true_eq]at hk
     have h0:0<m:=by
      rcases bM m with e|e
      ·exact absurd (.inl e) hk
      ·exact e
     have e1:z.toArray[m-1]! = z[m-1]'(by omega):=by simp [show m-1<z.length by omega]
     have e2:z[m]=z[m-1]'(by omega):=by
      rw [em,e1]at hk
      exact gV fun h=>hk (.inr h)
     rw [h,e2]
     exact List.mem_iff_getElem.2 ⟨m-1,by rw [aN];omega,by rw [kF]⟩
theorem EN (l:Tx):Go.Lib.compact (MG l)=dsT l:=by
 have h:=VY (MG l) (Pj l) (MG l).length (au _)
 rw [aZ]at h
 exact agE h.1 fun y=>by
  have:=h.2 y
  rw [Y5]at this
  exact this
abbrev tv (s:By):AV:= .v (.string ⟨s.toArray⟩)
def Ie (s:By):List FV:= [.v (.string ⟨s.toArray⟩)]
abbrev tl (l:Tx):AV:= .lst 1 (l.map Ie)
theorem rD (a b:By):BA ⟨a.toArray⟩ ⟨b.toArray⟩=decide (a<b):=by
 unfold BA
 rw [bytesLess_eq,Lib.toList_data,Lib.toList_data]
section
variable {G:Glob}
theorem ai6 (a:By):(encStr a).oneCell'=true:=rfl
theorem agF (l:Tx)(hne:l≠ [])(hs:l.length<=1000000):mP Tryz.prog G 245 [.own 0] 1 [(0, .rows 9 1 (l.map Ie))] (fun a n H=>a = .og []∧n=1∧H = [(0, .rows 9 1 ((MG l).map Ie))]):=
 JI (enc:=encStr) (V:=fun _ _ v=>v = .tuple #[]) ai6 hne (xQ l)
  (fun w blk cap hH hb _=>Calls.mono (Tryz.slices_Sort_string blk 0 cap l w hH hb (by omega)) fun e w' ⟨h1,h2⟩=>⟨_,h1,rfl,h2⟩)
  (fun w σ F blk cap v _ _ hv=>by subst hv;exact mZ.og («as» := []) (vs:= []) trivial)
theorem VZ (l:Tx)(hne:l≠ [])(hs:l.length<=1000000):mP Tryz.prog G 246 [.own 0] 1 [(0, .rows 9 1 ((MG l).map Ie))] (fun a n H=>a = .sub 0 0 (dsT l).length∧n=1∧H = [(0, .rows 9 1 ((dsT l++List.replicate (l.length -(dsT l).length) []).map Ie))]):=
 JI (enc:=encStr) (zs':=dsT l++List.replicate (l.length -(dsT l).length) []) (V:=fun blk cap v=>v = .slice (some ⟨blk,0,none⟩) (dsT l).length cap) ai6 (by intro h;have:=xQ l;rw [h]at this;exact hne (aK this.symm))
  (by have:=FT l;rw [xQ,ay,dX];omega)
  (fun w blk cap hH hb hc=>Calls.mono (Tryz.slices_Compact_string blk 0 cap (MG l) w hH (by rw [xQ];omega) hc) fun e w' ⟨h1,q,h2⟩=>⟨_,h1,by rw [EN],q, #[],by rw [h2,EN,Sort.grow_empty,xQ]⟩)
  (fun w σ F blk cap v hσ hc hv=>by
   subst hv
   have hd:=FT l
   rw [xQ]at hσ hc
   refine .sub 0 0 _ _ cap (by decide) (by rw [hσ];show 0+_<=l.length;omega) (by omega) (fun h=>by cases h) fun _=>⟨blk,by rw [hσ],by rw [fU]⟩)
theorem Y6 (l:Tx)(x:Tx):(((dsT l++x).map Ie).drop 0).take (dsT l).length=(dsT l).map Ie:=by
 rw [ji,aS]
 exact jD (aj _)
end
def Sj (s:By):By:=num (s.length:Int)++s
def ixT (d l:Tx):Li:=l.map fun s=>((ai5 d s:Nat):Int)
def Jj (l:Tx):By:=num ((dsT l).length:Int)++(dsT l).flatMap Sj++ints (ixT (dsT l) l)
def TOK (l:Tx):Prop:= ∀s∈l,s.length<=200
theorem TOK.ds {l:Tx}(h:TOK l):TOK (dsT l):=fun s hs=>h s ((MF l s).1 hs)
theorem TOK.take {l:Tx}(h:TOK l)(k:Nat):TOK (l.take k):=fun s hs=>h s (bQ hs)
def txT (b:By)(e:Int):By×Nat×Int:=
 let c:=FP b e 200 4
 if c.2.2=0 then(if((b.drop c.2.1).length:Int)<c.1 then([],c.2.1,16)else((b.drop c.2.1).take c.1.toNat,c.2.1+c.1.toNat,0))else([],c.2.1,c.2.2)
theorem ac5 (b:By)(e:Int):txT b e=if(FP b e 200 4).2.2=0 then(if((b.drop (FP b e 200 4).2.1).length:Int)<(FP b e 200 4).1 then([],(FP b e 200 4).2.1,16)else((b.drop (FP b e 200 4).2.1).take (FP b e 200 4).1.toNat,(FP b e 200 4).2.1+(FP b e 200 4).1.toNat,0))else([],(FP b e 200 4).2.1,(FP b e 200 4).2.2):=rfl
theorem agG {b:By}{e most em:Int}{n:Nat}(h1:(uP b e).1=(n:Int))(h2:(uP b e).2.2=0)(hm:(n:Int)<=most):FP b e most em=((n:Int),(uP b e).2.1,0):=by
 rw [ac2,h1,h2]
 have a1 : ¬((n:Int)<0):=by omega
 have a2 : ¬(most<(n:Int)):=by omega
 simp only [a1,a2,if_true,if_false]
theorem ac6 {s b r:By}(hs:s.length<=200)(h:b=Sj s++r):txT b 0=(s,(Sj s).length,0):=by
 have hb:b=num (s.length:Int)++(s++r):=by rw [h];unfold Sj;rw [bW]
 have r1:=rd1 (b:=b) (e:=0) (CU (by omega:s.length<=9223372036854775807)) rfl hb
 have o3:=(agr b 0).2.2.1 r1.2.1
 rw [r1.1]at o3
 have hc:FP b 0 200 4=((s.length:Int),(uP b 0).2.1,0):=agG r1.1 r1.2.1 (by omega)
 rw [ac5,hc]
 simp only [if_true]
 rw [r1.2.2,if_neg (by rw [ay];omega),dK,jD rfl,o3.2.2]
 unfold Sj
 rw [ay]
def QT (l0:Tx)(r:By)(ks:Tx)(b':By):Prop:= ∃rest,dsT l0=ks++rest∧b'=rest.flatMap Sj++(ints (ixT (dsT l0) l0)++r)
theorem QT.step {l0:Tx}{r:By}{ks:Tx}{b':By}(ht:TOK l0)(hlt:ks.length<(dsT l0).length)(h:QT l0 r ks b'):(txT b' 0).2.2=0∧QT l0 r (ks++ [(txT b' 0).1]) (b'.drop (txT b' 0).2.1):=by
 obtain⟨rest,h1,h2⟩:=h
 cases rest with
 | nil=>rw [h1]at hlt;simp at hlt
 | cons y rest=>
  have hy:y.length<=200:=ht.ds y (by rw [h1];simp)
  have:=ac6 (b:=b') (r:=rest.flatMap Sj++(ints (ixT (dsT l0) l0)++r)) hy (by rw [h2];simp)
  rw [this]
  refine⟨rfl,rest,by rw [h1];simp, ?_⟩
  rw [h2]
  simp only [jf,bW]
  rw [jC rfl]
theorem QT.fin {l0:Tx}{r:By}{ks:Tx}{b':By}(hlen:ks.length=(dsT l0).length)(h:QT l0 r ks b'):ks=dsT l0∧b'=ints (ixT (dsT l0) l0)++r:=by
 obtain⟨rest,h1,h2⟩:=h
 have hr:rest = []:=by
  rw [h1,ay]at hlen
  exact aK (by omega)
 subst hr
 exact⟨by rw [h1];simp,by rw [h2];simp⟩
def GT (b:By)(Q:Tx->By->Prop):Prop:= ∀l0 r,l0.length<=512->TOK l0->b=Jj l0++r->Q l0 r
def RTs (b:By)(l:Tx)(n:Nat)(e:Int):Prop:=TOK l∧l.length<=512∧((e=0∧n=(Jj l).length∧b.take (Jj l).length=Jj l)∨(e=1∧l = []∧n=0))∧GT b fun l0 _=>e=0∧l=l0
theorem RTs.bad {b:By}(h:GT b fun _ _=>False):RTs b [] 0 1:=⟨fun _ h=>(by cases h),aH _, .inr ⟨rfl,rfl,rfl⟩,fun l0 r ha hl hb=>(h l0 r ha hl hb).elim⟩
theorem RTs.two (b:By){l:Tx}{n:Nat}{e:Int}(h1:RTs b l n e){l':Tx}{n':Nat}{e':Int}(h2:RTs b l' n' e'):l=l'∧n=n'∧e=e':=by
 obtain⟨a1,a2,a3,a4⟩:=h1
 obtain⟨b1,b2,b3,b4⟩:=h2
 rcases a3 with ⟨rfl,rfl,p1⟩|⟨rfl,rfl,rfl⟩
 ·have:=b4 l (b.drop (Jj l).length) a2 a1 (by conv=>lhs;rw [<-cZ (Jj l).length b,p1])
  obtain⟨rfl,rfl⟩:=this
  rcases b3 with ⟨_,rfl,_⟩|⟨h,_⟩
  ·exact⟨rfl,rfl,rfl⟩
  ·omega
 ·rcases b3 with ⟨rfl,rfl,p1⟩|⟨rfl,rfl,rfl⟩
  ·have:=a4 l' (b.drop (Jj l').length) b2 b1 (by conv=>lhs;rw [<-cZ (Jj l').length b,p1])
   omega
  ·exact⟨rfl,rfl,rfl⟩
section
attribute [local irreducible] best ints en bd
end
section
attribute [local irreducible] best ints en bd
structure TX where
 ks:Tx
 b:By
end
abbrev hdA (g f i n:Int):AV:= .agg [iv g,iv f,iv i,iv n]
theorem MH (n k:Nat)(m:Nat)(hm:m=k):IntKind.u8.wrap ((n:Int).fdiv (2^m))=((bt (n/2^k)).toNat:Int):=by
 subst hm
 rw [IntKind.wrap_u8,iy _ (Int.le_of_lt (Int.pow_pos (by decide))),Ia]
 have e:((n:Int)/2^m)=((n/2^m:Nat):Int):=by simp
 rw [e];omega
theorem ai9 (n:Nat):IntKind.u8.wrap (n:Int)=((bt n).toNat:Int):=by
 rw [IntKind.wrap_u8,Ia];omega
theorem aja (G:Glob)(g f i n:Nat)(h1:g<4294967296)(h2:f<65536)(h3:i<256)(h4:n<256):mP Tryz.prog G 288 [hdA g f i n] 0 [] (Is (bs (hd g f i n))):=by
 refine lJ func288 rfl mixed (by kernel_rfl) ?_
 conv=>whnf
 repeat' (first|(refine lW.mk (by decide) ?_;conv=>whnf)|(refine lN.to (MH g 24 _ rfl) ?_;conv=>whnf)|(refine lN.to (MH g 16 _ rfl) ?_;conv=>whnf)|(refine lN.to (MH g 8 _ rfl) ?_;conv=>whnf)|(refine lN.to (MH f 8 _ rfl) ?_;conv=>whnf)|(refine lN.to (ai9 _) ?_;conv=>whnf))
 refine lQ [1] ⟨rfl,rfl, ?_⟩
 simp only [hd,be,jB,List.range_zero,dI,gW,kS,aS,List.singleton_append,gu,wJ]
 simp
theorem Pm (a b:Int)(l:By):0<=Dg.Hw a b l∧Dg.Hw a b l<18446744073709551616:=by
 unfold Dg.Hw Dg.S4.done Dg.xor
 simp only [nV]
 rw [IntKind.wrap_u64]
 omega
theorem ajb (g f i n:Nat)(d:By):hw g f i n d<18446744073709551616∧hsh 101 [hd g f i n,d]=(hw g f i n d:Int):=by
 have h:=Pm 101 0 (Dg.frame [hd g f i n,d])
 unfold hw hsh
 omega
theorem Sl (a b:By):(Dg.frame [a,b]).length=16+a.length+b.length:=by
 simp only [Dg.frame,ay,Dg.xM,dP];omega
theorem ac7 (G:Glob)(g f i n:Nat)(d:By)(h1:g<4294967296)(h2:f<65536)(h3:i<256)(h4:n<256)(hd_:d.length<=1000):mP Tryz.prog G 224 [hdA g f i n,bs d] 0 [] (Is (bs (sec g f i n d))):=by
 obtain⟨hH1,hH2⟩:=ajb g f i n d
 have hP:=aja G g f i n h1 h2 h3 h4
 have hh:=ai1 G 101 [hd g f i n,d] (show 2<=1000 by decide) (by rw [Sl,CV];omega)
 have hl:=CV g f i n
 have hW:=O9 G (hd g f i n) (hw g f i n d) (by omega) hH1
 rw [hH2]at hh
 have hl2:(hd g f i n++be 8 (hw g f i n d)).length=16:=by rw [ay,uM,hl]
 have hs:sec g f i n d=hd g f i n++be 8 (hw g f i n d)++d:=rfl
 rw [hs]
 clear hs
 generalize hd g f i n++be 8 (hw g f i n d)=x at *
 generalize hw g f i n d=y at *
 generalize hd g f i n=z at *
 refine lJ func224 rfl mixed (by kernel_rfl) ?_
 refine qc [] (by kernel_rfl) (hP) (by trivial) ?_
 refine qc [] (by kernel_rfl) (hP) (by trivial) ?_
 (refine lM [1] (by kernel_rfl) (hh) rfl ?_ ?_;(focus trivial))
 refine qc [] (by kernel_rfl) hW (by trivial) ?_
 refine lW.mk (nG (by simp only [aj];omega) (by kernel_rfl)) ?_
 refine lQ [3] ⟨rfl,rfl, ?_⟩
 simp only [aS]
theorem Y7 (G:Glob)(a b:By):mP Tryz.prog G 223 [bs a,bs b] 0 [] (Is (bv (decide (a=b)))):=by
 refine lJ func223 rfl mixed (by kernel_rfl) ?_
 refine ABy.of ?_
 refine ABy.of ?_
 refine lQ [] ?_
 exact congrArg Value.bool (mW a b)
section
open Ky
def Uw (s:By):Bool:=xO ⟨s.toArray⟩
def Y8 (e:Ev):Int:=
 if ¬(e.kind=1∨e.kind=2∨e.kind=3)then 7
 else if Uw e.client=false∨Uw e.id=false∨(e.kind≠3∧Uw e.name=false)∨(e.kind=3∧Uw e.other=false)then 6
 else if e.seq<1∨1073741824<e.seq∨e.time<0∨1099511627776<e.time then 3
 else if e.kind=1∧(e.ver<0∨1099511627776<e.ver∨e.arm<1∨8<e.arm)then 3
 else if e.kind=2∧(e.val < -1099511627776∨1099511627776<e.val)then 3
 else if(e.kind=1∧(e.other≠ []∨e.val≠0))∨(e.kind=2∧(e.other≠ []∨e.ver≠0∨e.arm≠0))∨(e.kind=3∧(e.name≠ []∨e.ver≠0∨e.arm≠0∨e.val≠0∨e.other=e.id))then 15
 else 0
theorem ac8 (k:Int)(client:By)(seq time:Int)(id name other:By)(ver arm val:Int)(z1:client.length<=140737488355328)(z2:id.length<=140737488355328)(z3:name.length<=140737488355328)(z4:other.length<=140737488355328):mP Tryz.prog GS 191 [.agg [tv client,iv seq,iv k,iv time,tv id,tv name,tv other,iv ver,iv arm,iv val]] 0 [] (Is (.v (.int .i64 (Y8 ⟨client,seq,k,time,id,name,other,ver,arm,val⟩)))):=by
 have k1:=H8 ⟨client.toArray⟩ (by show client.length<=_;omega)
 have k2:=H8 ⟨id.toArray⟩ (by show id.length<=_;omega)
 have k3:=H8 ⟨name.toArray⟩ (by show name.length<=_;omega)
 have k4:=H8 ⟨other.toArray⟩ (by show other.length<=_;omega)
 unfold Y8 Uw
 generalize xO ⟨client.toArray⟩=b1 at *
 generalize xO ⟨id.toArray⟩=b2 at *
 generalize xO ⟨name.toArray⟩=b3 at *
 generalize xO ⟨other.toArray⟩=b4 at *
 clear z1 z2 z3 z4
 by_cases c1:k=1
 ·subst c1
  simp only [true_or,not_true,if_false,true_and,show ¬(1:Int)=2 by decide,show ¬(1:Int)=3 by decide,false_and,or_false,ne_eq,not_false_eq_true]
  refine lJ func191 rfl mixed (by kernel_rfl) ?_
  (refine lX LV [] (by kernel_rfl) ?_;conv=>whnf)
  repeat' (first
   | ((refine lM [] (by kernel_rfl) (k1) rfl ?_ ?_;(focus (trivial;done));(conv=>whnf)))
   | ((refine lM [] (by kernel_rfl) (k2) rfl ?_ ?_;(focus (trivial;done));(conv=>whnf)))
   | ((refine lM [] (by kernel_rfl) (k3) rfl ?_ ?_;(focus (trivial;done));(conv=>whnf)))
   | ((refine lM [] (by kernel_rfl) (k4) rfl ?_ ?_;(focus (trivial;done));(conv=>whnf)))
   | ((refine lM [] (by kernel_rfl) (k1 seq 1 1073741824) rfl ?_ ?_;(focus (trivial;done));(conv=>whnf)))
   | ((refine lM [] (by kernel_rfl) (k1 time 0 1099511627776) rfl ?_ ?_;(focus (trivial;done));(conv=>whnf)))
   | ((refine lM [] (by kernel_rfl) (k1 ver 0 1099511627776) rfl ?_ ?_;(focus (trivial;done));(conv=>whnf)))
   | ((refine lM [] (by kernel_rfl) (k1 arm 1 8) rfl ?_ ?_;(focus (trivial;done));(conv=>whnf)))
   | ((refine lM [] (by kernel_rfl) (k1 val (-1099511627776) 1099511627776) rfl ?_ ?_;(focus (trivial;done));(conv=>whnf)))
   | (apply lH<;>intro h<;>(first|(exfalso;simp only [*,bY,bT,aX,dB,reduceCtorEq]at *;done)|(conv=>whnf))))
  all_goals (refine lQ [] (nN ?_))
  all_goals (simp only [cond_true,cond_false,mW,dD,dA,decide_eq_true_eq,decide_eq_false_iff_not,beq_iff_eq,bne_iff_ne,beq_eq_false_iff_ne,bne_eq_false_iff_eq,ne_eq,bV,bY,bT,eX,gt_iff_lt,fM]at *)
  all_goals (clear k1 k2 k3 k4)
  all_goals first
   | (simp_all;done)
   | (simp_all;omega)
   | ((repeat' split)<;>first|rfl|(exfalso;simp_all;done)|(exfalso;simp_all;omega))
 by_cases c2:k=2
 ·subst c2
  simp only [true_or,or_true,not_true,if_false,true_and,show ¬(2:Int)=1 by decide,show ¬(2:Int)=3 by decide,false_and,or_false,false_or,ne_eq,not_false_eq_true]
  refine lJ func191 rfl mixed (by kernel_rfl) ?_
  (refine lX LV [] (by kernel_rfl) ?_;conv=>whnf)
  repeat' (first
   | ((refine lM [] (by kernel_rfl) (k1) rfl ?_ ?_;(focus (trivial;done));(conv=>whnf)))
   | ((refine lM [] (by kernel_rfl) (k2) rfl ?_ ?_;(focus (trivial;done));(conv=>whnf)))
   | ((refine lM [] (by kernel_rfl) (k3) rfl ?_ ?_;(focus (trivial;done));(conv=>whnf)))
   | ((refine lM [] (by kernel_rfl) (k4) rfl ?_ ?_;(focus (trivial;done));(conv=>whnf)))
   | ((refine lM [] (by kernel_rfl) (k1 seq 1 1073741824) rfl ?_ ?_;(focus (trivial;done));(conv=>whnf)))
   | ((refine lM [] (by kernel_rfl) (k1 time 0 1099511627776) rfl ?_ ?_;(focus (trivial;done));(conv=>whnf)))
   | ((refine lM [] (by kernel_rfl) (k1 ver 0 1099511627776) rfl ?_ ?_;(focus (trivial;done));(conv=>whnf)))
   | ((refine lM [] (by kernel_rfl) (k1 arm 1 8) rfl ?_ ?_;(focus (trivial;done));(conv=>whnf)))
   | ((refine lM [] (by kernel_rfl) (k1 val (-1099511627776) 1099511627776) rfl ?_ ?_;(focus (trivial;done));(conv=>whnf)))
   | (apply lH<;>intro h<;>(first|(exfalso;simp only [*,bY,bT,aX,dB,reduceCtorEq]at *;done)|(conv=>whnf))))
  all_goals (refine lQ [] (nN ?_))
  all_goals (simp only [cond_true,cond_false,mW,dD,dA,decide_eq_true_eq,decide_eq_false_iff_not,beq_iff_eq,bne_iff_ne,beq_eq_false_iff_ne,bne_eq_false_iff_eq,ne_eq,bV,bY,bT,eX,gt_iff_lt,fM]at *)
  all_goals (clear k1 k2 k3 k4)
  all_goals first
   | (simp_all;done)
   | (simp_all;omega)
   | ((repeat' split)<;>first|rfl|(exfalso;simp_all;done)|(exfalso;simp_all;omega))
 by_cases c3:k=3
 ·subst c3
  simp only [or_true,not_true,if_false,true_and,show ¬(3:Int)=1 by decide,show ¬(3:Int)=2 by decide,false_and,false_or,ne_eq]
  refine lJ func191 rfl mixed (by kernel_rfl) ?_
  (refine lX LV [] (by kernel_rfl) ?_;conv=>whnf)
  repeat' (first
   | ((refine lM [] (by kernel_rfl) (k1) rfl ?_ ?_;(focus (trivial;done));(conv=>whnf)))
   | ((refine lM [] (by kernel_rfl) (k2) rfl ?_ ?_;(focus (trivial;done));(conv=>whnf)))
   | ((refine lM [] (by kernel_rfl) (k3) rfl ?_ ?_;(focus (trivial;done));(conv=>whnf)))
   | ((refine lM [] (by kernel_rfl) (k4) rfl ?_ ?_;(focus (trivial;done));(conv=>whnf)))
   | ((refine lM [] (by kernel_rfl) (k1 seq 1 1073741824) rfl ?_ ?_;(focus (trivial;done));(conv=>whnf)))
   | ((refine lM [] (by kernel_rfl) (k1 time 0 1099511627776) rfl ?_ ?_;(focus (trivial;done));(conv=>whnf)))
   | ((refine lM [] (by kernel_rfl) (k1 ver 0 1099511627776) rfl ?_ ?_;(focus (trivial;done));(conv=>whnf)))
   | ((refine lM [] (by kernel_rfl) (k1 arm 1 8) rfl ?_ ?_;(focus (trivial;done));(conv=>whnf)))
   | ((refine lM [] (by kernel_rfl) (k1 val (-1099511627776) 1099511627776) rfl ?_ ?_;(focus (trivial;done));(conv=>whnf)))
   | (apply lH<;>intro h<;>(first|(exfalso;simp only [*,bY,bT,aX,dB,reduceCtorEq]at *;done)|(conv=>whnf))))
  all_goals (refine lQ [] (nN ?_))
  all_goals (simp only [cond_true,cond_false,mW,dD,dA,decide_eq_true_eq,decide_eq_false_iff_not,beq_iff_eq,bne_iff_ne,beq_eq_false_iff_ne,bne_eq_false_iff_eq,ne_eq,bV,bY,bT,eX,gt_iff_lt,fM]at *)
  all_goals (clear k1 k2 k3 k4)
  all_goals first
   | (simp_all;done)
   | (simp_all;omega)
   | ((repeat' split)<;>first|rfl|(exfalso;simp_all;done)|(exfalso;simp_all;omega))
 have q1:(k==1)=false:=by simpa using c1
 have q2:(k==2)=false:=by simpa using c2
 have q3:(k==3)=false:=by simpa using c3
 refine lJ func191 rfl mixed (by kernel_rfl) ?_
 (refine lX LV [] (by kernel_rfl) ?_;conv=>whnf)
 rw [q1]
 conv=>whnf
 rw [q2]
 conv=>whnf
 rw [q3]
 exact lQ [] (nN (by simp [c1,c2,c3]))
theorem ac9 (e:Ev)(he:e.ok):mP Tryz.prog GS 191 [Uo e] 0 [] (Is (.v (.int .i64 (Y8 e)))):=
 ac8 e.kind e.client e.seq e.time e.id e.name e.other e.ver e.arm e.val he.client he.id he.name he.other
end
def loT (a:Int)(l:List Ev):Int:=l.foldl (fun a e=>min a e.time) a
def hiT (a:Int)(l:List Ev):Int:=l.foldl (fun a e=>max a e.time) a
def ajc (l:List Ev):Int×Int:=match l with | []=>(0,0)|e::_=>(loT e.time l,hiT e.time l)
theorem aeo {n:Nat}(h:n<=100000):n*112<=140737488355328∧n<=maxLen:=⟨by omega,by unfold maxLen;omega⟩
section
attribute [local irreducible] best ints en bd Jj dsT
def bdy (l:List Ev):By:=Jj (l.map (·.client))++ints (l.map (·.seq))++ints (l.map (·.kind))++ints (l.map (·.time))++Jj (l.map (·.id))++Jj (l.map (·.name))++Jj (l.map (·.other))++ints (l.map (·.ver))++ints (l.map (·.arm))++ints (l.map (·.val))
def Y9 (l:List Ev):By:=num (ajc l).1++num (ajc l).2++num ((bdy l).length:Int)++bdy l
structure LOK (l:List Ev):Prop where
 ne:l≠ []
 len:l.length<=16
 ok : ∀e∈l,e.ok
 s1 : ∀e∈l,e.client.length<=200
 s2 : ∀e∈l,e.id.length<=200
 s3 : ∀e∈l,e.name.length<=200
 s4 : ∀e∈l,e.other.length<=200
 tm : ∀e∈l, -4611686018427387904<=e.time∧e.time<=4611686018427387904
theorem all_map {l:List Ev}{f:Ev->Int}(h : ∀e∈l,I64 (f e)):Bd (l.map f):=fun s hs=>by
 obtain⟨e,he,rfl⟩:=dW.1 hs
 exact h e he
end
end Go.Proofs.YtnandbihiceihaaGreatDoor.Cl
namespace Go.Proofs.YtnandbihiceihaaGreatDoor.Ax
open RowKit Vc Go.Proofs.Tryz
def frN (n:Nat)(K:Nat->Prop):Prop:=match n with|0=>K 0|m+1=>K (m+1)
def frI (n:Int)(K:Int->Prop):Prop:=match n with | .ofNat m=>frN m fun m=>K (.ofNat m) | .negSucc m=>frN m fun m=>K (.negSucc m)
theorem lN.fr {k:IntKind}{x:Int}{K:Int->Prop}(h:frI (k.wrap x) K):lN k x K:=by
 refine⟨?_⟩
 generalize k.wrap x=n at h
 cases n<;>(rename_i m;cases m<;>exact h)
def ajd (a:AV):List Nat:=match a with | .own l=> [l] | .sub l _ _=> [l] | .full l _=> [l]|_=> []
def aje (a:AV):List Nat:=match a with | .agg cs=>cs.flatMap ajd|a=>ajd a
theorem mV {P:Program}{G:Glob}{n:Nat}{H:lI}{f:FuncId}{args args':List AV}{R:AV->Nat->lI->Prop}{K:AV->Nat->lI->Prop}(hc:callable P f=true)(h:mP P G f args' 0 [] R)(ha:Ot H [] (args.flatMap aje) 0 args' args)
  (k : ∀a m H',R a m H'->frc (n+m) (shH n H'++BD (args.flatMap aje) H) fun n' rW=>K (XQ n a) n' rW):xG P G f args n H K:=oD _ hc h ha k
end Go.Proofs.YtnandbihiceihaaGreatDoor.Ax
namespace Go.Proofs.YtnandbihiceihaaGreatDoor.Cl
open RowKit Vc Ax Go.Proofs.Tryz
attribute [local irreducible] loadVar storeVar Instr.indexAt Instr.index Instr.sliceAt Instr.makeSlice Instr.lookup Instr.mapUpdate Instr.range Instr.next Instr.entry Instr.makeMap Builtin.append_ Builtin.copy_ Builtin.len_ Builtin.min_ Builtin.max_ Builtin.cap_ Builtin.delete_ Builtin.clear_ convert binOp eqGuard Op.unary Calls
section
attribute [local irreducible] BA uN
theorem Ig (G:Glob):mP Tryz.prog G 292 [li [0]] 0 [] (Is (bs [2,2,0])):=by
 refine lJ func292 rfl mixed (by kernel_rfl) ?_
 conv=>whnf
 repeat' (first|exact lQ (List.range 100) (by trivial)|(refine lN.fr ?_;conv=>whnf)|(refine lW.mk (by decide) ?_;conv=>whnf)|(refine rM 9 ?_;conv=>whnf)|(refine nJ (by kernel_rfl) (lJ (by rfl) rfl mixed (by kernel_rfl) ?_);conv=>whnf)|(refine pO (by rfl) ?_;conv=>whnf)|(refine mJ.mk ⟨_,rfl,by decide, ?_⟩;conv=>whnf)|(refine uo.mk ⟨_,_,rfl,rfl,by decide,by decide, ?_⟩;conv=>whnf)|(refine mQ.mk ⟨_,rfl, ?_⟩;conv=>whnf)|(refine uT.mk ⟨_,_,rfl,rfl,by decide,by decide,by decide, ?_⟩;conv=>whnf)|(refine oH.mk fun b hb=> ?_;obtain rfl:=hb (by decide);conv=>whnf)|(refine oH.mk fun b hb=> ?_;cases b<;>(conv=>whnf))|(refine yc.mk (by kernel_rfl) rfl rfl ?_;conv=>whnf)|(refine lX X7 [] (by decide +kernel) ?_;conv=>whnf)|(refine lX X8 [] (by decide +kernel) ?_;conv=>whnf))
theorem agH (G:Glob):mP Tryz.prog G 292 [li [1]] 0 [] (Is (bs [2,2,2])):=by
 refine lJ func292 rfl mixed (by kernel_rfl) ?_
 conv=>whnf
 repeat' (first|exact lQ (List.range 100) (by trivial)|(refine lN.fr ?_;conv=>whnf)|(refine lW.mk (by decide) ?_;conv=>whnf)|(refine rM 9 ?_;conv=>whnf)|(refine nJ (by kernel_rfl) (lJ (by rfl) rfl mixed (by kernel_rfl) ?_);conv=>whnf)|(refine pO (by rfl) ?_;conv=>whnf)|(refine mJ.mk ⟨_,rfl,by decide, ?_⟩;conv=>whnf)|(refine uo.mk ⟨_,_,rfl,rfl,by decide,by decide, ?_⟩;conv=>whnf)|(refine mQ.mk ⟨_,rfl, ?_⟩;conv=>whnf)|(refine uT.mk ⟨_,_,rfl,rfl,by decide,by decide,by decide, ?_⟩;conv=>whnf)|(refine oH.mk fun b hb=> ?_;obtain rfl:=hb (by decide);conv=>whnf)|(refine oH.mk fun b hb=> ?_;cases b<;>(conv=>whnf))|(refine yc.mk (by kernel_rfl) rfl rfl ?_;conv=>whnf)|(refine lX X7 [] (by decide +kernel) ?_;conv=>whnf)|(refine lX X8 [] (by decide +kernel) ?_;conv=>whnf))
theorem ada (G:Glob):mP Tryz.prog G 291 [.lst 1 [[sF []]]] 0 [] (Is (bs [2,0,2,2,0])):=by
 refine lJ func291 rfl mixed (by kernel_rfl) ?_
 conv=>whnf
 repeat' (first|exact lQ (List.range 100) (by trivial)|(refine mV (by kernel_rfl) (Ig G) ?_ ?_;(focus (trivial;done));rintro _ _ _ ⟨rfl,rfl,rfl⟩;(conv=>whnf))|(rw [rD];conv=>whnf)|(rw [mW];conv=>whnf)|(refine lN.fr ?_;conv=>whnf)|(refine lW.mk (by decide) ?_;conv=>whnf)|(refine rM 9 ?_;conv=>whnf)|(refine nJ (by kernel_rfl) (lJ (by rfl) rfl mixed (by kernel_rfl) ?_);conv=>whnf)|(refine pO (by rfl) ?_;conv=>whnf)|(refine mJ.mk ⟨_,rfl,by decide, ?_⟩;conv=>whnf)|(refine uo.mk ⟨_,_,rfl,rfl,by decide,by decide, ?_⟩;conv=>whnf)|(refine mQ.mk ⟨_,rfl, ?_⟩;conv=>whnf)|(refine uT.mk ⟨_,_,rfl,rfl,by decide,by decide,by decide, ?_⟩;conv=>whnf)|(refine oH.mk fun b hb=> ?_;obtain rfl:=hb (by decide);conv=>whnf)|(refine oH.mk fun b hb=> ?_;cases b<;>(conv=>whnf))|(refine yc.mk (by kernel_rfl) rfl rfl ?_;conv=>whnf))
theorem adb (G:Glob):mP Tryz.prog G 291 [.lst 1 [[sF [99,48]]]] 0 [] (Is (bs [2,4,99,48,2,2,0])):=by
 refine lJ func291 rfl mixed (by kernel_rfl) ?_
 conv=>whnf
 repeat' (first|exact lQ (List.range 100) (by trivial)|(refine mV (by kernel_rfl) (Ig G) ?_ ?_;(focus (trivial;done));rintro _ _ _ ⟨rfl,rfl,rfl⟩;(conv=>whnf))|(rw [rD];conv=>whnf)|(rw [mW];conv=>whnf)|(refine lN.fr ?_;conv=>whnf)|(refine lW.mk (by decide) ?_;conv=>whnf)|(refine rM 9 ?_;conv=>whnf)|(refine nJ (by kernel_rfl) (lJ (by rfl) rfl mixed (by kernel_rfl) ?_);conv=>whnf)|(refine pO (by rfl) ?_;conv=>whnf)|(refine mJ.mk ⟨_,rfl,by decide, ?_⟩;conv=>whnf)|(refine uo.mk ⟨_,_,rfl,rfl,by decide,by decide, ?_⟩;conv=>whnf)|(refine mQ.mk ⟨_,rfl, ?_⟩;conv=>whnf)|(refine uT.mk ⟨_,_,rfl,rfl,by decide,by decide,by decide, ?_⟩;conv=>whnf)|(refine oH.mk fun b hb=> ?_;obtain rfl:=hb (by decide);conv=>whnf)|(refine oH.mk fun b hb=> ?_;cases b<;>(conv=>whnf))|(refine yc.mk (by kernel_rfl) rfl rfl ?_;conv=>whnf))
theorem ade (G:Glob):mP Tryz.prog G 291 [.lst 1 [[sF [97,110,110]]]] 0 [] (Is (bs [2,6,97,110,110,2,2,0])):=by
 refine lJ func291 rfl mixed (by kernel_rfl) ?_
 conv=>whnf
 repeat' (first|exact lQ (List.range 100) (by trivial)|(refine mV (by kernel_rfl) (Ig G) ?_ ?_;(focus (trivial;done));rintro _ _ _ ⟨rfl,rfl,rfl⟩;(conv=>whnf))|(rw [rD];conv=>whnf)|(rw [mW];conv=>whnf)|(refine lN.fr ?_;conv=>whnf)|(refine lW.mk (by decide) ?_;conv=>whnf)|(refine rM 9 ?_;conv=>whnf)|(refine nJ (by kernel_rfl) (lJ (by rfl) rfl mixed (by kernel_rfl) ?_);conv=>whnf)|(refine pO (by rfl) ?_;conv=>whnf)|(refine mJ.mk ⟨_,rfl,by decide, ?_⟩;conv=>whnf)|(refine uo.mk ⟨_,_,rfl,rfl,by decide,by decide, ?_⟩;conv=>whnf)|(refine mQ.mk ⟨_,rfl, ?_⟩;conv=>whnf)|(refine uT.mk ⟨_,_,rfl,rfl,by decide,by decide,by decide, ?_⟩;conv=>whnf)|(refine oH.mk fun b hb=> ?_;obtain rfl:=hb (by decide);conv=>whnf)|(refine oH.mk fun b hb=> ?_;cases b<;>(conv=>whnf))|(refine yc.mk (by kernel_rfl) rfl rfl ?_;conv=>whnf))
theorem adf (G:Glob):mP Tryz.prog G 291 [.lst 1 [[sF [98,108,117,101]]]] 0 [] (Is (bs [2,8,98,108,117,101,2,2,0])):=by
 refine lJ func291 rfl mixed (by kernel_rfl) ?_
 conv=>whnf
 repeat' (first|exact lQ (List.range 100) (by trivial)|(refine mV (by kernel_rfl) (Ig G) ?_ ?_;(focus (trivial;done));rintro _ _ _ ⟨rfl,rfl,rfl⟩;(conv=>whnf))|(rw [rD];conv=>whnf)|(rw [mW];conv=>whnf)|(refine lN.fr ?_;conv=>whnf)|(refine lW.mk (by decide) ?_;conv=>whnf)|(refine rM 9 ?_;conv=>whnf)|(refine nJ (by kernel_rfl) (lJ (by rfl) rfl mixed (by kernel_rfl) ?_);conv=>whnf)|(refine pO (by rfl) ?_;conv=>whnf)|(refine mJ.mk ⟨_,rfl,by decide, ?_⟩;conv=>whnf)|(refine uo.mk ⟨_,_,rfl,rfl,by decide,by decide, ?_⟩;conv=>whnf)|(refine mQ.mk ⟨_,rfl, ?_⟩;conv=>whnf)|(refine uT.mk ⟨_,_,rfl,rfl,by decide,by decide,by decide, ?_⟩;conv=>whnf)|(refine oH.mk fun b hb=> ?_;obtain rfl:=hb (by decide);conv=>whnf)|(refine oH.mk fun b hb=> ?_;cases b<;>(conv=>whnf))|(refine yc.mk (by kernel_rfl) rfl rfl ?_;conv=>whnf))
def e0:Ev:=⟨[99,48],1,1,0,[97,110,110],[98,108,117,101],[],0,1,0⟩
theorem agI (G:Glob):mP Tryz.prog G 226 [el [e0]] 0 [] (Is (bs (Y9 [e0]))):=by
 refine lJ func226 rfl mixed (by kernel_rfl) ?_
 conv=>whnf
 repeat' (first|exact lQ (List.range 400) (by trivial)|(refine mV (by kernel_rfl) (Ig G) ?_ ?_;(focus (trivial;done));rintro _ _ _ ⟨rfl,rfl,rfl⟩;(conv=>whnf))|(refine mV (by kernel_rfl) (agH G) ?_ ?_;(focus (trivial;done));rintro _ _ _ ⟨rfl,rfl,rfl⟩;(conv=>whnf))|(refine mV (by kernel_rfl) (ada G) ?_ ?_;(focus (trivial;done));rintro _ _ _ ⟨rfl,rfl,rfl⟩;(conv=>whnf))|(refine mV (by kernel_rfl) (adb G) ?_ ?_;(focus (trivial;done));rintro _ _ _ ⟨rfl,rfl,rfl⟩;(conv=>whnf))|(refine mV (by kernel_rfl) (ade G) ?_ ?_;(focus (trivial;done));rintro _ _ _ ⟨rfl,rfl,rfl⟩;(conv=>whnf))|(refine mV (by kernel_rfl) (adf G) ?_ ?_;(focus (trivial;done));rintro _ _ _ ⟨rfl,rfl,rfl⟩;(conv=>whnf))|(rw [rD];conv=>whnf)|(rw [mW];conv=>whnf)|(refine lN.fr ?_;conv=>whnf)|(refine lW.mk (by decide) ?_;conv=>whnf)|(refine rM 9 ?_;conv=>whnf)|(refine nJ (by kernel_rfl) (lJ (by rfl) rfl mixed (by kernel_rfl) ?_);conv=>whnf)|(refine pO (by rfl) ?_;conv=>whnf)|(refine mJ.mk ⟨_,rfl,by decide, ?_⟩;conv=>whnf)|(refine uo.mk ⟨_,_,rfl,rfl,by decide,by decide, ?_⟩;conv=>whnf)|(refine mQ.mk ⟨_,rfl, ?_⟩;conv=>whnf)|(refine uT.mk ⟨_,_,rfl,rfl,by decide,by decide,by decide, ?_⟩;conv=>whnf)|(refine oH.mk fun b hb=> ?_;obtain rfl:=hb (by decide);conv=>whnf)|(refine oH.mk fun b hb=> ?_;cases b<;>(conv=>whnf))|(refine yc.mk (by kernel_rfl) rfl rfl ?_;conv=>whnf)|(refine lX afZ [] (by decide +kernel) ?_;conv=>whnf)|(refine lX af5 [] (by decide +kernel) ?_;conv=>whnf))
end
end Go.Proofs.YtnandbihiceihaaGreatDoor.Cl
namespace Go.Proofs.YtnandbihiceihaaGreatDoor.Ax
open RowKit Vc Go.Proofs.Tryz
attribute [local irreducible] loadVar storeVar Instr.indexAt Instr.index Instr.sliceAt Instr.makeSlice Instr.lookup Instr.mapUpdate Instr.range Instr.next Instr.entry Instr.makeMap Builtin.append_ Builtin.copy_ Builtin.len_ Builtin.min_ Builtin.max_ Builtin.cap_ Builtin.delete_ Builtin.clear_ convert binOp eqGuard Op.unary Calls
def chN (l:List (List FV))(i:Nat):List (List FV):=(l.drop (16*i)).take 16
def nCh (l:List (List FV)):Nat:=(l.length+15)/16
def adg (l:List (List FV)):List (List AV):=(List.range (nCh l)).map fun i=> [.lst 10 (chN l i)]
theorem Za (G:Glob)(l:List (List FV))(hl:l.length<=1000000):AIt Tryz.prog G 290 [.fp [.lst 10 l] 0, .fp [.v (.int .i64 16)] 0] (adg l):=by
 intro n σ F vs W lp J hG hF hr hst hkp hy h0
 match vs,hr with
 | [v1,v2],⟨r1,r2,_⟩=>
 cases r1 with
 | fp f1=>
 cases r2 with
 | fp f2=>
 cases f1 with
 | fp _ _ b1 o1 hb1 agJ Zb=>
 cases f2 with
 | fp _ _ b2 o2 hb2 agK Zc=>
 obtain⟨x1,hc1,_⟩:=agJ 0 jU
 obtain⟨x2,hc2,_⟩:=agK 0 jU
 have hx1:=Zb 0 _ x1 rfl hc1
 have hx2:=Zc 0 _ x2 rfl hc2
 cases hx2
 obtain⟨oa,m,c,rfl⟩ : ∃oa m c,x1 = .slice oa m c:=by cases hx1;exact⟨_,_,_,rfl⟩
 have hm:m=l.length:=by cases hx1;assumption
 subst hm
 refine EJ func290 rfl (by kernel_rfl) (aF rfl) rfl (by kernel_rfl) ?_
 refine su (X:=Nat) acg (fun i=> [(4, .int .i64 (16*i:Nat))]) (fun i w'=>i<=nCh l∧J i w') (fun i=>nCh l-i) 0 (by kernel_rfl) ⟨rfl,trivial⟩ ⟨aH _,h0⟩ ?_
 rintro i w' j ⟨hi,hJ⟩
 obtain⟨k1,k2,k3⟩:=hkp i w' hJ
 have c1:w'.cell? ⟨b1,o1+0,none⟩=some (.slice oa l.length c):=by rw [qG (k3 b1 hb1)];exact hc1
 have c2:w'.cell? ⟨b2,o2+0,none⟩=some (.int .i64 16):=by rw [qG (k3 b2 hb2)];exact hc2
 refine oZ rfl c1 ?_
 apply lH<;>intro h
 ·have hlt:16*i<l.length:=by simp at h;omega
  have hin:i<nCh l:=by unfold nCh;omega
  conv=>whnf
  have c1d:w'.drew.cell? ⟨b1,o1+0,none⟩=some (.slice oa l.length c):=c1
  have c2d:w'.drew.cell? ⟨b2,o2+0,none⟩=some (.int .i64 16):=c2
  have hlc:l.length<=c:=by cases hx1;assumption
  (refine rQ ach (by kernel_rfl) ?_;conv=>whnf)
  repeat (first
   | (refine oZ rfl c1d ?_;conv=>whnf)
   | (refine oZ rfl c2d ?_;conv=>whnf)
   | (refine nO.mk rfl ?_;conv=>whnf)
   | (refine vT (sz:=10) (lo:=16*i) rfl rfl rfl (Nat.le_of_lt hlt) ?_;conv=>whnf))
  have we:IntKind.i64.wrap (((16*i:Nat):Int)+min 16 ((l.length-16*i:Nat):Int))=((16*i+min 16 (l.length-16*i):Nat):Int):=by
   have e1:(min 16 ((l.length-16*i:Nat):Int))=((min 16 (l.length-16*i):Nat):Int):=by omega
   rw [e1, <-Int.natCast_add]
   exact IntWalk.i64_in _ (by omega)
  rw [we]
  refine oQ (zf (E:=63) (sz:=10) (i:=16*i) (j:=16*i+min 16 (l.length-16*i)) (m:=16*i+min 16 (l.length-16*i)) rfl rfl (.inr ⟨_,rfl⟩) (.inr ⟨_,rfl⟩) (.inr ⟨_,rfl⟩) (by omega) (au _) (by omega)) ?_
  have hJd:J i w'.drew:=hst i w' _ hJ (xu (Below.refl _ _))
  have hch:chN l i=(l.take (16*i+min 16 (l.length-16*i))).drop (16*i):=by
   unfold chN
   rw [lq,show 16*i+min 16 (l.length-16*i)-16*i=min 16 (l.length-16*i) by omega]
   rcases Nat.le_total 16 (l.length-16*i)with h|h
   ·rw [fC h]
   ·rw [Nat.min_eq_right h,dR (by rw [bU];exact h),dR (by rw [bU];exact au _)]
  have hfr:oV F w'.drew (.lst 10 (chN l i)) (.slice (yB oa (16*i) 10 (16*i+min 16 (l.length-16*i))) (16*i+min 16 (l.length-16*i)-16*i) (16*i+min 16 (l.length-16*i)-16*i)):=by
   rw [hch]
   exact oV.part (oV.mono (w':=w'.drew) (fun b hb=>⟨hb,k3 b hb⟩) hx1) (by omega) (by omega) (au _) (by omega)
  obtain⟨fn,tmps,assign,body,hyr,hR⟩:=hy i [.lst 10 (chN l i)] w'.drew [.slice (yB oa (16*i) 10 (16*i+min 16 (l.length-16*i))) (16*i+min 16 (l.length-16*i)-16*i) (16*i+min 16 (l.length-16*i)-16*i)] (by unfold adg;rw [aJ,ig hin];rfl) hJd ⟨.lst hfr,trivial⟩
  refine⟨⟨fn,tmps,assign,body,hyr,RoundIn.mono hR ?_⟩⟩
  rintro e W2 ⟨rfl,hJ2⟩
  refine⟨_,rfl, ?_⟩
  obtain⟨m1,m2,m3⟩:=hkp (i+1) W2 hJ2
  have c3:W2.cell? ⟨b2,o2+0,none⟩=some (.int .i64 16):=by rw [qG (m3 b2 hb2)];exact hc2
  refine oZ rfl c3 ?_
  refine qV.mk ⟨_, ?_,(i+1),rfl,⟨?_,trivial⟩,hin,hJ2⟩
  ·show nCh l -(i+1)<nCh l-i;omega
  show Value.int .i64 (IntKind.i64.wrap (((16*i:Nat):Int)+16)) = .int .i64 ((16*(i+1):Nat):Int)
  congr 1
  rw [show ((16*i:Nat):Int)+16=((16*(i+1):Nat):Int) by omega]
  exact IntWalk.i64_in _ (by omega)
 ·have hge:l.length<=16*i:=by simp at h;omega
  have hie:i=nCh l:=by unfold nCh at hi ⊢;omega
  subst hie
  refine⟨?_⟩
  have:(adg l).length=nCh l:=by unfold adg;simp
  rw [this]
  exact hJ
theorem Zd (G:Glob)(l:List (List FV)):mP Tryz.prog G 225 [.lst 10 l, .v (.int .i64 16)] 0 [] (Is (.fn (.func 290) [] [.fp [.lst 10 l] 0, .fp [.v (.int .i64 16)] 0])):=by
 refine lJ func225 rfl (by kernel_rfl) (by kernel_rfl) ?_
 exact Uf [(0,28,[.lst 10 l]),(1,3,[.v (.int .i64 16)])] ⟨rfl,rfl,rfl⟩ (fun p hp=>by
  rcases bI.1 hp with rfl|hp
  ·rfl
  ·rw [aW.1 hp];rfl)
end Go.Proofs.YtnandbihiceihaaGreatDoor.Ax
namespace Go.Proofs.YtnandbihiceihaaGreatDoor.Cl
open RowKit Vc Ax Ky Go.Proofs.Tryz
attribute [local irreducible] loadVar storeVar Instr.indexAt Instr.index Instr.sliceAt Instr.makeSlice Instr.lookup Instr.mapUpdate Instr.range Instr.next Instr.entry Instr.makeMap Builtin.append_ Builtin.copy_ Builtin.len_ Builtin.min_ Builtin.max_ Builtin.cap_ Builtin.delete_ Builtin.clear_ convert binOp eqGuard Op.unary Calls
section
attribute [local irreducible] best ints en bd Jj dsT
structure EvV (e:Ev):Prop where
 s1:e.client.length<=200
 s2:e.id.length<=200
 s3:e.name.length<=200
 s4:e.other.length<=200
 tm : -4611686018427387904<=e.time∧e.time<=4611686018427387904
theorem ajg {e:Ev}(h:Y8 e=0):EvV e:=by
 have key : ∀s:By,Uw s=true->s.length<=200:=fun s hs=>by
  have:(⟨s.toArray⟩:ByteArray).size<=32:=JL hs
  have e:(⟨s.toArray⟩:ByteArray).size=s.length:=rfl
  omega
 unfold Y8 at h
 split at h
 ·simp at h
 rename_i h1
 split at h
 ·simp at h
 rename_i h2
 split at h
 ·simp at h
 rename_i h3
 split at h
 ·simp at h
 split at h
 ·simp at h
 split at h
 ·simp at h
 rename_i h4
 have h1:e.kind=1∨e.kind=2∨e.kind=3:=gV h1
 have k1:Uw e.client=true:=by cases hk:Uw e.client<;>simp_all
 have k2:Uw e.id=true:=by cases hk:Uw e.id<;>simp_all
 refine⟨key _ k1,key _ k2, ?_, ?_,by omega⟩
 ·rcases h1 with c|c|c
  ·exact key _ (by cases hk:Uw e.name<;>simp_all)
  ·exact key _ (by cases hk:Uw e.name<;>simp_all)
  ·have:e.name = []:=gV fun hn=>h4 (.inr (.inr ⟨c, .inl hn⟩))
   rw [this];simp
 ·rcases h1 with c|c|c
  ·have:e.other = []:=gV fun hn=>h4 (.inl ⟨c, .inl hn⟩)
   rw [this];simp
  ·have:e.other = []:=gV fun hn=>h4 (.inr (.inl ⟨c, .inl hn⟩))
   rw [this];simp
  ·exact key _ (by cases hk:Uw e.other<;>simp_all)
def ch (l:List Ev)(i:Nat):List Ev:=(l.drop (16*i)).take 16
def nC (l:List Ev):Nat:=(l.length+15)/16
def ald (l:List Ev)(i:Nat):By:=num (l.length:Int)++(List.range i).flatMap fun j=>Y9 (ch l j)
def tab (l:List Ev):By:=ald l (nC l)
def Ze (l:List Ev):Int:=match l with | []=>0|e::r=>if Y8 e≠0 then Y8 e else Ze r
def tbE (l:List Ev):Int:=if 512<l.length then 5 else Ze l
theorem Zf {l:List Ev}(h:Ze l=0) : ∀e∈l,Y8 e=0:=by
 induction l with
 | nil=>intro e he;cases he
 | cons x r ih=>
  unfold Ze at h
  by_cases hc:Y8 x=0
  ·rw [if_neg (by simp [hc])]at h
   intro e he
   rcases bI.1 he with rfl|he
   ·exact hc
   ·exact ih h e he
  ·rw [if_pos hc]at h;exact absurd h hc
theorem agL {l:List Ev}(hok : ∀e∈l,e.ok)(hv : ∀e∈l,Y8 e=0){i:Nat}(hi:i<nC l):LOK (ch l i):=by
 have sub : ∀e∈ch l i,e∈l:=fun e he=>dM (bQ he)
 have hV : ∀e∈ch l i,EvV e:=fun e he=>ajg (hv e (sub e he))
 refine⟨fun h0=> ?_,by unfold ch;rw [aN];omega,fun e he=>hok e (sub e he),fun e he=>(hV e he).s1,fun e he=>(hV e he).s2,fun e he=>(hV e he).s3,fun e he=>(hV e he).s4,fun e he=>(hV e he).tm⟩
 have:=congrArg List.length h0
 unfold ch at this
 rw [aN,bU]at this
 unfold nC at hi
 simp at this
 omega
end
section
attribute [local irreducible] best ints en bd Jj dsT
def z0:Ev:=⟨[],0,0,0,[],[],[],0,0,0⟩
def mg (s:Nat)(x:Ev):Ev:=
 ⟨if 0<s then x.client else [],if 1<s then x.seq else 0,if 2<s then x.kind else 0,if 3<s then x.time else 0,if 4<s then x.id else [],if 5<s then x.name else [],if 6<s then x.other else [],if 7<s then x.ver else 0,if 8<s then x.arm else 0,if 9<s then x.val else 0⟩
def cols (c:List Ev):List By:= [Jj (c.map (·.client)),ints (c.map (·.seq)),ints (c.map (·.kind)),ints (c.map (·.time)),Jj (c.map (·.id)),Jj (c.map (·.name)),Jj (c.map (·.other)),ints (c.map (·.ver)),ints (c.map (·.arm)),ints (c.map (·.val))]
def rs (s:Nat)(c:List Ev):By:=((cols c).drop s).flatten
def GC2 (b:By)(n:Nat)(Q:List Ev->By->Prop):Prop:= ∀c r,LOK c->c.length=n->b=Y9 c++r->Q c r
structure RCs (b:By)(n:Nat)(l:List Ev)(k:Nat)(ok:Bool):Prop where
 good:ok=true->l.length=n∧(∀e∈l,e.ok)∧k<=b.length
 bad:ok=false->l = []∧k=0
 full:GC2 b n fun c _=>ok=true∧l=c∧k=(Y9 c).length
theorem RCs.no {b:By}{n:Nat}(h:GC2 b n fun _ _=>False):RCs b n [] 0 false:=⟨(fun h=>by cases h),fun _=>⟨rfl,rfl⟩,fun c r h1 h2 h3=>(h c r h1 h2 h3).elim⟩
structure KR (b:By)(n:Nat)(s:Nat)(l:List Ev)(body:By):Prop where
 len:l.length=n
 ok : ∀e∈l,e.ok
 sz:body.length<=100000
 full:GC2 b n fun c _=>l=c.map (mg s)∧body=rs s c
theorem ajj {α:Type}{g:Ev->α->Ev}{l:List Ev}{s:List α}(hl : ∀e∈l,e.ok)(hg : ∀e∈l, ∀v∈s,(g e v).ok) : ∀e∈List.zipWith g l s,e.ok:=by
 intro e he
 obtain⟨i,hi,rfl⟩:=jr he
 rw [List.getElem_zipWith]
 simp at hi
 exact hg _ (aV _) _ (aV _)
theorem zip_map {α:Type}(g:Ev->α->Ev)(c:List Ev)(a:Ev->Ev)(f:Ev->α):List.zipWith g (c.map a) (c.map f)=c.map fun x=>g (a x) (f x):=by
 induction c with
 | nil=>rfl
 | cons x r ih=>simp [ih]
theorem adh (s:Nat)(c:List Ev)(x:By)(h:(cols c)[s]? = some x):rs s c=x++rs (s+1) c:=by
 unfold rs
 obtain⟨hs,rfl⟩:=aB.1 h
 rw [dH hs];rfl
theorem KR.num {b:By}{n s:Nat}{l:List Ev}{body:By}(h:KR b n s l body)(g:Ev->Int->Ev)(f:Ev->Int)(hf : ∀c,(cols c)[s]? = some (ints (c.map f)))(hg : ∀x:Ev,g (mg s x) (f x)=mg (s+1) x)
  (hok : ∀e v,e.ok->I64 v->(g e v).ok) (hs : ∀c,LOK c->∀e∈c,I64 (f e)) {t:Li} {k:Nat} {e:Int} (hR:RIs body t k e) :
  (e=0->t.length=n->KR b n (s+1) (List.zipWith g l t) (body.drop k)∧k<=body.length)∧(GC2 b n fun _ _=>e=0∧t.length=n):=by
 obtain⟨r1,r2,r3,r4⟩:=hR
 have key:GC2 b n fun c _=>e=0∧t=c.map f∧body.drop k=rs (s+1) c:=fun c r hc hn hb=>by
  obtain⟨_,hbody⟩:=h.full c r hc hn hb
  have hb2:body=ints (c.map f)++rs (s+1) c:=by rw [hbody,adh s c _ (hf c)]
  have hcl:=hc.len
  have:=r4 (c.map f) (rs (s+1) c) (all_map (hs c hc)) (by rw [aj];omega) hb2
  refine⟨this.1,this.2, ?_⟩
  rcases r3 with ⟨_,hk,_⟩|⟨h1,_⟩
  ·rw [hk,this.2,hb2,jC rfl]
  ·have:=this.1;omega
 refine⟨fun he ht=> ?_,fun c r hc hn hb=> ?_⟩
 ·have hk:k<=body.length:=by
   rcases r3 with ⟨_,hk,hp⟩|⟨h1,_⟩
   ·rw [hk]
    have:=congrArg List.length hp
    rw [aN]at this
    omega
   ·omega
  refine⟨⟨?_,ajj h.ok fun x hx v hv=>hok x v (h.ok x hx) (r1 v hv),by rw [bU];have:=h.sz;omega,fun c r hc hn hb=> ?_⟩,hk⟩
  ·rw [List.length_zipWith,h.len,ht];omega
  ·obtain⟨h1,_⟩:=h.full c r hc hn hb
   obtain⟨_,k2,k3⟩:=key c r hc hn hb
   refine⟨?_,k3⟩
   rw [h1,k2,zip_map]
   exact jV fun x _=>hg x
 ·obtain⟨k1,k2,_⟩:=key c r hc hn hb
  exact⟨k1,by rw [k2,aj,hn]⟩
end
section
attribute [local irreducible] best ints en bd Jj dsT
structure TR where
 l:List Ev
 body:By
 i:Nat
end
section
attribute [local irreducible] best ints en bd Jj dsT
def GT3 (b:By)(Q:List Ev->Prop):Prop:= ∀l0:List Ev,(∀e∈l0,e.ok)->tbE l0=0->b=tab l0->Q l0
theorem ajk {l:List Ev}(h:tbE l=0):l.length<=512∧Ze l=0:=by
 unfold tbE at h
 split at h
 ·omega
 ·exact⟨by omega,h⟩
def Zg (b:By)(l:List Ev)(e:Int):Prop:=(∀x∈l,x.ok)∧l.length<=512∧((e=0∧tbE l=0∧tab l=b)∨(e=1∧l = []))∧GT3 b fun l0=>e=0∧l=l0
theorem Zg.no {b:By}(h:GT3 b fun _=>False):Zg b [] 1:=⟨fun _ h=>(by cases h),aH _, .inr ⟨rfl,rfl⟩,fun l0 h1 h2 h3=>(h l0 h1 h2 h3).elim⟩
theorem Zg.two {b:By}{l l':List Ev}{e e':Int}(h:Zg b l e)(h':Zg b l' e'):l=l'∧e=e':=by
 obtain⟨a1,a2,a3,a4⟩:=h
 obtain⟨b1,b2,b3,b4⟩:=h'
 rcases a3 with ⟨rfl,p1,p2⟩|⟨rfl,rfl⟩
 ·have:=b4 l a1 p1 p2.symm
  exact⟨this.2.symm,this.1.symm⟩
 ·rcases b3 with ⟨rfl,p1,p2⟩|⟨rfl,rfl⟩
  ·have:=a4 l' b1 p1 p2.symm
   omega
  ·exact⟨rfl,rfl⟩
structure KT (b:By)(n:Nat)(l:List Ev)(at_:Nat):Prop where
 len:l.length<=n
 ok : ∀e∈l,e.ok
 atl:at_<=b.length
 full:GT3 b fun l0=>n=l0.length∧∃i,i<=nC l0∧l=l0.take (16*i)∧b.drop at_=((List.range (nC l0)).drop i).flatMap fun j=>Y9 (ch l0 j)
theorem KT.step {b:By}{n:Nat}{l:List Ev}{at_:Nat}(h:KT b n l at_)(hlt:l.length<n){c:List Ev}{k:Nat}{ok:Bool}(hR:RCs (b.drop at_) (min 16 (n-l.length)) c k ok) :
  (ok=true->KT b n (l++c) (at_+k)∧0<c.length)∧GT3 b fun _=>ok=true:=by
 have key:GT3 b fun l0=>ok=true∧∃i,i+1<=nC l0∧l++c=l0.take (16*(i+1))∧b.drop (at_+k)=((List.range (nC l0)).drop (i+1)).flatMap fun j=>Y9 (ch l0 j):=fun l0 h1 h2 h3=>by
  obtain⟨q1,i,q2,q3,q4⟩:=h.full l0 h1 h2 h3
  have hl:l.length=min (16*i) l0.length:=by rw [q3,aN]
  have hi:16*i<l0.length:=by omega
  have hic:i<nC l0:=by unfold nC;omega
  have alf:=agL h1 (Zf (ajk h2).2) hic
  have hcl:(ch l0 i).length=min 16 (n-l.length):=by unfold ch;rw [aN,bU];omega
  have hd:(List.range (nC l0)).drop i=i::(List.range (nC l0)).drop (i+1):=by
   rw [dH (by rw [ku];exact hic),jE]
  rw [hd,jf]at q4
  obtain⟨f1,f2,f3⟩:=hR.full _ _ alf hcl q4
  refine⟨f1,i,hic, ?_, ?_⟩
  ·rw [f2,q3,show 16*(i+1)=16*i+16 by omega,List.take_add];rfl
  ·rw [<-List.drop_drop,q4,f3,jC rfl]
 refine⟨fun hk=> ?_,fun l0 h1 h2 h3=>(key l0 h1 h2 h3).1⟩
 obtain⟨g1,g2,g3⟩:=hR.good hk
 have ha:=h.atl
 rw [bU]at g3
 refine⟨⟨by rw [ay];omega,fun e he=> ?_,by omega,fun l0 h1 h2 h3=>⟨(h.full l0 h1 h2 h3).1, ?_⟩⟩,by omega⟩
 ·rcases bC.1 he with he|he
  ·exact h.ok e he
  ·exact g2 e he
 ·obtain⟨_,i,r1,r2,r3⟩:=key l0 h1 h2 h3
  exact⟨i+1,r1,r2,r3⟩
theorem KT.fin {b:By}{n:Nat}{l:List Ev}{at_:Nat}(h:KT b n l at_)(he:l.length=n):GT3 b fun l0=>l=l0:=fun l0 h1 h2 h3=>by
 obtain⟨q1,i,q2,q3,_⟩:=h.full l0 h1 h2 h3
 have hl:l.length=min (16*i) l0.length:=by rw [q3,aN]
 rw [q3,dR (by omega)]
structure TS where
 l:List Ev
 a:Nat
end
structure Dk where
 now:List By
 safe:List By
 fuse:Int
 ops:Int
 dead:Bool
def Dk.zero:Dk:=⟨[],[],0,0,false⟩
def Ux (l:List By):Prop:= ∀s∈l,s.length=64
structure Dk.ok (d:Dk):Prop where
 ev:d.now.length%2=0
 lo:8<=d.now.length
 hi:d.now.length<=256
 sf:d.safe.length=d.now.length
 fs : -1<=d.fuse∧d.fuse<=9223372036854775807
 op:0<=d.ops∧d.ops<=4611686018427387904
 n64:Ux d.now
 f64:Ux d.safe
def Dk.dying (d:Dk):Dk:= {d with dead:=true}
def Dk.tick (d:Dk):Dk:= {d with fuse:=if 0<d.fuse then d.fuse-1 else d.fuse,ops:=min (d.ops+1) 4611686018427387904}
def Dk.put (d:Dk)(n:Nat)(b:By):Dk:= {d.tick with now:=d.now.set n b}
def Dk.flush (d:Dk):Dk:= {d.tick with safe:=d.now}
theorem adi {l:List By}{n:Nat}{b:By}(h:Ux l)(hb:b.length=64):Ux (l.set n b):=fun s hs=>by
 rcases fZ hs with h1|h1
 ·exact h s h1
 ·rw [h1];exact hb
theorem Dk.ok.tick {d:Dk}(h:d.ok):d.tick.ok:=by
 obtain⟨h1,h2,h3,h4,h5,h6,h7,h8⟩:=h
 refine⟨h1,h2,h3,h4, ?_, ?_,h7,h8⟩
 ·show -1<=(if 0<d.fuse then d.fuse-1 else d.fuse)∧(if 0<d.fuse then d.fuse-1 else d.fuse)<=9223372036854775807
  omega
 ·show 0<=min (d.ops+1) 4611686018427387904∧min (d.ops+1) 4611686018427387904<=4611686018427387904
  omega
theorem Dk.ok.dying {d:Dk}(h:d.ok):d.dying.ok:=⟨h.ev,h.lo,h.hi,h.sf,h.fs,h.op,h.n64,h.f64⟩
theorem Dk.ok.put {d:Dk}(h:d.ok){n:Nat}{b:By}(hb:b.length=64):(d.put n b).ok:=by
 obtain⟨h1,h2,h3,h4,h5,h6,h7,h8⟩:=h.tick
 refine⟨?_, ?_, ?_, ?_,h5,h6,adi h.n64 hb,h8⟩
 ·show (d.now.set n b).length%2=0;rw [bJ];exact h1
 ·show 8<=(d.now.set n b).length;rw [bJ];exact h2
 ·show (d.now.set n b).length<=256;rw [bJ];exact h3
 ·show d.safe.length=(d.now.set n b).length;rw [bJ];exact h4
theorem Dk.ok.flush {d:Dk}(h:d.ok):d.flush.ok:=by
 obtain⟨h1,h2,h3,h4,h5,h6,h7,h8⟩:=h.tick
 exact⟨h1,h2,h3,rfl,h5,h6,h7,h7⟩
def Dw (d:Dk)(at_:Nat)(l:List By):Dk×Int:=
 match l with
 | []=>if d.dead then(d,40)else if d.fuse=0 then(d.dying,40)else(d.flush,0)
 | s::r=>if d.dead then(d,40)else if d.fuse=0 then(d.dying,40)else Dw (d.put at_ s) (at_+1) r
theorem agM : ∀ {l:List By} {d:Dk} {at_:Nat},d.ok->Ux l->(Dw d at_ l).1.ok∧(Dw d at_ l).1.now.length=d.now.length∧((Dw d at_ l).2=0∨((Dw d at_ l).2=40∧(Dw d at_ l).1.dead=true)):=by
 intro l
 induction l with
 | nil=>
  intro d at_ h _
  unfold Dw
  cases hd:d.dead with
  | true=>exact⟨h,rfl, .inr ⟨rfl,hd⟩⟩
  | false=>
   rw [if_neg (by decide)]
   split
   ·exact⟨h.dying,rfl, .inr ⟨rfl,rfl⟩⟩
   ·exact⟨h.flush,rfl, .inl rfl⟩
 | cons s r ih=>
  intro d at_ h hl
  unfold Dw
  cases hd:d.dead with
  | true=>exact⟨h,rfl, .inr ⟨rfl,hd⟩⟩
  | false=>
   rw [if_neg (by decide)]
   split
   ·exact⟨h.dying,rfl, .inr ⟨rfl,rfl⟩⟩
   ·have:=ih (d:=d.put at_ s) (at_:=at_+1) (h.put (hl s (dw ..))) fun x hx=>hl x (dU _ hx)
    refine⟨this.1,this.2.1.trans ?_,this.2.2⟩
    show (d.now.set at_ s).length=d.now.length
    simp
structure So where
 d:Dk
 gen:Int
 half:Int
 next:Int
 frame:Int
 ev:List Ev
def So.zero:So:=⟨Dk.zero,0,0,0,0,[]⟩
structure So.ok (s:So):Prop where
 d:s.d.ok
 gen:1<=s.gen∧s.gen<=4294967295
 half:s.half=0∨s.half=1
 next:1<=s.next∧s.next<=(s.d.now.length/2:Nat)
 frame:1<=s.frame∧s.frame<=65536
 ev:(∀e∈s.ev,e.ok)∧tbE s.ev=0
section
attribute [local irreducible] num hsh
theorem ajl {g f:Int}{b:By}(h:g<1∨4294967295<g∨f<0∨65535<f):Ji g f b=3∧I7 g f b = []:=by
 have e:Ji g f b=3:=by unfold Ji;rw [if_pos h]
 exact⟨e,by unfold I7;rw [if_neg (by rw [e];decide)]⟩
theorem ajm {g f:Int}{b:By}(h : ¬(g<1∨4294967295<g∨f<0∨65535<f))(h2:255<nS b):Ji g f b=4∧I7 g f b = []:=by
 have e:Ji g f b=4:=by unfold Ji;rw [if_neg h,if_pos h2]
 exact⟨e,by unfold I7;rw [if_neg (by rw [e];decide)]⟩
theorem agN {g f:Int}{b:By}(h : ¬(g<1∨4294967295<g∨f<0∨65535<f))(h2 : ¬255<nS b):Ji g f b=0∧I7 g f b=secs g.toNat f.toNat b:=by
 have e:Ji g f b=0:=by unfold Ji;rw [if_neg h,if_neg h2]
 exact⟨e,by unfold I7;rw [if_pos e]⟩
theorem lN.divN {K:Int->Prop}(v k:Nat)(hv:v<1000000000)(c:K ((v/k:Nat):Int)):lN .i64 ((v:Int).tdiv (k:Int)) K:=by
 have h:=gQ v k
 refine lN.to (y:=((v/k:Nat):Int)) ?_ c
 rw [show (v:Int).tdiv (k:Int)=((v/k:Nat):Int)from rfl]
 generalize v/k=q at *
 exact IntWalk.i64_in _ (by omega)
theorem ajn (l:List By)(b:By):(l++ [b]).map xP=l.map xP++ [[.lst 1 (b.map wJ)]]:=by rw [aS];rfl
theorem adk (b:By)(i:Nat):List.drop (i*48) (List.take ((i+1)*48) ((pad b).map wJ))=(prt b i).map wJ:=by
 unfold prt
 rw [lq,show (i+1)*48-i*48=48 by omega,iw,jw]
theorem Ih (G:Glob)(gen frame:Int)(b:By)(hb:b.length<=3000000):mP Tryz.prog G 146 [iv gen,iv frame,bs b] 0 [] (Is (.og [ss (I7 gen frame b),iv (Ji gen frame b)])):=by
 have hP:=mP.up (ala [] (b.length:Int) (CU (by omega)) (aH _)) G
 rw [dI]at hP
 have hP:mP Tryz.prog G 124 [bs [],iv ((b.map wJ).length:Nat)] 0 [] (vZ 5 1 ((num (b.length:Int)).map wJ)):=by rw [aj];exact hP
 have hnl:=Mc (b.length:Int)
 have hdl:(dat b).length=(num (b.length:Int)).length+b.length:=by unfold dat;rw [ay]
 have hdm:(num (b.length:Int)).map wJ++b.map wJ=(dat b).map wJ:=by unfold dat;rw [aS]
 refine lJ func146 rfl mixed (by kernel_rfl) ?_
 by_cases hc:gen<1∨4294967295<gen∨frame<0∨65535<frame
 ·obtain⟨e1,e2⟩:=ajl (b:=b) hc
  rw [e1,e2]
  conv=>whnf
  repeat' (apply lH<;>intro h<;>(conv=>whnf))
  all_goals first
   | exact lQ [] (by trivial)
   | (exfalso;simp at *;omega)
 apply lH<;>intro h
 ·exfalso;simp at h;omega
 apply lH<;>intro h
 ·exfalso;simp at h;omega
 apply lH<;>intro h
 ·exfalso;simp at h;omega
 apply lH<;>intro h
 ·exfalso;simp at h;omega
 refine qc [] (by kernel_rfl) (hP) (by trivial) ?_
 refine lW.mk (nG (by simp only [aj];omega) (by kernel_rfl)) ?_
 conv=>whnf
 rw [hdm]
 refine lN.i64 (by rw [aj];omega) ?_
 refine lN.to (y:=(((dat b).length+47:Nat):Int)) (by rw [aj,IntWalk.i64_in _ (by omega)];omega) ?_
 refine lW.mk (by decide) ?_
 refine lN.divN _ 48 (by omega) ?_
 conv=>whnf
 have hpl:=Me b
 have hpos:=YJ b
 have hn1:nS b*48<(dat b).length+48:=by unfold nS;omega
 have hn2:(dat b).length<=nS b*48:=by unfold nS;omega
 have alg:(dat b).map wJ++(wK (nS b*48 -(dat b).length)).data.toList.map wJ=(pad b).map wJ:=by
  unfold pad;rw [aS];rfl
 rw [show ((dat b).length+47)/48=nS b from rfl]
 apply lH<;>intro h
 ·obtain⟨e1,e2⟩:=ajm hc (by simp at h;omega:255<nS b)
  rw [e1,e2]
  exact lQ [] (by trivial)
 have hns : ¬255<nS b:=by simp at h;omega
 obtain⟨e1,e2⟩:=agN hc hns
 rw [e1,e2]
 refine lN.to (y:=((nS b*48:Nat):Int)) (by rw [IntWalk.i64_in _ (by omega)];omega) ?_
 refine lN.to (y:=((nS b*48 -(dat b).length:Nat):Int)) (by rw [aj,IntWalk.i64_in _ (by omega)];omega) ?_
 refine uT.mk' (nS b*48 -(dat b).length) rfl rfl ⟨by omega,by unfold maxLen;omega⟩ ?_
 refine lW.mk ?_ ?_
 ·have:(wK (nS b*48 -(dat b).length)).size=nS b*48 -(dat b).length:=by simp [wK,ByteArray.size]
  rw [this,aj];unfold maxLen;omega
 conv=>whnf
 rw [alg]
 conv=>whnf
 obtain⟨g,hg⟩ : ∃g:Nat,gen=(g:Int):=⟨gen.toNat,by omega⟩
 obtain⟨f,hf⟩ : ∃f:Nat,frame=(f:Int):=⟨frame.toNat,by omega⟩
 subst hg;subst hf
 simp only [dK]
 refine mY ((8,8)::abB) 4 [8,10,47] (fun i:Nat=> [(8,bs (pad b)),(10, .own 3),(47,iv i)]) (fun i=> [(3, .rows 38 1 ((EW g f b i).map xP))]) (fun i=>i<=nS b) (fun i=>nS b-i) [(3, .nil)] [2] 0 (by kernel_rfl) (fun _=>rfl) rfl (aH _) ⟨rfl,trivial⟩ ⟨⟨rfl,rfl,rfl⟩,trivial,rfl,trivial⟩ ?_
 intro i hi
 apply lH<;>intro h
 rotate_left
 ·have hie:i=nS b:=by simp at h;omega
  subst hie
  refine lQ [3] ?_
  trivial
 have hlt:i<nS b:=by simp at h;omega
 (refine lX afR [3] (by kernel_rfl) ?_;conv=>whnf)
 refine lN.to (y:=((i*48:Nat):Int)) (by rw [IntWalk.i64_in _ (by omega)];omega) ?_
 refine lN.i64 (by omega) ?_
 refine lN.to (y:=(((i+1)*48:Nat):Int)) (by rw [IntWalk.i64_in _ (by omega)];omega) ?_
 refine uo.mk' (i*48) ((i+1)*48) rfl rfl (by omega) (by rw [aj,hpl];omega) ?_
 conv=>whnf
 have amR:=MB hlt
 refine qc [] (by kernel_rfl) (ac7 G g f i (nS b) (prt b i) (by omega) (by omega) (by omega) (by omega) (by omega)) ⟨(by trivial),⟨rfl,adk b i⟩,trivial⟩ ?_
 refine lW.mk (nG (by rw [aj,Ib];simp only [ln];omega) (by kernel_rfl)) ?_
 refine lN.i64 (by omega) ?_
 exact lK (i+1) [(3, .lab 6)] [] rfl (by show nS b -(i+1)<nS b-i;omega) hlt ⟨⟨rfl,rfl,by rw [VT,ajn]⟩,trivial⟩ ⟨⟨rfl,rfl⟩,rfl,rfl,trivial⟩
end
end Go.Proofs.YtnandbihiceihaaGreatDoor.Cl
