/- Joined parts of the proof. Lists of texts in plain Lean: sorted without repetitions, how they are written, and what is known of a reading if the by -/
import Derived.Test.YtocckceefcmeaaaGreatDoorPk15
import Derived.Sort.Walk0
import Derived.Test.YtocckceefcmeaaaGreatDoorPk12
import Derived.Test.YtocckceefcmeaaaGreatDoorPk10
import Derived.Test.YtocckceefcmeaaaGreatDoorPk11
set_option linter.unusedVariables false
set_option linter.unusedSimpArgs false
set_option maxRecDepth 100000
set_option maxHeartbeats 16000000
namespace Go.Proofs.YtocckceefcmeaaaGreatDoor.Cl
def iJ (s:By):By:=num (s.length:Int)++s
def Bq (d l:Tx):Li:=l.map fun s=>((pK d s:Nat):Int)
def ji (l:Tx):By:=num ((dsT l).length:Int)++(dsT l).flatMap iJ++ints (Bq (dsT l) l)
def yD (l:Tx):Prop:= ∀s∈l,s.length≤200
theorem L8 (d l:Tx)(hl : ∀x∈l,x∈d)(hd:d.length≤1000000):cO (Bq d l):=fun x hx=>by
 obtain⟨s,hs,e⟩:=List.mem_map.1 hx
 have:=(tK (hl s hs)).1
 rw [←e];exact bW (by omega)
theorem qy (d l:Tx):(Bq d l).length=l.length:=List.length_map _
theorem Ar (s:By)(h:s.length≤200):(iJ s).length≤210∧0<(iJ s).length:=by
 have:=bF (s.length:Int)
 unfold iJ
 rw [List.length_append];omega
theorem yD.ds {l:Tx}(h:yD l):yD (dsT l):=fun s hs=>h s ((oG l s).1 hs)
theorem yD.take {l:Tx}(h:yD l)(k:Nat):yD (l.take k):=fun s hs=>h s (List.mem_of_mem_take hs)
theorem tN (d:Tx)(h:yD d):(d.flatMap iJ).length≤210*d.length:=Aa iJ 210 d fun s hs=>(Ar s (h s hs)).1
theorem mJ (l:Tx)(h:yD l)(hl:l.length≤512):(ji l).length≤5134+210*l.length:=by
 have h1:=tN (dsT l) h.ds
 have h2:=qx l
 have h3:=(bF ((dsT l).length:Int)).2
 have h4:=bY (Bq (dsT l) l) (by rw [qy];exact hl)
 unfold ji
 simp only [List.length_append]
 omega
def BN (b:By)(e:Int):By×Nat×Int:=
 let c:=iT b e 200 4
 if c.2.2=0 then(if((b.drop c.2.1).length:Int)<c.1 then([],c.2.1,16)else((b.drop c.2.1).take c.1.toNat,c.2.1+c.1.toNat,0))else([],c.2.1,c.2.2)
theorem EC (b:By)(e:Int):BN b e=if(iT b e 200 4).2.2=0 then(if((b.drop (iT b e 200 4).2.1).length:Int)<(iT b e 200 4).1 then([],(iT b e 200 4).2.1,16)else((b.drop (iT b e 200 4).2.1).take (iT b e 200 4).1.toNat,(iT b e 200 4).2.1+(iT b e 200 4).1.toNat,0))else([],(iT b e 200 4).2.1,(iT b e 200 4).2.2):=rfl
theorem aaS (b:By)(e:Int):(BN b e).1.length≤200∧(BN b e).2.1≤b.length∧((BN b e).2.2=0→e=0∧b=iJ (BN b e).1++b.drop (BN b e).2.1∧(BN b e).2.1=(iJ (BN b e).1).length)∧((BN b e).2.2≠0→(BN b e).1 = []):=by
 have hr:=kT b e 200 4 (by decide) (by decide)
 have o:=jv b e
 rw [EC]
 generalize iT b e 200 4=c at *
 obtain⟨x,k,e'⟩:=c
 simp only at hr ⊢
 obtain⟨h1,h2,h3,h4⟩:=hr
 by_cases he:e'=0
 ·rw [if_pos he]
  have h5:=h4 he
  have o3:=o.2.2.1 h5.1
  rw [←h5.2, ←h3]at o3
  have hk:k≤b.length:=by rw [h3];exact o.2.1
  by_cases hs:((b.drop k).length:Int)<x
  ·rw [if_pos hs]
   exact⟨by simp,hk,fun h=>by simp at h,fun _=>rfl⟩
  ·rw [if_neg hs]
   have hl:(b.drop k).length=b.length-k:=List.length_drop
   have hx:((x.toNat:Nat):Int)=x:=by omega
   have ht:((b.drop k).take x.toNat).length=x.toNat:=by rw [List.length_take];omega
   have hp:iJ ((b.drop k).take x.toNat)=num x++(b.drop k).take x.toNat:=by unfold iJ;rw [ht,hx]
   refine⟨by simp only [ht];omega,by simp only;omega,fun _=>⟨o3.1, ?_, ?_⟩,fun h=>absurd rfl h⟩
   ·simp only
    rw [hp, ←List.drop_drop,List.append_assoc,List.take_append_drop]
    exact o3.2.1
   ·simp only
    rw [hp,List.length_append,ht, ←o3.2.2]
 ·rw [if_neg he]
  exact⟨by simp,by simp only;rw [h3];exact o.2.1,fun h=>absurd h he,fun _=>rfl⟩
theorem ED {b:By}{e most em:Int}{n:Nat}(h1:(bT b e).1=(n:Int))(h2:(bT b e).2.2=0)(hm:(n:Int)≤most):iT b e most em=((n:Int),(bT b e).2.1,0):=by
 rw [kS,h1,h2]
 have a1 : ¬((n:Int)<0):=by omega
 have a2 : ¬(most<(n:Int)):=by omega
 simp only [a1,a2,if_true,if_false]
theorem XD {s b r:By}(hs:s.length≤200)(h:b=iJ s++r):BN b 0=(s,(iJ s).length,0):=by
 have hb:b=num (s.length:Int)++(s++r):=by rw [h];unfold iJ;rw [List.append_assoc]
 have r1:=JH (b:=b) (e:=0) (bW (by omega:s.length≤9223372036854775807)) rfl hb
 have o3:=(jv b 0).2.2.1 r1.2.1
 rw [r1.1]at o3
 have hc:iT b 0 200 4=((s.length:Int),(bT b 0).2.1,0):=ED r1.1 r1.2.1 (by omega)
 rw [EC,hc]
 simp only [if_true]
 rw [r1.2.2,if_neg (by rw [List.length_append];omega),Int.toNat_natCast,List.take_left' rfl,o3.2.2]
 unfold iJ
 rw [List.length_append]
def QT (l0:Tx)(r:By)(ks:Tx)(b':By):Prop:= ∃rest,dsT l0=ks++rest∧b'=rest.flatMap iJ++(ints (Bq (dsT l0) l0)++r)
theorem QT.step {l0:Tx}{r:By}{ks:Tx}{b':By}(ht:yD l0)(hlt:ks.length<(dsT l0).length)(h:QT l0 r ks b'):(BN b' 0).2.2=0∧QT l0 r (ks++ [(BN b' 0).1]) (b'.drop (BN b' 0).2.1):=by
 obtain⟨rest,h1,h2⟩:=h
 cases rest with
 | nil=>rw [h1]at hlt;simp at hlt
 | cons y rest=>
  have hy:y.length≤200:=ht.ds y (by rw [h1];simp)
  have:=XD (b:=b') (r:=rest.flatMap iJ++(ints (Bq (dsT l0) l0)++r)) hy (by rw [h2];simp)
  rw [this]
  refine⟨rfl,rest,by rw [h1];simp, ?_⟩
  rw [h2]
  simp only [List.flatMap_cons,List.append_assoc]
  rw [List.drop_left' rfl]
theorem QT.fin {l0:Tx}{r:By}{ks:Tx}{b':By}(hlen:ks.length=(dsT l0).length)(h:QT l0 r ks b'):ks=dsT l0∧b'=ints (Bq (dsT l0) l0)++r:=by
 obtain⟨rest,h1,h2⟩:=h
 have hr:rest = []:=by
  rw [h1,List.length_append]at hlen
  exact List.eq_nil_of_length_eq_zero (by omega)
 subst hr
 exact⟨by rw [h1];simp,by rw [h2];simp⟩
def GT (b:By)(Q:Tx→By→Prop):Prop:= ∀l0 r,l0.length≤512→yD l0→b=ji l0++r→Q l0 r
theorem XE (b:By):GT b fun l0 r=>(iT b 0 512 5).2.2=0∧(iT b 0 512 5).1=((dsT l0).length:Int)∧QT l0 r [] (b.drop (iT b 0 512 5).2.1):=fun l0 r hl ht h=>by
 have hd:=qx l0
 have hb:b=num ((dsT l0).length:Int)++((dsT l0).flatMap iJ++(ints (Bq (dsT l0) l0)++r)):=by rw [h];unfold ji;simp only [List.append_assoc]
 have r1:=JH (b:=b) (e:=0) (bW (by omega:(dsT l0).length≤9223372036854775807)) rfl hb
 have hc:iT b 0 512 5=(((dsT l0).length:Int),(bT b 0).2.1,0):=ED r1.1 r1.2.1 (by omega)
 rw [hc]
 exact⟨rfl,rfl,dsT l0,rfl,r1.2.2⟩
def L9 (ks:Tx)(il:Li):Tx:=il.map fun i=>ks.getD i.toNat []
theorem Mc (ks:Tx)(il:Li):(L9 ks il).length=il.length:=List.length_map _
theorem aaT {d l:Tx}(h : ∀x∈l,x∈d):L9 d (Bq d l)=l:=by
 induction l with
 | nil=>rfl
 | cons x r ih=>
  have h1:=(tK (h x (by simp))).2
  have h2:=ih fun y hy=>h y (by simp [hy])
  unfold L9 Bq at *
  simp only [List.map_cons,Int.toNat_natCast,List.getD_eq_getElem?_getD,h1,Option.getD_some]
  simp only [List.getD_eq_getElem?_getD]at h2
  rw [h2]
theorem aaU {ks:Tx}(h:yD ks)(il:Li):yD (L9 ks il):=fun s hs=>by
 obtain⟨i,_,e⟩:=List.mem_map.1 hs
 rw [←e,List.getD_eq_getElem?_getD]
 cases hk:ks[i.toNat]? with
 | none=>simp
 | some x=>simpa using h x (List.mem_of_getElem? hk)
theorem SI {ks:Tx}{il:Li}{k i:Nat}{x:By}(hk:k<il.length)(hi:il[k]=(i:Int))(hx:ks[i]? = some x):L9 ks (il.take (k+1))=L9 ks (il.take k)++ [x]:=by
 unfold L9
 rw [List.take_succ_eq_append_getElem hk,List.map_append,hi]
 simp only [List.map_cons,List.map_nil,Int.toNat_natCast,List.getD_eq_getElem?_getD,hx,Option.getD_some]
def Ox (b:By)(l:Tx)(n:Nat)(e:Int):Prop:=yD l∧l.length≤512∧((e=0∧n=(ji l).length∧b.take (ji l).length=ji l)∨(e=1∧l = []∧n=0))∧GT b fun l0 _=>e=0∧l=l0
theorem Ox.bad {b:By}(h:GT b fun _ _=>False):Ox b [] 0 1:=⟨fun _ h=>(by cases h),Nat.zero_le _, .inr ⟨rfl,rfl,rfl⟩,fun l0 r ha hl hb=>(h l0 r ha hl hb).elim⟩
theorem Ox.two (b:By){l:Tx}{n:Nat}{e:Int}(h1:Ox b l n e){l':Tx}{n':Nat}{e':Int}(h2:Ox b l' n' e'):l=l'∧n=n'∧e=e':=by
 obtain⟨a1,a2,a3,a4⟩:=h1
 obtain⟨b1,b2,b3,b4⟩:=h2
 rcases a3 with ⟨rfl,rfl,p1⟩ | ⟨rfl,rfl,rfl⟩
 ·have:=b4 l (b.drop (ji l).length) a2 a1 (by conv=>lhs;rw [←List.take_append_drop (ji l).length b,p1])
  obtain⟨rfl,rfl⟩:=this
  rcases b3 with ⟨_,rfl,_⟩ | ⟨h,_⟩
  ·exact⟨rfl,rfl,rfl⟩
  ·omega
 ·rcases b3 with ⟨rfl,rfl,p1⟩ | ⟨rfl,rfl,rfl⟩
  ·have:=a4 l' (b.drop (ji l').length) b2 b1 (by conv=>lhs;rw [←List.take_append_drop (ji l').length b,p1])
   omega
  ·exact⟨rfl,rfl,rfl⟩
attribute [local irreducible] loadVar storeVar Instr.indexAt Instr.index Instr.sliceAt Instr.makeSlice Instr.lookup Instr.mapUpdate Instr.range Instr.next Instr.entry Instr.makeMap Builtin.append_ Builtin.copy_ Builtin.len_ Builtin.min_ Builtin.max_ Builtin.cap_ Builtin.delete_ Builtin.clear_ convert binOp eqGuard Op.unary Calls
section
open Go Go.RowKit Go.Proofs Go.Proofs.YtocckceefcmeaaaGreatDoor.Vc Go.Proofs.YtocckceefcmeaaaGreatDoor.Ax
theorem ac0 {l:Nat}(h:l≤4194304):l≤140737488355328∧l≤maxLen:=⟨by omega,by unfold maxLen;omega⟩
theorem YP (b s:By)(hb:b.length≤2000000)(hs:s.length≤200):bD Tryz.prog GC 156 [bs b,tv s] 0 [] (lM 5 1 ((b++iJ s).map dW)):=by
 have hl:=(bF (s.length:Int)).2
 refine au Tryz.func156 rfl mixed (by kernel_rfl) ?_
 conv=>whnf
 (refine aj [] (by kernel_rfl) (LW (s.length:Int) (bW (by omega))) ?_ ?_;(focus trivial))
 rintro _ _ _ ⟨rfl,rfl,rfl⟩
 conv=>whnf
 refine ay.mk (ac0 (by rw [List.length_map];show _+s.length≤_;omega)) ?_
 conv=>whnf
 have h:=aaF b (iJ s) (by have:=Ar s hs;omega)
 refine aj [1] (by kernel_rfl) h ⟨⟨rfl,rfl⟩,⟨rfl,rfl,by unfold iJ;rw [List.map_append]⟩,trivial⟩ ?_
 rintro _ _ _ ⟨rfl,rfl,rfl⟩
 conv=>whnf
 exact aV (.own 0) 1 _ [(0, .lab 2)] [] ⟨rfl,rfl,rfl⟩ rfl (by trivial) (by trivial)
theorem XF (l:Tx)(hl:l≠ [])(hs:l.length≤100000):bD Tryz.prog GC 153 [tl l] 0 [] (lM 9 1 (l.map xK)):=by
 have h0:0<l.length:=List.length_pos_iff.2 hl
 refine au Tryz.func153 rfl mixed (by kernel_rfl) ?_
 conv=>whnf
 refine⟨fun b hb=> ?_⟩
 rw [hb (fQ h0)]
 conv=>whnf
 (repeat' ((first | refine And.intro ?_ ?_ | (apply ah<;>intro h<;>try simp only [bl]at h) | refine aI.i64 (by first | omega | ((try simp only [List.length_map]at *);omega)) ?_ | refine bC.mk' _ rfl (by first | omega | (simp only [ln];omega) | (simp only [ln]at *;omega)) ?_ | refine aS.aA (by assumption) ?_ | refine aS.set (by(try simp only [ln]at *);omega) ?_ | refine aS.map (by first | omega | (simp only [List.length_map]at *;omega)) ?_ | refine ay.mk (by first | decide | omega) ?_ | refine kG.mk (by kernel_rfl) rfl rfl ?_ | refine ay.mk (aG (by(try simp only [ln]at *);omega) (by kernel_rfl)) ?_)<;>conv=>whnf))
 exact aV (.own 0) 1 _ [(0, .lab 1)] [] ⟨rfl,rfl,rfl⟩ rfl (by trivial) (by trivial)
theorem SK (s:ByteArray):(!oU s s)=false:=by rw [UW];simp
theorem ac1 (s:By):bD Tryz.prog GC 200 [tv s] 0 [] (Is (bv false)):=by
 refine au Tryz.func200 rfl mixed (by kernel_rfl) ?_
 conv=>whnf
 exact aX [] (congrArg Value.bool (SK _))
theorem aaV (x y:By):bD Tryz.prog GC 174 [tv x,tv y] 0 [] (Is (bv (decide (x<y)))):=by
 have e:=aaQ x y
 refine au Tryz.func174 rfl mixed (by kernel_rfl) ?_
 conv=>whnf
 (refine bf [] (by kernel_rfl) (ac1 x) rfl ?_ ?_;(focus trivial))
 conv=>whnf
 rw [←e]
 (repeat' ((first | refine And.intro ?_ ?_ | (apply ah<;>intro h<;>try simp only [bl]at h) | refine aI.i64 (by first | omega | ((try simp only [List.length_map]at *);omega)) ?_ | refine bC.mk' _ rfl (by first | omega | (simp only [ln];omega) | (simp only [ln]at *;omega)) ?_ | refine aS.aA (by assumption) ?_ | refine aS.set (by(try simp only [ln]at *);omega) ?_ | refine aS.map (by first | omega | (simp only [List.length_map]at *;omega)) ?_ | refine ay.mk (by first | decide | omega) ?_ | refine kG.mk (by kernel_rfl) rfl rfl ?_ | refine ay.mk (aG (by(try simp only [ln]at *);omega) (by kernel_rfl)) ?_)<;>conv=>whnf))
 all_goals first
  | exact aX [] (by trivial)
  | exact aX [] (congrArg Value.bool (by assumption))
theorem SN (d:Tx)(x:By)(hd:Ot d)(hx:x∈d)(hs:d.length≤1000000):bD Tryz.prog GC 157 [tl d,tv x] 0 [] (Is (.bH [iv (pK d x),bv true])):=by
 have hi:=tK hx
 refine au Tryz.func157 rfl mixed (by kernel_rfl) ?_
 conv=>whnf
 refine bg Vu 0 [7,8] (fun x:Nat×Nat=> [(7,iv x.1),(8,iv x.2)]) (fun _=> []) (fun y=>y.1≤pK d x∧pK d x≤y.2∧y.2≤d.length) (fun y=>y.2-y.1) [] [] (0,d.length) (by kernel_rfl) (fun _=>rfl) rfl ⟨Nat.zero_le _,Nat.le_of_lt hi.1,Nat.le_refl _⟩ trivial ⟨rfl,congrArg (fun n:Nat=>Value.int .i64 (n:Int)) (List.length_map _),trivial⟩ ?_
 rintro⟨i,j⟩ ⟨h1,h2,h3⟩
 change i≤pK d x at h1
 change pK d x≤j at h2
 change j≤d.length at h3
 conv=>whnf
 apply ah<;>intro h
 ·have hlt:i<j:=by simp at h;omega
  conv=>whnf
  (repeat' ((first | refine And.intro ?_ ?_ | (apply ah<;>intro h<;>try simp only [bl]at h) | refine aI.i64 (by first | omega | ((try simp only [List.length_map]at *);omega)) ?_ | refine bC.mk' _ rfl (by first | omega | (simp only [ln];omega) | (simp only [ln]at *;omega)) ?_ | refine aS.aA (by assumption) ?_ | refine aS.set (by(try simp only [ln]at *);omega) ?_ | refine aS.map (by first | omega | (simp only [List.length_map]at *;omega)) ?_ | refine ay.mk (by first | decide | omega) ?_ | refine kG.mk (by kernel_rfl) rfl rfl ?_ | refine ay.mk (aG (by(try simp only [ln]at *);omega) (by kernel_rfl)) ?_)<;>conv=>whnf))
  refine aI.to (y:=((i+j:Nat):Int)) (by rw [←Int.natCast_add];exact lN (by omega)) ?_
  conv=>whnf
  refine ay.mk (by decide) ?_
  rw [CZ]
  conv=>whnf
  refine aI.i64 (by omega) ?_
  conv=>whnf
  have hm:(i+j)/2<d.length:=by omega
  (repeat' ((first | refine And.intro ?_ ?_ | (apply ah<;>intro h<;>try simp only [bl]at h) | refine aI.i64 (by first | omega | ((try simp only [List.length_map]at *);omega)) ?_ | refine bC.mk' _ rfl (by first | omega | (simp only [ln];omega) | (simp only [ln]at *;omega)) ?_ | refine aS.aA (by assumption) ?_ | refine aS.set (by(try simp only [ln]at *);omega) ?_ | refine aS.map (by first | omega | (simp only [List.length_map]at *;omega)) ?_ | refine ay.mk (by first | decide | omega) ?_ | refine kG.mk (by kernel_rfl) rfl rfl ?_ | refine ay.mk (aG (by(try simp only [ln]at *);omega) (by kernel_rfl)) ?_)<;>conv=>whnf))
  (refine bf [] (by kernel_rfl) (aaV d[(i+j)/2] x) rfl ?_ ?_;(focus trivial))
  conv=>whnf
  have hat:=List.getElem?_eq_getElem hm
  apply ah<;>intro h
  ·conv=>whnf
   refine aI.i64 (by omega) ?_
   conv=>whnf
   have hlt2:d[(i+j)/2]<x:=of_decide_eq_true h
   have hc:(i+j)/2<pK d x:=by
    rcases Nat.lt_trichotomy ((i+j)/2) (pK d x)with h4 | h4 | h4
    ·exact h4
    ·have:=hi.2;rw [←h4,hat]at this;injection this with this;rw [this]at hlt2;exact(yC _ hlt2).elim
    ·exact(Hl hlt2 (SE hd h4 hi.2 hat)).elim
   exact aF ((i+j)/2+1,j) [] [] rfl (by show j -((i+j)/2+1)<j-i;omega) ⟨hc,h2,h3⟩ trivial ⟨rfl,rfl,trivial⟩
  ·conv=>whnf
   have hlt2 : ¬d[(i+j)/2]<x:=of_decide_eq_false h
   have hc:pK d x≤(i+j)/2:=by
    rcases Nat.lt_or_ge ((i+j)/2) (pK d x)with h4 | h4
    ·exact absurd (SE hd h4 hat hi.2) hlt2
    ·exact h4
   exact aF (i,(i+j)/2) [] [] rfl (by show (i+j)/2-i<j-i;omega) ⟨h1,hc,by show (i+j)/2≤_;omega⟩ trivial ⟨rfl,rfl,trivial⟩
 ·have hij:i=pK d x:=by simp at h;omega
  have hil:i<d.length:=by omega
  have hat:d[i]? = some x:=by rw [hij];exact hi.2
  rw [←hij]
  conv=>whnf
  (repeat' ((first | refine And.intro ?_ ?_ | (apply ah<;>intro h<;>try simp only [bl]at h) | refine aI.i64 (by first | omega | ((try simp only [List.length_map]at *);omega)) ?_ | refine bC.mk' _ rfl (by first | omega | (simp only [ln];omega) | (simp only [ln]at *;omega)) ?_ | refine aS.aA (by assumption) ?_ | refine aS.set (by(try simp only [ln]at *);omega) ?_ | refine aS.map (by first | omega | (simp only [List.length_map]at *;omega)) ?_ | refine ay.mk (by first | decide | omega) ?_ | refine kG.mk (by kernel_rfl) rfl rfl ?_ | refine ay.mk (aG (by(try simp only [ln]at *);omega) (by kernel_rfl)) ?_)<;>conv=>whnf))
  all_goals first
   | (exfalso;omega)
   | (exfalso;simp only [List.length_map]at h;omega)
   | (exfalso;simp at h;done)
   | exact aX [] (by trivial)
end
section
open Go Go.RowKit Go.Proofs Go.Proofs.YtocckceefcmeaaaGreatDoor.Vc Go.Proofs.YtocckceefcmeaaaGreatDoor.Ax
attribute [local irreducible] best ints en bd
theorem Oy {d:Tx}{i:Nat}(h:i<d.length):(d.take (i+1)).flatMap iJ=(d.take i).flatMap iJ++iJ d[i]:=by
 rw [List.take_succ_eq_append_getElem h,List.flatMap_append,List.flatMap_cons,List.flatMap_nil,List.append_nil]
theorem aaW (l x:Tx){k:Nat}(h:k<(dsT l).length):(dsT l++x)[0+k]? = some (dsT l)[k]:=by rw [Nat.zero_add,List.getElem?_append_left h,List.getElem?_eq_getElem h]
theorem SQ {d l:Tx}{k:Nat}(h:k<l.length):Bq d (l.take (k+1))=Bq d (l.take k)++ [((pK d l[k]:Nat):Int)]:=by
 unfold Bq
 rw [List.take_succ_eq_append_getElem h,List.map_append];rfl
theorem XG (l:Tx)(hne:l≠ [])(hs:l.length≤512)(ht:yD l):bD Tryz.prog GC 121 [tl l] 0 [] (Is (bs (ji l))):=by
 have hdl:=qx l
 have hkl:=fun k=>tN ((dsT l).take k) (ht.ds.take k)
 have n1:=(bF ((dsT l).length:Int)).2
 refine au Tryz.func121 rfl mixed (by kernel_rfl) ?_
 conv=>whnf
 (refine aj [] (by kernel_rfl) (XF l hne (by omega)) ?_ ?_;(focus trivial))
 rintro _ _ _ ⟨rfl,rfl,rfl⟩
 conv=>whnf
 refine aH [0] [] (by kernel_rfl) (aaR l hne (by omega)) rfl (by trivial) (by trivial) ?_
 rintro _ _ _ ⟨rfl,rfl,rfl⟩
 refine⟨rfl, ?_⟩
 conv=>whnf
 refine aH [0] [] (by kernel_rfl) (Ov l hne (by omega)) rfl (by trivial) (by trivial) ?_
 rintro _ _ _ ⟨rfl,rfl,rfl⟩
 refine⟨rfl, ?_⟩
 conv=>whnf
 (refine aj [0] (by kernel_rfl) (iD [] ((dsT l).length:Int) (bW (by omega)) (by simp)) ?_ ?_;(focus trivial))
 rintro _ _ _ ⟨rfl,rfl,rfl⟩
 conv=>whnf
 refine bg Ee 3 [4,23] (fun k:Nat=> [(4, .own 2),(23,iv k)]) (fun k=> [(0, .fz 1 ((dsT l++List.replicate (l.length -(dsT l).length) []).map xK)),(2, .rows 5 1 ((num ((dsT l).length:Int)++((dsT l).take k).flatMap iJ).map dW))]) (fun k=>k≤(dsT l).length) (fun k=>(dsT l).length-k) [(2, .lab 1)] [] 0 (by kernel_rfl) (fun _=>rfl) rfl (Nat.zero_le _) ⟨⟨rfl,rfl⟩,⟨rfl,rfl,by simp⟩,trivial⟩ ⟨rfl,rfl,trivial⟩ ?_
 rintro k hk
 have hkk:=hkl k
 rw [List.length_take]at hkk
 conv=>whnf
 apply ah<;>intro h
 ·have hlt:k<(dsT l).length:=by simp at h;omega
  have hmem:(dsT l)[k]∈dsT l:=List.getElem_mem hlt
  conv=>whnf
  refine bC.mk' k rfl hlt ?_
  conv=>whnf
  refine aS.aA (aaW l _ hlt) ?_
  conv=>whnf
  refine aj [2] (by kernel_rfl) (YP (num ((dsT l).length:Int)++((dsT l).take k).flatMap iJ) (dsT l)[k] (by rw [List.length_append];omega) (ht.ds _ hmem)) ⟨⟨rfl,rfl,rfl⟩,rfl,trivial⟩ ?_
  rintro _ _ _ ⟨rfl,rfl,rfl⟩
  conv=>whnf
  refine aI.i64 (by omega) ?_
  conv=>whnf
  refine aF (k+1) [(2, .lab 3)] [] rfl (by show (dsT l).length -(k+1)<(dsT l).length-k;omega) hlt ⟨⟨rfl,rfl⟩,⟨rfl,rfl, ?_⟩,trivial⟩ ⟨rfl,rfl,trivial⟩
  rw [Oy hlt, ←List.append_assoc]
 ·have:k=(dsT l).length:=by simp at h;omega
  subst this
  rw [List.take_length]
  conv=>whnf
  refine bg Ef 4 [7,33] (fun k:Nat=> [(7, .own 3),(33,iv k)]) (fun k=> [(0, .fz 1 ((dsT l++List.replicate (l.length -(dsT l).length) []).map xK)),(2, .rows 5 1 ((num ((dsT l).length:Int)++(dsT l).flatMap iJ).map dW)),(3, .rows 3 1 ((Bq (dsT l) (l.take k)).map oM))]) (fun k=>k≤l.length) (fun k=>l.length-k) [(3, .nil)] [] 0 (by kernel_rfl) (fun _=>rfl) rfl (Nat.zero_le _) ⟨⟨rfl,rfl⟩,⟨rfl,rfl,rfl⟩,rfl,trivial⟩ ⟨trivial,rfl,trivial⟩ ?_
  rintro k hk
  conv=>whnf
  apply ah<;>intro h
  ·have hlt:k<l.length:=by simp at h;omega
   have hmem:l[k]∈dsT l:=(oG l _).2 (List.getElem_mem hlt)
   have hil:=(tK hmem).1
   conv=>whnf
   (repeat' ((first | refine And.intro ?_ ?_ | (apply ah<;>intro h<;>try simp only [bl]at h) | refine aI.i64 (by first | omega | ((try simp only [List.length_map]at *);omega)) ?_ | refine bC.mk' _ rfl (by first | omega | (simp only [ln];omega) | (simp only [ln]at *;omega)) ?_ | refine aS.aA (by assumption) ?_ | refine aS.set (by(try simp only [ln]at *);omega) ?_ | refine aS.map (by first | omega | (simp only [List.length_map]at *;omega)) ?_ | refine ay.mk (by first | decide | omega) ?_ | refine kG.mk (by kernel_rfl) rfl rfl ?_ | refine ay.mk (aG (by(try simp only [ln]at *);omega) (by kernel_rfl)) ?_)<;>conv=>whnf))
   refine bf [] (by kernel_rfl) (SN (dsT l) l[k] (SA l) hmem (by omega)) rfl ⟨⟨rfl,SH l _⟩,rfl,trivial⟩ ?_
   conv=>whnf
   refine ay.mk (aG (by rw [List.length_map,qy,List.length_take];show _+1≤_;omega) (by kernel_rfl)) ?_
   conv=>whnf
   refine aI.i64 (by omega) ?_
   conv=>whnf
   refine aF (k+1) [(3, .lab 5)] [] rfl (by show l.length -(k+1)<l.length-k;omega) hlt ⟨⟨rfl,rfl⟩,⟨rfl,rfl,rfl⟩,⟨rfl,rfl, ?_⟩,trivial⟩ ⟨rfl,rfl,trivial⟩
   rw [SQ hlt,List.map_append]
   rfl
  ·have:k=l.length:=by simp at h;omega
   subst this
   rw [List.take_length]
   conv=>whnf
   have afI:=tN (dsT l) ht.ds
   have hib:=bY (Bq (dsT l) l) (by rw [qy];exact hs)
   (refine aj [3] (by kernel_rfl) (lS (Bq (dsT l) l) (L8 _ _ (fun x hx=>(oG l x).2 hx) (by omega)) (by rw [qy];exact hs)) ?_ ?_;(focus trivial))
   rintro _ _ _ ⟨rfl,rfl,rfl⟩
   conv=>whnf
   refine ay.mk (aG (by simp only [List.length_map,List.length_append];omega) (by kernel_rfl)) ?_
   conv=>whnf
   refine aX [4] ⟨rfl,rfl, ?_⟩
   unfold ji
   simp only [List.map_append]
theorem SV:bD Tryz.prog GC 153 [tl []] 0 [] (fun a n H=>(a = .v (.slice none 0 0)∧n=0∧H = [])∨(a = .own 0∧n=1∧H = [(0, .rows 9 1 [])])):=by
 refine au Tryz.func153 rfl mixed (by kernel_rfl) ?_
 conv=>whnf
 refine⟨fun b _=> ?_⟩
 cases b
 ·conv=>whnf
  (repeat' ((first | refine And.intro ?_ ?_ | (apply ah<;>intro h<;>try simp only [bl]at h) | refine aI.i64 (by first | omega | ((try simp only [List.length_map]at *);omega)) ?_ | refine bC.mk' _ rfl (by first | omega | (simp only [ln];omega) | (simp only [ln]at *;omega)) ?_ | refine aS.aA (by assumption) ?_ | refine aS.set (by(try simp only [ln]at *);omega) ?_ | refine aS.map (by first | omega | (simp only [List.length_map]at *;omega)) ?_ | refine ay.mk (by first | decide | omega) ?_ | refine kG.mk (by kernel_rfl) rfl rfl ?_ | refine ay.mk (aG (by(try simp only [ln]at *);omega) (by kernel_rfl)) ?_)<;>conv=>whnf))
  exact aV (.own 0) 1 _ [(0, .lab 1)] [] (.inr ⟨rfl,rfl,rfl⟩) rfl (by trivial) (by trivial)
 ·conv=>whnf
  exact aV (.v (.slice none 0 0)) 0 [] [] [] (.inl ⟨rfl,rfl,rfl⟩) rfl (by trivial) (by trivial)
theorem ac2:bD Tryz.prog GC 173 [uv 0] 0 [] (Is (iv 0)):=by
 have h:bD Tryz.prog GC 199 [uv 0] 0 [] (Is (iv 0)):=RH 0 (by decide)
 refine au Tryz.func173 rfl mixed (by kernel_rfl) ?_
 conv=>whnf
 (refine bf [] (by kernel_rfl) (h) rfl ?_ ?_;(focus trivial))
 conv=>whnf
 exact aX [] (by trivial)
theorem ac3:bD Tryz.prog GC 190 [tl [],iv 0,iv 0] 0 [] (Is (.bH [])):=by
 refine au Tryz.func190 rfl mixed (by kernel_rfl) ?_
 conv=>whnf
 refine aI.i64 (by decide) ?_
 conv=>whnf
 refine bg VN 0 [6] (fun i:Nat=> [(6,iv i)]) (fun _=> []) (fun i=>i=1) (fun _=>0) [] [] 1 (by kernel_rfl) (fun _=>rfl) rfl rfl trivial ⟨rfl,trivial⟩ ?_
 rintro i rfl
 conv=>whnf
 exact aX [] (by trivial)
theorem ac4:bD Tryz.prog GC 172 [tl [],iv 0,iv 0,iv 0] 0 [] (Is (.bH [])):=by
 refine au Tryz.func172 rfl mixed (by kernel_rfl) ?_
 conv=>whnf
 refine bg Vx 0 [1,2,3,8,9] (fun _:Nat=> [(1,iv 0),(2,iv 0),(3,iv 0),(8,bv true),(9,bv true)]) (fun _=> []) (fun _=>True) (fun _=>0) [] [] 0 (by kernel_rfl) (fun _=>rfl) rfl trivial trivial (by trivial) ?_
 rintro i _
 conv=>whnf
 refine aI.i64 (by decide) ?_
 conv=>whnf
 (refine bf [] (by kernel_rfl) (ac3) rfl ?_ ?_;(focus trivial))
 conv=>whnf
 exact aX [] (by trivial)
theorem Md:bD Tryz.prog GC 154 [tl []] 0 [] (Is (.bH [])):=by
 refine au Tryz.func154 rfl mixed (by kernel_rfl) ?_
 conv=>whnf
 refine aI.to (y:=0) rfl ?_
 conv=>whnf
 (refine bf [] (by kernel_rfl) (ac2) rfl ?_ ?_;(focus trivial))
 conv=>whnf
 (refine bf [] (by kernel_rfl) (ac4) rfl ?_ ?_;(focus trivial))
 conv=>whnf
 exact aX [] (by trivial)
theorem Au:bD Tryz.prog GC 155 [tl []] 0 [] (Is (tl [])):=by
 refine au Tryz.func155 rfl mixed (by kernel_rfl) ?_
 conv=>whnf
 exact aX [] (by trivial)
theorem Me:ji []=num 0++ints []:=by
 unfold ji
 simp [dsT,Bq]
theorem XH:bD Tryz.prog GC 121 [tl []] 0 [] (Is (bs (ji []))):=by
 refine au Tryz.func121 rfl mixed (by kernel_rfl) ?_
 conv=>whnf
 (refine aj [] (by kernel_rfl) (SV) ?_ ?_;(focus trivial))
 rintro _ _ _ (⟨rfl,rfl,rfl⟩ | ⟨rfl,rfl,rfl⟩)
 ·skip
  conv=>whnf
  (refine aj [] (by kernel_rfl) (Md) ?_ ?_;(focus trivial))
  rintro _ _ _ ⟨rfl,rfl,rfl⟩
  conv=>whnf
  (refine aj [] (by kernel_rfl) (Au) ?_ ?_;(focus trivial))
  rintro _ _ _ ⟨rfl,rfl,rfl⟩
  conv=>whnf
  (refine aj [] (by kernel_rfl) (iD [] 0 (by unfold I64;omega) (by simp)) ?_ ?_;(focus trivial))
  rintro _ _ _ ⟨rfl,rfl,rfl⟩
  conv=>whnf
  refine bg Ee (0+2) [4,23] (fun k:Nat=> [(4, .own (0+1)),(23,iv k)]) (fun _=> [(0+1, .rows 5 1 ((num 0).map dW))]) (fun k=>k=0) (fun _=>0) [(0+1, .lab 0)] [] 0 (by kernel_rfl) (fun _=>rfl) rfl rfl ⟨⟨rfl,rfl,rfl⟩,trivial⟩ ⟨rfl,rfl,trivial⟩ ?_
  rintro k rfl
  conv=>whnf
  refine bg Ef (0+2) [7,33] (fun k:Nat=> [(7, .v (.slice none 0 0)),(33,iv k)]) (fun _=> [(0+1, .rows 5 1 ((num 0).map dW))]) (fun k=>k=0) (fun _=>0) [] [] 0 (by kernel_rfl) (fun _=>rfl) rfl rfl ⟨⟨rfl,rfl,rfl⟩,trivial⟩ ⟨rfl,rfl,trivial⟩ ?_
  rintro k rfl
  conv=>whnf
  (refine aj [] (by kernel_rfl) (lS [] cO.nil (by simp)) ?_ ?_;(focus trivial))
  rintro _ _ _ ⟨rfl,rfl,rfl⟩
  conv=>whnf
  have hib:=bY [] (by simp)
  have hn:=(bF 0).2
  refine ay.mk (aG (by simp only [List.length_map];omega) (by kernel_rfl)) ?_
  conv=>whnf
  refine aX [0+2] ⟨rfl,rfl, ?_⟩
  rw [Me,List.map_append]
 ·skip
  conv=>whnf
  (refine aj [0] (by kernel_rfl) (Md) ?_ ?_;(focus trivial))
  rintro _ _ _ ⟨rfl,rfl,rfl⟩
  conv=>whnf
  (refine aj [] (by kernel_rfl) (Au) ?_ ?_;(focus trivial))
  rintro _ _ _ ⟨rfl,rfl,rfl⟩
  conv=>whnf
  (refine aj [] (by kernel_rfl) (iD [] 0 (by unfold I64;omega) (by simp)) ?_ ?_;(focus trivial))
  rintro _ _ _ ⟨rfl,rfl,rfl⟩
  conv=>whnf
  refine bg Ee (1+2) [4,23] (fun k:Nat=> [(4, .own (1+1)),(23,iv k)]) (fun _=> [(1+1, .rows 5 1 ((num 0).map dW))]) (fun k=>k=0) (fun _=>0) [(1+1, .lab 1)] [] 0 (by kernel_rfl) (fun _=>rfl) rfl rfl ⟨⟨rfl,rfl,rfl⟩,trivial⟩ ⟨rfl,rfl,trivial⟩ ?_
  rintro k rfl
  conv=>whnf
  refine bg Ef (1+2) [7,33] (fun k:Nat=> [(7, .v (.slice none 0 0)),(33,iv k)]) (fun _=> [(1+1, .rows 5 1 ((num 0).map dW))]) (fun k=>k=0) (fun _=>0) [] [] 0 (by kernel_rfl) (fun _=>rfl) rfl rfl ⟨⟨rfl,rfl,rfl⟩,trivial⟩ ⟨rfl,rfl,trivial⟩ ?_
  rintro k rfl
  conv=>whnf
  (refine aj [] (by kernel_rfl) (lS [] cO.nil (by simp)) ?_ ?_;(focus trivial))
  rintro _ _ _ ⟨rfl,rfl,rfl⟩
  conv=>whnf
  have hib:=bY [] (by simp)
  have hn:=(bF 0).2
  refine ay.mk (aG (by simp only [List.length_map];omega) (by kernel_rfl)) ?_
  conv=>whnf
  refine aX [1+2] ⟨rfl,rfl, ?_⟩
  rw [Me,List.map_append]
theorem Aw (l:Tx)(hs:l.length≤512)(ht:yD l):bD Tryz.prog GC 121 [tl l] 0 [] (Is (bs (ji l))):=by
 by_cases h:l = []
 ·subst h;exact XH
 ·exact XG l h hs ht
end
section
open Go Go.RowKit Go.Proofs Go.Proofs.YtocckceefcmeaaaGreatDoor.Vc Go.Proofs.YtocckceefcmeaaaGreatDoor.Ax
theorem takeA (b:By)(n:Nat)(hn:n≤200):bD Tryz.prog GC 72 [.ptr 0 0,iv n] 1 [(0,jS b 0)] (fun a m H=>a=bs (if n≤b.length then b.take n else [])∧m=1∧H = [(0,jS (if n≤b.length then b.drop n else b) (if n≤b.length then 0 else 16))]):=by
 refine au Tryz.func72 rfl mixed (by kernel_rfl) ?_
 conv=>whnf
 apply ah<;>intro h
 ·have hl : ¬n≤b.length:=by simp at h;omega
  simp only [hl,if_false]
  conv=>whnf
  exact aV (bs []) 1 [(0,jS b 16)] [] [] ⟨rfl,rfl,rfl⟩ rfl (by trivial) (by trivial)
 have hl:n≤b.length:=by simp at h;omega
 simp only [hl,if_true]
 conv=>whnf
 refine ay.mk ⟨Int.le_refl _,by rw [List.length_map];omega⟩ ?_
 refine lT.mk' 0 n rfl rfl (Nat.zero_le _) (by rw [List.length_map];exact hl) ?_
 conv=>whnf
 refine lT.mk' n b.length rfl (by rw [List.length_map]) hl (by rw [List.length_map];exact Nat.le_refl _) ?_
 conv=>whnf
 exact aV (bs (b.take n)) 1 [(0,jS (b.drop n) 0)] [] [] ⟨rfl,rfl,rfl⟩ rfl ⟨⟨rfl,⟨rfl,List.map_drop.symm⟩,rfl,trivial⟩,trivial⟩ ⟨rfl,List.map_take.symm⟩
theorem SY (b:By)(e:Int)(he:e≠0):bD Tryz.prog GC 72 [.ptr 0 0,iv 0] 1 [(0,jS b e)] (fun a m H=>a=bs []∧m=1∧H = [(0,jS b e)]):=by
 refine au Tryz.func72 rfl mixed (by kernel_rfl) ?_
 have hq:(e==0)=false:=by simpa using he
 conv=>whnf
 rw [hq]
 conv=>whnf
 apply ah<;>intro h
 rotate_left 1
 ·exfalso;simp at h;exact he h
 conv=>whnf
 exact aV (bs []) 1 [(0,jS b e)] [] [] ⟨rfl,rfl,rfl⟩ rfl (by trivial) (by trivial)
theorem ac5 (b:By)(e:Int)(hb:b.length≤3000000):bD Tryz.prog GC 34 [.ptr 0 0,iv 200] 1 [(0,jS b e)] (fun a n H=>a=tv (BN b e).1∧n=1∧H = [(0,jS (b.drop (BN b e).2.1) (BN b e).2.2)]):=by
 have hL:=Ey b e 200 4 hb (by decide) (by decide)
 have hr:=kT b e 200 4 (by decide) (by decide)
 have hz:(iT b e 200 4).2.2≠0→(iT b e 200 4).1=0:=fun h=>by rw [kS]at h ⊢;simp only at h ⊢;rw [if_neg h]
 have hd:=EC b e
 generalize iT b e 200 4=c at *
 obtain⟨x,k,e'⟩:=c
 simp only at hL hr hz hd
 obtain⟨n,rfl⟩ : ∃n:Nat,x=(n:Int):=⟨x.toNat,by omega⟩
 have hn:n≤200:=by omega
 rw [Int.toNat_natCast]at hd
 by_cases he:e'=0
 ·subst he
  rw [if_pos rfl]at hd
  have hT:=takeA (b.drop k) n hn
  by_cases h:n≤(b.drop k).length
  ·have h2 : ¬((b.drop k).length:Int)<(n:Int):=by omega
   rw [if_neg h2]at hd
   rw [hd]
   simp only [h,if_true]at hT
   refine au Tryz.func34 rfl mixed (by kernel_rfl) ?_
   conv=>whnf
   refine aH [0] [] (by kernel_rfl) hL rfl (by trivial) (by trivial) ?_
   rintro _ _ _ ⟨rfl,rfl,rfl⟩
   refine⟨rfl, ?_⟩
   conv=>whnf
   refine aH [0] [] (by kernel_rfl) hT rfl (by trivial) (by trivial) ?_
   rintro _ _ _ ⟨rfl,rfl,rfl⟩
   refine⟨rfl, ?_⟩
   conv=>whnf
   refine IX.of ?_
   conv=>whnf
   exact aV (tv ((b.drop k).take n)) 1 [(0,jS (b.drop (k+n)) 0)] [] [] ⟨rfl,rfl,rfl⟩ rfl ⟨⟨rfl,⟨rfl,by rw [List.drop_drop]⟩,rfl,trivial⟩,trivial⟩ (by trivial)
  ·have h2:((b.drop k).length:Int)<(n:Int):=by omega
   rw [if_pos h2]at hd
   rw [hd]
   simp only [h,if_false]at hT
   refine au Tryz.func34 rfl mixed (by kernel_rfl) ?_
   conv=>whnf
   refine aH [0] [] (by kernel_rfl) hL rfl (by trivial) (by trivial) ?_
   rintro _ _ _ ⟨rfl,rfl,rfl⟩
   refine⟨rfl, ?_⟩
   conv=>whnf
   refine aH [0] [] (by kernel_rfl) hT rfl (by trivial) (by trivial) ?_
   rintro _ _ _ ⟨rfl,rfl,rfl⟩
   refine⟨rfl, ?_⟩
   conv=>whnf
   refine IX.of (s:= []) ?_
   conv=>whnf
   exact aV (tv []) 1 [(0,jS (b.drop k) 16)] [] [] ⟨rfl,rfl,rfl⟩ rfl (by trivial) (by trivial)
 ·have h0:=hz he
  have hn0:n=0:=by omega
  subst hn0
  rw [if_neg he]at hd
  rw [hd]
  refine au Tryz.func34 rfl mixed (by kernel_rfl) ?_
  conv=>whnf
  refine aH [0] [] (by kernel_rfl) hL rfl (by trivial) (by trivial) ?_
  rintro _ _ _ ⟨rfl,rfl,rfl⟩
  refine⟨rfl, ?_⟩
  conv=>whnf
  refine aH [0] [] (by kernel_rfl) (SY (b.drop k) e' he) rfl (by trivial) (by trivial) ?_
  rintro _ _ _ ⟨rfl,rfl,rfl⟩
  refine⟨rfl, ?_⟩
  conv=>whnf
  refine IX.of (s:= []) ?_
  conv=>whnf
  exact aV (tv []) 1 [(0,jS (b.drop k) e')] [] [] ⟨rfl,rfl,rfl⟩ rfl (by trivial) (by trivial)
end
section
open Go Go.RowKit Go.Proofs Go.Proofs.YtocckceefcmeaaaGreatDoor.Vc Go.Proofs.YtocckceefcmeaaaGreatDoor.Ax
attribute [local irreducible] best ints en bd
def RTa (b:By)(a:AV)(m:Nat)(H:ak):Prop:= ∃l n e,Ox b l n e∧a = .bH [tl l,iv (n:Nat),iv e]∧m=0∧H = []
structure TX where
 ks:Tx
 b:By
def KI (b:By)(n:Nat)(e:Int)(x:TX):Prop:=x.ks.length≤n∧yD x.ks∧(e=0→b=num (n:Int)++x.ks.flatMap iJ++x.b)∧GT b fun l0 r=>e=0∧(dsT l0).length=n∧QT l0 r x.ks x.b
theorem oH (b:By)(hb:b.length≤100000):bD Tryz.prog GC 137 [bs b] 0 [] (RTa b):=by
 have hC:=wF b 0 512 (by omega) (by decide)
 have hcr:=kT b 0 512 5 (by decide) (by decide)
 have hhead:=XE b
 have ho:=jv b 0
 have hz:(iT b 0 512 5).2.2≠0→(iT b 0 512 5).1=0:=fun h=>by rw [kS]at h ⊢;simp only at h ⊢;rw [if_neg h]
 rw [←hcr.2.2.1]at ho
 generalize iT b 0 512 5=c at *
 obtain⟨x,k,e⟩:=c
 simp only at hC hcr hhead hz ho
 obtain⟨n,rfl⟩ : ∃n:Nat,x=(n:Int):=⟨x.toNat,by omega⟩
 have hn:n≤512:=by omega
 have hk0:KI b n e ⟨[],b.drop k⟩:=⟨Nat.zero_le _,fun _ h=>(by cases h),fun he=>by
  have:=hcr.2.2.2 he
  have h3:=(ho.2.2.1 this.1).2.1
  rw [←this.2]at h3
  simpa using h3,fun l0 r hl ht hb=>by
  have:=hhead l0 r hl ht hb
  exact⟨this.1,by omega,this.2.2⟩⟩
 have hbl:(b.drop k).length≤100000:=gJ hb
 generalize b.drop k=b1' at *
 clear hhead hcr ho
 refine au Tryz.func137 rfl mixed (by kernel_rfl) ?_
 conv=>whnf
 (refine aj [] (by kernel_rfl) (Ew b (by omega)) ?_ ?_;(focus trivial))
 rintro _ _ _ ⟨rfl,rfl,rfl⟩
 conv=>whnf
 refine aH [0] [] (by kernel_rfl) hC rfl (by trivial) (by trivial) ?_
 rintro _ _ _ ⟨rfl,rfl,rfl⟩
 refine⟨rfl, ?_⟩
 conv=>whnf
 (refine aj [] (by kernel_rfl) (iD [] (n:Int) (bW (by omega)) (by simp)) ?_ ?_;(focus trivial))
 rintro _ _ _ ⟨rfl,rfl,rfl⟩
 conv=>whnf
 refine bg Vm 3 [7,8,25] (fun x:TX=> [(7,iv ((num (n:Int)++x.ks.flatMap iJ).length:Nat)),(8, .own 2),(25,iv x.ks.length)]) (fun x=> [(2, .rows 9 1 (x.ks.map xK)),(0,jS x.b e)]) (fun x=>x.b.length≤100000∧KI b n e x) (fun x=>n-x.ks.length) [(2, .nil)] [] ⟨[],b1'⟩ (by kernel_rfl) (fun _=>rfl) rfl ⟨hbl,hk0⟩ ⟨rfl,(by trivial),trivial⟩ ⟨congrArg (fun n:Nat=>Value.int .i64 (n:Int)) (by simp),trivial,rfl,trivial⟩ ?_
 rintro⟨ks,b'⟩ ⟨hb',hK⟩
 change b'.length≤100000 at hb'
 obtain⟨k1,k2,k3,k4⟩:=hK
 change ks.length≤n at k1
 change yD ks at k2
 change e=0→b=num (n:Int)++ks.flatMap iJ++b' at k3
 change GT b fun l0 r=>e=0∧(dsT l0).length=n∧QT l0 r ks b' at k4
 have hkl:=tN ks k2
 have hnl:=(bF (n:Int)).2
 conv=>whnf
 apply ah<;>intro h
 ·have hlt:ks.length<n:=by simp at h;omega
  have he:e=0:=Classical.byContradiction fun he=>by have:=hz he;omega
  subst he
  have hT:=ac5 b' 0 (by omega)
  have hto:=aaS b' 0
  have hstep:GT b fun l0 r=>(BN b' 0).2.2=0∧QT l0 r (ks++ [(BN b' 0).1]) (b'.drop (BN b' 0).2.1):=fun l0 r hl ht hbb=>by
   have:=k4 l0 r hl ht hbb
   exact this.2.2.step ht (by omega)
  generalize BN b' 0=t at *
  obtain⟨s,j,f⟩:=t
  simp only at hT hto hstep
  conv=>whnf
  refine aH [0] [] (by kernel_rfl) hT rfl (by trivial) (by trivial) ?_
  rintro _ _ _ ⟨rfl,rfl,rfl⟩
  refine⟨rfl, ?_⟩
  conv=>whnf
  refine aH [0] [] (by kernel_rfl) (tH (b'.drop j) f) rfl (by trivial) (by trivial) ?_
  rintro _ _ _ ⟨rfl,rfl,rfl⟩
  refine⟨rfl, ?_⟩
  conv=>whnf
  apply ah<;>intro h
  ·have hf:f≠0:=by simpa using h
   conv=>whnf
   refine aH [0] [] (by kernel_rfl) (tH (b'.drop j) f) rfl (by trivial) (by trivial) ?_
   rintro _ _ _ ⟨rfl,rfl,rfl⟩
   refine⟨rfl, ?_⟩
   conv=>whnf
   apply ah<;>intro h
   rotate_left 1
   ·exfalso;simp at h;exact hf h
   conv=>whnf
   exact aV (.bH [tl [],iv (0:Nat),iv 1]) 0 [] [] [] ⟨[],0,1,Ox.bad fun l0 r ha hl h=>hf (hstep l0 r ha hl h).1,rfl,rfl,rfl⟩ rfl trivial (by trivial)
  have hf:f=0:=by simpa using h
  subst hf
  conv=>whnf
  have aeC:=hto.2.2.1 rfl
  refine ay.mk (aG (by simp only [List.length_map,List.length_append,List.length_cons,List.length_nil];omega) (by kernel_rfl)) ?_
  conv=>whnf
  have hs2:=hto.1
  (refine aj [] (by kernel_rfl) (YP [] s (by simp) hs2) ?_ ?_;(focus trivial))
  rintro _ _ _ ⟨rfl,rfl,rfl⟩
  conv=>whnf
  have hpl:=Ar s hs2
  refine aI.i64 (by simp only [List.length_map,List.length_append,List.length_nil];omega) ?_
  conv=>whnf
  refine aI.i64 (by simp only;omega) ?_
  conv=>whnf
  have hbd:(b'.drop j).length≤100000:=gJ hb'
  have hfm:(ks++ [s]).flatMap iJ=ks.flatMap iJ++iJ s:=by simp
  refine aF ⟨ks++ [s],b'.drop j⟩ [(2, .lab 4)] [] rfl (by show n -(ks++ [s]).length<n-ks.length;rw [List.length_append];simp only [List.length_cons,List.length_nil];omega) ⟨hbd,by show (ks++ [s]).length≤n;rw [List.length_append];simp only [List.length_cons,List.length_nil];omega,fun t ht=> ?_,fun _=> ?_,fun l0 r hl ht hbb=> ?_⟩ ⟨⟨rfl,rfl,(nP ks s).symm⟩,⟨rfl,⟨rfl,rfl⟩,rfl,trivial⟩,trivial⟩ ⟨?_,rfl, ?_,trivial⟩
  ·rcases List.mem_append.1 ht with h | h
   ·exact k2 t h
   ·rw [List.mem_singleton.1 h];exact hs2
  ·show b=num (n:Int)++(ks++ [s]).flatMap iJ++b'.drop j
   rw [hfm,k3 rfl,List.append_assoc,List.append_assoc,List.append_assoc, ←aeC.2.1]
  ·exact⟨rfl,(k4 l0 r hl ht hbb).2.1,(hstep l0 r hl ht hbb).2⟩
  ·refine congrArg (fun n:Int=>Value.int .i64 n) ?_
   show _=((num (n:Int)++(ks++ [s]).flatMap iJ).length:Int)
   rw [hfm]
   simp only [List.length_map,List.length_append,List.nil_append]
   omega
  ·refine congrArg (fun n:Int=>Value.int .i64 n) ?_
   show _=((ks++ [s]).length:Int)
   rw [List.length_append];rfl
 ·have hkn:ks.length=n:=by simp at h;omega
  conv=>whnf
  refine aH [0] [] (by kernel_rfl) (tH b' e) rfl (by trivial) (by trivial) ?_
  rintro _ _ _ ⟨rfl,rfl,rfl⟩
  refine⟨rfl, ?_⟩
  conv=>whnf
  apply ah<;>intro h
  ·have he:e≠0:=by simpa using h
   conv=>whnf
   exact aV (.bH [tl [],iv (0:Nat),iv 1]) 0 [] [] [] ⟨[],0,1,Ox.bad fun l0 r ha hl h=>he (k4 l0 r ha hl h).1,rfl,rfl,rfl⟩ rfl trivial (by trivial)
  have he:e=0:=by simpa using h
  subst he
  have hbe:=k3 rfl
  have hbl:=congrArg List.length hbe
  simp only [List.length_append]at hbl
  have hdrop:(b.map dW).drop (num (n:Int)++ks.flatMap iJ).length=b'.map dW:=by
   rw [←List.map_drop,hbe,List.drop_left' rfl]
  have hfin:GT b fun l0 r=>ks=dsT l0∧b'=ints (Bq (dsT l0) l0)++r:=fun l0 r hl ht hb=>by
   have:=k4 l0 r hl ht hb
   exact this.2.2.fin (by omega)
  conv=>whnf
  refine lT.mk' (num (n:Int)++ks.flatMap iJ).length b.length rfl (by rw [List.length_map]) (by rw [List.length_append];omega) (by rw [List.length_map];exact Nat.le_refl _) ?_
  conv=>whnf
  rw [show cut (some (AV.v (.int .i64 (((num (n:Int)++ks.flatMap iJ).length:Nat):Int)))) none (num (n:Int)++ks.flatMap iJ).length b.length (b.map dW)=b'.map dW from hdrop]
  (refine aj [] (by kernel_rfl) (jP b' hb') ?_ ?_;(focus trivial))
  rintro _ _ _ ⟨il,m,f,hR,rfl,rfl,rfl⟩
  have hgood:GT b fun l0 r=>f=0∧il=Bq (dsT l0) l0∧ks=dsT l0:=fun l0 r hl ht hb=>by
   have h1:=hfin l0 r hl ht hb
   have h2:=qx l0
   have h3:=hR.2.2.2 _ r (L8 (dsT l0) l0 (fun x hx=>(oG l0 x).2 hx) (by omega)) (by rw [qy];exact hl) h1.2
   exact⟨h3.1,h3.2,h1.1⟩
  have hil:=hR.2.1
  have hR1:=hR.1
  clear hdrop hfin hR hC hk0
  conv=>whnf
  apply ah<;>intro h
  ·have he:f≠0:=by simpa using h
   conv=>whnf
   exact aV (.bH [tl [],iv (0:Nat),iv 1]) 0 [] [] [] ⟨[],0,1,Ox.bad fun l0 r ha hl h=>he (hgood l0 r ha hl h).1,rfl,rfl,rfl⟩ rfl trivial (by trivial)
  conv=>whnf
  refine bg Vo 4 [9,57] (fun i:Nat=> [(9, .own 3),(57,iv i)]) (fun i=> [(3, .rows 9 1 ((L9 ks (il.take i)).map xK)),(2, .rows 9 1 (ks.map xK)),(0,jS b' 0)]) (fun i=>i≤il.length∧∀j (h:j<il.length),j<i→0≤il[j]∧il[j]<(ks.length:Int)) (fun i=>il.length-i) [(3, .nil)] [] 0 (by kernel_rfl) (fun _=>rfl) rfl ⟨Nat.zero_le _,fun j _ h=>absurd h (Nat.not_lt_zero j)⟩ ⟨rfl,⟨rfl,rfl,rfl⟩,(by trivial),trivial⟩ ⟨trivial,rfl,trivial⟩ ?_
  rintro i ⟨hi,hin⟩
  conv=>whnf
  apply ah<;>intro h
  ·have hlt:i<il.length:=by simp at h;omega
   have hat:=List.getElem?_eq_getElem hlt
   conv=>whnf
   refine bC.mk' i rfl (fQ hlt) ?_
   conv=>whnf
   refine aS.aA hat ?_
   conv=>whnf
   have hbad : ¬(0≤il[i]∧il[i]<(ks.length:Int))→GT b fun _ _=>False:=fun hx l0 r hl ht hb=>by
    obtain⟨_,h2,h3⟩:=hgood l0 r hl ht hb
    have hlt':i<(Bq (dsT l0) l0).length:=by rw [←h2];exact hlt
    have e:il[i]=(Bq (dsT l0) l0)[i]'hlt':=by simp only [h2]
    rw [qy]at hlt'
    have e2:il[i]=((pK (dsT l0) l0[i]:Nat):Int):=by rw [e];simp [Bq]
    have:=(tK ((oG l0 l0[i]).2 (List.getElem_mem hlt'))).1
    exact hx (by rw [h3];omega)
   have hstep : ∀q:Nat,il[i]=(q:Int)→∀x,ks[q]? = some x→L9 ks (il.take (i+1))=L9 ks (il.take i)++ [x]:=fun q hq x hx=>SI hlt hq hx
   have hnx:(0≤il[i]∧il[i]<(ks.length:Int))→∀j (h:j<il.length),j<i+1→0≤il[j]∧il[j]<(ks.length:Int):=fun hx j h hj=>by
    rcases Nat.lt_or_ge j i with h4 | h4
    ·exact hin j h h4
    ·have:j=i:=by omega
     subst this;exact hx
   have hxI:I64 il[i]:=hR1 _ (List.getElem_mem hlt)
   generalize il[i]=x at *
   apply ah<;>intro h
   ·have hx:x<0:=by simpa using h
    conv=>whnf
    exact aV (.bH [tl [],iv (0:Nat),iv 1]) 0 [] [] [] ⟨[],0,1,Ox.bad (hbad (by omega)),rfl,rfl,rfl⟩ rfl trivial (by trivial)
   have hx0:0≤x:=by simpa using h
   conv=>whnf
   apply ah<;>intro h
   ·have hx:(ks.length:Int)≤x:=by simpa using h
    conv=>whnf
    exact aV (.bH [tl [],iv (0:Nat),iv 1]) 0 [] [] [] ⟨[],0,1,Ox.bad (hbad (by omega)),rfl,rfl,rfl⟩ rfl trivial (by trivial)
   have hx1:x<(ks.length:Int):=by simp at h;omega
   obtain⟨q,rfl⟩ : ∃q:Nat,x=(q:Int):=⟨x.toNat,by omega⟩
   have hq:q<ks.length:=by omega
   have hkq:=List.getElem?_eq_getElem hq
   conv=>whnf
   refine bC.mk' q rfl (fQ hq) ?_
   conv=>whnf
   refine aS.aA hkq ?_
   conv=>whnf
   have e1:=hstep q rfl ks[q] hkq
   have htl:(L9 ks (il.take i)).length≤512:=by rw [Mc,List.length_take];omega
   refine ay.mk (aG (by simp only [List.length_map,List.length_append,List.length_cons,List.length_nil];omega) (by kernel_rfl)) ?_
   conv=>whnf
   refine aI.i64 (by omega) ?_
   conv=>whnf
   exact aF (i+1) [(3, .lab 5)] [] rfl (by show il.length -(i+1)<il.length-i;omega) ⟨hlt,hnx ⟨hx0,hx1⟩⟩ ⟨⟨rfl,rfl,by rw [e1];exact(nP _ _).symm⟩,⟨rfl,rfl,rfl⟩,⟨rfl,(by trivial)⟩,trivial⟩ ⟨rfl,rfl,trivial⟩
  ·have hie:i=il.length:=by simp at h;omega
   subst hie
   rw [List.take_length]
   have hl5:(L9 ks il).length≤512:=by rw [Mc];exact hil
   have hok:=aaU k2 il
   have hG:GT b fun l0 r=>L9 ks il=l0:=fun l0 r hl ht hb=>by
    obtain⟨_,h2,h3⟩:=hgood l0 r hl ht hb
    rw [h2,h3]
    exact aaT fun x hx=>(oG l0 x).2 hx
   generalize L9 ks il=l at *
   conv=>whnf
   have hT:=Aw l hl5 hok
   have hpre:=oD b (ji l)
   (refine aj [3] (by kernel_rfl) (hT) ?_ ?_;(focus trivial))
   rintro _ _ _ ⟨rfl,rfl,rfl⟩
   conv=>whnf
   (refine bf [] (by kernel_rfl) (hpre) rfl ?_ ?_;(focus trivial))
   conv=>whnf
   apply ah<;>intro h
   ·have hp : ¬b.take (ji l).length=ji l:=by simpa using h
    conv=>whnf
    exact aV (.bH [tl [],iv (0:Nat),iv 1]) 0 [] [] [] ⟨[],0,1,Ox.bad fun l0 r ha hl h=>hp (by rw [hG l0 r ha hl h,h,List.take_left' rfl]),rfl,rfl,rfl⟩ rfl trivial (by trivial)
   ·have hp:b.take (ji l).length=ji l:=by simpa using h
    conv=>whnf
    exact aV (.bH [tl l,iv ((ji l).length:Nat),iv 0]) 0 [] [] [] ⟨l,(ji l).length,0,⟨hok,hl5, .inl ⟨rfl,rfl,hp⟩,fun l0 r ha hl h=>⟨rfl,hG l0 r ha hl h⟩⟩,rfl,rfl,rfl⟩ rfl trivial ⟨⟨rfl,rfl⟩,congrArg (fun n:Nat=>Value.int .i64 (n:Int)) (List.length_map _),rfl,trivial⟩
end
section
open Go Go.RowKit Go.Proofs Go.Proofs.YtocckceefcmeaaaGreatDoor.Vc Go.Proofs.YtocckceefcmeaaaGreatDoor.Ax
abbrev hdA (g f i n:Int):AV:= .agg [iv g,iv f,iv i,iv n]
theorem EF (n k:Nat)(m:Nat)(hm:m=k):IntKind.u8.wrap ((n:Int).fdiv (2^m))=((bt (n/2^k)).toNat:Int):=by
 subst hm
 rw [IntKind.wrap_u8,Int.fdiv_eq_ediv_of_nonneg _ (Int.le_of_lt (Int.pow_pos (by decide))),Ag]
 have e:((n:Int)/2^m)=((n/2^m:Nat):Int):=by simp
 rw [e];omega
theorem ac6 (n:Nat):IntKind.u8.wrap (n:Int)=((bt n).toNat:Int):=by
 rw [IntKind.wrap_u8,Ag];omega
theorem ac7 (G:Glob)(g f i n:Nat)(h1:g<4294967296)(h2:f<65536)(h3:i<256)(h4:n<256):bD Tryz.prog G 67 [hdA g f i n] 0 [] (Is (bs (hd g f i n))):=by
 refine au Tryz.func67 rfl mixed (by kernel_rfl) ?_
 conv=>whnf
 repeat' (first | (refine ay.mk (by decide) ?_;conv=>whnf) | (refine aI.to (EF g 24 _ rfl) ?_;conv=>whnf) | (refine aI.to (EF g 16 _ rfl) ?_;conv=>whnf) | (refine aI.to (EF g 8 _ rfl) ?_;conv=>whnf) | (refine aI.to (EF f 8 _ rfl) ?_;conv=>whnf) | (refine aI.to (ac6 _) ?_;conv=>whnf))
 refine aX [1] ⟨rfl,rfl, ?_⟩
 simp only [hd,be,List.range_succ,List.range_zero,List.nil_append,List.map_cons,List.map_nil,List.map_append,List.singleton_append,List.cons_append,dW]
 simp
theorem S9 (a b:Int)(l:By):0≤Dg.Ei a b l∧Dg.Ei a b l<18446744073709551616:=by
 unfold Dg.Ei Dg.S4.done Dg.xor
 simp only [bn]
 rw [IntKind.wrap_u64]
 omega
theorem ac8 (g f i n:Nat)(d:By):hw g f i n d<18446744073709551616∧hsh 101 [hd g f i n,d]=(hw g f i n d:Int):=by
 have h:=S9 101 0 (Dg.frame [hd g f i n,d])
 unfold hw hsh
 omega
theorem JV (a b:By):(Dg.frame [a,b]).length=16+a.length+b.length:=by
 simp only [Dg.frame,List.length_append,Dg.nM,List.length_nil];omega
theorem MB (G:Glob)(g f i n:Nat)(d:By)(h1:g<4294967296)(h2:f<65536)(h3:i<256)(h4:n<256)(hd_:d.length≤1000):bD Tryz.prog G 29 [hdA g f i n,bs d] 0 [] (Is (bs (sec g f i n d))):=by
 obtain⟨hH1,hH2⟩:=ac8 g f i n d
 have hP:=ac7 G g f i n h1 h2 h3 h4
 have hh:=acK G 101 [hd g f i n,d] (show 2≤1000 by decide) (by rw [JV,tu];omega)
 have hl:=tu g f i n
 have hW:=Rx G (hd g f i n) (hw g f i n d) (by omega) hH1
 rw [hH2]at hh
 have hl2:(hd g f i n++be 8 (hw g f i n d)).length=16:=by rw [List.length_append,lQ,hl]
 have hs:sec g f i n d=hd g f i n++be 8 (hw g f i n d)++d:=rfl
 rw [hs]
 clear hs
 generalize hd g f i n++be 8 (hw g f i n d)=x at *
 generalize hw g f i n d=y at *
 generalize hd g f i n=z at *
 refine au Tryz.func29 rfl mixed (by kernel_rfl) ?_
 conv=>whnf
 (refine aj [] (by kernel_rfl) (hP) ?_ ?_;(focus trivial))
 rintro _ _ _ ⟨rfl,rfl,rfl⟩
 conv=>whnf
 (refine aj [] (by kernel_rfl) (hP) ?_ ?_;(focus trivial))
 rintro _ _ _ ⟨rfl,rfl,rfl⟩
 conv=>whnf
 (refine bf [1] (by kernel_rfl) (hh) rfl ?_ ?_;(focus trivial))
 conv=>whnf
 refine aj [] (by kernel_rfl) hW (by trivial) ?_
 rintro _ _ _ ⟨rfl,rfl,rfl⟩
 conv=>whnf
 refine ay.mk (aG (by simp only [List.length_map];omega) (by kernel_rfl)) ?_
 conv=>whnf
 refine aX [3] ⟨rfl,rfl, ?_⟩
 simp only [List.map_append]
theorem Hu (G:Glob)(a b:By):bD Tryz.prog G 36 [bs a,bs b] 0 [] (Is (bv (decide (a=b)))):=by
 refine au Tryz.func36 rfl mixed (by kernel_rfl) ?_
 conv=>whnf
 refine IX.of ?_
 conv=>whnf
 refine IX.of ?_
 conv=>whnf
 refine aX [] ?_
 exact congrArg Value.bool (kH a b)
theorem Tc (s:By):hG s<4294967296:=by
 unfold hG
 have:=aaE (s.take 4)
 have h2:(s.take 4).length≤4:=List.length_take_le ..
 have h3:256^(s.take 4).length≤256^4:=Nat.pow_le_pow_right (by decide) h2
 have h4:(256:Nat)^4=4294967296:=by decide
 omega
theorem EG (a b:Nat)(ha:a<4611686018427387904)(hb:b<4611686018427387904):bn .or .i64 a b=((a ||| b:Nat):Int):=by
 have e:IntKind.i64.bits=64:=rfl
 have h:=Nat.or_lt_two_pow (n:=62) ha hb
 simp only [bn,e,kY,BitVec.toNat_or,BitVec.toNat_ofNat]
 rw [Nat.mod_eq_of_lt (by omega),Nat.mod_eq_of_lt (by omega)]
 exact IntWalk.i64_in _ (by omega)
theorem or_hi (c k a:Nat)(ha:a<2^k):c*2^k ||| a=c*2^k+a:=by rw [Nat.or_comm,vZ k c ha,Nat.add_comm]
theorem ac9 {s:By}(h:s.length=64):hG s=(s.getD 0 0).toNat*16777216+(s.getD 1 0).toNat*65536+(s.getD 2 0).toNat*256+(s.getD 3 0).toNat:=by
 match s,h with
 | a::b::c::d::r,_=>
  simp only [hG,Um,List.take_succ_cons,List.take_zero,List.foldl_cons,List.foldl_nil,List.getD_cons_zero,List.getD_cons_succ]
  omega
theorem ada {s:By}(h:s.length=64):hF s=(s.getD 4 0).toNat*256+(s.getD 5 0).toNat:=by
 match s,h with
 | _::_::_::_::a::b::r,_=>
  simp only [hF,Um,List.drop_succ_cons,List.drop_zero,List.take_succ_cons,List.take_zero,List.foldl_cons,List.foldl_nil,List.getD_cons_zero,List.getD_cons_succ]
  omega
theorem Td {a b c d:Nat}(ha:a<256)(hb:b<256)(hc:c<256)(hd:d<256):bn .or .i64 (bn .or .i64 (bn .or .i64 ((a*16777216:Nat):Int) ((b*65536:Nat):Int)) ((c*256:Nat):Int)) (d:Int)=((a*16777216+b*65536+c*256+d:Nat):Int):=by
 have e1:a*16777216 ||| b*65536=a*16777216+b*65536:=or_hi a 24 (b*65536) (by omega)
 have e2:(a*16777216+b*65536) ||| c*256=a*16777216+b*65536+c*256:=by
  have:=or_hi (a*256+b) 16 (c*256) (by omega)
  rw [show (a*256+b)*2^16=a*16777216+b*65536 by omega]at this
  exact this
 have e3:(a*16777216+b*65536+c*256) ||| d=a*16777216+b*65536+c*256+d:=by
  have:=or_hi (a*65536+b*256+c) 8 d (by omega)
  rw [show (a*65536+b*256+c)*2^8=a*16777216+b*65536+c*256 by omega]at this
  exact this
 rw [EG _ _ (by omega) (by omega),e1,EG _ _ (by omega) (by omega),e2,EG _ _ (by omega) (by omega),e3]
theorem Tf {a b:Nat}(ha:a<256)(hb:b<256):bn .or .i64 ((a*256:Nat):Int) (b:Int)=((a*256+b:Nat):Int):=by
 rw [EG _ _ (by omega) (by omega),show a*256 ||| b=a*256+b from or_hi a 8 b (by omega)]
theorem tV {a:Nat}(ha:a<256)(k:Nat)(m e:Nat)(he:e=k)(hm:2^k=m)(h:m≤16777216):IntKind.i64.wrap ((a:Int)*2^e)=((a*m:Nat):Int):=by
 subst he
 have:(2:Int)^e=(m:Int):=by rw [←hm];simp
 rw [this, ←Int.natCast_mul]
 have:=Nat.mul_le_mul (show a≤255 by omega) h
 exact IntWalk.i64_in _ (by omega)
theorem JW (G:Glob)(s:By):bD Tryz.prog G 32 [bs s] 0 [] (fun a n H=>n=0∧H = []∧∃g f i m:Nat,a = .bH [hdA g f i m,bv (kC s)]∧(kC s=true→g=hG s∧f=hF s∧i=hI s∧m=hN s)):=by
 refine au Tryz.func32 rfl mixed (by kernel_rfl) ?_
 conv=>whnf
 apply ah<;>intro h
 ·have hl:s.length≠64:=by simp at h;omega
  have hr:kC s=false:=by simp [kC,hl]
  conv=>whnf
  exact aV (.bH [hdA 0 0 0 0,bv false]) 0 [] [] [] ⟨rfl,rfl,0,0,0,0,by rw [hr];rfl,fun h=>by rw [hr]at h;cases h⟩ rfl trivial (by trivial)
 have hl:s.length=64:=by simp at h;omega
 have hk : ∀k,k<64→s[k]? = some (s.getD k 0):=fun k hk=>by rw [List.getD_eq_getElem?_getD,List.getElem?_eq_getElem (by omega),Option.getD_some]
 have e1:=ac9 hl
 have e2:=ada hl
 have e3:hI s=(s.getD 6 0).toNat:=rfl
 have e4:hN s=(s.getD 7 0).toNat:=rfl
 have k0:=hk 0 (by decide)
 have k1:=hk 1 (by decide)
 have k2:=hk 2 (by decide)
 have k3:=hk 3 (by decide)
 have k4:=hk 4 (by decide)
 have k5:=hk 5 (by decide)
 have k6:=hk 6 (by decide)
 have k7:=hk 7 (by decide)
 have hr:kC s=(decide (0<hG s)&&(decide (hI s<hN s)&&decide (s=sec (hG s) (hF s) (hI s) (hN s) (s.drop 16)))):=by
  unfold kC;rw [decide_eq_true hl,Bool.true_and]
 have hgl:=Tc s
 rw [e1,e2,e3,e4]at hr ⊢
 generalize s.getD 0 0=a0 at *
 generalize s.getD 1 0=a1 at *
 generalize s.getD 2 0=a2 at *
 generalize s.getD 3 0=a3 at *
 generalize s.getD 4 0=a4 at *
 generalize s.getD 5 0=a5 at *
 generalize s.getD 6 0=a6 at *
 generalize s.getD 7 0=a7 at *
 have l0:=a0.toNat_lt
 have l1:=a1.toNat_lt
 have l2:=a2.toNat_lt
 have l3:=a3.toNat_lt
 have l4:=a4.toNat_lt
 have l5:=a5.toNat_lt
 have l6:=a6.toNat_lt
 have l7:=a7.toNat_lt
 clear hk
 have q0:IntKind.i64.wrap ((a0.toNat:Int)*2^min (Int.toNat 24) IntKind.i64.bits)=_:=tV l0 24 16777216 _ rfl (by decide) (by decide)
 have q1:IntKind.i64.wrap ((a1.toNat:Int)*2^min (Int.toNat 16) IntKind.i64.bits)=_:=tV l1 16 65536 _ rfl (by decide) (by decide)
 have q2:IntKind.i64.wrap ((a2.toNat:Int)*2^min (Int.toNat 8) IntKind.i64.bits)=_:=tV l2 8 256 _ rfl (by decide) (by decide)
 have q4:IntKind.i64.wrap ((a4.toNat:Int)*2^min (Int.toNat 8) IntKind.i64.bits)=_:=tV l4 8 256 _ rfl (by decide) (by decide)
 conv=>whnf
 refine eu YA [] [(4,4),(9,49)] 2 [(4, .ptr 1 0)] [(1, .var 59 [iv ((a0.toNat*16777216+a1.toNat*65536+a2.toNat*256+a3.toNat:Nat):Int),iv ((a4.toNat*256+a5.toNat:Nat):Int),iv (a6.toNat:Nat),iv (a7.toNat:Nat)]),(0, .var 59 [iv 0,iv 0,iv 0,iv 0])] (by kernel_rfl) (by kernel_rfl) ?_ ?_
 ·conv=>whnf
  repeat' (first
   | (refine bC.mk' 0 rfl (by rw [List.length_map];omega) ?_;conv=>whnf) | (refine bC.mk' 1 rfl (by rw [List.length_map];omega) ?_;conv=>whnf) | (refine bC.mk' 2 rfl (by rw [List.length_map];omega) ?_;conv=>whnf) | (refine bC.mk' 3 rfl (by rw [List.length_map];omega) ?_;conv=>whnf) | (refine bC.mk' 4 rfl (by rw [List.length_map];omega) ?_;conv=>whnf) | (refine bC.mk' 5 rfl (by rw [List.length_map];omega) ?_;conv=>whnf) | (refine bC.mk' 6 rfl (by rw [List.length_map];omega) ?_;conv=>whnf) | (refine bC.mk' 7 rfl (by rw [List.length_map];omega) ?_;conv=>whnf)
   | (refine aS.aA k0 ?_;conv=>whnf) | (refine aS.aA k1 ?_;conv=>whnf) | (refine aS.aA k2 ?_;conv=>whnf) | (refine aS.aA k3 ?_;conv=>whnf)
   | (refine aS.aA k4 ?_;conv=>whnf) | (refine aS.aA k5 ?_;conv=>whnf) | (refine aS.aA k6 ?_;conv=>whnf) | (refine aS.aA k7 ?_;conv=>whnf)
   | (refine ay.mk (by decide) ?_;conv=>whnf)
   | (refine aI.i64 (by omega) ?_;conv=>whnf)
   | (with_reducible refine aI.to q0 ?_;conv=>whnf)
   | (with_reducible refine aI.to q1 ?_;conv=>whnf)
   | (with_reducible refine aI.to q2 ?_;conv=>whnf)
   | (with_reducible refine aI.to q4 ?_;conv=>whnf))
  refine jf [(1, .lab 1)] [] ?_ ?_ ?_
  ·rfl
  ·rw [Td l0 l1 l2 l3,Tf l4 l5]
   trivial
  ·trivial
 have hf5:a4.toNat*256+a5.toNat<65536:=by omega
 rw [e1]at hgl
 clear q0 q1 q2 q4 k0 k1 k2 k3 k4 k5 k6 k7 e1 e2 e3 e4
 generalize a0.toNat*16777216+a1.toNat*65536+a2.toNat*256+a3.toNat=g at *
 generalize a4.toNat*256+a5.toNat=f at *
 generalize a6.toNat=i at *
 generalize a7.toNat=m at *
 have afK:(s.drop 16).length=48:=by rw [List.length_drop,hl]
 have hS:=fun h=>MB G g f i m (s.drop 16) hgl hf5 l6 l7 h
 have hS:=hS (by omega)
 have hs2:s.length=64:=hl
 conv=>whnf
 refine aP YA [0] (by kernel_rfl) ?_
 refine RD [0,1,2,3,4] ?_
 conv=>whnf
 refine⟨LV 54 rfl (fun h=> ?_) (fun h=> ?_)⟩
 ·have hg0:0<g:=by have:=of_decide_eq_true h;omega
  refine RD [5,6,7,8,9,10,11] ?_
  conv=>whnf
  refine⟨LV 61 rfl (fun h=> ?_) (fun h=> ?_)⟩
  ·have him:i<m:=by have:=of_decide_eq_true h;omega
   have hrr:kC s=decide (sec g f i m (s.drop 16)=s):=by
    rw [hr,decide_eq_true hg0,decide_eq_true him,Bool.true_and,Bool.true_and]
    exact decide_eq_decide.2 eq_comm
   conv=>whnf
   refine lT.mk' 16 s.length rfl (by rw [List.length_map]) (by omega) (by rw [List.length_map];exact Nat.le_refl _) ?_
   conv=>whnf
   refine aj [] (by kernel_rfl) hS ⟨(by trivial),⟨rfl,List.map_drop.symm⟩,trivial⟩ ?_
   rintro _ _ _ ⟨rfl,rfl,rfl⟩
   conv=>whnf
   refine bf [] (by kernel_rfl) (Hu G s (sec g f i m (s.drop 16))) rfl (by trivial) ?_
   conv=>whnf
   exact aV (.bH [hdA g f i m,bv (kC s)]) 0 [] [] [] ⟨rfl,rfl,g,f,i,m,rfl,fun _=>⟨rfl,rfl,rfl,rfl⟩⟩ rfl trivial ⟨(by trivial),congrArg Value.bool (by rw [hrr];exact decide_eq_decide.2 eq_comm),trivial⟩
  ·have him : ¬i<m:=by have:=of_decide_eq_false h;omega
   have hrr:kC s=false:=by rw [hr,decide_eq_false him,Bool.false_and,Bool.and_false]
   conv=>whnf
   exact aV (.bH [hdA g f i m,bv (kC s)]) 0 [] [] [] ⟨rfl,rfl,g,f,i,m,rfl,fun _=>⟨rfl,rfl,rfl,rfl⟩⟩ rfl trivial ⟨(by trivial),congrArg Value.bool hrr.symm,trivial⟩
 ·have hg0:g=0:=by have:=of_decide_eq_false h;omega
  have hrr:kC s=false:=by rw [hr,decide_eq_false (by omega),Bool.false_and]
  conv=>whnf
  exact aV (.bH [hdA g f i m,bv (kC s)]) 0 [] [] [] ⟨rfl,rfl,g,f,i,m,rfl,fun _=>⟨rfl,rfl,rfl,rfl⟩⟩ rfl trivial ⟨(by trivial),congrArg Value.bool hrr.symm,trivial⟩
end
section
open Go Go.RowKit Go.Proofs Go.Proofs.YtocckceefcmeaaaGreatDoor.Vc Go.Proofs.YtocckceefcmeaaaGreatDoor.Ax Go.Proofs.YtocckceefcmeaaaGreatDoor.Ky
def Hw (s:By):Bool:=zX ⟨s.toArray⟩
def uJ (e:Ev):Int:=
 if ¬(e.kind=1∨e.kind=2∨e.kind=3)then 7
 else if Hw e.client=false∨Hw e.id=false∨(e.kind≠3∧Hw e.name=false)∨(e.kind=3∧Hw e.other=false)then 6
 else if e.seq<1∨1073741824<e.seq∨e.time<0∨1099511627776<e.time then 3
 else if e.kind=1∧(e.ver<0∨1099511627776<e.ver∨e.arm<1∨8<e.arm)then 3
 else if e.kind=2∧(e.val < -1099511627776∨1099511627776<e.val)then 3
 else if(e.kind=1∧(e.other≠ []∨e.val≠0))∨(e.kind=2∧(e.other≠ []∨e.ver≠0∨e.arm≠0))∨(e.kind=3∧(e.name≠ []∨e.ver≠0∨e.arm≠0∨e.val≠0∨e.other=e.id))then 15
 else 0
theorem iE (n a b:Int):bD Tryz.prog GS 130 [iv n,iv a,iv b] 0 [] (Is (bv (decide (a≤n)&&decide (n≤b)))):=by
 refine au Tryz.func130 rfl mixed (by kernel_rfl) ?_
 conv=>whnf
 repeat' (apply ah<;>intro h<;>(conv=>whnf))
 all_goals (refine aX [] (congrArg Value.bool ?_))
 all_goals (simp_all;try omega)
theorem XI (k:Int)(client:By)(seq time:Int)(id name other:By)(ver arm val:Int)(z1:client.length≤140737488355328)(z2:id.length≤140737488355328)(z3:name.length≤140737488355328)(z4:other.length≤140737488355328):bD Tryz.prog GS 85 [.agg [tv client,iv seq,iv k,iv time,tv id,tv name,tv other,iv ver,iv arm,iv val]] 0 [] (Is (.v (.int .i64 (uJ ⟨client,seq,k,time,id,name,other,ver,arm,val⟩)))):=by
 have k1:=Lr ⟨client.toArray⟩ (by show client.length≤_;omega)
 have k2:=Lr ⟨id.toArray⟩ (by show id.length≤_;omega)
 have k3:=Lr ⟨name.toArray⟩ (by show name.length≤_;omega)
 have k4:=Lr ⟨other.toArray⟩ (by show other.length≤_;omega)
 unfold uJ Hw
 generalize zX ⟨client.toArray⟩=b1 at *
 generalize zX ⟨id.toArray⟩=b2 at *
 generalize zX ⟨name.toArray⟩=b3 at *
 generalize zX ⟨other.toArray⟩=b4 at *
 clear z1 z2 z3 z4
 by_cases c1:k=1
 ·subst c1
  simp only [true_or,not_true,if_false,true_and,show ¬(1:Int)=2 by decide,show ¬(1:Int)=3 by decide,false_and,or_false,ne_eq,not_false_eq_true]
  refine au Tryz.func85 rfl mixed (by kernel_rfl) ?_
  conv=>whnf
  (refine aP La [] (by kernel_rfl) ?_;conv=>whnf)
  repeat' (first
   | ((refine bf [] (by kernel_rfl) (k1) rfl ?_ ?_;(focus (trivial;done));(conv=>whnf)))
   | ((refine bf [] (by kernel_rfl) (k2) rfl ?_ ?_;(focus (trivial;done));(conv=>whnf)))
   | ((refine bf [] (by kernel_rfl) (k3) rfl ?_ ?_;(focus (trivial;done));(conv=>whnf)))
   | ((refine bf [] (by kernel_rfl) (k4) rfl ?_ ?_;(focus (trivial;done));(conv=>whnf)))
   | ((refine bf [] (by kernel_rfl) (iE seq 1 1073741824) rfl ?_ ?_;(focus (trivial;done));(conv=>whnf)))
   | ((refine bf [] (by kernel_rfl) (iE time 0 1099511627776) rfl ?_ ?_;(focus (trivial;done));(conv=>whnf)))
   | ((refine bf [] (by kernel_rfl) (iE ver 0 1099511627776) rfl ?_ ?_;(focus (trivial;done));(conv=>whnf)))
   | ((refine bf [] (by kernel_rfl) (iE arm 1 8) rfl ?_ ?_;(focus (trivial;done));(conv=>whnf)))
   | ((refine bf [] (by kernel_rfl) (iE val (-1099511627776) 1099511627776) rfl ?_ ?_;(focus (trivial;done));(conv=>whnf)))
   | (apply ah<;>intro h<;>(first | (exfalso;simp only [*,Bool.not_true,Bool.not_false,Bool.false_eq_true,Bool.true_eq_false,reduceCtorEq]at *;done) | (conv=>whnf))))
  all_goals (refine aX [] (Eb ?_))
  all_goals (simp only [cond_true,cond_false,kH,Bool.not_eq_true',Bool.not_eq_false',decide_eq_true_eq,decide_eq_false_iff_not,beq_iff_eq,bne_iff_ne,beq_eq_false_iff_ne,bne_eq_false_iff_eq,ne_eq,Bool.not_eq_eq_eq_not,Bool.not_true,Bool.not_false,Decidable.not_not,gt_iff_lt,Int.not_lt]at *)
  all_goals (clear k1 k2 k3 k4)
  all_goals first
   | (simp_all;done)
   | (simp_all;omega)
   | ((repeat' split)<;>first | rfl | (exfalso;simp_all;done) | (exfalso;simp_all;omega))
 by_cases c2:k=2
 ·subst c2
  simp only [true_or,or_true,not_true,if_false,true_and,show ¬(2:Int)=1 by decide,show ¬(2:Int)=3 by decide,false_and,or_false,false_or,ne_eq,not_false_eq_true]
  refine au Tryz.func85 rfl mixed (by kernel_rfl) ?_
  conv=>whnf
  (refine aP La [] (by kernel_rfl) ?_;conv=>whnf)
  repeat' (first
   | ((refine bf [] (by kernel_rfl) (k1) rfl ?_ ?_;(focus (trivial;done));(conv=>whnf)))
   | ((refine bf [] (by kernel_rfl) (k2) rfl ?_ ?_;(focus (trivial;done));(conv=>whnf)))
   | ((refine bf [] (by kernel_rfl) (k3) rfl ?_ ?_;(focus (trivial;done));(conv=>whnf)))
   | ((refine bf [] (by kernel_rfl) (k4) rfl ?_ ?_;(focus (trivial;done));(conv=>whnf)))
   | ((refine bf [] (by kernel_rfl) (iE seq 1 1073741824) rfl ?_ ?_;(focus (trivial;done));(conv=>whnf)))
   | ((refine bf [] (by kernel_rfl) (iE time 0 1099511627776) rfl ?_ ?_;(focus (trivial;done));(conv=>whnf)))
   | ((refine bf [] (by kernel_rfl) (iE ver 0 1099511627776) rfl ?_ ?_;(focus (trivial;done));(conv=>whnf)))
   | ((refine bf [] (by kernel_rfl) (iE arm 1 8) rfl ?_ ?_;(focus (trivial;done));(conv=>whnf)))
   | ((refine bf [] (by kernel_rfl) (iE val (-1099511627776) 1099511627776) rfl ?_ ?_;(focus (trivial;done));(conv=>whnf)))
   | (apply ah<;>intro h<;>(first | (exfalso;simp only [*,Bool.not_true,Bool.not_false,Bool.false_eq_true,Bool.true_eq_false,reduceCtorEq]at *;done) | (conv=>whnf))))
  all_goals (refine aX [] (Eb ?_))
  all_goals (simp only [cond_true,cond_false,kH,Bool.not_eq_true',Bool.not_eq_false',decide_eq_true_eq,decide_eq_false_iff_not,beq_iff_eq,bne_iff_ne,beq_eq_false_iff_ne,bne_eq_false_iff_eq,ne_eq,Bool.not_eq_eq_eq_not,Bool.not_true,Bool.not_false,Decidable.not_not,gt_iff_lt,Int.not_lt]at *)
  all_goals (clear k1 k2 k3 k4)
  all_goals first
   | (simp_all;done)
   | (simp_all;omega)
   | ((repeat' split)<;>first | rfl | (exfalso;simp_all;done) | (exfalso;simp_all;omega))
 by_cases c3:k=3
 ·subst c3
  simp only [or_true,not_true,if_false,true_and,show ¬(3:Int)=1 by decide,show ¬(3:Int)=2 by decide,false_and,false_or,ne_eq]
  refine au Tryz.func85 rfl mixed (by kernel_rfl) ?_
  conv=>whnf
  (refine aP La [] (by kernel_rfl) ?_;conv=>whnf)
  repeat' (first
   | ((refine bf [] (by kernel_rfl) (k1) rfl ?_ ?_;(focus (trivial;done));(conv=>whnf)))
   | ((refine bf [] (by kernel_rfl) (k2) rfl ?_ ?_;(focus (trivial;done));(conv=>whnf)))
   | ((refine bf [] (by kernel_rfl) (k3) rfl ?_ ?_;(focus (trivial;done));(conv=>whnf)))
   | ((refine bf [] (by kernel_rfl) (k4) rfl ?_ ?_;(focus (trivial;done));(conv=>whnf)))
   | ((refine bf [] (by kernel_rfl) (iE seq 1 1073741824) rfl ?_ ?_;(focus (trivial;done));(conv=>whnf)))
   | ((refine bf [] (by kernel_rfl) (iE time 0 1099511627776) rfl ?_ ?_;(focus (trivial;done));(conv=>whnf)))
   | ((refine bf [] (by kernel_rfl) (iE ver 0 1099511627776) rfl ?_ ?_;(focus (trivial;done));(conv=>whnf)))
   | ((refine bf [] (by kernel_rfl) (iE arm 1 8) rfl ?_ ?_;(focus (trivial;done));(conv=>whnf)))
   | ((refine bf [] (by kernel_rfl) (iE val (-1099511627776) 1099511627776) rfl ?_ ?_;(focus (trivial;done));(conv=>whnf)))
   | (apply ah<;>intro h<;>(first | (exfalso;simp only [*,Bool.not_true,Bool.not_false,Bool.false_eq_true,Bool.true_eq_false,reduceCtorEq]at *;done) | (conv=>whnf))))
  all_goals (refine aX [] (Eb ?_))
  all_goals (simp only [cond_true,cond_false,kH,Bool.not_eq_true',Bool.not_eq_false',decide_eq_true_eq,decide_eq_false_iff_not,beq_iff_eq,bne_iff_ne,beq_eq_false_iff_ne,bne_eq_false_iff_eq,ne_eq,Bool.not_eq_eq_eq_not,Bool.not_true,Bool.not_false,Decidable.not_not,gt_iff_lt,Int.not_lt]at *)
  all_goals (clear k1 k2 k3 k4)
  all_goals first
   | (simp_all;done)
   | (simp_all;omega)
   | ((repeat' split)<;>first | rfl | (exfalso;simp_all;done) | (exfalso;simp_all;omega))
 have q1:(k==1)=false:=by simpa using c1
 have q2:(k==2)=false:=by simpa using c2
 have q3:(k==3)=false:=by simpa using c3
 refine au Tryz.func85 rfl mixed (by kernel_rfl) ?_
 conv=>whnf
 (refine aP La [] (by kernel_rfl) ?_;conv=>whnf)
 rw [q1]
 conv=>whnf
 rw [q2]
 conv=>whnf
 rw [q3]
 conv=>whnf
 exact aX [] (Eb (by simp [c1,c2,c3]))
theorem XJ (e:Ev)(he:e.ok):bD Tryz.prog GS 85 [evA e] 0 [] (Is (.v (.int .i64 (uJ e)))):=
 XI e.kind e.client e.seq e.time e.id e.name e.other e.ver e.arm e.val he.client he.id he.name he.other
end
section
open Go Go.RowKit Go.Proofs Go.Proofs.YtocckceefcmeaaaGreatDoor.Vc Go.Proofs.YtocckceefcmeaaaGreatDoor.Ax
def XK (a:Int)(l:List Ev):Int:=l.foldl (fun a e=>min a e.time) a
def hiT (a:Int)(l:List Ev):Int:=l.foldl (fun a e=>max a e.time) a
def kK (l:List Ev):Int×Int:=match l with | []=>(0,0) | e::_=>(XK e.time l,hiT e.time l)
theorem Ti {l:List Ev}{i:Nat}(a:Int)(h:i<l.length):XK a (l.take (i+1))=min (XK a (l.take i)) l[i].time:=by
 unfold XK;rw [List.take_succ_eq_append_getElem h,List.foldl_append];rfl
theorem Tj {l:List Ev}{i:Nat}(a:Int)(h:i<l.length):hiT a (l.take (i+1))=max (hiT a (l.take i)) l[i].time:=by
 unfold hiT;rw [List.take_succ_eq_append_getElem h,List.foldl_append];rfl
theorem XL {l:List Ev}{a lo hi:Int}(h1:lo≤a∧a≤hi)(h : ∀e∈l,lo≤e.time∧e.time≤hi):lo≤XK a l∧XK a l≤hi∧lo≤hiT a l∧hiT a l≤hi:=by
 unfold XK hiT
 have : ∀(l:List Ev) (a b:Int),(lo≤a∧a≤hi)→(lo≤b∧b≤hi)→(∀e∈l,lo≤e.time∧e.time≤hi)→lo≤l.foldl (fun a e=>min a e.time) a∧l.foldl (fun a e=>min a e.time) a≤hi∧lo≤l.foldl (fun a e=>max a e.time) b∧l.foldl (fun a e=>max a e.time) b≤hi:=by
  intro l
  induction l with
  | nil=>intro a b h1 h2 _;exact⟨h1.1,h1.2,h2.1,h2.2⟩
  | cons e r ih=>
   intro a b h1 h2 h
   have he:=h e List.mem_cons_self
   simp only [List.foldl_cons]
   exact ih _ _ (by omega) (by omega) fun x hx=>h x (List.mem_cons_of_mem _ hx)
 exact this l a a h1 h1 h
theorem Tm (e:Ev)(r:List Ev)(hl:(e::r).length≤1000000):bD Tryz.prog GS 123 [el (e::r)] 0 [] (Is (.bH [iv (XK e.time (e::r)),iv (hiT e.time (e::r))])):=by
 generalize hl0:e::r=l at *
 have h0:l[0]? = some e:=by rw [←hl0];rfl
 have hpos:0<l.length:=by rw [←hl0];simp
 refine au Tryz.func123 rfl mixed (by kernel_rfl) ?_
 conv=>whnf
 (refine aP Qr [] (by kernel_rfl) ?_;conv=>whnf)
 repeat' (first
  | (refine And.intro ?_ ?_<;>(conv=>whnf))
  | (refine bC.mk' 0 rfl (fQ hpos) ?_;conv=>whnf)
  | (refine aS.aA h0 ?_;conv=>whnf))
 refine bg Vj 0 [4,5,18] (fun i:Nat=> [(4,iv (XK e.time (l.take i))),(5,iv (hiT e.time (l.take i))),(18,iv i)]) (fun _=> []) (fun i=>i≤l.length) (fun i=>l.length-i) [] [] 0 (by kernel_rfl) (fun _=>rfl) rfl (Nat.zero_le _) trivial ⟨rfl,rfl,rfl,trivial⟩ ?_
 intro i hi
 conv=>whnf
 apply ah<;>intro h
 ·have hlt:i<l.length:=by simp at h;omega
  conv=>whnf
  refine bC.mk' i rfl (fQ hlt) ?_
  conv=>whnf
  refine aS.aA (List.getElem?_eq_getElem hlt) ?_
  conv=>whnf
  (refine aP Qr [] (by kernel_rfl) ?_;conv=>whnf)
  refine aI.i64 (by omega) ?_
  conv=>whnf
  exact aF (i+1) [] [] rfl (by show l.length -(i+1)<l.length-i;omega) hlt trivial ⟨Eb (Ti _ hlt).symm,Eb (Tj _ hlt).symm,rfl,trivial⟩
 ·have hie:i=l.length:=by simp at h;omega
  subst hie
  rw [List.take_length]
  conv=>whnf
  exact aX [] (by trivial)
theorem C9 {n:Nat}(h:n≤100000):n*112≤140737488355328∧n≤maxLen:=⟨by omega,by unfold maxLen;omega⟩
theorem MC (l:List Ev)(hl:l≠ [])(hs:l.length≤10000):bD Tryz.prog GS 80 [el l] 0 [] (lM 95 10 (l.map jg)):=by
 have h0:0<l.length:=List.length_pos_iff.2 hl
 refine au Tryz.func80 rfl mixed (by kernel_rfl) ?_
 conv=>whnf
 refine⟨fun b hb=> ?_⟩
 rw [hb (fQ h0)]
 conv=>whnf
 refine ay.mk (C9 (by simp only [List.length_map,List.length_nil];omega)) ?_
 conv=>whnf
 exact aV (.own 0) 1 _ [(0, .lab 1)] [] ⟨rfl,rfl,rfl⟩ rfl (by trivial) (by trivial)
abbrev fV (f:Nat):FV:= .v (.func (.func f) #[] #[])
theorem Hy:bD Tryz.prog GS 120 [] 0 [] (lM 160 2 [[fV 143, .lst 1 [[fV 144],[fV 145],[fV 146]]],
  [fV 147, .v (.slice none 0 0)],[fV 148, .v (.slice none 0 0)],[fV 149, .lst 1 [[fV 150],[fV 151],[fV 152]]]]):=by
 refine au Tryz.func120 rfl mixed (by kernel_rfl) ?_
 conv=>whnf
 exact aV (.own 0) 1 _ [(0, .lab 2)] [] ⟨rfl,rfl,rfl⟩ rfl (by trivial) (by trivial)
end
end Go.Proofs.YtocckceefcmeaaaGreatDoor.Cl
