/- Joined parts of the proof. Lists of texts in plain Lean: sorted without repetitions, how they are written, and what is known of a reading if the by -/
import Derived.Test.YtocckceefcmeaaaGreatDoorPk15
import Derived.Sort.Walk0
import Derived.Test.YtocckceefcmeaaaGreatDoorPk12
import Derived.Test.YtocckceefcmeaaaGreatDoorPk10
import Derived.Test.YtocckceefcmeaaaGreatDoorPk11
set_option linter.unusedVariables false
set_option linter.unusedSimpArgs false
set_option maxRecDepth 100000
set_option maxHeartbeats 16000000
namespace Go.Proofs.YtocckceefcmeaaaGreatDoor.Cl
def gY (s:By):By:=num (s.length:Int)++s
def Aw (d l:Tx):Li:=l.map fun s=>((oN d s:Nat):Int)
def iQ (l:Tx):By:=num ((dsT l).length:Int)++(dsT l).flatMap gY++ints (Aw (dsT l) l)
def xP (l:Tx):Prop:= ∀s∈l,s.length≤200
theorem La (d l:Tx)(hl : ∀x∈l,x∈d)(hd:d.length≤1000000):bZ (Aw d l):=fun x hx=>by
 obtain⟨s,hs,e⟩:=List.mem_map.1 hx
 have:=(rZ (hl s hs)).1
 rw [←e];exact bU (by omega)
theorem pO (d l:Tx):(Aw d l).length=l.length:=List.length_map _
theorem zQ (s:By)(h:s.length≤200):(gY s).length≤210∧0<(gY s).length:=by
 have:=bn (s.length:Int)
 unfold gY
 rw [List.length_append];omega
theorem xP.ds {l:Tx}(h:xP l):xP (dsT l):=fun s hs=>h s ((nJ l s).1 hs)
theorem xP.take {l:Tx}(h:xP l)(k:Nat):xP (l.take k):=fun s hs=>h s (List.mem_of_mem_take hs)
theorem su (d:Tx)(h:xP d):(d.flatMap gY).length≤210*d.length:=zD gY 210 d fun s hs=>(zQ s (h s hs)).1
theorem lH (l:Tx)(h:xP l)(hl:l.length≤512):(iQ l).length≤5134+210*l.length:=by
 have h1:=su (dsT l) h.ds
 have h2:=pK l
 have h3:=(bn ((dsT l).length:Int)).2
 have h4:=bV (Aw (dsT l) l) (by rw [pO];exact hl)
 unfold iQ
 simp only [List.length_append]
 omega
def Bf (b:By)(e:Int):By×Nat×Int:=
 let c:=iD b e 200 4
 if c.2.2=0 then(if((b.drop c.2.1).length:Int)<c.1 then([],c.2.1,16)else((b.drop c.2.1).take c.1.toNat,c.2.1+c.1.toNat,0))else([],c.2.1,c.2.2)
theorem Ea (b:By)(e:Int):Bf b e=if(iD b e 200 4).2.2=0 then(if((b.drop (iD b e 200 4).2.1).length:Int)<(iD b e 200 4).1 then([],(iD b e 200 4).2.1,16)else((b.drop (iD b e 200 4).2.1).take (iD b e 200 4).1.toNat,(iD b e 200 4).2.1+(iD b e 200 4).1.toNat,0))else([],(iD b e 200 4).2.1,(iD b e 200 4).2.2):=rfl
theorem aam (b:By)(e:Int):(Bf b e).1.length≤200∧(Bf b e).2.1≤b.length∧((Bf b e).2.2=0→e=0∧b=gY (Bf b e).1++b.drop (Bf b e).2.1∧(Bf b e).2.1=(gY (Bf b e).1).length)∧((Bf b e).2.2≠0→(Bf b e).1 = []):=by
 have hr:=jX b e 200 4 (by decide) (by decide)
 have o:=jc b e
 rw [Ea]
 generalize iD b e 200 4=c at *
 obtain⟨x,k,e'⟩:=c
 simp only at hr ⊢
 obtain⟨h1,h2,h3,h4⟩:=hr
 by_cases he:e'=0
 ·rw [if_pos he]
  have h5:=h4 he
  have o3:=o.2.2.1 h5.1
  rw [←h5.2, ←h3]at o3
  have hk:k≤b.length:=by rw [h3];exact o.2.1
  by_cases hs:((b.drop k).length:Int)<x
  ·rw [if_pos hs]
   exact⟨by simp,hk,fun h=>by simp at h,fun _=>rfl⟩
  ·rw [if_neg hs]
   have hl:(b.drop k).length=b.length-k:=List.length_drop
   have hx:((x.toNat:Nat):Int)=x:=by omega
   have ht:((b.drop k).take x.toNat).length=x.toNat:=by rw [List.length_take];omega
   have hp:gY ((b.drop k).take x.toNat)=num x++(b.drop k).take x.toNat:=by unfold gY;rw [ht,hx]
   refine⟨by simp only [ht];omega,by simp only;omega,fun _=>⟨o3.1, ?_, ?_⟩,fun h=>absurd rfl h⟩
   ·simp only
    rw [hp, ←List.drop_drop,List.append_assoc,List.take_append_drop]
    exact o3.2.1
   ·simp only
    rw [hp,List.length_append,ht, ←o3.2.2]
 ·rw [if_neg he]
  exact⟨by simp,by simp only;rw [h3];exact o.2.1,fun h=>absurd h he,fun _=>rfl⟩
theorem Eb {b:By}{e most em:Int}{n:Nat}(h1:(bP b e).1=(n:Int))(h2:(bP b e).2.2=0)(hm:(n:Int)≤most):iD b e most em=((n:Int),(bP b e).2.1,0):=by
 rw [jW,h1,h2]
 have a1 : ¬((n:Int)<0):=by omega
 have a2 : ¬(most<(n:Int)):=by omega
 simp only [a1,a2,if_true,if_false]
theorem W9 {s b r:By}(hs:s.length≤200)(h:b=gY s++r):Bf b 0=(s,(gY s).length,0):=by
 have hb:b=num (s.length:Int)++(s++r):=by rw [h];unfold gY;rw [List.append_assoc]
 have r1:=Jg (b:=b) (e:=0) (bU (by omega:s.length≤9223372036854775807)) rfl hb
 have o3:=(jc b 0).2.2.1 r1.2.1
 rw [r1.1]at o3
 have hc:iD b 0 200 4=((s.length:Int),(bP b 0).2.1,0):=Eb r1.1 r1.2.1 (by omega)
 rw [Ea,hc]
 simp only [if_true]
 rw [r1.2.2,if_neg (by rw [List.length_append];omega),Int.toNat_natCast,List.take_left' rfl,o3.2.2]
 unfold gY
 rw [List.length_append]
def QT (l0:Tx)(r:By)(ks:Tx)(b':By):Prop:= ∃rest,dsT l0=ks++rest∧b'=rest.flatMap gY++(ints (Aw (dsT l0) l0)++r)
theorem QT.step {l0:Tx}{r:By}{ks:Tx}{b':By}(ht:xP l0)(hlt:ks.length<(dsT l0).length)(h:QT l0 r ks b'):(Bf b' 0).2.2=0∧QT l0 r (ks++ [(Bf b' 0).1]) (b'.drop (Bf b' 0).2.1):=by
 obtain⟨rest,h1,h2⟩:=h
 cases rest with
 | nil=>rw [h1]at hlt;simp at hlt
 | cons y rest=>
  have hy:y.length≤200:=ht.ds y (by rw [h1];simp)
  have:=W9 (b:=b') (r:=rest.flatMap gY++(ints (Aw (dsT l0) l0)++r)) hy (by rw [h2];simp)
  rw [this]
  refine⟨rfl,rest,by rw [h1];simp, ?_⟩
  rw [h2]
  simp only [List.flatMap_cons,List.append_assoc]
  rw [List.drop_left' rfl]
theorem QT.fin {l0:Tx}{r:By}{ks:Tx}{b':By}(hlen:ks.length=(dsT l0).length)(h:QT l0 r ks b'):ks=dsT l0∧b'=ints (Aw (dsT l0) l0)++r:=by
 obtain⟨rest,h1,h2⟩:=h
 have hr:rest = []:=by
  rw [h1,List.length_append]at hlen
  exact List.eq_nil_of_length_eq_zero (by omega)
 subst hr
 exact⟨by rw [h1];simp,by rw [h2];simp⟩
def GT (b:By)(Q:Tx→By→Prop):Prop:= ∀l0 r,l0.length≤512→xP l0→b=iQ l0++r→Q l0 r
theorem Xa (b:By):GT b fun l0 r=>(iD b 0 512 5).2.2=0∧(iD b 0 512 5).1=((dsT l0).length:Int)∧QT l0 r [] (b.drop (iD b 0 512 5).2.1):=fun l0 r hl ht h=>by
 have hd:=pK l0
 have hb:b=num ((dsT l0).length:Int)++((dsT l0).flatMap gY++(ints (Aw (dsT l0) l0)++r)):=by rw [h];unfold iQ;simp only [List.append_assoc]
 have r1:=Jg (b:=b) (e:=0) (bU (by omega:(dsT l0).length≤9223372036854775807)) rfl hb
 have hc:iD b 0 512 5=(((dsT l0).length:Int),(bP b 0).2.1,0):=Eb r1.1 r1.2.1 (by omega)
 rw [hc]
 exact⟨rfl,rfl,dsT l0,rfl,r1.2.2⟩
def Lc (ks:Tx)(il:Li):Tx:=il.map fun i=>ks.getD i.toNat []
theorem Ld (ks:Tx)(il:Li):(Lc ks il).length=il.length:=List.length_map _
theorem aan {d l:Tx}(h : ∀x∈l,x∈d):Lc d (Aw d l)=l:=by
 induction l with
 | nil=>rfl
 | cons x r ih=>
  have h1:=(rZ (h x (by simp))).2
  have h2:=ih fun y hy=>h y (by simp [hy])
  unfold Lc Aw at *
  simp only [List.map_cons,Int.toNat_natCast,List.getD_eq_getElem?_getD,h1,Option.getD_some]
  simp only [List.getD_eq_getElem?_getD]at h2
  rw [h2]
theorem aao {ks:Tx}(h:xP ks)(il:Li):xP (Lc ks il):=fun s hs=>by
 obtain⟨i,_,e⟩:=List.mem_map.1 hs
 rw [←e,List.getD_eq_getElem?_getD]
 cases hk:ks[i.toNat]? with
 | none=>simp
 | some x=>simpa using h x (List.mem_of_getElem? hk)
theorem Rt {ks:Tx}{il:Li}{k i:Nat}{x:By}(hk:k<il.length)(hi:il[k]=(i:Int))(hx:ks[i]? = some x):Lc ks (il.take (k+1))=Lc ks (il.take k)++ [x]:=by
 unfold Lc
 rw [List.take_succ_eq_append_getElem hk,List.map_append,hi]
 simp only [List.map_cons,List.map_nil,Int.toNat_natCast,List.getD_eq_getElem?_getD,hx,Option.getD_some]
def NP (b:By)(l:Tx)(n:Nat)(e:Int):Prop:=xP l∧l.length≤512∧((e=0∧n=(iQ l).length∧b.take (iQ l).length=iQ l)∨(e=1∧l = []∧n=0))∧GT b fun l0 _=>e=0∧l=l0
theorem NP.bad {b:By}(h:GT b fun _ _=>False):NP b [] 0 1:=⟨fun _ h=>(by cases h),Nat.zero_le _, .inr ⟨rfl,rfl,rfl⟩,fun l0 r ha hl hb=>(h l0 r ha hl hb).elim⟩
theorem NP.two (b:By){l:Tx}{n:Nat}{e:Int}(h1:NP b l n e){l':Tx}{n':Nat}{e':Int}(h2:NP b l' n' e'):l=l'∧n=n'∧e=e':=by
 obtain⟨a1,a2,a3,a4⟩:=h1
 obtain⟨b1,b2,b3,b4⟩:=h2
 rcases a3 with ⟨rfl,rfl,p1⟩ | ⟨rfl,rfl,rfl⟩
 ·have:=b4 l (b.drop (iQ l).length) a2 a1 (by conv=>lhs;rw [←List.take_append_drop (iQ l).length b,p1])
  obtain⟨rfl,rfl⟩:=this
  rcases b3 with ⟨_,rfl,_⟩ | ⟨h,_⟩
  ·exact⟨rfl,rfl,rfl⟩
  ·omega
 ·rcases b3 with ⟨rfl,rfl,p1⟩ | ⟨rfl,rfl,rfl⟩
  ·have:=a4 l' (b.drop (iQ l').length) b2 b1 (by conv=>lhs;rw [←List.take_append_drop (iQ l').length b,p1])
   omega
  ·exact⟨rfl,rfl,rfl⟩
attribute [local irreducible] loadVar storeVar Instr.indexAt Instr.index Instr.sliceAt Instr.makeSlice Instr.lookup Instr.mapUpdate Instr.range Instr.next Instr.entry Instr.makeMap Builtin.append_ Builtin.copy_ Builtin.len_ Builtin.min_ Builtin.max_ Builtin.cap_ Builtin.delete_ Builtin.clear_ convert binOp eqGuard Op.unary Calls
section
open Go Go.RowKit Go.Proofs Go.Proofs.YtocckceefcmeaaaGreatDoor.Vc Go.Proofs.YtocckceefcmeaaaGreatDoor.Ax
theorem acv {l:Nat}(h:l≤4194304):l≤140737488355328∧l≤maxLen:=⟨by omega,by unfold maxLen;omega⟩
theorem Yk (b s:By)(hb:b.length≤2000000)(hs:s.length≤200):bC Tryz.prog GC 156 [bs b,tv s] 0 [] (kW 5 1 ((b++gY s).map dO)):=by
 have hl:=(bn (s.length:Int)).2
 refine au Tryz.func156 rfl mixed (by kernel_rfl) ?_
 conv=>whnf
 (refine ak [] (by kernel_rfl) (KU (s.length:Int) (bU (by omega))) ?_ ?_;(focus trivial))
 rintro _ _ _ ⟨rfl,rfl,rfl⟩
 conv=>whnf
 refine ay.mk (acv (by rw [List.length_map];show _+s.length≤_;omega)) ?_
 conv=>whnf
 have h:=Z7 b (gY s) (by have:=zQ s hs;omega)
 refine ak [1] (by kernel_rfl) h ⟨⟨rfl,rfl⟩,⟨rfl,rfl,by unfold gY;rw [List.map_append]⟩,trivial⟩ ?_
 rintro _ _ _ ⟨rfl,rfl,rfl⟩
 conv=>whnf
 exact aU (.own 0) 1 _ [(0, .lab 2)] [] ⟨rfl,rfl,rfl⟩ rfl (by trivial) (by trivial)
theorem Xb (l:Tx)(hl:l≠ [])(hs:l.length≤100000):bC Tryz.prog GC 153 [tl l] 0 [] (kW 9 1 (l.map wQ)):=by
 have h0:0<l.length:=List.length_pos_iff.2 hl
 refine au Tryz.func153 rfl mixed (by kernel_rfl) ?_
 conv=>whnf
 refine⟨fun b hb=> ?_⟩
 rw [hb (iT h0)]
 conv=>whnf
 (repeat' ((first | refine And.intro ?_ ?_ | (apply ah<;>intro h<;>try simp only [bl]at h) | refine aK.i64 (by first | omega | ((try simp only [List.length_map]at *);omega)) ?_ | refine bD.mk' _ rfl (by first | omega | (simp only [ln];omega) | (simp only [ln]at *;omega)) ?_ | refine aT.aB (by assumption) ?_ | refine aT.set (by(try simp only [ln]at *);omega) ?_ | refine aT.map (by first | omega | (simp only [List.length_map]at *;omega)) ?_ | refine ay.mk (by first | decide | omega) ?_ | refine jR.mk (by kernel_rfl) rfl rfl ?_ | refine ay.mk (aF (by(try simp only [ln]at *);omega) (by kernel_rfl)) ?_)<;>conv=>whnf))
 exact aU (.own 0) 1 _ [(0, .lab 1)] [] ⟨rfl,rfl,rfl⟩ rfl (by trivial) (by trivial)
theorem Ru (s:ByteArray):(!oh s s)=false:=by rw [Uk];simp
theorem acw (s:By):bC Tryz.prog GC 200 [tv s] 0 [] (Is (bv false)):=by
 refine au Tryz.func200 rfl mixed (by kernel_rfl) ?_
 conv=>whnf
 exact aZ [] (congrArg Value.bool (Ru _))
theorem aap (x y:By):bC Tryz.prog GC 174 [tv x,tv y] 0 [] (Is (bv (decide (x<y)))):=by
 have e:=aak x y
 refine au Tryz.func174 rfl mixed (by kernel_rfl) ?_
 conv=>whnf
 (refine aW [] (by kernel_rfl) (acw x) rfl ?_ ?_;(focus trivial))
 conv=>whnf
 rw [←e]
 (repeat' ((first | refine And.intro ?_ ?_ | (apply ah<;>intro h<;>try simp only [bl]at h) | refine aK.i64 (by first | omega | ((try simp only [List.length_map]at *);omega)) ?_ | refine bD.mk' _ rfl (by first | omega | (simp only [ln];omega) | (simp only [ln]at *;omega)) ?_ | refine aT.aB (by assumption) ?_ | refine aT.set (by(try simp only [ln]at *);omega) ?_ | refine aT.map (by first | omega | (simp only [List.length_map]at *;omega)) ?_ | refine ay.mk (by first | decide | omega) ?_ | refine jR.mk (by kernel_rfl) rfl rfl ?_ | refine ay.mk (aF (by(try simp only [ln]at *);omega) (by kernel_rfl)) ?_)<;>conv=>whnf))
 all_goals first
  | exact aZ [] (by trivial)
  | exact aZ [] (congrArg Value.bool (by assumption))
theorem Rw (d:Tx)(x:By)(hd:NJ d)(hx:x∈d)(hs:d.length≤1000000):bC Tryz.prog GC 157 [tl d,tv x] 0 [] (Is (.bG [iv (oN d x),bv true])):=by
 have hi:=rZ hx
 refine au Tryz.func157 rfl mixed (by kernel_rfl) ?_
 conv=>whnf
 refine bf UY 0 [7,8] (fun x:Nat×Nat=> [(7,iv x.1),(8,iv x.2)]) (fun _=> []) (fun y=>y.1≤oN d x∧oN d x≤y.2∧y.2≤d.length) (fun y=>y.2-y.1) [] [] (0,d.length) (by kernel_rfl) (fun _=>rfl) rfl ⟨Nat.zero_le _,Nat.le_of_lt hi.1,Nat.le_refl _⟩ trivial ⟨rfl,congrArg (fun n:Nat=>Value.int .i64 (n:Int)) (List.length_map _),trivial⟩ ?_
 rintro⟨i,j⟩ ⟨h1,h2,h3⟩
 change i≤oN d x at h1
 change oN d x≤j at h2
 change j≤d.length at h3
 conv=>whnf
 apply ah<;>intro h
 ·have hlt:i<j:=by simp at h;omega
  conv=>whnf
  (repeat' ((first | refine And.intro ?_ ?_ | (apply ah<;>intro h<;>try simp only [bl]at h) | refine aK.i64 (by first | omega | ((try simp only [List.length_map]at *);omega)) ?_ | refine bD.mk' _ rfl (by first | omega | (simp only [ln];omega) | (simp only [ln]at *;omega)) ?_ | refine aT.aB (by assumption) ?_ | refine aT.set (by(try simp only [ln]at *);omega) ?_ | refine aT.map (by first | omega | (simp only [List.length_map]at *;omega)) ?_ | refine ay.mk (by first | decide | omega) ?_ | refine jR.mk (by kernel_rfl) rfl rfl ?_ | refine ay.mk (aF (by(try simp only [ln]at *);omega) (by kernel_rfl)) ?_)<;>conv=>whnf))
  refine aK.to (y:=((i+j:Nat):Int)) (by rw [←Int.natCast_add];exact kR (by omega)) ?_
  conv=>whnf
  refine ay.mk (by decide) ?_
  rw [BR]
  conv=>whnf
  refine aK.i64 (by omega) ?_
  conv=>whnf
  have hm:(i+j)/2<d.length:=by omega
  (repeat' ((first | refine And.intro ?_ ?_ | (apply ah<;>intro h<;>try simp only [bl]at h) | refine aK.i64 (by first | omega | ((try simp only [List.length_map]at *);omega)) ?_ | refine bD.mk' _ rfl (by first | omega | (simp only [ln];omega) | (simp only [ln]at *;omega)) ?_ | refine aT.aB (by assumption) ?_ | refine aT.set (by(try simp only [ln]at *);omega) ?_ | refine aT.map (by first | omega | (simp only [List.length_map]at *;omega)) ?_ | refine ay.mk (by first | decide | omega) ?_ | refine jR.mk (by kernel_rfl) rfl rfl ?_ | refine ay.mk (aF (by(try simp only [ln]at *);omega) (by kernel_rfl)) ?_)<;>conv=>whnf))
  (refine aW [] (by kernel_rfl) (aap d[(i+j)/2] x) rfl ?_ ?_;(focus trivial))
  conv=>whnf
  have hat:=List.getElem?_eq_getElem hm
  apply ah<;>intro h
  ·conv=>whnf
   refine aK.i64 (by omega) ?_
   conv=>whnf
   have hlt2:d[(i+j)/2]<x:=of_decide_eq_true h
   have hc:(i+j)/2<oN d x:=by
    rcases Nat.lt_trichotomy ((i+j)/2) (oN d x)with h4 | h4 | h4
    ·exact h4
    ·have:=hi.2;rw [←h4,hat]at this;injection this with this;rw [this]at hlt2;exact(xO _ hlt2).elim
    ·exact(Gx hlt2 (Rn hd h4 hi.2 hat)).elim
   exact aI ((i+j)/2+1,j) [] [] rfl (by show j -((i+j)/2+1)<j-i;omega) ⟨hc,h2,h3⟩ trivial ⟨rfl,rfl,trivial⟩
  ·conv=>whnf
   have hlt2 : ¬d[(i+j)/2]<x:=of_decide_eq_false h
   have hc:oN d x≤(i+j)/2:=by
    rcases Nat.lt_or_ge ((i+j)/2) (oN d x)with h4 | h4
    ·exact absurd (Rn hd h4 hat hi.2) hlt2
    ·exact h4
   exact aI (i,(i+j)/2) [] [] rfl (by show (i+j)/2-i<j-i;omega) ⟨h1,hc,by show (i+j)/2≤_;omega⟩ trivial ⟨rfl,rfl,trivial⟩
 ·have hij:i=oN d x:=by simp at h;omega
  have hil:i<d.length:=by omega
  have hat:d[i]? = some x:=by rw [hij];exact hi.2
  rw [←hij]
  conv=>whnf
  (repeat' ((first | refine And.intro ?_ ?_ | (apply ah<;>intro h<;>try simp only [bl]at h) | refine aK.i64 (by first | omega | ((try simp only [List.length_map]at *);omega)) ?_ | refine bD.mk' _ rfl (by first | omega | (simp only [ln];omega) | (simp only [ln]at *;omega)) ?_ | refine aT.aB (by assumption) ?_ | refine aT.set (by(try simp only [ln]at *);omega) ?_ | refine aT.map (by first | omega | (simp only [List.length_map]at *;omega)) ?_ | refine ay.mk (by first | decide | omega) ?_ | refine jR.mk (by kernel_rfl) rfl rfl ?_ | refine ay.mk (aF (by(try simp only [ln]at *);omega) (by kernel_rfl)) ?_)<;>conv=>whnf))
  all_goals first
   | (exfalso;omega)
   | (exfalso;simp only [List.length_map]at h;omega)
   | (exfalso;simp at h;done)
   | exact aZ [] (by trivial)
end
section
open Go Go.RowKit Go.Proofs Go.Proofs.YtocckceefcmeaaaGreatDoor.Vc Go.Proofs.YtocckceefcmeaaaGreatDoor.Ax
attribute [local irreducible] best ints en bd
theorem NQ {d:Tx}{i:Nat}(h:i<d.length):(d.take (i+1)).flatMap gY=(d.take i).flatMap gY++gY d[i]:=by
 rw [List.take_succ_eq_append_getElem h,List.flatMap_append,List.flatMap_cons,List.flatMap_nil,List.append_nil]
theorem aaq (l x:Tx){k:Nat}(h:k<(dsT l).length):(dsT l++x)[0+k]? = some (dsT l)[k]:=by rw [Nat.zero_add,List.getElem?_append_left h,List.getElem?_eq_getElem h]
theorem Rx {d l:Tx}{k:Nat}(h:k<l.length):Aw d (l.take (k+1))=Aw d (l.take k)++ [((oN d l[k]:Nat):Int)]:=by
 unfold Aw
 rw [List.take_succ_eq_append_getElem h,List.map_append];rfl
theorem Xc (l:Tx)(hne:l≠ [])(hs:l.length≤512)(ht:xP l):bC Tryz.prog GC 121 [tl l] 0 [] (Is (bs (iQ l))):=by
 have hdl:=pK l
 have hkl:=fun k=>su ((dsT l).take k) (ht.ds.take k)
 have n1:=(bn ((dsT l).length:Int)).2
 refine au Tryz.func121 rfl mixed (by kernel_rfl) ?_
 conv=>whnf
 (refine ak [] (by kernel_rfl) (Xb l hne (by omega)) ?_ ?_;(focus trivial))
 rintro _ _ _ ⟨rfl,rfl,rfl⟩
 conv=>whnf
 refine aG [0] [] (by kernel_rfl) (aal l hne (by omega)) rfl (by trivial) (by trivial) ?_
 rintro _ _ _ ⟨rfl,rfl,rfl⟩
 refine⟨rfl, ?_⟩
 conv=>whnf
 refine aG [0] [] (by kernel_rfl) (NM l hne (by omega)) rfl (by trivial) (by trivial) ?_
 rintro _ _ _ ⟨rfl,rfl,rfl⟩
 refine⟨rfl, ?_⟩
 conv=>whnf
 (refine ak [0] (by kernel_rfl) (gQ [] ((dsT l).length:Int) (bU (by omega)) (by simp)) ?_ ?_;(focus trivial))
 rintro _ _ _ ⟨rfl,rfl,rfl⟩
 conv=>whnf
 refine bf DK 3 [4,23] (fun k:Nat=> [(4, .own 2),(23,iv k)]) (fun k=> [(0, .fz 1 ((dsT l++List.replicate (l.length -(dsT l).length) []).map wQ)),(2, .rows 5 1 ((num ((dsT l).length:Int)++((dsT l).take k).flatMap gY).map dO))]) (fun k=>k≤(dsT l).length) (fun k=>(dsT l).length-k) [(2, .lab 1)] [] 0 (by kernel_rfl) (fun _=>rfl) rfl (Nat.zero_le _) ⟨⟨rfl,rfl⟩,⟨rfl,rfl,by simp⟩,trivial⟩ ⟨rfl,rfl,trivial⟩ ?_
 rintro k hk
 have hkk:=hkl k
 rw [List.length_take]at hkk
 conv=>whnf
 apply ah<;>intro h
 ·have hlt:k<(dsT l).length:=by simp at h;omega
  have hmem:(dsT l)[k]∈dsT l:=List.getElem_mem hlt
  conv=>whnf
  refine bD.mk' k rfl hlt ?_
  conv=>whnf
  refine aT.aB (aaq l _ hlt) ?_
  conv=>whnf
  refine ak [2] (by kernel_rfl) (Yk (num ((dsT l).length:Int)++((dsT l).take k).flatMap gY) (dsT l)[k] (by rw [List.length_append];omega) (ht.ds _ hmem)) ⟨⟨rfl,rfl,rfl⟩,rfl,trivial⟩ ?_
  rintro _ _ _ ⟨rfl,rfl,rfl⟩
  conv=>whnf
  refine aK.i64 (by omega) ?_
  conv=>whnf
  refine aI (k+1) [(2, .lab 3)] [] rfl (by show (dsT l).length -(k+1)<(dsT l).length-k;omega) hlt ⟨⟨rfl,rfl⟩,⟨rfl,rfl, ?_⟩,trivial⟩ ⟨rfl,rfl,trivial⟩
  rw [NQ hlt, ←List.append_assoc]
 ·have:k=(dsT l).length:=by simp at h;omega
  subst this
  rw [List.take_length]
  conv=>whnf
  refine bf DL 4 [7,33] (fun k:Nat=> [(7, .own 3),(33,iv k)]) (fun k=> [(0, .fz 1 ((dsT l++List.replicate (l.length -(dsT l).length) []).map wQ)),(2, .rows 5 1 ((num ((dsT l).length:Int)++(dsT l).flatMap gY).map dO)),(3, .rows 3 1 ((Aw (dsT l) (l.take k)).map nV))]) (fun k=>k≤l.length) (fun k=>l.length-k) [(3, .nil)] [] 0 (by kernel_rfl) (fun _=>rfl) rfl (Nat.zero_le _) ⟨⟨rfl,rfl⟩,⟨rfl,rfl,rfl⟩,rfl,trivial⟩ ⟨trivial,rfl,trivial⟩ ?_
  rintro k hk
  conv=>whnf
  apply ah<;>intro h
  ·have hlt:k<l.length:=by simp at h;omega
   have hmem:l[k]∈dsT l:=(nJ l _).2 (List.getElem_mem hlt)
   have hil:=(rZ hmem).1
   conv=>whnf
   (repeat' ((first | refine And.intro ?_ ?_ | (apply ah<;>intro h<;>try simp only [bl]at h) | refine aK.i64 (by first | omega | ((try simp only [List.length_map]at *);omega)) ?_ | refine bD.mk' _ rfl (by first | omega | (simp only [ln];omega) | (simp only [ln]at *;omega)) ?_ | refine aT.aB (by assumption) ?_ | refine aT.set (by(try simp only [ln]at *);omega) ?_ | refine aT.map (by first | omega | (simp only [List.length_map]at *;omega)) ?_ | refine ay.mk (by first | decide | omega) ?_ | refine jR.mk (by kernel_rfl) rfl rfl ?_ | refine ay.mk (aF (by(try simp only [ln]at *);omega) (by kernel_rfl)) ?_)<;>conv=>whnf))
   refine aW [] (by kernel_rfl) (Rw (dsT l) l[k] (Rj l) hmem (by omega)) rfl ⟨⟨rfl,Rq l _⟩,rfl,trivial⟩ ?_
   conv=>whnf
   refine ay.mk (aF (by rw [List.length_map,pO,List.length_take];show _+1≤_;omega) (by kernel_rfl)) ?_
   conv=>whnf
   refine aK.i64 (by omega) ?_
   conv=>whnf
   refine aI (k+1) [(3, .lab 5)] [] rfl (by show l.length -(k+1)<l.length-k;omega) hlt ⟨⟨rfl,rfl⟩,⟨rfl,rfl,rfl⟩,⟨rfl,rfl, ?_⟩,trivial⟩ ⟨rfl,rfl,trivial⟩
   rw [Rx hlt,List.map_append]
   rfl
  ·have:k=l.length:=by simp at h;omega
   subst this
   rw [List.take_length]
   conv=>whnf
   have afg:=su (dsT l) ht.ds
   have hib:=bV (Aw (dsT l) l) (by rw [pO];exact hs)
   (refine ak [3] (by kernel_rfl) (kT (Aw (dsT l) l) (La _ _ (fun x hx=>(nJ l x).2 hx) (by omega)) (by rw [pO];exact hs)) ?_ ?_;(focus trivial))
   rintro _ _ _ ⟨rfl,rfl,rfl⟩
   conv=>whnf
   refine ay.mk (aF (by simp only [List.length_map,List.length_append];omega) (by kernel_rfl)) ?_
   conv=>whnf
   refine aZ [4] ⟨rfl,rfl, ?_⟩
   unfold iQ
   simp only [List.map_append]
theorem Ry:bC Tryz.prog GC 153 [tl []] 0 [] (fun a n H=>(a = .v (.slice none 0 0)∧n=0∧H = [])∨(a = .own 0∧n=1∧H = [(0, .rows 9 1 [])])):=by
 refine au Tryz.func153 rfl mixed (by kernel_rfl) ?_
 conv=>whnf
 refine⟨fun b _=> ?_⟩
 cases b
 ·conv=>whnf
  (repeat' ((first | refine And.intro ?_ ?_ | (apply ah<;>intro h<;>try simp only [bl]at h) | refine aK.i64 (by first | omega | ((try simp only [List.length_map]at *);omega)) ?_ | refine bD.mk' _ rfl (by first | omega | (simp only [ln];omega) | (simp only [ln]at *;omega)) ?_ | refine aT.aB (by assumption) ?_ | refine aT.set (by(try simp only [ln]at *);omega) ?_ | refine aT.map (by first | omega | (simp only [List.length_map]at *;omega)) ?_ | refine ay.mk (by first | decide | omega) ?_ | refine jR.mk (by kernel_rfl) rfl rfl ?_ | refine ay.mk (aF (by(try simp only [ln]at *);omega) (by kernel_rfl)) ?_)<;>conv=>whnf))
  exact aU (.own 0) 1 _ [(0, .lab 1)] [] (.inr ⟨rfl,rfl,rfl⟩) rfl (by trivial) (by trivial)
 ·conv=>whnf
  exact aU (.v (.slice none 0 0)) 0 [] [] [] (.inl ⟨rfl,rfl,rfl⟩) rfl (by trivial) (by trivial)
theorem acy:bC Tryz.prog GC 173 [uv 0] 0 [] (Is (iv 0)):=by
 have h:bC Tryz.prog GC 199 [uv 0] 0 [] (Is (iv 0)):=QN 0 (by decide)
 refine au Tryz.func173 rfl mixed (by kernel_rfl) ?_
 conv=>whnf
 (refine aW [] (by kernel_rfl) (h) rfl ?_ ?_;(focus trivial))
 conv=>whnf
 exact aZ [] (by trivial)
theorem acz:bC Tryz.prog GC 190 [tl [],iv 0,iv 0] 0 [] (Is (.bG [])):=by
 refine au Tryz.func190 rfl mixed (by kernel_rfl) ?_
 conv=>whnf
 refine aK.i64 (by decide) ?_
 conv=>whnf
 refine bf Vf 0 [6] (fun i:Nat=> [(6,iv i)]) (fun _=> []) (fun i=>i=1) (fun _=>0) [] [] 1 (by kernel_rfl) (fun _=>rfl) rfl rfl trivial ⟨rfl,trivial⟩ ?_
 rintro i rfl
 conv=>whnf
 exact aZ [] (by trivial)
theorem acA:bC Tryz.prog GC 172 [tl [],iv 0,iv 0,iv 0] 0 [] (Is (.bG [])):=by
 refine au Tryz.func172 rfl mixed (by kernel_rfl) ?_
 conv=>whnf
 refine bf U0 0 [1,2,3,8,9] (fun _:Nat=> [(1,iv 0),(2,iv 0),(3,iv 0),(8,bv true),(9,bv true)]) (fun _=> []) (fun _=>True) (fun _=>0) [] [] 0 (by kernel_rfl) (fun _=>rfl) rfl trivial trivial (by trivial) ?_
 rintro i _
 conv=>whnf
 refine aK.i64 (by decide) ?_
 conv=>whnf
 (refine aW [] (by kernel_rfl) (acz) rfl ?_ ?_;(focus trivial))
 conv=>whnf
 exact aZ [] (by trivial)
theorem Le:bC Tryz.prog GC 154 [tl []] 0 [] (Is (.bG [])):=by
 refine au Tryz.func154 rfl mixed (by kernel_rfl) ?_
 conv=>whnf
 refine aK.to (y:=0) rfl ?_
 conv=>whnf
 (refine aW [] (by kernel_rfl) (acy) rfl ?_ ?_;(focus trivial))
 conv=>whnf
 (refine aW [] (by kernel_rfl) (acA) rfl ?_ ?_;(focus trivial))
 conv=>whnf
 exact aZ [] (by trivial)
theorem zS:bC Tryz.prog GC 155 [tl []] 0 [] (Is (tl [])):=by
 refine au Tryz.func155 rfl mixed (by kernel_rfl) ?_
 conv=>whnf
 exact aZ [] (by trivial)
theorem Lh:iQ []=num 0++ints []:=by
 unfold iQ
 simp [dsT,Aw]
theorem Xd:bC Tryz.prog GC 121 [tl []] 0 [] (Is (bs (iQ []))):=by
 refine au Tryz.func121 rfl mixed (by kernel_rfl) ?_
 conv=>whnf
 (refine ak [] (by kernel_rfl) (Ry) ?_ ?_;(focus trivial))
 rintro _ _ _ (⟨rfl,rfl,rfl⟩ | ⟨rfl,rfl,rfl⟩)
 ·skip
  conv=>whnf
  (refine ak [] (by kernel_rfl) (Le) ?_ ?_;(focus trivial))
  rintro _ _ _ ⟨rfl,rfl,rfl⟩
  conv=>whnf
  (refine ak [] (by kernel_rfl) (zS) ?_ ?_;(focus trivial))
  rintro _ _ _ ⟨rfl,rfl,rfl⟩
  conv=>whnf
  (refine ak [] (by kernel_rfl) (gQ [] 0 (by unfold I64;omega) (by simp)) ?_ ?_;(focus trivial))
  rintro _ _ _ ⟨rfl,rfl,rfl⟩
  conv=>whnf
  refine bf DK (0+2) [4,23] (fun k:Nat=> [(4, .own (0+1)),(23,iv k)]) (fun _=> [(0+1, .rows 5 1 ((num 0).map dO))]) (fun k=>k=0) (fun _=>0) [(0+1, .lab 0)] [] 0 (by kernel_rfl) (fun _=>rfl) rfl rfl ⟨⟨rfl,rfl,rfl⟩,trivial⟩ ⟨rfl,rfl,trivial⟩ ?_
  rintro k rfl
  conv=>whnf
  refine bf DL (0+2) [7,33] (fun k:Nat=> [(7, .v (.slice none 0 0)),(33,iv k)]) (fun _=> [(0+1, .rows 5 1 ((num 0).map dO))]) (fun k=>k=0) (fun _=>0) [] [] 0 (by kernel_rfl) (fun _=>rfl) rfl rfl ⟨⟨rfl,rfl,rfl⟩,trivial⟩ ⟨rfl,rfl,trivial⟩ ?_
  rintro k rfl
  conv=>whnf
  (refine ak [] (by kernel_rfl) (kT [] bZ.nil (by simp)) ?_ ?_;(focus trivial))
  rintro _ _ _ ⟨rfl,rfl,rfl⟩
  conv=>whnf
  have hib:=bV [] (by simp)
  have hn:=(bn 0).2
  refine ay.mk (aF (by simp only [List.length_map];omega) (by kernel_rfl)) ?_
  conv=>whnf
  refine aZ [0+2] ⟨rfl,rfl, ?_⟩
  rw [Lh,List.map_append]
 ·skip
  conv=>whnf
  (refine ak [0] (by kernel_rfl) (Le) ?_ ?_;(focus trivial))
  rintro _ _ _ ⟨rfl,rfl,rfl⟩
  conv=>whnf
  (refine ak [] (by kernel_rfl) (zS) ?_ ?_;(focus trivial))
  rintro _ _ _ ⟨rfl,rfl,rfl⟩
  conv=>whnf
  (refine ak [] (by kernel_rfl) (gQ [] 0 (by unfold I64;omega) (by simp)) ?_ ?_;(focus trivial))
  rintro _ _ _ ⟨rfl,rfl,rfl⟩
  conv=>whnf
  refine bf DK (1+2) [4,23] (fun k:Nat=> [(4, .own (1+1)),(23,iv k)]) (fun _=> [(1+1, .rows 5 1 ((num 0).map dO))]) (fun k=>k=0) (fun _=>0) [(1+1, .lab 1)] [] 0 (by kernel_rfl) (fun _=>rfl) rfl rfl ⟨⟨rfl,rfl,rfl⟩,trivial⟩ ⟨rfl,rfl,trivial⟩ ?_
  rintro k rfl
  conv=>whnf
  refine bf DL (1+2) [7,33] (fun k:Nat=> [(7, .v (.slice none 0 0)),(33,iv k)]) (fun _=> [(1+1, .rows 5 1 ((num 0).map dO))]) (fun k=>k=0) (fun _=>0) [] [] 0 (by kernel_rfl) (fun _=>rfl) rfl rfl ⟨⟨rfl,rfl,rfl⟩,trivial⟩ ⟨rfl,rfl,trivial⟩ ?_
  rintro k rfl
  conv=>whnf
  (refine ak [] (by kernel_rfl) (kT [] bZ.nil (by simp)) ?_ ?_;(focus trivial))
  rintro _ _ _ ⟨rfl,rfl,rfl⟩
  conv=>whnf
  have hib:=bV [] (by simp)
  have hn:=(bn 0).2
  refine ay.mk (aF (by simp only [List.length_map];omega) (by kernel_rfl)) ?_
  conv=>whnf
  refine aZ [1+2] ⟨rfl,rfl, ?_⟩
  rw [Lh,List.map_append]
theorem zT (l:Tx)(hs:l.length≤512)(ht:xP l):bC Tryz.prog GC 121 [tl l] 0 [] (Is (bs (iQ l))):=by
 by_cases h:l = []
 ·subst h;exact Xd
 ·exact Xc l h hs ht
end
section
open Go Go.RowKit Go.Proofs Go.Proofs.YtocckceefcmeaaaGreatDoor.Vc Go.Proofs.YtocckceefcmeaaaGreatDoor.Ax
theorem takeA (b:By)(n:Nat)(hn:n≤200):bC Tryz.prog GC 72 [.ptr 0 0,iv n] 1 [(0,jC b 0)] (fun a m H=>a=bs (if n≤b.length then b.take n else [])∧m=1∧H = [(0,jC (if n≤b.length then b.drop n else b) (if n≤b.length then 0 else 16))]):=by
 refine au Tryz.func72 rfl mixed (by kernel_rfl) ?_
 conv=>whnf
 apply ah<;>intro h
 ·have hl : ¬n≤b.length:=by simp at h;omega
  simp only [hl,if_false]
  conv=>whnf
  exact aU (bs []) 1 [(0,jC b 16)] [] [] ⟨rfl,rfl,rfl⟩ rfl (by trivial) (by trivial)
 have hl:n≤b.length:=by simp at h;omega
 simp only [hl,if_true]
 conv=>whnf
 refine ay.mk ⟨Int.le_refl _,by rw [List.length_map];omega⟩ ?_
 refine kU.mk' 0 n rfl rfl (Nat.zero_le _) (by rw [List.length_map];exact hl) ?_
 conv=>whnf
 refine kU.mk' n b.length rfl (by rw [List.length_map]) hl (by rw [List.length_map];exact Nat.le_refl _) ?_
 conv=>whnf
 exact aU (bs (b.take n)) 1 [(0,jC (b.drop n) 0)] [] [] ⟨rfl,rfl,rfl⟩ rfl ⟨⟨rfl,⟨rfl,List.map_drop.symm⟩,rfl,trivial⟩,trivial⟩ ⟨rfl,List.map_take.symm⟩
theorem Rz (b:By)(e:Int)(he:e≠0):bC Tryz.prog GC 72 [.ptr 0 0,iv 0] 1 [(0,jC b e)] (fun a m H=>a=bs []∧m=1∧H = [(0,jC b e)]):=by
 refine au Tryz.func72 rfl mixed (by kernel_rfl) ?_
 have hq:(e==0)=false:=by simpa using he
 conv=>whnf
 rw [hq]
 conv=>whnf
 apply ah<;>intro h
 rotate_left 1
 ·exfalso;simp at h;exact he h
 conv=>whnf
 exact aU (bs []) 1 [(0,jC b e)] [] [] ⟨rfl,rfl,rfl⟩ rfl (by trivial) (by trivial)
theorem acB (b:By)(e:Int)(hb:b.length≤3000000):bC Tryz.prog GC 34 [.ptr 0 0,iv 200] 1 [(0,jC b e)] (fun a n H=>a=tv (Bf b e).1∧n=1∧H = [(0,jC (b.drop (Bf b e).2.1) (Bf b e).2.2)]):=by
 have hL:=D8 b e 200 4 hb (by decide) (by decide)
 have hr:=jX b e 200 4 (by decide) (by decide)
 have hz:(iD b e 200 4).2.2≠0→(iD b e 200 4).1=0:=fun h=>by rw [jW]at h ⊢;simp only at h ⊢;rw [if_neg h]
 have hd:=Ea b e
 generalize iD b e 200 4=c at *
 obtain⟨x,k,e'⟩:=c
 simp only at hL hr hz hd
 obtain⟨n,rfl⟩ : ∃n:Nat,x=(n:Int):=⟨x.toNat,by omega⟩
 have hn:n≤200:=by omega
 rw [Int.toNat_natCast]at hd
 by_cases he:e'=0
 ·subst he
  rw [if_pos rfl]at hd
  have hT:=takeA (b.drop k) n hn
  by_cases h:n≤(b.drop k).length
  ·have h2 : ¬((b.drop k).length:Int)<(n:Int):=by omega
   rw [if_neg h2]at hd
   rw [hd]
   simp only [h,if_true]at hT
   refine au Tryz.func34 rfl mixed (by kernel_rfl) ?_
   conv=>whnf
   refine aG [0] [] (by kernel_rfl) hL rfl (by trivial) (by trivial) ?_
   rintro _ _ _ ⟨rfl,rfl,rfl⟩
   refine⟨rfl, ?_⟩
   conv=>whnf
   refine aG [0] [] (by kernel_rfl) hT rfl (by trivial) (by trivial) ?_
   rintro _ _ _ ⟨rfl,rfl,rfl⟩
   refine⟨rfl, ?_⟩
   conv=>whnf
   refine MJ.of ?_
   conv=>whnf
   exact aU (tv ((b.drop k).take n)) 1 [(0,jC (b.drop (k+n)) 0)] [] [] ⟨rfl,rfl,rfl⟩ rfl ⟨⟨rfl,⟨rfl,by rw [List.drop_drop]⟩,rfl,trivial⟩,trivial⟩ (by trivial)
  ·have h2:((b.drop k).length:Int)<(n:Int):=by omega
   rw [if_pos h2]at hd
   rw [hd]
   simp only [h,if_false]at hT
   refine au Tryz.func34 rfl mixed (by kernel_rfl) ?_
   conv=>whnf
   refine aG [0] [] (by kernel_rfl) hL rfl (by trivial) (by trivial) ?_
   rintro _ _ _ ⟨rfl,rfl,rfl⟩
   refine⟨rfl, ?_⟩
   conv=>whnf
   refine aG [0] [] (by kernel_rfl) hT rfl (by trivial) (by trivial) ?_
   rintro _ _ _ ⟨rfl,rfl,rfl⟩
   refine⟨rfl, ?_⟩
   conv=>whnf
   refine MJ.of (s:= []) ?_
   conv=>whnf
   exact aU (tv []) 1 [(0,jC (b.drop k) 16)] [] [] ⟨rfl,rfl,rfl⟩ rfl (by trivial) (by trivial)
 ·have h0:=hz he
  have hn0:n=0:=by omega
  subst hn0
  rw [if_neg he]at hd
  rw [hd]
  refine au Tryz.func34 rfl mixed (by kernel_rfl) ?_
  conv=>whnf
  refine aG [0] [] (by kernel_rfl) hL rfl (by trivial) (by trivial) ?_
  rintro _ _ _ ⟨rfl,rfl,rfl⟩
  refine⟨rfl, ?_⟩
  conv=>whnf
  refine aG [0] [] (by kernel_rfl) (Rz (b.drop k) e' he) rfl (by trivial) (by trivial) ?_
  rintro _ _ _ ⟨rfl,rfl,rfl⟩
  refine⟨rfl, ?_⟩
  conv=>whnf
  refine MJ.of (s:= []) ?_
  conv=>whnf
  exact aU (tv []) 1 [(0,jC (b.drop k) e')] [] [] ⟨rfl,rfl,rfl⟩ rfl (by trivial) (by trivial)
end
section
open Go Go.RowKit Go.Proofs Go.Proofs.YtocckceefcmeaaaGreatDoor.Vc Go.Proofs.YtocckceefcmeaaaGreatDoor.Ax
attribute [local irreducible] best ints en bd
def RTa (b:By)(a:AV)(m:Nat)(H:aj):Prop:= ∃l n e,NP b l n e∧a = .bG [tl l,iv (n:Nat),iv e]∧m=0∧H = []
structure TX where
 ks:Tx
 b:By
def KI (b:By)(n:Nat)(e:Int)(x:TX):Prop:=x.ks.length≤n∧xP x.ks∧(e=0→b=num (n:Int)++x.ks.flatMap gY++x.b)∧GT b fun l0 r=>e=0∧(dsT l0).length=n∧QT l0 r x.ks x.b
theorem nK (b:By)(hb:b.length≤100000):bC Tryz.prog GC 137 [bs b] 0 [] (RTa b):=by
 have hC:=vI b 0 512 (by omega) (by decide)
 have hcr:=jX b 0 512 5 (by decide) (by decide)
 have hhead:=Xa b
 have ho:=jc b 0
 have hz:(iD b 0 512 5).2.2≠0→(iD b 0 512 5).1=0:=fun h=>by rw [jW]at h ⊢;simp only at h ⊢;rw [if_neg h]
 rw [←hcr.2.2.1]at ho
 generalize iD b 0 512 5=c at *
 obtain⟨x,k,e⟩:=c
 simp only at hC hcr hhead hz ho
 obtain⟨n,rfl⟩ : ∃n:Nat,x=(n:Int):=⟨x.toNat,by omega⟩
 have hn:n≤512:=by omega
 have hk0:KI b n e ⟨[],b.drop k⟩:=⟨Nat.zero_le _,fun _ h=>(by cases h),fun he=>by
  have:=hcr.2.2.2 he
  have h3:=(ho.2.2.1 this.1).2.1
  rw [←this.2]at h3
  simpa using h3,fun l0 r hl ht hb=>by
  have:=hhead l0 r hl ht hb
  exact⟨this.1,by omega,this.2.2⟩⟩
 have hbl:(b.drop k).length≤100000:=fK hb
 generalize b.drop k=b1' at *
 clear hhead hcr ho
 refine au Tryz.func137 rfl mixed (by kernel_rfl) ?_
 conv=>whnf
 (refine ak [] (by kernel_rfl) (D7 b (by omega)) ?_ ?_;(focus trivial))
 rintro _ _ _ ⟨rfl,rfl,rfl⟩
 conv=>whnf
 refine aG [0] [] (by kernel_rfl) hC rfl (by trivial) (by trivial) ?_
 rintro _ _ _ ⟨rfl,rfl,rfl⟩
 refine⟨rfl, ?_⟩
 conv=>whnf
 (refine ak [] (by kernel_rfl) (gQ [] (n:Int) (bU (by omega)) (by simp)) ?_ ?_;(focus trivial))
 rintro _ _ _ ⟨rfl,rfl,rfl⟩
 conv=>whnf
 refine bf UM 3 [7,8,25] (fun x:TX=> [(7,iv ((num (n:Int)++x.ks.flatMap gY).length:Nat)),(8, .own 2),(25,iv x.ks.length)]) (fun x=> [(2, .rows 9 1 (x.ks.map wQ)),(0,jC x.b e)]) (fun x=>x.b.length≤100000∧KI b n e x) (fun x=>n-x.ks.length) [(2, .nil)] [] ⟨[],b1'⟩ (by kernel_rfl) (fun _=>rfl) rfl ⟨hbl,hk0⟩ ⟨rfl,(by trivial),trivial⟩ ⟨congrArg (fun n:Nat=>Value.int .i64 (n:Int)) (by simp),trivial,rfl,trivial⟩ ?_
 rintro⟨ks,b'⟩ ⟨hb',hK⟩
 change b'.length≤100000 at hb'
 obtain⟨k1,k2,k3,k4⟩:=hK
 change ks.length≤n at k1
 change xP ks at k2
 change e=0→b=num (n:Int)++ks.flatMap gY++b' at k3
 change GT b fun l0 r=>e=0∧(dsT l0).length=n∧QT l0 r ks b' at k4
 have hkl:=su ks k2
 have hnl:=(bn (n:Int)).2
 conv=>whnf
 apply ah<;>intro h
 ·have hlt:ks.length<n:=by simp at h;omega
  have he:e=0:=Classical.byContradiction fun he=>by have:=hz he;omega
  subst he
  have hT:=acB b' 0 (by omega)
  have hto:=aam b' 0
  have hstep:GT b fun l0 r=>(Bf b' 0).2.2=0∧QT l0 r (ks++ [(Bf b' 0).1]) (b'.drop (Bf b' 0).2.1):=fun l0 r hl ht hbb=>by
   have:=k4 l0 r hl ht hbb
   exact this.2.2.step ht (by omega)
  generalize Bf b' 0=t at *
  obtain⟨s,j,f⟩:=t
  simp only at hT hto hstep
  conv=>whnf
  refine aG [0] [] (by kernel_rfl) hT rfl (by trivial) (by trivial) ?_
  rintro _ _ _ ⟨rfl,rfl,rfl⟩
  refine⟨rfl, ?_⟩
  conv=>whnf
  refine aG [0] [] (by kernel_rfl) (rX (b'.drop j) f) rfl (by trivial) (by trivial) ?_
  rintro _ _ _ ⟨rfl,rfl,rfl⟩
  refine⟨rfl, ?_⟩
  conv=>whnf
  apply ah<;>intro h
  ·have hf:f≠0:=by simpa using h
   conv=>whnf
   refine aG [0] [] (by kernel_rfl) (rX (b'.drop j) f) rfl (by trivial) (by trivial) ?_
   rintro _ _ _ ⟨rfl,rfl,rfl⟩
   refine⟨rfl, ?_⟩
   conv=>whnf
   apply ah<;>intro h
   rotate_left 1
   ·exfalso;simp at h;exact hf h
   conv=>whnf
   exact aU (.bG [tl [],iv (0:Nat),iv 1]) 0 [] [] [] ⟨[],0,1,NP.bad fun l0 r ha hl h=>hf (hstep l0 r ha hl h).1,rfl,rfl,rfl⟩ rfl trivial (by trivial)
  have hf:f=0:=by simpa using h
  subst hf
  conv=>whnf
  have ad9:=hto.2.2.1 rfl
  refine ay.mk (aF (by simp only [List.length_map,List.length_append,List.length_cons,List.length_nil];omega) (by kernel_rfl)) ?_
  conv=>whnf
  have hs2:=hto.1
  (refine ak [] (by kernel_rfl) (Yk [] s (by simp) hs2) ?_ ?_;(focus trivial))
  rintro _ _ _ ⟨rfl,rfl,rfl⟩
  conv=>whnf
  have hpl:=zQ s hs2
  refine aK.i64 (by simp only [List.length_map,List.length_append,List.length_nil];omega) ?_
  conv=>whnf
  refine aK.i64 (by simp only;omega) ?_
  conv=>whnf
  have hbd:(b'.drop j).length≤100000:=fK hb'
  have hfm:(ks++ [s]).flatMap gY=ks.flatMap gY++gY s:=by simp
  refine aI ⟨ks++ [s],b'.drop j⟩ [(2, .lab 4)] [] rfl (by show n -(ks++ [s]).length<n-ks.length;rw [List.length_append];simp only [List.length_cons,List.length_nil];omega) ⟨hbd,by show (ks++ [s]).length≤n;rw [List.length_append];simp only [List.length_cons,List.length_nil];omega,fun t ht=> ?_,fun _=> ?_,fun l0 r hl ht hbb=> ?_⟩ ⟨⟨rfl,rfl,(mP ks s).symm⟩,⟨rfl,⟨rfl,rfl⟩,rfl,trivial⟩,trivial⟩ ⟨?_,rfl, ?_,trivial⟩
  ·rcases List.mem_append.1 ht with h | h
   ·exact k2 t h
   ·rw [List.mem_singleton.1 h];exact hs2
  ·show b=num (n:Int)++(ks++ [s]).flatMap gY++b'.drop j
   rw [hfm,k3 rfl,List.append_assoc,List.append_assoc,List.append_assoc, ←ad9.2.1]
  ·exact⟨rfl,(k4 l0 r hl ht hbb).2.1,(hstep l0 r hl ht hbb).2⟩
  ·refine congrArg (fun n:Int=>Value.int .i64 n) ?_
   show _=((num (n:Int)++(ks++ [s]).flatMap gY).length:Int)
   rw [hfm]
   simp only [List.length_map,List.length_append,List.nil_append]
   omega
  ·refine congrArg (fun n:Int=>Value.int .i64 n) ?_
   show _=((ks++ [s]).length:Int)
   rw [List.length_append];rfl
 ·have hkn:ks.length=n:=by simp at h;omega
  conv=>whnf
  refine aG [0] [] (by kernel_rfl) (rX b' e) rfl (by trivial) (by trivial) ?_
  rintro _ _ _ ⟨rfl,rfl,rfl⟩
  refine⟨rfl, ?_⟩
  conv=>whnf
  apply ah<;>intro h
  ·have he:e≠0:=by simpa using h
   conv=>whnf
   exact aU (.bG [tl [],iv (0:Nat),iv 1]) 0 [] [] [] ⟨[],0,1,NP.bad fun l0 r ha hl h=>he (k4 l0 r ha hl h).1,rfl,rfl,rfl⟩ rfl trivial (by trivial)
  have he:e=0:=by simpa using h
  subst he
  have hbe:=k3 rfl
  have hbl:=congrArg List.length hbe
  simp only [List.length_append]at hbl
  have hdrop:(b.map dO).drop (num (n:Int)++ks.flatMap gY).length=b'.map dO:=by
   rw [←List.map_drop,hbe,List.drop_left' rfl]
  have hfin:GT b fun l0 r=>ks=dsT l0∧b'=ints (Aw (dsT l0) l0)++r:=fun l0 r hl ht hb=>by
   have:=k4 l0 r hl ht hb
   exact this.2.2.fin (by omega)
  conv=>whnf
  refine kU.mk' (num (n:Int)++ks.flatMap gY).length b.length rfl (by rw [List.length_map]) (by rw [List.length_append];omega) (by rw [List.length_map];exact Nat.le_refl _) ?_
  conv=>whnf
  rw [show cut (some (AV.v (.int .i64 (((num (n:Int)++ks.flatMap gY).length:Nat):Int)))) none (num (n:Int)++ks.flatMap gY).length b.length (b.map dO)=b'.map dO from hdrop]
  (refine ak [] (by kernel_rfl) (jy b' hb') ?_ ?_;(focus trivial))
  rintro _ _ _ ⟨il,m,f,hR,rfl,rfl,rfl⟩
  have hgood:GT b fun l0 r=>f=0∧il=Aw (dsT l0) l0∧ks=dsT l0:=fun l0 r hl ht hb=>by
   have h1:=hfin l0 r hl ht hb
   have h2:=pK l0
   have h3:=hR.2.2.2 _ r (La (dsT l0) l0 (fun x hx=>(nJ l0 x).2 hx) (by omega)) (by rw [pO];exact hl) h1.2
   exact⟨h3.1,h3.2,h1.1⟩
  have hil:=hR.2.1
  have hR1:=hR.1
  clear hdrop hfin hR hC hk0
  conv=>whnf
  apply ah<;>intro h
  ·have he:f≠0:=by simpa using h
   conv=>whnf
   exact aU (.bG [tl [],iv (0:Nat),iv 1]) 0 [] [] [] ⟨[],0,1,NP.bad fun l0 r ha hl h=>he (hgood l0 r ha hl h).1,rfl,rfl,rfl⟩ rfl trivial (by trivial)
  conv=>whnf
  refine bf UN 4 [9,57] (fun i:Nat=> [(9, .own 3),(57,iv i)]) (fun i=> [(3, .rows 9 1 ((Lc ks (il.take i)).map wQ)),(2, .rows 9 1 (ks.map wQ)),(0,jC b' 0)]) (fun i=>i≤il.length∧∀j (h:j<il.length),j<i→0≤il[j]∧il[j]<(ks.length:Int)) (fun i=>il.length-i) [(3, .nil)] [] 0 (by kernel_rfl) (fun _=>rfl) rfl ⟨Nat.zero_le _,fun j _ h=>absurd h (Nat.not_lt_zero j)⟩ ⟨rfl,⟨rfl,rfl,rfl⟩,(by trivial),trivial⟩ ⟨trivial,rfl,trivial⟩ ?_
  rintro i ⟨hi,hin⟩
  conv=>whnf
  apply ah<;>intro h
  ·have hlt:i<il.length:=by simp at h;omega
   have hat:=List.getElem?_eq_getElem hlt
   conv=>whnf
   refine bD.mk' i rfl (iT hlt) ?_
   conv=>whnf
   refine aT.aB hat ?_
   conv=>whnf
   have hbad : ¬(0≤il[i]∧il[i]<(ks.length:Int))→GT b fun _ _=>False:=fun hx l0 r hl ht hb=>by
    obtain⟨_,h2,h3⟩:=hgood l0 r hl ht hb
    have hlt':i<(Aw (dsT l0) l0).length:=by rw [←h2];exact hlt
    have e:il[i]=(Aw (dsT l0) l0)[i]'hlt':=by simp only [h2]
    rw [pO]at hlt'
    have e2:il[i]=((oN (dsT l0) l0[i]:Nat):Int):=by rw [e];simp [Aw]
    have:=(rZ ((nJ l0 l0[i]).2 (List.getElem_mem hlt'))).1
    exact hx (by rw [h3];omega)
   have hstep : ∀q:Nat,il[i]=(q:Int)→∀x,ks[q]? = some x→Lc ks (il.take (i+1))=Lc ks (il.take i)++ [x]:=fun q hq x hx=>Rt hlt hq hx
   have hnx:(0≤il[i]∧il[i]<(ks.length:Int))→∀j (h:j<il.length),j<i+1→0≤il[j]∧il[j]<(ks.length:Int):=fun hx j h hj=>by
    rcases Nat.lt_or_ge j i with h4 | h4
    ·exact hin j h h4
    ·have:j=i:=by omega
     subst this;exact hx
   have hxI:I64 il[i]:=hR1 _ (List.getElem_mem hlt)
   generalize il[i]=x at *
   apply ah<;>intro h
   ·have hx:x<0:=by simpa using h
    conv=>whnf
    exact aU (.bG [tl [],iv (0:Nat),iv 1]) 0 [] [] [] ⟨[],0,1,NP.bad (hbad (by omega)),rfl,rfl,rfl⟩ rfl trivial (by trivial)
   have hx0:0≤x:=by simpa using h
   conv=>whnf
   apply ah<;>intro h
   ·have hx:(ks.length:Int)≤x:=by simpa using h
    conv=>whnf
    exact aU (.bG [tl [],iv (0:Nat),iv 1]) 0 [] [] [] ⟨[],0,1,NP.bad (hbad (by omega)),rfl,rfl,rfl⟩ rfl trivial (by trivial)
   have hx1:x<(ks.length:Int):=by simp at h;omega
   obtain⟨q,rfl⟩ : ∃q:Nat,x=(q:Int):=⟨x.toNat,by omega⟩
   have hq:q<ks.length:=by omega
   have hkq:=List.getElem?_eq_getElem hq
   conv=>whnf
   refine bD.mk' q rfl (iT hq) ?_
   conv=>whnf
   refine aT.aB hkq ?_
   conv=>whnf
   have e1:=hstep q rfl ks[q] hkq
   have htl:(Lc ks (il.take i)).length≤512:=by rw [Ld,List.length_take];omega
   refine ay.mk (aF (by simp only [List.length_map,List.length_append,List.length_cons,List.length_nil];omega) (by kernel_rfl)) ?_
   conv=>whnf
   refine aK.i64 (by omega) ?_
   conv=>whnf
   exact aI (i+1) [(3, .lab 5)] [] rfl (by show il.length -(i+1)<il.length-i;omega) ⟨hlt,hnx ⟨hx0,hx1⟩⟩ ⟨⟨rfl,rfl,by rw [e1];exact(mP _ _).symm⟩,⟨rfl,rfl,rfl⟩,⟨rfl,(by trivial)⟩,trivial⟩ ⟨rfl,rfl,trivial⟩
  ·have hie:i=il.length:=by simp at h;omega
   subst hie
   rw [List.take_length]
   have hl5:(Lc ks il).length≤512:=by rw [Ld];exact hil
   have hok:=aao k2 il
   have hG:GT b fun l0 r=>Lc ks il=l0:=fun l0 r hl ht hb=>by
    obtain⟨_,h2,h3⟩:=hgood l0 r hl ht hb
    rw [h2,h3]
    exact aan fun x hx=>(nJ l0 x).2 hx
   generalize Lc ks il=l at *
   conv=>whnf
   have hT:=zT l hl5 hok
   have hpre:=nI b (iQ l)
   (refine ak [3] (by kernel_rfl) (hT) ?_ ?_;(focus trivial))
   rintro _ _ _ ⟨rfl,rfl,rfl⟩
   conv=>whnf
   (refine aW [] (by kernel_rfl) (hpre) rfl ?_ ?_;(focus trivial))
   conv=>whnf
   apply ah<;>intro h
   ·have hp : ¬b.take (iQ l).length=iQ l:=by simpa using h
    conv=>whnf
    exact aU (.bG [tl [],iv (0:Nat),iv 1]) 0 [] [] [] ⟨[],0,1,NP.bad fun l0 r ha hl h=>hp (by rw [hG l0 r ha hl h,h,List.take_left' rfl]),rfl,rfl,rfl⟩ rfl trivial (by trivial)
   ·have hp:b.take (iQ l).length=iQ l:=by simpa using h
    conv=>whnf
    exact aU (.bG [tl l,iv ((iQ l).length:Nat),iv 0]) 0 [] [] [] ⟨l,(iQ l).length,0,⟨hok,hl5, .inl ⟨rfl,rfl,hp⟩,fun l0 r ha hl h=>⟨rfl,hG l0 r ha hl h⟩⟩,rfl,rfl,rfl⟩ rfl trivial ⟨⟨rfl,rfl⟩,congrArg (fun n:Nat=>Value.int .i64 (n:Int)) (List.length_map _),rfl,trivial⟩
end
section
open Go Go.RowKit Go.Proofs Go.Proofs.YtocckceefcmeaaaGreatDoor.Vc Go.Proofs.YtocckceefcmeaaaGreatDoor.Ax
abbrev hdA (g f i n:Int):AV:= .agg [iv g,iv f,iv i,iv n]
theorem Ec (n k:Nat)(m:Nat)(hm:m=k):IntKind.u8.wrap ((n:Int).fdiv (2^m))=((bt (n/2^k)).toNat:Int):=by
 subst hm
 rw [IntKind.wrap_u8,Int.fdiv_eq_ediv_of_nonneg _ (Int.le_of_lt (Int.pow_pos (by decide))),zH]
 have e:((n:Int)/2^m)=((n/2^m:Nat):Int):=by simp
 rw [e];omega
theorem acC (n:Nat):IntKind.u8.wrap (n:Int)=((bt n).toNat:Int):=by
 rw [IntKind.wrap_u8,zH];omega
theorem acD (G:Glob)(g f i n:Nat)(h1:g<4294967296)(h2:f<65536)(h3:i<256)(h4:n<256):bC Tryz.prog G 67 [hdA g f i n] 0 [] (Is (bs (hd g f i n))):=by
 refine au Tryz.func67 rfl mixed (by kernel_rfl) ?_
 conv=>whnf
 repeat' (first | (refine ay.mk (by decide) ?_;conv=>whnf) | (refine aK.to (Ec g 24 _ rfl) ?_;conv=>whnf) | (refine aK.to (Ec g 16 _ rfl) ?_;conv=>whnf) | (refine aK.to (Ec g 8 _ rfl) ?_;conv=>whnf) | (refine aK.to (Ec f 8 _ rfl) ?_;conv=>whnf) | (refine aK.to (acC _) ?_;conv=>whnf))
 refine aZ [1] ⟨rfl,rfl, ?_⟩
 simp only [hd,be,List.range_succ,List.range_zero,List.nil_append,List.map_cons,List.map_nil,List.map_append,List.singleton_append,List.cons_append,dO]
 simp
theorem RD (a b:Int)(l:By):0≤Dg.DR a b l∧Dg.DR a b l<18446744073709551616:=by
 unfold Dg.DR Dg.S4.done Dg.xor
 simp only [bg]
 rw [IntKind.wrap_u64]
 omega
theorem acF (g f i n:Nat)(d:By):hw g f i n d<18446744073709551616∧hsh 101 [hd g f i n,d]=(hw g f i n d:Int):=by
 have h:=RD 101 0 (Dg.frame [hd g f i n,d])
 unfold hw hsh
 omega
theorem Jr (a b:By):(Dg.frame [a,b]).length=16+a.length+b.length:=by
 simp only [Dg.frame,List.length_append,Dg.mJ,List.length_nil];omega
theorem Lj (G:Glob)(g f i n:Nat)(d:By)(h1:g<4294967296)(h2:f<65536)(h3:i<256)(h4:n<256)(hd_:d.length≤1000):bC Tryz.prog G 29 [hdA g f i n,bs d] 0 [] (Is (bs (sec g f i n d))):=by
 obtain⟨hH1,hH2⟩:=acF g f i n d
 have hP:=acD G g f i n h1 h2 h3 h4
 have hh:=ab7 G 101 [hd g f i n,d] (show 2≤1000 by decide) (by rw [Jr,rV];omega)
 have hl:=rV g f i n
 have hW:=QH G (hd g f i n) (hw g f i n d) (by omega) hH1
 rw [hH2]at hh
 have hl2:(hd g f i n++be 8 (hw g f i n d)).length=16:=by rw [List.length_append,kS,hl]
 have hs:sec g f i n d=hd g f i n++be 8 (hw g f i n d)++d:=rfl
 rw [hs]
 clear hs
 generalize hd g f i n++be 8 (hw g f i n d)=x at *
 generalize hw g f i n d=y at *
 generalize hd g f i n=z at *
 refine au Tryz.func29 rfl mixed (by kernel_rfl) ?_
 conv=>whnf
 (refine ak [] (by kernel_rfl) (hP) ?_ ?_;(focus trivial))
 rintro _ _ _ ⟨rfl,rfl,rfl⟩
 conv=>whnf
 (refine ak [] (by kernel_rfl) (hP) ?_ ?_;(focus trivial))
 rintro _ _ _ ⟨rfl,rfl,rfl⟩
 conv=>whnf
 (refine aW [1] (by kernel_rfl) (hh) rfl ?_ ?_;(focus trivial))
 conv=>whnf
 refine ak [] (by kernel_rfl) hW (by trivial) ?_
 rintro _ _ _ ⟨rfl,rfl,rfl⟩
 conv=>whnf
 refine ay.mk (aF (by simp only [List.length_map];omega) (by kernel_rfl)) ?_
 conv=>whnf
 refine aZ [3] ⟨rfl,rfl, ?_⟩
 simp only [List.map_append]
theorem GK (G:Glob)(a b:By):bC Tryz.prog G 36 [bs a,bs b] 0 [] (Is (bv (decide (a=b)))):=by
 refine au Tryz.func36 rfl mixed (by kernel_rfl) ?_
 conv=>whnf
 refine MJ.of ?_
 conv=>whnf
 refine MJ.of ?_
 conv=>whnf
 refine aZ [] ?_
 exact congrArg Value.bool (kQ a b)
theorem RF (s:By):hG s<4294967296:=by
 unfold hG
 have:=Z5 (s.take 4)
 have h2:(s.take 4).length≤4:=List.length_take_le ..
 have h3:256^(s.take 4).length≤256^4:=Nat.pow_le_pow_right (by decide) h2
 have h4:(256:Nat)^4=4294967296:=by decide
 omega
theorem Ed (a b:Nat)(ha:a<4611686018427387904)(hb:b<4611686018427387904):bg .or .i64 a b=((a ||| b:Nat):Int):=by
 have e:IntKind.i64.bits=64:=rfl
 have h:=Nat.or_lt_two_pow (n:=62) ha hb
 simp only [bg,e,kC,BitVec.toNat_or,BitVec.toNat_ofNat]
 rw [Nat.mod_eq_of_lt (by omega),Nat.mod_eq_of_lt (by omega)]
 exact IntWalk.i64_in _ (by omega)
theorem or_hi (c k a:Nat)(ha:a<2^k):c*2^k ||| a=c*2^k+a:=by rw [Nat.or_comm,uZ k c ha,Nat.add_comm]
theorem acG {s:By}(h:s.length=64):hG s=(s.getD 0 0).toNat*16777216+(s.getD 1 0).toNat*65536+(s.getD 2 0).toNat*256+(s.getD 3 0).toNat:=by
 match s,h with
 | a::b::c::d::r,_=>
  simp only [hG,Tz,List.take_succ_cons,List.take_zero,List.foldl_cons,List.foldl_nil,List.getD_cons_zero,List.getD_cons_succ]
  omega
theorem acH {s:By}(h:s.length=64):hF s=(s.getD 4 0).toNat*256+(s.getD 5 0).toNat:=by
 match s,h with
 | _::_::_::_::a::b::r,_=>
  simp only [hF,Tz,List.drop_succ_cons,List.drop_zero,List.take_succ_cons,List.take_zero,List.foldl_cons,List.foldl_nil,List.getD_cons_zero,List.getD_cons_succ]
  omega
theorem RG {a b c d:Nat}(ha:a<256)(hb:b<256)(hc:c<256)(hd:d<256):bg .or .i64 (bg .or .i64 (bg .or .i64 ((a*16777216:Nat):Int) ((b*65536:Nat):Int)) ((c*256:Nat):Int)) (d:Int)=((a*16777216+b*65536+c*256+d:Nat):Int):=by
 have e1:a*16777216 ||| b*65536=a*16777216+b*65536:=or_hi a 24 (b*65536) (by omega)
 have e2:(a*16777216+b*65536) ||| c*256=a*16777216+b*65536+c*256:=by
  have:=or_hi (a*256+b) 16 (c*256) (by omega)
  rw [show (a*256+b)*2^16=a*16777216+b*65536 by omega]at this
  exact this
 have e3:(a*16777216+b*65536+c*256) ||| d=a*16777216+b*65536+c*256+d:=by
  have:=or_hi (a*65536+b*256+c) 8 d (by omega)
  rw [show (a*65536+b*256+c)*2^8=a*16777216+b*65536+c*256 by omega]at this
  exact this
 rw [Ed _ _ (by omega) (by omega),e1,Ed _ _ (by omega) (by omega),e2,Ed _ _ (by omega) (by omega),e3]
theorem RH {a b:Nat}(ha:a<256)(hb:b<256):bg .or .i64 ((a*256:Nat):Int) (b:Int)=((a*256+b:Nat):Int):=by
 rw [Ed _ _ (by omega) (by omega),show a*256 ||| b=a*256+b from or_hi a 8 b (by omega)]
theorem sD {a:Nat}(ha:a<256)(k:Nat)(m e:Nat)(he:e=k)(hm:2^k=m)(h:m≤16777216):IntKind.i64.wrap ((a:Int)*2^e)=((a*m:Nat):Int):=by
 subst he
 have:(2:Int)^e=(m:Int):=by rw [←hm];simp
 rw [this, ←Int.natCast_mul]
 have:=Nat.mul_le_mul (show a≤255 by omega) h
 exact IntWalk.i64_in _ (by omega)
theorem Js (G:Glob)(s:By):bC Tryz.prog G 32 [bs s] 0 [] (fun a n H=>n=0∧H = []∧∃g f i m:Nat,a = .bG [hdA g f i m,bv (jM s)]∧(jM s=true→g=hG s∧f=hF s∧i=hI s∧m=hN s)):=by
 refine au Tryz.func32 rfl mixed (by kernel_rfl) ?_
 conv=>whnf
 apply ah<;>intro h
 ·have hl:s.length≠64:=by simp at h;omega
  have hr:jM s=false:=by simp [jM,hl]
  conv=>whnf
  exact aU (.bG [hdA 0 0 0 0,bv false]) 0 [] [] [] ⟨rfl,rfl,0,0,0,0,by rw [hr];rfl,fun h=>by rw [hr]at h;cases h⟩ rfl trivial (by trivial)
 have hl:s.length=64:=by simp at h;omega
 have hk : ∀k,k<64→s[k]? = some (s.getD k 0):=fun k hk=>by rw [List.getD_eq_getElem?_getD,List.getElem?_eq_getElem (by omega),Option.getD_some]
 have e1:=acG hl
 have e2:=acH hl
 have e3:hI s=(s.getD 6 0).toNat:=rfl
 have e4:hN s=(s.getD 7 0).toNat:=rfl
 have k0:=hk 0 (by decide)
 have k1:=hk 1 (by decide)
 have k2:=hk 2 (by decide)
 have k3:=hk 3 (by decide)
 have k4:=hk 4 (by decide)
 have k5:=hk 5 (by decide)
 have k6:=hk 6 (by decide)
 have k7:=hk 7 (by decide)
 have hr:jM s=(decide (0<hG s)&&(decide (hI s<hN s)&&decide (s=sec (hG s) (hF s) (hI s) (hN s) (s.drop 16)))):=by
  unfold jM;rw [decide_eq_true hl,Bool.true_and]
 have hgl:=RF s
 rw [e1,e2,e3,e4]at hr ⊢
 generalize s.getD 0 0=a0 at *
 generalize s.getD 1 0=a1 at *
 generalize s.getD 2 0=a2 at *
 generalize s.getD 3 0=a3 at *
 generalize s.getD 4 0=a4 at *
 generalize s.getD 5 0=a5 at *
 generalize s.getD 6 0=a6 at *
 generalize s.getD 7 0=a7 at *
 have l0:=a0.toNat_lt
 have l1:=a1.toNat_lt
 have l2:=a2.toNat_lt
 have l3:=a3.toNat_lt
 have l4:=a4.toNat_lt
 have l5:=a5.toNat_lt
 have l6:=a6.toNat_lt
 have l7:=a7.toNat_lt
 clear hk
 have q0:IntKind.i64.wrap ((a0.toNat:Int)*2^min (Int.toNat 24) IntKind.i64.bits)=_:=sD l0 24 16777216 _ rfl (by decide) (by decide)
 have q1:IntKind.i64.wrap ((a1.toNat:Int)*2^min (Int.toNat 16) IntKind.i64.bits)=_:=sD l1 16 65536 _ rfl (by decide) (by decide)
 have q2:IntKind.i64.wrap ((a2.toNat:Int)*2^min (Int.toNat 8) IntKind.i64.bits)=_:=sD l2 8 256 _ rfl (by decide) (by decide)
 have q4:IntKind.i64.wrap ((a4.toNat:Int)*2^min (Int.toNat 8) IntKind.i64.bits)=_:=sD l4 8 256 _ rfl (by decide) (by decide)
 conv=>whnf
 refine zh X5 [] [(4,4),(9,49)] 2 [(4, .ptr 1 0)] [(1, .var 59 [iv ((a0.toNat*16777216+a1.toNat*65536+a2.toNat*256+a3.toNat:Nat):Int),iv ((a4.toNat*256+a5.toNat:Nat):Int),iv (a6.toNat:Nat),iv (a7.toNat:Nat)]),(0, .var 59 [iv 0,iv 0,iv 0,iv 0])] (by kernel_rfl) (by kernel_rfl) ?_ ?_
 ·conv=>whnf
  repeat' (first
   | (refine bD.mk' 0 rfl (by rw [List.length_map];omega) ?_;conv=>whnf) | (refine bD.mk' 1 rfl (by rw [List.length_map];omega) ?_;conv=>whnf) | (refine bD.mk' 2 rfl (by rw [List.length_map];omega) ?_;conv=>whnf) | (refine bD.mk' 3 rfl (by rw [List.length_map];omega) ?_;conv=>whnf) | (refine bD.mk' 4 rfl (by rw [List.length_map];omega) ?_;conv=>whnf) | (refine bD.mk' 5 rfl (by rw [List.length_map];omega) ?_;conv=>whnf) | (refine bD.mk' 6 rfl (by rw [List.length_map];omega) ?_;conv=>whnf) | (refine bD.mk' 7 rfl (by rw [List.length_map];omega) ?_;conv=>whnf)
   | (refine aT.aB k0 ?_;conv=>whnf) | (refine aT.aB k1 ?_;conv=>whnf) | (refine aT.aB k2 ?_;conv=>whnf) | (refine aT.aB k3 ?_;conv=>whnf)
   | (refine aT.aB k4 ?_;conv=>whnf) | (refine aT.aB k5 ?_;conv=>whnf) | (refine aT.aB k6 ?_;conv=>whnf) | (refine aT.aB k7 ?_;conv=>whnf)
   | (refine ay.mk (by decide) ?_;conv=>whnf)
   | (refine aK.i64 (by omega) ?_;conv=>whnf)
   | (with_reducible refine aK.to q0 ?_;conv=>whnf)
   | (with_reducible refine aK.to q1 ?_;conv=>whnf)
   | (with_reducible refine aK.to q2 ?_;conv=>whnf)
   | (with_reducible refine aK.to q4 ?_;conv=>whnf))
  refine zi [(1, .lab 1)] [] ?_ ?_ ?_
  ·rfl
  ·rw [RG l0 l1 l2 l3,RH l4 l5]
   trivial
  ·trivial
 have hf5:a4.toNat*256+a5.toNat<65536:=by omega
 rw [e1]at hgl
 clear q0 q1 q2 q4 k0 k1 k2 k3 k4 k5 k6 k7 e1 e2 e3 e4
 generalize a0.toNat*16777216+a1.toNat*65536+a2.toNat*256+a3.toNat=g at *
 generalize a4.toNat*256+a5.toNat=f at *
 generalize a6.toNat=i at *
 generalize a7.toNat=m at *
 have afi:(s.drop 16).length=48:=by rw [List.length_drop,hl]
 have hS:=fun h=>Lj G g f i m (s.drop 16) hgl hf5 l6 l7 h
 have hS:=hS (by omega)
 have hs2:s.length=64:=hl
 conv=>whnf
 refine bK X5 [0] (by kernel_rfl) ?_
 refine QK [0,1,2,3,4] ?_
 conv=>whnf
 refine⟨KQ 54 rfl (fun h=> ?_) (fun h=> ?_)⟩
 ·have hg0:0<g:=by have:=of_decide_eq_true h;omega
  refine QK [5,6,7,8,9,10,11] ?_
  conv=>whnf
  refine⟨KQ 61 rfl (fun h=> ?_) (fun h=> ?_)⟩
  ·have him:i<m:=by have:=of_decide_eq_true h;omega
   have hrr:jM s=decide (sec g f i m (s.drop 16)=s):=by
    rw [hr,decide_eq_true hg0,decide_eq_true him,Bool.true_and,Bool.true_and]
    exact decide_eq_decide.2 eq_comm
   conv=>whnf
   refine kU.mk' 16 s.length rfl (by rw [List.length_map]) (by omega) (by rw [List.length_map];exact Nat.le_refl _) ?_
   conv=>whnf
   refine ak [] (by kernel_rfl) hS ⟨(by trivial),⟨rfl,List.map_drop.symm⟩,trivial⟩ ?_
   rintro _ _ _ ⟨rfl,rfl,rfl⟩
   conv=>whnf
   refine aW [] (by kernel_rfl) (GK G s (sec g f i m (s.drop 16))) rfl (by trivial) ?_
   conv=>whnf
   exact aU (.bG [hdA g f i m,bv (jM s)]) 0 [] [] [] ⟨rfl,rfl,g,f,i,m,rfl,fun _=>⟨rfl,rfl,rfl,rfl⟩⟩ rfl trivial ⟨(by trivial),congrArg Value.bool (by rw [hrr];exact decide_eq_decide.2 eq_comm),trivial⟩
  ·have him : ¬i<m:=by have:=of_decide_eq_false h;omega
   have hrr:jM s=false:=by rw [hr,decide_eq_false him,Bool.false_and,Bool.and_false]
   conv=>whnf
   exact aU (.bG [hdA g f i m,bv (jM s)]) 0 [] [] [] ⟨rfl,rfl,g,f,i,m,rfl,fun _=>⟨rfl,rfl,rfl,rfl⟩⟩ rfl trivial ⟨(by trivial),congrArg Value.bool hrr.symm,trivial⟩
 ·have hg0:g=0:=by have:=of_decide_eq_false h;omega
  have hrr:jM s=false:=by rw [hr,decide_eq_false (by omega),Bool.false_and]
  conv=>whnf
  exact aU (.bG [hdA g f i m,bv (jM s)]) 0 [] [] [] ⟨rfl,rfl,g,f,i,m,rfl,fun _=>⟨rfl,rfl,rfl,rfl⟩⟩ rfl trivial ⟨(by trivial),congrArg Value.bool hrr.symm,trivial⟩
end
section
open Go Go.RowKit Go.Proofs Go.Proofs.YtocckceefcmeaaaGreatDoor.Vc Go.Proofs.YtocckceefcmeaaaGreatDoor.Ax Go.Proofs.YtocckceefcmeaaaGreatDoor.Ky
def GL (s:By):Bool:=zA ⟨s.toArray⟩
def tK (e:Ev):Int:=
 if ¬(e.kind=1∨e.kind=2∨e.kind=3)then 7
 else if GL e.client=false∨GL e.id=false∨(e.kind≠3∧GL e.name=false)∨(e.kind=3∧GL e.other=false)then 6
 else if e.seq<1∨1073741824<e.seq∨e.time<0∨1099511627776<e.time then 3
 else if e.kind=1∧(e.ver<0∨1099511627776<e.ver∨e.arm<1∨8<e.arm)then 3
 else if e.kind=2∧(e.val < -1099511627776∨1099511627776<e.val)then 3
 else if(e.kind=1∧(e.other≠ []∨e.val≠0))∨(e.kind=2∧(e.other≠ []∨e.ver≠0∨e.arm≠0))∨(e.kind=3∧(e.name≠ []∨e.ver≠0∨e.arm≠0∨e.val≠0∨e.other=e.id))then 15
 else 0
theorem gU (n a b:Int):bC Tryz.prog GS 130 [iv n,iv a,iv b] 0 [] (Is (bv (decide (a≤n)&&decide (n≤b)))):=by
 refine au Tryz.func130 rfl mixed (by kernel_rfl) ?_
 conv=>whnf
 repeat' (apply ah<;>intro h<;>(conv=>whnf))
 all_goals (refine aZ [] (congrArg Value.bool ?_))
 all_goals (simp_all;try omega)
theorem Xe (k:Int)(client:By)(seq time:Int)(id name other:By)(ver arm val:Int)(z1:client.length≤140737488355328)(z2:id.length≤140737488355328)(z3:name.length≤140737488355328)(z4:other.length≤140737488355328):bC Tryz.prog GS 85 [.agg [tv client,iv seq,iv k,iv time,tv id,tv name,tv other,iv ver,iv arm,iv val]] 0 [] (Is (.v (.int .i64 (tK ⟨client,seq,k,time,id,name,other,ver,arm,val⟩)))):=by
 have k1:=Kz ⟨client.toArray⟩ (by show client.length≤_;omega)
 have k2:=Kz ⟨id.toArray⟩ (by show id.length≤_;omega)
 have k3:=Kz ⟨name.toArray⟩ (by show name.length≤_;omega)
 have k4:=Kz ⟨other.toArray⟩ (by show other.length≤_;omega)
 unfold tK GL
 generalize zA ⟨client.toArray⟩=b1 at *
 generalize zA ⟨id.toArray⟩=b2 at *
 generalize zA ⟨name.toArray⟩=b3 at *
 generalize zA ⟨other.toArray⟩=b4 at *
 clear z1 z2 z3 z4
 by_cases c1:k=1
 ·subst c1
  simp only [true_or,not_true,if_false,true_and,show ¬(1:Int)=2 by decide,show ¬(1:Int)=3 by decide,false_and,or_false,ne_eq,not_false_eq_true]
  refine au Tryz.func85 rfl mixed (by kernel_rfl) ?_
  conv=>whnf
  (refine bK J7 [] (by kernel_rfl) ?_;conv=>whnf)
  repeat' (first
   | ((refine aW [] (by kernel_rfl) (k1) rfl ?_ ?_;(focus (trivial;done));(conv=>whnf)))
   | ((refine aW [] (by kernel_rfl) (k2) rfl ?_ ?_;(focus (trivial;done));(conv=>whnf)))
   | ((refine aW [] (by kernel_rfl) (k3) rfl ?_ ?_;(focus (trivial;done));(conv=>whnf)))
   | ((refine aW [] (by kernel_rfl) (k4) rfl ?_ ?_;(focus (trivial;done));(conv=>whnf)))
   | ((refine aW [] (by kernel_rfl) (gU seq 1 1073741824) rfl ?_ ?_;(focus (trivial;done));(conv=>whnf)))
   | ((refine aW [] (by kernel_rfl) (gU time 0 1099511627776) rfl ?_ ?_;(focus (trivial;done));(conv=>whnf)))
   | ((refine aW [] (by kernel_rfl) (gU ver 0 1099511627776) rfl ?_ ?_;(focus (trivial;done));(conv=>whnf)))
   | ((refine aW [] (by kernel_rfl) (gU arm 1 8) rfl ?_ ?_;(focus (trivial;done));(conv=>whnf)))
   | ((refine aW [] (by kernel_rfl) (gU val (-1099511627776) 1099511627776) rfl ?_ ?_;(focus (trivial;done));(conv=>whnf)))
   | (apply ah<;>intro h<;>(first | (exfalso;simp only [*,Bool.not_true,Bool.not_false,Bool.false_eq_true,Bool.true_eq_false,reduceCtorEq]at *;done) | (conv=>whnf))))
  all_goals (refine aZ [] (DF ?_))
  all_goals (simp only [cond_true,cond_false,kQ,Bool.not_eq_true',Bool.not_eq_false',decide_eq_true_eq,decide_eq_false_iff_not,beq_iff_eq,bne_iff_ne,beq_eq_false_iff_ne,bne_eq_false_iff_eq,ne_eq,Bool.not_eq_eq_eq_not,Bool.not_true,Bool.not_false,Decidable.not_not,gt_iff_lt,Int.not_lt]at *)
  all_goals (clear k1 k2 k3 k4)
  all_goals first
   | (simp_all;done)
   | (simp_all;omega)
   | ((repeat' split)<;>first | rfl | (exfalso;simp_all;done) | (exfalso;simp_all;omega))
 by_cases c2:k=2
 ·subst c2
  simp only [true_or,or_true,not_true,if_false,true_and,show ¬(2:Int)=1 by decide,show ¬(2:Int)=3 by decide,false_and,or_false,false_or,ne_eq,not_false_eq_true]
  refine au Tryz.func85 rfl mixed (by kernel_rfl) ?_
  conv=>whnf
  (refine bK J7 [] (by kernel_rfl) ?_;conv=>whnf)
  repeat' (first
   | ((refine aW [] (by kernel_rfl) (k1) rfl ?_ ?_;(focus (trivial;done));(conv=>whnf)))
   | ((refine aW [] (by kernel_rfl) (k2) rfl ?_ ?_;(focus (trivial;done));(conv=>whnf)))
   | ((refine aW [] (by kernel_rfl) (k3) rfl ?_ ?_;(focus (trivial;done));(conv=>whnf)))
   | ((refine aW [] (by kernel_rfl) (k4) rfl ?_ ?_;(focus (trivial;done));(conv=>whnf)))
   | ((refine aW [] (by kernel_rfl) (gU seq 1 1073741824) rfl ?_ ?_;(focus (trivial;done));(conv=>whnf)))
   | ((refine aW [] (by kernel_rfl) (gU time 0 1099511627776) rfl ?_ ?_;(focus (trivial;done));(conv=>whnf)))
   | ((refine aW [] (by kernel_rfl) (gU ver 0 1099511627776) rfl ?_ ?_;(focus (trivial;done));(conv=>whnf)))
   | ((refine aW [] (by kernel_rfl) (gU arm 1 8) rfl ?_ ?_;(focus (trivial;done));(conv=>whnf)))
   | ((refine aW [] (by kernel_rfl) (gU val (-1099511627776) 1099511627776) rfl ?_ ?_;(focus (trivial;done));(conv=>whnf)))
   | (apply ah<;>intro h<;>(first | (exfalso;simp only [*,Bool.not_true,Bool.not_false,Bool.false_eq_true,Bool.true_eq_false,reduceCtorEq]at *;done) | (conv=>whnf))))
  all_goals (refine aZ [] (DF ?_))
  all_goals (simp only [cond_true,cond_false,kQ,Bool.not_eq_true',Bool.not_eq_false',decide_eq_true_eq,decide_eq_false_iff_not,beq_iff_eq,bne_iff_ne,beq_eq_false_iff_ne,bne_eq_false_iff_eq,ne_eq,Bool.not_eq_eq_eq_not,Bool.not_true,Bool.not_false,Decidable.not_not,gt_iff_lt,Int.not_lt]at *)
  all_goals (clear k1 k2 k3 k4)
  all_goals first
   | (simp_all;done)
   | (simp_all;omega)
   | ((repeat' split)<;>first | rfl | (exfalso;simp_all;done) | (exfalso;simp_all;omega))
 by_cases c3:k=3
 ·subst c3
  simp only [or_true,not_true,if_false,true_and,show ¬(3:Int)=1 by decide,show ¬(3:Int)=2 by decide,false_and,false_or,ne_eq]
  refine au Tryz.func85 rfl mixed (by kernel_rfl) ?_
  conv=>whnf
  (refine bK J7 [] (by kernel_rfl) ?_;conv=>whnf)
  repeat' (first
   | ((refine aW [] (by kernel_rfl) (k1) rfl ?_ ?_;(focus (trivial;done));(conv=>whnf)))
   | ((refine aW [] (by kernel_rfl) (k2) rfl ?_ ?_;(focus (trivial;done));(conv=>whnf)))
   | ((refine aW [] (by kernel_rfl) (k3) rfl ?_ ?_;(focus (trivial;done));(conv=>whnf)))
   | ((refine aW [] (by kernel_rfl) (k4) rfl ?_ ?_;(focus (trivial;done));(conv=>whnf)))
   | ((refine aW [] (by kernel_rfl) (gU seq 1 1073741824) rfl ?_ ?_;(focus (trivial;done));(conv=>whnf)))
   | ((refine aW [] (by kernel_rfl) (gU time 0 1099511627776) rfl ?_ ?_;(focus (trivial;done));(conv=>whnf)))
   | ((refine aW [] (by kernel_rfl) (gU ver 0 1099511627776) rfl ?_ ?_;(focus (trivial;done));(conv=>whnf)))
   | ((refine aW [] (by kernel_rfl) (gU arm 1 8) rfl ?_ ?_;(focus (trivial;done));(conv=>whnf)))
   | ((refine aW [] (by kernel_rfl) (gU val (-1099511627776) 1099511627776) rfl ?_ ?_;(focus (trivial;done));(conv=>whnf)))
   | (apply ah<;>intro h<;>(first | (exfalso;simp only [*,Bool.not_true,Bool.not_false,Bool.false_eq_true,Bool.true_eq_false,reduceCtorEq]at *;done) | (conv=>whnf))))
  all_goals (refine aZ [] (DF ?_))
  all_goals (simp only [cond_true,cond_false,kQ,Bool.not_eq_true',Bool.not_eq_false',decide_eq_true_eq,decide_eq_false_iff_not,beq_iff_eq,bne_iff_ne,beq_eq_false_iff_ne,bne_eq_false_iff_eq,ne_eq,Bool.not_eq_eq_eq_not,Bool.not_true,Bool.not_false,Decidable.not_not,gt_iff_lt,Int.not_lt]at *)
  all_goals (clear k1 k2 k3 k4)
  all_goals first
   | (simp_all;done)
   | (simp_all;omega)
   | ((repeat' split)<;>first | rfl | (exfalso;simp_all;done) | (exfalso;simp_all;omega))
 have q1:(k==1)=false:=by simpa using c1
 have q2:(k==2)=false:=by simpa using c2
 have q3:(k==3)=false:=by simpa using c3
 refine au Tryz.func85 rfl mixed (by kernel_rfl) ?_
 conv=>whnf
 (refine bK J7 [] (by kernel_rfl) ?_;conv=>whnf)
 rw [q1]
 conv=>whnf
 rw [q2]
 conv=>whnf
 rw [q3]
 conv=>whnf
 exact aZ [] (DF (by simp [c1,c2,c3]))
theorem Xf (e:Ev)(he:e.ok):bC Tryz.prog GS 85 [evA e] 0 [] (Is (.v (.int .i64 (tK e)))):=
 Xe e.kind e.client e.seq e.time e.id e.name e.other e.ver e.arm e.val he.client he.id he.name he.other
end
section
open Go Go.RowKit Go.Proofs Go.Proofs.YtocckceefcmeaaaGreatDoor.Vc Go.Proofs.YtocckceefcmeaaaGreatDoor.Ax
def Xg (a:Int)(l:List Ev):Int:=l.foldl (fun a e=>min a e.time) a
def hiT (a:Int)(l:List Ev):Int:=l.foldl (fun a e=>max a e.time) a
def jP (l:List Ev):Int×Int:=match l with | []=>(0,0) | e::_=>(Xg e.time l,hiT e.time l)
theorem RI {l:List Ev}{i:Nat}(a:Int)(h:i<l.length):Xg a (l.take (i+1))=min (Xg a (l.take i)) l[i].time:=by
 unfold Xg;rw [List.take_succ_eq_append_getElem h,List.foldl_append];rfl
theorem RJ {l:List Ev}{i:Nat}(a:Int)(h:i<l.length):hiT a (l.take (i+1))=max (hiT a (l.take i)) l[i].time:=by
 unfold hiT;rw [List.take_succ_eq_append_getElem h,List.foldl_append];rfl
theorem Xh {l:List Ev}{a lo hi:Int}(h1:lo≤a∧a≤hi)(h : ∀e∈l,lo≤e.time∧e.time≤hi):lo≤Xg a l∧Xg a l≤hi∧lo≤hiT a l∧hiT a l≤hi:=by
 unfold Xg hiT
 have : ∀(l:List Ev) (a b:Int),(lo≤a∧a≤hi)→(lo≤b∧b≤hi)→(∀e∈l,lo≤e.time∧e.time≤hi)→lo≤l.foldl (fun a e=>min a e.time) a∧l.foldl (fun a e=>min a e.time) a≤hi∧lo≤l.foldl (fun a e=>max a e.time) b∧l.foldl (fun a e=>max a e.time) b≤hi:=by
  intro l
  induction l with
  | nil=>intro a b h1 h2 _;exact⟨h1.1,h1.2,h2.1,h2.2⟩
  | cons e r ih=>
   intro a b h1 h2 h
   have he:=h e List.mem_cons_self
   simp only [List.foldl_cons]
   exact ih _ _ (by omega) (by omega) fun x hx=>h x (List.mem_cons_of_mem _ hx)
 exact this l a a h1 h1 h
theorem RP (e:Ev)(r:List Ev)(hl:(e::r).length≤1000000):bC Tryz.prog GS 123 [el (e::r)] 0 [] (Is (.bG [iv (Xg e.time (e::r)),iv (hiT e.time (e::r))])):=by
 generalize hl0:e::r=l at *
 have h0:l[0]? = some e:=by rw [←hl0];rfl
 have hpos:0<l.length:=by rw [←hl0];simp
 refine au Tryz.func123 rfl mixed (by kernel_rfl) ?_
 conv=>whnf
 (refine bK PL [] (by kernel_rfl) ?_;conv=>whnf)
 repeat' (first
  | (refine And.intro ?_ ?_<;>(conv=>whnf))
  | (refine bD.mk' 0 rfl (iT hpos) ?_;conv=>whnf)
  | (refine aT.aB h0 ?_;conv=>whnf))
 refine bf UJ 0 [4,5,18] (fun i:Nat=> [(4,iv (Xg e.time (l.take i))),(5,iv (hiT e.time (l.take i))),(18,iv i)]) (fun _=> []) (fun i=>i≤l.length) (fun i=>l.length-i) [] [] 0 (by kernel_rfl) (fun _=>rfl) rfl (Nat.zero_le _) trivial ⟨rfl,rfl,rfl,trivial⟩ ?_
 intro i hi
 conv=>whnf
 apply ah<;>intro h
 ·have hlt:i<l.length:=by simp at h;omega
  conv=>whnf
  refine bD.mk' i rfl (iT hlt) ?_
  conv=>whnf
  refine aT.aB (List.getElem?_eq_getElem hlt) ?_
  conv=>whnf
  (refine bK PL [] (by kernel_rfl) ?_;conv=>whnf)
  refine aK.i64 (by omega) ?_
  conv=>whnf
  exact aI (i+1) [] [] rfl (by show l.length -(i+1)<l.length-i;omega) hlt trivial ⟨DF (RI _ hlt).symm,DF (RJ _ hlt).symm,rfl,trivial⟩
 ·have hie:i=l.length:=by simp at h;omega
  subst hie
  rw [List.take_length]
  conv=>whnf
  exact aZ [] (by trivial)
theorem BU {n:Nat}(h:n≤100000):n*112≤140737488355328∧n≤maxLen:=⟨by omega,by unfold maxLen;omega⟩
theorem Ll (l:List Ev)(hl:l≠ [])(hs:l.length≤10000):bC Tryz.prog GS 80 [el l] 0 [] (kW 95 10 (l.map iE)):=by
 have h0:0<l.length:=List.length_pos_iff.2 hl
 refine au Tryz.func80 rfl mixed (by kernel_rfl) ?_
 conv=>whnf
 refine⟨fun b hb=> ?_⟩
 rw [hb (iT h0)]
 conv=>whnf
 refine ay.mk (BU (by simp only [List.length_map,List.length_nil];omega)) ?_
 conv=>whnf
 exact aU (.own 0) 1 _ [(0, .lab 1)] [] ⟨rfl,rfl,rfl⟩ rfl (by trivial) (by trivial)
abbrev fV (f:Nat):FV:= .v (.func (.func f) #[] #[])
theorem GN:bC Tryz.prog GS 120 [] 0 [] (kW 160 2 [[fV 143, .lst 1 [[fV 144],[fV 145],[fV 146]]],
  [fV 147, .v (.slice none 0 0)],[fV 148, .v (.slice none 0 0)],[fV 149, .lst 1 [[fV 150],[fV 151],[fV 152]]]]):=by
 refine au Tryz.func120 rfl mixed (by kernel_rfl) ?_
 conv=>whnf
 exact aU (.own 0) 1 _ [(0, .lab 2)] [] ⟨rfl,rfl,rfl⟩ rfl (by trivial) (by trivial)
end
end Go.Proofs.YtocckceefcmeaaaGreatDoor.Cl
