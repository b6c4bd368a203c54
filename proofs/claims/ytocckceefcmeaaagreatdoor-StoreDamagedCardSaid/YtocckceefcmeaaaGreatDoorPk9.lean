/- Joined parts of the proof. Events, and the walks of both Check -/
import Derived.Test.YtocckceefcmeaaaGreatDoorPk6
import Derived.Test.YtocckceefcmeaaaGreatDoorPk7
import Derived.Test.YtocckceefcmeaaaGreatDoorPk8
import Derived.Test.YtocckceefcmeaaaGreatDoorProg
import Derived.Test.YtocckceefcmeaaaGreatDoorPk5
set_option linter.unusedVariables false
set_option linter.unusedSimpArgs false
set_option maxRecDepth 100000
set_option maxHeartbeats 16000000
namespace Go.Proofs.YtocckceefcmeaaaGreatDoor.Cl
open RowKit Vc Ax Ky Go.Proofs.Tryz
attribute [local irreducible] loadVar storeVar Instr.indexAt Instr.index Instr.sliceAt Instr.makeSlice Instr.lookup Instr.mapUpdate Instr.range Instr.next Instr.entry Instr.makeMap Builtin.append_ Builtin.copy_ Builtin.len_ Builtin.min_ Builtin.max_ Builtin.cap_ Builtin.delete_ Builtin.clear_ convert binOp eqGuard Op.unary Calls
def Sz (s:By):Bool:=FB ⟨s.toArray⟩
def Ig (e:Ev):Int:=
 if ¬(e.kind=1∨e.kind=2∨e.kind=3)then 7
 else if Sz e.client=false∨Sz e.id=false∨(e.kind≠3∧Sz e.name=false)∨(e.kind=3∧Sz e.other=false)then 6
 else if e.seq<1∨1073741824<e.seq∨e.time<0∨1099511627776<e.time then 3
 else if e.kind=1∧(e.ver<0∨1099511627776<e.ver∨e.arm<1∨8<e.arm)then 3
 else if e.kind=2∧(e.val < -1099511627776∨1099511627776<e.val)then 3
 else if(e.kind=1∧(e.other≠ []∨e.val≠0))∨(e.kind=2∧(e.other≠ []∨e.ver≠0∨e.arm≠0))∨(e.kind=3∧(e.name≠ []∨e.ver≠0∨e.arm≠0∨e.val≠0∨e.other=e.id))then 15
 else 0
theorem qy (n a b:Int):mX Tryz.prog GS 130 [iv n,iv a,iv b] 0 [] (Is (bv (decide (a<=n)&&decide (n<=b)))):=by
 refine lH func130 rfl mixed (by kernel_rfl) ?_
 conv=>whnf
 repeat' (apply lD<;>intro h<;>(conv=>whnf))
 all_goals (refine mJ [] (congrArg Value.bool ?_))
 all_goals (simp_all;try omega)
theorem Z7 (k:Int)(client:By)(seq time:Int)(id name other:By)(ver arm val:Int)(z1:client.length<=140737488355328)(z2:id.length<=140737488355328)(z3:name.length<=140737488355328)(z4:other.length<=140737488355328):mX Tryz.prog GS 85 [.agg [tv client,iv seq,iv k,iv time,tv id,tv name,tv other,iv ver,iv arm,iv val]] 0 [] (Is (.v (.int .i64 (Ig ⟨client,seq,k,time,id,name,other,ver,arm,val⟩)))):=by
 have k1:=PI ⟨client.toArray⟩ (by show client.length<=_;omega)
 have k2:=PI ⟨id.toArray⟩ (by show id.length<=_;omega)
 have k3:=PI ⟨name.toArray⟩ (by show name.length<=_;omega)
 have k4:=PI ⟨other.toArray⟩ (by show other.length<=_;omega)
 unfold Ig Sz
 generalize FB ⟨client.toArray⟩=b1 at *
 generalize FB ⟨id.toArray⟩=b2 at *
 generalize FB ⟨name.toArray⟩=b3 at *
 generalize FB ⟨other.toArray⟩=b4 at *
 clear z1 z2 z3 z4
 by_cases c1:k=1
 ·subst c1
  simp only [true_or,not_true,if_false,true_and,show ¬(1:Int)=2 by decide,show ¬(1:Int)=3 by decide,false_and,or_false,ne_eq,not_false_eq_true]
  refine lH func85 rfl mixed (by kernel_rfl) ?_
  (refine nZ Px [] (by kernel_rfl) ?_;conv=>whnf)
  repeat' (first
   | ((refine mQ [] (by kernel_rfl) (k1) rfl ?_ ?_;(focus (trivial;done));(conv=>whnf)))
   | ((refine mQ [] (by kernel_rfl) (k2) rfl ?_ ?_;(focus (trivial;done));(conv=>whnf)))
   | ((refine mQ [] (by kernel_rfl) (k3) rfl ?_ ?_;(focus (trivial;done));(conv=>whnf)))
   | ((refine mQ [] (by kernel_rfl) (k4) rfl ?_ ?_;(focus (trivial;done));(conv=>whnf)))
   | ((refine mQ [] (by kernel_rfl) (qy seq 1 1073741824) rfl ?_ ?_;(focus (trivial;done));(conv=>whnf)))
   | ((refine mQ [] (by kernel_rfl) (qy time 0 1099511627776) rfl ?_ ?_;(focus (trivial;done));(conv=>whnf)))
   | ((refine mQ [] (by kernel_rfl) (qy ver 0 1099511627776) rfl ?_ ?_;(focus (trivial;done));(conv=>whnf)))
   | ((refine mQ [] (by kernel_rfl) (qy arm 1 8) rfl ?_ ?_;(focus (trivial;done));(conv=>whnf)))
   | ((refine mQ [] (by kernel_rfl) (qy val (-1099511627776) 1099511627776) rfl ?_ ?_;(focus (trivial;done));(conv=>whnf)))
   | (apply lD<;>intro h<;>(first|(exfalso;simp only [*,gB,fC,aZ,gq,reduceCtorEq]at *;done)|(conv=>whnf))))
  all_goals (refine mJ [] (Je ?_))
  all_goals (simp only [cond_true,cond_false,uh,fQ,fZ,decide_eq_true_eq,decide_eq_false_iff_not,beq_iff_eq,bne_iff_ne,beq_eq_false_iff_ne,bne_eq_false_iff_eq,ne_eq,dU,gB,fC,jV,gt_iff_lt,jl]at *)
  all_goals (clear k1 k2 k3 k4)
  all_goals first
   | (simp_all;done)
   | (simp_all;omega)
   | ((repeat' split)<;>first|rfl|(exfalso;simp_all;done)|(exfalso;simp_all;omega))
 by_cases c2:k=2
 ·subst c2
  simp only [true_or,or_true,not_true,if_false,true_and,show ¬(2:Int)=1 by decide,show ¬(2:Int)=3 by decide,false_and,or_false,false_or,ne_eq,not_false_eq_true]
  refine lH func85 rfl mixed (by kernel_rfl) ?_
  (refine nZ Px [] (by kernel_rfl) ?_;conv=>whnf)
  repeat' (first
   | ((refine mQ [] (by kernel_rfl) (k1) rfl ?_ ?_;(focus (trivial;done));(conv=>whnf)))
   | ((refine mQ [] (by kernel_rfl) (k2) rfl ?_ ?_;(focus (trivial;done));(conv=>whnf)))
   | ((refine mQ [] (by kernel_rfl) (k3) rfl ?_ ?_;(focus (trivial;done));(conv=>whnf)))
   | ((refine mQ [] (by kernel_rfl) (k4) rfl ?_ ?_;(focus (trivial;done));(conv=>whnf)))
   | ((refine mQ [] (by kernel_rfl) (qy seq 1 1073741824) rfl ?_ ?_;(focus (trivial;done));(conv=>whnf)))
   | ((refine mQ [] (by kernel_rfl) (qy time 0 1099511627776) rfl ?_ ?_;(focus (trivial;done));(conv=>whnf)))
   | ((refine mQ [] (by kernel_rfl) (qy ver 0 1099511627776) rfl ?_ ?_;(focus (trivial;done));(conv=>whnf)))
   | ((refine mQ [] (by kernel_rfl) (qy arm 1 8) rfl ?_ ?_;(focus (trivial;done));(conv=>whnf)))
   | ((refine mQ [] (by kernel_rfl) (qy val (-1099511627776) 1099511627776) rfl ?_ ?_;(focus (trivial;done));(conv=>whnf)))
   | (apply lD<;>intro h<;>(first|(exfalso;simp only [*,gB,fC,aZ,gq,reduceCtorEq]at *;done)|(conv=>whnf))))
  all_goals (refine mJ [] (Je ?_))
  all_goals (simp only [cond_true,cond_false,uh,fQ,fZ,decide_eq_true_eq,decide_eq_false_iff_not,beq_iff_eq,bne_iff_ne,beq_eq_false_iff_ne,bne_eq_false_iff_eq,ne_eq,dU,gB,fC,jV,gt_iff_lt,jl]at *)
  all_goals (clear k1 k2 k3 k4)
  all_goals first
   | (simp_all;done)
   | (simp_all;omega)
   | ((repeat' split)<;>first|rfl|(exfalso;simp_all;done)|(exfalso;simp_all;omega))
 by_cases c3:k=3
 ·subst c3
  simp only [or_true,not_true,if_false,true_and,show ¬(3:Int)=1 by decide,show ¬(3:Int)=2 by decide,false_and,false_or,ne_eq]
  refine lH func85 rfl mixed (by kernel_rfl) ?_
  (refine nZ Px [] (by kernel_rfl) ?_;conv=>whnf)
  repeat' (first
   | ((refine mQ [] (by kernel_rfl) (k1) rfl ?_ ?_;(focus (trivial;done));(conv=>whnf)))
   | ((refine mQ [] (by kernel_rfl) (k2) rfl ?_ ?_;(focus (trivial;done));(conv=>whnf)))
   | ((refine mQ [] (by kernel_rfl) (k3) rfl ?_ ?_;(focus (trivial;done));(conv=>whnf)))
   | ((refine mQ [] (by kernel_rfl) (k4) rfl ?_ ?_;(focus (trivial;done));(conv=>whnf)))
   | ((refine mQ [] (by kernel_rfl) (qy seq 1 1073741824) rfl ?_ ?_;(focus (trivial;done));(conv=>whnf)))
   | ((refine mQ [] (by kernel_rfl) (qy time 0 1099511627776) rfl ?_ ?_;(focus (trivial;done));(conv=>whnf)))
   | ((refine mQ [] (by kernel_rfl) (qy ver 0 1099511627776) rfl ?_ ?_;(focus (trivial;done));(conv=>whnf)))
   | ((refine mQ [] (by kernel_rfl) (qy arm 1 8) rfl ?_ ?_;(focus (trivial;done));(conv=>whnf)))
   | ((refine mQ [] (by kernel_rfl) (qy val (-1099511627776) 1099511627776) rfl ?_ ?_;(focus (trivial;done));(conv=>whnf)))
   | (apply lD<;>intro h<;>(first|(exfalso;simp only [*,gB,fC,aZ,gq,reduceCtorEq]at *;done)|(conv=>whnf))))
  all_goals (refine mJ [] (Je ?_))
  all_goals (simp only [cond_true,cond_false,uh,fQ,fZ,decide_eq_true_eq,decide_eq_false_iff_not,beq_iff_eq,bne_iff_ne,beq_eq_false_iff_ne,bne_eq_false_iff_eq,ne_eq,dU,gB,fC,jV,gt_iff_lt,jl]at *)
  all_goals (clear k1 k2 k3 k4)
  all_goals first
   | (simp_all;done)
   | (simp_all;omega)
   | ((repeat' split)<;>first|rfl|(exfalso;simp_all;done)|(exfalso;simp_all;omega))
 have q1:(k==1)=false:=by simpa using c1
 have q2:(k==2)=false:=by simpa using c2
 have q3:(k==3)=false:=by simpa using c3
 refine lH func85 rfl mixed (by kernel_rfl) ?_
 (refine nZ Px [] (by kernel_rfl) ?_;conv=>whnf)
 rw [q1]
 conv=>whnf
 rw [q2]
 conv=>whnf
 rw [q3]
 exact mJ [] (Je (by simp [c1,c2,c3]))
theorem Z8 (e:Ev)(he:e.ok):mX Tryz.prog GS 85 [evA e] 0 [] (Is (.v (.int .i64 (Ig e)))):=
 Z7 e.kind e.client e.seq e.time e.id e.name e.other e.ver e.arm e.val he.client he.id he.name he.other
def Z9 (a:Int)(l:List Ev):Int:=l.foldl (fun a e=>min a e.time) a
def hiT (a:Int)(l:List Ev):Int:=l.foldl (fun a e=>max a e.time) a
def vg (l:List Ev):Int×Int:=match l with | []=>(0,0)|e::_=>(Z9 e.time l,hiT e.time l)
theorem Wj {l:List Ev}{i:Nat}(a:Int)(h:i<l.length):Z9 a (l.take (i+1))=min (Z9 a (l.take i)) l[i].time:=by
 unfold Z9;rw [aH h,jW];rfl
theorem Wn {l:List Ev}{i:Nat}(a:Int)(h:i<l.length):hiT a (l.take (i+1))=max (hiT a (l.take i)) l[i].time:=by
 unfold hiT;rw [aH h,jW];rfl
theorem aac {l:List Ev}{a lo hi:Int}(h1:lo<=a∧a<=hi)(h : ∀e∈l,lo<=e.time∧e.time<=hi):lo<=Z9 a l∧Z9 a l<=hi∧lo<=hiT a l∧hiT a l<=hi:=by
 unfold Z9 hiT
 have : ∀(l:List Ev) (a b:Int),(lo<=a∧a<=hi)->(lo<=b∧b<=hi)->(∀e∈l,lo<=e.time∧e.time<=hi)->lo<=l.foldl (fun a e=>min a e.time) a∧l.foldl (fun a e=>min a e.time) a<=hi∧lo<=l.foldl (fun a e=>max a e.time) b∧l.foldl (fun a e=>max a e.time) b<=hi:=by
  intro l
  induction l with
  | nil=>intro a b h1 h2 _;exact⟨h1.1,h1.2,h2.1,h2.2⟩
  | cons e r ih=>
   intro a b h1 h2 h
   have he:=h e bJ
   simp only [fF]
   exact ih _ _ (by omega) (by omega) fun x hx=>h x (dh _ hx)
 exact this l a a h1 h1 h
theorem Wp (e:Ev)(r:List Ev)(hl:(e::r).length<=1000000):mX Tryz.prog GS 123 [el (e::r)] 0 [] (Is (.mW [iv (Z9 e.time (e::r)),iv (hiT e.time (e::r))])):=by
 generalize hl0:e::r=l at *
 have h0:l[0]? = some e:=by rw [<-hl0];rfl
 have hpos:0<l.length:=by rw [<-hl0];simp
 refine lH func123 rfl mixed (by kernel_rfl) ?_
 (refine nZ Uw [] (by kernel_rfl) ?_;conv=>whnf)
 repeat' (first
  | (refine And.intro ?_ ?_<;>(conv=>whnf))
  | (refine ni.mk' 0 rfl (sD hpos) ?_;conv=>whnf)
  | (refine mG.lS h0 ?_;conv=>whnf))
 refine mO X8 0 [4,5,18] (fun i:Nat=> [(4,iv (Z9 e.time (l.take i))),(5,iv (hiT e.time (l.take i))),(18,iv i)]) (fun _=> []) (fun i=>i<=l.length) (fun i=>l.length-i) [] [] 0 (by kernel_rfl) (fun _=>rfl) rfl (aB _) trivial ⟨rfl,rfl,rfl,trivial⟩ ?_
 intro i hi
 apply lD<;>intro h
 ·have hlt:i<l.length:=by simp at h;omega
  refine ni.mk' i rfl (sD hlt) ?_
  refine mG.lS (aj hlt) ?_
  (refine nZ Uw [] (by kernel_rfl) ?_;conv=>whnf)
  refine lU.i64 (by omega) ?_
  exact lX (i+1) [] [] rfl (by show l.length -(i+1)<l.length-i;omega) hlt trivial ⟨Je (Wj _ hlt).symm,Je (Wn _ hlt).symm,rfl,trivial⟩
 ·have hie:i=l.length:=by simp at h;omega
  subst hie
  rw [bn]
  exact mJ [] (by trivial)
theorem Qj {n:Nat}(h:n<=100000):n*112<=140737488355328∧n<=maxLen:=⟨by omega,by unfold maxLen;omega⟩
theorem Qk (l:List Ev)(hl:l≠ [])(hs:l.length<=10000):mX Tryz.prog GS 80 [el l] 0 [] (wJ 95 10 (l.map uX)):=by
 have h0:0<l.length:=dV.2 hl
 refine lH func80 rfl mixed (by kernel_rfl) ?_
 refine⟨fun b hb=> ?_⟩
 rw [hb (sD h0)]
 refine lG.mk (Qj (by simp only [ln];omega)) ?_
 exact lW (.own 0) 1 _ [(0, .lab 1)] [] ⟨rfl,rfl,rfl⟩ rfl (by trivial) (by trivial)
abbrev fV (f:Nat):FV:= .v (.func (.func f) #[] #[])
theorem MO:mX Tryz.prog GS 120 [] 0 [] (wJ 160 2 [[fV 143, .lst 1 [[fV 144],[fV 145],[fV 146]]],
  [fV 147, .v (.slice none 0 0)],[fV 148, .v (.slice none 0 0)],[fV 149, .lst 1 [[fV 150],[fV 151],[fV 152]]]]):=by
 refine lH func120 rfl mixed (by kernel_rfl) ?_
 exact lW (.own 0) 1 _ [(0, .lab 2)] [] ⟨rfl,rfl,rfl⟩ rfl (by trivial) (by trivial)
section
attribute [local irreducible] best ints en bd su dsT
def Dw (l:List Ev):By:=su (l.map (·.client))++ints (l.map (·.seq))++ints (l.map (·.kind))++ints (l.map (·.time))++su (l.map (·.id))++su (l.map (·.name))++su (l.map (·.other))++ints (l.map (·.ver))++ints (l.map (·.arm))++ints (l.map (·.val))
def JJ (l:List Ev):By:=num (vg l).1++num (vg l).2++num ((Dw l).length:Int)++Dw l
def Gu (l:List Ev)(i:Nat):By:=
 match i with
 | 0=> []
 | 1=>su (l.map (·.client))++ints (l.map (·.seq))++ints (l.map (·.kind))++ints (l.map (·.time))
 | 2=>su (l.map (·.client))++ints (l.map (·.seq))++ints (l.map (·.kind))++ints (l.map (·.time))++su (l.map (·.id))
 | 3=>su (l.map (·.client))++ints (l.map (·.seq))++ints (l.map (·.kind))++ints (l.map (·.time))++su (l.map (·.id))++su (l.map (·.name))
 | _=>Dw l
def pfN (b x y z:By)(j:Nat):By:=
 match j with
 | 0=>b
 | 1=>b++x
 | 2=>b++x++y
 | _=>b++x++y++z
abbrev nN:List (List FV):= [[fV 143, .lst 1 [[fV 144],[fV 145],[fV 146]]],
  [fV 147, .v (.slice none 0 0)],[fV 148, .v (.slice none 0 0)],[fV 149, .lst 1 [[fV 150],[fV 151],[fV 152]]]]
structure Xd (l:List Ev):Prop where
 ne:l≠ []
 len:l.length<=16
 ok : ∀e∈l,e.ok
 s1 : ∀e∈l,e.client.length<=200
 s2 : ∀e∈l,e.id.length<=200
 s3 : ∀e∈l,e.name.length<=200
 s4 : ∀e∈l,e.other.length<=200
 tm : ∀e∈l, -4611686018427387904<=e.time∧e.time<=4611686018427387904
theorem qR {l:List Ev}{f:Ev->By}(h : ∀e∈l,(f e).length<=200):J3 (l.map f):=fun s hs=>by
 obtain⟨e,he,rfl⟩:=dR.1 hs
 exact h e he
theorem all_map {l:List Ev}{f:Ev->Int}(h : ∀e∈l,I64 (f e)):nY (l.map f):=fun s hs=>by
 obtain⟨e,he,rfl⟩:=dR.1 hs
 exact h e he
theorem xw {l:List Ev}(h:Xd l)(i:Nat):(Gu l i).length<=70000:=by
 have hl:=h.len
 have t1:=vN (l.map (·.client)) (qR h.s1) (by rw [ah];omega)
 have t2:=vN (l.map (·.id)) (qR h.s2) (by rw [ah];omega)
 have t3:=vN (l.map (·.name)) (qR h.s3) (by rw [ah];omega)
 have t4:=vN (l.map (·.other)) (qR h.s4) (by rw [ah];omega)
 have i1:=nM (l.map (·.seq)) (by rw [ah];omega)
 have i2:=nM (l.map (·.kind)) (by rw [ah];omega)
 have i3:=nM (l.map (·.time)) (by rw [ah];omega)
 have i4:=nM (l.map (·.ver)) (by rw [ah];omega)
 have i5:=nM (l.map (·.arm)) (by rw [ah];omega)
 have i6:=nM (l.map (·.val)) (by rw [ah];omega)
 simp only [ah]at t1 t2 t3 t4
 match i with
 | 0=>simp [Gu]
 | 1=>simp only [Gu,ak];omega
 | 2=>simp only [Gu,ak];omega
 | 3=>simp only [Gu,ak];omega
 | n+4=>simp only [Gu,Dw,ak];omega
theorem MP {l:List Ev}(h:Xd l):I64 (vg l).1∧I64 (vg l).2:=by
 cases l with
 | nil=>exact absurd rfl h.ne
 | cons e r=>
  have:=aac (a:=e.time) (h.tm e bJ) h.tm
  unfold vg I64
  simp only
  omega
theorem SA (l:List Ev)(h:Xd l):mX Tryz.prog GS 123 [el l] 0 [] (Is (.mW [iv (vg l).1,iv (vg l).2])):=by
 cases l with
 | nil=>exact absurd rfl h.ne
 | cons e r=>exact Wp e r (by have:=h.len;omega)
theorem aad (l:List Ev)(h:Xd l):mX Tryz.prog GS 87 [el l] 0 [] (Is (bs (JJ l))):=by
 have hlen:=h.len
 refine lH func87 rfl mixed (by kernel_rfl) ?_
 refine nI [] (by kernel_rfl) (Qk l h.ne (by omega)) (by trivial) ?_
 refine nI [] (by kernel_rfl) (MO) (by trivial) ?_
 refine mO abX 3 [3,18] (fun i:Nat=> [(3, .own 2),(18,iv i)]) (fun i=> [(2, .rows 5 1 ((Gu l i).map oh)),(1, .rows 160 2 nN),(0, .rows 95 10 (l.map uX))]) (fun i=>i<=4) (fun i=>4-i) [(2, .nil)] [] 0 (by kernel_rfl) (fun _=>rfl) rfl (aB _) ⟨rfl,⟨rfl,rfl,rfl⟩,⟨rfl,rfl,rfl⟩,trivial⟩ ⟨trivial,rfl,trivial⟩ ?_
 intro i hi
 have hcs:i=0∨i=1∨i=2∨i=3∨i=4:=by omega
 rcases hcs with rfl|rfl|rfl|rfl|rfl
 ·refine ni.mk' 0 rfl (by decide) ?_
  refine mG.at rfl ?_
  refine mO Jf 5 [6,24] (fun k:Nat=> [(6, .own 4),(24,iv k)]) (fun k=> [(4, .rows 9 1 (((l.take k).map (·.client)).map JF)),(3, .var 160 ((nN.getD 0 []).map FV.up)),(2, .rows 5 1 ((Gu l 0).map oh)),(1, .rows 160 2 nN),(0, .rows 95 10 (l.map uX))]) (fun k=>k<=l.length) (fun k=>l.length-k) [(4, .nil)] [] 0 (by kernel_rfl) (fun _=>rfl) rfl (aB _) ⟨rfl,(by trivial),⟨rfl,rfl,rfl⟩,⟨rfl,rfl,rfl⟩,⟨rfl,rfl,rfl⟩,trivial⟩ ⟨trivial,rfl,trivial⟩ ?_
  intro k hk
  refine lD (fun hb=> ?_) (fun hb=> ?_)
  ·have hlt:k<l.length:=by simp at hb;omega
   (refine nZ Py [4,5,6] (by kernel_rfl) ?_;conv=>whnf)
   refine ni.mk' k rfl (sD hlt) ?_
   (refine oV (by kernel_rfl) (lH func143 rfl mixed (by kernel_rfl) ?_);(conv=>whnf))
   refine rP (.ep 0 k 0) ?_ rfl ?_ ?_
   rotate_left
   ·trivial
   ·trivial
   refine mG.lS (aj hlt) ?_
   refine lG.mk (lM (by simp only [ln];omega) (by kernel_rfl)) ?_
   refine lU.i64 (by omega) ?_
   refine lX (k+1) [(4, .lab 6)] [] rfl (by show l.length -(k+1)<l.length-k;omega) hlt ⟨⟨rfl,rfl, ?_⟩,(by trivial),⟨rfl,rfl,rfl⟩,⟨rfl,rfl,rfl⟩,⟨rfl,rfl,rfl⟩,trivial⟩ ⟨rfl,rfl,trivial⟩
   rw [aH hlt,aJ]
   exact(wO _ _).symm
  have hke:k=l.length:=by simp at hb;omega
  subst hke
  rw [bn]
  conv=>whnf
  have hml:(l.map (·.client)).length<=512:=by rw [ah];omega
  refine nI [4] (by kernel_rfl) (mX.up (F7 (l.map (·.client)) hml (qR h.s1)) GS) (by trivial) ?_
  conv=>whnf
  have hx0:(su (l.map (·.client))).length<=8500:=by have:=vN (l.map (·.client)) (qR h.s1) hml;rw [ah]at this;omega
  have hbd:=xw h 0
  refine lG.mk (lM (by simp only [ah];omega) (by kernel_rfl)) ?_
  refine mO Jg 7 [3,46] (fun j:Nat=> [(3, .own 6),(46,iv j)]) (fun j=> [(6, .rows 5 1 ((pfN (Gu l 0++su (l.map (·.client))) (ints (l.map (·.seq))) (ints (l.map (·.kind))) (ints (l.map (·.time))) j).map oh)),(3, .var 160 ((nN.getD 0 []).map FV.up)),(1, .rows 160 2 nN),(0, .rows 95 10 (l.map uX))]) (fun j=>j<=3) (fun j=>3-j) [(6, .lab 5)] [] 0 (by kernel_rfl) (fun _=>rfl) rfl (aB _) ⟨⟨rfl,rfl,aJ.symm⟩,(by trivial),⟨rfl,rfl,rfl⟩,⟨rfl,rfl,rfl⟩,trivial⟩ ⟨rfl,rfl,trivial⟩ ?_
  have hy1:=nM (l.map (·.seq)) (by rw [ah];omega)
  have hy2:=nM (l.map (·.kind)) (by rw [ah];omega)
  intro j hj
  have hcj:j=0∨j=1∨j=2∨j=3:=by omega
  rcases hcj with rfl|rfl|rfl|rfl
  ·refine ni.mk' 0 rfl (by decide) ?_
   refine mG.at rfl ?_
   refine mO BQ 8 [10,52] (fun k:Nat=> [(10, .own 7),(52,iv k)]) (fun k=> [(7, .rows 3 1 (((l.take k).map (·.seq)).map xG)),(6, .rows 5 1 ((Gu l 0++su (l.map (·.client))).map oh)),(3, .var 160 ((nN.getD 0 []).map FV.up)),(1, .rows 160 2 nN),(0, .rows 95 10 (l.map uX))]) (fun k=>k<=l.length) (fun k=>l.length-k) [(7, .nil)] [] 0 (by kernel_rfl) (fun _=>rfl) rfl (aB _) ⟨rfl,⟨rfl,rfl,rfl⟩,(by trivial),⟨rfl,rfl,rfl⟩,⟨rfl,rfl,rfl⟩,trivial⟩ ⟨trivial,rfl,trivial⟩ ?_
   intro k hk
   refine lD (fun hb=> ?_) (fun hb=> ?_)
   ·have hlt:k<l.length:=by simp at hb;omega
    refine ni.mk' k rfl (sD hlt) ?_
    (refine oV (by kernel_rfl) (lH func144 rfl mixed (by kernel_rfl) ?_);(conv=>whnf))
    refine rP (.ep 0 k 1) ?_ rfl ?_ ?_
    rotate_left
    ·exact⟨⟨rfl,rfl,rfl⟩,⟨rfl,rfl,rfl⟩,(by trivial),⟨rfl,rfl,rfl⟩,⟨rfl,rfl,rfl⟩,trivial⟩
    ·trivial
    refine mG.lS (aj hlt) ?_
    refine lG.mk (lM (by simp only [ln];omega) (by kernel_rfl)) ?_
    refine lU.i64 (by omega) ?_
    refine lX (k+1) [(7, .lab 9)] [] rfl (by show l.length -(k+1)<l.length-k;omega) hlt ⟨⟨rfl,rfl, ?_⟩,⟨rfl,rfl,rfl⟩,(by trivial),⟨rfl,rfl,rfl⟩,⟨rfl,rfl,rfl⟩,trivial⟩ ⟨rfl,rfl,trivial⟩
    rw [aH hlt,aJ,aJ]
    rfl
   have hke:k=l.length:=by simp at hb;omega
   subst hke
   rw [bn]
   conv=>whnf
   have hml:(l.map (·.seq)).length<=512:=by rw [ah];omega
   refine nI [7] (by kernel_rfl) (mX.up (uY (l.map (·.seq)) (all_map fun e he=>(h.ok e he).seq) hml) GS) (by trivial) ?_
   conv=>whnf
   have hx:=nM (l.map (·.seq)) hml
   refine lG.mk (lM (by simp only [ln];omega) (by kernel_rfl)) ?_
   refine lU.i64 (by decide) ?_
   exact lX (0+1) [(6, .lab 8)] [] rfl (by decide) (by decide) ⟨⟨rfl,rfl,aJ.symm⟩,(by trivial),⟨rfl,rfl,rfl⟩,⟨rfl,rfl,rfl⟩,trivial⟩ ⟨rfl,rfl,trivial⟩
  ·refine ni.mk' 1 rfl (by decide) ?_
   refine mG.at rfl ?_
   refine mO BQ 8 [10,52] (fun k:Nat=> [(10, .own 7),(52,iv k)]) (fun k=> [(7, .rows 3 1 (((l.take k).map (·.kind)).map xG)),(6, .rows 5 1 ((Gu l 0++su (l.map (·.client))++ints (l.map (·.seq))).map oh)),(3, .var 160 ((nN.getD 0 []).map FV.up)),(1, .rows 160 2 nN),(0, .rows 95 10 (l.map uX))]) (fun k=>k<=l.length) (fun k=>l.length-k) [(7, .nil)] [] 0 (by kernel_rfl) (fun _=>rfl) rfl (aB _) ⟨rfl,⟨rfl,rfl,rfl⟩,(by trivial),⟨rfl,rfl,rfl⟩,⟨rfl,rfl,rfl⟩,trivial⟩ ⟨trivial,rfl,trivial⟩ ?_
   intro k hk
   refine lD (fun hb=> ?_) (fun hb=> ?_)
   ·have hlt:k<l.length:=by simp at hb;omega
    refine ni.mk' k rfl (sD hlt) ?_
    (refine oV (by kernel_rfl) (lH func145 rfl mixed (by kernel_rfl) ?_);(conv=>whnf))
    refine rP (.ep 0 k 2) ?_ rfl ?_ ?_
    rotate_left
    ·exact⟨⟨rfl,rfl,rfl⟩,⟨rfl,rfl,rfl⟩,(by trivial),⟨rfl,rfl,rfl⟩,⟨rfl,rfl,rfl⟩,trivial⟩
    ·trivial
    refine mG.lS (aj hlt) ?_
    refine lG.mk (lM (by simp only [ln];omega) (by kernel_rfl)) ?_
    refine lU.i64 (by omega) ?_
    refine lX (k+1) [(7, .lab 9)] [] rfl (by show l.length -(k+1)<l.length-k;omega) hlt ⟨⟨rfl,rfl, ?_⟩,⟨rfl,rfl,rfl⟩,(by trivial),⟨rfl,rfl,rfl⟩,⟨rfl,rfl,rfl⟩,trivial⟩ ⟨rfl,rfl,trivial⟩
    rw [aH hlt,aJ,aJ]
    rfl
   have hke:k=l.length:=by simp at hb;omega
   subst hke
   rw [bn]
   conv=>whnf
   have hml:(l.map (·.kind)).length<=512:=by rw [ah];omega
   refine nI [7] (by kernel_rfl) (mX.up (uY (l.map (·.kind)) (all_map fun e he=>(h.ok e he).kind) hml) GS) (by trivial) ?_
   conv=>whnf
   have hx:=nM (l.map (·.kind)) hml
   refine lG.mk (lM (by simp only [ln];omega) (by kernel_rfl)) ?_
   refine lU.i64 (by decide) ?_
   exact lX (1+1) [(6, .lab 8)] [] rfl (by decide) (by decide) ⟨⟨rfl,rfl,aJ.symm⟩,(by trivial),⟨rfl,rfl,rfl⟩,⟨rfl,rfl,rfl⟩,trivial⟩ ⟨rfl,rfl,trivial⟩
  ·refine ni.mk' 2 rfl (by decide) ?_
   refine mG.at rfl ?_
   refine mO BQ 8 [10,52] (fun k:Nat=> [(10, .own 7),(52,iv k)]) (fun k=> [(7, .rows 3 1 (((l.take k).map (·.time)).map xG)),(6, .rows 5 1 ((Gu l 0++su (l.map (·.client))++ints (l.map (·.seq))++ints (l.map (·.kind))).map oh)),(3, .var 160 ((nN.getD 0 []).map FV.up)),(1, .rows 160 2 nN),(0, .rows 95 10 (l.map uX))]) (fun k=>k<=l.length) (fun k=>l.length-k) [(7, .nil)] [] 0 (by kernel_rfl) (fun _=>rfl) rfl (aB _) ⟨rfl,⟨rfl,rfl,rfl⟩,(by trivial),⟨rfl,rfl,rfl⟩,⟨rfl,rfl,rfl⟩,trivial⟩ ⟨trivial,rfl,trivial⟩ ?_
   intro k hk
   refine lD (fun hb=> ?_) (fun hb=> ?_)
   ·have hlt:k<l.length:=by simp at hb;omega
    refine ni.mk' k rfl (sD hlt) ?_
    (refine oV (by kernel_rfl) (lH func146 rfl mixed (by kernel_rfl) ?_);(conv=>whnf))
    refine rP (.ep 0 k 3) ?_ rfl ?_ ?_
    rotate_left
    ·exact⟨⟨rfl,rfl,rfl⟩,⟨rfl,rfl,rfl⟩,(by trivial),⟨rfl,rfl,rfl⟩,⟨rfl,rfl,rfl⟩,trivial⟩
    ·trivial
    refine mG.lS (aj hlt) ?_
    refine lG.mk (lM (by simp only [ln];omega) (by kernel_rfl)) ?_
    refine lU.i64 (by omega) ?_
    refine lX (k+1) [(7, .lab 9)] [] rfl (by show l.length -(k+1)<l.length-k;omega) hlt ⟨⟨rfl,rfl, ?_⟩,⟨rfl,rfl,rfl⟩,(by trivial),⟨rfl,rfl,rfl⟩,⟨rfl,rfl,rfl⟩,trivial⟩ ⟨rfl,rfl,trivial⟩
    rw [aH hlt,aJ,aJ]
    rfl
   have hke:k=l.length:=by simp at hb;omega
   subst hke
   rw [bn]
   conv=>whnf
   have hml:(l.map (·.time)).length<=512:=by rw [ah];omega
   refine nI [7] (by kernel_rfl) (mX.up (uY (l.map (·.time)) (all_map fun e he=>(h.ok e he).time) hml) GS) (by trivial) ?_
   conv=>whnf
   have hx:=nM (l.map (·.time)) hml
   refine lG.mk (lM (by simp only [ln];omega) (by kernel_rfl)) ?_
   refine lU.i64 (by decide) ?_
   exact lX (2+1) [(6, .lab 8)] [] rfl (by decide) (by decide) ⟨⟨rfl,rfl,aJ.symm⟩,(by trivial),⟨rfl,rfl,rfl⟩,⟨rfl,rfl,rfl⟩,trivial⟩ ⟨rfl,rfl,trivial⟩
  ·refine lU.i64 (by decide) ?_
   exact lX 1 [(2, .lab 6)] [] rfl (by decide) (by decide) ⟨⟨rfl,rfl,rfl⟩,⟨rfl,rfl,rfl⟩,⟨rfl,rfl,rfl⟩,trivial⟩ ⟨rfl,rfl,trivial⟩
 ·refine ni.mk' 1 rfl (by decide) ?_
  refine mG.at rfl ?_
  refine mO Jf 5 [6,24] (fun k:Nat=> [(6, .own 4),(24,iv k)]) (fun k=> [(4, .rows 9 1 (((l.take k).map (·.id)).map JF)),(3, .var 160 ((nN.getD 1 []).map FV.up)),(2, .rows 5 1 ((Gu l 1).map oh)),(1, .rows 160 2 nN),(0, .rows 95 10 (l.map uX))]) (fun k=>k<=l.length) (fun k=>l.length-k) [(4, .nil)] [] 0 (by kernel_rfl) (fun _=>rfl) rfl (aB _) ⟨rfl,(by trivial),⟨rfl,rfl,rfl⟩,⟨rfl,rfl,rfl⟩,⟨rfl,rfl,rfl⟩,trivial⟩ ⟨trivial,rfl,trivial⟩ ?_
  intro k hk
  refine lD (fun hb=> ?_) (fun hb=> ?_)
  ·have hlt:k<l.length:=by simp at hb;omega
   (refine nZ Py [4,5,6] (by kernel_rfl) ?_;conv=>whnf)
   refine ni.mk' k rfl (sD hlt) ?_
   (refine oV (by kernel_rfl) (lH func147 rfl mixed (by kernel_rfl) ?_);(conv=>whnf))
   refine rP (.ep 0 k 4) ?_ rfl ?_ ?_
   rotate_left
   ·trivial
   ·trivial
   refine mG.lS (aj hlt) ?_
   refine lG.mk (lM (by simp only [ln];omega) (by kernel_rfl)) ?_
   refine lU.i64 (by omega) ?_
   refine lX (k+1) [(4, .lab 6)] [] rfl (by show l.length -(k+1)<l.length-k;omega) hlt ⟨⟨rfl,rfl, ?_⟩,(by trivial),⟨rfl,rfl,rfl⟩,⟨rfl,rfl,rfl⟩,⟨rfl,rfl,rfl⟩,trivial⟩ ⟨rfl,rfl,trivial⟩
   rw [aH hlt,aJ]
   exact(wO _ _).symm
  have hke:k=l.length:=by simp at hb;omega
  subst hke
  rw [bn]
  conv=>whnf
  have hml:(l.map (·.id)).length<=512:=by rw [ah];omega
  refine nI [4] (by kernel_rfl) (mX.up (F7 (l.map (·.id)) hml (qR h.s2)) GS) (by trivial) ?_
  conv=>whnf
  have hx1:(su (l.map (·.id))).length<=8500:=by have:=vN (l.map (·.id)) (qR h.s2) hml;rw [ah]at this;omega
  have hbd:=xw h 1
  refine lG.mk (lM (by simp only [ah];omega) (by kernel_rfl)) ?_
  refine mO Jg 6 [3,46] (fun j:Nat=> [(3, .own 5),(46,iv 0)]) (fun j=> [(5, .rows 5 1 ((Gu l 1++su (l.map (·.id))).map oh)),(1, .rows 160 2 nN),(0, .rows 95 10 (l.map uX))]) (fun j=>j=0) (fun j=>j) [] [] 0 (by kernel_rfl) (fun _=>rfl) rfl rfl ⟨⟨rfl,rfl,aJ.symm⟩,⟨rfl,rfl,rfl⟩,⟨rfl,rfl,rfl⟩,trivial⟩ ⟨⟨rfl,rfl⟩,rfl,trivial⟩ ?_
  intro j hj
  refine lU.i64 (by decide) ?_
  exact lX (1+1) [(2, .lab 5)] [] rfl (by decide) (by decide) ⟨⟨rfl,rfl,rfl⟩,⟨rfl,rfl,rfl⟩,⟨rfl,rfl,rfl⟩,trivial⟩ ⟨rfl,rfl,trivial⟩
 ·refine ni.mk' 2 rfl (by decide) ?_
  refine mG.at rfl ?_
  refine mO Jf 5 [6,24] (fun k:Nat=> [(6, .own 4),(24,iv k)]) (fun k=> [(4, .rows 9 1 (((l.take k).map (·.name)).map JF)),(3, .var 160 ((nN.getD 2 []).map FV.up)),(2, .rows 5 1 ((Gu l 2).map oh)),(1, .rows 160 2 nN),(0, .rows 95 10 (l.map uX))]) (fun k=>k<=l.length) (fun k=>l.length-k) [(4, .nil)] [] 0 (by kernel_rfl) (fun _=>rfl) rfl (aB _) ⟨rfl,(by trivial),⟨rfl,rfl,rfl⟩,⟨rfl,rfl,rfl⟩,⟨rfl,rfl,rfl⟩,trivial⟩ ⟨trivial,rfl,trivial⟩ ?_
  intro k hk
  refine lD (fun hb=> ?_) (fun hb=> ?_)
  ·have hlt:k<l.length:=by simp at hb;omega
   (refine nZ Py [4,5,6] (by kernel_rfl) ?_;conv=>whnf)
   refine ni.mk' k rfl (sD hlt) ?_
   (refine oV (by kernel_rfl) (lH func148 rfl mixed (by kernel_rfl) ?_);(conv=>whnf))
   refine rP (.ep 0 k 5) ?_ rfl ?_ ?_
   rotate_left
   ·trivial
   ·trivial
   refine mG.lS (aj hlt) ?_
   refine lG.mk (lM (by simp only [ln];omega) (by kernel_rfl)) ?_
   refine lU.i64 (by omega) ?_
   refine lX (k+1) [(4, .lab 6)] [] rfl (by show l.length -(k+1)<l.length-k;omega) hlt ⟨⟨rfl,rfl, ?_⟩,(by trivial),⟨rfl,rfl,rfl⟩,⟨rfl,rfl,rfl⟩,⟨rfl,rfl,rfl⟩,trivial⟩ ⟨rfl,rfl,trivial⟩
   rw [aH hlt,aJ]
   exact(wO _ _).symm
  have hke:k=l.length:=by simp at hb;omega
  subst hke
  rw [bn]
  conv=>whnf
  have hml:(l.map (·.name)).length<=512:=by rw [ah];omega
  refine nI [4] (by kernel_rfl) (mX.up (F7 (l.map (·.name)) hml (qR h.s3)) GS) (by trivial) ?_
  conv=>whnf
  have hx2:(su (l.map (·.name))).length<=8500:=by have:=vN (l.map (·.name)) (qR h.s3) hml;rw [ah]at this;omega
  have hbd:=xw h 2
  refine lG.mk (lM (by simp only [ah];omega) (by kernel_rfl)) ?_
  refine mO Jg 6 [3,46] (fun j:Nat=> [(3, .own 5),(46,iv 0)]) (fun j=> [(5, .rows 5 1 ((Gu l 2++su (l.map (·.name))).map oh)),(1, .rows 160 2 nN),(0, .rows 95 10 (l.map uX))]) (fun j=>j=0) (fun j=>j) [] [] 0 (by kernel_rfl) (fun _=>rfl) rfl rfl ⟨⟨rfl,rfl,aJ.symm⟩,⟨rfl,rfl,rfl⟩,⟨rfl,rfl,rfl⟩,trivial⟩ ⟨⟨rfl,rfl⟩,rfl,trivial⟩ ?_
  intro j hj
  refine lU.i64 (by decide) ?_
  exact lX (2+1) [(2, .lab 5)] [] rfl (by decide) (by decide) ⟨⟨rfl,rfl,rfl⟩,⟨rfl,rfl,rfl⟩,⟨rfl,rfl,rfl⟩,trivial⟩ ⟨rfl,rfl,trivial⟩
 ·refine ni.mk' 3 rfl (by decide) ?_
  refine mG.at rfl ?_
  refine mO Jf 5 [6,24] (fun k:Nat=> [(6, .own 4),(24,iv k)]) (fun k=> [(4, .rows 9 1 (((l.take k).map (·.other)).map JF)),(3, .var 160 ((nN.getD 3 []).map FV.up)),(2, .rows 5 1 ((Gu l 3).map oh)),(1, .rows 160 2 nN),(0, .rows 95 10 (l.map uX))]) (fun k=>k<=l.length) (fun k=>l.length-k) [(4, .nil)] [] 0 (by kernel_rfl) (fun _=>rfl) rfl (aB _) ⟨rfl,(by trivial),⟨rfl,rfl,rfl⟩,⟨rfl,rfl,rfl⟩,⟨rfl,rfl,rfl⟩,trivial⟩ ⟨trivial,rfl,trivial⟩ ?_
  intro k hk
  refine lD (fun hb=> ?_) (fun hb=> ?_)
  ·have hlt:k<l.length:=by simp at hb;omega
   (refine nZ Py [4,5,6] (by kernel_rfl) ?_;conv=>whnf)
   refine ni.mk' k rfl (sD hlt) ?_
   (refine oV (by kernel_rfl) (lH func149 rfl mixed (by kernel_rfl) ?_);(conv=>whnf))
   refine rP (.ep 0 k 6) ?_ rfl ?_ ?_
   rotate_left
   ·trivial
   ·trivial
   refine mG.lS (aj hlt) ?_
   refine lG.mk (lM (by simp only [ln];omega) (by kernel_rfl)) ?_
   refine lU.i64 (by omega) ?_
   refine lX (k+1) [(4, .lab 6)] [] rfl (by show l.length -(k+1)<l.length-k;omega) hlt ⟨⟨rfl,rfl, ?_⟩,(by trivial),⟨rfl,rfl,rfl⟩,⟨rfl,rfl,rfl⟩,⟨rfl,rfl,rfl⟩,trivial⟩ ⟨rfl,rfl,trivial⟩
   rw [aH hlt,aJ]
   exact(wO _ _).symm
  have hke:k=l.length:=by simp at hb;omega
  subst hke
  rw [bn]
  conv=>whnf
  have hml:(l.map (·.other)).length<=512:=by rw [ah];omega
  refine nI [4] (by kernel_rfl) (mX.up (F7 (l.map (·.other)) hml (qR h.s4)) GS) (by trivial) ?_
  conv=>whnf
  have hx3:(su (l.map (·.other))).length<=8500:=by have:=vN (l.map (·.other)) (qR h.s4) hml;rw [ah]at this;omega
  have hbd:=xw h 3
  refine lG.mk (lM (by simp only [ah];omega) (by kernel_rfl)) ?_
  refine mO Jg 7 [3,46] (fun j:Nat=> [(3, .own 6),(46,iv j)]) (fun j=> [(6, .rows 5 1 ((pfN (Gu l 3++su (l.map (·.other))) (ints (l.map (·.ver))) (ints (l.map (·.arm))) (ints (l.map (·.val))) j).map oh)),(3, .var 160 ((nN.getD 3 []).map FV.up)),(1, .rows 160 2 nN),(0, .rows 95 10 (l.map uX))]) (fun j=>j<=3) (fun j=>3-j) [(6, .lab 5)] [] 0 (by kernel_rfl) (fun _=>rfl) rfl (aB _) ⟨⟨rfl,rfl,aJ.symm⟩,(by trivial),⟨rfl,rfl,rfl⟩,⟨rfl,rfl,rfl⟩,trivial⟩ ⟨rfl,rfl,trivial⟩ ?_
  have hy1:=nM (l.map (·.ver)) (by rw [ah];omega)
  have hy2:=nM (l.map (·.arm)) (by rw [ah];omega)
  intro j hj
  have hcj:j=0∨j=1∨j=2∨j=3:=by omega
  rcases hcj with rfl|rfl|rfl|rfl
  ·refine ni.mk' 0 rfl (by decide) ?_
   refine mG.at rfl ?_
   refine mO BQ 8 [10,52] (fun k:Nat=> [(10, .own 7),(52,iv k)]) (fun k=> [(7, .rows 3 1 (((l.take k).map (·.ver)).map xG)),(6, .rows 5 1 ((Gu l 3++su (l.map (·.other))).map oh)),(3, .var 160 ((nN.getD 3 []).map FV.up)),(1, .rows 160 2 nN),(0, .rows 95 10 (l.map uX))]) (fun k=>k<=l.length) (fun k=>l.length-k) [(7, .nil)] [] 0 (by kernel_rfl) (fun _=>rfl) rfl (aB _) ⟨rfl,⟨rfl,rfl,rfl⟩,(by trivial),⟨rfl,rfl,rfl⟩,⟨rfl,rfl,rfl⟩,trivial⟩ ⟨trivial,rfl,trivial⟩ ?_
   intro k hk
   refine lD (fun hb=> ?_) (fun hb=> ?_)
   ·have hlt:k<l.length:=by simp at hb;omega
    refine ni.mk' k rfl (sD hlt) ?_
    (refine oV (by kernel_rfl) (lH func150 rfl mixed (by kernel_rfl) ?_);(conv=>whnf))
    refine rP (.ep 0 k 7) ?_ rfl ?_ ?_
    rotate_left
    ·exact⟨⟨rfl,rfl,rfl⟩,⟨rfl,rfl,rfl⟩,(by trivial),⟨rfl,rfl,rfl⟩,⟨rfl,rfl,rfl⟩,trivial⟩
    ·trivial
    refine mG.lS (aj hlt) ?_
    refine lG.mk (lM (by simp only [ln];omega) (by kernel_rfl)) ?_
    refine lU.i64 (by omega) ?_
    refine lX (k+1) [(7, .lab 9)] [] rfl (by show l.length -(k+1)<l.length-k;omega) hlt ⟨⟨rfl,rfl, ?_⟩,⟨rfl,rfl,rfl⟩,(by trivial),⟨rfl,rfl,rfl⟩,⟨rfl,rfl,rfl⟩,trivial⟩ ⟨rfl,rfl,trivial⟩
    rw [aH hlt,aJ,aJ]
    rfl
   have hke:k=l.length:=by simp at hb;omega
   subst hke
   rw [bn]
   conv=>whnf
   have hml:(l.map (·.ver)).length<=512:=by rw [ah];omega
   refine nI [7] (by kernel_rfl) (mX.up (uY (l.map (·.ver)) (all_map fun e he=>(h.ok e he).ver) hml) GS) (by trivial) ?_
   conv=>whnf
   have hx:=nM (l.map (·.ver)) hml
   refine lG.mk (lM (by simp only [ln];omega) (by kernel_rfl)) ?_
   refine lU.i64 (by decide) ?_
   exact lX (0+1) [(6, .lab 8)] [] rfl (by decide) (by decide) ⟨⟨rfl,rfl,aJ.symm⟩,(by trivial),⟨rfl,rfl,rfl⟩,⟨rfl,rfl,rfl⟩,trivial⟩ ⟨rfl,rfl,trivial⟩
  ·refine ni.mk' 1 rfl (by decide) ?_
   refine mG.at rfl ?_
   refine mO BQ 8 [10,52] (fun k:Nat=> [(10, .own 7),(52,iv k)]) (fun k=> [(7, .rows 3 1 (((l.take k).map (·.arm)).map xG)),(6, .rows 5 1 ((Gu l 3++su (l.map (·.other))++ints (l.map (·.ver))).map oh)),(3, .var 160 ((nN.getD 3 []).map FV.up)),(1, .rows 160 2 nN),(0, .rows 95 10 (l.map uX))]) (fun k=>k<=l.length) (fun k=>l.length-k) [(7, .nil)] [] 0 (by kernel_rfl) (fun _=>rfl) rfl (aB _) ⟨rfl,⟨rfl,rfl,rfl⟩,(by trivial),⟨rfl,rfl,rfl⟩,⟨rfl,rfl,rfl⟩,trivial⟩ ⟨trivial,rfl,trivial⟩ ?_
   intro k hk
   refine lD (fun hb=> ?_) (fun hb=> ?_)
   ·have hlt:k<l.length:=by simp at hb;omega
    refine ni.mk' k rfl (sD hlt) ?_
    (refine oV (by kernel_rfl) (lH func151 rfl mixed (by kernel_rfl) ?_);(conv=>whnf))
    refine rP (.ep 0 k 8) ?_ rfl ?_ ?_
    rotate_left
    ·exact⟨⟨rfl,rfl,rfl⟩,⟨rfl,rfl,rfl⟩,(by trivial),⟨rfl,rfl,rfl⟩,⟨rfl,rfl,rfl⟩,trivial⟩
    ·trivial
    refine mG.lS (aj hlt) ?_
    refine lG.mk (lM (by simp only [ln];omega) (by kernel_rfl)) ?_
    refine lU.i64 (by omega) ?_
    refine lX (k+1) [(7, .lab 9)] [] rfl (by show l.length -(k+1)<l.length-k;omega) hlt ⟨⟨rfl,rfl, ?_⟩,⟨rfl,rfl,rfl⟩,(by trivial),⟨rfl,rfl,rfl⟩,⟨rfl,rfl,rfl⟩,trivial⟩ ⟨rfl,rfl,trivial⟩
    rw [aH hlt,aJ,aJ]
    rfl
   have hke:k=l.length:=by simp at hb;omega
   subst hke
   rw [bn]
   conv=>whnf
   have hml:(l.map (·.arm)).length<=512:=by rw [ah];omega
   refine nI [7] (by kernel_rfl) (mX.up (uY (l.map (·.arm)) (all_map fun e he=>(h.ok e he).arm) hml) GS) (by trivial) ?_
   conv=>whnf
   have hx:=nM (l.map (·.arm)) hml
   refine lG.mk (lM (by simp only [ln];omega) (by kernel_rfl)) ?_
   refine lU.i64 (by decide) ?_
   exact lX (1+1) [(6, .lab 8)] [] rfl (by decide) (by decide) ⟨⟨rfl,rfl,aJ.symm⟩,(by trivial),⟨rfl,rfl,rfl⟩,⟨rfl,rfl,rfl⟩,trivial⟩ ⟨rfl,rfl,trivial⟩
  ·refine ni.mk' 2 rfl (by decide) ?_
   refine mG.at rfl ?_
   refine mO BQ 8 [10,52] (fun k:Nat=> [(10, .own 7),(52,iv k)]) (fun k=> [(7, .rows 3 1 (((l.take k).map (·.val)).map xG)),(6, .rows 5 1 ((Gu l 3++su (l.map (·.other))++ints (l.map (·.ver))++ints (l.map (·.arm))).map oh)),(3, .var 160 ((nN.getD 3 []).map FV.up)),(1, .rows 160 2 nN),(0, .rows 95 10 (l.map uX))]) (fun k=>k<=l.length) (fun k=>l.length-k) [(7, .nil)] [] 0 (by kernel_rfl) (fun _=>rfl) rfl (aB _) ⟨rfl,⟨rfl,rfl,rfl⟩,(by trivial),⟨rfl,rfl,rfl⟩,⟨rfl,rfl,rfl⟩,trivial⟩ ⟨trivial,rfl,trivial⟩ ?_
   intro k hk
   refine lD (fun hb=> ?_) (fun hb=> ?_)
   ·have hlt:k<l.length:=by simp at hb;omega
    refine ni.mk' k rfl (sD hlt) ?_
    (refine oV (by kernel_rfl) (lH func152 rfl mixed (by kernel_rfl) ?_);(conv=>whnf))
    refine rP (.ep 0 k 9) ?_ rfl ?_ ?_
    rotate_left
    ·exact⟨⟨rfl,rfl,rfl⟩,⟨rfl,rfl,rfl⟩,(by trivial),⟨rfl,rfl,rfl⟩,⟨rfl,rfl,rfl⟩,trivial⟩
    ·trivial
    refine mG.lS (aj hlt) ?_
    refine lG.mk (lM (by simp only [ln];omega) (by kernel_rfl)) ?_
    refine lU.i64 (by omega) ?_
    refine lX (k+1) [(7, .lab 9)] [] rfl (by show l.length -(k+1)<l.length-k;omega) hlt ⟨⟨rfl,rfl, ?_⟩,⟨rfl,rfl,rfl⟩,(by trivial),⟨rfl,rfl,rfl⟩,⟨rfl,rfl,rfl⟩,trivial⟩ ⟨rfl,rfl,trivial⟩
    rw [aH hlt,aJ,aJ]
    rfl
   have hke:k=l.length:=by simp at hb;omega
   subst hke
   rw [bn]
   conv=>whnf
   have hml:(l.map (·.val)).length<=512:=by rw [ah];omega
   refine nI [7] (by kernel_rfl) (mX.up (uY (l.map (·.val)) (all_map fun e he=>(h.ok e he).val) hml) GS) (by trivial) ?_
   conv=>whnf
   have hx:=nM (l.map (·.val)) hml
   refine lG.mk (lM (by simp only [ln];omega) (by kernel_rfl)) ?_
   refine lU.i64 (by decide) ?_
   exact lX (2+1) [(6, .lab 8)] [] rfl (by decide) (by decide) ⟨⟨rfl,rfl,aJ.symm⟩,(by trivial),⟨rfl,rfl,rfl⟩,⟨rfl,rfl,rfl⟩,trivial⟩ ⟨rfl,rfl,trivial⟩
  ·refine lU.i64 (by decide) ?_
   exact lX 4 [(2, .lab 6)] [] rfl (by decide) (by decide) ⟨⟨rfl,rfl,rfl⟩,⟨rfl,rfl,rfl⟩,⟨rfl,rfl,rfl⟩,trivial⟩ ⟨rfl,rfl,trivial⟩
 ·conv=>whnf
  have hr:=MP h
  have hbl:=xw h 4
  have n1:=mP (vg l).1
  have n2:=mP (vg l).2
  have n3:=mP ((Dw l).length:Int)
  change (Dw l).length<=70000 at hbl
  refine nI [0] (by kernel_rfl) (SA l h) (by trivial) ?_
  refine nI [] (by kernel_rfl) (mX.up (qx [] (vg l).1 hr.1 (by simp)) GS) (by trivial) ?_
  refine nI [3] (by kernel_rfl) (mX.up (qx (num (vg l).1) (vg l).2 hr.2 (by omega)) GS) (by trivial) ?_
  conv=>whnf
  have e4:((Gu l 4).map oh).length=(Dw l).length:=ah _
  rw [e4]
  refine nI [4] (by kernel_rfl) (mX.up (qx (num (vg l).1++num (vg l).2) ((Dw l).length:Int) (nD (by omega)) (by rw [ak];omega)) GS) (by trivial) ?_
  refine lG.mk (lM (by rw [e4];simp only [ln];omega) (by kernel_rfl)) ?_
  refine lW (bs (JJ l)) 0 [] [] [6] ⟨rfl,rfl,rfl⟩ rfl trivial ⟨rfl,rfl, ?_⟩
  show (num (vg l).1++num (vg l).2++num ((Dw l).length:Int)).map oh++(Dw l).map oh=(JJ l).map oh
  rw [<-aJ]
  rfl
end
end Go.Proofs.YtocckceefcmeaaaGreatDoor.Cl
namespace Go.Proofs.YtocckceefcmeaaaGreatDoor.Ax
open RowKit Vc Go.Proofs.Tryz
attribute [local irreducible] loadVar storeVar Instr.indexAt Instr.index Instr.sliceAt Instr.makeSlice Instr.lookup Instr.mapUpdate Instr.range Instr.next Instr.entry Instr.makeMap Builtin.append_ Builtin.copy_ Builtin.len_ Builtin.min_ Builtin.max_ Builtin.cap_ Builtin.delete_ Builtin.clear_ convert binOp eqGuard Op.unary Calls
def chN (l:List (List FV))(i:Nat):List (List FV):=(l.drop (16*i)).take 16
def SK (l:List (List FV)):Nat:=(l.length+15)/16
def OQ (l:List (List FV)):List (List AV):=(List.range (SK l)).map fun i=> [.lst 10 (chN l i)]
theorem ac8 (G:Glob)(l:List (List FV))(hl:l.length<=1000000):AIt Tryz.prog G 119 [.fp [.lst 10 l] 0, .fp [.v (.int .i64 16)] 0] (OQ l):=by
 intro n σ F vs W lp J hG hF hr hst hkp hy h0
 match vs,hr with
 | [v1,v2],⟨r1,r2,_⟩=>
 cases r1 with
 | fp f1=>
 cases r2 with
 | fp f2=>
 cases f1 with
 | fp _ _ b1 o1 hb1 agm ae1=>
 cases f2 with
 | fp _ _ b2 o2 hb2 agn ae2=>
 obtain⟨x1,hc1,_⟩:=agm 0 Nat.zero_lt_one
 obtain⟨x2,hc2,_⟩:=agn 0 Nat.zero_lt_one
 have hx1:=ae1 0 _ x1 rfl hc1
 have hx2:=ae2 0 _ x2 rfl hc2
 cases hx2
 obtain⟨oa,m,c,rfl⟩ : ∃oa m c,x1 = .slice oa m c:=by cases hx1;exact⟨_,_,_,rfl⟩
 have hm:m=l.length:=by cases hx1;assumption
 subst hm
 refine LU func119 rfl (by kernel_rfl) (aN rfl) rfl (by kernel_rfl) ?_
 refine qZ (X:=Nat) X5 (fun i=> [(4, .int .i64 (16*i:Nat))]) (fun i w'=>i<=SK l∧J i w') (fun i=>SK l-i) 0 (by kernel_rfl) ⟨rfl,trivial⟩ ⟨aB _,h0⟩ ?_
 rintro i w' j ⟨hi,hJ⟩
 obtain⟨k1,k2,k3⟩:=hkp i w' hJ
 have c1:w'.cell? ⟨b1,o1+0,none⟩=some (.slice oa l.length c):=by rw [qO (k3 b1 hb1)];exact hc1
 have c2:w'.cell? ⟨b2,o2+0,none⟩=some (.int .i64 16):=by rw [qO (k3 b2 hb2)];exact hc2
 refine oG rfl c1 ?_
 apply lD<;>intro h
 ·have hlt:16*i<l.length:=by simp at h;omega
  have hin:i<SK l:=by unfold SK;omega
  conv=>whnf
  have c1d:w'.drew.cell? ⟨b1,o1+0,none⟩=some (.slice oa l.length c):=c1
  have c2d:w'.drew.cell? ⟨b2,o2+0,none⟩=some (.int .i64 16):=c2
  have hlc:l.length<=c:=by cases hx1;assumption
  (refine pJ X6 (by kernel_rfl) ?_;conv=>whnf)
  repeat (first
   | (refine oG rfl c1d ?_;conv=>whnf)
   | (refine oG rfl c2d ?_;conv=>whnf)
   | (refine og.mk rfl ?_;conv=>whnf)
   | (refine NK (sz:=10) (lo:=16*i) rfl rfl rfl (jy hlt) ?_;conv=>whnf))
  have we:IntKind.i64.wrap (((16*i:Nat):Int)+min 16 ((l.length-16*i:Nat):Int))=((16*i+min 16 (l.length-16*i):Nat):Int):=by
   have e1:(min 16 ((l.length-16*i:Nat):Int))=((min 16 (l.length-16*i):Nat):Int):=by omega
   rw [e1, <-iH]
   exact IntWalk.i64_in _ (by omega)
  rw [we]
  refine oP (xO (E:=95) (sz:=10) (i:=16*i) (j:=16*i+min 16 (l.length-16*i)) (m:=16*i+min 16 (l.length-16*i)) rfl rfl (.inr ⟨_,rfl⟩) (.inr ⟨_,rfl⟩) (.inr ⟨_,rfl⟩) (by omega) (ay _) (by omega)) ?_
  have hJd:J i w'.drew:=hst i w' _ hJ (G8 (Below.refl _ _))
  have hch:chN l i=(l.take (16*i+min 16 (l.length-16*i))).drop (16*i):=by
   unfold chN
   rw [jw,show 16*i+min 16 (l.length-16*i)-16*i=min 16 (l.length-16*i) by omega]
   rcases Nat.le_total 16 (l.length-16*i)with h|h
   ·rw [dG h]
   ·rw [Nat.min_eq_right h,dZ (by rw [aX];exact h),dZ (by rw [aX];exact ay _)]
  have hfr:oL F w'.drew (.lst 10 (chN l i)) (.slice (wW oa (16*i) 10 (16*i+min 16 (l.length-16*i))) (16*i+min 16 (l.length-16*i)-16*i) (16*i+min 16 (l.length-16*i)-16*i)):=by
   rw [hch]
   exact oL.part (oL.mono (w':=w'.drew) (fun b hb=>⟨hb,k3 b hb⟩) hx1) (by omega) (by omega) (ay _) (by omega)
  obtain⟨fn,tmps,assign,body,hyr,hR⟩:=hy i [.lst 10 (chN l i)] w'.drew [.slice (wW oa (16*i) 10 (16*i+min 16 (l.length-16*i))) (16*i+min 16 (l.length-16*i)-16*i) (16*i+min 16 (l.length-16*i)-16*i)] (by unfold OQ;rw [aP,fP hin];rfl) hJd ⟨.lst hfr,trivial⟩
  refine⟨⟨fn,tmps,assign,body,hyr,RoundIn.mono hR ?_⟩⟩
  rintro e W2 ⟨rfl,hJ2⟩
  refine⟨_,rfl, ?_⟩
  obtain⟨m1,m2,m3⟩:=hkp (i+1) W2 hJ2
  have c3:W2.cell? ⟨b2,o2+0,none⟩=some (.int .i64 16):=by rw [qO (m3 b2 hb2)];exact hc2
  refine oG rfl c3 ?_
  refine qJ.mk ⟨_, ?_,(i+1),rfl,⟨?_,trivial⟩,hin,hJ2⟩
  ·show SK l -(i+1)<SK l-i;omega
  show Value.int .i64 (IntKind.i64.wrap (((16*i:Nat):Int)+16)) = .int .i64 ((16*(i+1):Nat):Int)
  congr 1
  rw [show ((16*i:Nat):Int)+16=((16*(i+1):Nat):Int) by omega]
  exact IntWalk.i64_in _ (by omega)
 ·have hge:l.length<=16*i:=by simp at h;omega
  have hie:i=SK l:=by unfold SK at hi ⊢;omega
  subst hie
  refine⟨?_⟩
  have:(OQ l).length=SK l:=by unfold OQ;simp
  rw [this]
  exact hJ
theorem ac9 (G:Glob)(l:List (List FV)):mX Tryz.prog G 86 [.lst 10 l, .v (.int .i64 16)] 0 [] (Is (.fn (.func 119) [] [.fp [.lst 10 l] 0, .fp [.v (.int .i64 16)] 0])):=by
 refine lH func86 rfl (by kernel_rfl) (by kernel_rfl) ?_
 exact YW [(0,41,[.lst 10 l]),(1,3,[.v (.int .i64 16)])] ⟨rfl,rfl,rfl⟩ (fun p hp=>by
  rcases bF.1 hp with rfl|hp
  ·rfl
  ·rw [bG.1 hp];rfl)
end Go.Proofs.YtocckceefcmeaaaGreatDoor.Ax
namespace Go.Proofs.YtocckceefcmeaaaGreatDoor.Cl
open RowKit Vc Ax Ky Go.Proofs.Tryz
attribute [local irreducible] loadVar storeVar Instr.indexAt Instr.index Instr.sliceAt Instr.makeSlice Instr.lookup Instr.mapUpdate Instr.range Instr.next Instr.entry Instr.makeMap Builtin.append_ Builtin.copy_ Builtin.len_ Builtin.min_ Builtin.max_ Builtin.cap_ Builtin.delete_ Builtin.clear_ convert binOp eqGuard Op.unary Calls
section
attribute [local irreducible] best ints en bd su dsT
structure EvV (e:Ev):Prop where
 s1:e.client.length<=200
 s2:e.id.length<=200
 s3:e.name.length<=200
 s4:e.other.length<=200
 tm : -4611686018427387904<=e.time∧e.time<=4611686018427387904
theorem ae3 {e:Ev}(h:Ig e=0):EvV e:=by
 have key : ∀s:By,Sz s=true->s.length<=200:=fun s hs=>by
  have:(⟨s.toArray⟩:ByteArray).size<=32:=RF hs
  have e:(⟨s.toArray⟩:ByteArray).size=s.length:=rfl
  omega
 unfold Ig at h
 split at h
 ·simp at h
 rename_i h1
 split at h
 ·simp at h
 rename_i h2
 split at h
 ·simp at h
 rename_i h3
 split at h
 ·simp at h
 split at h
 ·simp at h
 split at h
 ·simp at h
 rename_i h4
 have h1:e.kind=1∨e.kind=2∨e.kind=3:=dX h1
 have k1:Sz e.client=true:=by cases hk:Sz e.client<;>simp_all
 have k2:Sz e.id=true:=by cases hk:Sz e.id<;>simp_all
 refine⟨key _ k1,key _ k2, ?_, ?_,by omega⟩
 ·rcases h1 with c|c|c
  ·exact key _ (by cases hk:Sz e.name<;>simp_all)
  ·exact key _ (by cases hk:Sz e.name<;>simp_all)
  ·have:e.name = []:=dX fun hn=>h4 (.inr (.inr ⟨c, .inl hn⟩))
   rw [this];simp
 ·rcases h1 with c|c|c
  ·have:e.other = []:=dX fun hn=>h4 (.inl ⟨c, .inl hn⟩)
   rw [this];simp
  ·have:e.other = []:=dX fun hn=>h4 (.inr (.inl ⟨c, .inl hn⟩))
   rw [this];simp
  ·exact key _ (by cases hk:Sz e.other<;>simp_all)
def ch (l:List Ev)(i:Nat):List Ev:=(l.drop (16*i)).take 16
def nC (l:List Ev):Nat:=(l.length+15)/16
def Gf (l:List Ev)(i:Nat):By:=num (l.length:Int)++(List.range i).flatMap fun j=>JJ (ch l j)
def tab (l:List Ev):By:=Gf l (nC l)
def xI (l:List Ev):Int:=match l with | []=>0|e::r=>if Ig e≠0 then Ig e else xI r
def zJ (l:List Ev):Int:=if 512<l.length then 5 else xI l
def SL (l:List Ev):By:=if zJ l=0 then tab l else []
theorem SB {l:List Ev}{i:Nat}(hi:i<l.length)(h:xI (l.take i)=0):xI (l.take (i+1))=Ig l[i]∧(Ig l[i]≠0->xI l=Ig l[i]):=by
 induction l generalizing i with
 | nil=>simp at hi
 | cons e r ih=>
  cases i with
  | zero=>
   simp only [iy,iO,xI,kL]
   by_cases hc:Ig e=0
   ·simp [hc]
   ·simp [hc]
  | succ i=>
   simp only [iy,xI,kM]at h ⊢
   by_cases hc:Ig e=0
   ·simp only [hc,ne_eq,not_true,if_false]at h ⊢
    exact ih (by simpa using hi) h
   ·simp only [hc,ne_eq,not_false_eq_true,if_true]at h
theorem Gg {l:List Ev}(h:xI l=0) : ∀e∈l,Ig e=0:=by
 induction l with
 | nil=>intro e he;cases he
 | cons x r ih=>
  unfold xI at h
  by_cases hc:Ig x=0
  ·rw [if_neg (by simp [hc])]at h
   intro e he
   rcases bF.1 he with rfl|he
   ·exact hc
   ·exact ih h e he
  ·rw [if_pos hc]at h;exact absurd h hc
theorem OT {l:List Ev}(hok : ∀e∈l,e.ok)(hv : ∀e∈l,Ig e=0){i:Nat}(hi:i<nC l):Xd (ch l i):=by
 have sub : ∀e∈ch l i,e∈l:=fun e he=>ig (fA he)
 have hV : ∀e∈ch l i,EvV e:=fun e he=>ae3 (hv e (sub e he))
 refine⟨fun h0=> ?_,by unfold ch;rw [aK];omega,fun e he=>hok e (sub e he),fun e he=>(hV e he).s1,fun e he=>(hV e he).s2,fun e he=>(hV e he).s3,fun e he=>(hV e he).s4,fun e he=>(hV e he).tm⟩
 have:=congrArg List.length h0
 unfold ch at this
 rw [aK,aX]at this
 unfold nC at hi
 simp at this
 omega
theorem aae (l:List Ev)(i:Nat):chN (l.map uX) i=(ch l i).map uX:=by unfold chN ch;rw [fK,bT]
theorem Ih (l:List Ev)(i:Nat):Gf l (i+1)=Gf l i++JJ (ch l i):=by
 unfold Gf;rw [iU,iL];simp
theorem Ql {l:List Ev}(h:Xd l):(JJ l).length<=70040:=by
 have:=xw h 4
 change (Dw l).length<=70000 at this
 have n1:=mP (vg l).1
 have n2:=mP (vg l).2
 have n3:=mP ((Dw l).length:Int)
 unfold JJ
 simp only [ak]
 omega
theorem MQ {l:List Ev}(hok : ∀e∈l,e.ok)(hv : ∀e∈l,Ig e=0) : ∀i,i<=nC l->(Gf l i).length<=10+70040*i:=by
 intro i
 induction i with
 | zero=>intro _;have:=mP (l.length:Int);unfold Gf;simp;omega
 | succ i ih=>
  intro hi
  have h1:=ih (by omega)
  have h2:=Ql (OT hok hv (show i<nC l by omega))
  rw [Ih,ak]
  omega
theorem Qm (l:List Ev)(hok : ∀e∈l,e.ok)(hl:l.length<=1000000):mX Tryz.prog GS 56 [el l] 0 [] (Is (.mW [bs (SL l),iv (zJ l)])):=by
 refine YU func56 rfl mixed (by kernel_rfl) ?_
 apply lD<;>intro h
 ·have h5:512<l.length:=by simp at h;omega
  refine lW (.mW [bs (SL l),iv (zJ l)]) 0 [] [] [] ⟨rfl,rfl,rfl⟩ rfl trivial ?_
  unfold SL zJ
  simp only [h5,if_true]
  exact⟨rfl,rfl,trivial⟩
 have h5:l.length<=512:=by simp at h;omega
 have e5:zJ l=xI l:=by unfold zJ;rw [if_neg (by omega)]
 refine mO abQ 0 [14] (fun i:Nat=> [(14,iv i)]) (fun _=> []) (fun i=>i<=l.length∧xI (l.take i)=0) (fun i=>l.length-i) [] [] 0 (by kernel_rfl) (fun _=>rfl) rfl ⟨aB _,rfl⟩ trivial ⟨rfl,trivial⟩ ?_
 rintro i ⟨hi,hz⟩
 apply lD<;>intro h
 ·have hlt:i<l.length:=by simp at h;omega
  have hk:=SB hlt hz
  refine ni.mk' i rfl (sD hlt) ?_
  refine mG.lS (aj hlt) ?_
  (refine mQ [] (by kernel_rfl) (Z8 l[i] (hok _ (bD hlt))) rfl ?_ ?_;(focus trivial))
  generalize Ig l[i]=c at *
  apply lD<;>intro h
  ·have hc:c≠0:=by simpa using h
   refine lW (.mW [bs (SL l),iv (zJ l)]) 0 [] [] [] ⟨rfl,rfl,rfl⟩ rfl trivial ?_
   have e6:zJ l=c:=by rw [e5];exact hk.2 hc
   unfold SL
   rw [e6,if_neg hc]
   exact⟨rfl,rfl,trivial⟩
  ·have hc:c=0:=by simpa using h
   refine lU.i64 (by omega) ?_
   exact lX (i+1) [] [] rfl (by show l.length -(i+1)<l.length-i;omega) ⟨hlt,hk.1.trans hc⟩ trivial ⟨rfl,trivial⟩
 have hie:i=l.length:=by simp at h;omega
 subst hie
 rw [bn]at hz
 have hv:=Gg hz
 rw [hz]at e5
 have etb:SL l=tab l:=by unfold SL;rw [if_pos e5]
 rw [etb,e5]
 conv=>whnf
 rw [ah]
 refine nI [] (by kernel_rfl) (mX.up (qx [] (l.length:Int) (nD (by omega)) (by simp)) GS) (by trivial) ?_
 refine nI [] (by kernel_rfl) (ac9 GS (l.map uX)) (by trivial) ?_
 conv=>whnf
 have hnC:(OQ (l.map uX)).length=nC l:=by unfold OQ SK nC;simp
 refine acg (ac8 GS (l.map uX) (by rw [ah];omega)) 3 (fun i=> [(1, .var 22 [.own 2]),(2, .rows 5 1 ((Gf l i).map oh))]) [(2, .lab 0)] [] rfl (by kernel_rfl) rfl (fun x hx=> ?_) rfl ⟨⟨rfl,rfl,trivial⟩,⟨rfl,rfl, ?_⟩,trivial⟩ (fun i x hx=> ?_) ?_
 ·obtain⟨j,_,rfl⟩:=dR.1 hx
  rfl
 ·show ([]++num (l.length:Int)).map oh=(Gf l 0).map oh
  unfold Gf
  simp
 ·have hlt:i<nC l:=by
   rw [<-hnC]
   exact(aG.1 hx).1
  have hx':x = [.lst 10 ((ch l i).map uX)]:=by
   unfold OQ at hx
   rw [aP,fP (by unfold SK;rw [ah];exact hlt)]at hx
   injection hx with hx
   rw [<-hx];show [AV.lst 10 (chN (l.map uX) i)]=_;rw [aae]
  subst hx'
  conv=>whnf
  have aaf:=OT hok hv hlt
  have hcl:=Ql aaf
  have hta:=MQ hok hv i (by omega)
  have hnc:nC l<=32:=by unfold nC;omega
  (refine nZ aed [] (by kernel_rfl) ?_;conv=>whnf)
  repeat' (first
   | (refine And.intro ?_ ?_<;>(conv=>whnf))
   | ((refine oJ [] (by kernel_rfl) (aad (ch l i) aaf) ?_ ?_;(focus trivial));rintro _ _ _ ⟨rfl,rfl,rfl⟩;conv=>whnf)
   | (refine lG.mk (lM (by simp only [ah];omega) (by kernel_rfl)) ?_;conv=>whnf))
  refine ach [(2, .lab 3)] [] rfl ⟨⟨rfl,rfl,trivial⟩,⟨rfl,rfl, ?_⟩,trivial⟩
  rw [Ih,aJ]
 ·rw [hnC]
  exact lW (.mW [bs (tab l),iv 0]) 0 [] [] [2] ⟨rfl,rfl,rfl⟩ rfl trivial ⟨⟨rfl,rfl,rfl⟩,rfl,trivial⟩
end
section
attribute [local irreducible] best ints en bd su dsT
def z0:Ev:=⟨[],0,0,0,[],[],[],0,0,0⟩
def mg (s:Nat)(x:Ev):Ev:=
 ⟨if 0<s then x.client else [],if 1<s then x.seq else 0,if 2<s then x.kind else 0,if 3<s then x.time else 0,if 4<s then x.id else [],if 5<s then x.name else [],if 6<s then x.other else [],if 7<s then x.ver else 0,if 8<s then x.arm else 0,if 9<s then x.val else 0⟩
def cols (c:List Ev):List By:= [su (c.map (·.client)),ints (c.map (·.seq)),ints (c.map (·.kind)),ints (c.map (·.time)),su (c.map (·.id)),su (c.map (·.name)),su (c.map (·.other)),ints (c.map (·.ver)),ints (c.map (·.arm)),ints (c.map (·.val))]
def rs (s:Nat)(c:List Ev):By:=((cols c).drop s).flatten
theorem ada (c:List Ev):Dw c=rs 0 c:=by simp [Dw,rs,cols]
def GC2 (b:By)(n:Nat)(Q:List Ev->By->Prop):Prop:= ∀c r,Xd c->c.length=n->b=JJ c++r->Q c r
structure Dh (b:By)(n:Nat)(l:List Ev)(k:Nat)(ok:Bool):Prop where
 good:ok=true->l.length=n∧(∀e∈l,e.ok)∧k<=b.length
 bad:ok=false->l = []∧k=0
 full:GC2 b n fun c _=>ok=true∧l=c∧k=(JJ c).length
theorem Dh.no {b:By}{n:Nat}(h:GC2 b n fun _ _=>False):Dh b n [] 0 false:=⟨(fun h=>by cases h),fun _=>⟨rfl,rfl⟩,fun c r h1 h2 h3=>(h c r h1 h2 h3).elim⟩
structure KR (b:By)(n:Nat)(s:Nat)(l:List Ev)(body:By):Prop where
 len:l.length=n
 ok : ∀e∈l,e.ok
 sz:body.length<=100000
 full:GC2 b n fun c _=>l=c.map (mg s)∧body=rs s c
def wz {α:Type}(g:Ev->α->Ev)(l:List Ev)(s:List α)(i:Nat):List Ev:=List.zipWith g (l.take i) (s.take i)++l.drop i
theorem tu {α:Type}(g:Ev->α->Ev)(l:List Ev)(s:List α):wz g l s 0=l:=by simp [wz]
theorem vZ {α:Type}(g:Ev->α->Ev)(l:List Ev)(s:List α)(i:Nat)(h:s.length=l.length):(wz g l s i).length=l.length:=by simp [wz];omega
theorem wo {α:Type}(g:Ev->α->Ev)(l:List Ev)(s:List α)(h:s.length=l.length):wz g l s l.length=List.zipWith g l s:=by
 unfold wz;rw [bn,jf,bZ, <-h,bn]
theorem yY {α:Type}(g:Ev->α->Ev)(l:List Ev)(s:List α)(i:Nat)(hi:i<l.length)(h:s.length=l.length):(wz g l s i)[i]? = some l[i]:=by
 unfold wz
 have hz:(List.zipWith g (l.take i) (s.take i)).length=i:=by simp;omega
 rw [dB (by omega),hz,gJ,cZ,dH,aj hi]
theorem wu {α:Type}(g:Ev->α->Ev)(l:List Ev)(s:List α)(i:Nat)(hi:i<l.length)(h:s.length=l.length):(wz g l s i).set i (g l[i] (s[i]'(by omega)))=wz g l s (i+1):=by
 have his:i<s.length:=by omega
 have hz:(List.zipWith g (l.take i) (s.take i)).length=i:=by simp;omega
 unfold wz
 rw [iG _ _ (by omega),hz,gJ,aH hi,aH his,List.zipWith_append (by simp;omega)]
 have e:List.drop i l=l[i]::List.drop (i+1) l:=dM hi
 rw [e]
 show _++(g l[i] s[i]::List.drop (i+1) l)=(_++ [g l[i] s[i]])++_
 rw [aO];rfl
theorem aaX {α:Type}{g:Ev->α->Ev}{l:List Ev}{s:List α}(hl : ∀e∈l,e.ok)(hg : ∀e∈l, ∀v∈s,(g e v).ok) : ∀e∈List.zipWith g l s,e.ok:=by
 intro e he
 obtain⟨i,hi,rfl⟩:=iM he
 rw [List.getElem_zipWith]
 simp at hi
 exact hg _ (bD _) _ (bD _)
theorem zip_map {α:Type}(g:Ev->α->Ev)(c:List Ev)(a:Ev->Ev)(f:Ev->α):List.zipWith g (c.map a) (c.map f)=c.map fun x=>g (a x) (f x):=by
 induction c with
 | nil=>rfl
 | cons x r ih=>simp [ih]
theorem Qn (s:Nat)(c:List Ev)(x:By)(h:(cols c)[s]? = some x):rs s c=x++rs (s+1) c:=by
 unfold rs
 obtain⟨hs,rfl⟩:=aG.1 h
 rw [dM hs];rfl
theorem ae4:z0.ok:=by
 refine⟨?_, ?_, ?_, ?_, ?_, ?_, ?_, ?_, ?_, ?_⟩<;>first|(unfold z0 I64;simp;done)|(unfold z0;simp)
theorem KR.txt {b:By}{n s:Nat}{l:List Ev}{body:By}(h:KR b n s l body)(g:Ev->By->Ev)(f:Ev->By)(hf : ∀c,(cols c)[s]? = some (su (c.map f)))(hg : ∀x:Ev,g (mg s x) (f x)=mg (s+1) x)
  (hok : ∀e v,e.ok->v.length<=200->(g e v).ok) (hs : ∀c,Xd c->∀e∈c,(f e).length<=200) {t:Tx} {k:Nat} {e:Int} (hR:Sr body t k e) :
  (e=0->t.length=n->KR b n (s+1) (List.zipWith g l t) (body.drop k)∧k<=body.length)∧(GC2 b n fun _ _=>e=0∧t.length=n):=by
 obtain⟨r1,r2,r3,r4⟩:=hR
 have key:GC2 b n fun c _=>e=0∧t=c.map f∧body.drop k=rs (s+1) c:=fun c r hc hn hb=>by
  obtain⟨_,hbody⟩:=h.full c r hc hn hb
  have hb2:body=su (c.map f)++rs (s+1) c:=by rw [hbody,Qn s c _ (hf c)]
  have hcl:=hc.len
  have:=r4 (c.map f) (rs (s+1) c) (by rw [ah];omega) (qR (hs c hc)) hb2
  refine⟨this.1,this.2, ?_⟩
  rcases r3 with ⟨_,hk,_⟩|⟨h1,_⟩
  ·rw [hk,this.2,hb2,eu rfl]
  ·have:=this.1;omega
 refine⟨fun he ht=> ?_,fun c r hc hn hb=> ?_⟩
 ·have hk:k<=body.length:=by
   rcases r3 with ⟨_,hk,hp⟩|⟨h1,_⟩
   ·rw [hk]
    have:=congrArg List.length hp
    rw [aK]at this
    omega
   ·omega
  refine⟨⟨?_,aaX h.ok fun x hx v hv=>hok x v (h.ok x hx) (r1 v hv),by rw [aX];have:=h.sz;omega,fun c r hc hn hb=> ?_⟩,hk⟩
  ·rw [List.length_zipWith,h.len,ht];omega
  ·obtain⟨h1,_⟩:=h.full c r hc hn hb
   obtain⟨_,k2,k3⟩:=key c r hc hn hb
   refine⟨?_,k3⟩
   rw [h1,k2,zip_map]
   exact jh fun x _=>hg x
 ·obtain⟨k1,k2,_⟩:=key c r hc hn hb
  exact⟨k1,by rw [k2,ah,hn]⟩
theorem KR.num {b:By}{n s:Nat}{l:List Ev}{body:By}(h:KR b n s l body)(g:Ev->Int->Ev)(f:Ev->Int)(hf : ∀c,(cols c)[s]? = some (ints (c.map f)))(hg : ∀x:Ev,g (mg s x) (f x)=mg (s+1) x)
  (hok : ∀e v,e.ok->I64 v->(g e v).ok) (hs : ∀c,Xd c->∀e∈c,I64 (f e)) {t:Li} {k:Nat} {e:Int} (hR:GU body t k e) :
  (e=0->t.length=n->KR b n (s+1) (List.zipWith g l t) (body.drop k)∧k<=body.length)∧(GC2 b n fun _ _=>e=0∧t.length=n):=by
 obtain⟨r1,r2,r3,r4⟩:=hR
 have key:GC2 b n fun c _=>e=0∧t=c.map f∧body.drop k=rs (s+1) c:=fun c r hc hn hb=>by
  obtain⟨_,hbody⟩:=h.full c r hc hn hb
  have hb2:body=ints (c.map f)++rs (s+1) c:=by rw [hbody,Qn s c _ (hf c)]
  have hcl:=hc.len
  have:=r4 (c.map f) (rs (s+1) c) (all_map (hs c hc)) (by rw [ah];omega) hb2
  refine⟨this.1,this.2, ?_⟩
  rcases r3 with ⟨_,hk,_⟩|⟨h1,_⟩
  ·rw [hk,this.2,hb2,eu rfl]
  ·have:=this.1;omega
 refine⟨fun he ht=> ?_,fun c r hc hn hb=> ?_⟩
 ·have hk:k<=body.length:=by
   rcases r3 with ⟨_,hk,hp⟩|⟨h1,_⟩
   ·rw [hk]
    have:=congrArg List.length hp
    rw [aK]at this
    omega
   ·omega
  refine⟨⟨?_,aaX h.ok fun x hx v hv=>hok x v (h.ok x hx) (r1 v hv),by rw [aX];have:=h.sz;omega,fun c r hc hn hb=> ?_⟩,hk⟩
  ·rw [List.length_zipWith,h.len,ht];omega
  ·obtain⟨h1,_⟩:=h.full c r hc hn hb
   obtain⟨_,k2,k3⟩:=key c r hc hn hb
   refine⟨?_,k3⟩
   rw [h1,k2,zip_map]
   exact jh fun x _=>hg x
 ·obtain⟨k1,k2,_⟩:=key c r hc hn hb
  exact⟨k1,by rw [k2,ah,hn]⟩
end
section
attribute [local irreducible] best ints en bd su dsT
theorem heads (b:By)(n:Nat)(M:Int)(hM0:0<=M)(hM : ∀c r,Xd c->b=JJ c++r->((Dw c).length:Int)<=M)(x1 x2 x3 e1 e2 e3:Int)(k1 k2 k3:Nat)(h1:nG b 0=(x1,k1,e1))(h2:nG (b.drop k1) e1=(x2,k2,e2))(h3:qL ((b.drop k1).drop k2) e2 M 5=(x3,k3,e3)) :
  I64 x1∧I64 x2∧0<=x3∧x3<=M∧(e3=0->∃rest,b=num x1++(num x2++(num x3++rest)))∧GC2 b n fun c r=>e3=0∧x1=(vg c).1∧x2=(vg c).2∧x3=((Dw c).length:Int):=by
 have o1:=qW b 0
 have o2:=qW (b.drop k1) e1
 have o3:=qW ((b.drop k1).drop k2) e2
 have o4:=uG ((b.drop k1).drop k2) e2 M 5 hM0 (by decide)
 rw [h1]at o1
 rw [h2]at o2
 rw [h3]at o4
 simp only at o1 o2 o4
 refine⟨o1.1,o2.1,o4.1,o4.2.1,fun he=> ?_,fun c r hc hn hb=> ?_⟩
 ·obtain⟨q1,q2⟩:=o4.2.2.2 he
  obtain⟨p1,p2,p3⟩:=o3.2.2.1 q1
  obtain⟨u1,u2,u3⟩:=o2.2.2.1 p1
  obtain⟨v1,v2,v3⟩:=o1.2.2.1 u1
  refine⟨((b.drop k1).drop k2).drop (nG ((b.drop k1).drop k2) e2).2.1, ?_⟩
  rw [q2, <-p2, <-u2]
  exact v2
 ·have hr:=MP hc
  have hbl:=xw hc 4
  change (Dw c).length<=70000 at hbl
  have hb1:b=num (vg c).1++(num (vg c).2++(num ((Dw c).length:Int)++(Dw c++r))):=by rw [hb];unfold JJ;simp only [aO]
  have a1:=OC (b:=b) (e:=0) hr.1 rfl hb1
  rw [h1]at a1
  simp only at a1
  obtain⟨a1,a2,a3⟩:=a1
  have b1:=OC (b:=b.drop k1) (e:=e1) hr.2 a2 a3
  rw [h2]at b1
  simp only at b1
  obtain⟨b1,b2,b3⟩:=b1
  have c1:=OC (b:=(b.drop k1).drop k2) (e:=e2) (nD (by omega:(Dw c).length<=9223372036854775807)) b2 b3
  have hle:=hM c r hc hb
  have c2:=JH (em:=5) c1.1 c1.2.1 hle
  rw [h3]at c2
  injection c2 with c2 c3
  injection c3 with c3 c4
  exact⟨c4,a1,b1,c2⟩
structure TR where
 l:List Ev
 body:By
 i:Nat
def stg (i:Nat):Nat:=match i with|0=>0|1=>4|2=>5|3=>6|_=>10
def RCa (b:By)(n:Nat)(a:AV)(m:Nat)(H:lF):Prop:= ∃l k ok,Dh b n l k ok∧a = .mW [el l,iv (k:Nat),bv ok]∧m=0∧H = []
theorem adb (n:Nat):List.replicate n (uX z0)=(List.replicate n z0).map uX:=by simp
theorem OU (b:By)(n:Nat)(hb:b.length<=100000)(hn:n<=16):mX Tryz.prog GS 110 [bs b,iv n] 0 [] (RCa b n):=by
 have hN1:=mX.up (rZ b 0 (by omega)) GS
 obtain⟨⟨x1,k1,e1⟩,h1⟩ : ∃t,nG b 0=t:=⟨_,rfl⟩
 rw [h1]at hN1
 have hN2:=mX.up (rZ (b.drop k1) e1 (pX (by omega))) GS
 obtain⟨⟨x2,k2,e2⟩,h2⟩ : ∃t,nG (b.drop k1) e1=t:=⟨_,rfl⟩
 rw [h2]at hN2
 have hC:=mX.up (Cm ((b.drop k1).drop k2) e2 (b.length:Int) (pX (pX (by omega))) (by omega)) GS
 obtain⟨⟨x3,k3,e3⟩,h3⟩ : ∃t,qL ((b.drop k1).drop k2) e2 (b.length:Int) 5=t:=⟨_,rfl⟩
 rw [h3]at hC
 simp only at hN1 hN2 hC
 obtain⟨i1,i2,p3,q3,Wq,hfull⟩:=heads b n (b.length:Int) (by omega) (fun c r _ h=>by rw [h];unfold JJ;simp only [ak];omega) x1 x2 x3 e1 e2 e3 k1 k2 k3 h1 h2 h3
 clear h1 h2 h3
 obtain⟨sz,rfl⟩ : ∃sz:Nat,x3=(sz:Int):=⟨x3.toNat,by omega⟩
 generalize b.drop k1=b1 at *
 generalize b1.drop k2=b2 at *
 generalize b2.drop k3=b3 at *
 refine lH func110 rfl mixed (by kernel_rfl) ?_
 refine nI [] (by kernel_rfl) (mX.up (JB b (by omega)) GS) (by trivial) ?_
 refine sG [0] [] (by kernel_rfl) hN1 rfl (by trivial) (by trivial) rfl ?_
 refine sG [0] [] (by kernel_rfl) hN2 rfl (by trivial) (by trivial) rfl ?_
 conv=>whnf
 rw [ah]
 refine sG [0] [] (by kernel_rfl) hC rfl (by trivial) (by trivial) rfl ?_
 refine sG [0] [] (by kernel_rfl) (mX.up (Au b3 e3) GS) rfl (by trivial) (by trivial) rfl ?_
 apply lD<;>intro h
 ·have he:e3≠0:=by simpa using h
  exact lW (.mW [el [],iv (0:Nat),bv false]) 0 [] [] [] ⟨[],0,false,Dh.no fun c r h1 h2 h3=>he (hfull c r h1 h2 h3).1,rfl,rfl,rfl⟩ rfl trivial (by trivial)
 have he:e3=0:=by simpa using h
 subst he
 obtain⟨rest,hrest⟩:=Wq rfl
 have n1:=(mP x1).2
 have n2:=(mP x2).2
 have n3:=(mP (sz:Int)).2
 refine nI [] (by kernel_rfl) (mX.up (qx [] x1 i1 (by simp)) GS) (by trivial) ?_
 refine nI [1] (by kernel_rfl) (mX.up (qx (num x1) x2 i2 (by omega)) GS) (by trivial) ?_
 refine nI [2] (by kernel_rfl) (mX.up (qx (num x1++num x2) (sz:Int) (nD (by omega)) (by rw [ak];omega)) GS) (by trivial) ?_
 conv=>whnf
 obtain⟨hd,hhd⟩ : ∃hd,num x1++num x2++num (sz:Int)=hd:=⟨_,rfl⟩
 rw [hhd]
 have hb0:b=hd++rest:=by rw [<-hhd,hrest];simp only [aO]
 have hbl:=congrArg List.length hb0
 rw [ak]at hbl
 have OV:GC2 b n fun c r=>sz=(Dw c).length∧JJ c=hd++Dw c∧rest=Dw c++r:=fun c r h1 h2 h3=>by
  obtain⟨_,f1,f2,f3⟩:=hfull c r h1 h2 h3
  have f4:sz=(Dw c).length:=by omega
  have f5:JJ c=hd++Dw c:=by rw [<-hhd,f1,f2,f4];rfl
  refine⟨f4,f5, ?_⟩
  rw [hb0,f5,aO]at h3
  exact bV h3
 clear hfull Wq hrest hhd
 refine lU.i64 (by simp only [ah];omega) ?_
 apply lD<;>intro h
 ·have hgt:rest.length<sz:=by simp only [ah,gt_iff_lt,decide_eq_true_eq]at h;omega
  exact lW (.mW [el [],iv (0:Nat),bv false]) 0 [] [] [] ⟨[],0,false,Dh.no fun c r h1 h2 h3=>by
   obtain⟨f1,_,f3⟩:=OV c r h1 h2 h3
   have:=congrArg List.length f3
   rw [ak]at this
   omega,rfl,rfl,rfl⟩ rfl trivial (by trivial)
 have hle:sz<=rest.length:=by simp only [ah,gt_iff_lt,decide_eq_false_iff_not]at h;omega
 refine NR.mk' (qU:=112) n rfl rfl (by unfold maxLen;omega) ?_
 refine lU.i64 (by simp only [ah];omega) ?_
 refine tJ.mk' hd.length (hd.length+sz) (by rw [ah]) (by rw [ah];omega) (by omega) (by rw [ah];omega) ?_
 conv=>whnf
 have hcut:((b.map oh).take (hd.length+sz)).drop hd.length=(rest.take sz).map oh:=by
  rw [<-fK, <-bT,hb0,jw,eu rfl,jo]
 have hK0:KR b n 0 (List.replicate n z0) (rest.take sz):=by
  refine⟨by simp,fun e he=> ?_, ?_,fun c r h1 h2 h3=> ?_⟩
  ·rw [kC he];exact ae4
  ·rw [aK];omega
  ·obtain⟨f1,_,f3⟩:=OV c r h1 h2 h3
   refine⟨?_, ?_⟩
   ·rw [show mg 0=fun _=>z0 from rfl,List.map_const',h2]
   ·rw [f3,f1,eG rfl,ada]
 refine nI [] (by kernel_rfl) (MO) (by trivial) ?_
 refine mO X0 6 [13,62] (fun x:TR=> [(13,bs x.body),(62,iv x.i)]) (fun x=> [(5, .rows 160 2 nN),(4, .rows 95 10 (x.l.map uX))]) (fun x=>x.i<=4∧KR b n (stg x.i) x.l x.body) (fun x=>4-x.i) [] [] ⟨List.replicate n z0,rest.take sz,0⟩ (by kernel_rfl) (fun _=>rfl) rfl ⟨aB _,hK0⟩ ⟨⟨rfl,rfl,rfl⟩,⟨rfl,rfl,adb n⟩,trivial⟩ ⟨⟨rfl,hcut⟩,rfl,trivial⟩ ?_
 rintro⟨l,body,i⟩ ⟨hi,hK⟩
 change i<=4 at hi
 change KR b n (stg i) l body at hK
 have hbody:=hK.sz
 have hll:=hK.len
 have hcs:i=0∨i=1∨i=2∨i=3∨i=4:=by omega
 rcases hcs with rfl|rfl|rfl|rfl|rfl
 ·refine ni.mk' 0 rfl (by decide) ?_
  refine mG.at rfl ?_
  (refine oJ [] (by kernel_rfl) (mX.up (xu body hbody) GS) ?_ ?_;(focus trivial))
  rintro _ _ _ ⟨t,q,e,hR,rfl,rfl,rfl⟩
  have hstep:=hK.txt (fun e v=> {e with client:=v}) (·.client) (fun _=>rfl) (fun _=>rfl) (fun e v he hv=>⟨he.seq,he.kind,he.time,he.ver,he.arm,he.val,by first|exact he.client|(show v.length<=_;omega),by first|exact he.id|(show v.length<=_;omega),by first|exact he.name|(show v.length<=_;omega),by first|exact he.other|(show v.length<=_;omega)⟩) (fun c hc=>hc.s1) hR
  apply lD<;>intro h
  ·have he:e≠0:=by simpa using h
   exact lW (.mW [el [],iv (0:Nat),bv false]) 0 [] [] [] ⟨[],0,false,Dh.no fun c r h1 h2 h3=>he (hstep.2 c r h1 h2 h3).1,rfl,rfl,rfl⟩ rfl trivial (by trivial)
  have he:e=0:=by simpa using h
  apply lD<;>intro h
  ·have ht:t.length≠n:=by simp at h;omega
   exact lW (.mW [el [],iv (0:Nat),bv false]) 0 [] [] [] ⟨[],0,false,Dh.no fun c r h1 h2 h3=>ht (hstep.2 c r h1 h2 h3).2,rfl,rfl,rfl⟩ rfl trivial (by trivial)
  have ht:t.length=n:=by simp at h;omega
  obtain⟨hK1,hq⟩:=hstep.1 he ht
  have htl:t.length=l.length:=by omega
  clear hstep hR
  refine tJ.mk' q body.length rfl (by rw [ah]) hq (by rw [ah];exact ay _) ?_
  refine mO DU 7 [85] (fun k:Nat=> [(85,iv k)]) (fun k=> [(6, .var 160 ((nN.getD 0 []).map FV.up)),(5, .rows 160 2 nN),(4, .rows 95 10 ((wz (fun e v=> {e with client:=v}) l t k).map uX))]) (fun k=>k<=l.length) (fun k=>l.length-k) [] [] 0 (by kernel_rfl) (fun _=>rfl) rfl (aB _) ⟨(by trivial),⟨rfl,rfl,rfl⟩,⟨rfl,rfl,by rw [tu]⟩,trivial⟩ ⟨rfl,trivial⟩ ?_
  intro k hk
  refine lD (fun hb=> ?_) (fun hb=> ?_)
  ·have hlt:k<l.length:=by simp at hb;omega
   have hlt2:k<t.length:=by omega
   (refine nZ vW [] (by kernel_rfl) ?_;conv=>whnf)
   refine ni.mk' k rfl (by rw [ah,vZ _ _ _ _ htl];exact hlt) ?_
   refine ni.mk' k rfl (sD hlt2) ?_
   refine mG.lS (aj hlt2) ?_
   (refine oV (by kernel_rfl) (lH func143 rfl mixed (by kernel_rfl) ?_);(conv=>whnf))
   refine rP (.ep 4 k 0) ?_ rfl ?_ ?_
   rotate_left
   ·trivial
   ·trivial
   refine mG.lS (yY _ l t k hlt htl) ?_
   refine lU.i64 (by omega) ?_
   refine lX (k+1) [] [] rfl (by show l.length -(k+1)<l.length-k;omega) hlt ⟨(by trivial),⟨rfl,rfl,rfl⟩,⟨rfl,rfl, ?_⟩,trivial⟩ ⟨rfl,trivial⟩
   rw [<-wu _ l t k hlt htl,dP]
   rfl
  have hke:k=l.length:=by simp only [ah,decide_eq_false_iff_not]at hb;omega
  subst hke
  rw [wo _ l t htl]
  refine mO DV 7 [13,103] (fun x:TR=> [(13,bs x.body),(103,iv x.i)]) (fun x=> [(6, .var 160 ((nN.getD 0 []).map FV.up)),(5, .rows 160 2 nN),(4, .rows 95 10 (x.l.map uX))]) (fun x=>x.i<=3∧KR b n (1+x.i) x.l x.body) (fun x=>3-x.i) [] [] ⟨_,body.drop q,0⟩ (by kernel_rfl) (fun _=>rfl) rfl ⟨aB _,hK1⟩ ⟨(by trivial),⟨rfl,rfl,rfl⟩,⟨rfl,rfl,rfl⟩,trivial⟩ ⟨⟨rfl,bT.symm⟩,rfl,trivial⟩ ?_
  clear hK1 hq htl ht he hK hbody hll
  rintro⟨l,body,j⟩ ⟨hj,hK⟩
  change j<=3 at hj
  change KR b n (1+j) l body at hK
  have hbody:=hK.sz
  have hll:=hK.len
  have hcj:j=0∨j=1∨j=2∨j=3:=by omega
  rcases hcj with rfl|rfl|rfl|rfl
  ·refine ni.mk' 0 rfl (by decide) ?_
   refine mG.at rfl ?_
   (refine oJ [] (by kernel_rfl) (mX.up (sV body hbody) GS) ?_ ?_;(focus trivial))
   rintro _ _ _ ⟨t,q,e,hR,rfl,rfl,rfl⟩
   have hstep:=hK.num (fun e v=> {e with seq:=v}) (·.seq) (fun _=>rfl) (fun _=>rfl) (fun e v he hv=>⟨by first|exact he.seq|exact hv,by first|exact he.kind|exact hv,by first|exact he.time|exact hv,by first|exact he.ver|exact hv,by first|exact he.arm|exact hv,by first|exact he.val|exact hv,he.client,he.id,he.name,he.other⟩) (fun c hc e he=>(hc.ok e he).seq) hR
   apply lD<;>intro h
   ·have he:e≠0:=by simpa using h
    exact lW (.mW [el [],iv (0:Nat),bv false]) 0 [] [] [] ⟨[],0,false,Dh.no fun c r h1 h2 h3=>he (hstep.2 c r h1 h2 h3).1,rfl,rfl,rfl⟩ rfl trivial (by trivial)
   have he:e=0:=by simpa using h
   apply lD<;>intro h
   ·have ht:t.length≠n:=by simp at h;omega
    exact lW (.mW [el [],iv (0:Nat),bv false]) 0 [] [] [] ⟨[],0,false,Dh.no fun c r h1 h2 h3=>ht (hstep.2 c r h1 h2 h3).2,rfl,rfl,rfl⟩ rfl trivial (by trivial)
   have ht:t.length=n:=by simp at h;omega
   obtain⟨hK1,hq⟩:=hstep.1 he ht
   have htl:t.length=l.length:=by omega
   clear hstep hR
   refine tJ.mk' q body.length rfl (by rw [ah]) hq (by rw [ah];exact ay _) ?_
   refine mO yA 7 [126] (fun k:Nat=> [(126,iv k)]) (fun k=> [(6, .var 160 ((nN.getD 0 []).map FV.up)),(5, .rows 160 2 nN),(4, .rows 95 10 ((wz (fun e v=> {e with seq:=v}) l t k).map uX))]) (fun k=>k<=l.length) (fun k=>l.length-k) [] [] 0 (by kernel_rfl) (fun _=>rfl) rfl (aB _) ⟨(by trivial),⟨rfl,rfl,rfl⟩,⟨rfl,rfl,by rw [tu]⟩,trivial⟩ ⟨rfl,trivial⟩ ?_
   intro k hk
   refine lD (fun hb=> ?_) (fun hb=> ?_)
   ·have hlt:k<l.length:=by simp at hb;omega
    have hlt2:k<t.length:=by omega
    (refine nZ vW [] (by kernel_rfl) ?_;conv=>whnf)
    refine ni.mk' k rfl (by rw [ah,vZ _ _ _ _ htl];exact hlt) ?_
    refine ni.mk' k rfl (sD hlt2) ?_
    refine mG.lS (aj hlt2) ?_
    (refine oV (by kernel_rfl) (lH func144 rfl mixed (by kernel_rfl) ?_);(conv=>whnf))
    refine rP (.ep 4 k 1) ?_ rfl ?_ ?_
    rotate_left
    ·trivial
    ·trivial
    refine mG.lS (yY _ l t k hlt htl) ?_
    refine lU.i64 (by omega) ?_
    refine lX (k+1) [] [] rfl (by show l.length -(k+1)<l.length-k;omega) hlt ⟨(by trivial),⟨rfl,rfl,rfl⟩,⟨rfl,rfl, ?_⟩,trivial⟩ ⟨rfl,trivial⟩
    rw [<-wu _ l t k hlt htl,dP]
    rfl
   have hke:k=l.length:=by simp only [ah,decide_eq_false_iff_not]at hb;omega
   subst hke
   rw [wo _ l t htl]
   refine lU.i64 (by dsimp only;omega) ?_
   exact lX ⟨_,body.drop q,0+1⟩ [] [] rfl (by show 3 -(0+1)<3-0;decide) ⟨(by show 0+1<=3;decide),hK1⟩ ⟨(by trivial),⟨rfl,rfl,rfl⟩,⟨rfl,rfl,rfl⟩,trivial⟩ ⟨⟨rfl,bT.symm⟩,rfl,trivial⟩
  ·refine ni.mk' 1 rfl (by decide) ?_
   refine mG.at rfl ?_
   (refine oJ [] (by kernel_rfl) (mX.up (sV body hbody) GS) ?_ ?_;(focus trivial))
   rintro _ _ _ ⟨t,q,e,hR,rfl,rfl,rfl⟩
   have hstep:=hK.num (fun e v=> {e with kind:=v}) (·.kind) (fun _=>rfl) (fun _=>rfl) (fun e v he hv=>⟨by first|exact he.seq|exact hv,by first|exact he.kind|exact hv,by first|exact he.time|exact hv,by first|exact he.ver|exact hv,by first|exact he.arm|exact hv,by first|exact he.val|exact hv,he.client,he.id,he.name,he.other⟩) (fun c hc e he=>(hc.ok e he).kind) hR
   apply lD<;>intro h
   ·have he:e≠0:=by simpa using h
    exact lW (.mW [el [],iv (0:Nat),bv false]) 0 [] [] [] ⟨[],0,false,Dh.no fun c r h1 h2 h3=>he (hstep.2 c r h1 h2 h3).1,rfl,rfl,rfl⟩ rfl trivial (by trivial)
   have he:e=0:=by simpa using h
   apply lD<;>intro h
   ·have ht:t.length≠n:=by simp at h;omega
    exact lW (.mW [el [],iv (0:Nat),bv false]) 0 [] [] [] ⟨[],0,false,Dh.no fun c r h1 h2 h3=>ht (hstep.2 c r h1 h2 h3).2,rfl,rfl,rfl⟩ rfl trivial (by trivial)
   have ht:t.length=n:=by simp at h;omega
   obtain⟨hK1,hq⟩:=hstep.1 he ht
   have htl:t.length=l.length:=by omega
   clear hstep hR
   refine tJ.mk' q body.length rfl (by rw [ah]) hq (by rw [ah];exact ay _) ?_
   refine mO yA 7 [126] (fun k:Nat=> [(126,iv k)]) (fun k=> [(6, .var 160 ((nN.getD 0 []).map FV.up)),(5, .rows 160 2 nN),(4, .rows 95 10 ((wz (fun e v=> {e with kind:=v}) l t k).map uX))]) (fun k=>k<=l.length) (fun k=>l.length-k) [] [] 0 (by kernel_rfl) (fun _=>rfl) rfl (aB _) ⟨(by trivial),⟨rfl,rfl,rfl⟩,⟨rfl,rfl,by rw [tu]⟩,trivial⟩ ⟨rfl,trivial⟩ ?_
   intro k hk
   refine lD (fun hb=> ?_) (fun hb=> ?_)
   ·have hlt:k<l.length:=by simp at hb;omega
    have hlt2:k<t.length:=by omega
    (refine nZ vW [] (by kernel_rfl) ?_;conv=>whnf)
    refine ni.mk' k rfl (by rw [ah,vZ _ _ _ _ htl];exact hlt) ?_
    refine ni.mk' k rfl (sD hlt2) ?_
    refine mG.lS (aj hlt2) ?_
    (refine oV (by kernel_rfl) (lH func145 rfl mixed (by kernel_rfl) ?_);(conv=>whnf))
    refine rP (.ep 4 k 2) ?_ rfl ?_ ?_
    rotate_left
    ·trivial
    ·trivial
    refine mG.lS (yY _ l t k hlt htl) ?_
    refine lU.i64 (by omega) ?_
    refine lX (k+1) [] [] rfl (by show l.length -(k+1)<l.length-k;omega) hlt ⟨(by trivial),⟨rfl,rfl,rfl⟩,⟨rfl,rfl, ?_⟩,trivial⟩ ⟨rfl,trivial⟩
    rw [<-wu _ l t k hlt htl,dP]
    rfl
   have hke:k=l.length:=by simp only [ah,decide_eq_false_iff_not]at hb;omega
   subst hke
   rw [wo _ l t htl]
   refine lU.i64 (by dsimp only;omega) ?_
   exact lX ⟨_,body.drop q,1+1⟩ [] [] rfl (by show 3 -(1+1)<3-1;decide) ⟨(by show 1+1<=3;decide),hK1⟩ ⟨(by trivial),⟨rfl,rfl,rfl⟩,⟨rfl,rfl,rfl⟩,trivial⟩ ⟨⟨rfl,bT.symm⟩,rfl,trivial⟩
  ·refine ni.mk' 2 rfl (by decide) ?_
   refine mG.at rfl ?_
   (refine oJ [] (by kernel_rfl) (mX.up (sV body hbody) GS) ?_ ?_;(focus trivial))
   rintro _ _ _ ⟨t,q,e,hR,rfl,rfl,rfl⟩
   have hstep:=hK.num (fun e v=> {e with time:=v}) (·.time) (fun _=>rfl) (fun _=>rfl) (fun e v he hv=>⟨by first|exact he.seq|exact hv,by first|exact he.kind|exact hv,by first|exact he.time|exact hv,by first|exact he.ver|exact hv,by first|exact he.arm|exact hv,by first|exact he.val|exact hv,he.client,he.id,he.name,he.other⟩) (fun c hc e he=>(hc.ok e he).time) hR
   apply lD<;>intro h
   ·have he:e≠0:=by simpa using h
    exact lW (.mW [el [],iv (0:Nat),bv false]) 0 [] [] [] ⟨[],0,false,Dh.no fun c r h1 h2 h3=>he (hstep.2 c r h1 h2 h3).1,rfl,rfl,rfl⟩ rfl trivial (by trivial)
   have he:e=0:=by simpa using h
   apply lD<;>intro h
   ·have ht:t.length≠n:=by simp at h;omega
    exact lW (.mW [el [],iv (0:Nat),bv false]) 0 [] [] [] ⟨[],0,false,Dh.no fun c r h1 h2 h3=>ht (hstep.2 c r h1 h2 h3).2,rfl,rfl,rfl⟩ rfl trivial (by trivial)
   have ht:t.length=n:=by simp at h;omega
   obtain⟨hK1,hq⟩:=hstep.1 he ht
   have htl:t.length=l.length:=by omega
   clear hstep hR
   refine tJ.mk' q body.length rfl (by rw [ah]) hq (by rw [ah];exact ay _) ?_
   refine mO yA 7 [126] (fun k:Nat=> [(126,iv k)]) (fun k=> [(6, .var 160 ((nN.getD 0 []).map FV.up)),(5, .rows 160 2 nN),(4, .rows 95 10 ((wz (fun e v=> {e with time:=v}) l t k).map uX))]) (fun k=>k<=l.length) (fun k=>l.length-k) [] [] 0 (by kernel_rfl) (fun _=>rfl) rfl (aB _) ⟨(by trivial),⟨rfl,rfl,rfl⟩,⟨rfl,rfl,by rw [tu]⟩,trivial⟩ ⟨rfl,trivial⟩ ?_
   intro k hk
   refine lD (fun hb=> ?_) (fun hb=> ?_)
   ·have hlt:k<l.length:=by simp at hb;omega
    have hlt2:k<t.length:=by omega
    (refine nZ vW [] (by kernel_rfl) ?_;conv=>whnf)
    refine ni.mk' k rfl (by rw [ah,vZ _ _ _ _ htl];exact hlt) ?_
    refine ni.mk' k rfl (sD hlt2) ?_
    refine mG.lS (aj hlt2) ?_
    (refine oV (by kernel_rfl) (lH func146 rfl mixed (by kernel_rfl) ?_);(conv=>whnf))
    refine rP (.ep 4 k 3) ?_ rfl ?_ ?_
    rotate_left
    ·trivial
    ·trivial
    refine mG.lS (yY _ l t k hlt htl) ?_
    refine lU.i64 (by omega) ?_
    refine lX (k+1) [] [] rfl (by show l.length -(k+1)<l.length-k;omega) hlt ⟨(by trivial),⟨rfl,rfl,rfl⟩,⟨rfl,rfl, ?_⟩,trivial⟩ ⟨rfl,trivial⟩
    rw [<-wu _ l t k hlt htl,dP]
    rfl
   have hke:k=l.length:=by simp only [ah,decide_eq_false_iff_not]at hb;omega
   subst hke
   rw [wo _ l t htl]
   refine lU.i64 (by dsimp only;omega) ?_
   exact lX ⟨_,body.drop q,2+1⟩ [] [] rfl (by show 3 -(2+1)<3-2;decide) ⟨(by show 2+1<=3;decide),hK1⟩ ⟨(by trivial),⟨rfl,rfl,rfl⟩,⟨rfl,rfl,rfl⟩,trivial⟩ ⟨⟨rfl,bT.symm⟩,rfl,trivial⟩
  ·refine lU.i64 (by dsimp only;omega) ?_
   exact lX ⟨l,body,1⟩ [] [] rfl (by show 4-1<4-0;decide) ⟨(by show 1<=4;decide),hK⟩ ⟨⟨rfl,rfl,rfl⟩,⟨rfl,rfl,rfl⟩,trivial⟩ ⟨⟨rfl,rfl⟩,rfl,trivial⟩
 ·refine ni.mk' 1 rfl (by decide) ?_
  refine mG.at rfl ?_
  (refine oJ [] (by kernel_rfl) (mX.up (xu body hbody) GS) ?_ ?_;(focus trivial))
  rintro _ _ _ ⟨t,q,e,hR,rfl,rfl,rfl⟩
  have hstep:=hK.txt (fun e v=> {e with id:=v}) (·.id) (fun _=>rfl) (fun _=>rfl) (fun e v he hv=>⟨he.seq,he.kind,he.time,he.ver,he.arm,he.val,by first|exact he.client|(show v.length<=_;omega),by first|exact he.id|(show v.length<=_;omega),by first|exact he.name|(show v.length<=_;omega),by first|exact he.other|(show v.length<=_;omega)⟩) (fun c hc=>hc.s2) hR
  apply lD<;>intro h
  ·have he:e≠0:=by simpa using h
   exact lW (.mW [el [],iv (0:Nat),bv false]) 0 [] [] [] ⟨[],0,false,Dh.no fun c r h1 h2 h3=>he (hstep.2 c r h1 h2 h3).1,rfl,rfl,rfl⟩ rfl trivial (by trivial)
  have he:e=0:=by simpa using h
  apply lD<;>intro h
  ·have ht:t.length≠n:=by simp at h;omega
   exact lW (.mW [el [],iv (0:Nat),bv false]) 0 [] [] [] ⟨[],0,false,Dh.no fun c r h1 h2 h3=>ht (hstep.2 c r h1 h2 h3).2,rfl,rfl,rfl⟩ rfl trivial (by trivial)
  have ht:t.length=n:=by simp at h;omega
  obtain⟨hK1,hq⟩:=hstep.1 he ht
  have htl:t.length=l.length:=by omega
  clear hstep hR
  refine tJ.mk' q body.length rfl (by rw [ah]) hq (by rw [ah];exact ay _) ?_
  refine mO DU 7 [85] (fun k:Nat=> [(85,iv k)]) (fun k=> [(6, .var 160 ((nN.getD 1 []).map FV.up)),(5, .rows 160 2 nN),(4, .rows 95 10 ((wz (fun e v=> {e with id:=v}) l t k).map uX))]) (fun k=>k<=l.length) (fun k=>l.length-k) [] [] 0 (by kernel_rfl) (fun _=>rfl) rfl (aB _) ⟨(by trivial),⟨rfl,rfl,rfl⟩,⟨rfl,rfl,by rw [tu]⟩,trivial⟩ ⟨rfl,trivial⟩ ?_
  intro k hk
  refine lD (fun hb=> ?_) (fun hb=> ?_)
  ·have hlt:k<l.length:=by simp at hb;omega
   have hlt2:k<t.length:=by omega
   (refine nZ vW [] (by kernel_rfl) ?_;conv=>whnf)
   refine ni.mk' k rfl (by rw [ah,vZ _ _ _ _ htl];exact hlt) ?_
   refine ni.mk' k rfl (sD hlt2) ?_
   refine mG.lS (aj hlt2) ?_
   (refine oV (by kernel_rfl) (lH func147 rfl mixed (by kernel_rfl) ?_);(conv=>whnf))
   refine rP (.ep 4 k 4) ?_ rfl ?_ ?_
   rotate_left
   ·trivial
   ·trivial
   refine mG.lS (yY _ l t k hlt htl) ?_
   refine lU.i64 (by omega) ?_
   refine lX (k+1) [] [] rfl (by show l.length -(k+1)<l.length-k;omega) hlt ⟨(by trivial),⟨rfl,rfl,rfl⟩,⟨rfl,rfl, ?_⟩,trivial⟩ ⟨rfl,trivial⟩
   rw [<-wu _ l t k hlt htl,dP]
   rfl
  have hke:k=l.length:=by simp only [ah,decide_eq_false_iff_not]at hb;omega
  subst hke
  rw [wo _ l t htl]
  refine mO DV 7 [13,103] (fun j:Nat=> [(13,bs (body.drop q)),(103,iv 0)]) (fun j=> [(5, .rows 160 2 nN),(4, .rows 95 10 ((List.zipWith (fun e v=> {e with id:=v}) l t).map uX))]) (fun j=>j=0) (fun j=>j) [] [] 0 (by kernel_rfl) (fun _=>rfl) rfl rfl ⟨⟨rfl,rfl,rfl⟩,⟨rfl,rfl,rfl⟩,trivial⟩ ⟨⟨rfl,bT.symm⟩,rfl,trivial⟩ ?_
  intro j hj
  refine lU.i64 (by dsimp only;omega) ?_
  exact lX ⟨List.zipWith (fun e v=> {e with id:=v}) l t,body.drop q,1+1⟩ [] [] rfl (by show 4 -(1+1)<4-1;decide) ⟨(by show 1+1<=4;decide),hK1⟩ ⟨⟨rfl,rfl,rfl⟩,⟨rfl,rfl,rfl⟩,trivial⟩ ⟨⟨rfl,rfl⟩,rfl,trivial⟩
 ·refine ni.mk' 2 rfl (by decide) ?_
  refine mG.at rfl ?_
  (refine oJ [] (by kernel_rfl) (mX.up (xu body hbody) GS) ?_ ?_;(focus trivial))
  rintro _ _ _ ⟨t,q,e,hR,rfl,rfl,rfl⟩
  have hstep:=hK.txt (fun e v=> {e with name:=v}) (·.name) (fun _=>rfl) (fun _=>rfl) (fun e v he hv=>⟨he.seq,he.kind,he.time,he.ver,he.arm,he.val,by first|exact he.client|(show v.length<=_;omega),by first|exact he.id|(show v.length<=_;omega),by first|exact he.name|(show v.length<=_;omega),by first|exact he.other|(show v.length<=_;omega)⟩) (fun c hc=>hc.s3) hR
  apply lD<;>intro h
  ·have he:e≠0:=by simpa using h
   exact lW (.mW [el [],iv (0:Nat),bv false]) 0 [] [] [] ⟨[],0,false,Dh.no fun c r h1 h2 h3=>he (hstep.2 c r h1 h2 h3).1,rfl,rfl,rfl⟩ rfl trivial (by trivial)
  have he:e=0:=by simpa using h
  apply lD<;>intro h
  ·have ht:t.length≠n:=by simp at h;omega
   exact lW (.mW [el [],iv (0:Nat),bv false]) 0 [] [] [] ⟨[],0,false,Dh.no fun c r h1 h2 h3=>ht (hstep.2 c r h1 h2 h3).2,rfl,rfl,rfl⟩ rfl trivial (by trivial)
  have ht:t.length=n:=by simp at h;omega
  obtain⟨hK1,hq⟩:=hstep.1 he ht
  have htl:t.length=l.length:=by omega
  clear hstep hR
  refine tJ.mk' q body.length rfl (by rw [ah]) hq (by rw [ah];exact ay _) ?_
  refine mO DU 7 [85] (fun k:Nat=> [(85,iv k)]) (fun k=> [(6, .var 160 ((nN.getD 2 []).map FV.up)),(5, .rows 160 2 nN),(4, .rows 95 10 ((wz (fun e v=> {e with name:=v}) l t k).map uX))]) (fun k=>k<=l.length) (fun k=>l.length-k) [] [] 0 (by kernel_rfl) (fun _=>rfl) rfl (aB _) ⟨(by trivial),⟨rfl,rfl,rfl⟩,⟨rfl,rfl,by rw [tu]⟩,trivial⟩ ⟨rfl,trivial⟩ ?_
  intro k hk
  refine lD (fun hb=> ?_) (fun hb=> ?_)
  ·have hlt:k<l.length:=by simp at hb;omega
   have hlt2:k<t.length:=by omega
   (refine nZ vW [] (by kernel_rfl) ?_;conv=>whnf)
   refine ni.mk' k rfl (by rw [ah,vZ _ _ _ _ htl];exact hlt) ?_
   refine ni.mk' k rfl (sD hlt2) ?_
   refine mG.lS (aj hlt2) ?_
   (refine oV (by kernel_rfl) (lH func148 rfl mixed (by kernel_rfl) ?_);(conv=>whnf))
   refine rP (.ep 4 k 5) ?_ rfl ?_ ?_
   rotate_left
   ·trivial
   ·trivial
   refine mG.lS (yY _ l t k hlt htl) ?_
   refine lU.i64 (by omega) ?_
   refine lX (k+1) [] [] rfl (by show l.length -(k+1)<l.length-k;omega) hlt ⟨(by trivial),⟨rfl,rfl,rfl⟩,⟨rfl,rfl, ?_⟩,trivial⟩ ⟨rfl,trivial⟩
   rw [<-wu _ l t k hlt htl,dP]
   rfl
  have hke:k=l.length:=by simp only [ah,decide_eq_false_iff_not]at hb;omega
  subst hke
  rw [wo _ l t htl]
  refine mO DV 7 [13,103] (fun j:Nat=> [(13,bs (body.drop q)),(103,iv 0)]) (fun j=> [(5, .rows 160 2 nN),(4, .rows 95 10 ((List.zipWith (fun e v=> {e with name:=v}) l t).map uX))]) (fun j=>j=0) (fun j=>j) [] [] 0 (by kernel_rfl) (fun _=>rfl) rfl rfl ⟨⟨rfl,rfl,rfl⟩,⟨rfl,rfl,rfl⟩,trivial⟩ ⟨⟨rfl,bT.symm⟩,rfl,trivial⟩ ?_
  intro j hj
  refine lU.i64 (by dsimp only;omega) ?_
  exact lX ⟨List.zipWith (fun e v=> {e with name:=v}) l t,body.drop q,2+1⟩ [] [] rfl (by show 4 -(2+1)<4-2;decide) ⟨(by show 2+1<=4;decide),hK1⟩ ⟨⟨rfl,rfl,rfl⟩,⟨rfl,rfl,rfl⟩,trivial⟩ ⟨⟨rfl,rfl⟩,rfl,trivial⟩
 ·refine ni.mk' 3 rfl (by decide) ?_
  refine mG.at rfl ?_
  (refine oJ [] (by kernel_rfl) (mX.up (xu body hbody) GS) ?_ ?_;(focus trivial))
  rintro _ _ _ ⟨t,q,e,hR,rfl,rfl,rfl⟩
  have hstep:=hK.txt (fun e v=> {e with other:=v}) (·.other) (fun _=>rfl) (fun _=>rfl) (fun e v he hv=>⟨he.seq,he.kind,he.time,he.ver,he.arm,he.val,by first|exact he.client|(show v.length<=_;omega),by first|exact he.id|(show v.length<=_;omega),by first|exact he.name|(show v.length<=_;omega),by first|exact he.other|(show v.length<=_;omega)⟩) (fun c hc=>hc.s4) hR
  apply lD<;>intro h
  ·have he:e≠0:=by simpa using h
   exact lW (.mW [el [],iv (0:Nat),bv false]) 0 [] [] [] ⟨[],0,false,Dh.no fun c r h1 h2 h3=>he (hstep.2 c r h1 h2 h3).1,rfl,rfl,rfl⟩ rfl trivial (by trivial)
  have he:e=0:=by simpa using h
  apply lD<;>intro h
  ·have ht:t.length≠n:=by simp at h;omega
   exact lW (.mW [el [],iv (0:Nat),bv false]) 0 [] [] [] ⟨[],0,false,Dh.no fun c r h1 h2 h3=>ht (hstep.2 c r h1 h2 h3).2,rfl,rfl,rfl⟩ rfl trivial (by trivial)
  have ht:t.length=n:=by simp at h;omega
  obtain⟨hK1,hq⟩:=hstep.1 he ht
  have htl:t.length=l.length:=by omega
  clear hstep hR
  refine tJ.mk' q body.length rfl (by rw [ah]) hq (by rw [ah];exact ay _) ?_
  refine mO DU 7 [85] (fun k:Nat=> [(85,iv k)]) (fun k=> [(6, .var 160 ((nN.getD 3 []).map FV.up)),(5, .rows 160 2 nN),(4, .rows 95 10 ((wz (fun e v=> {e with other:=v}) l t k).map uX))]) (fun k=>k<=l.length) (fun k=>l.length-k) [] [] 0 (by kernel_rfl) (fun _=>rfl) rfl (aB _) ⟨(by trivial),⟨rfl,rfl,rfl⟩,⟨rfl,rfl,by rw [tu]⟩,trivial⟩ ⟨rfl,trivial⟩ ?_
  intro k hk
  refine lD (fun hb=> ?_) (fun hb=> ?_)
  ·have hlt:k<l.length:=by simp at hb;omega
   have hlt2:k<t.length:=by omega
   (refine nZ vW [] (by kernel_rfl) ?_;conv=>whnf)
   refine ni.mk' k rfl (by rw [ah,vZ _ _ _ _ htl];exact hlt) ?_
   refine ni.mk' k rfl (sD hlt2) ?_
   refine mG.lS (aj hlt2) ?_
   (refine oV (by kernel_rfl) (lH func149 rfl mixed (by kernel_rfl) ?_);(conv=>whnf))
   refine rP (.ep 4 k 6) ?_ rfl ?_ ?_
   rotate_left
   ·trivial
   ·trivial
   refine mG.lS (yY _ l t k hlt htl) ?_
   refine lU.i64 (by omega) ?_
   refine lX (k+1) [] [] rfl (by show l.length -(k+1)<l.length-k;omega) hlt ⟨(by trivial),⟨rfl,rfl,rfl⟩,⟨rfl,rfl, ?_⟩,trivial⟩ ⟨rfl,trivial⟩
   rw [<-wu _ l t k hlt htl,dP]
   rfl
  have hke:k=l.length:=by simp only [ah,decide_eq_false_iff_not]at hb;omega
  subst hke
  rw [wo _ l t htl]
  refine mO DV 7 [13,103] (fun x:TR=> [(13,bs x.body),(103,iv x.i)]) (fun x=> [(6, .var 160 ((nN.getD 3 []).map FV.up)),(5, .rows 160 2 nN),(4, .rows 95 10 (x.l.map uX))]) (fun x=>x.i<=3∧KR b n (7+x.i) x.l x.body) (fun x=>3-x.i) [] [] ⟨_,body.drop q,0⟩ (by kernel_rfl) (fun _=>rfl) rfl ⟨aB _,hK1⟩ ⟨(by trivial),⟨rfl,rfl,rfl⟩,⟨rfl,rfl,rfl⟩,trivial⟩ ⟨⟨rfl,bT.symm⟩,rfl,trivial⟩ ?_
  clear hK1 hq htl ht he hK hbody hll
  rintro⟨l,body,j⟩ ⟨hj,hK⟩
  change j<=3 at hj
  change KR b n (7+j) l body at hK
  have hbody:=hK.sz
  have hll:=hK.len
  have hcj:j=0∨j=1∨j=2∨j=3:=by omega
  rcases hcj with rfl|rfl|rfl|rfl
  ·refine ni.mk' 0 rfl (by decide) ?_
   refine mG.at rfl ?_
   (refine oJ [] (by kernel_rfl) (mX.up (sV body hbody) GS) ?_ ?_;(focus trivial))
   rintro _ _ _ ⟨t,q,e,hR,rfl,rfl,rfl⟩
   have hstep:=hK.num (fun e v=> {e with ver:=v}) (·.ver) (fun _=>rfl) (fun _=>rfl) (fun e v he hv=>⟨by first|exact he.seq|exact hv,by first|exact he.kind|exact hv,by first|exact he.time|exact hv,by first|exact he.ver|exact hv,by first|exact he.arm|exact hv,by first|exact he.val|exact hv,he.client,he.id,he.name,he.other⟩) (fun c hc e he=>(hc.ok e he).ver) hR
   apply lD<;>intro h
   ·have he:e≠0:=by simpa using h
    exact lW (.mW [el [],iv (0:Nat),bv false]) 0 [] [] [] ⟨[],0,false,Dh.no fun c r h1 h2 h3=>he (hstep.2 c r h1 h2 h3).1,rfl,rfl,rfl⟩ rfl trivial (by trivial)
   have he:e=0:=by simpa using h
   apply lD<;>intro h
   ·have ht:t.length≠n:=by simp at h;omega
    exact lW (.mW [el [],iv (0:Nat),bv false]) 0 [] [] [] ⟨[],0,false,Dh.no fun c r h1 h2 h3=>ht (hstep.2 c r h1 h2 h3).2,rfl,rfl,rfl⟩ rfl trivial (by trivial)
   have ht:t.length=n:=by simp at h;omega
   obtain⟨hK1,hq⟩:=hstep.1 he ht
   have htl:t.length=l.length:=by omega
   clear hstep hR
   refine tJ.mk' q body.length rfl (by rw [ah]) hq (by rw [ah];exact ay _) ?_
   refine mO yA 7 [126] (fun k:Nat=> [(126,iv k)]) (fun k=> [(6, .var 160 ((nN.getD 3 []).map FV.up)),(5, .rows 160 2 nN),(4, .rows 95 10 ((wz (fun e v=> {e with ver:=v}) l t k).map uX))]) (fun k=>k<=l.length) (fun k=>l.length-k) [] [] 0 (by kernel_rfl) (fun _=>rfl) rfl (aB _) ⟨(by trivial),⟨rfl,rfl,rfl⟩,⟨rfl,rfl,by rw [tu]⟩,trivial⟩ ⟨rfl,trivial⟩ ?_
   intro k hk
   refine lD (fun hb=> ?_) (fun hb=> ?_)
   ·have hlt:k<l.length:=by simp at hb;omega
    have hlt2:k<t.length:=by omega
    (refine nZ vW [] (by kernel_rfl) ?_;conv=>whnf)
    refine ni.mk' k rfl (by rw [ah,vZ _ _ _ _ htl];exact hlt) ?_
    refine ni.mk' k rfl (sD hlt2) ?_
    refine mG.lS (aj hlt2) ?_
    (refine oV (by kernel_rfl) (lH func150 rfl mixed (by kernel_rfl) ?_);(conv=>whnf))
    refine rP (.ep 4 k 7) ?_ rfl ?_ ?_
    rotate_left
    ·trivial
    ·trivial
    refine mG.lS (yY _ l t k hlt htl) ?_
    refine lU.i64 (by omega) ?_
    refine lX (k+1) [] [] rfl (by show l.length -(k+1)<l.length-k;omega) hlt ⟨(by trivial),⟨rfl,rfl,rfl⟩,⟨rfl,rfl, ?_⟩,trivial⟩ ⟨rfl,trivial⟩
    rw [<-wu _ l t k hlt htl,dP]
    rfl
   have hke:k=l.length:=by simp only [ah,decide_eq_false_iff_not]at hb;omega
   subst hke
   rw [wo _ l t htl]
   refine lU.i64 (by dsimp only;omega) ?_
   exact lX ⟨_,body.drop q,0+1⟩ [] [] rfl (by show 3 -(0+1)<3-0;decide) ⟨(by show 0+1<=3;decide),hK1⟩ ⟨(by trivial),⟨rfl,rfl,rfl⟩,⟨rfl,rfl,rfl⟩,trivial⟩ ⟨⟨rfl,bT.symm⟩,rfl,trivial⟩
  ·refine ni.mk' 1 rfl (by decide) ?_
   refine mG.at rfl ?_
   (refine oJ [] (by kernel_rfl) (mX.up (sV body hbody) GS) ?_ ?_;(focus trivial))
   rintro _ _ _ ⟨t,q,e,hR,rfl,rfl,rfl⟩
   have hstep:=hK.num (fun e v=> {e with arm:=v}) (·.arm) (fun _=>rfl) (fun _=>rfl) (fun e v he hv=>⟨by first|exact he.seq|exact hv,by first|exact he.kind|exact hv,by first|exact he.time|exact hv,by first|exact he.ver|exact hv,by first|exact he.arm|exact hv,by first|exact he.val|exact hv,he.client,he.id,he.name,he.other⟩) (fun c hc e he=>(hc.ok e he).arm) hR
   apply lD<;>intro h
   ·have he:e≠0:=by simpa using h
    exact lW (.mW [el [],iv (0:Nat),bv false]) 0 [] [] [] ⟨[],0,false,Dh.no fun c r h1 h2 h3=>he (hstep.2 c r h1 h2 h3).1,rfl,rfl,rfl⟩ rfl trivial (by trivial)
   have he:e=0:=by simpa using h
   apply lD<;>intro h
   ·have ht:t.length≠n:=by simp at h;omega
    exact lW (.mW [el [],iv (0:Nat),bv false]) 0 [] [] [] ⟨[],0,false,Dh.no fun c r h1 h2 h3=>ht (hstep.2 c r h1 h2 h3).2,rfl,rfl,rfl⟩ rfl trivial (by trivial)
   have ht:t.length=n:=by simp at h;omega
   obtain⟨hK1,hq⟩:=hstep.1 he ht
   have htl:t.length=l.length:=by omega
   clear hstep hR
   refine tJ.mk' q body.length rfl (by rw [ah]) hq (by rw [ah];exact ay _) ?_
   refine mO yA 7 [126] (fun k:Nat=> [(126,iv k)]) (fun k=> [(6, .var 160 ((nN.getD 3 []).map FV.up)),(5, .rows 160 2 nN),(4, .rows 95 10 ((wz (fun e v=> {e with arm:=v}) l t k).map uX))]) (fun k=>k<=l.length) (fun k=>l.length-k) [] [] 0 (by kernel_rfl) (fun _=>rfl) rfl (aB _) ⟨(by trivial),⟨rfl,rfl,rfl⟩,⟨rfl,rfl,by rw [tu]⟩,trivial⟩ ⟨rfl,trivial⟩ ?_
   intro k hk
   refine lD (fun hb=> ?_) (fun hb=> ?_)
   ·have hlt:k<l.length:=by simp at hb;omega
    have hlt2:k<t.length:=by omega
    (refine nZ vW [] (by kernel_rfl) ?_;conv=>whnf)
    refine ni.mk' k rfl (by rw [ah,vZ _ _ _ _ htl];exact hlt) ?_
    refine ni.mk' k rfl (sD hlt2) ?_
    refine mG.lS (aj hlt2) ?_
    (refine oV (by kernel_rfl) (lH func151 rfl mixed (by kernel_rfl) ?_);(conv=>whnf))
    refine rP (.ep 4 k 8) ?_ rfl ?_ ?_
    rotate_left
    ·trivial
    ·trivial
    refine mG.lS (yY _ l t k hlt htl) ?_
    refine lU.i64 (by omega) ?_
    refine lX (k+1) [] [] rfl (by show l.length -(k+1)<l.length-k;omega) hlt ⟨(by trivial),⟨rfl,rfl,rfl⟩,⟨rfl,rfl, ?_⟩,trivial⟩ ⟨rfl,trivial⟩
    rw [<-wu _ l t k hlt htl,dP]
    rfl
   have hke:k=l.length:=by simp only [ah,decide_eq_false_iff_not]at hb;omega
   subst hke
   rw [wo _ l t htl]
   refine lU.i64 (by dsimp only;omega) ?_
   exact lX ⟨_,body.drop q,1+1⟩ [] [] rfl (by show 3 -(1+1)<3-1;decide) ⟨(by show 1+1<=3;decide),hK1⟩ ⟨(by trivial),⟨rfl,rfl,rfl⟩,⟨rfl,rfl,rfl⟩,trivial⟩ ⟨⟨rfl,bT.symm⟩,rfl,trivial⟩
  ·refine ni.mk' 2 rfl (by decide) ?_
   refine mG.at rfl ?_
   (refine oJ [] (by kernel_rfl) (mX.up (sV body hbody) GS) ?_ ?_;(focus trivial))
   rintro _ _ _ ⟨t,q,e,hR,rfl,rfl,rfl⟩
   have hstep:=hK.num (fun e v=> {e with val:=v}) (·.val) (fun _=>rfl) (fun _=>rfl) (fun e v he hv=>⟨by first|exact he.seq|exact hv,by first|exact he.kind|exact hv,by first|exact he.time|exact hv,by first|exact he.ver|exact hv,by first|exact he.arm|exact hv,by first|exact he.val|exact hv,he.client,he.id,he.name,he.other⟩) (fun c hc e he=>(hc.ok e he).val) hR
   apply lD<;>intro h
   ·have he:e≠0:=by simpa using h
    exact lW (.mW [el [],iv (0:Nat),bv false]) 0 [] [] [] ⟨[],0,false,Dh.no fun c r h1 h2 h3=>he (hstep.2 c r h1 h2 h3).1,rfl,rfl,rfl⟩ rfl trivial (by trivial)
   have he:e=0:=by simpa using h
   apply lD<;>intro h
   ·have ht:t.length≠n:=by simp at h;omega
    exact lW (.mW [el [],iv (0:Nat),bv false]) 0 [] [] [] ⟨[],0,false,Dh.no fun c r h1 h2 h3=>ht (hstep.2 c r h1 h2 h3).2,rfl,rfl,rfl⟩ rfl trivial (by trivial)
   have ht:t.length=n:=by simp at h;omega
   obtain⟨hK1,hq⟩:=hstep.1 he ht
   have htl:t.length=l.length:=by omega
   clear hstep hR
   refine tJ.mk' q body.length rfl (by rw [ah]) hq (by rw [ah];exact ay _) ?_
   refine mO yA 7 [126] (fun k:Nat=> [(126,iv k)]) (fun k=> [(6, .var 160 ((nN.getD 3 []).map FV.up)),(5, .rows 160 2 nN),(4, .rows 95 10 ((wz (fun e v=> {e with val:=v}) l t k).map uX))]) (fun k=>k<=l.length) (fun k=>l.length-k) [] [] 0 (by kernel_rfl) (fun _=>rfl) rfl (aB _) ⟨(by trivial),⟨rfl,rfl,rfl⟩,⟨rfl,rfl,by rw [tu]⟩,trivial⟩ ⟨rfl,trivial⟩ ?_
   intro k hk
   refine lD (fun hb=> ?_) (fun hb=> ?_)
   ·have hlt:k<l.length:=by simp at hb;omega
    have hlt2:k<t.length:=by omega
    (refine nZ vW [] (by kernel_rfl) ?_;conv=>whnf)
    refine ni.mk' k rfl (by rw [ah,vZ _ _ _ _ htl];exact hlt) ?_
    refine ni.mk' k rfl (sD hlt2) ?_
    refine mG.lS (aj hlt2) ?_
    (refine oV (by kernel_rfl) (lH func152 rfl mixed (by kernel_rfl) ?_);(conv=>whnf))
    refine rP (.ep 4 k 9) ?_ rfl ?_ ?_
    rotate_left
    ·trivial
    ·trivial
    refine mG.lS (yY _ l t k hlt htl) ?_
    refine lU.i64 (by omega) ?_
    refine lX (k+1) [] [] rfl (by show l.length -(k+1)<l.length-k;omega) hlt ⟨(by trivial),⟨rfl,rfl,rfl⟩,⟨rfl,rfl, ?_⟩,trivial⟩ ⟨rfl,trivial⟩
    rw [<-wu _ l t k hlt htl,dP]
    rfl
   have hke:k=l.length:=by simp only [ah,decide_eq_false_iff_not]at hb;omega
   subst hke
   rw [wo _ l t htl]
   refine lU.i64 (by dsimp only;omega) ?_
   exact lX ⟨_,body.drop q,2+1⟩ [] [] rfl (by show 3 -(2+1)<3-2;decide) ⟨(by show 2+1<=3;decide),hK1⟩ ⟨(by trivial),⟨rfl,rfl,rfl⟩,⟨rfl,rfl,rfl⟩,trivial⟩ ⟨⟨rfl,bT.symm⟩,rfl,trivial⟩
  ·refine lU.i64 (by dsimp only;omega) ?_
   exact lX ⟨l,body,4⟩ [] [] rfl (by show 4-4<4-3;decide) ⟨(by show 4<=4;decide),hK⟩ ⟨⟨rfl,rfl,rfl⟩,⟨rfl,rfl,rfl⟩,trivial⟩ ⟨⟨rfl,rfl⟩,rfl,trivial⟩
 ·refine lU.i64 (by simp only [ah];omega) ?_
  refine lW (.mW [el l,iv ((hd.length+sz:Nat):Int),bv true]) 0 [] [] [4] ⟨l,hd.length+sz,true,⟨fun _=>⟨hK.len,hK.ok,by omega⟩,fun h=>(by cases h),fun c r h1 h2 h3=> ?_⟩,rfl,rfl,rfl⟩ rfl trivial ⟨⟨rfl,rfl,rfl⟩, ?_,rfl,trivial⟩
  ·obtain⟨f1,f2,_⟩:=OV c r h1 h2 h3
   refine⟨rfl, ?_, ?_⟩
   ·rw [(hK.full c r h1 h2 h3).1]
    show c.map (mg 10)=c
    rw [show mg 10=fun x=>x from rfl,List.map_id']
   ·rw [f2,ak,f1]
  ·refine Je ?_
   rw [ah]
   rfl
end
section
attribute [local irreducible] best ints en bd su dsT
def GT3 (b:By)(Q:List Ev->Prop):Prop:= ∀l0:List Ev,(∀e∈l0,e.ok)->zJ l0=0->b=tab l0->Q l0
theorem Ii {l:List Ev}(h:zJ l=0):l.length<=512∧xI l=0:=by
 unfold zJ at h
 split at h
 ·omega
 ·exact⟨by omega,h⟩
def Gi (b:By)(l:List Ev)(e:Int):Prop:=(∀x∈l,x.ok)∧l.length<=512∧((e=0∧zJ l=0∧tab l=b)∨(e=1∧l = []))∧GT3 b fun l0=>e=0∧l=l0
theorem Gi.no {b:By}(h:GT3 b fun _=>False):Gi b [] 1:=⟨fun _ h=>(by cases h),aB _, .inr ⟨rfl,rfl⟩,fun l0 h1 h2 h3=>(h l0 h1 h2 h3).elim⟩
theorem Gi.two {b:By}{l l':List Ev}{e e':Int}(h:Gi b l e)(h':Gi b l' e'):l=l'∧e=e':=by
 obtain⟨a1,a2,a3,a4⟩:=h
 obtain⟨b1,b2,b3,b4⟩:=h'
 rcases a3 with ⟨rfl,p1,p2⟩|⟨rfl,rfl⟩
 ·have:=b4 l a1 p1 p2.symm
  exact⟨this.2.symm,this.1.symm⟩
 ·rcases b3 with ⟨rfl,p1,p2⟩|⟨rfl,rfl⟩
  ·have:=a4 l' b1 p1 p2.symm
   omega
  ·exact⟨rfl,rfl⟩
structure KT (b:By)(n:Nat)(l:List Ev)(at_:Nat):Prop where
 len:l.length<=n
 ok : ∀e∈l,e.ok
 atl:at_<=b.length
 full:GT3 b fun l0=>n=l0.length∧∃i,i<=nC l0∧l=l0.take (16*i)∧b.drop at_=((List.range (nC l0)).drop i).flatMap fun j=>JJ (ch l0 j)
theorem KT.step {b:By}{n:Nat}{l:List Ev}{at_:Nat}(h:KT b n l at_)(hlt:l.length<n){c:List Ev}{k:Nat}{ok:Bool}(hR:Dh (b.drop at_) (min 16 (n-l.length)) c k ok) :
  (ok=true->KT b n (l++c) (at_+k)∧0<c.length)∧GT3 b fun _=>ok=true:=by
 have key:GT3 b fun l0=>ok=true∧∃i,i+1<=nC l0∧l++c=l0.take (16*(i+1))∧b.drop (at_+k)=((List.range (nC l0)).drop (i+1)).flatMap fun j=>JJ (ch l0 j):=fun l0 h1 h2 h3=>by
  obtain⟨q1,i,q2,q3,q4⟩:=h.full l0 h1 h2 h3
  have hl:l.length=min (16*i) l0.length:=by rw [q3,aK]
  have hi:16*i<l0.length:=by omega
  have hic:i<nC l0:=by unfold nC;omega
  have aaf:=OT h1 (Gg (Ii h2).2) hic
  have hcl:(ch l0 i).length=min 16 (n-l.length):=by unfold ch;rw [aK,aX];omega
  have hd:(List.range (nC l0)).drop i=i::(List.range (nC l0)).drop (i+1):=by
   rw [dM (by rw [List.length_range];exact hic),jm]
  rw [hd,gI]at q4
  obtain⟨f1,f2,f3⟩:=hR.full _ _ aaf hcl q4
  refine⟨f1,i,hic, ?_, ?_⟩
  ·rw [f2,q3,show 16*(i+1)=16*i+16 by omega,List.take_add];rfl
  ·rw [<-jT,q4,f3,eu rfl]
 refine⟨fun hk=> ?_,fun l0 h1 h2 h3=>(key l0 h1 h2 h3).1⟩
 obtain⟨g1,g2,g3⟩:=hR.good hk
 have ha:=h.atl
 rw [aX]at g3
 refine⟨⟨by rw [ak];omega,fun e he=> ?_,by omega,fun l0 h1 h2 h3=>⟨(h.full l0 h1 h2 h3).1, ?_⟩⟩,by omega⟩
 ·rcases cu.1 he with he|he
  ·exact h.ok e he
  ·exact g2 e he
 ·obtain⟨_,i,r1,r2,r3⟩:=key l0 h1 h2 h3
  exact⟨i+1,r1,r2,r3⟩
theorem KT.fin {b:By}{n:Nat}{l:List Ev}{at_:Nat}(h:KT b n l at_)(he:l.length=n):GT3 b fun l0=>l=l0:=fun l0 h1 h2 h3=>by
 obtain⟨q1,i,q2,q3,_⟩:=h.full l0 h1 h2 h3
 have hl:l.length=min (16*i) l0.length:=by rw [q3,aK]
 rw [q3,dZ (by omega)]
structure TS where
 l:List Ev
 a:Nat
def ags (b:By)(a:AV)(m:Nat)(H:lF):Prop:= ∃l e,Gi b l e∧a = .mW [el l,iv e]∧m=0∧H = []
theorem OW (b:By)(hb:b.length<=100000):mX Tryz.prog GS 79 [bs b] 0 [] (ags b):=by
 have hC:=mX.up (Cm b 0 512 (by omega) (by decide)) GS
 have hr:=uG b 0 512 5 (by decide) (by decide)
 have ho:=qW b 0
 have hhead:GT3 b fun l0=>(qL b 0 512 5).2.2=0∧(qL b 0 512 5).1=(l0.length:Int):=fun l0 h1 h2 h3=>by
  have hl:=(Ii h2).1
  have r1:=OC (b:=b) (e:=0) (nD (by omega:l0.length<=9223372036854775807)) rfl h3
  have:=JH (em:=5) (most:=512) r1.1 r1.2.1 (by omega)
  rw [this]
  exact⟨rfl,rfl⟩
 generalize qL b 0 512 5=t at *
 obtain⟨x,k,e⟩:=t
 simp only at hC hr hhead
 obtain⟨n,rfl⟩ : ∃n:Nat,x=(n:Int):=⟨x.toNat,by omega⟩
 have hn:n<=512:=by omega
 refine lH func79 rfl mixed (by kernel_rfl) ?_
 refine nI [] (by kernel_rfl) (mX.up (JB b (by omega)) GS) (by trivial) ?_
 refine sG [0] [] (by kernel_rfl) hC rfl (by trivial) (by trivial) rfl ?_
 refine sG [0] [] (by kernel_rfl) (mX.up (Au (b.drop k) e) GS) rfl (by trivial) (by trivial) rfl ?_
 apply lD<;>intro h
 ·have he:e≠0:=by simpa using h
  exact lW (.mW [el [],iv 1]) 0 [] [] [] ⟨[],1,Gi.no fun l0 h1 h2 h3=>he (hhead l0 h1 h2 h3).1,rfl,rfl,rfl⟩ rfl trivial (by trivial)
 have he:e=0:=by simpa using h
 subst he
 obtain⟨hr1,hr2⟩:=hr.2.2.2 rfl
 obtain⟨_,hbe,hke⟩:=ho.2.2.1 hr1
 rw [<-hr2]at hbe hke
 have hk0:KT b n [] (num (n:Int)).length:=by
  refine⟨aB _,fun _ h=>(by cases h), ?_,fun l0 h1 h2 h3=> ?_⟩
  ·have:=congrArg List.length hbe
   rw [ak]at this
   omega
  ·have hnl:n=l0.length:=by have:=(hhead l0 h1 h2 h3).2;omega
   refine⟨hnl,0,aB _,by simp, ?_⟩
   rw [h3]
   unfold tab Gf
   rw [hnl,eu rfl,gK]
 have n1:=(mP (n:Int)).2
 refine nI [] (by kernel_rfl) (mX.up (qx [] (n:Int) (nD (by omega)) (by simp)) GS) (by trivial) ?_
 refine mO abW 3 [6,7] (fun x:TS=> [(6,iv x.a),(7, .own 2)]) (fun x=> [(2, .rows 95 10 (x.l.map uX))]) (fun x=>KT b n x.l x.a) (fun x=>n-x.l.length) [(2, .nil)] [] ⟨[],(num (n:Int)).length⟩ (by kernel_rfl) (fun _=>rfl) rfl hk0 ⟨rfl,trivial⟩ ⟨congrArg (fun n:Nat=>Value.int .i64 (n:Int)) (by simp),trivial,trivial⟩ ?_
 rintro⟨l,at_⟩ hK
 change KT b n l at_ at hK
 have hat:=hK.atl
 have hle:=hK.len
 apply lD<;>intro h
 ·have hlt:l.length<n:=by simp at h;omega
  refine tJ.mk' at_ b.length rfl (by rw [ah]) hat (by rw [ah];exact ay _) ?_
  refine lU.to (y:=((n-l.length:Nat):Int)) (by rw [ah];dsimp only;rw [IntWalk.i64_in _ (by omega)];omega) ?_
  conv=>whnf
  have hmin:min (16:Int) ((n-l.length:Nat):Int)=((min 16 (n-l.length):Nat):Int):=by omega
  rw [hmin]
  have hcut:(b.map oh).drop at_=(b.drop at_).map oh:=bT.symm
  refine oJ [] (by kernel_rfl) (OU (b.drop at_) (min 16 (n-l.length)) (pX hb) (by omega)) ⟨⟨rfl,hcut⟩,rfl,trivial⟩ ?_
  rintro _ _ _ ⟨c,q,ok,hR,rfl,rfl,rfl⟩
  obtain⟨hs1,hs2⟩:=hK.step hlt hR
  conv=>whnf
  cases ok
  ·exact lW (.mW [el [],iv 1]) 0 [] [] [] ⟨[],1,Gi.no (fun l0 h1 h2 h3=>Bool.false_ne_true (hs2 l0 h1 h2 h3)),rfl,rfl,rfl⟩ rfl trivial (by trivial)
  obtain⟨hK1,hc0⟩:=hs1 rfl
  have hl1:=hK1.len
  rw [ak]at hl1
  have hq:=hK1.atl
  refine lG.mk (Qj (by simp only [ah];omega)) ?_
  refine lU.i64 (by dsimp only;omega) ?_
  exact lX ⟨l++c,at_+q⟩ [(2, .lab 3)] [] rfl (by show n -(l++c).length<n-l.length;rw [ak];omega) hK1 ⟨⟨rfl,rfl,aJ.symm⟩,trivial⟩ ⟨rfl,rfl,trivial⟩
 have hln:l.length=n:=by simp at h;omega
 have hfin:=hK.fin hln
 have hT:=Qm l hK.ok (by omega)
 have hq:=mX.up (equalA (SL l) b) GS
 refine nI [2] (by kernel_rfl) (hT) (by trivial) ?_
 apply lD<;>intro h
 ·have he:zJ l≠0:=by simpa using h
  exact lW (.mW [el [],iv 1]) 0 [] [] [] ⟨[],1,Gi.no fun l0 h1 h2 h3=>he (by rw [hfin l0 h1 h2 h3];exact h2),rfl,rfl,rfl⟩ rfl trivial (by trivial)
 have he:zJ l=0:=by simpa using h
 have etb:SL l=tab l:=by unfold SL;rw [if_pos he]
 rw [etb]at hq ⊢
 (refine mQ [] (by kernel_rfl) (hq) rfl ?_ ?_;(focus trivial))
 apply lD<;>intro h
 ·have hp : ¬tab l=b:=by simpa using h
  exact lW (.mW [el [],iv 1]) 0 [] [] [] ⟨[],1,Gi.no fun l0 h1 h2 h3=>hp (by rw [hfin l0 h1 h2 h3];exact h3.symm),rfl,rfl,rfl⟩ rfl trivial (by trivial)
 ·have hp:tab l=b:=by simpa using h
  exact lW (.mW [el l,iv 0]) 0 [] [] [] ⟨l,0,⟨hK.ok,by omega, .inl ⟨rfl,he,hp⟩,fun l0 h1 h2 h3=>⟨rfl,hfin l0 h1 h2 h3⟩⟩,rfl,rfl,rfl⟩ rfl trivial ⟨⟨rfl,rfl⟩,rfl,trivial⟩
end
structure Dk where
 now:List By
 safe:List By
 fuse:Int
 ops:Int
 dead:Bool
def Dk.zero:Dk:=⟨[],[],0,0,false⟩
def Qo (l:List By):Prop:= ∀s∈l,s.length=64
structure Dk.ok (d:Dk):Prop where
 ev:d.now.length%2=0
 lo:8<=d.now.length
 hi:d.now.length<=256
 sf:d.safe.length=d.now.length
 fs : -1<=d.fuse∧d.fuse<=9223372036854775807
 op:0<=d.ops∧d.ops<=4611686018427387904
 n64:Qo d.now
 f64:Qo d.safe
def Dk.dying (d:Dk):Dk:= {d with dead:=true}
def Dk.tick (d:Dk):Dk:= {d with fuse:=if 0<d.fuse then d.fuse-1 else d.fuse,ops:=min (d.ops+1) 4611686018427387904}
def Dk.put (d:Dk)(n:Nat)(b:By):Dk:= {d.tick with now:=d.now.set n b}
def Dk.flush (d:Dk):Dk:= {d.tick with safe:=d.now}
theorem aah {l:List By}{n:Nat}{b:By}(h:Qo l)(hb:b.length=64):Qo (l.set n b):=fun s hs=>by
 rcases gV hs with h1|h1
 ·exact h s h1
 ·rw [h1];exact hb
theorem Dk.ok.tick {d:Dk}(h:d.ok):d.tick.ok:=by
 obtain⟨h1,h2,h3,h4,h5,h6,h7,h8⟩:=h
 refine⟨h1,h2,h3,h4, ?_, ?_,h7,h8⟩
 ·show -1<=(if 0<d.fuse then d.fuse-1 else d.fuse)∧(if 0<d.fuse then d.fuse-1 else d.fuse)<=9223372036854775807
  split<;>omega
 ·show 0<=min (d.ops+1) 4611686018427387904∧min (d.ops+1) 4611686018427387904<=4611686018427387904
  omega
theorem Dk.ok.dying {d:Dk}(h:d.ok):d.dying.ok:=⟨h.ev,h.lo,h.hi,h.sf,h.fs,h.op,h.n64,h.f64⟩
theorem Dk.ok.put {d:Dk}(h:d.ok){n:Nat}{b:By}(hb:b.length=64):(d.put n b).ok:=by
 obtain⟨h1,h2,h3,h4,h5,h6,h7,h8⟩:=h.tick
 refine⟨?_, ?_, ?_, ?_,h5,h6,aah h.n64 hb,h8⟩
 ·show (d.now.set n b).length%2=0;rw [bC];exact h1
 ·show 8<=(d.now.set n b).length;rw [bC];exact h2
 ·show (d.now.set n b).length<=256;rw [bC];exact h3
 ·show d.safe.length=(d.now.set n b).length;rw [bC];exact h4
theorem Dk.ok.flush {d:Dk}(h:d.ok):d.flush.ok:=by
 obtain⟨h1,h2,h3,h4,h5,h6,h7,h8⟩:=h.tick
 exact⟨h1,h2,h3,rfl,h5,h6,h7,h7⟩
def GY (d:Dk)(at_:Nat)(l:List By):Dk×Int:=
 match l with
 | []=>if d.dead then(d,40)else if d.fuse=0 then(d.dying,40)else(d.flush,0)
 | s::r=>if d.dead then(d,40)else if d.fuse=0 then(d.dying,40)else GY (d.put at_ s) (at_+1) r
theorem adf : ∀ {l:List By} {d:Dk} {at_:Nat},d.ok->Qo l->(GY d at_ l).1.ok∧(GY d at_ l).1.now.length=d.now.length∧((GY d at_ l).2=0∨((GY d at_ l).2=40∧(GY d at_ l).1.dead=true)):=by
 intro l
 induction l with
 | nil=>
  intro d at_ h _
  unfold GY
  cases hd:d.dead with
  | true=>exact⟨h,rfl, .inr ⟨rfl,hd⟩⟩
  | false=>
   rw [if_neg (by decide)]
   split
   ·exact⟨h.dying,rfl, .inr ⟨rfl,rfl⟩⟩
   ·exact⟨h.flush,rfl, .inl rfl⟩
 | cons s r ih=>
  intro d at_ h hl
  unfold GY
  cases hd:d.dead with
  | true=>exact⟨h,rfl, .inr ⟨rfl,hd⟩⟩
  | false=>
   rw [if_neg (by decide)]
   split
   ·exact⟨h.dying,rfl, .inr ⟨rfl,rfl⟩⟩
   ·have:=ih (d:=d.put at_ s) (at_:=at_+1) (h.put (hl s (bJ ..))) fun x hx=>hl x (dh _ hx)
    refine⟨this.1,this.2.1.trans ?_,this.2.2⟩
    show (d.now.set at_ s).length=d.now.length
    rw [bC]
structure So where
 d:Dk
 gen:Int
 half:Int
 next:Int
 frame:Int
 ev:List Ev
def So.zero:So:=⟨Dk.zero,0,0,0,0,[]⟩
def So.Ws (d:Dk):So:= {So.zero with d:=d}
def Di (a:Int)(l:List By):Int:=l.foldl (fun a s=>if yD s then max a (hG s:Int)else a) a
theorem adg {l:List By}{a:Int} : a<=Di a l:=by
 unfold Di
 induction l generalizing a with
 | nil=>exact iQ _
 | cons s r ih=>
  rw [fF]
  refine Int.le_trans ?_ ih
  split
  ·exact Int.le_max_left _ _
  ·exact iQ _
theorem adh {l:List By}{a:Int}(h:a<=4294967295):Di a l<=4294967295:=by
 unfold Di
 induction l generalizing a with
 | nil=>exact h
 | cons s r ih=>
  rw [fF]
  refine ih ?_
  have:=Qi s
  split
  ·omega
  ·exact h
def JK (s:So):So×Int:=
 if zI (Di s.gen s.d.now+1) 0 (tab s.ev)≠0∨s.d.now.length/2<nS (tab s.ev)then(So.zero,19)
 else if(GY s.d ((1-s.half).toNat*(s.d.now.length/2)) (Dv (Di s.gen s.d.now+1) 0 (tab s.ev))).2≠0 then(So.Ws (GY s.d ((1-s.half).toNat*(s.d.now.length/2)) (Dv (Di s.gen s.d.now+1) 0 (tab s.ev))).1,40)
 else(⟨(GY s.d ((1-s.half).toNat*(s.d.now.length/2)) (Dv (Di s.gen s.d.now+1) 0 (tab s.ev))).1,Di s.gen s.d.now+1,1-s.half,(nS (tab s.ev):Nat),1,s.ev⟩,0)
noncomputable def sJ (l:List By):Int×Int×Nat×By×Bool:=
 match l with
 | []=>(0,0,0,[],false)
 | s::_=>if hN s<1∨l.length<hN s then(0,0,0,[],false)else if(Ap (l.take (hN s))).2.2.2 then((Ap (l.take (hN s))).1,(Ap (l.take (hN s))).2.1,hN s,(Ap (l.take (hN s))).2.2.1,true)else(0,0,0,[],false)
noncomputable def Xe (g:Int):Nat->List By->Nat->List By
 | 0,_,_=> []
 | m+1,l,k=>if(sJ l).2.2.2.2=true∧(sJ l).1=g∧(sJ l).2.1=(k:Int)then(sJ l).2.2.2.1::Xe g m (l.drop (sJ l).2.2.1) (k+1)else []
noncomputable def GZ (b:By):List Ev×Int:=
 open Classical in if h : ∃l0:List Ev,(∀e∈l0,e.ok)∧zJ l0=0∧b=tab l0 then(Classical.choose h,0)else([],1)
theorem adi {b:By}{l:List Ev}{e:Int}(h:Gi b l e):GZ b=(l,e):=by
 obtain⟨h1,_,h2,h3⟩:=h
 unfold GZ
 rcases h2 with ⟨rfl,h4,h5⟩|⟨rfl,rfl⟩
 ·have hx : ∃l0:List Ev,(∀e∈l0,e.ok)∧zJ l0=0∧b=tab l0:=⟨l,h1,h4,h5.symm⟩
  rw [dif_pos hx]
  obtain⟨q1,q2,q3⟩:=jF hx
  rw [(h3 _ q1 q2 q3).2]
 ·rw [dif_neg]
  rintro⟨l0,q1,q2,q3⟩
  exact absurd (h3 l0 q1 q2 q3).1 (by decide)
theorem adk (b:By):(∀e∈(GZ b).1,e.ok)∧(GZ b).1.length<=512∧((GZ b).2=0->zJ (GZ b).1=0∧b=tab (GZ b).1)∧((GZ b).2=0∨(GZ b).2=1):=by
 unfold GZ
 split
 ·rename_i hx
  obtain⟨q1,q2,q3⟩:=jF hx
  exact⟨q1,(Ii q2).1,fun _=>⟨q2,q3⟩, .inl rfl⟩
 ·exact⟨(fun _ h=>by cases h),aB _,(fun h=>by simp at h), .inr rfl⟩
noncomputable def OX (out:List Ev):List By->List Ev
 | []=>out
 | b::r=>if(GZ b).2≠0∨512<out.length+(GZ b).1.length then out else OX (out++(GZ b).1) r
noncomputable def MR (l:List By):Bool:=(sJ l).2.2.2.2&&decide ((sJ l).2.1=0)
noncomputable def Xf (l:List By):List Ev:=OX [] (Xe (sJ l).1 l.length l 0)
noncomputable def hlf (a b:List By):Int×List Ev:=
 if MR a=true∧(MR b=false∨(sJ b).1<=(sJ a).1)then(0,Xf a)else if MR b=true then(1,Xf b)else(1,[])
noncomputable def JL (d:Dk):So×Int:=
 if d.dead then(So.Ws d,40)
 else JK ⟨d,0,(hlf (d.now.take (d.now.length/2)) (d.now.drop (d.now.length/2))).1,0,0,(hlf (d.now.take (d.now.length/2)) (d.now.drop (d.now.length/2))).2⟩
structure So.ok (s:So):Prop where
 d:s.d.ok
 gen:1<=s.gen∧s.gen<=4294967295
 half:s.half=0∨s.half=1
 next:1<=s.next∧s.next<=(s.d.now.length/2:Nat)
 frame:1<=s.frame∧s.frame<=65536
 ev:(∀e∈s.ev,e.ok)∧zJ s.ev=0
section
attribute [local irreducible] num hsh
theorem aaY {g f:Int}{b:By}(h:g<1∨4294967295<g∨f<0∨65535<f):zI g f b=3∧Dv g f b = []:=by
 have e:zI g f b=3:=by unfold zI;rw [if_pos h]
 exact⟨e,by unfold Dv;rw [if_neg (by rw [e];decide)]⟩
theorem aaZ {g f:Int}{b:By}(h : ¬(g<1∨4294967295<g∨f<0∨65535<f))(h2:255<nS b):zI g f b=4∧Dv g f b = []:=by
 have e:zI g f b=4:=by unfold zI;rw [if_neg h,if_pos h2]
 exact⟨e,by unfold Dv;rw [if_neg (by rw [e];decide)]⟩
theorem Wu {g f:Int}{b:By}(h : ¬(g<1∨4294967295<g∨f<0∨65535<f))(h2 : ¬255<nS b):zI g f b=0∧Dv g f b=secs g.toNat f.toNat b:=by
 have e:zI g f b=0:=by unfold zI;rw [if_neg h,if_neg h2]
 exact⟨e,by unfold Dv;rw [if_pos e]⟩
theorem lU.divN {K:Int->Prop}(v k:Nat)(hv:v<1000000000)(c:K ((v/k:Nat):Int)):lU .i64 ((v:Int).tdiv (k:Int)) K:=by
 have h:=kR v k
 refine lU.to (y:=((v/k:Nat):Int)) ?_ c
 rw [show (v:Int).tdiv (k:Int)=((v/k:Nat):Int)from rfl]
 generalize v/k=q at *
 exact IntWalk.i64_in _ (by omega)
theorem Wv (l:List By)(b:By):(l++ [b]).map uD=l.map uD++ [[.lst 1 (b.map oh)]]:=by rw [aJ];rfl
theorem Qp (b:By)(i:Nat):List.drop (i*48) (List.take ((i+1)*48) ((pad b).map oh))=(prt b i).map oh:=by
 unfold prt
 rw [jw,show (i+1)*48-i*48=48 by omega,fK,bT]
theorem MS (G:Glob)(gen frame:Int)(b:By)(hb:b.length<=3000000):mX Tryz.prog G 10 [iv gen,iv frame,bs b] 0 [] (Is (.mW [ss (Dv gen frame b),iv (zI gen frame b)])):=by
 have hP:=mX.up (qx [] (b.length:Int) (nD (by omega)) (aB _)) G
 rw [bI]at hP
 have hP:mX Tryz.prog G 28 [bs [],iv ((b.map oh).length:Nat)] 0 [] (wJ 5 1 ((num (b.length:Int)).map oh)):=by rw [ah];exact hP
 have hnl:=mP (b.length:Int)
 have hdl:(dat b).length=(num (b.length:Int)).length+b.length:=by unfold dat;rw [ak]
 have hdm:(num (b.length:Int)).map oh++b.map oh=(dat b).map oh:=by unfold dat;rw [aJ]
 refine lH func10 rfl mixed (by kernel_rfl) ?_
 by_cases hc:gen<1∨4294967295<gen∨frame<0∨65535<frame
 ·obtain⟨e1,e2⟩:=aaY (b:=b) hc
  rw [e1,e2]
  conv=>whnf
  repeat' (apply lD<;>intro h<;>(conv=>whnf))
  all_goals first
   | exact mJ [] (by trivial)
   | (exfalso;simp at *;omega)
 apply lD<;>intro h
 ·exfalso;simp at h;omega
 apply lD<;>intro h
 ·exfalso;simp at h;omega
 apply lD<;>intro h
 ·exfalso;simp at h;omega
 apply lD<;>intro h
 ·exfalso;simp at h;omega
 refine nI [] (by kernel_rfl) (hP) (by trivial) ?_
 refine lG.mk (lM (by simp only [ah];omega) (by kernel_rfl)) ?_
 conv=>whnf
 rw [hdm]
 refine lU.i64 (by rw [ah];omega) ?_
 refine lU.to (y:=(((dat b).length+47:Nat):Int)) (by rw [ah,IntWalk.i64_in _ (by omega)];omega) ?_
 refine lG.mk (by decide) ?_
 refine lU.divN _ 48 (by omega) ?_
 conv=>whnf
 have hpl:=D7 b
 have hpos:=Jz b
 have hn1:nS b*48<(dat b).length+48:=by unfold nS;omega
 have hn2:(dat b).length<=nS b*48:=by unfold nS;omega
 have adl:(dat b).map oh++(tK (nS b*48 -(dat b).length)).data.toList.map oh=(pad b).map oh:=by
  unfold pad;rw [aJ];rfl
 rw [show ((dat b).length+47)/48=nS b from rfl]
 apply lD<;>intro h
 ·obtain⟨e1,e2⟩:=aaZ hc (by simp at h;omega:255<nS b)
  rw [e1,e2]
  exact mJ [] (by trivial)
 have hns : ¬255<nS b:=by simp at h;omega
 obtain⟨e1,e2⟩:=Wu hc hns
 rw [e1,e2]
 refine lU.to (y:=((nS b*48:Nat):Int)) (by rw [IntWalk.i64_in _ (by omega)];omega) ?_
 refine lU.to (y:=((nS b*48 -(dat b).length:Nat):Int)) (by rw [ah,IntWalk.i64_in _ (by omega)];omega) ?_
 refine NR.mk' (nS b*48 -(dat b).length) rfl rfl ⟨by omega,by unfold maxLen;omega⟩ ?_
 refine lG.mk ?_ ?_
 ·have:(tK (nS b*48 -(dat b).length)).size=nS b*48 -(dat b).length:=by simp [tK,ByteArray.size]
  rw [this,ah];unfold maxLen;omega
 conv=>whnf
 rw [adl]
 conv=>whnf
 obtain⟨g,hg⟩ : ∃g:Nat,gen=(g:Int):=⟨gen.toNat,by omega⟩
 obtain⟨f,hf⟩ : ∃f:Nat,frame=(f:Int):=⟨frame.toNat,by omega⟩
 subst hg;subst hf
 simp only [dK]
 refine mO ((8,8)::abC) 4 [8,10,47] (fun i:Nat=> [(8,bs (pad b)),(10, .own 3),(47,iv i)]) (fun i=> [(3, .rows 22 1 ((Ak g f b i).map uD))]) (fun i=>i<=nS b) (fun i=>nS b-i) [(3, .nil)] [2] 0 (by kernel_rfl) (fun _=>rfl) rfl (aB _) ⟨rfl,trivial⟩ ⟨⟨rfl,rfl,rfl⟩,trivial,rfl,trivial⟩ ?_
 intro i hi
 apply lD<;>intro h
 rotate_left
 ·have hie:i=nS b:=by simp at h;omega
  subst hie
  refine mJ [3] ?_
  trivial
 have hlt:i<nS b:=by simp at h;omega
 (refine nZ ad7 [3] (by kernel_rfl) ?_;conv=>whnf)
 refine lU.to (y:=((i*48:Nat):Int)) (by rw [IntWalk.i64_in _ (by omega)];omega) ?_
 refine lU.i64 (by omega) ?_
 refine lU.to (y:=(((i+1)*48:Nat):Int)) (by rw [IntWalk.i64_in _ (by omega)];omega) ?_
 refine tJ.mk' (i*48) ((i+1)*48) rfl rfl (by omega) (by rw [ah,hpl];omega) ?_
 conv=>whnf
 have agt:=D8 hlt
 refine nI [] (by kernel_rfl) (Qh G g f i (nS b) (prt b i) (by omega) (by omega) (by omega) (by omega) (by omega)) ⟨(by trivial),⟨rfl,Qp b i⟩,trivial⟩ ?_
 refine lG.mk (lM (by rw [ah,Am];simp only [ln];omega) (by kernel_rfl)) ?_
 refine lU.i64 (by omega) ?_
 exact lX (i+1) [(3, .lab 6)] [] rfl (by show nS b -(i+1)<nS b-i;omega) hlt ⟨⟨rfl,rfl,by rw [Ib,Wv]⟩,trivial⟩ ⟨⟨rfl,rfl⟩,rfl,rfl,trivial⟩
end
end Go.Proofs.YtocckceefcmeaaaGreatDoor.Cl
namespace Go.Proofs.YtocckceefcmeaaaGreatDoor.Vc
open RowKit Vc Dg Cl Go.Proofs.Tryz
attribute [local irreducible] loadVar storeVar Instr.indexAt Instr.index Instr.sliceAt Instr.makeSlice Instr.lookup Instr.mapUpdate Instr.range Instr.next Instr.entry Instr.makeMap Builtin.append_ Builtin.copy_ Builtin.len_ Builtin.min_ Builtin.max_ Builtin.cap_ Builtin.delete_ Builtin.clear_ convert binOp eqGuard Op.unary Calls
def beT (k n j:Nat):List UInt8:=(List.range j).map fun t=>bt (n/2^(8*(k-1-t)))
theorem Wx (k n j:Nat):beT k n (j+1)=beT k n j++ [bt (n/2^(8*(k-1-j)))]:=by
 simp only [beT,iU,aJ,gy,jQ]
theorem Gj {w:World}{B:Nat}{E:TypeId}{sz:Nat}{oa:Option Addr}{n c:Nat}{xs:List Value}(hO:Own w B E sz oa n c xs):oa=none->c=0:=by
 intro e
 rcases hO.2 with ⟨hv,hn⟩|⟨g,cap,cur,hv,_⟩
 ·injection hv with _ _ e3
 ·injection hv with e1 _ _
  rw [e]at e1;cases e1
theorem OY (n k:Nat)(w:World)(hk:k<=8)(hn:n<18446744073709551616) :
  y8 Tryz.prog 70 #[.int .u64 n, .int .i64 k] w fun v w'=> ∃oa c,v = .slice oa k c∧Own w' w.heap.size 5 1 oa k c (nR (be k n))∧Below w.heap.size w w':=by
 refine ou func70 rfl Dg.mixed (by kernel_rfl) ?_
 refine qZ (X:=Nat×Option Addr×Nat) abU (fun x=> [(5, .slice x.2.1 x.1 x.2.2),(6, .int .i64 ((k:Int)-1-x.1))]) (fun x w'=>x.1<=k∧Below w.heap.size w w'∧Own w' w.heap.size 5 1 x.2.1 x.1 x.2.2 (nR (beT k n x.1))) (fun x=>k-x.1) (0,none,0) (by kernel_rfl)
  ?_ ⟨aB _,Below.refl _ _,Own.nil _ _ _ _⟩ ?_
 ·refine⟨rfl,pY ?_,trivial⟩
  rw [IntWalk.i64_in _ (by omega)];simp
 rintro⟨j,oo,cc⟩ w1 r1 ⟨hj,hB,ho⟩
 dsimp only at hj ho
 apply lD<;>intro h
 ·have hlt:j<k:=by have:=of_decide_eq_true h;dsimp only at this;omega
  have e1:IntKind.i64.wrap (8*((k:Int)-1 -(j:Int)))=((8*(k-1-j):Nat):Int):=by rw [IntWalk.i64_in _ (by omega)];omega
  have e2:IntKind.u64.wrap (IntKind.i64.wrap (8*((k:Int)-1 -(j:Int))))=((8*(k-1-j):Nat):Int):=by rw [e1,IntWalk.u64_in _ (by omega)]
  refine lG.mk (by rw [e2];omega) ?_
  refine qc (B:=w.heap.size) (sz:=1) (qU:=1) (m:=1) (n:=j) rfl rfl rfl rfl rfl rfl (ho.alloc _) (Row.alloc1 _ _ _) rfl (fun u hu=>by simp at hu;subst hu;rfl) (fun e=>by cases e) (by omega) (dN hB.size (by simp)) (by unfold maxLen;omega) ?_
  intro o3 c3 w3 ho3 hB3 _
  refine qJ.mk ⟨_, ?_,(j+1,o3,c3),rfl, ?_, ?_⟩
  ·show k -(j+1)<k-j;omega
  ·exact⟨rfl,pY (by rw [IntWalk.i64_in _ (by dsimp only;omega)];dsimp only;omega),trivial⟩
  ·refine⟨hlt,(qV hB (ay _) _).trans hB3, ?_⟩
   dsimp only
   rw [Wx,oQ,zy]
   rw [e2,F8 n (8*(k-1-j)) _ (by have:IntKind.u64.bits=64:=rfl;rw [this];omega)]at ho3
   exact ho3
 ·have hge : ¬j<k:=by have:=of_decide_eq_false h;dsimp only at this;omega
  obtain rfl:j=k:=by omega
  exact rV.mk ⟨oo,cc,rfl,ho,hB⟩
theorem OZ (g f i n:Nat)(oa:Option Addr)(m c:Nat)(d:List UInt8)(w:World)(h1:g<4294967296)(h2:f<65536)(h3:i<256)(h4:n<256)(hm:m=d.length)(hd_:d.length<=1000)(hc:m<=c)(hnil:oa=none->c=0)(hr:Row w oa (nR d)) :
  y8 Tryz.prog 31 #[.int .i64 g, .int .i64 f, .int .i64 i, .int .i64 n, .slice oa m c] w fun v w'=> ∃oW c',v = .slice oW (16+m) c'∧Own w' w.heap.size 5 1 oW (16+m) c' (nR (sec g f i n d))∧Below w.heap.size w w':=by
 refine ou func31 rfl Dg.mixed (by kernel_rfl) ?_
 have lb : ∀l:List UInt8,(nR l).length=l.length:=fun l=>by simp [nR]
 have u1:IntKind.u64.wrap (g:Int)=(g:Int):=IntWalk.u64_in _ (by omega)
 have u2:IntKind.u64.wrap (f:Int)=(f:Int):=IntWalk.u64_in _ (by omega)
 conv=>whnf
 rw [u1]
 refine pF (by kernel_rfl) (OY g 4 w (by decide) (by omega)) ?_
 rintro _ w1 ⟨o1,c1,rfl,hO1,hB1⟩
 conv=>whnf
 rw [u2]
 refine pF (by kernel_rfl) (OY f 2 w1 (by decide) (by omega)) ?_
 rintro _ w2 ⟨o2,c2,rfl,hO2,hB2⟩
 have hB2':=hB1.trans (hB2.mono hB1.size)
 have ae5:=hO1.below hB2
 refine qc (B:=w.heap.size) (sz:=1) (qU:=1) (m:=2) (n:=4) rfl rfl rfl rfl rfl rfl ae5 hO2.row (by rw [lb,sU]) (sK _) (Gj hO2) (by decide) hB2'.size (by decide) ?_
 intro o3 c3 w3 hO3 hB3 _
 have RD:=hB2'.trans hB3
 clear ae5 hO2 hO1 hB1 hB2 hB3 hB2'
 rw [<-oQ]at hO3
 refine qc (B:=w.heap.size) (sz:=1) (qU:=1) (m:=2) (n:=4+2) rfl rfl rfl rfl rfl rfl (hO3.alloc _) (Row.alloc1 _ _ _) rfl (fun u hu=>by simp at hu;rcases hu with rfl|rfl<;>rfl) (fun e=>by cases e) (by decide) (dN RD.size (by simp)) (by decide) ?_
 intro o4 c4 w4 hO4 hB4 _
 have aai:=(qV RD (ay _) _).trans hB4
 clear RD hB4 hO3
 rw [V8 i,V8 n]at hO4
 have hO4:Own w4 w.heap.size 5 1 o4 8 c4 (nR (hd g f i n)):=by
  unfold hd
  rw [oQ]
  exact hO4
 have hl:=yC g f i n
 obtain⟨q1,q2⟩:=aaV g f i n d
 have q3:Ae 101 0 (frame [hd g f i n,d])=(hw g f i n d:Int):=q2
 have ae6:nR (sec g f i n d)=nR (hd g f i n++be 8 (hw g f i n d))++nR d:=by unfold sec;rw [oQ]
 rw [ae6]
 clear ae6 q2
 generalize hw g f i n d=y at *
 generalize hd g f i n=z at *
 have c48:=YL hO4
 refine pF (by kernel_rfl) (UA 101 (some ⟨w4.heap.size,0,none⟩) 2 [.slice o4 8 c4, .slice oa m c] [z,d] _ (show 2<=1099511627776 by decide) (by rw [F9,hl];omega) (Row.alloc1 _ _ _) ?_) ?_
 ·refine⟨rfl,fun k hk=> ?_⟩
  have hk:k<2:=hk
  match k,hk with
  | 0,_=>exact⟨o4,c4,by show some (Value.slice o4 8 c4)=some (Value.slice o4 z.length c4);rw [hl],by show z.length<=c4;omega,Gj hO4,hO4.row.alloc _⟩
  | 1,_=>exact⟨oa,c,by show some (Value.slice oa m c)=some (Value.slice oa d.length c);rw [hm],by show d.length<=c;omega,hnil,(hr.below aai).alloc _⟩
 rintro _ w5 ⟨rfl,hB5⟩
 rw [q3]
 have adn:Below w4.heap.size w4 w5:=(qV (Below.refl _ _) (ay _) _).trans (hB5.mono (by simp))
 have ado:=aai.trans (adn.mono aai.size)
 have hO5:=hO4.below adn
 clear hO4 aai hB5 adn
 refine pF (by kernel_rfl) (OY y 8 w5 (by decide) q1) ?_
 rintro _ w6 ⟨o6,c6,rfl,hO6,hB6⟩
 have adp:=ado.trans (hB6.mono ado.size)
 have hO7:=hO5.below hB6
 refine qc (B:=w.heap.size) (sz:=1) (qU:=1) (m:=8) (n:=8) rfl rfl rfl rfl rfl rfl hO7 hO6.row (by rw [lb,sU]) (sK _) (Gj hO6) (by decide) adp.size (by decide) ?_
 intro o8 c8 w8 hO8 hB8 _
 have aaj:=adp.trans hB8
 rw [<-oQ]at hO8
 clear hO7 hO6 hO5 hB6 hB8 adp ado
 refine qc (B:=w.heap.size) (sz:=1) (qU:=1) (m:=m) (n:=8+8) rfl rfl rfl rfl rfl rfl hO8 (hr.below aaj) (by rw [lb];omega) (sK _) hnil (by omega) aaj.size (by unfold maxLen;omega) ?_
 intro o9 c9 w9 hO9 hB9 _
 have agx:=aaj.trans hB9
 clear hO8 aaj hB9
 exact rV.mk ⟨o9,c9,rfl,hO9,agx⟩
end Go.Proofs.YtocckceefcmeaaaGreatDoor.Vc
namespace Go.Proofs.YtocckceefcmeaaaGreatDoor.Cl
open RowKit Vc Ax Go.Proofs.Tryz
attribute [local irreducible] loadVar storeVar Instr.indexAt Instr.index Instr.sliceAt Instr.makeSlice Instr.lookup Instr.mapUpdate Instr.range Instr.next Instr.entry Instr.makeMap Builtin.append_ Builtin.copy_ Builtin.len_ Builtin.min_ Builtin.max_ Builtin.cap_ Builtin.delete_ Builtin.clear_ convert binOp eqGuard Op.unary Calls
section
attribute [local irreducible] num hsh
theorem Wy (G:Glob)(g f i n:Nat)(d:By)(h1:g<4294967296)(h2:f<65536)(h3:i<256)(h4:n<256)(hd_:d.length<=1000):mX Tryz.prog G 31 [iv g,iv f,iv i,iv n,bs d] 0 [] (wJ 5 1 ((sec g f i n d).map oh)):=by
 refine CZ (E:=5) (c:=fun a:UInt8=> [Value.int .u8 (a.toNat:Int)]) (fun _=>rfl) (fun _=>rfl) (fun _ v hv=>by simp at hv;subst hv;rfl) fun w F σ vs hF r=> ?_
 match vs,r with
 | [x1,x2,x3,x4,x5],⟨r1,r2,r3,r4,r5,_⟩=>
  rw [r1.nV,r2.nV,r3.nV,r4.nV]
  cases r5 with
  | lst hu=>
   obtain⟨oa,c,rfl,hc,hn,hr⟩:=Ce hu hF
   refine(OZ g f i n oa d.length c d w h1 h2 h3 h4 rfl hd_ hc hn hr).mono fun v w' ⟨oW,c',e,hO,hB⟩=> ?_
   refine⟨oW,c', ?_, ?_,hB⟩
   ·rw [e,D6]
   ·rw [FW,D6];exact hO
theorem CB (G:Glob)(gen frame:Int)(b:By)(hb:b.length<=3000000):mX Tryz.prog G 11 [iv gen,iv frame,bs b] 0 [] (Is (.mW [ss (Dv gen frame b),iv (zI gen frame b)])):=by
 have hP:=mX.up (aeI [] (b.length:Int) (nD (by omega)) (aB _)) G
 rw [bI]at hP
 have hP:mX Tryz.prog G 30 [bs [],iv ((b.map oh).length:Nat)] 0 [] (wJ 5 1 ((num (b.length:Int)).map oh)):=by rw [ah];exact hP
 have hnl:=mP (b.length:Int)
 have hdl:(dat b).length=(num (b.length:Int)).length+b.length:=by unfold dat;rw [ak]
 have hdm:(num (b.length:Int)).map oh++b.map oh=(dat b).map oh:=by unfold dat;rw [aJ]
 refine lH func11 rfl mixed (by kernel_rfl) ?_
 by_cases hc:gen<1∨4294967295<gen∨frame<0∨65535<frame
 ·obtain⟨e1,e2⟩:=aaY (b:=b) hc
  rw [e1,e2]
  conv=>whnf
  repeat' (apply lD<;>intro h<;>(conv=>whnf))
  all_goals first
   | exact mJ [] (by trivial)
   | (exfalso;simp at *;omega)
 apply lD<;>intro h
 ·exfalso;simp at h;omega
 apply lD<;>intro h
 ·exfalso;simp at h;omega
 apply lD<;>intro h
 ·exfalso;simp at h;omega
 apply lD<;>intro h
 ·exfalso;simp at h;omega
 refine nI [] (by kernel_rfl) (hP) (by trivial) ?_
 refine lG.mk (lM (by simp only [ah];omega) (by kernel_rfl)) ?_
 conv=>whnf
 rw [hdm]
 refine lU.i64 (by rw [ah];omega) ?_
 refine lU.to (y:=(((dat b).length+47:Nat):Int)) (by rw [ah,IntWalk.i64_in _ (by omega)];omega) ?_
 refine lG.mk (by decide) ?_
 refine lU.divN _ 48 (by omega) ?_
 conv=>whnf
 have hpl:=D7 b
 have hpos:=Jz b
 have hn1:nS b*48<(dat b).length+48:=by unfold nS;omega
 have hn2:(dat b).length<=nS b*48:=by unfold nS;omega
 have adl:(dat b).map oh++(tK (nS b*48 -(dat b).length)).data.toList.map oh=(pad b).map oh:=by
  unfold pad;rw [aJ];rfl
 rw [show ((dat b).length+47)/48=nS b from rfl]
 apply lD<;>intro h
 ·obtain⟨e1,e2⟩:=aaZ hc (by simp at h;omega:255<nS b)
  rw [e1,e2]
  exact mJ [] (by trivial)
 have hns : ¬255<nS b:=by simp at h;omega
 obtain⟨e1,e2⟩:=Wu hc hns
 rw [e1,e2]
 refine lU.to (y:=((nS b*48:Nat):Int)) (by rw [IntWalk.i64_in _ (by omega)];omega) ?_
 refine lU.to (y:=((nS b*48 -(dat b).length:Nat):Int)) (by rw [ah,IntWalk.i64_in _ (by omega)];omega) ?_
 refine NR.mk' (nS b*48 -(dat b).length) rfl rfl ⟨by omega,by unfold maxLen;omega⟩ ?_
 refine lG.mk ?_ ?_
 ·have:(tK (nS b*48 -(dat b).length)).size=nS b*48 -(dat b).length:=by simp [tK,ByteArray.size]
  rw [this,ah];unfold maxLen;omega
 conv=>whnf
 rw [adl]
 conv=>whnf
 obtain⟨g,hg⟩ : ∃g:Nat,gen=(g:Int):=⟨gen.toNat,by omega⟩
 obtain⟨f,hf⟩ : ∃f:Nat,frame=(f:Int):=⟨frame.toNat,by omega⟩
 subst hg;subst hf
 simp only [dK]
 refine mO ((8,8)::abD) 4 [8,10,11] (fun i:Nat=> [(8,bs (pad b)),(10, .own 3),(11,iv i)]) (fun i=> [(3, .rows 22 1 ((Ak g f b i).map uD))]) (fun i=>i<=nS b) (fun i=>nS b-i) [(3, .nil)] [2] 0 (by kernel_rfl) (fun _=>rfl) rfl (aB _) ⟨rfl,trivial⟩ ⟨⟨rfl,rfl,rfl⟩,trivial,rfl,trivial⟩ ?_
 intro i hi
 apply lD<;>intro h
 rotate_left
 ·have hie:i=nS b:=by simp at h;omega
  subst hie
  refine mJ [3] ?_
  trivial
 have hlt:i<nS b:=by simp at h;omega
 refine lU.to (y:=((i*48:Nat):Int)) (by rw [IntWalk.i64_in _ (by omega)];omega) ?_
 refine lU.i64 (by omega) ?_
 refine lU.to (y:=(((i+1)*48:Nat):Int)) (by rw [IntWalk.i64_in _ (by omega)];omega) ?_
 refine tJ.mk' (i*48) ((i+1)*48) rfl rfl (by omega) (by rw [ah,hpl];omega) ?_
 conv=>whnf
 have agt:=D8 hlt
 refine nI [] (by kernel_rfl) (Wy G g f i (nS b) (prt b i) (by omega) (by omega) (by omega) (by omega) (by omega)) ⟨rfl,rfl,rfl,rfl,⟨rfl,Qp b i⟩,trivial⟩ ?_
 refine lG.mk (lM (by rw [ah,Am];simp only [ln];omega) (by kernel_rfl)) ?_
 refine lU.i64 (by omega) ?_
 exact lX (i+1) [(3, .lab 6)] [] rfl (by show nS b -(i+1)<nS b-i;omega) hlt ⟨⟨rfl,rfl,by rw [Ib,Wv]⟩,trivial⟩ ⟨⟨rfl,rfl⟩,rfl,rfl,trivial⟩
end
def Ij (b:By)(j:Nat)(e:Int):oN:= .var 73 [bs b,iv j,iv e]
def agy (x:Int)(b:By)(j:Nat)(e:Int)(a:AV)(n:Nat)(H:lF):Prop:=a=iv x∧n=1∧H = [(0,Ij b j e)]
theorem ae7 (b:By):mX Tryz.prog GC 37 [bs b] 0 [] (fun a n H=>a = .ptr 0 0∧n=1∧H = [(0,Ij b 0 0)]):=by
 refine lH func37 rfl mixed (by kernel_rfl) ?_
 exact lW (.ptr 0 0) 1 _ [(0, .lab 0)] [] ⟨rfl,rfl,rfl⟩ rfl (by trivial) (by trivial)
theorem JM (b:By)(j:Nat)(e f:Int):mX Tryz.prog GC 74 [.ptr 0 0,iv f] 1 [(0,Ij b j e)] (fun a n H=>a = .mW []∧n=1∧H = [(0,Ij b j (if e=0 then f else e))]):=by
 refine lH func74 rfl mixed (by kernel_rfl) ?_
 apply lD<;>intro h
 ·have h0:e=0:=by simpa using h
  exact lW (.mW []) 1 [(0,Ij b j f)] [] [] ⟨rfl,rfl,by rw [if_pos h0]⟩ rfl (by trivial) (by trivial)
 ·have h0:e≠0:=by simpa using h
  exact lW (.mW []) 1 [(0,Ij b j e)] [] [] ⟨rfl,rfl,by rw [if_neg h0]⟩ rfl (by trivial) (by trivial)
theorem JO {u:Nat}(h:u<18446744073709551616)(h1:u%2=1):IntKind.i64.wrap (mD .xor .u64 (bif IntKind.u64.signed then -1 else IntKind.u64.max) ((u/2:Nat):Int))=zz u:=by
 have hm:IntKind.u64.max=((18446744073709551615:Nat):Int):=by decide
 have s:IntKind.u64.signed=false:=rfl
 rw [s,cond_false,hm,Aj _ _ (by decide) (by omega),Nat.xor_comm,FH (by omega)]
 have:=Cc ((18446744073709551615-u/2:Nat):Int)
 unfold FK at this
 rw [this]
 unfold zz
 rw [if_pos h1]
 omega
theorem Ec {u:Nat}(h1 : ¬u%2=1):((u/2:Nat):Int)=zz u:=by unfold zz;rw [if_neg h1]
theorem WA (b:By)(j:Nat)(e:Int)(hb:b.length<=3000000)(hj:j<=b.length):mX Tryz.prog GC 38 [.ptr 0 0] 1 [(0,Ij b j e)] (agy (nG (b.drop j) e).1 b (j+(nG (b.drop j) e).2.1) (nG (b.drop j) e).2.2):=by
 have hdl:(b.drop j).length=b.length-j:=aX
 refine lH func38 rfl mixed (by kernel_rfl) ?_
 refine zx abK [3,4] (fun x:NX=> [(3,uv x.u),(4,iv x.i)]) (fun x=>NI (b.drop j) x.i x.u) (fun x=>(b.drop j).length-x.i) ⟨0,0⟩ (by kernel_rfl) (fun _=>rfl) (by kernel_rfl) ⟨rfl,by decide,by decide,aB _⟩ (by trivial) (by trivial) ?_
 rintro⟨i,u⟩ hN
 change NI (b.drop j) i u at hN
 have hi:=hN.2.2.1
 have hu:=hN.2.1
 apply lD<;>intro h
 rotate_left
 ·have h0:e≠0:=by simpa using h
  exact lW (iv 0) 1 [(0,Ij b j e)] [] [] (by rw [P9 h0];exact⟨rfl,rfl,rfl⟩) rfl (by trivial) (by trivial)
 have h0:e=0:=by simpa using h
 subst h0
 (refine nZ aaJ [] (by kernel_rfl) ?_;conv=>whnf)
 refine lU.to (y:=((j+i:Nat):Int)) (by show IntKind.i64.wrap ((j:Int)+(i:Int))=_;rw [<-iH];exact IntWalk.i64_in _ (by omega)) ?_
 refine lD (fun h1=> ?_) (fun h1=> ?_)
 ·have hil:(b.drop j).length<=i:=by simp at h1;omega
  refine sG [0] [] (by kernel_rfl) (JM b j 0 16) rfl (by trivial) (by trivial) rfl ?_
  exact lW (iv 0) 1 [(0,Ij b j 16)] [] [] (by rw [vM (hN.last hil)];exact⟨rfl,rfl,rfl⟩) rfl (by trivial) (by trivial)
 have hil:i<(b.drop j).length:=by simp at h1;omega
 have hc:=hN.cons hil
 have hji:j+i<b.length:=by omega
 have hge:(b.drop j)[i]=b[j+i]:=List.getElem_drop
 rw [hge]at hc
 (refine nZ aaJ [] (by kernel_rfl) ?_;conv=>whnf)
 refine lU.to (y:=((j+i:Nat):Int)) (by show IntKind.i64.wrap ((j:Int)+(i:Int))=_;rw [<-iH];exact IntWalk.i64_in _ (by omega)) ?_
 refine ni.mk' (j+i) rfl (sD hji) ?_
 refine mG.map hji ?_
 conv=>whnf
 clear hge
 generalize b[j+i]=c at *
 have hcl:=c.toNat_lt
 refine lD (fun h2=> ?_) (fun h2=> ?_)
 ·have h9:i=9:=by simp at h2;omega
  refine lD (fun h3=> ?_) (fun h3=> ?_)
  ·have hc1:1<c.toNat:=by simp at h3;omega
   refine sG [0] [] (by kernel_rfl) (JM b j 0 3) rfl (by trivial) (by trivial) rfl ?_
   exact lW (iv 0) 1 [(0,Ij b j 3)] [] [] (by rw [vM (by rw [hc,if_pos ⟨h9,hc1⟩])];exact⟨rfl,rfl,rfl⟩) rfl (by trivial) (by trivial)
  ·have hc1:c.toNat<=1:=by simp at h3;omega
   have JC : ¬(i=9∧1<c.toNat):=by omega
   have VL:i=9->c.toNat%128<=1:=by omega
   have hx:=Jy (x:=c.toNat%128) hi (iJ _ (by decide)) VL
   have hU:u+c.toNat%128*128^i<18446744073709551616:=by
    have h1:=NI.lt (c:=c.toNat) hu
    rcases dJ i 9 with h2|h2
    ·have h3:128^(i+1)<=128^9:=dw (by decide) (by omega)
     have h4:(128:Nat)^9<18446744073709551616:=by decide
     omega
    ·have h3:i=9:=by omega
     have h4:=VL h3
     subst h3
     have h5:(128:Nat)^9=9223372036854775808:=by decide
     have h6:=aU (128^9) h4
     rw [h5]at hu h6 ⊢
     omega
   refine lU.to (Qa c) ?_
   refine lU.i64 (x:=7*(i:Int)) (by omega) ?_
   refine lU.to (y:=7*(i:Int)) (by have:=rY (n:=7*i) (by omega);simpa using this) ?_
   refine lG.mk (by show (0:Int)<=7*(i:Int);omega) ?_
   refine lU.to hx.1 ?_
   conv=>whnf
   rw [PL hu hi hx.2]
   refine lD (fun h4=> ?_) (fun h4=> ?_)
   ·have h128:128<=c.toNat:=by simp at h4;omega
    refine lU.i64 (x:=(i:Int)+1) (by omega) ?_
    exact lX ⟨i+1,u+c.toNat%128*128^i⟩ [] [] rfl (by show (b.drop j).length -(i+1)<(b.drop j).length-i;omega) ⟨by rw [hc,if_neg JC,if_pos h128],NI.lt hu,(show i+1<=9 by omega),hil⟩ (by trivial) ⟨rfl,rfl,trivial⟩
   ·have h128:c.toNat<128:=by simp at h4;omega
    refine lD (fun h5=> ?_) (fun h5=> ?_)
    ·have hc0:c.toNat=0:=by simp at h5;omega
     refine lD (fun h6=> ?_) (fun h6=> ?_)
     ·have hi0:0<i:=by simp at h6;omega
      refine sG [0] [] (by kernel_rfl) (JM b j 0 1) rfl (by trivial) (by trivial) rfl ?_
      exact lW (iv 0) 1 [(0,Ij b j 1)] [] [] (by rw [vM (by rw [hc,if_neg JC,if_neg (by omega),if_pos ⟨hc0,hi0⟩])];exact⟨rfl,rfl,rfl⟩) rfl (by trivial) (by trivial)
     have hi0:i=0:=by simp at h6;omega
     conv=>whnf
     have hok:AX (b.drop j) 0 0 = .ok (zz (u+c.toNat%128*128^i)) (i+1):=by rw [hc,if_neg JC,if_neg (by omega),if_neg (by omega)]
     refine lU.i64 (x:=(i:Int)+1) (by omega) ?_
     refine lU.to (y:=((j+(i+1):Nat):Int)) (by show IntKind.i64.wrap ((j:Int)+((i:Int)+1))=_;rw [IntWalk.i64_in _ (by omega)];omega) ?_
     conv=>whnf
     generalize u+c.toNat%128*128^i=U at *
     rw [Dc hU]
     refine lD (fun h7=> ?_) (fun h7=> ?_)
     ·have ho:U%2=1:=by simp at h7;omega
      refine lG.mk (by decide) ?_
      rw [vK]
      refine lU.to (JO hU ho) ?_
      exact lW (iv (zz U)) 1 [(0,Ij b (j+(i+1)) 0)] [] [] (by rw [qF hok];exact⟨rfl,rfl,rfl⟩) rfl (by trivial) (by trivial)
     ·have ho : ¬U%2=1:=by simp at h7;omega
      refine lG.mk (by decide) ?_
      rw [vK]
      refine lU.to (y:=zz U) (by rw [<-Ec ho];exact IntWalk.i64_in _ (by omega)) ?_
      exact lW (iv (zz U)) 1 [(0,Ij b (j+(i+1)) 0)] [] [] (by rw [qF hok];exact⟨rfl,rfl,rfl⟩) rfl (by trivial) (by trivial)
    ·have hc0:c.toNat≠0:=by simp at h5;omega
     conv=>whnf
     have hok:AX (b.drop j) 0 0 = .ok (zz (u+c.toNat%128*128^i)) (i+1):=by rw [hc,if_neg JC,if_neg (by omega),if_neg (by omega)]
     refine lU.i64 (x:=(i:Int)+1) (by omega) ?_
     refine lU.to (y:=((j+(i+1):Nat):Int)) (by show IntKind.i64.wrap ((j:Int)+((i:Int)+1))=_;rw [IntWalk.i64_in _ (by omega)];omega) ?_
     conv=>whnf
     generalize u+c.toNat%128*128^i=U at *
     rw [Dc hU]
     refine lD (fun h7=> ?_) (fun h7=> ?_)
     ·have ho:U%2=1:=by simp at h7;omega
      refine lG.mk (by decide) ?_
      rw [vK]
      refine lU.to (JO hU ho) ?_
      exact lW (iv (zz U)) 1 [(0,Ij b (j+(i+1)) 0)] [] [] (by rw [qF hok];exact⟨rfl,rfl,rfl⟩) rfl (by trivial) (by trivial)
     ·have ho : ¬U%2=1:=by simp at h7;omega
      refine lG.mk (by decide) ?_
      rw [vK]
      refine lU.to (y:=zz U) (by rw [<-Ec ho];exact IntWalk.i64_in _ (by omega)) ?_
      exact lW (iv (zz U)) 1 [(0,Ij b (j+(i+1)) 0)] [] [] (by rw [qF hok];exact⟨rfl,rfl,rfl⟩) rfl (by trivial) (by trivial)
 ·have h9:i≠9:=by simp at h2;omega
  have JC : ¬(i=9∧1<c.toNat):=by omega
  have VL:i=9->c.toNat%128<=1:=by omega
  ·skip
   have hx:=Jy (x:=c.toNat%128) hi (iJ _ (by decide)) VL
   have hU:u+c.toNat%128*128^i<18446744073709551616:=by
    have h1:=NI.lt (c:=c.toNat) hu
    rcases dJ i 9 with h2|h2
    ·have h3:128^(i+1)<=128^9:=dw (by decide) (by omega)
     have h4:(128:Nat)^9<18446744073709551616:=by decide
     omega
    ·have h3:i=9:=by omega
     have h4:=VL h3
     subst h3
     have h5:(128:Nat)^9=9223372036854775808:=by decide
     have h6:=aU (128^9) h4
     rw [h5]at hu h6 ⊢
     omega
   refine lU.to (Qa c) ?_
   refine lU.i64 (x:=7*(i:Int)) (by omega) ?_
   refine lU.to (y:=7*(i:Int)) (by have:=rY (n:=7*i) (by omega);simpa using this) ?_
   refine lG.mk (by show (0:Int)<=7*(i:Int);omega) ?_
   refine lU.to hx.1 ?_
   conv=>whnf
   rw [PL hu hi hx.2]
   refine lD (fun h4=> ?_) (fun h4=> ?_)
   ·have h128:128<=c.toNat:=by simp at h4;omega
    refine lU.i64 (x:=(i:Int)+1) (by omega) ?_
    exact lX ⟨i+1,u+c.toNat%128*128^i⟩ [] [] rfl (by show (b.drop j).length -(i+1)<(b.drop j).length-i;omega) ⟨by rw [hc,if_neg JC,if_pos h128],NI.lt hu,(show i+1<=9 by omega),hil⟩ (by trivial) ⟨rfl,rfl,trivial⟩
   ·have h128:c.toNat<128:=by simp at h4;omega
    refine lD (fun h5=> ?_) (fun h5=> ?_)
    ·have hc0:c.toNat=0:=by simp at h5;omega
     refine lD (fun h6=> ?_) (fun h6=> ?_)
     ·have hi0:0<i:=by simp at h6;omega
      refine sG [0] [] (by kernel_rfl) (JM b j 0 1) rfl (by trivial) (by trivial) rfl ?_
      exact lW (iv 0) 1 [(0,Ij b j 1)] [] [] (by rw [vM (by rw [hc,if_neg JC,if_neg (by omega),if_pos ⟨hc0,hi0⟩])];exact⟨rfl,rfl,rfl⟩) rfl (by trivial) (by trivial)
     have hi0:i=0:=by simp at h6;omega
     conv=>whnf
     have hok:AX (b.drop j) 0 0 = .ok (zz (u+c.toNat%128*128^i)) (i+1):=by rw [hc,if_neg JC,if_neg (by omega),if_neg (by omega)]
     refine lU.i64 (x:=(i:Int)+1) (by omega) ?_
     refine lU.to (y:=((j+(i+1):Nat):Int)) (by show IntKind.i64.wrap ((j:Int)+((i:Int)+1))=_;rw [IntWalk.i64_in _ (by omega)];omega) ?_
     conv=>whnf
     generalize u+c.toNat%128*128^i=U at *
     rw [Dc hU]
     refine lD (fun h7=> ?_) (fun h7=> ?_)
     ·have ho:U%2=1:=by simp at h7;omega
      refine lG.mk (by decide) ?_
      rw [vK]
      refine lU.to (JO hU ho) ?_
      exact lW (iv (zz U)) 1 [(0,Ij b (j+(i+1)) 0)] [] [] (by rw [qF hok];exact⟨rfl,rfl,rfl⟩) rfl (by trivial) (by trivial)
     ·have ho : ¬U%2=1:=by simp at h7;omega
      refine lG.mk (by decide) ?_
      rw [vK]
      refine lU.to (y:=zz U) (by rw [<-Ec ho];exact IntWalk.i64_in _ (by omega)) ?_
      exact lW (iv (zz U)) 1 [(0,Ij b (j+(i+1)) 0)] [] [] (by rw [qF hok];exact⟨rfl,rfl,rfl⟩) rfl (by trivial) (by trivial)
    ·have hc0:c.toNat≠0:=by simp at h5;omega
     conv=>whnf
     have hok:AX (b.drop j) 0 0 = .ok (zz (u+c.toNat%128*128^i)) (i+1):=by rw [hc,if_neg JC,if_neg (by omega),if_neg (by omega)]
     refine lU.i64 (x:=(i:Int)+1) (by omega) ?_
     refine lU.to (y:=((j+(i+1):Nat):Int)) (by show IntKind.i64.wrap ((j:Int)+((i:Int)+1))=_;rw [IntWalk.i64_in _ (by omega)];omega) ?_
     conv=>whnf
     generalize u+c.toNat%128*128^i=U at *
     rw [Dc hU]
     refine lD (fun h7=> ?_) (fun h7=> ?_)
     ·have ho:U%2=1:=by simp at h7;omega
      refine lG.mk (by decide) ?_
      rw [vK]
      refine lU.to (JO hU ho) ?_
      exact lW (iv (zz U)) 1 [(0,Ij b (j+(i+1)) 0)] [] [] (by rw [qF hok];exact⟨rfl,rfl,rfl⟩) rfl (by trivial) (by trivial)
     ·have ho : ¬U%2=1:=by simp at h7;omega
      refine lG.mk (by decide) ?_
      rw [vK]
      refine lU.to (y:=zz U) (by rw [<-Ec ho];exact IntWalk.i64_in _ (by omega)) ?_
      exact lW (iv (zz U)) 1 [(0,Ij b (j+(i+1)) 0)] [] [] (by rw [qF hok];exact⟨rfl,rfl,rfl⟩) rfl (by trivial) (by trivial)
structure DX where
 j:Nat
 e:Int
 out:Li
theorem Gd.mono {b:By}{Q Q':Li->By->Prop}(h:Gd b Q)(k : ∀l0 r,nY l0->l0.length<=512->Q l0 r->Q' l0 r):Gd b Q':=fun l0 r h1 h2 h3=>k l0 r h1 h2 (h l0 r h1 h2 h3)
section
attribute [local irreducible] num hsh
theorem Ik {α:Type}{a b:List α}{i:Nat}(ha:i<a.length)(hb:i<b.length)(h:a.take i=b.take i)(e:a[i]=b[i]):a.take (i+1)=b.take (i+1):=by
 rw [aH ha,aH hb,h,e]
abbrev fnV (f:Nat):AV:= .v (.func (.func f) #[] #[])
theorem agA (G:Glob)(a b:List By)(hl:a.length<=1000000):mX Tryz.prog G 35 [ss a,ss b,fnV 36] 0 [] (Is (bv (decide (a=b)))):=by
 refine lH func35 rfl mixed (by kernel_rfl) ?_
 apply lD<;>intro h
 ·have hn:a≠b:=fun e=>by subst e;simp at h
  exact mJ [] (congrArg Value.bool (decide_eq_false hn).symm)
 have hlen:a.length=b.length:=by simp at h;omega
 refine zx abJ [17] (fun i:Nat=> [(17,iv i)]) (fun i=>i<=a.length∧a.take i=b.take i) (fun i=>a.length-i) 0 (by kernel_rfl) (fun _=>rfl) (by kernel_rfl) ⟨aB _,rfl⟩ (by trivial) (by trivial) ?_
 rintro i ⟨hi,ht⟩
 apply lD<;>intro h
 rotate_left
 ·have hie:i=a.length:=by simp at h;omega
  subst hie
  have hab:a=b:=by rw [bn,hlen,bn]at ht;exact ht
  exact mJ [] (congrArg Value.bool (decide_eq_true hab).symm)
 have hlt:i<a.length:=by simp at h;omega
 have hlt2:i<b.length:=by omega
 refine ni.mk' i rfl (sD hlt) ?_
 refine mG.lS (aj hlt) ?_
 refine ni.mk' i rfl (sD hlt2) ?_
 refine mG.lS (aj hlt2) ?_
 (refine mQ [] (by kernel_rfl) (MN G a[i] b[i]) rfl ?_ ?_;(focus trivial))
 apply lD<;>intro h
 ·have hne:a[i]≠b[i]:=by simpa using h
  have hn:a≠b:=fun e=>hne (by subst e;rfl)
  exact mJ [] (congrArg Value.bool (decide_eq_false hn).symm)
 have he:a[i]=b[i]:=by simpa using h
 refine lU.i64 (by omega) ?_
 exact lX (i+1) [] [] rfl (by show a.length -(i+1)<a.length-i;omega) ⟨hlt,Ik hlt hlt2 ht he⟩ (by trivial) ⟨rfl,trivial⟩
theorem WB (G:Glob)(a b:List By)(hl:a.length<=1000000):mX Tryz.prog G 12 [ss a,ss b] 0 [] (Is (bv (decide (a=b)))):=by
 refine lH func12 rfl mixed (by kernel_rfl) ?_
 apply lD<;>intro h
 ·have hn:a≠b:=fun e=>by subst e;simp at h
  exact mJ [] (congrArg Value.bool (decide_eq_false hn).symm)
 have hlen:a.length=b.length:=by simp at h;omega
 refine zx abE [5] (fun i:Nat=> [(5,iv i)]) (fun i=>i<=a.length∧a.take i=b.take i) (fun i=>a.length-i) 0 (by kernel_rfl) (fun _=>rfl) (by kernel_rfl) ⟨aB _,rfl⟩ (by trivial) (by trivial) ?_
 rintro i ⟨hi,ht⟩
 apply lD<;>intro h
 rotate_left
 ·have hie:i=a.length:=by simp at h;omega
  subst hie
  have hab:a=b:=by rw [bn,hlen,bn]at ht;exact ht
  exact mJ [] (congrArg Value.bool (decide_eq_true hab).symm)
 have hlt:i<a.length:=by simp at h;omega
 have hlt2:i<b.length:=by omega
 (refine nZ ad8 [] (by kernel_rfl) ?_;conv=>whnf)
 refine ni.mk' i rfl (sD hlt) ?_
 refine mG.lS (aj hlt) ?_
 refine BA.of ?_
 refine ni.mk' i rfl (sD hlt2) ?_
 refine mG.lS (aj hlt2) ?_
 refine BA.of ?_
 apply lD<;>intro h
 ·have hne:a[i]≠b[i]:=by rw [uh]at h;simpa using h
  have hn:a≠b:=fun e=>hne (by subst e;rfl)
  exact mJ [] (congrArg Value.bool (decide_eq_false hn).symm)
 have he:a[i]=b[i]:=by rw [uh]at h;simpa using h
 refine lU.i64 (by omega) ?_
 exact lX (i+1) [] [] rfl (by show a.length -(i+1)<a.length-i;omega) ⟨hlt,Ik hlt hlt2 ht he⟩ (by trivial) ⟨rfl,trivial⟩
theorem ae8 {u c:Nat}(hu:u<72057594037927936)(hc:c<256):mD .or .u64 ((u*256:Nat):Int) (c:Int)=((u*256+c:Nat):Int):=by
 rw [Jv _ _ (by omega) (by omega),show u*256 ||| c=u*256+c from or_hi u 8 c (by omega)]
theorem MV (G:Glob)(b:By)(hb:b.length<=7):mX Tryz.prog G 39 [bs b] 0 [] (Is (uv (JZ b))):=by
 refine lH func39 rfl mixed (by kernel_rfl) ?_
 refine zx abL [3,4] (fun i:Nat=> [(3,uv (JZ (b.take i))),(4,iv i)]) (fun i=>i<=b.length) (fun i=>b.length-i) 0 (by kernel_rfl) (fun _=>rfl) (by kernel_rfl) (aB _) (by trivial) (by trivial) ?_
 intro i hi
 apply lD<;>intro h
 rotate_left
 ·have hie:i=b.length:=by simp at h;omega
  subst hie
  rw [bn]
  exact mJ [] rfl
 have hlt:i<b.length:=by simp at h;omega
 have hu:JZ (b.take i)<72057594037927936:=by
  have h1:=OE (b.take i)
  rw [aK,dG hi]at h1
  have h2:256^i<=256^6:=dw (by decide) (by omega)
  have h3:(256:Nat)^6<72057594037927936:=by decide
  omega
 have hs:JZ (b.take (i+1))=JZ (b.take i)*256+b[i].toNat:=by rw [aH hlt,FP]
 generalize JZ (b.take i)=u at *
 have hc:=b[i].toNat_lt
 refine lG.mk (by decide) ?_
 refine lU.to (y:=((u*256:Nat):Int)) ?_ ?_
 ·have:(2:Int)^min (Int.toNat 8) IntKind.u64.bits=256:=rfl
  rw [this,IntWalk.u64_in _ (by omega)];omega
 refine ni.mk' i rfl (sD hlt) ?_
 refine mG.map hlt ?_
 refine lU.to (y:=((b[i].toNat:Nat):Int)) (IntWalk.u64_in _ (by omega)) ?_
 refine lU.i64 (by omega) ?_
 exact lX (i+1) [] [] rfl (by show b.length -(i+1)<b.length-i;omega) hlt (by trivial) ⟨congrArg (Value.int .u64) (by rw [ae8 hu (by omega),hs]),rfl,trivial⟩
theorem adq (b:By)(n:Nat)(hn:n<=3000000):mX Tryz.prog GC 72 [.ptr 0 0,iv n] 1 [(0,tq b 0)] (fun a m H=>a=bs (if n<=b.length then b.take n else [])∧m=1∧H = [(0,tq (if n<=b.length then b.drop n else b) (if n<=b.length then 0 else 16))]):=by
 refine lH func72 rfl mixed (by kernel_rfl) ?_
 apply lD<;>intro h
 ·have hl : ¬n<=b.length:=by simp at h;omega
  simp only [hl,if_false]
  exact lW (bs []) 1 [(0,tq b 16)] [] [] ⟨rfl,rfl,rfl⟩ rfl (by trivial) (by trivial)
 have hl:n<=b.length:=by simp at h;omega
 simp only [hl,if_true]
 refine lG.mk ⟨iQ _,by rw [ah];omega⟩ ?_
 refine tJ.mk' 0 n rfl rfl (aB _) (by rw [ah];exact hl) ?_
 refine tJ.mk' n b.length rfl (by rw [ah]) hl (by rw [ah];exact ay _) ?_
 exact lW (bs (b.take n)) 1 [(0,tq (b.drop n) 0)] [] [] ⟨rfl,rfl,rfl⟩ rfl ⟨⟨rfl,⟨rfl,bT.symm⟩,rfl,trivial⟩,trivial⟩ ⟨rfl,fK.symm⟩
def TxL (b:By)(a:AV)(n:Nat)(H:lF):Prop:= ∃t b' e',a=tv t∧t.length<=b.length∧(∀l r,I64 (l.length:Int)->b=dat l++r->t=l)∧n=1∧H = [(0,tq b' e')]
theorem adr (b:By)(hb:b.length<=3000000):mX Tryz.prog GC 34 [.ptr 0 0,iv (b.length:Nat)] 1 [(0,tq b 0)] (TxL b):=by
 have hL:=JD b 0 (b.length:Nat) 4 hb (by decide) (by omega)
 have hr:=uG b 0 (b.length:Nat) 4 (by omega) (by decide)
 have hg : ∀l r,I64 (l.length:Int)->b=dat l++r->qL b 0 (b.length:Nat) 4=((l.length:Int),(num (l.length:Int)).length,0):=fun l r hl e=>by
  have h1:=qH hl (l++r)
  rw [<-aO]at h1
  have e2:b=num (l.length:Int)++l++r:=e
  rw [<-e2]at h1
  have hle:l.length<=b.length:=by rw [e2];simp;omega
  have q1 : ¬((l.length:Int)<0):=by omega
  have q2 : ¬(((b.length:Nat):Int)<(l.length:Int)):=by omega
  rw [uF,h1]
  simp only [if_true,q1,q2,if_false]
 have hz:(qL b 0 (b.length:Nat) 4).2.2≠0->(qL b 0 (b.length:Nat) 4).1=0:=fun h=>by rw [uF]at h ⊢;simp only at h ⊢;rw [if_neg h]
 generalize qL b 0 (b.length:Nat) 4=c at *
 obtain⟨x,k,e'⟩:=c
 simp only at hL hr hz
 obtain⟨n,rfl⟩ : ∃n:Nat,x=(n:Int):=⟨x.toNat,by omega⟩
 have hn:n<=b.length:=by omega
 by_cases he:e'=0
 ·subst he
  have hT:=adq (b.drop k) n (by omega)
  by_cases h:n<=(b.drop k).length
  ·simp only [h,if_true]at hT
   refine lH func34 rfl mixed (by kernel_rfl) ?_
   refine sG [0] [] (by kernel_rfl) hL rfl (by trivial) (by trivial) rfl ?_
   refine sG [0] [] (by kernel_rfl) hT rfl (by trivial) (by trivial) rfl ?_
   refine BA.of ?_
   refine lW (tv ((b.drop k).take n)) 1 [(0,tq ((b.drop k).drop n) 0)] [] [] ⟨_,_,_,rfl, ?_, ?_,rfl,rfl⟩ rfl (by trivial) (by trivial)
   ·rw [aK];omega
   ·intro l r hl e
    have:=hg l r hl e
    injection this with q1 q2
    injection q2 with q2 q3
    have q1:n=l.length:=by omega
    have e2:b=num (l.length:Int)++(l++r):=by rw [<-aO];exact e
    rw [e2,q2,eu rfl,q1,eG rfl]
  ·simp only [h,if_false]at hT
   refine lH func34 rfl mixed (by kernel_rfl) ?_
   refine sG [0] [] (by kernel_rfl) hL rfl (by trivial) (by trivial) rfl ?_
   refine sG [0] [] (by kernel_rfl) hT rfl (by trivial) (by trivial) rfl ?_
   refine BA.of (s:= []) ?_
   refine lW (tv []) 1 [(0,tq (b.drop k) 16)] [] [] ⟨_,_,_,rfl,aB _, ?_,rfl,rfl⟩ rfl (by trivial) (by trivial)
   intro l r hl e
   exfalso
   have:=hg l r hl e
   injection this with q1 q2
   injection q2 with q2 q3
   have q1:n=l.length:=by omega
   have e2:b=num (l.length:Int)++(l++r):=by rw [<-aO];exact e
   rw [e2,q2,eu rfl,q1]at h
   simp at h
 ·have h0:=hz he
  have hn0:n=0:=by omega
  subst hn0
  refine lH func34 rfl mixed (by kernel_rfl) ?_
  refine sG [0] [] (by kernel_rfl) hL rfl (by trivial) (by trivial) rfl ?_
  refine sG [0] [] (by kernel_rfl) (V7 (b.drop k) e' he) rfl (by trivial) (by trivial) rfl ?_
  refine BA.of (s:= []) ?_
  refine lW (tv []) 1 [(0,tq (b.drop k) e')] [] [] ⟨_,_,_,rfl,aB _, ?_,rfl,rfl⟩ rfl (by trivial) (by trivial)
  intro l r hl e
  exfalso
  have:=hg l r hl e
  injection this with q1 q2
  injection q2 with q2 q3
  exact he q3
end
section
attribute [local irreducible] num hsh Ap yD
def dtA (l:List By)(i:Nat):By:=(l.take i).flatMap (·.drop 16)
theorem Gl {l:List By}{i:Nat}(h:i<l.length):dtA l (i+1)=dtA l i++l[i].drop 16:=by
 unfold dtA;rw [aH h,iL,kN]
theorem Qq {l:List By} : ∀ {i:Nat},i<=l.length->(∀s∈l.take i,s.length=64)->(dtA l i).length=48*i:=by
 intro i
 induction i with
 | zero=>intro _ _;rfl
 | succ i ih=>
  intro h hs
  have hi:i<l.length:=by omega
  rw [aH hi]at hs
  rw [Gl hi,ak,ih (by omega) fun s h=>hs s (List.mem_append_left _ h),aX,hs l[i] (List.mem_append_right _ (bG.2 rfl))]
  omega
theorem Qr (l:List By):dtA l l.length=l.flatMap (·.drop 16):=by unfold dtA;rw [bn]
noncomputable def MW (l:List By):AV:= .mW [iv (Ap l).1,iv (Ap l).2.1,bs (Ap l).2.2.1,bv (Ap l).2.2.2]
theorem rD {l:List By}(h : ∀g f b, ¬Ci l g f b):MW l = .mW [iv 0,iv 0,bs [],bv false]:=by unfold MW;rw [Vo h]
theorem Qs {l:List By}{g f:Nat}{b:By}(h:Ci l g f b):MW l = .mW [iv g,iv f,bs b,bv true]:=by unfold MW;rw [Vm h]
theorem Ci.aa1 {l:List By}{g f:Nat}{b:By}(h:Ci l g f b){s:By}(hs:s∈l):s.length=64:=by
 rw [h.2]at hs;exact L8 hs
theorem Ci.ads {l:List By}{g f:Nat}{b:By}(h:Ci l g f b):b.length<=12240:=by
 have h3:=h.len.2.2
 unfold nS dat at h3
 rw [ak]at h3
 omega
theorem MX {l:List By}{g f:Nat}{b:By}(hr : ∀g' f' b',Ci l g' f' b'->g'=g∧f'=f)(ht : ∀c r,I64 (c.length:Int)->l.flatMap (·.drop 16)=dat c++r->b=c) :
  (zI g f b=0∧secs g f b=l->Ci l g f b)∧(¬(zI g f b=0∧secs g f b=l)->∀g' f' b', ¬Ci l g' f' b'):=by
 refine⟨fun⟨h1,h2⟩=>⟨h1,h2.symm⟩,fun hn g' f' b' h=>hn ?_⟩
 obtain⟨rfl,rfl⟩:=hr _ _ _ h
 have hl:=h.ads
 have e:b=b':=ht b' (List.replicate (nS b'*48 -(dat b').length) 0) (nD (by omega)) (by rw [h.2,yE];rfl)
 subst e
 exact⟨h.1,h.2.symm⟩
theorem zF (G:Glob)(l:List By)(hl:l.length<=1000):mX Tryz.prog G 13 [ss l] 0 [] (Is (MW l)):=by
 refine lH func13 rfl mixed (by kernel_rfl) ?_
 apply lD<;>intro h
 ·have h0:l.length=0:=by simp at h;exact congrArg List.length h
  rw [rD fun g f b hx=>by have:=hx.len;omega]
  exact mJ [] (by trivial)
 have h0:0<l.length:=by simp at h;exact dV.2 h
 refine ni.mk' 0 rfl (sD h0) ?_
 refine mG.lS (aj h0) ?_
 refine oJ [] (by kernel_rfl) (OO G l[0]) (by trivial) ?_
 rintro _ _ _ ⟨rfl,rfl,g,f,ix,m,rfl,hrd⟩
 apply lD<;>intro h
 ·have hno:yD l[0]=false:=by simpa using h
  rw [rD fun g f b hx=>by have:=(hx.at h0).2.1;rw [hno]at this;cases this]
  exact mJ [] (by trivial)
 have hok:yD l[0]=true:=by simpa using h
 obtain⟨rfl,rfl,rfl,rfl⟩:=hrd hok
 refine mO abG 2 [7,26] (fun i:Nat=> [(7, .own 1),(26,iv i)]) (fun i=> [(1, .rows 5 1 ((dtA l i).map oh)),(0, .var 59 [iv (hG l[0]),iv (hF l[0]),iv (hI l[0]),iv (hN l[0])])]) (fun i=>i<=l.length∧∀s∈l.take i,s.length=64) (fun i=>l.length-i) [(1, .nil)] [] 0 (by kernel_rfl) (fun _=>rfl) rfl ⟨aB _,fun s hs=>by simp at hs⟩ (by trivial) (by trivial) ?_
 rintro i ⟨hi,h64⟩
 have hdl:=Qq hi h64
 apply lD<;>intro h
 ·have hlt:i<l.length:=by simp at h;omega
  refine ni.mk' i rfl (sD hlt) ?_
  refine mG.lS (aj hlt) ?_
  apply lD<;>intro h
  ·have hne:l[i].length≠64:=by simp at h;omega
   rw [rD fun g f b hx=>hne (hx.aa1 (bD hlt))]
   exact mJ [] (by trivial)
  have h6:l[i].length=64:=by simp at h;omega
  refine tJ.mk' 16 l[i].length rfl (by rw [ah]) (by omega) (by rw [ah];exact ay _) ?_
  refine lG.mk (lM (by simp only [cut,ah,aX];omega) (by kernel_rfl)) ?_
  refine lU.i64 (by omega) ?_
  refine lX (i+1) [(1, .lab 2)] [] rfl (by show l.length -(i+1)<l.length-i;omega) ⟨hlt,fun s hs=> ?_⟩ ⟨⟨rfl,rfl, ?_⟩,(by trivial),trivial⟩ ⟨rfl,rfl,trivial⟩
  ·rw [aH hlt]at hs
   rcases cu.1 hs with h1|h1
   ·exact h64 s h1
   ·rw [bG]at h1;rw [h1];exact h6
  ·rw [Gl hlt,aJ,bT];rfl
 have hie:i=l.length:=by simp at h;omega
 subst hie
 rw [Qr]at hdl ⊢
 refine nI [1] (by kernel_rfl) (mX.up (JB (l.flatMap (·.drop 16)) (by omega)) G) (by trivial) ?_
 conv=>whnf
 have hT:mX Tryz.prog G 34 [.ptr 0 0,iv (((l.flatMap (·.drop 16)).map oh).length:Nat)] 1 [(0,tq (l.flatMap (·.drop 16)) 0)] (TxL (l.flatMap (·.drop 16))):=by
  rw [ah];exact mX.up (adr (l.flatMap (·.drop 16)) (by omega)) G
 refine UG [2] [] (by kernel_rfl) hT rfl (by trivial) (by trivial) ?_
 rintro _ _ _ ⟨t,b',e',rfl,htl,htd,rfl,rfl⟩
 refine⟨rfl, ?_⟩
 conv=>whnf
 have hgl:=Qi l[0]
 have hfr : ∀g' f' c,Ci l g' f' c->g'=hG l[0]∧f'=hF l[0]:=fun g' f' c hx=>by
  have:=hx.at h0
  exact⟨this.2.2.1.symm,this.2.2.2.1.symm⟩
 have hB:=MX (b:=t) hfr htd
 have hS:=MS G (hG l[0]:Nat) (hF l[0]:Nat) t (by omega)
 refine nI [] (by kernel_rfl) hS (by trivial) ?_
 apply lD<;>intro h
 ·have he:zI (hG l[0]:Nat) (hF l[0]:Nat) t≠0:=by simpa using h
  rw [rD (hB.2 fun hx=>he hx.1)]
  exact mJ [] (by trivial)
 have he:zI (hG l[0]:Nat) (hF l[0]:Nat) t=0:=by simpa using h
 have hLl:Dv (hG l[0]:Nat) (hF l[0]:Nat) t=secs (hG l[0]) (hF l[0]) t:=by unfold Dv;rw [if_pos he];rfl
 rw [hLl]
 (refine mQ [] (by kernel_rfl) (agA G (secs (hG l[0]) (hF l[0]) t) l (by rw [wL];have:=(PZ he).2.2.2.2;omega)) rfl ?_ ?_;(focus trivial))
 apply lD<;>intro h
 ·have hne : ¬secs (hG l[0]) (hF l[0]) t=l:=by simpa using h
  rw [rD (hB.2 fun hx=>hne hx.2)]
  exact mJ [] (by trivial)
 have heq:secs (hG l[0]) (hF l[0]) t=l:=by simpa using h
 rw [Qs (hB.1 ⟨he,heq⟩)]
 (refine nZ ad9 [] (by kernel_rfl) ?_;conv=>whnf)
 exact mJ [] (by trivial)
end
abbrev nxZ:Int×Int×Nat×By×Bool:=(0,0,0,[],false)
theorem Ed {l:List By}(h0:0<l.length):sJ l=if hN l[0]<1∨l.length<hN l[0]then nxZ else if(Ap (l.take (hN l[0]))).2.2.2 then((Ap (l.take (hN l[0]))).1,(Ap (l.take (hN l[0]))).2.1,hN l[0],(Ap (l.take (hN l[0]))).2.2.1,true)else nxZ:=by
 cases l with
 | nil=>cases h0
 | cons s r=>rfl
theorem JQ:sJ []=nxZ:=rfl
theorem Qu {l:List By}(h0:0<l.length)(h:yD l[0]=false):sJ l=nxZ:=by
 rw [Ed h0]
 split
 ·rfl
 ·rename_i hn
  rcases Cj (l.take (hN l[0]))with ⟨g,f,b,hx,e⟩|⟨_,e⟩
  ·have hp:0<(l.take (hN l[0])).length:=by rw [aK];omega
   have h1:=(hx.at hp).2.1
   rw [iZ]at h1
   rw [h]at h1;cases h1
  ·rw [e];rfl
theorem WC {l:List By}(h0:0<l.length)(h:l.length<hN l[0]):sJ l=nxZ:=by
 rw [Ed h0,if_pos (.inr h)]
theorem aal {s:By}(h:yD s=true):0<hN s∧s.length=64:=by
 unfold yD at h
 simp only [au,decide_eq_true_eq]at h
 omega
theorem aam {l:List By}(h0:0<l.length)(h:yD l[0]=true)(hl:hN l[0]<=l.length):sJ l=if(Ap (l.take (hN l[0]))).2.2.2 then((Ap (l.take (hN l[0]))).1,(Ap (l.take (hN l[0]))).2.1,hN l[0],(Ap (l.take (hN l[0]))).2.2.1,true)else nxZ:=by
 have:=(aal h).1
 rw [Ed h0,if_neg (by omega)]
theorem Gm {l:List By}(h:(sJ l).2.2.2.2=true) : ∃g f b,Ci (l.take (sJ l).2.2.1) g f b∧sJ l=(((g:Nat):Int),((f:Nat):Int),nS b,b,true)∧nS b<=l.length∧0<nS b:=by
 have h0:0<l.length:=by
  cases l with
  | nil=>cases h
  | cons s r=>simp
 rw [Ed h0]at h ⊢
 split at h
 ·cases h
 ·rename_i hn
  rw [if_neg hn]
  rcases Cj (l.take (hN l[0]))with ⟨g,f,b,hx,e⟩|⟨_,e⟩
  ·rw [e]at h ⊢
   have hl:=hx.len
   rw [aK]at hl
   have e2:hN l[0]=nS b:=by omega
   simp only [if_true]
   exact⟨g,f,b,hx,by rw [e2],by omega,hl.2.1⟩
  ·rw [e]at h;cases h
theorem WE (g:Int) : ∀(m m':Nat) (l:List By) (k:Nat),l.length<=m->l.length<=m'->Xe g m l k=Xe g m' l k:=by
 intro m
 induction m with
 | zero=>
  intro m' l k h1 h2
  have:l = []:=aF (by omega)
  subst this
  cases m' with
  | zero=>rfl
  | succ m'=>simp [Xe,JQ]
 | succ m ih=>
  intro m' l k h1 h2
  cases m' with
  | zero=>
   have:l = []:=aF (by omega)
   subst this
   simp [Xe,JQ]
  | succ m'=>
   unfold Xe
   split
   ·rename_i hc
    obtain⟨g',f,b,_,e,h3,h4⟩:=Gm hc.1
    rw [e]
    simp only
    rw [ih m' _ _ (by rw [aX];omega) (by rw [aX];omega)]
   ·rfl
noncomputable def lg (g:Int)(l:List By)(k:Nat):List By:=Xe g l.length l k
theorem Qv {g:Int}{l:List By}{k:Nat}(h : ¬((sJ l).2.2.2.2=true∧(sJ l).1=g∧(sJ l).2.1=(k:Int))):lg g l k = []:=by
 unfold lg
 cases hl:l.length with
 | zero=>rfl
 | succ m=>unfold Xe;rw [if_neg h]
theorem WG {g:Int}{l:List By}{k:Nat}(h:(sJ l).2.2.2.2=true∧(sJ l).1=g∧(sJ l).2.1=(k:Int)):lg g l k=(sJ l).2.2.2.1::lg g (l.drop (sJ l).2.2.1) (k+1):=by
 obtain⟨g',f,b,_,e,h3,h4⟩:=Gm h.1
 unfold lg
 cases hl:l.length with
 | zero=>omega
 | succ m=>
  conv=>lhs;unfold Xe
  rw [if_pos h]
  congr 1
  exact WE g _ _ _ _ (by rw [aX,e];simp only;omega) (ay _)
theorem adt {g:Int} : ∀ {m:Nat} {l:List By} {k:Nat},l.length<=m->(lg g l k).length<=l.length∧∀b∈lg g l k,b.length<=12240:=by
 intro m
 induction m with
 | zero=>
  intro l k h
  have:l = []:=aF (by omega)
  subst this
  exact⟨ay _,fun b hb=>by cases hb⟩
 | succ m ih=>
  intro l k h
  by_cases hc:(sJ l).2.2.2.2=true∧(sJ l).1=g∧(sJ l).2.1=(k:Int)
  ·rw [WG hc]
   obtain⟨g',f,b,hx,e,h3,h4⟩:=Gm hc.1
   have hi:=ih (l:=l.drop (sJ l).2.2.1) (k:=k+1) (by rw [aX,e];simp only;omega)
   have hdl:(l.drop (sJ l).2.2.1).length+1<=l.length:=by rw [aX,e];simp only;omega
   refine⟨by rw [bg];omega,fun c hcm=> ?_⟩
   rcases bF.1 hcm with rfl|hcm
   ·rw [e];exact hx.ads
   ·exact hi.2 c hcm
  ·rw [Qv hc]
   exact⟨aB _,fun b hb=>by cases hb⟩
theorem Qw (l:List By):MR l=((sJ l).2.2.2.2&&decide ((sJ l).2.1=0)):=rfl
noncomputable def JR (l:List By):Int:=if MR l then(sJ l).1 else 0
noncomputable def Dx (l:List By):List By:=if MR l then lg (sJ l).1 l 0 else []
abbrev dkC (d:Dk):List AV:= [ss d.now,ss d.safe,iv d.fuse,iv d.ops,bv d.dead]
abbrev yO (d:Dk):AV:= .agg (dkC d)
def adu:List FV:= [.v (.slice none 0 0)]
theorem AB (G:Glob)(b:By)(h0:b≠ [])(hl:b.length<=1000000):mX Tryz.prog G 76 [bs b] 0 [] (wJ 5 1 (b.map oh)):=by
 have h0:0<b.length:=dV.2 h0
 refine lH func76 rfl mixed (by kernel_rfl) ?_
 refine⟨fun b hb=> ?_⟩
 rw [hb (sD h0)]
 refine lG.mk (lM (by simp only [ln];omega) (by kernel_rfl)) ?_
 exact lW (.own 0) 1 _ [(0, .lab 1)] [] ⟨rfl,rfl,rfl⟩ rfl (by trivial) (by trivial)
def SN (l:List By)(i:Nat):List (List FV):=(l.take i).map uD++List.replicate (l.length-i) adu
theorem WH (l:List By):SN l 0=List.replicate l.length adu:=by simp [SN]
theorem aan (l:List By):SN l l.length=l.map uD:=by simp [SN]
theorem aao {l:List By}{i:Nat}(h:i<=l.length):(SN l i).length=l.length:=by simp [SN];omega
theorem adv {l:List By}{i:Nat}(h:i<l.length):(SN l i)[i]? = some adu:=by
 unfold SN
 rw [dB (by simp;omega)]
 simp only [ln]
 rw [dG (by omega),gJ,kF,if_pos (by omega)]
theorem aap {l:List By}{i:Nat}(h:i<l.length):(SN l i).set i (uD l[i])=SN l (i+1):=by
 unfold SN
 rw [iG _ _ (by simp;omega)]
 simp only [ln]
 rw [dG (by omega),gJ,show l.length-i=(l.length -(i+1))+1 by omega,eU,List.set_cons_zero,aH h,aJ,aO]
 rfl
theorem Ee (G:Glob)(l:List By)(h64:Qo l)(hl:l.length<=1000):mX Tryz.prog G 127 [ss l] 0 [] (wJ 22 1 (l.map uD)):=by
 refine lH func127 rfl mixed (by kernel_rfl) ?_
 refine NR.mk' l.length (by rw [ah]) (by rw [ah]) ⟨by show 24*l.length<=_;omega,by unfold maxLen;omega⟩ ?_
 refine mO X9 1 [11] (fun i:Nat=> [(11,iv i)]) (fun i=> [(0, .rows 22 1 (SN l i))]) (fun i=>i<=l.length) (fun i=>l.length-i) [] [] 0 (by kernel_rfl) (fun _=>rfl) rfl (aB _) ⟨⟨rfl,rfl,(WH l).symm⟩,trivial⟩ ⟨rfl,trivial⟩ ?_
 intro i hi
 apply lD<;>intro h
 rotate_left
 ·have hie:i=l.length:=by simp at h;omega
  subst hie
  rw [aan]
  exact lW (.own 0) 1 _ [(0, .lab 0)] [] ⟨rfl,rfl,rfl⟩ rfl (by trivial) (by trivial)
 have hlt:i<l.length:=by simp at h;omega
 have h6:=h64 l[i] (bD hlt)
 refine ni.mk' i rfl (sD hlt) ?_
 refine mG.lS (aj hlt) ?_
 refine nI [] (by kernel_rfl) (AB G l[i] (fun e=>by rw [e]at h6;cases h6) (by omega)) (by trivial) ?_
 refine ni.mk' i rfl (by rw [aao hi];exact hlt) ?_
 refine mG.at (adv hlt) ?_
 refine lU.i64 (by omega) ?_
 exact lX (i+1) [] [] rfl (by show l.length -(i+1)<l.length-i;omega) hlt ⟨⟨rfl,rfl,aap hlt⟩,trivial⟩ ⟨rfl,trivial⟩
theorem adw (G:Glob)(b:By):mX Tryz.prog G 116 [bs b] 0 [] (Is (bv (decide (b.length≠64)))):=by
 refine lH func116 rfl mixed (by kernel_rfl) ?_
 refine mJ [] (congrArg Value.bool ?_)
 rw [ah]
 by_cases h:b.length=64
 ·simp [h]
 ·simp [h];omega
theorem aaq (G:Glob)(l:List By)(h64:Qo l)(hl:l.length<=1000):mX Tryz.prog G 141 [ss l,fnV 116] 0 [] (Is (iv (-1))):=by
 refine lH func141 rfl mixed (by kernel_rfl) ?_
 refine zx Ye [8] (fun i:Nat=> [(8,iv i)]) (fun i=>i<=l.length) (fun i=>l.length-i) 0 (by kernel_rfl) (fun _=>rfl) (by kernel_rfl) (aB _) (by trivial) (by trivial) ?_
 intro i hi
 apply lD<;>intro h
 rotate_left
 ·exact mJ [] rfl
 have hlt:i<l.length:=by simp at h;omega
 have h6:=h64 l[i] (bD hlt)
 have hw:=adw G l[i]
 rw [h6]at hw
 refine ni.mk' i rfl (sD hlt) ?_
 refine mG.lS (aj hlt) ?_
 refine mQ [] (by kernel_rfl) hw rfl (by trivial) ?_
 refine lU.i64 (by omega) ?_
 exact lX (i+1) [] [] rfl (by show l.length -(i+1)<l.length-i;omega) hlt (by trivial) ⟨rfl,trivial⟩
theorem Gn (G:Glob)(l:List By)(h64:Qo l)(hl:l.length<=1000):mX Tryz.prog G 117 [ss l,fnV 116] 0 [] (Is (bv false)):=by
 refine lH func117 rfl mixed (by kernel_rfl) ?_
 (refine mQ [] (by kernel_rfl) (aaq G l h64 hl) rfl ?_ ?_;(focus trivial))
 exact mJ [] rfl
theorem SC (G:Glob)(n:Nat)(h1:n%2=0)(h2:8<=n)(h3:n<=256):mX Tryz.prog G 115 [iv n] 0 [] (Is (bv true)):=by
 refine lH func115 rfl mixed (by kernel_rfl) ?_
 conv=>whnf
 have hm:((n:Int)).tmod 2=((n%2:Nat):Int):=rfl
 refine lG.mk (by decide) ?_
 rw [hm,h1]
 apply lD<;>intro h
 rotate_left
 ·exfalso;simp at h;omega
 exact mJ [] (congrArg Value.bool (by simp;omega))
theorem WI (G:Glob)(d:Dk)(h:d.ok):mX Tryz.prog G 84 [yO d] 0 [] (Is (bv true)):=by
 obtain⟨h1,h2,h3,h4,h5,h6,h7,h8⟩:=h
 have hs:=SC G d.now.length h1 h2 h3
 have hs:mX Tryz.prog G 115 [iv ((d.now.map uD).length:Nat)] 0 [] (Is (bv true)):=by rw [ah];exact hs
 refine lH func84 rfl mixed (by kernel_rfl) ?_
 (refine mQ [] (by kernel_rfl) (hs) rfl ?_ ?_;(focus trivial))
 apply lD<;>intro h
 ·exfalso;rw [ah,ah]at h;simp at h;omega
 apply lD<;>intro h
 ·exfalso;simp at h;omega
 apply lD<;>intro h
 ·exfalso;simp at h;omega
 apply lD<;>intro h
 ·exfalso;simp at h;omega
 (refine mQ [] (by kernel_rfl) (Gn G d.now h7 (by omega)) rfl ?_ ?_;(focus trivial))
 (refine mQ [] (by kernel_rfl) (Gn G d.safe h8 (by omega)) rfl ?_ ?_;(focus trivial))
 exact mJ [] rfl
theorem SE (G:Glob):mX Tryz.prog G 115 [iv 0] 0 [] (Is (bv false)):=by
 refine lH func115 rfl mixed (by kernel_rfl) ?_
 refine lG.mk (by decide) ?_
 exact mJ [] rfl
theorem aar (G:Glob):mX Tryz.prog G 84 [yO Dk.zero] 0 [] (Is (bv false)):=by
 refine lH func84 rfl mixed (by kernel_rfl) ?_
 (refine mQ [] (by kernel_rfl) (SE G) rfl ?_ ?_;(focus trivial))
 exact mJ [] rfl
def Dj (d:Dk):Int:=if d.dead then 40 else 0
theorem O1 (G:Glob)(d:Dk)(h:d.ok):mX Tryz.prog G 75 [yO d] 0 [] (Is (iv (Dj d))):=by
 refine lH func75 rfl mixed (by kernel_rfl) ?_
 (refine mQ [] (by kernel_rfl) (WI G d h) rfl ?_ ?_;(focus trivial))
 apply lD<;>intro h
 ·exact mJ [] (Je (by unfold Dj;rw [if_pos h]))
 ·exact mJ [] (Je (by unfold Dj;rw [h];rfl))
theorem adx (G:Glob)(d:Dk)(h:d.ok):mX Tryz.prog G 40 [yO d,iv 0] 0 [] (fun a n H=>n=0∧H = []∧∃b,a = .mW [bs b,iv (Dj d)]):=by
 have hr:=O1 G d h
 have hlo:=h.lo
 have h0:0<d.now.length:=by omega
 have h6:=h.n64 d.now[0] (bD h0)
 unfold Dj at hr ⊢
 refine lH func40 rfl mixed (by kernel_rfl) ?_
 (refine mQ [] (by kernel_rfl) (hr) rfl ?_ ?_;(focus trivial))
 conv=>whnf
 cases hd:d.dead with
 | true=>
  simp only [hd,if_true]
  exact lW (.mW [bs [],iv 40]) 0 [] [] [] ⟨rfl,rfl,[],rfl⟩ rfl trivial (by trivial)
 | false=>
  simp only [hd,aZ,if_false]
  apply lD<;>intro h
  ·exfalso;simp at h;rw [h]at h0;exact absurd h0 (by decide)
  refine ni.mk' 0 rfl (sD h0) ?_
  refine mG.lS (aj h0) ?_
  refine nI [] (by kernel_rfl) (AB G d.now[0] (fun e=>by rw [e]at h6;cases h6) (by omega)) (by trivial) ?_
  refine lW (.mW [bs d.now[0],iv 0]) 0 [] [] [1] ⟨rfl,rfl,_,rfl⟩ rfl trivial (by trivial)
def CpD (T:Nat)(d:Dk)(a:AV)(n:Nat)(H:lF):Prop:=a = .agg [.own 0, .own 1,iv d.fuse,iv d.ops,bv d.dead]∧n=2∧H = [(0, .rows T 1 (d.now.map uD)),(1, .rows T 1 (d.safe.map uD))]
theorem MZ (G:Glob)(d:Dk)(h:d.ok):mX Tryz.prog G 159 [yO d] 0 [] (CpD 22 d):=by
 have hhi:=h.hi
 have hsf:=h.sf
 refine lH func159 rfl mixed (by kernel_rfl) ?_
 (refine nZ abZ [] (by kernel_rfl) ?_;conv=>whnf)
 refine nI [] (by kernel_rfl) (Ee G d.now h.n64 (by omega)) (by trivial) ?_
 refine nI [] (by kernel_rfl) (Ee G d.safe h.f64 (by omega)) (by trivial) ?_
 exact lW (.agg [.own 0, .own 1,iv d.fuse,iv d.ops,bv d.dead]) 2 _ [(0, .lab 2),(1, .lab 3)] [] ⟨rfl,rfl,rfl⟩ rfl (by trivial) (by trivial)
def dWt (d:Dk)(n:Nat)(b:By):AV:=if d.dead then .mW [yO Dk.zero,iv 40]else if d.fuse=0 then .mW [yO d.dying,iv 40]else .mW [yO (d.put n b),iv 0]
theorem Dl {G:Glob}{n n1:Nat}{H1:lF}{a:AV}{K:AV->Nat->lF->Prop}(a':AV)(Z:List Nat)(k:Ax.spine (LC n H1) fun H0=>K a' n H0)(hwf:JX n n [] Z (LC n H1)=true)(hH:Nq H1 [] Z n (LC n H1))(hc:co H1 [] Z n a' a):Gz G n K a n1 H1:=
 lW a' n _ [] Z (by rw [Ax.oU]at k;exact k) hwf hH hc
theorem Qx {G:Glob}{n n1:Nat}{H1:lF}{a:AV}{K:AV->Nat->lF->Prop}(hn:n<=n1)(k:K a n1 H1):Gz G n K a n1 H1:=
 ⟨⟨a,n1,H1,k,hn,fun _ _ _ σ' F' _ _ s r=>⟨σ',F',s,r,fun _ _=>rfl,fun _ h=>h⟩⟩⟩
theorem aas (G:Glob)(d:Dk)(h:d.ok)(n:Nat)(hn:n<d.now.length)(b:By)(hb:b.length=64):mX Tryz.prog G 89 [yO d,iv n,bs b] 0 [] (Is (dWt d n b)):=by
 have hr:=O1 G d h
 have hC:=MZ G d h
 obtain⟨h1,h2,h3,h4,h5,h6,h7,h8⟩:=h
 obtain⟨now,safe,fuse,ops,dead⟩:=d
 unfold Dj at hr
 unfold dWt
 unfold CpD at hC
 simp only at *
 refine lH func89 rfl mixed (by kernel_rfl) ?_
 (refine mQ [] (by kernel_rfl) (hr) rfl ?_ ?_;(focus trivial))
 cases dead with
 | true=>
  simp only [if_true]
  exact mJ [] (by trivial)
 | false=>
  simp only [aZ,if_false]at *
  apply lD<;>intro h
  ·exfalso;rw [ah]at h;simp at h;omega
  apply lD<;>intro h
  ·exfalso;rw [ah,hb]at h;simp at h
  (refine oV (by kernel_rfl) (lH func124 rfl mixed (by kernel_rfl) ?_);(conv=>whnf))
  refine nI [] (by kernel_rfl) hC (by trivial) ?_
  apply lD<;>intro h
  ·have hf:fuse=0:=by simpa using h
   rw [if_pos hf]
   refine Dl (.mW [yO (Dk.dying ⟨now,safe,fuse,ops,false⟩),iv 40]) [6,7] ?_ rfl ?_ ?_
   rotate_left
   ·trivial
   ·trivial
   exact mJ [] (by trivial)
  have hf:fuse≠0:=by simpa using h
  rw [if_neg hf]
  apply lD<;>intro h
  ·refine lU.i64 (by omega) ?_
   (refine oV (by kernel_rfl) (lH func125 rfl mixed (by kernel_rfl) ?_);(conv=>whnf))
   (refine nZ Ux [] (by kernel_rfl) ?_;conv=>whnf)
   refine nI [] (by kernel_rfl) (AB G b (fun e=>by rw [e]at hb;cases hb) (by omega)) (by trivial) ?_
   refine ni.mk' n rfl (sD hn) ?_
   refine mG.lS (aj hn) ?_
   refine Dl (.mW []) [] ?_ rfl ?_ ?_
   rotate_left
   ·trivial
   ·trivial
   refine lU.i64 (by omega) ?_
   refine Dl (.mW [yO (Dk.put ⟨now,safe,fuse,ops,false⟩ n b),iv 0]) [6,7] ?_ rfl ?_ ?_
   rotate_left
   ·trivial
   ·exact⟨⟨⟨rfl,rfl,dP.symm⟩,⟨rfl,rfl,rfl⟩,Je (by simp at h;show (fuse-1)=if 0<fuse then fuse-1 else fuse;split<;>omega),rfl,rfl,trivial⟩,rfl,trivial⟩
   exact mJ [] (by trivial)
  ·(refine oV (by kernel_rfl) (lH func125 rfl mixed (by kernel_rfl) ?_);(conv=>whnf))
   (refine nZ Ux [] (by kernel_rfl) ?_;conv=>whnf)
   refine nI [] (by kernel_rfl) (AB G b (fun e=>by rw [e]at hb;cases hb) (by omega)) (by trivial) ?_
   refine ni.mk' n rfl (sD hn) ?_
   refine mG.lS (aj hn) ?_
   refine Dl (.mW []) [] ?_ rfl ?_ ?_
   rotate_left
   ·trivial
   ·trivial
   refine lU.i64 (by omega) ?_
   refine Dl (.mW [yO (Dk.put ⟨now,safe,fuse,ops,false⟩ n b),iv 0]) [6,7] ?_ rfl ?_ ?_
   rotate_left
   ·trivial
   ·exact⟨⟨⟨rfl,rfl,dP.symm⟩,⟨rfl,rfl,rfl⟩,Je (by simp at h;show fuse=if 0<fuse then fuse-1 else fuse;split<;>omega),rfl,rfl,trivial⟩,rfl,trivial⟩
   exact mJ [] (by trivial)
def dFl (d:Dk):AV:=if d.dead then .mW [yO Dk.zero,iv 40]else if d.fuse=0 then .mW [yO d.dying,iv 40]else .mW [yO d.flush,iv 0]
theorem aat (G:Glob)(d:Dk)(h:d.ok):mX Tryz.prog G 91 [yO d] 0 [] (Is (dFl d)):=by
 have hr:=O1 G d h
 have hC:=MZ G d h
 obtain⟨h1,h2,h3,h4,h5,h6,h7,h8⟩:=h
 obtain⟨now,safe,fuse,ops,dead⟩:=d
 unfold Dj at hr
 unfold dFl
 unfold CpD at hC
 simp only at *
 refine lH func91 rfl mixed (by kernel_rfl) ?_
 (refine mQ [] (by kernel_rfl) (hr) rfl ?_ ?_;(focus trivial))
 cases dead with
 | true=>
  simp only [if_true]
  exact mJ [] (by trivial)
 | false=>
  simp only [aZ,if_false]at *
  (refine oV (by kernel_rfl) (lH func124 rfl mixed (by kernel_rfl) ?_);(conv=>whnf))
  refine nI [] (by kernel_rfl) hC (by trivial) ?_
  apply lD<;>intro h
  ·have hf:fuse=0:=by simpa using h
   rw [if_pos hf]
   refine Dl (.mW [yO (Dk.dying ⟨now,safe,fuse,ops,false⟩),iv 40]) [4,5] ?_ rfl ?_ ?_
   rotate_left
   ·trivial
   ·trivial
   exact mJ [] (by trivial)
  have hf:fuse≠0:=by simpa using h
  rw [if_neg hf]
  apply lD<;>intro h
  ·refine lU.i64 (by omega) ?_
   (refine oV (by kernel_rfl) (lH func126 rfl mixed (by kernel_rfl) ?_);(conv=>whnf))
   refine nI [4] (by kernel_rfl) (Ee G now h7 (by omega)) (by trivial) ?_
   refine Qx (by decide) ?_
   refine lU.i64 (by omega) ?_
   refine Dl (.mW [yO (Dk.flush ⟨now,safe,fuse,ops,false⟩),iv 0]) [7] ?_ rfl ?_ ?_
   rotate_left
   ·trivial
   ·exact⟨⟨⟨rfl,rfl⟩,⟨rfl,rfl,rfl⟩,Je (by simp at h;show (fuse-1)=if 0<fuse then fuse-1 else fuse;split<;>omega),rfl,rfl,trivial⟩,rfl,trivial⟩
   exact mJ [] (by trivial)
  ·(refine oV (by kernel_rfl) (lH func126 rfl mixed (by kernel_rfl) ?_);(conv=>whnf))
   refine nI [4] (by kernel_rfl) (Ee G now h7 (by omega)) (by trivial) ?_
   refine Qx (by decide) ?_
   refine lU.i64 (by omega) ?_
   refine Dl (.mW [yO (Dk.flush ⟨now,safe,fuse,ops,false⟩),iv 0]) [7] ?_ rfl ?_ ?_
   rotate_left
   ·trivial
   ·exact⟨⟨⟨rfl,rfl⟩,⟨rfl,rfl,rfl⟩,Je (by simp at h;show fuse=if 0<fuse then fuse-1 else fuse;split<;>omega),rfl,rfl,trivial⟩,rfl,trivial⟩
   exact mJ [] (by trivial)
abbrev stC (s:So):List AV:=dkC s.d++ [iv s.gen,iv s.half,iv s.next,iv s.frame,el s.ev]
abbrev stA (s:So):AV:= .agg (stC s)
theorem WJ {l:List By}{i:Nat}(h:i<l.length):(l.take (i+1)).map uD=(l.take i).map uD++ [[.lst 1 (l[i].map oh)]]:=by
 rw [aH h,aJ];rfl
theorem Na (G:Glob)(l:List By)(h64:Qo l)(hl:l.length<=1000):mX Tryz.prog G 77 [ss l] 0 [] (Is (ss l)):=by
 refine lH func77 rfl mixed (by kernel_rfl) ?_
 refine mO abV 1 [3,8] (fun i:Nat=> [(3, .own 0),(8,iv i)]) (fun i=> [(0, .rows 22 1 ((l.take i).map uD))]) (fun i=>i<=l.length) (fun i=>l.length-i) [(0, .nil)] [] 0 (by kernel_rfl) (fun _=>rfl) rfl (aB _) (by trivial) (by trivial) ?_
 intro i hi
 apply lD<;>intro h
 rotate_left
 ·have hie:i=l.length:=by simp at h;omega
  subst hie
  rw [bn]
  exact mJ [0] (by trivial)
 have hlt:i<l.length:=by simp at h;omega
 have h6:=h64 l[i] (bD hlt)
 refine ni.mk' i rfl (sD hlt) ?_
 refine mG.lS (aj hlt) ?_
 refine nI [] (by kernel_rfl) (AB G l[i] (fun e=>by rw [e]at h6;cases h6) (by omega)) (by trivial) ?_
 refine lG.mk (lM (by simp only [ln];omega) (by kernel_rfl)) ?_
 refine lU.i64 (by omega) ?_
 exact lX (i+1) [(0, .lab 3)] [] rfl (by show l.length -(i+1)<l.length-i;omega) hlt ⟨⟨rfl,rfl,(WJ hlt).symm⟩,trivial⟩ ⟨rfl,rfl,trivial⟩
theorem Nb (G:Glob)(d:Dk)(h:d.ok):mX Tryz.prog G 42 [yO d] 0 [] (Is (yO d)):=by
 have hhi:=h.hi
 have hsf:=h.sf
 refine lH func42 rfl mixed (by kernel_rfl) ?_
 (refine nZ aeb [] (by kernel_rfl) ?_;conv=>whnf)
 repeat' (first
  | (refine oJ [] (by kernel_rfl) (Na G d.now h.n64 (by omega)) ?_ ?_;(focus (trivial;done));rintro _ _ _ ⟨rfl,rfl,rfl⟩;conv=>whnf)
  | (refine oJ [] (by kernel_rfl) (Na G d.safe h.f64 (by omega)) ?_ ?_;(focus (trivial;done));rintro _ _ _ ⟨rfl,rfl,rfl⟩;conv=>whnf))
 exact mJ [] (by trivial)
theorem leftA (G:Glob)(d d':Dk)(h:d'.ok):mX Tryz.prog G 90 [yO d,yO d'] 0 [] (Is (yO d')):=by
 refine lH func90 rfl mixed (by kernel_rfl) ?_
 (refine mQ [] (by kernel_rfl) (WI G d' h) rfl ?_ ?_;(focus trivial))
 exact mJ [] (by trivial)
theorem WL (G:Glob)(d:Dk)(h:d.ok):mX Tryz.prog G 90 [yO d,yO Dk.zero] 0 [] (Is (yO d)):=by
 refine lH func90 rfl mixed (by kernel_rfl) ?_
 (refine mQ [] (by kernel_rfl) (aar G) rfl ?_ ?_;(focus trivial))
 refine nI [] (by kernel_rfl) (Nb G d h) (by trivial) ?_
 exact mJ [] (by trivial)
theorem WM (G:Glob)(d:Dk):mX Tryz.prog G 41 [yO d,iv 40] 0 [] (Is (.mW [stA (So.Ws d),iv 40])):=by
 refine lH func41 rfl mixed (by kernel_rfl) ?_
 exact mJ [] (by trivial)
structure WS where
 d:Dk
 i:Nat
theorem aau (G:Glob)(d:Dk)(h:d.ok)(at_:Nat)(l:List By)(h64:Qo l)(hat:at_+l.length<=d.now.length):mX Tryz.prog G 59 [yO d,iv at_,ss l] 0 [] (Is (.mW [yO (GY d at_ l).1,iv (GY d at_ l).2])):=by
 have hhi:=h.hi
 refine lH func59 rfl mixed (by kernel_rfl) ?_
 refine mO abR 2 [16] (fun x:WS=> [(16,iv x.i)]) (fun x=> [(0, .var 40 (dkC x.d)),(1, .var 40 [.v (.slice none 0 0), .v (.slice none 0 0),iv 0,iv 0,bv false])]) (fun x=>x.i<=l.length∧x.d.ok∧x.d.now.length=d.now.length∧GY d at_ l=GY x.d (at_+x.i) (l.drop x.i)) (fun x=>l.length-x.i) [] [] ⟨d,0⟩ (by kernel_rfl) (fun _=>rfl) rfl ⟨aB _,h,rfl,rfl⟩ (by trivial) (by trivial) ?_
 rintro⟨d1,i⟩ ⟨hi,hok,hlen,hw⟩
 dsimp only at hi hok hlen hw
 rw [hw]
 apply lD<;>intro h
 ·have hlt:i<l.length:=by simp at h;omega
  have h6:=h64 l[i] (bD hlt)
  have hstep:GY d1 (at_+i) (l.drop i)=if d1.dead then(d1,40)else if d1.fuse=0 then(d1.dying,40)else GY (d1.put (at_+i) l[i]) (at_+i+1) (l.drop (i+1)):=by
   rw [dM hlt];rfl
  have hW:=aas G d1 hok (at_+i) (by omega) l[i] h6
  unfold dWt at hW
  refine ni.mk' i rfl (sD hlt) ?_
  refine mG.lS (aj hlt) ?_
  refine lU.to (y:=((at_+i:Nat):Int)) (by dsimp only;rw [IntWalk.i64_in _ (by omega)];omega) ?_
  conv=>whnf
  rcases ji d1.dead with hd|hd
  ·skip
   rw [hd,if_pos rfl]at hW hstep
   rw [hstep]
   refine nI [] (by kernel_rfl) hW (by trivial) ?_
   refine nI [] (by kernel_rfl) (WL G d1 hok) (by trivial) ?_
   exact mJ [] (by trivial)
  ·rw [hd,if_neg (by decide)]at hW hstep
   by_cases hf:d1.fuse=0
   ·rw [if_pos hf]at hW hstep
    rw [hstep]
    refine nI [] (by kernel_rfl) hW (by trivial) ?_
    refine nI [] (by kernel_rfl) (leftA G d1 d1.dying hok.dying) (by trivial) ?_
    exact mJ [] (by trivial)
   ·rw [if_neg hf]at hW hstep
    refine nI [] (by kernel_rfl) hW (by trivial) ?_
    refine lU.i64 (by dsimp only;omega) ?_
    refine lX ⟨d1.put (at_+i) l[i],i+1⟩ [] [] rfl (by show l.length -(i+1)<l.length-i;omega) ⟨hlt,hok.put h6, ?_,hstep⟩ (by trivial) ⟨rfl,trivial⟩
    show (d1.now.set (at_+i) l[i]).length=d.now.length
    rw [bC];exact hlen
 have hie:i=l.length:=by simp at h;omega
 subst hie
 have hstep:GY d1 (at_+l.length) (l.drop l.length)=if d1.dead then(d1,40)else if d1.fuse=0 then(d1.dying,40)else(d1.flush,0):=by
  rw [jf];rfl
 have hW:=aat G d1 hok
 unfold dFl at hW
 rw [hstep]
 conv=>whnf
 rcases ji d1.dead with hd|hd
 ·skip
  rw [hd,if_pos rfl]at hW
  simp only [if_pos hd]
  refine nI [] (by kernel_rfl) hW (by trivial) ?_
  refine nI [] (by kernel_rfl) (WL G d1 hok) (by trivial) ?_
  exact mJ [] (by trivial)
 ·rw [hd,if_neg (by decide)]at hW
  simp only [if_neg (show ¬(d1.dead=true) by rw [hd];decide)]
  by_cases hf:d1.fuse=0
  ·rw [if_pos hf]at hW ⊢
   refine nI [] (by kernel_rfl) hW (by trivial) ?_
   refine nI [] (by kernel_rfl) (leftA G d1 d1.dying hok.dying) (by trivial) ?_
   exact mJ [] (by trivial)
  ·rw [if_neg hf]at hW ⊢
   refine nI [] (by kernel_rfl) hW (by trivial) ?_
   refine nI [] (by kernel_rfl) (leftA G d1 d1.flush hok.flush) (by trivial) ?_
   exact mJ [] (by trivial)
end Go.Proofs.YtocckceefcmeaaaGreatDoor.Cl
