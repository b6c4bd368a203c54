/- Joined parts of the proof. Events, and the walks of both Check -/
import Derived.Test.YtocckceefcmeaaaGreatDoorPk6
import Derived.Test.YtocckceefcmeaaaGreatDoorPk7
import Derived.Test.YtocckceefcmeaaaGreatDoorPk8
import Derived.Test.YtocckceefcmeaaaGreatDoorProg
import Derived.Test.YtocckceefcmeaaaGreatDoorPk5
set_option linter.unusedVariables false
set_option linter.unusedSimpArgs false
set_option maxRecDepth 100000
set_option maxHeartbeats 16000000
namespace Go.Proofs.YtocckceefcmeaaaGreatDoor.Cl
open RowKit Vc Ax Ky Go.Proofs.Tryz
attribute [local irreducible] loadVar storeVar Instr.indexAt Instr.index Instr.sliceAt Instr.makeSlice Instr.lookup Instr.mapUpdate Instr.range Instr.next Instr.entry Instr.makeMap Builtin.append_ Builtin.copy_ Builtin.len_ Builtin.min_ Builtin.max_ Builtin.cap_ Builtin.delete_ Builtin.clear_ convert binOp eqGuard Op.unary Calls
def OD (s:By):Bool:=yY ⟨s.toArray⟩
def Bc (e:Ev):Int:=
 if ¬(e.kind=1∨e.kind=2∨e.kind=3)then 7
 else if OD e.client=false∨OD e.id=false∨(e.kind≠3∧OD e.name=false)∨(e.kind=3∧OD e.other=false)then 6
 else if e.seq<1∨1073741824<e.seq∨e.time<0∨1099511627776<e.time then 3
 else if e.kind=1∧(e.ver<0∨1099511627776<e.ver∨e.arm<1∨8<e.arm)then 3
 else if e.kind=2∧(e.val < -1099511627776∨1099511627776<e.val)then 3
 else if(e.kind=1∧(e.other≠ []∨e.val≠0))∨(e.kind=2∧(e.other≠ []∨e.ver≠0∨e.arm≠0))∨(e.kind=3∧(e.name≠ []∨e.ver≠0∨e.arm≠0∨e.val≠0∨e.other=e.id))then 15
 else 0
theorem oG (n a b:Int):mQ Tryz.prog GS 130 [iv n,iv a,iv b] 0 [] (Is (bv (decide (a<=n)&&decide (n<=b)))):=by
 refine lQ func130 rfl mixed (by kernel_rfl) ?_
 conv=>whnf
 repeat' (apply lK<;>intro h<;>(conv=>whnf))
 all_goals (refine lZ [] (congrArg Value.bool ?_))
 all_goals (simp_all;try omega)
theorem ad5 (k:Int)(client:By)(seq time:Int)(id name other:By)(ver arm val:Int)(z1:client.length<=140737488355328)(z2:id.length<=140737488355328)(z3:name.length<=140737488355328)(z4:other.length<=140737488355328):mQ Tryz.prog GS 85 [.agg [tv client,iv seq,iv k,iv time,tv id,tv name,tv other,iv ver,iv arm,iv val]] 0 [] (Is (.v (.int .i64 (Bc ⟨client,seq,k,time,id,name,other,ver,arm,val⟩)))):=by
 have k1:=UA ⟨client.toArray⟩ (by show client.length<=_;omega)
 have k2:=UA ⟨id.toArray⟩ (by show id.length<=_;omega)
 have k3:=UA ⟨name.toArray⟩ (by show name.length<=_;omega)
 have k4:=UA ⟨other.toArray⟩ (by show other.length<=_;omega)
 unfold Bc OD
 generalize yY ⟨client.toArray⟩=b1 at *
 generalize yY ⟨id.toArray⟩=b2 at *
 generalize yY ⟨name.toArray⟩=b3 at *
 generalize yY ⟨other.toArray⟩=b4 at *
 clear z1 z2 z3 z4
 by_cases c1:k=1
 ·subst c1
  simp only [true_or,not_true,if_false,true_and,show ¬(1:Int)=2 by decide,show ¬(1:Int)=3 by decide,false_and,or_false,ne_eq,not_false_eq_true]
  refine lQ func85 rfl mixed (by kernel_rfl) ?_
  (refine mP Ur [] (by kernel_rfl) ?_;conv=>whnf)
  repeat' (first
   | ((refine mF [] (by kernel_rfl) (k1) rfl ?_ ?_;(focus (trivial;done));(conv=>whnf)))
   | ((refine mF [] (by kernel_rfl) (k2) rfl ?_ ?_;(focus (trivial;done));(conv=>whnf)))
   | ((refine mF [] (by kernel_rfl) (k3) rfl ?_ ?_;(focus (trivial;done));(conv=>whnf)))
   | ((refine mF [] (by kernel_rfl) (k4) rfl ?_ ?_;(focus (trivial;done));(conv=>whnf)))
   | ((refine mF [] (by kernel_rfl) (oG seq 1 1073741824) rfl ?_ ?_;(focus (trivial;done));(conv=>whnf)))
   | ((refine mF [] (by kernel_rfl) (oG time 0 1099511627776) rfl ?_ ?_;(focus (trivial;done));(conv=>whnf)))
   | ((refine mF [] (by kernel_rfl) (oG ver 0 1099511627776) rfl ?_ ?_;(focus (trivial;done));(conv=>whnf)))
   | ((refine mF [] (by kernel_rfl) (oG arm 1 8) rfl ?_ ?_;(focus (trivial;done));(conv=>whnf)))
   | ((refine mF [] (by kernel_rfl) (oG val (-1099511627776) 1099511627776) rfl ?_ ?_;(focus (trivial;done));(conv=>whnf)))
   | (apply lK<;>intro h<;>(first|(exfalso;simp only [*,eU,dH,bf,fF,reduceCtorEq]at *;done)|(conv=>whnf))))
  all_goals (refine lZ [] (Ak ?_))
  all_goals (simp only [cond_true,cond_false,qP,fA,fE,decide_eq_true_eq,decide_eq_false_iff_not,beq_iff_eq,bne_iff_ne,beq_eq_false_iff_ne,bne_eq_false_iff_eq,ne_eq,dR,eU,dH,iV,gt_iff_lt,iW]at *)
  all_goals (clear k1 k2 k3 k4)
  all_goals first
   | (simp_all;done)
   | (simp_all;omega)
   | ((repeat' split)<;>first|rfl|(exfalso;simp_all;done)|(exfalso;simp_all;omega))
 by_cases c2:k=2
 ·subst c2
  simp only [true_or,or_true,not_true,if_false,true_and,show ¬(2:Int)=1 by decide,show ¬(2:Int)=3 by decide,false_and,or_false,false_or,ne_eq,not_false_eq_true]
  refine lQ func85 rfl mixed (by kernel_rfl) ?_
  (refine mP Ur [] (by kernel_rfl) ?_;conv=>whnf)
  repeat' (first
   | ((refine mF [] (by kernel_rfl) (k1) rfl ?_ ?_;(focus (trivial;done));(conv=>whnf)))
   | ((refine mF [] (by kernel_rfl) (k2) rfl ?_ ?_;(focus (trivial;done));(conv=>whnf)))
   | ((refine mF [] (by kernel_rfl) (k3) rfl ?_ ?_;(focus (trivial;done));(conv=>whnf)))
   | ((refine mF [] (by kernel_rfl) (k4) rfl ?_ ?_;(focus (trivial;done));(conv=>whnf)))
   | ((refine mF [] (by kernel_rfl) (oG seq 1 1073741824) rfl ?_ ?_;(focus (trivial;done));(conv=>whnf)))
   | ((refine mF [] (by kernel_rfl) (oG time 0 1099511627776) rfl ?_ ?_;(focus (trivial;done));(conv=>whnf)))
   | ((refine mF [] (by kernel_rfl) (oG ver 0 1099511627776) rfl ?_ ?_;(focus (trivial;done));(conv=>whnf)))
   | ((refine mF [] (by kernel_rfl) (oG arm 1 8) rfl ?_ ?_;(focus (trivial;done));(conv=>whnf)))
   | ((refine mF [] (by kernel_rfl) (oG val (-1099511627776) 1099511627776) rfl ?_ ?_;(focus (trivial;done));(conv=>whnf)))
   | (apply lK<;>intro h<;>(first|(exfalso;simp only [*,eU,dH,bf,fF,reduceCtorEq]at *;done)|(conv=>whnf))))
  all_goals (refine lZ [] (Ak ?_))
  all_goals (simp only [cond_true,cond_false,qP,fA,fE,decide_eq_true_eq,decide_eq_false_iff_not,beq_iff_eq,bne_iff_ne,beq_eq_false_iff_ne,bne_eq_false_iff_eq,ne_eq,dR,eU,dH,iV,gt_iff_lt,iW]at *)
  all_goals (clear k1 k2 k3 k4)
  all_goals first
   | (simp_all;done)
   | (simp_all;omega)
   | ((repeat' split)<;>first|rfl|(exfalso;simp_all;done)|(exfalso;simp_all;omega))
 by_cases c3:k=3
 ·subst c3
  simp only [or_true,not_true,if_false,true_and,show ¬(3:Int)=1 by decide,show ¬(3:Int)=2 by decide,false_and,false_or,ne_eq]
  refine lQ func85 rfl mixed (by kernel_rfl) ?_
  (refine mP Ur [] (by kernel_rfl) ?_;conv=>whnf)
  repeat' (first
   | ((refine mF [] (by kernel_rfl) (k1) rfl ?_ ?_;(focus (trivial;done));(conv=>whnf)))
   | ((refine mF [] (by kernel_rfl) (k2) rfl ?_ ?_;(focus (trivial;done));(conv=>whnf)))
   | ((refine mF [] (by kernel_rfl) (k3) rfl ?_ ?_;(focus (trivial;done));(conv=>whnf)))
   | ((refine mF [] (by kernel_rfl) (k4) rfl ?_ ?_;(focus (trivial;done));(conv=>whnf)))
   | ((refine mF [] (by kernel_rfl) (oG seq 1 1073741824) rfl ?_ ?_;(focus (trivial;done));(conv=>whnf)))
   | ((refine mF [] (by kernel_rfl) (oG time 0 1099511627776) rfl ?_ ?_;(focus (trivial;done));(conv=>whnf)))
   | ((refine mF [] (by kernel_rfl) (oG ver 0 1099511627776) rfl ?_ ?_;(focus (trivial;done));(conv=>whnf)))
   | ((refine mF [] (by kernel_rfl) (oG arm 1 8) rfl ?_ ?_;(focus (trivial;done));(conv=>whnf)))
   | ((refine mF [] (by kernel_rfl) (oG val (-1099511627776) 1099511627776) rfl ?_ ?_;(focus (trivial;done));(conv=>whnf)))
   | (apply lK<;>intro h<;>(first|(exfalso;simp only [*,eU,dH,bf,fF,reduceCtorEq]at *;done)|(conv=>whnf))))
  all_goals (refine lZ [] (Ak ?_))
  all_goals (simp only [cond_true,cond_false,qP,fA,fE,decide_eq_true_eq,decide_eq_false_iff_not,beq_iff_eq,bne_iff_ne,beq_eq_false_iff_ne,bne_eq_false_iff_eq,ne_eq,dR,eU,dH,iV,gt_iff_lt,iW]at *)
  all_goals (clear k1 k2 k3 k4)
  all_goals first
   | (simp_all;done)
   | (simp_all;omega)
   | ((repeat' split)<;>first|rfl|(exfalso;simp_all;done)|(exfalso;simp_all;omega))
 have q1:(k==1)=false:=by simpa using c1
 have q2:(k==2)=false:=by simpa using c2
 have q3:(k==3)=false:=by simpa using c3
 refine lQ func85 rfl mixed (by kernel_rfl) ?_
 (refine mP Ur [] (by kernel_rfl) ?_;conv=>whnf)
 rw [q1]
 conv=>whnf
 rw [q2]
 conv=>whnf
 rw [q3]
 exact lZ [] (Ak (by simp [c1,c2,c3]))
theorem ad6 (k:Int)(client:By)(seq time:Int)(id name other:By)(ver arm val:Int)(z1:client.length<=140737488355328)(z2:id.length<=140737488355328)(z3:name.length<=140737488355328)(z4:other.length<=140737488355328):mQ Tryz.prog GS 97 [.agg [tv client,iv seq,iv k,iv time,tv id,tv name,tv other,iv ver,iv arm,iv val]] 0 [] (Is (.v (.int .i64 (Bc ⟨client,seq,k,time,id,name,other,ver,arm,val⟩)))):=by
 have k1:=UC ⟨client.toArray⟩ (by show client.length<=_;omega)
 have k2:=UC ⟨id.toArray⟩ (by show id.length<=_;omega)
 have k3:=UC ⟨name.toArray⟩ (by show name.length<=_;omega)
 have k4:=UC ⟨other.toArray⟩ (by show other.length<=_;omega)
 unfold Bc OD
 generalize yY ⟨client.toArray⟩=b1 at *
 generalize yY ⟨id.toArray⟩=b2 at *
 generalize yY ⟨name.toArray⟩=b3 at *
 generalize yY ⟨other.toArray⟩=b4 at *
 clear z1 z2 z3 z4
 by_cases c1:k=1
 ·subst c1
  simp only [true_or,not_true,if_false,true_and,show ¬(1:Int)=2 by decide,show ¬(1:Int)=3 by decide,false_and,or_false,ne_eq,not_false_eq_true]
  refine lQ func97 rfl mixed (by kernel_rfl) ?_
  (refine mP Ut [] (by kernel_rfl) ?_;conv=>whnf)
  repeat' (first
   | ((refine mF [] (by kernel_rfl) (k1) rfl ?_ ?_;(focus (trivial;done));(conv=>whnf)))
   | ((refine mF [] (by kernel_rfl) (k2) rfl ?_ ?_;(focus (trivial;done));(conv=>whnf)))
   | ((refine mF [] (by kernel_rfl) (k3) rfl ?_ ?_;(focus (trivial;done));(conv=>whnf)))
   | ((refine mF [] (by kernel_rfl) (k4) rfl ?_ ?_;(focus (trivial;done));(conv=>whnf)))
   | ((refine mF [] (by kernel_rfl) (oG seq 1 1073741824) rfl ?_ ?_;(focus (trivial;done));(conv=>whnf)))
   | ((refine mF [] (by kernel_rfl) (oG time 0 1099511627776) rfl ?_ ?_;(focus (trivial;done));(conv=>whnf)))
   | ((refine mF [] (by kernel_rfl) (oG ver 0 1099511627776) rfl ?_ ?_;(focus (trivial;done));(conv=>whnf)))
   | ((refine mF [] (by kernel_rfl) (oG arm 1 8) rfl ?_ ?_;(focus (trivial;done));(conv=>whnf)))
   | ((refine mF [] (by kernel_rfl) (oG val (-1099511627776) 1099511627776) rfl ?_ ?_;(focus (trivial;done));(conv=>whnf)))
   | (apply lK<;>intro h<;>(first|(exfalso;simp only [*,eU,dH,bf,fF,reduceCtorEq]at *;done)|(conv=>whnf))))
  all_goals (refine lZ [] (Ak ?_))
  all_goals (simp only [cond_true,cond_false,qP,fA,fE,decide_eq_true_eq,decide_eq_false_iff_not,beq_iff_eq,bne_iff_ne,beq_eq_false_iff_ne,bne_eq_false_iff_eq,ne_eq,dR,eU,dH,iV,gt_iff_lt,iW]at *)
  all_goals (clear k1 k2 k3 k4)
  all_goals first
   | (simp_all;done)
   | (simp_all;omega)
   | ((repeat' split)<;>first|rfl|(exfalso;simp_all;done)|(exfalso;simp_all;omega))
 by_cases c2:k=2
 ·subst c2
  simp only [true_or,or_true,not_true,if_false,true_and,show ¬(2:Int)=1 by decide,show ¬(2:Int)=3 by decide,false_and,or_false,false_or,ne_eq,not_false_eq_true]
  refine lQ func97 rfl mixed (by kernel_rfl) ?_
  (refine mP Ut [] (by kernel_rfl) ?_;conv=>whnf)
  repeat' (first
   | ((refine mF [] (by kernel_rfl) (k1) rfl ?_ ?_;(focus (trivial;done));(conv=>whnf)))
   | ((refine mF [] (by kernel_rfl) (k2) rfl ?_ ?_;(focus (trivial;done));(conv=>whnf)))
   | ((refine mF [] (by kernel_rfl) (k3) rfl ?_ ?_;(focus (trivial;done));(conv=>whnf)))
   | ((refine mF [] (by kernel_rfl) (k4) rfl ?_ ?_;(focus (trivial;done));(conv=>whnf)))
   | ((refine mF [] (by kernel_rfl) (oG seq 1 1073741824) rfl ?_ ?_;(focus (trivial;done));(conv=>whnf)))
   | ((refine mF [] (by kernel_rfl) (oG time 0 1099511627776) rfl ?_ ?_;(focus (trivial;done));(conv=>whnf)))
   | ((refine mF [] (by kernel_rfl) (oG ver 0 1099511627776) rfl ?_ ?_;(focus (trivial;done));(conv=>whnf)))
   | ((refine mF [] (by kernel_rfl) (oG arm 1 8) rfl ?_ ?_;(focus (trivial;done));(conv=>whnf)))
   | ((refine mF [] (by kernel_rfl) (oG val (-1099511627776) 1099511627776) rfl ?_ ?_;(focus (trivial;done));(conv=>whnf)))
   | (apply lK<;>intro h<;>(first|(exfalso;simp only [*,eU,dH,bf,fF,reduceCtorEq]at *;done)|(conv=>whnf))))
  all_goals (refine lZ [] (Ak ?_))
  all_goals (simp only [cond_true,cond_false,qP,fA,fE,decide_eq_true_eq,decide_eq_false_iff_not,beq_iff_eq,bne_iff_ne,beq_eq_false_iff_ne,bne_eq_false_iff_eq,ne_eq,dR,eU,dH,iV,gt_iff_lt,iW]at *)
  all_goals (clear k1 k2 k3 k4)
  all_goals first
   | (simp_all;done)
   | (simp_all;omega)
   | ((repeat' split)<;>first|rfl|(exfalso;simp_all;done)|(exfalso;simp_all;omega))
 by_cases c3:k=3
 ·subst c3
  simp only [or_true,not_true,if_false,true_and,show ¬(3:Int)=1 by decide,show ¬(3:Int)=2 by decide,false_and,false_or,ne_eq]
  refine lQ func97 rfl mixed (by kernel_rfl) ?_
  (refine mP Ut [] (by kernel_rfl) ?_;conv=>whnf)
  repeat' (first
   | ((refine mF [] (by kernel_rfl) (k1) rfl ?_ ?_;(focus (trivial;done));(conv=>whnf)))
   | ((refine mF [] (by kernel_rfl) (k2) rfl ?_ ?_;(focus (trivial;done));(conv=>whnf)))
   | ((refine mF [] (by kernel_rfl) (k3) rfl ?_ ?_;(focus (trivial;done));(conv=>whnf)))
   | ((refine mF [] (by kernel_rfl) (k4) rfl ?_ ?_;(focus (trivial;done));(conv=>whnf)))
   | ((refine mF [] (by kernel_rfl) (oG seq 1 1073741824) rfl ?_ ?_;(focus (trivial;done));(conv=>whnf)))
   | ((refine mF [] (by kernel_rfl) (oG time 0 1099511627776) rfl ?_ ?_;(focus (trivial;done));(conv=>whnf)))
   | ((refine mF [] (by kernel_rfl) (oG ver 0 1099511627776) rfl ?_ ?_;(focus (trivial;done));(conv=>whnf)))
   | ((refine mF [] (by kernel_rfl) (oG arm 1 8) rfl ?_ ?_;(focus (trivial;done));(conv=>whnf)))
   | ((refine mF [] (by kernel_rfl) (oG val (-1099511627776) 1099511627776) rfl ?_ ?_;(focus (trivial;done));(conv=>whnf)))
   | (apply lK<;>intro h<;>(first|(exfalso;simp only [*,eU,dH,bf,fF,reduceCtorEq]at *;done)|(conv=>whnf))))
  all_goals (refine lZ [] (Ak ?_))
  all_goals (simp only [cond_true,cond_false,qP,fA,fE,decide_eq_true_eq,decide_eq_false_iff_not,beq_iff_eq,bne_iff_ne,beq_eq_false_iff_ne,bne_eq_false_iff_eq,ne_eq,dR,eU,dH,iV,gt_iff_lt,iW]at *)
  all_goals (clear k1 k2 k3 k4)
  all_goals first
   | (simp_all;done)
   | (simp_all;omega)
   | ((repeat' split)<;>first|rfl|(exfalso;simp_all;done)|(exfalso;simp_all;omega))
 have q1:(k==1)=false:=by simpa using c1
 have q2:(k==2)=false:=by simpa using c2
 have q3:(k==3)=false:=by simpa using c3
 refine lQ func97 rfl mixed (by kernel_rfl) ?_
 (refine mP Ut [] (by kernel_rfl) ?_;conv=>whnf)
 rw [q1]
 conv=>whnf
 rw [q2]
 conv=>whnf
 rw [q3]
 exact lZ [] (Ak (by simp [c1,c2,c3]))
theorem ad7 (e:Ev)(he:e.ok):mQ Tryz.prog GS 85 [evA e] 0 [] (Is (.v (.int .i64 (Bc e)))):=
 ad5 e.kind e.client e.seq e.time e.id e.name e.other e.ver e.arm e.val he.client he.id he.name he.other
theorem ad8 (e:Ev)(he:e.ok):mQ Tryz.prog GS 97 [evA e] 0 [] (Is (.v (.int .i64 (Bc e)))):=
 ad6 e.kind e.client e.seq e.time e.id e.name e.other e.ver e.arm e.val he.client he.id he.name he.other
def ZU (a:Int)(l:List Ev):Int:=l.foldl (fun a e=>min a e.time) a
def hiT (a:Int)(l:List Ev):Int:=l.foldl (fun a e=>max a e.time) a
def su (l:List Ev):Int×Int:=match l with | []=>(0,0)|e::_=>(ZU e.time l,hiT e.time l)
theorem Qv {l:List Ev}{i:Nat}(a:Int)(h:i<l.length):ZU a (l.take (i+1))=min (ZU a (l.take i)) l[i].time:=by
 unfold ZU;rw [aG h,kJ];rfl
theorem Qw {l:List Ev}{i:Nat}(a:Int)(h:i<l.length):hiT a (l.take (i+1))=max (hiT a (l.take i)) l[i].time:=by
 unfold hiT;rw [aG h,kJ];rfl
theorem ad9 {l:List Ev}{a lo hi:Int}(h1:lo<=a∧a<=hi)(h : ∀e∈l,lo<=e.time∧e.time<=hi):lo<=ZU a l∧ZU a l<=hi∧lo<=hiT a l∧hiT a l<=hi:=by
 unfold ZU hiT
 have : ∀(l:List Ev) (a b:Int),(lo<=a∧a<=hi)->(lo<=b∧b<=hi)->(∀e∈l,lo<=e.time∧e.time<=hi)->lo<=l.foldl (fun a e=>min a e.time) a∧l.foldl (fun a e=>min a e.time) a<=hi∧lo<=l.foldl (fun a e=>max a e.time) b∧l.foldl (fun a e=>max a e.time) b<=hi:=by
  intro l
  induction l with
  | nil=>intro a b h1 h2 _;exact⟨h1.1,h1.2,h2.1,h2.2⟩
  | cons e r ih=>
   intro a b h1 h2 h
   have he:=h e bG
   simp only [eX]
   exact ih _ _ (by omega) (by omega) fun x hx=>h x (dK _ hx)
 exact this l a a h1 h1 h
theorem ZV (e:Ev)(r:List Ev)(hl:(e::r).length<=1000000):mQ Tryz.prog GS 123 [el (e::r)] 0 [] (Is (.nN [iv (ZU e.time (e::r)),iv (hiT e.time (e::r))])):=by
 generalize hl0:e::r=l at *
 have h0:l[0]? = some e:=by rw [<-hl0];rfl
 have hpos:0<l.length:=by rw [<-hl0];simp
 refine lQ func123 rfl mixed (by kernel_rfl) ?_
 (refine mP Ym [] (by kernel_rfl) ?_;conv=>whnf)
 repeat' (first
  | (refine And.intro ?_ ?_<;>(conv=>whnf))
  | (refine mZ.mk' 0 rfl (pU hpos) ?_;conv=>whnf)
  | (refine mD.lT h0 ?_;conv=>whnf))
 refine mO abE 0 [4,5,18] (fun i:Nat=> [(4,iv (ZU e.time (l.take i))),(5,iv (hiT e.time (l.take i))),(18,iv i)]) (fun _=> []) (fun i=>i<=l.length) (fun i=>l.length-i) [] [] 0 (by kernel_rfl) (fun _=>rfl) rfl (au _) trivial ⟨rfl,rfl,rfl,trivial⟩ ?_
 intro i hi
 apply lK<;>intro h
 ·have hlt:i<l.length:=by simp at h;omega
  refine mZ.mk' i rfl (pU hlt) ?_
  refine mD.lT (aj hlt) ?_
  (refine mP Ym [] (by kernel_rfl) ?_;conv=>whnf)
  refine lV.i64 (by omega) ?_
  exact lU (i+1) [] [] rfl (by show l.length -(i+1)<l.length-i;omega) hlt trivial ⟨Ak (Qv _ hlt).symm,Ak (Qw _ hlt).symm,rfl,trivial⟩
 ·have hie:i=l.length:=by simp at h;omega
  subst hie
  rw [aW]
  exact lZ [] (by trivial)
theorem ZW (e:Ev)(r:List Ev)(hl:(e::r).length<=1000000):mQ Tryz.prog GS 98 [el (e::r)] 0 [] (Is (.nN [iv (ZU e.time (e::r)),iv (hiT e.time (e::r))])):=by
 generalize hl0:e::r=l at *
 have h0:l[0]? = some e:=by rw [<-hl0];rfl
 have hpos:0<l.length:=by rw [<-hl0];simp
 refine lQ func98 rfl mixed (by kernel_rfl) ?_
 (refine mP ae0 [] (by kernel_rfl) ?_;conv=>whnf)
 repeat' (first
  | (refine And.intro ?_ ?_<;>(conv=>whnf))
  | (refine mZ.mk' 0 rfl (pU hpos) ?_;conv=>whnf)
  | (refine mD.lT h0 ?_;conv=>whnf))
 refine mO agH 0 [4,5,6] (fun i:Nat=> [(4,iv (ZU e.time (l.take i))),(5,iv (hiT e.time (l.take i))),(6,iv i)]) (fun _=> []) (fun i=>i<=l.length) (fun i=>l.length-i) [] [] 0 (by kernel_rfl) (fun _=>rfl) rfl (au _) trivial ⟨rfl,rfl,rfl,trivial⟩ ?_
 intro i hi
 apply lK<;>intro h
 ·have hlt:i<l.length:=by simp at h;omega
  (refine mP ae0 [] (by kernel_rfl) ?_;conv=>whnf)
  repeat' (first
   | (refine And.intro ?_ ?_<;>(conv=>whnf))
   | (refine mZ.mk' i rfl (pU hlt) ?_;conv=>whnf)
   | (refine mD.lT (aj hlt) ?_;conv=>whnf))
  refine lV.i64 (by omega) ?_
  exact lU (i+1) [] [] rfl (by show l.length -(i+1)<l.length-i;omega) hlt trivial ⟨Ak (Qv _ hlt).symm,Ak (Qw _ hlt).symm,rfl,trivial⟩
 ·have hie:i=l.length:=by simp at h;omega
  subst hie
  rw [aW]
  exact lZ [] (by trivial)
theorem Dq {n:Nat}(h:n<=100000):n*112<=140737488355328∧n<=maxLen:=⟨by omega,by unfold maxLen;omega⟩
theorem U5 (l:List Ev)(hl:l≠ [])(hs:l.length<=10000):mQ Tryz.prog GS 80 [el l] 0 [] (sW 95 10 (l.map rO)):=by
 have h0:0<l.length:=dX.2 hl
 refine lQ func80 rfl mixed (by kernel_rfl) ?_
 refine⟨fun b hb=> ?_⟩
 rw [hb (pU h0)]
 refine lN.mk (Dq (by simp only [ln];omega)) ?_
 exact lX (.own 0) 1 _ [(0, .lab 1)] [] ⟨rfl,rfl,rfl⟩ rfl (by trivial) (by trivial)
abbrev fV (f:Nat):FV:= .v (.func (.func f) #[] #[])
theorem Qx:mQ Tryz.prog GS 120 [] 0 [] (sW 160 2 [[fV 143, .lst 1 [[fV 144],[fV 145],[fV 146]]],
  [fV 147, .v (.slice none 0 0)],[fV 148, .v (.slice none 0 0)],[fV 149, .lst 1 [[fV 150],[fV 151],[fV 152]]]]):=by
 refine lQ func120 rfl mixed (by kernel_rfl) ?_
 exact lX (.own 0) 1 _ [(0, .lab 2)] [] ⟨rfl,rfl,rfl⟩ rfl (by trivial) (by trivial)
section
attribute [local irreducible] best ints en bd rF dsT
def xQ (l:List Ev):By:=rF (l.map (·.client))++ints (l.map (·.seq))++ints (l.map (·.kind))++ints (l.map (·.time))++rF (l.map (·.id))++rF (l.map (·.name))++rF (l.map (·.other))++ints (l.map (·.ver))++ints (l.map (·.arm))++ints (l.map (·.val))
def Bd (l:List Ev):By:=num (su l).1++num (su l).2++num ((xQ l).length:Int)++xQ l
def JX (l:List Ev)(i:Nat):By:=
 match i with
 | 0=> []
 | 1=>rF (l.map (·.client))++ints (l.map (·.seq))++ints (l.map (·.kind))++ints (l.map (·.time))
 | 2=>rF (l.map (·.client))++ints (l.map (·.seq))++ints (l.map (·.kind))++ints (l.map (·.time))++rF (l.map (·.id))
 | 3=>rF (l.map (·.client))++ints (l.map (·.seq))++ints (l.map (·.kind))++ints (l.map (·.time))++rF (l.map (·.id))++rF (l.map (·.name))
 | _=>xQ l
def pfN (b x y z:By)(j:Nat):By:=
 match j with
 | 0=>b
 | 1=>b++x
 | 2=>b++x++y
 | _=>b++x++y++z
abbrev oq:List (List FV):= [[fV 143, .lst 1 [[fV 144],[fV 145],[fV 146]]],
  [fV 147, .v (.slice none 0 0)],[fV 148, .v (.slice none 0 0)],[fV 149, .lst 1 [[fV 150],[fV 151],[fV 152]]]]
structure U6 (l:List Ev):Prop where
 ne:l≠ []
 len:l.length<=16
 ok : ∀e∈l,e.ok
 s1 : ∀e∈l,e.client.length<=200
 s2 : ∀e∈l,e.id.length<=200
 s3 : ∀e∈l,e.name.length<=200
 s4 : ∀e∈l,e.other.length<=200
 tm : ∀e∈l, -4611686018427387904<=e.time∧e.time<=4611686018427387904
theorem oQ {l:List Ev}{f:Ev->By}(h : ∀e∈l,(f e).length<=200):AA (l.map f):=fun s hs=>by
 obtain⟨e,he,rfl⟩:=eP.1 hs
 exact h e he
theorem all_map {l:List Ev}{f:Ev->Int}(h : ∀e∈l,I64 (f e)):nP (l.map f):=fun s hs=>by
 obtain⟨e,he,rfl⟩:=eP.1 hs
 exact h e he
theorem wE {l:List Ev}(h:U6 l)(i:Nat):(JX l i).length<=70000:=by
 have hl:=h.len
 have t1:=tV (l.map (·.client)) (oQ h.s1) (by rw [ah];omega)
 have t2:=tV (l.map (·.id)) (oQ h.s2) (by rw [ah];omega)
 have t3:=tV (l.map (·.name)) (oQ h.s3) (by rw [ah];omega)
 have t4:=tV (l.map (·.other)) (oQ h.s4) (by rw [ah];omega)
 have i1:=nR (l.map (·.seq)) (by rw [ah];omega)
 have i2:=nR (l.map (·.kind)) (by rw [ah];omega)
 have i3:=nR (l.map (·.time)) (by rw [ah];omega)
 have i4:=nR (l.map (·.ver)) (by rw [ah];omega)
 have i5:=nR (l.map (·.arm)) (by rw [ah];omega)
 have i6:=nR (l.map (·.val)) (by rw [ah];omega)
 simp only [ah]at t1 t2 t3 t4
 match i with
 | 0=>simp [JX]
 | 1=>simp only [JX,ak];omega
 | 2=>simp only [JX,ak];omega
 | 3=>simp only [JX,ak];omega
 | n+4=>simp only [JX,xQ,ak];omega
theorem Jr {l:List Ev}(h:U6 l):I64 (su l).1∧I64 (su l).2:=by
 cases l with
 | nil=>exact absurd rfl h.ne
 | cons e r=>
  have:=ad9 (a:=e.time) (h.tm e bG) h.tm
  unfold su I64
  simp only
  omega
theorem WH (l:List Ev)(h:U6 l):mQ Tryz.prog GS 123 [el l] 0 [] (Is (.nN [iv (su l).1,iv (su l).2])):=by
 cases l with
 | nil=>exact absurd rfl h.ne
 | cons e r=>exact ZV e r (by have:=h.len;omega)
theorem WI (l:List Ev)(h:U6 l):mQ Tryz.prog GS 98 [el l] 0 [] (Is (.nN [iv (su l).1,iv (su l).2])):=by
 cases l with
 | nil=>exact absurd rfl h.ne
 | cons e r=>exact ZW e r (by have:=h.len;omega)
theorem aea (l:List Ev)(h:U6 l):mQ Tryz.prog GS 87 [el l] 0 [] (Is (bs (Bd l))):=by
 have hlen:=h.len
 refine lQ func87 rfl mixed (by kernel_rfl) ?_
 refine mY [] (by kernel_rfl) (U5 l h.ne (by omega)) (by trivial) ?_
 refine mY [] (by kernel_rfl) (Qx) (by trivial) ?_
 refine mO agG 3 [3,18] (fun i:Nat=> [(3, .own 2),(18,iv i)]) (fun i=> [(2, .rows 5 1 ((JX l i).map oh)),(1, .rows 160 2 oq),(0, .rows 95 10 (l.map rO))]) (fun i=>i<=4) (fun i=>4-i) [(2, .nil)] [] 0 (by kernel_rfl) (fun _=>rfl) rfl (au _) ⟨rfl,⟨rfl,rfl,rfl⟩,⟨rfl,rfl,rfl⟩,trivial⟩ ⟨trivial,rfl,trivial⟩ ?_
 intro i hi
 have hcs:i=0∨i=1∨i=2∨i=3∨i=4:=by omega
 rcases hcs with rfl|rfl|rfl|rfl|rfl
 ·refine mZ.mk' 0 rfl (by decide) ?_
  refine mD.at rfl ?_
  refine mO Nc 5 [6,24] (fun k:Nat=> [(6, .own 4),(24,iv k)]) (fun k=> [(4, .rows 9 1 (((l.take k).map (·.client)).map wC)),(3, .var 160 ((oq.getD 0 []).map FV.up)),(2, .rows 5 1 ((JX l 0).map oh)),(1, .rows 160 2 oq),(0, .rows 95 10 (l.map rO))]) (fun k=>k<=l.length) (fun k=>l.length-k) [(4, .nil)] [] 0 (by kernel_rfl) (fun _=>rfl) rfl (au _) ⟨rfl,(by trivial),⟨rfl,rfl,rfl⟩,⟨rfl,rfl,rfl⟩,⟨rfl,rfl,rfl⟩,trivial⟩ ⟨trivial,rfl,trivial⟩ ?_
  intro k hk
  refine lK (fun hb=> ?_) (fun hb=> ?_)
  ·have hlt:k<l.length:=by simp at hb;omega
   (refine mP Us [4,5,6] (by kernel_rfl) ?_;conv=>whnf)
   refine mZ.mk' k rfl (pU hlt) ?_
   (refine pR (by kernel_rfl) (lQ func143 rfl mixed (by kernel_rfl) ?_);(conv=>whnf))
   refine uq (.ep 0 k 0) ?_ rfl ?_ ?_
   rotate_left
   ·trivial
   ·trivial
   refine mD.lT (aj hlt) ?_
   refine lN.mk (lS (by simp only [ln];omega) (by kernel_rfl)) ?_
   refine lV.i64 (by omega) ?_
   refine lU (k+1) [(4, .lab 6)] [] rfl (by show l.length -(k+1)<l.length-k;omega) hlt ⟨⟨rfl,rfl, ?_⟩,(by trivial),⟨rfl,rfl,rfl⟩,⟨rfl,rfl,rfl⟩,⟨rfl,rfl,rfl⟩,trivial⟩ ⟨rfl,rfl,trivial⟩
   rw [aG hlt,aJ]
   exact(vN _ _).symm
  have hke:k=l.length:=by simp at hb;omega
  subst hke
  rw [aW]
  conv=>whnf
  have hml:(l.map (·.client)).length<=512:=by rw [ah];omega
  refine mY [4] (by kernel_rfl) (mQ.up (Jo (l.map (·.client)) hml (oQ h.s1)) GS) (by trivial) ?_
  conv=>whnf
  have hx0:(rF (l.map (·.client))).length<=8500:=by have:=tV (l.map (·.client)) (oQ h.s1) hml;rw [ah]at this;omega
  have hbd:=wE h 0
  refine lN.mk (lS (by simp only [ah];omega) (by kernel_rfl)) ?_
  refine mO Nh 7 [3,46] (fun j:Nat=> [(3, .own 6),(46,iv j)]) (fun j=> [(6, .rows 5 1 ((pfN (JX l 0++rF (l.map (·.client))) (ints (l.map (·.seq))) (ints (l.map (·.kind))) (ints (l.map (·.time))) j).map oh)),(3, .var 160 ((oq.getD 0 []).map FV.up)),(1, .rows 160 2 oq),(0, .rows 95 10 (l.map rO))]) (fun j=>j<=3) (fun j=>3-j) [(6, .lab 5)] [] 0 (by kernel_rfl) (fun _=>rfl) rfl (au _) ⟨⟨rfl,rfl,aJ.symm⟩,(by trivial),⟨rfl,rfl,rfl⟩,⟨rfl,rfl,rfl⟩,trivial⟩ ⟨rfl,rfl,trivial⟩ ?_
  have hy1:=nR (l.map (·.seq)) (by rw [ah];omega)
  have hy2:=nR (l.map (·.kind)) (by rw [ah];omega)
  intro j hj
  have hcj:j=0∨j=1∨j=2∨j=3:=by omega
  rcases hcj with rfl|rfl|rfl|rfl
  ·refine mZ.mk' 0 rfl (by decide) ?_
   refine mD.at rfl ?_
   refine mO EC 8 [10,52] (fun k:Nat=> [(10, .own 7),(52,iv k)]) (fun k=> [(7, .rows 3 1 (((l.take k).map (·.seq)).map qX)),(6, .rows 5 1 ((JX l 0++rF (l.map (·.client))).map oh)),(3, .var 160 ((oq.getD 0 []).map FV.up)),(1, .rows 160 2 oq),(0, .rows 95 10 (l.map rO))]) (fun k=>k<=l.length) (fun k=>l.length-k) [(7, .nil)] [] 0 (by kernel_rfl) (fun _=>rfl) rfl (au _) ⟨rfl,⟨rfl,rfl,rfl⟩,(by trivial),⟨rfl,rfl,rfl⟩,⟨rfl,rfl,rfl⟩,trivial⟩ ⟨trivial,rfl,trivial⟩ ?_
   intro k hk
   refine lK (fun hb=> ?_) (fun hb=> ?_)
   ·have hlt:k<l.length:=by simp at hb;omega
    refine mZ.mk' k rfl (pU hlt) ?_
    (refine pR (by kernel_rfl) (lQ func144 rfl mixed (by kernel_rfl) ?_);(conv=>whnf))
    refine uq (.ep 0 k 1) ?_ rfl ?_ ?_
    rotate_left
    ·exact⟨⟨rfl,rfl,rfl⟩,⟨rfl,rfl,rfl⟩,(by trivial),⟨rfl,rfl,rfl⟩,⟨rfl,rfl,rfl⟩,trivial⟩
    ·trivial
    refine mD.lT (aj hlt) ?_
    refine lN.mk (lS (by simp only [ln];omega) (by kernel_rfl)) ?_
    refine lV.i64 (by omega) ?_
    refine lU (k+1) [(7, .lab 9)] [] rfl (by show l.length -(k+1)<l.length-k;omega) hlt ⟨⟨rfl,rfl, ?_⟩,⟨rfl,rfl,rfl⟩,(by trivial),⟨rfl,rfl,rfl⟩,⟨rfl,rfl,rfl⟩,trivial⟩ ⟨rfl,rfl,trivial⟩
    rw [aG hlt,aJ,aJ]
    rfl
   have hke:k=l.length:=by simp at hb;omega
   subst hke
   rw [aW]
   conv=>whnf
   have hml:(l.map (·.seq)).length<=512:=by rw [ah];omega
   refine mY [7] (by kernel_rfl) (mQ.up (xg (l.map (·.seq)) (all_map fun e he=>(h.ok e he).seq) hml) GS) (by trivial) ?_
   conv=>whnf
   have hx:=nR (l.map (·.seq)) hml
   refine lN.mk (lS (by simp only [ln];omega) (by kernel_rfl)) ?_
   refine lV.i64 (by decide) ?_
   exact lU (0+1) [(6, .lab 8)] [] rfl (by decide) (by decide) ⟨⟨rfl,rfl,aJ.symm⟩,(by trivial),⟨rfl,rfl,rfl⟩,⟨rfl,rfl,rfl⟩,trivial⟩ ⟨rfl,rfl,trivial⟩
  ·refine mZ.mk' 1 rfl (by decide) ?_
   refine mD.at rfl ?_
   refine mO EC 8 [10,52] (fun k:Nat=> [(10, .own 7),(52,iv k)]) (fun k=> [(7, .rows 3 1 (((l.take k).map (·.kind)).map qX)),(6, .rows 5 1 ((JX l 0++rF (l.map (·.client))++ints (l.map (·.seq))).map oh)),(3, .var 160 ((oq.getD 0 []).map FV.up)),(1, .rows 160 2 oq),(0, .rows 95 10 (l.map rO))]) (fun k=>k<=l.length) (fun k=>l.length-k) [(7, .nil)] [] 0 (by kernel_rfl) (fun _=>rfl) rfl (au _) ⟨rfl,⟨rfl,rfl,rfl⟩,(by trivial),⟨rfl,rfl,rfl⟩,⟨rfl,rfl,rfl⟩,trivial⟩ ⟨trivial,rfl,trivial⟩ ?_
   intro k hk
   refine lK (fun hb=> ?_) (fun hb=> ?_)
   ·have hlt:k<l.length:=by simp at hb;omega
    refine mZ.mk' k rfl (pU hlt) ?_
    (refine pR (by kernel_rfl) (lQ func145 rfl mixed (by kernel_rfl) ?_);(conv=>whnf))
    refine uq (.ep 0 k 2) ?_ rfl ?_ ?_
    rotate_left
    ·exact⟨⟨rfl,rfl,rfl⟩,⟨rfl,rfl,rfl⟩,(by trivial),⟨rfl,rfl,rfl⟩,⟨rfl,rfl,rfl⟩,trivial⟩
    ·trivial
    refine mD.lT (aj hlt) ?_
    refine lN.mk (lS (by simp only [ln];omega) (by kernel_rfl)) ?_
    refine lV.i64 (by omega) ?_
    refine lU (k+1) [(7, .lab 9)] [] rfl (by show l.length -(k+1)<l.length-k;omega) hlt ⟨⟨rfl,rfl, ?_⟩,⟨rfl,rfl,rfl⟩,(by trivial),⟨rfl,rfl,rfl⟩,⟨rfl,rfl,rfl⟩,trivial⟩ ⟨rfl,rfl,trivial⟩
    rw [aG hlt,aJ,aJ]
    rfl
   have hke:k=l.length:=by simp at hb;omega
   subst hke
   rw [aW]
   conv=>whnf
   have hml:(l.map (·.kind)).length<=512:=by rw [ah];omega
   refine mY [7] (by kernel_rfl) (mQ.up (xg (l.map (·.kind)) (all_map fun e he=>(h.ok e he).kind) hml) GS) (by trivial) ?_
   conv=>whnf
   have hx:=nR (l.map (·.kind)) hml
   refine lN.mk (lS (by simp only [ln];omega) (by kernel_rfl)) ?_
   refine lV.i64 (by decide) ?_
   exact lU (1+1) [(6, .lab 8)] [] rfl (by decide) (by decide) ⟨⟨rfl,rfl,aJ.symm⟩,(by trivial),⟨rfl,rfl,rfl⟩,⟨rfl,rfl,rfl⟩,trivial⟩ ⟨rfl,rfl,trivial⟩
  ·refine mZ.mk' 2 rfl (by decide) ?_
   refine mD.at rfl ?_
   refine mO EC 8 [10,52] (fun k:Nat=> [(10, .own 7),(52,iv k)]) (fun k=> [(7, .rows 3 1 (((l.take k).map (·.time)).map qX)),(6, .rows 5 1 ((JX l 0++rF (l.map (·.client))++ints (l.map (·.seq))++ints (l.map (·.kind))).map oh)),(3, .var 160 ((oq.getD 0 []).map FV.up)),(1, .rows 160 2 oq),(0, .rows 95 10 (l.map rO))]) (fun k=>k<=l.length) (fun k=>l.length-k) [(7, .nil)] [] 0 (by kernel_rfl) (fun _=>rfl) rfl (au _) ⟨rfl,⟨rfl,rfl,rfl⟩,(by trivial),⟨rfl,rfl,rfl⟩,⟨rfl,rfl,rfl⟩,trivial⟩ ⟨trivial,rfl,trivial⟩ ?_
   intro k hk
   refine lK (fun hb=> ?_) (fun hb=> ?_)
   ·have hlt:k<l.length:=by simp at hb;omega
    refine mZ.mk' k rfl (pU hlt) ?_
    (refine pR (by kernel_rfl) (lQ func146 rfl mixed (by kernel_rfl) ?_);(conv=>whnf))
    refine uq (.ep 0 k 3) ?_ rfl ?_ ?_
    rotate_left
    ·exact⟨⟨rfl,rfl,rfl⟩,⟨rfl,rfl,rfl⟩,(by trivial),⟨rfl,rfl,rfl⟩,⟨rfl,rfl,rfl⟩,trivial⟩
    ·trivial
    refine mD.lT (aj hlt) ?_
    refine lN.mk (lS (by simp only [ln];omega) (by kernel_rfl)) ?_
    refine lV.i64 (by omega) ?_
    refine lU (k+1) [(7, .lab 9)] [] rfl (by show l.length -(k+1)<l.length-k;omega) hlt ⟨⟨rfl,rfl, ?_⟩,⟨rfl,rfl,rfl⟩,(by trivial),⟨rfl,rfl,rfl⟩,⟨rfl,rfl,rfl⟩,trivial⟩ ⟨rfl,rfl,trivial⟩
    rw [aG hlt,aJ,aJ]
    rfl
   have hke:k=l.length:=by simp at hb;omega
   subst hke
   rw [aW]
   conv=>whnf
   have hml:(l.map (·.time)).length<=512:=by rw [ah];omega
   refine mY [7] (by kernel_rfl) (mQ.up (xg (l.map (·.time)) (all_map fun e he=>(h.ok e he).time) hml) GS) (by trivial) ?_
   conv=>whnf
   have hx:=nR (l.map (·.time)) hml
   refine lN.mk (lS (by simp only [ln];omega) (by kernel_rfl)) ?_
   refine lV.i64 (by decide) ?_
   exact lU (2+1) [(6, .lab 8)] [] rfl (by decide) (by decide) ⟨⟨rfl,rfl,aJ.symm⟩,(by trivial),⟨rfl,rfl,rfl⟩,⟨rfl,rfl,rfl⟩,trivial⟩ ⟨rfl,rfl,trivial⟩
  ·refine lV.i64 (by decide) ?_
   exact lU 1 [(2, .lab 6)] [] rfl (by decide) (by decide) ⟨⟨rfl,rfl,rfl⟩,⟨rfl,rfl,rfl⟩,⟨rfl,rfl,rfl⟩,trivial⟩ ⟨rfl,rfl,trivial⟩
 ·refine mZ.mk' 1 rfl (by decide) ?_
  refine mD.at rfl ?_
  refine mO Nc 5 [6,24] (fun k:Nat=> [(6, .own 4),(24,iv k)]) (fun k=> [(4, .rows 9 1 (((l.take k).map (·.id)).map wC)),(3, .var 160 ((oq.getD 1 []).map FV.up)),(2, .rows 5 1 ((JX l 1).map oh)),(1, .rows 160 2 oq),(0, .rows 95 10 (l.map rO))]) (fun k=>k<=l.length) (fun k=>l.length-k) [(4, .nil)] [] 0 (by kernel_rfl) (fun _=>rfl) rfl (au _) ⟨rfl,(by trivial),⟨rfl,rfl,rfl⟩,⟨rfl,rfl,rfl⟩,⟨rfl,rfl,rfl⟩,trivial⟩ ⟨trivial,rfl,trivial⟩ ?_
  intro k hk
  refine lK (fun hb=> ?_) (fun hb=> ?_)
  ·have hlt:k<l.length:=by simp at hb;omega
   (refine mP Us [4,5,6] (by kernel_rfl) ?_;conv=>whnf)
   refine mZ.mk' k rfl (pU hlt) ?_
   (refine pR (by kernel_rfl) (lQ func147 rfl mixed (by kernel_rfl) ?_);(conv=>whnf))
   refine uq (.ep 0 k 4) ?_ rfl ?_ ?_
   rotate_left
   ·trivial
   ·trivial
   refine mD.lT (aj hlt) ?_
   refine lN.mk (lS (by simp only [ln];omega) (by kernel_rfl)) ?_
   refine lV.i64 (by omega) ?_
   refine lU (k+1) [(4, .lab 6)] [] rfl (by show l.length -(k+1)<l.length-k;omega) hlt ⟨⟨rfl,rfl, ?_⟩,(by trivial),⟨rfl,rfl,rfl⟩,⟨rfl,rfl,rfl⟩,⟨rfl,rfl,rfl⟩,trivial⟩ ⟨rfl,rfl,trivial⟩
   rw [aG hlt,aJ]
   exact(vN _ _).symm
  have hke:k=l.length:=by simp at hb;omega
  subst hke
  rw [aW]
  conv=>whnf
  have hml:(l.map (·.id)).length<=512:=by rw [ah];omega
  refine mY [4] (by kernel_rfl) (mQ.up (Jo (l.map (·.id)) hml (oQ h.s2)) GS) (by trivial) ?_
  conv=>whnf
  have hx1:(rF (l.map (·.id))).length<=8500:=by have:=tV (l.map (·.id)) (oQ h.s2) hml;rw [ah]at this;omega
  have hbd:=wE h 1
  refine lN.mk (lS (by simp only [ah];omega) (by kernel_rfl)) ?_
  refine mO Nh 6 [3,46] (fun j:Nat=> [(3, .own 5),(46,iv 0)]) (fun j=> [(5, .rows 5 1 ((JX l 1++rF (l.map (·.id))).map oh)),(1, .rows 160 2 oq),(0, .rows 95 10 (l.map rO))]) (fun j=>j=0) (fun j=>j) [] [] 0 (by kernel_rfl) (fun _=>rfl) rfl rfl ⟨⟨rfl,rfl,aJ.symm⟩,⟨rfl,rfl,rfl⟩,⟨rfl,rfl,rfl⟩,trivial⟩ ⟨⟨rfl,rfl⟩,rfl,trivial⟩ ?_
  intro j hj
  refine lV.i64 (by decide) ?_
  exact lU (1+1) [(2, .lab 5)] [] rfl (by decide) (by decide) ⟨⟨rfl,rfl,rfl⟩,⟨rfl,rfl,rfl⟩,⟨rfl,rfl,rfl⟩,trivial⟩ ⟨rfl,rfl,trivial⟩
 ·refine mZ.mk' 2 rfl (by decide) ?_
  refine mD.at rfl ?_
  refine mO Nc 5 [6,24] (fun k:Nat=> [(6, .own 4),(24,iv k)]) (fun k=> [(4, .rows 9 1 (((l.take k).map (·.name)).map wC)),(3, .var 160 ((oq.getD 2 []).map FV.up)),(2, .rows 5 1 ((JX l 2).map oh)),(1, .rows 160 2 oq),(0, .rows 95 10 (l.map rO))]) (fun k=>k<=l.length) (fun k=>l.length-k) [(4, .nil)] [] 0 (by kernel_rfl) (fun _=>rfl) rfl (au _) ⟨rfl,(by trivial),⟨rfl,rfl,rfl⟩,⟨rfl,rfl,rfl⟩,⟨rfl,rfl,rfl⟩,trivial⟩ ⟨trivial,rfl,trivial⟩ ?_
  intro k hk
  refine lK (fun hb=> ?_) (fun hb=> ?_)
  ·have hlt:k<l.length:=by simp at hb;omega
   (refine mP Us [4,5,6] (by kernel_rfl) ?_;conv=>whnf)
   refine mZ.mk' k rfl (pU hlt) ?_
   (refine pR (by kernel_rfl) (lQ func148 rfl mixed (by kernel_rfl) ?_);(conv=>whnf))
   refine uq (.ep 0 k 5) ?_ rfl ?_ ?_
   rotate_left
   ·trivial
   ·trivial
   refine mD.lT (aj hlt) ?_
   refine lN.mk (lS (by simp only [ln];omega) (by kernel_rfl)) ?_
   refine lV.i64 (by omega) ?_
   refine lU (k+1) [(4, .lab 6)] [] rfl (by show l.length -(k+1)<l.length-k;omega) hlt ⟨⟨rfl,rfl, ?_⟩,(by trivial),⟨rfl,rfl,rfl⟩,⟨rfl,rfl,rfl⟩,⟨rfl,rfl,rfl⟩,trivial⟩ ⟨rfl,rfl,trivial⟩
   rw [aG hlt,aJ]
   exact(vN _ _).symm
  have hke:k=l.length:=by simp at hb;omega
  subst hke
  rw [aW]
  conv=>whnf
  have hml:(l.map (·.name)).length<=512:=by rw [ah];omega
  refine mY [4] (by kernel_rfl) (mQ.up (Jo (l.map (·.name)) hml (oQ h.s3)) GS) (by trivial) ?_
  conv=>whnf
  have hx2:(rF (l.map (·.name))).length<=8500:=by have:=tV (l.map (·.name)) (oQ h.s3) hml;rw [ah]at this;omega
  have hbd:=wE h 2
  refine lN.mk (lS (by simp only [ah];omega) (by kernel_rfl)) ?_
  refine mO Nh 6 [3,46] (fun j:Nat=> [(3, .own 5),(46,iv 0)]) (fun j=> [(5, .rows 5 1 ((JX l 2++rF (l.map (·.name))).map oh)),(1, .rows 160 2 oq),(0, .rows 95 10 (l.map rO))]) (fun j=>j=0) (fun j=>j) [] [] 0 (by kernel_rfl) (fun _=>rfl) rfl rfl ⟨⟨rfl,rfl,aJ.symm⟩,⟨rfl,rfl,rfl⟩,⟨rfl,rfl,rfl⟩,trivial⟩ ⟨⟨rfl,rfl⟩,rfl,trivial⟩ ?_
  intro j hj
  refine lV.i64 (by decide) ?_
  exact lU (2+1) [(2, .lab 5)] [] rfl (by decide) (by decide) ⟨⟨rfl,rfl,rfl⟩,⟨rfl,rfl,rfl⟩,⟨rfl,rfl,rfl⟩,trivial⟩ ⟨rfl,rfl,trivial⟩
 ·refine mZ.mk' 3 rfl (by decide) ?_
  refine mD.at rfl ?_
  refine mO Nc 5 [6,24] (fun k:Nat=> [(6, .own 4),(24,iv k)]) (fun k=> [(4, .rows 9 1 (((l.take k).map (·.other)).map wC)),(3, .var 160 ((oq.getD 3 []).map FV.up)),(2, .rows 5 1 ((JX l 3).map oh)),(1, .rows 160 2 oq),(0, .rows 95 10 (l.map rO))]) (fun k=>k<=l.length) (fun k=>l.length-k) [(4, .nil)] [] 0 (by kernel_rfl) (fun _=>rfl) rfl (au _) ⟨rfl,(by trivial),⟨rfl,rfl,rfl⟩,⟨rfl,rfl,rfl⟩,⟨rfl,rfl,rfl⟩,trivial⟩ ⟨trivial,rfl,trivial⟩ ?_
  intro k hk
  refine lK (fun hb=> ?_) (fun hb=> ?_)
  ·have hlt:k<l.length:=by simp at hb;omega
   (refine mP Us [4,5,6] (by kernel_rfl) ?_;conv=>whnf)
   refine mZ.mk' k rfl (pU hlt) ?_
   (refine pR (by kernel_rfl) (lQ func149 rfl mixed (by kernel_rfl) ?_);(conv=>whnf))
   refine uq (.ep 0 k 6) ?_ rfl ?_ ?_
   rotate_left
   ·trivial
   ·trivial
   refine mD.lT (aj hlt) ?_
   refine lN.mk (lS (by simp only [ln];omega) (by kernel_rfl)) ?_
   refine lV.i64 (by omega) ?_
   refine lU (k+1) [(4, .lab 6)] [] rfl (by show l.length -(k+1)<l.length-k;omega) hlt ⟨⟨rfl,rfl, ?_⟩,(by trivial),⟨rfl,rfl,rfl⟩,⟨rfl,rfl,rfl⟩,⟨rfl,rfl,rfl⟩,trivial⟩ ⟨rfl,rfl,trivial⟩
   rw [aG hlt,aJ]
   exact(vN _ _).symm
  have hke:k=l.length:=by simp at hb;omega
  subst hke
  rw [aW]
  conv=>whnf
  have hml:(l.map (·.other)).length<=512:=by rw [ah];omega
  refine mY [4] (by kernel_rfl) (mQ.up (Jo (l.map (·.other)) hml (oQ h.s4)) GS) (by trivial) ?_
  conv=>whnf
  have hx3:(rF (l.map (·.other))).length<=8500:=by have:=tV (l.map (·.other)) (oQ h.s4) hml;rw [ah]at this;omega
  have hbd:=wE h 3
  refine lN.mk (lS (by simp only [ah];omega) (by kernel_rfl)) ?_
  refine mO Nh 7 [3,46] (fun j:Nat=> [(3, .own 6),(46,iv j)]) (fun j=> [(6, .rows 5 1 ((pfN (JX l 3++rF (l.map (·.other))) (ints (l.map (·.ver))) (ints (l.map (·.arm))) (ints (l.map (·.val))) j).map oh)),(3, .var 160 ((oq.getD 3 []).map FV.up)),(1, .rows 160 2 oq),(0, .rows 95 10 (l.map rO))]) (fun j=>j<=3) (fun j=>3-j) [(6, .lab 5)] [] 0 (by kernel_rfl) (fun _=>rfl) rfl (au _) ⟨⟨rfl,rfl,aJ.symm⟩,(by trivial),⟨rfl,rfl,rfl⟩,⟨rfl,rfl,rfl⟩,trivial⟩ ⟨rfl,rfl,trivial⟩ ?_
  have hy1:=nR (l.map (·.ver)) (by rw [ah];omega)
  have hy2:=nR (l.map (·.arm)) (by rw [ah];omega)
  intro j hj
  have hcj:j=0∨j=1∨j=2∨j=3:=by omega
  rcases hcj with rfl|rfl|rfl|rfl
  ·refine mZ.mk' 0 rfl (by decide) ?_
   refine mD.at rfl ?_
   refine mO EC 8 [10,52] (fun k:Nat=> [(10, .own 7),(52,iv k)]) (fun k=> [(7, .rows 3 1 (((l.take k).map (·.ver)).map qX)),(6, .rows 5 1 ((JX l 3++rF (l.map (·.other))).map oh)),(3, .var 160 ((oq.getD 3 []).map FV.up)),(1, .rows 160 2 oq),(0, .rows 95 10 (l.map rO))]) (fun k=>k<=l.length) (fun k=>l.length-k) [(7, .nil)] [] 0 (by kernel_rfl) (fun _=>rfl) rfl (au _) ⟨rfl,⟨rfl,rfl,rfl⟩,(by trivial),⟨rfl,rfl,rfl⟩,⟨rfl,rfl,rfl⟩,trivial⟩ ⟨trivial,rfl,trivial⟩ ?_
   intro k hk
   refine lK (fun hb=> ?_) (fun hb=> ?_)
   ·have hlt:k<l.length:=by simp at hb;omega
    refine mZ.mk' k rfl (pU hlt) ?_
    (refine pR (by kernel_rfl) (lQ func150 rfl mixed (by kernel_rfl) ?_);(conv=>whnf))
    refine uq (.ep 0 k 7) ?_ rfl ?_ ?_
    rotate_left
    ·exact⟨⟨rfl,rfl,rfl⟩,⟨rfl,rfl,rfl⟩,(by trivial),⟨rfl,rfl,rfl⟩,⟨rfl,rfl,rfl⟩,trivial⟩
    ·trivial
    refine mD.lT (aj hlt) ?_
    refine lN.mk (lS (by simp only [ln];omega) (by kernel_rfl)) ?_
    refine lV.i64 (by omega) ?_
    refine lU (k+1) [(7, .lab 9)] [] rfl (by show l.length -(k+1)<l.length-k;omega) hlt ⟨⟨rfl,rfl, ?_⟩,⟨rfl,rfl,rfl⟩,(by trivial),⟨rfl,rfl,rfl⟩,⟨rfl,rfl,rfl⟩,trivial⟩ ⟨rfl,rfl,trivial⟩
    rw [aG hlt,aJ,aJ]
    rfl
   have hke:k=l.length:=by simp at hb;omega
   subst hke
   rw [aW]
   conv=>whnf
   have hml:(l.map (·.ver)).length<=512:=by rw [ah];omega
   refine mY [7] (by kernel_rfl) (mQ.up (xg (l.map (·.ver)) (all_map fun e he=>(h.ok e he).ver) hml) GS) (by trivial) ?_
   conv=>whnf
   have hx:=nR (l.map (·.ver)) hml
   refine lN.mk (lS (by simp only [ln];omega) (by kernel_rfl)) ?_
   refine lV.i64 (by decide) ?_
   exact lU (0+1) [(6, .lab 8)] [] rfl (by decide) (by decide) ⟨⟨rfl,rfl,aJ.symm⟩,(by trivial),⟨rfl,rfl,rfl⟩,⟨rfl,rfl,rfl⟩,trivial⟩ ⟨rfl,rfl,trivial⟩
  ·refine mZ.mk' 1 rfl (by decide) ?_
   refine mD.at rfl ?_
   refine mO EC 8 [10,52] (fun k:Nat=> [(10, .own 7),(52,iv k)]) (fun k=> [(7, .rows 3 1 (((l.take k).map (·.arm)).map qX)),(6, .rows 5 1 ((JX l 3++rF (l.map (·.other))++ints (l.map (·.ver))).map oh)),(3, .var 160 ((oq.getD 3 []).map FV.up)),(1, .rows 160 2 oq),(0, .rows 95 10 (l.map rO))]) (fun k=>k<=l.length) (fun k=>l.length-k) [(7, .nil)] [] 0 (by kernel_rfl) (fun _=>rfl) rfl (au _) ⟨rfl,⟨rfl,rfl,rfl⟩,(by trivial),⟨rfl,rfl,rfl⟩,⟨rfl,rfl,rfl⟩,trivial⟩ ⟨trivial,rfl,trivial⟩ ?_
   intro k hk
   refine lK (fun hb=> ?_) (fun hb=> ?_)
   ·have hlt:k<l.length:=by simp at hb;omega
    refine mZ.mk' k rfl (pU hlt) ?_
    (refine pR (by kernel_rfl) (lQ func151 rfl mixed (by kernel_rfl) ?_);(conv=>whnf))
    refine uq (.ep 0 k 8) ?_ rfl ?_ ?_
    rotate_left
    ·exact⟨⟨rfl,rfl,rfl⟩,⟨rfl,rfl,rfl⟩,(by trivial),⟨rfl,rfl,rfl⟩,⟨rfl,rfl,rfl⟩,trivial⟩
    ·trivial
    refine mD.lT (aj hlt) ?_
    refine lN.mk (lS (by simp only [ln];omega) (by kernel_rfl)) ?_
    refine lV.i64 (by omega) ?_
    refine lU (k+1) [(7, .lab 9)] [] rfl (by show l.length -(k+1)<l.length-k;omega) hlt ⟨⟨rfl,rfl, ?_⟩,⟨rfl,rfl,rfl⟩,(by trivial),⟨rfl,rfl,rfl⟩,⟨rfl,rfl,rfl⟩,trivial⟩ ⟨rfl,rfl,trivial⟩
    rw [aG hlt,aJ,aJ]
    rfl
   have hke:k=l.length:=by simp at hb;omega
   subst hke
   rw [aW]
   conv=>whnf
   have hml:(l.map (·.arm)).length<=512:=by rw [ah];omega
   refine mY [7] (by kernel_rfl) (mQ.up (xg (l.map (·.arm)) (all_map fun e he=>(h.ok e he).arm) hml) GS) (by trivial) ?_
   conv=>whnf
   have hx:=nR (l.map (·.arm)) hml
   refine lN.mk (lS (by simp only [ln];omega) (by kernel_rfl)) ?_
   refine lV.i64 (by decide) ?_
   exact lU (1+1) [(6, .lab 8)] [] rfl (by decide) (by decide) ⟨⟨rfl,rfl,aJ.symm⟩,(by trivial),⟨rfl,rfl,rfl⟩,⟨rfl,rfl,rfl⟩,trivial⟩ ⟨rfl,rfl,trivial⟩
  ·refine mZ.mk' 2 rfl (by decide) ?_
   refine mD.at rfl ?_
   refine mO EC 8 [10,52] (fun k:Nat=> [(10, .own 7),(52,iv k)]) (fun k=> [(7, .rows 3 1 (((l.take k).map (·.val)).map qX)),(6, .rows 5 1 ((JX l 3++rF (l.map (·.other))++ints (l.map (·.ver))++ints (l.map (·.arm))).map oh)),(3, .var 160 ((oq.getD 3 []).map FV.up)),(1, .rows 160 2 oq),(0, .rows 95 10 (l.map rO))]) (fun k=>k<=l.length) (fun k=>l.length-k) [(7, .nil)] [] 0 (by kernel_rfl) (fun _=>rfl) rfl (au _) ⟨rfl,⟨rfl,rfl,rfl⟩,(by trivial),⟨rfl,rfl,rfl⟩,⟨rfl,rfl,rfl⟩,trivial⟩ ⟨trivial,rfl,trivial⟩ ?_
   intro k hk
   refine lK (fun hb=> ?_) (fun hb=> ?_)
   ·have hlt:k<l.length:=by simp at hb;omega
    refine mZ.mk' k rfl (pU hlt) ?_
    (refine pR (by kernel_rfl) (lQ func152 rfl mixed (by kernel_rfl) ?_);(conv=>whnf))
    refine uq (.ep 0 k 9) ?_ rfl ?_ ?_
    rotate_left
    ·exact⟨⟨rfl,rfl,rfl⟩,⟨rfl,rfl,rfl⟩,(by trivial),⟨rfl,rfl,rfl⟩,⟨rfl,rfl,rfl⟩,trivial⟩
    ·trivial
    refine mD.lT (aj hlt) ?_
    refine lN.mk (lS (by simp only [ln];omega) (by kernel_rfl)) ?_
    refine lV.i64 (by omega) ?_
    refine lU (k+1) [(7, .lab 9)] [] rfl (by show l.length -(k+1)<l.length-k;omega) hlt ⟨⟨rfl,rfl, ?_⟩,⟨rfl,rfl,rfl⟩,(by trivial),⟨rfl,rfl,rfl⟩,⟨rfl,rfl,rfl⟩,trivial⟩ ⟨rfl,rfl,trivial⟩
    rw [aG hlt,aJ,aJ]
    rfl
   have hke:k=l.length:=by simp at hb;omega
   subst hke
   rw [aW]
   conv=>whnf
   have hml:(l.map (·.val)).length<=512:=by rw [ah];omega
   refine mY [7] (by kernel_rfl) (mQ.up (xg (l.map (·.val)) (all_map fun e he=>(h.ok e he).val) hml) GS) (by trivial) ?_
   conv=>whnf
   have hx:=nR (l.map (·.val)) hml
   refine lN.mk (lS (by simp only [ln];omega) (by kernel_rfl)) ?_
   refine lV.i64 (by decide) ?_
   exact lU (2+1) [(6, .lab 8)] [] rfl (by decide) (by decide) ⟨⟨rfl,rfl,aJ.symm⟩,(by trivial),⟨rfl,rfl,rfl⟩,⟨rfl,rfl,rfl⟩,trivial⟩ ⟨rfl,rfl,trivial⟩
  ·refine lV.i64 (by decide) ?_
   exact lU 4 [(2, .lab 6)] [] rfl (by decide) (by decide) ⟨⟨rfl,rfl,rfl⟩,⟨rfl,rfl,rfl⟩,⟨rfl,rfl,rfl⟩,trivial⟩ ⟨rfl,rfl,trivial⟩
 ·conv=>whnf
  have hr:=Jr h
  have hbl:=wE h 4
  have n1:=ni (su l).1
  have n2:=ni (su l).2
  have n3:=ni ((xQ l).length:Int)
  change (xQ l).length<=70000 at hbl
  refine mY [0] (by kernel_rfl) (WH l h) (by trivial) ?_
  refine mY [] (by kernel_rfl) (mQ.up (rE [] (su l).1 hr.1 (by simp)) GS) (by trivial) ?_
  refine mY [3] (by kernel_rfl) (mQ.up (rE (num (su l).1) (su l).2 hr.2 (by omega)) GS) (by trivial) ?_
  conv=>whnf
  have e4:((JX l 4).map oh).length=(xQ l).length:=ah _
  rw [e4]
  refine mY [4] (by kernel_rfl) (mQ.up (rE (num (su l).1++num (su l).2) ((xQ l).length:Int) (nJ (by omega)) (by rw [ak];omega)) GS) (by trivial) ?_
  refine lN.mk (lS (by rw [e4];simp only [ln];omega) (by kernel_rfl)) ?_
  refine lX (bs (Bd l)) 0 [] [] [6] ⟨rfl,rfl,rfl⟩ rfl trivial ⟨rfl,rfl, ?_⟩
  show (num (su l).1++num (su l).2++num ((xQ l).length:Int)).map oh++(xQ l).map oh=(Bd l).map oh
  rw [<-aJ]
  rfl
end
end Go.Proofs.YtocckceefcmeaaaGreatDoor.Cl
namespace Go.Proofs.YtocckceefcmeaaaGreatDoor.Ax
open RowKit Vc Go.Proofs.Tryz
attribute [local irreducible] loadVar storeVar Instr.indexAt Instr.index Instr.sliceAt Instr.makeSlice Instr.lookup Instr.mapUpdate Instr.range Instr.next Instr.entry Instr.makeMap Builtin.append_ Builtin.copy_ Builtin.len_ Builtin.min_ Builtin.max_ Builtin.cap_ Builtin.delete_ Builtin.clear_ convert binOp eqGuard Op.unary Calls
def chN (l:List (List FV))(i:Nat):List (List FV):=(l.drop (16*i)).take 16
def Xg (l:List (List FV)):Nat:=(l.length+15)/16
def TB (l:List (List FV)):List (List AV):=(List.range (Xg l)).map fun i=> [.lst 10 (chN l i)]
theorem ahB (G:Glob)(l:List (List FV))(hl:l.length<=1000000):AIt Tryz.prog G 119 [.fp [.lst 10 l] 0, .fp [.v (.int .i64 16)] 0] (TB l):=by
 intro n σ F vs W lp J hG hF hr hst hkp hy h0
 match vs,hr with
 | [v1,v2],⟨r1,r2,_⟩=>
 cases r1 with
 | fp f1=>
 cases r2 with
 | fp f2=>
 cases f1 with
 | fp _ _ b1 o1 hb1 ali ajw=>
 cases f2 with
 | fp _ _ b2 o2 hb2 alj ajx=>
 obtain⟨x1,hc1,_⟩:=ali 0 Nat.zero_lt_one
 obtain⟨x2,hc2,_⟩:=alj 0 Nat.zero_lt_one
 have hx1:=ajw 0 _ x1 rfl hc1
 have hx2:=ajx 0 _ x2 rfl hc2
 cases hx2
 obtain⟨oa,m,c,rfl⟩ : ∃oa m c,x1 = .slice oa m c:=by cases hx1;exact⟨_,_,_,rfl⟩
 have hm:m=l.length:=by cases hx1;assumption
 subst hm
 refine P6 func119 rfl (by kernel_rfl) (aP rfl) rfl (by kernel_rfl) ?_
 refine tq (X:=Nat) abB (fun i=> [(4, .int .i64 (16*i:Nat))]) (fun i w'=>i<=Xg l∧J i w') (fun i=>Xg l-i) 0 (by kernel_rfl) ⟨rfl,trivial⟩ ⟨au _,h0⟩ ?_
 rintro i w' j ⟨hi,hJ⟩
 obtain⟨k1,k2,k3⟩:=hkp i w' hJ
 have c1:w'.cell? ⟨b1,o1+0,none⟩=some (.slice oa l.length c):=by rw [sU (k3 b1 hb1)];exact hc1
 have c2:w'.cell? ⟨b2,o2+0,none⟩=some (.int .i64 16):=by rw [sU (k3 b2 hb2)];exact hc2
 refine oV rfl c1 ?_
 apply lK<;>intro h
 ·have hlt:16*i<l.length:=by simp at h;omega
  have hin:i<Xg l:=by unfold Xg;omega
  conv=>whnf
  have c1d:w'.drew.cell? ⟨b1,o1+0,none⟩=some (.slice oa l.length c):=c1
  have c2d:w'.drew.cell? ⟨b2,o2+0,none⟩=some (.int .i64 16):=c2
  have hlc:l.length<=c:=by cases hx1;assumption
  (refine qx abC (by kernel_rfl) ?_;conv=>whnf)
  repeat (first
   | (refine oV rfl c1d ?_;conv=>whnf)
   | (refine oV rfl c2d ?_;conv=>whnf)
   | (refine oL.mk rfl ?_;conv=>whnf)
   | (refine Rt (sz:=10) (lo:=16*i) rfl rfl rfl (jO hlt) ?_;conv=>whnf))
  have we:IntKind.i64.wrap (((16*i:Nat):Int)+min 16 ((l.length-16*i:Nat):Int))=((16*i+min 16 (l.length-16*i):Nat):Int):=by
   have e1:(min 16 ((l.length-16*i:Nat):Int))=((min 16 (l.length-16*i):Nat):Int):=by omega
   rw [e1, <-fM]
   exact IntWalk.i64_in _ (by omega)
  rw [we]
  refine pI (zF (E:=95) (sz:=10) (i:=16*i) (j:=16*i+min 16 (l.length-16*i)) (m:=16*i+min 16 (l.length-16*i)) rfl rfl (.inr ⟨_,rfl⟩) (.inr ⟨_,rfl⟩) (.inr ⟨_,rfl⟩) (by omega) (aA _) (by omega)) ?_
  have hJd:J i w'.drew:=hst i w' _ hJ (KE (Below.refl _ _))
  have hch:chN l i=(l.take (16*i+min 16 (l.length-16*i))).drop (16*i):=by
   unfold chN
   rw [gX,show 16*i+min 16 (l.length-16*i)-16*i=min 16 (l.length-16*i) by omega]
   rcases lJ 16 (l.length-16*i)with h|h
   ·rw [dW h]
   ·rw [Nat.min_eq_right h,dD (by rw [aS];exact h),dD (by rw [aS];exact aA _)]
  have hfr:pJ F w'.drew (.lst 10 (chN l i)) (.slice (zn oa (16*i) 10 (16*i+min 16 (l.length-16*i))) (16*i+min 16 (l.length-16*i)-16*i) (16*i+min 16 (l.length-16*i)-16*i)):=by
   rw [hch]
   exact pJ.part (pJ.mono (w':=w'.drew) (fun b hb=>⟨hb,k3 b hb⟩) hx1) (by omega) (by omega) (aA _) (by omega)
  obtain⟨fn,tmps,assign,body,hyr,hR⟩:=hy i [.lst 10 (chN l i)] w'.drew [.slice (zn oa (16*i) 10 (16*i+min 16 (l.length-16*i))) (16*i+min 16 (l.length-16*i)-16*i) (16*i+min 16 (l.length-16*i)-16*i)] (by unfold TB;rw [aU,gV hin];rfl) hJd ⟨.lst hfr,trivial⟩
  refine⟨⟨fn,tmps,assign,body,hyr,RoundIn.mono hR ?_⟩⟩
  rintro e W2 ⟨rfl,hJ2⟩
  refine⟨_,rfl, ?_⟩
  obtain⟨m1,m2,m3⟩:=hkp (i+1) W2 hJ2
  have c3:W2.cell? ⟨b2,o2+0,none⟩=some (.int .i64 16):=by rw [sU (m3 b2 hb2)];exact hc2
  refine oV rfl c3 ?_
  refine rU.mk ⟨_, ?_,(i+1),rfl,⟨?_,trivial⟩,hin,hJ2⟩
  ·show Xg l -(i+1)<Xg l-i;omega
  show Value.int .i64 (IntKind.i64.wrap (((16*i:Nat):Int)+16)) = .int .i64 ((16*(i+1):Nat):Int)
  congr 1
  rw [show ((16*i:Nat):Int)+16=((16*(i+1):Nat):Int) by omega]
  exact IntWalk.i64_in _ (by omega)
 ·have hge:l.length<=16*i:=by simp at h;omega
  have hie:i=Xg l:=by unfold Xg at hi ⊢;omega
  subst hie
  refine⟨?_⟩
  have:(TB l).length=Xg l:=by unfold TB;simp
  rw [this]
  exact hJ
theorem ahC (G:Glob)(l:List (List FV)):mQ Tryz.prog G 86 [.lst 10 l, .v (.int .i64 16)] 0 [] (Is (.fn (.func 119) [] [.fp [.lst 10 l] 0, .fp [.v (.int .i64 16)] 0])):=by
 refine lQ func86 rfl (by kernel_rfl) (by kernel_rfl) ?_
 exact ac4 [(0,41,[.lst 10 l]),(1,3,[.v (.int .i64 16)])] ⟨rfl,rfl,rfl⟩ (fun p hp=>by
  rcases bD.1 hp with rfl|hp
  ·rfl
  ·rw [bF.1 hp];rfl)
end Go.Proofs.YtocckceefcmeaaaGreatDoor.Ax
namespace Go.Proofs.YtocckceefcmeaaaGreatDoor.Cl
open RowKit Vc Ax Ky Go.Proofs.Tryz
attribute [local irreducible] loadVar storeVar Instr.indexAt Instr.index Instr.sliceAt Instr.makeSlice Instr.lookup Instr.mapUpdate Instr.range Instr.next Instr.entry Instr.makeMap Builtin.append_ Builtin.copy_ Builtin.len_ Builtin.min_ Builtin.max_ Builtin.cap_ Builtin.delete_ Builtin.clear_ convert binOp eqGuard Op.unary Calls
section
attribute [local irreducible] best ints en bd rF dsT
structure EvV (e:Ev):Prop where
 s1:e.client.length<=200
 s2:e.id.length<=200
 s3:e.name.length<=200
 s4:e.other.length<=200
 tm : -4611686018427387904<=e.time∧e.time<=4611686018427387904
theorem ajy {e:Ev}(h:Bc e=0):EvV e:=by
 have key : ∀s:By,OD s=true->s.length<=200:=fun s hs=>by
  have:(⟨s.toArray⟩:ByteArray).size<=32:=Wn hs
  have e:(⟨s.toArray⟩:ByteArray).size=s.length:=rfl
  omega
 unfold Bc at h
 split at h
 ·simp at h
 rename_i h1
 split at h
 ·simp at h
 rename_i h2
 split at h
 ·simp at h
 rename_i h3
 split at h
 ·simp at h
 split at h
 ·simp at h
 split at h
 ·simp at h
 rename_i h4
 have h1:e.kind=1∨e.kind=2∨e.kind=3:=fP h1
 have k1:OD e.client=true:=by cases hk:OD e.client<;>simp_all
 have k2:OD e.id=true:=by cases hk:OD e.id<;>simp_all
 refine⟨key _ k1,key _ k2, ?_, ?_,by omega⟩
 ·rcases h1 with c|c|c
  ·exact key _ (by cases hk:OD e.name<;>simp_all)
  ·exact key _ (by cases hk:OD e.name<;>simp_all)
  ·have:e.name = []:=fP fun hn=>h4 (.inr (.inr ⟨c, .inl hn⟩))
   rw [this];simp
 ·rcases h1 with c|c|c
  ·have:e.other = []:=fP fun hn=>h4 (.inl ⟨c, .inl hn⟩)
   rw [this];simp
  ·have:e.other = []:=fP fun hn=>h4 (.inr (.inl ⟨c, .inl hn⟩))
   rw [this];simp
  ·exact key _ (by cases hk:OD e.other<;>simp_all)
def ch (l:List Ev)(i:Nat):List Ev:=(l.drop (16*i)).take 16
def nC (l:List Ev):Nat:=(l.length+15)/16
def zU (l:List Ev)(i:Nat):By:=num (l.length:Int)++(List.range i).flatMap fun j=>Bd (ch l j)
def tab (l:List Ev):By:=zU l (nC l)
def wF (l:List Ev):Int:=match l with | []=>0|e::r=>if Bc e≠0 then Bc e else wF r
def uN (l:List Ev):Int:=if 512<l.length then 5 else wF l
def Dt (l:List Ev):By:=if uN l=0 then tab l else []
theorem LH {l:List Ev}{i:Nat}(hi:i<l.length)(h:wF (l.take i)=0):wF (l.take (i+1))=Bc l[i]∧(Bc l[i]≠0->wF l=Bc l[i]):=by
 induction l generalizing i with
 | nil=>simp at hi
 | cons e r ih=>
  cases i with
  | zero=>
   simp only [iL,jv,wF,kR]
   by_cases hc:Bc e=0
   ·simp [hc]
   ·simp [hc]
  | succ i=>
   simp only [iL,wF,kS]at h ⊢
   by_cases hc:Bc e=0
   ·simp only [hc,ne_eq,not_true,if_false]at h ⊢
    exact ih (by simpa using hi) h
   ·simp only [hc,ne_eq,not_false_eq_true,if_true]at h
theorem Du {l:List Ev}(h:wF l=0) : ∀e∈l,Bc e=0:=by
 induction l with
 | nil=>intro e he;cases he
 | cons x r ih=>
  unfold wF at h
  by_cases hc:Bc x=0
  ·rw [if_neg (by simp [hc])]at h
   intro e he
   rcases bD.1 he with rfl|he
   ·exact hc
   ·exact ih h e he
  ·rw [if_pos hc]at h;exact absurd h hc
theorem NZ {l:List Ev}(hok : ∀e∈l,e.ok)(hv : ∀e∈l,Bc e=0){i:Nat}(hi:i<nC l):U6 (ch l i):=by
 have sub : ∀e∈ch l i,e∈l:=fun e he=>ig (fD he)
 have hV : ∀e∈ch l i,EvV e:=fun e he=>ajy (hv e (sub e he))
 refine⟨fun h0=> ?_,by unfold ch;rw [aK];omega,fun e he=>hok e (sub e he),fun e he=>(hV e he).s1,fun e he=>(hV e he).s2,fun e he=>(hV e he).s3,fun e he=>(hV e he).s4,fun e he=>(hV e he).tm⟩
 have:=congrArg List.length h0
 unfold ch at this
 rw [aK,aS]at this
 unfold nC at hi
 simp at this
 omega
theorem aeb (l:List Ev)(i:Nat):chN (l.map rO) i=(ch l i).map rO:=by unfold chN ch;rw [dU,bI]
theorem EO (l:List Ev)(i:Nat):zU l (i+1)=zU l i++Bd (ch l i):=by
 unfold zU;rw [iQ,iZ];simp
theorem N7 {l:List Ev}(h:U6 l):(Bd l).length<=70040:=by
 have:=wE h 4
 change (xQ l).length<=70000 at this
 have n1:=ni (su l).1
 have n2:=ni (su l).2
 have n3:=ni ((xQ l).length:Int)
 unfold Bd
 simp only [ak]
 omega
theorem Js {l:List Ev}(hok : ∀e∈l,e.ok)(hv : ∀e∈l,Bc e=0) : ∀i,i<=nC l->(zU l i).length<=10+70040*i:=by
 intro i
 induction i with
 | zero=>intro _;have:=ni (l.length:Int);unfold zU;simp;omega
 | succ i ih=>
  intro hi
  have h1:=ih (by omega)
  have h2:=N7 (NZ hok hv (show i<nC l by omega))
  rw [EO,ak]
  omega
theorem Dv (l:List Ev)(hok : ∀e∈l,e.ok)(hl:l.length<=1000000):mQ Tryz.prog GS 56 [el l] 0 [] (Is (.nN [bs (Dt l),iv (uN l)])):=by
 refine ac2 func56 rfl mixed (by kernel_rfl) ?_
 apply lK<;>intro h
 ·have h5:512<l.length:=by simp at h;omega
  refine lX (.nN [bs (Dt l),iv (uN l)]) 0 [] [] [] ⟨rfl,rfl,rfl⟩ rfl trivial ?_
  unfold Dt uN
  simp only [h5,if_true]
  exact⟨rfl,rfl,trivial⟩
 have h5:l.length<=512:=by simp at h;omega
 have e5:uN l=wF l:=by unfold uN;rw [if_neg (by omega)]
 refine mO agq 0 [14] (fun i:Nat=> [(14,iv i)]) (fun _=> []) (fun i=>i<=l.length∧wF (l.take i)=0) (fun i=>l.length-i) [] [] 0 (by kernel_rfl) (fun _=>rfl) rfl ⟨au _,rfl⟩ trivial ⟨rfl,trivial⟩ ?_
 rintro i ⟨hi,hz⟩
 apply lK<;>intro h
 ·have hlt:i<l.length:=by simp at h;omega
  have hk:=LH hlt hz
  refine mZ.mk' i rfl (pU hlt) ?_
  refine mD.lT (aj hlt) ?_
  (refine mF [] (by kernel_rfl) (ad7 l[i] (hok _ (aT hlt))) rfl ?_ ?_;(focus trivial))
  generalize Bc l[i]=c at *
  apply lK<;>intro h
  ·have hc:c≠0:=by simpa using h
   refine lX (.nN [bs (Dt l),iv (uN l)]) 0 [] [] [] ⟨rfl,rfl,rfl⟩ rfl trivial ?_
   have e6:uN l=c:=by rw [e5];exact hk.2 hc
   unfold Dt
   rw [e6,if_neg hc]
   exact⟨rfl,rfl,trivial⟩
  ·have hc:c=0:=by simpa using h
   refine lV.i64 (by omega) ?_
   exact lU (i+1) [] [] rfl (by show l.length -(i+1)<l.length-i;omega) ⟨hlt,hk.1.trans hc⟩ trivial ⟨rfl,trivial⟩
 have hie:i=l.length:=by simp at h;omega
 subst hie
 rw [aW]at hz
 have hv:=Du hz
 rw [hz]at e5
 have etb:Dt l=tab l:=by unfold Dt;rw [if_pos e5]
 rw [etb,e5]
 conv=>whnf
 rw [ah]
 refine mY [] (by kernel_rfl) (mQ.up (rE [] (l.length:Int) (nJ (by omega)) (by simp)) GS) (by trivial) ?_
 refine mY [] (by kernel_rfl) (ahC GS (l.map rO)) (by trivial) ?_
 conv=>whnf
 have hnC:(TB (l.map rO)).length=nC l:=by unfold TB Xg nC;simp
 refine ag0 (ahB GS (l.map rO) (by rw [ah];omega)) 3 (fun i=> [(1, .var 22 [.own 2]),(2, .rows 5 1 ((zU l i).map oh))]) [(2, .lab 0)] [] rfl (by kernel_rfl) rfl (fun x hx=> ?_) rfl ⟨⟨rfl,rfl,trivial⟩,⟨rfl,rfl, ?_⟩,trivial⟩ (fun i x hx=> ?_) ?_
 ·obtain⟨j,_,rfl⟩:=eP.1 hx
  rfl
 ·show ([]++num (l.length:Int)).map oh=(zU l 0).map oh
  unfold zU
  simp
 ·have hlt:i<nC l:=by
   rw [<-hnC]
   exact(aO.1 hx).1
  have hx':x = [.lst 10 ((ch l i).map rO)]:=by
   unfold TB at hx
   rw [aU,gV (by unfold Xg;rw [ah];exact hlt)]at hx
   injection hx with hx
   rw [<-hx];show [AV.lst 10 (chN (l.map rO) i)]=_;rw [aeb]
  subst hx'
  conv=>whnf
  have Kt:=NZ hok hv hlt
  have hcl:=N7 Kt
  have hta:=Js hok hv i (by omega)
  have hnc:nC l<=32:=by unfold nC;omega
  (refine mP aiR [] (by kernel_rfl) ?_;conv=>whnf)
  repeat' (first
   | (refine And.intro ?_ ?_<;>(conv=>whnf))
   | ((refine nO [] (by kernel_rfl) (aea (ch l i) Kt) ?_ ?_;(focus trivial));rintro _ _ _ ⟨rfl,rfl,rfl⟩;conv=>whnf)
   | (refine lN.mk (lS (by simp only [ah];omega) (by kernel_rfl)) ?_;conv=>whnf))
  refine ag1 [(2, .lab 3)] [] rfl ⟨⟨rfl,rfl,trivial⟩,⟨rfl,rfl, ?_⟩,trivial⟩
  rw [EO,aJ]
 ·rw [hnC]
  exact lX (.nN [bs (tab l),iv 0]) 0 [] [] [2] ⟨rfl,rfl,rfl⟩ rfl trivial ⟨⟨rfl,rfl,rfl⟩,rfl,trivial⟩
end
section
attribute [local irreducible] best ints en bd rF dsT
def z0:Ev:=⟨[],0,0,0,[],[],[],0,0,0⟩
def mg (s:Nat)(x:Ev):Ev:=
 ⟨if 0<s then x.client else [],if 1<s then x.seq else 0,if 2<s then x.kind else 0,if 3<s then x.time else 0,if 4<s then x.id else [],if 5<s then x.name else [],if 6<s then x.other else [],if 7<s then x.ver else 0,if 8<s then x.arm else 0,if 9<s then x.val else 0⟩
def cols (c:List Ev):List By:= [rF (c.map (·.client)),ints (c.map (·.seq)),ints (c.map (·.kind)),ints (c.map (·.time)),rF (c.map (·.id)),rF (c.map (·.name)),rF (c.map (·.other)),ints (c.map (·.ver)),ints (c.map (·.arm)),ints (c.map (·.val))]
def rs (s:Nat)(c:List Ev):By:=((cols c).drop s).flatten
theorem ZX (c:List Ev):xQ c=rs 0 c:=by simp [xQ,rs,cols]
def Q7 (b:By)(n:Nat)(Q:List Ev->By->Prop):Prop:= ∀c r,U6 c->c.length=n->b=Bd c++r->Q c r
structure Dw (b:By)(n:Nat)(l:List Ev)(k:Nat)(ok:Bool):Prop where
 good:ok=true->l.length=n∧(∀e∈l,e.ok)∧k<=b.length
 bad:ok=false->l = []∧k=0
 full:Q7 b n fun c _=>ok=true∧l=c∧k=(Bd c).length
theorem Dw.no {b:By}{n:Nat}(h:Q7 b n fun _ _=>False):Dw b n [] 0 false:=⟨(fun h=>by cases h),fun _=>⟨rfl,rfl⟩,fun c r h1 h2 h3=>(h c r h1 h2 h3).elim⟩
structure KR (b:By)(n:Nat)(s:Nat)(l:List Ev)(body:By):Prop where
 len:l.length=n
 ok : ∀e∈l,e.ok
 sz:body.length<=100000
 full:Q7 b n fun c _=>l=c.map (mg s)∧body=rs s c
def wz {α:Type}(g:Ev->α->Ev)(l:List Ev)(s:List α)(i:Nat):List Ev:=List.zipWith g (l.take i) (s.take i)++l.drop i
theorem vF {α:Type}(g:Ev->α->Ev)(l:List Ev)(s:List α):wz g l s 0=l:=by simp [wz]
theorem yu {α:Type}(g:Ev->α->Ev)(l:List Ev)(s:List α)(i:Nat)(h:s.length=l.length):(wz g l s i).length=l.length:=by simp [wz];omega
theorem yw {α:Type}(g:Ev->α->Ev)(l:List Ev)(s:List α)(h:s.length=l.length):wz g l s l.length=List.zipWith g l s:=by
 unfold wz;rw [aW,iI,bY, <-h,aW]
theorem Bf {α:Type}(g:Ev->α->Ev)(l:List Ev)(s:List α)(i:Nat)(hi:i<l.length)(h:s.length=l.length):(wz g l s i)[i]? = some l[i]:=by
 unfold wz
 have hz:(List.zipWith g (l.take i) (s.take i)).length=i:=by simp;omega
 rw [dG (by omega),hz,gQ,dA,dS,aj hi]
theorem yx {α:Type}(g:Ev->α->Ev)(l:List Ev)(s:List α)(i:Nat)(hi:i<l.length)(h:s.length=l.length):(wz g l s i).set i (g l[i] (s[i]'(by omega)))=wz g l s (i+1):=by
 have his:i<s.length:=by omega
 have hz:(List.zipWith g (l.take i) (s.take i)).length=i:=by simp;omega
 unfold wz
 rw [iH _ _ (by omega),hz,gQ,aG hi,aG his,List.zipWith_append (by simp;omega)]
 have e:List.drop i l=l[i]::List.drop (i+1) l:=dI hi
 rw [e]
 show _++(g l[i] s[i]::List.drop (i+1) l)=(_++ [g l[i] s[i]])++_
 rw [aH];rfl
theorem afh {α:Type}{g:Ev->α->Ev}{l:List Ev}{s:List α}(hl : ∀e∈l,e.ok)(hg : ∀e∈l, ∀v∈s,(g e v).ok) : ∀e∈List.zipWith g l s,e.ok:=by
 intro e he
 obtain⟨i,hi,rfl⟩:=jc he
 rw [List.getElem_zipWith]
 simp at hi
 exact hg _ (aT _) _ (aT _)
theorem zip_map {α:Type}(g:Ev->α->Ev)(c:List Ev)(a:Ev->Ev)(f:Ev->α):List.zipWith g (c.map a) (c.map f)=c.map fun x=>g (a x) (f x):=by
 induction c with
 | nil=>rfl
 | cons x r ih=>simp [ih]
theorem GR (s:Nat)(c:List Ev)(x:By)(h:(cols c)[s]? = some x):rs s c=x++rs (s+1) c:=by
 unfold rs
 obtain⟨hs,rfl⟩:=aO.1 h
 rw [dI hs];rfl
theorem ajz:z0.ok:=by
 refine⟨?_, ?_, ?_, ?_, ?_, ?_, ?_, ?_, ?_, ?_⟩<;>first|(unfold z0 I64;simp;done)|(unfold z0;simp)
theorem KR.txt {b:By}{n s:Nat}{l:List Ev}{body:By}(h:KR b n s l body)(g:Ev->By->Ev)(f:Ev->By)(hf : ∀c,(cols c)[s]? = some (rF (c.map f)))(hg : ∀x:Ev,g (mg s x) (f x)=mg (s+1) x)
  (hok : ∀e v,e.ok->v.length<=200->(g e v).ok) (hs : ∀c,U6 c->∀e∈c,(f e).length<=200) {t:Tx} {k:Nat} {e:Int} (hR:OC body t k e) :
  (e=0->t.length=n->KR b n (s+1) (List.zipWith g l t) (body.drop k)∧k<=body.length)∧(Q7 b n fun _ _=>e=0∧t.length=n):=by
 obtain⟨r1,r2,r3,r4⟩:=hR
 have key:Q7 b n fun c _=>e=0∧t=c.map f∧body.drop k=rs (s+1) c:=fun c r hc hn hb=>by
  obtain⟨_,hbody⟩:=h.full c r hc hn hb
  have hb2:body=rF (c.map f)++rs (s+1) c:=by rw [hbody,GR s c _ (hf c)]
  have hcl:=hc.len
  have:=r4 (c.map f) (rs (s+1) c) (by rw [ah];omega) (oQ (hs c hc)) hb2
  refine⟨this.1,this.2, ?_⟩
  rcases r3 with ⟨_,hk,_⟩|⟨h1,_⟩
  ·rw [hk,this.2,hb2,eY rfl]
  ·have:=this.1;omega
 refine⟨fun he ht=> ?_,fun c r hc hn hb=> ?_⟩
 ·have hk:k<=body.length:=by
   rcases r3 with ⟨_,hk,hp⟩|⟨h1,_⟩
   ·rw [hk]
    have:=congrArg List.length hp
    rw [aK]at this
    omega
   ·omega
  refine⟨⟨?_,afh h.ok fun x hx v hv=>hok x v (h.ok x hx) (r1 v hv),by rw [aS];have:=h.sz;omega,fun c r hc hn hb=> ?_⟩,hk⟩
  ·rw [List.length_zipWith,h.len,ht];omega
  ·obtain⟨h1,_⟩:=h.full c r hc hn hb
   obtain⟨_,k2,k3⟩:=key c r hc hn hb
   refine⟨?_,k3⟩
   rw [h1,k2,zip_map]
   exact jD fun x _=>hg x
 ·obtain⟨k1,k2,_⟩:=key c r hc hn hb
  exact⟨k1,by rw [k2,ah,hn]⟩
theorem KR.num {b:By}{n s:Nat}{l:List Ev}{body:By}(h:KR b n s l body)(g:Ev->Int->Ev)(f:Ev->Int)(hf : ∀c,(cols c)[s]? = some (ints (c.map f)))(hg : ∀x:Ev,g (mg s x) (f x)=mg (s+1) x)
  (hok : ∀e v,e.ok->I64 v->(g e v).ok) (hs : ∀c,U6 c->∀e∈c,I64 (f e)) {t:Li} {k:Nat} {e:Int} (hR:Ji body t k e) :
  (e=0->t.length=n->KR b n (s+1) (List.zipWith g l t) (body.drop k)∧k<=body.length)∧(Q7 b n fun _ _=>e=0∧t.length=n):=by
 obtain⟨r1,r2,r3,r4⟩:=hR
 have key:Q7 b n fun c _=>e=0∧t=c.map f∧body.drop k=rs (s+1) c:=fun c r hc hn hb=>by
  obtain⟨_,hbody⟩:=h.full c r hc hn hb
  have hb2:body=ints (c.map f)++rs (s+1) c:=by rw [hbody,GR s c _ (hf c)]
  have hcl:=hc.len
  have:=r4 (c.map f) (rs (s+1) c) (all_map (hs c hc)) (by rw [ah];omega) hb2
  refine⟨this.1,this.2, ?_⟩
  rcases r3 with ⟨_,hk,_⟩|⟨h1,_⟩
  ·rw [hk,this.2,hb2,eY rfl]
  ·have:=this.1;omega
 refine⟨fun he ht=> ?_,fun c r hc hn hb=> ?_⟩
 ·have hk:k<=body.length:=by
   rcases r3 with ⟨_,hk,hp⟩|⟨h1,_⟩
   ·rw [hk]
    have:=congrArg List.length hp
    rw [aK]at this
    omega
   ·omega
  refine⟨⟨?_,afh h.ok fun x hx v hv=>hok x v (h.ok x hx) (r1 v hv),by rw [aS];have:=h.sz;omega,fun c r hc hn hb=> ?_⟩,hk⟩
  ·rw [List.length_zipWith,h.len,ht];omega
  ·obtain⟨h1,_⟩:=h.full c r hc hn hb
   obtain⟨_,k2,k3⟩:=key c r hc hn hb
   refine⟨?_,k3⟩
   rw [h1,k2,zip_map]
   exact jD fun x _=>hg x
 ·obtain⟨k1,k2,_⟩:=key c r hc hn hb
  exact⟨k1,by rw [k2,ah,hn]⟩
end
section
attribute [local irreducible] best ints en bd rF dsT
theorem heads (b:By)(n:Nat)(M:Int)(hM0:0<=M)(hM : ∀c r,U6 c->b=Bd c++r->((xQ c).length:Int)<=M)(x1 x2 x3 e1 e2 e3:Int)(k1 k2 k3:Nat)(h1:ny b 0=(x1,k1,e1))(h2:ny (b.drop k1) e1=(x2,k2,e2))(h3:qg ((b.drop k1).drop k2) e2 M 5=(x3,k3,e3)) :
  I64 x1∧I64 x2∧0<=x3∧x3<=M∧(e3=0->∃rest,b=num x1++(num x2++(num x3++rest)))∧Q7 b n fun c r=>e3=0∧x1=(su c).1∧x2=(su c).2∧x3=((xQ c).length:Int):=by
 have o1:=oN b 0
 have o2:=oN (b.drop k1) e1
 have o3:=oN ((b.drop k1).drop k2) e2
 have o4:=rW ((b.drop k1).drop k2) e2 M 5 hM0 (by decide)
 rw [h1]at o1
 rw [h2]at o2
 rw [h3]at o4
 simp only at o1 o2 o4
 refine⟨o1.1,o2.1,o4.1,o4.2.1,fun he=> ?_,fun c r hc hn hb=> ?_⟩
 ·obtain⟨q1,q2⟩:=o4.2.2.2 he
  obtain⟨p1,p2,p3⟩:=o3.2.2.1 q1
  obtain⟨u1,u2,u3⟩:=o2.2.2.1 p1
  obtain⟨v1,v2,v3⟩:=o1.2.2.1 u1
  refine⟨((b.drop k1).drop k2).drop (ny ((b.drop k1).drop k2) e2).2.1, ?_⟩
  rw [q2, <-p2, <-u2]
  exact v2
 ·have hr:=Jr hc
  have hbl:=wE hc 4
  change (xQ c).length<=70000 at hbl
  have hb1:b=num (su c).1++(num (su c).2++(num ((xQ c).length:Int)++(xQ c++r))):=by rw [hb];unfold Bd;simp only [aH]
  have a1:=Lm (b:=b) (e:=0) hr.1 rfl hb1
  rw [h1]at a1
  simp only at a1
  obtain⟨a1,a2,a3⟩:=a1
  have b1:=Lm (b:=b.drop k1) (e:=e1) hr.2 a2 a3
  rw [h2]at b1
  simp only at b1
  obtain⟨b1,b2,b3⟩:=b1
  have c1:=Lm (b:=(b.drop k1).drop k2) (e:=e2) (nJ (by omega:(xQ c).length<=9223372036854775807)) b2 b3
  have hle:=hM c r hc hb
  have c2:=Jl (em:=5) c1.1 c1.2.1 hle
  rw [h3]at c2
  injection c2 with c2 c3
  injection c3 with c3 c4
  exact⟨c4,a1,b1,c2⟩
structure TR where
 l:List Ev
 body:By
 i:Nat
def stg (i:Nat):Nat:=match i with|0=>0|1=>4|2=>5|3=>6|_=>10
def RCa (b:By)(n:Nat)(a:AV)(m:Nat)(H:lM):Prop:= ∃l k ok,Dw b n l k ok∧a = .nN [el l,iv (k:Nat),bv ok]∧m=0∧H = []
theorem ahE (n:Nat):List.replicate n (rO z0)=(List.replicate n z0).map rO:=by simp
theorem TD (b:By)(n:Nat)(hb:b.length<=100000)(hn:n<=16):mQ Tryz.prog GS 110 [bs b,iv n] 0 [] (RCa b n):=by
 have hN1:=mQ.up (uK b 0 (by omega)) GS
 obtain⟨⟨x1,k1,e1⟩,h1⟩ : ∃t,ny b 0=t:=⟨_,rfl⟩
 rw [h1]at hN1
 have Xh:=mQ.up (uK (b.drop k1) e1 (qh (by omega))) GS
 obtain⟨⟨x2,k2,e2⟩,h2⟩ : ∃t,ny (b.drop k1) e1=t:=⟨_,rfl⟩
 rw [h2]at Xh
 have hC:=mQ.up (EM ((b.drop k1).drop k2) e2 (b.length:Int) (qh (qh (by omega))) (by omega)) GS
 obtain⟨⟨x3,k3,e3⟩,h3⟩ : ∃t,qg ((b.drop k1).drop k2) e2 (b.length:Int) 5=t:=⟨_,rfl⟩
 rw [h3]at hC
 simp only at hN1 Xh hC
 obtain⟨i1,i2,p3,q3,ZY,hfull⟩:=heads b n (b.length:Int) (by omega) (fun c r _ h=>by rw [h];unfold Bd;simp only [ak];omega) x1 x2 x3 e1 e2 e3 k1 k2 k3 h1 h2 h3
 clear h1 h2 h3
 obtain⟨sz,rfl⟩ : ∃sz:Nat,x3=(sz:Int):=⟨x3.toNat,by omega⟩
 generalize b.drop k1=b1 at *
 generalize b1.drop k2=b2 at *
 generalize b2.drop k3=b3 at *
 refine lQ func110 rfl mixed (by kernel_rfl) ?_
 refine mY [] (by kernel_rfl) (mQ.up (NT b (by omega)) GS) (by trivial) ?_
 refine pW [0] [] (by kernel_rfl) hN1 rfl (by trivial) (by trivial) rfl ?_
 refine pW [0] [] (by kernel_rfl) Xh rfl (by trivial) (by trivial) rfl ?_
 conv=>whnf
 rw [ah]
 refine pW [0] [] (by kernel_rfl) hC rfl (by trivial) (by trivial) rfl ?_
 refine pW [0] [] (by kernel_rfl) (mQ.up (Dn b3 e3) GS) rfl (by trivial) (by trivial) rfl ?_
 apply lK<;>intro h
 ·have he:e3≠0:=by simpa using h
  exact lX (.nN [el [],iv (0:Nat),bv false]) 0 [] [] [] ⟨[],0,false,Dw.no fun c r h1 h2 h3=>he (hfull c r h1 h2 h3).1,rfl,rfl,rfl⟩ rfl trivial (by trivial)
 have he:e3=0:=by simpa using h
 subst he
 obtain⟨rest,hrest⟩:=ZY rfl
 have n1:=(ni x1).2
 have n2:=(ni x2).2
 have n3:=(ni (sz:Int)).2
 refine mY [] (by kernel_rfl) (mQ.up (rE [] x1 i1 (by simp)) GS) (by trivial) ?_
 refine mY [1] (by kernel_rfl) (mQ.up (rE (num x1) x2 i2 (by omega)) GS) (by trivial) ?_
 refine mY [2] (by kernel_rfl) (mQ.up (rE (num x1++num x2) (sz:Int) (nJ (by omega)) (by rw [ak];omega)) GS) (by trivial) ?_
 conv=>whnf
 obtain⟨hd,hhd⟩ : ∃hd,num x1++num x2++num (sz:Int)=hd:=⟨_,rfl⟩
 rw [hhd]
 have hb0:b=hd++rest:=by rw [<-hhd,hrest];simp only [aH]
 have hbl:=congrArg List.length hb0
 rw [ak]at hbl
 have TF:Q7 b n fun c r=>sz=(xQ c).length∧Bd c=hd++xQ c∧rest=xQ c++r:=fun c r h1 h2 h3=>by
  obtain⟨_,f1,f2,f3⟩:=hfull c r h1 h2 h3
  have f4:sz=(xQ c).length:=by omega
  have f5:Bd c=hd++xQ c:=by rw [<-hhd,f1,f2,f4];rfl
  refine⟨f4,f5, ?_⟩
  rw [hb0,f5,aH]at h3
  exact bM h3
 clear hfull ZY hrest hhd
 refine lV.i64 (by simp only [ah];omega) ?_
 apply lK<;>intro h
 ·have hgt:rest.length<sz:=by simp only [ah,gt_iff_lt,decide_eq_true_eq]at h;omega
  exact lX (.nN [el [],iv (0:Nat),bv false]) 0 [] [] [] ⟨[],0,false,Dw.no fun c r h1 h2 h3=>by
   obtain⟨f1,_,f3⟩:=TF c r h1 h2 h3
   have:=congrArg List.length f3
   rw [ak]at this
   omega,rfl,rfl,rfl⟩ rfl trivial (by trivial)
 have hle:sz<=rest.length:=by simp only [ah,gt_iff_lt,decide_eq_false_iff_not]at h;omega
 refine KG.mk' (qY:=112) n rfl rfl (by unfold maxLen;omega) ?_
 refine lV.i64 (by simp only [ah];omega) ?_
 refine sN.mk' hd.length (hd.length+sz) (by rw [ah]) (by rw [ah];omega) (by omega) (by rw [ah];omega) ?_
 conv=>whnf
 have hcut:((b.map oh).take (hd.length+sz)).drop hd.length=(rest.take sz).map oh:=by
  rw [<-dU, <-bI,hb0,gX,eY rfl,jJ]
 have hK0:KR b n 0 (List.replicate n z0) (rest.take sz):=by
  refine⟨by simp,fun e he=> ?_, ?_,fun c r h1 h2 h3=> ?_⟩
  ·rw [iY he];exact ajz
  ·rw [aK];omega
  ·obtain⟨f1,_,f3⟩:=TF c r h1 h2 h3
   refine⟨?_, ?_⟩
   ·rw [show mg 0=fun _=>z0 from rfl,List.map_const',h2]
   ·rw [f3,f1,dZ rfl,ZX]
 refine mY [] (by kernel_rfl) (Qx) (by trivial) ?_
 refine mO aby 6 [13,62] (fun x:TR=> [(13,bs x.body),(62,iv x.i)]) (fun x=> [(5, .rows 160 2 oq),(4, .rows 95 10 (x.l.map rO))]) (fun x=>x.i<=4∧KR b n (stg x.i) x.l x.body) (fun x=>4-x.i) [] [] ⟨List.replicate n z0,rest.take sz,0⟩ (by kernel_rfl) (fun _=>rfl) rfl ⟨au _,hK0⟩ ⟨⟨rfl,rfl,rfl⟩,⟨rfl,rfl,ahE n⟩,trivial⟩ ⟨⟨rfl,hcut⟩,rfl,trivial⟩ ?_
 rintro⟨l,body,i⟩ ⟨hi,hK⟩
 change i<=4 at hi
 change KR b n (stg i) l body at hK
 have hbody:=hK.sz
 have hll:=hK.len
 have hcs:i=0∨i=1∨i=2∨i=3∨i=4:=by omega
 rcases hcs with rfl|rfl|rfl|rfl|rfl
 ·refine mZ.mk' 0 rfl (by decide) ?_
  refine mD.at rfl ?_
  (refine nO [] (by kernel_rfl) (mQ.up (y8 body hbody) GS) ?_ ?_;(focus trivial))
  rintro _ _ _ ⟨t,q,e,hR,rfl,rfl,rfl⟩
  have hstep:=hK.txt (fun e v=> {e with client:=v}) (·.client) (fun _=>rfl) (fun _=>rfl) (fun e v he hv=>⟨he.seq,he.kind,he.time,he.ver,he.arm,he.val,by first|exact he.client|(show v.length<=_;omega),by first|exact he.id|(show v.length<=_;omega),by first|exact he.name|(show v.length<=_;omega),by first|exact he.other|(show v.length<=_;omega)⟩) (fun c hc=>hc.s1) hR
  apply lK<;>intro h
  ·have he:e≠0:=by simpa using h
   exact lX (.nN [el [],iv (0:Nat),bv false]) 0 [] [] [] ⟨[],0,false,Dw.no fun c r h1 h2 h3=>he (hstep.2 c r h1 h2 h3).1,rfl,rfl,rfl⟩ rfl trivial (by trivial)
  have he:e=0:=by simpa using h
  apply lK<;>intro h
  ·have ht:t.length≠n:=by simp at h;omega
   exact lX (.nN [el [],iv (0:Nat),bv false]) 0 [] [] [] ⟨[],0,false,Dw.no fun c r h1 h2 h3=>ht (hstep.2 c r h1 h2 h3).2,rfl,rfl,rfl⟩ rfl trivial (by trivial)
  have ht:t.length=n:=by simp at h;omega
  obtain⟨hK1,hq⟩:=hstep.1 he ht
  have htl:t.length=l.length:=by omega
  clear hstep hR
  refine sN.mk' q body.length rfl (by rw [ah]) hq (by rw [ah];exact aA _) ?_
  refine mO Gm 7 [85] (fun k:Nat=> [(85,iv k)]) (fun k=> [(6, .var 160 ((oq.getD 0 []).map FV.up)),(5, .rows 160 2 oq),(4, .rows 95 10 ((wz (fun e v=> {e with client:=v}) l t k).map rO))]) (fun k=>k<=l.length) (fun k=>l.length-k) [] [] 0 (by kernel_rfl) (fun _=>rfl) rfl (au _) ⟨(by trivial),⟨rfl,rfl,rfl⟩,⟨rfl,rfl,by rw [vF]⟩,trivial⟩ ⟨rfl,trivial⟩ ?_
  intro k hk
  refine lK (fun hb=> ?_) (fun hb=> ?_)
  ·have hlt:k<l.length:=by simp at hb;omega
   have hlt2:k<t.length:=by omega
   (refine mP xZ [] (by kernel_rfl) ?_;conv=>whnf)
   refine mZ.mk' k rfl (by rw [ah,yu _ _ _ _ htl];exact hlt) ?_
   refine mZ.mk' k rfl (pU hlt2) ?_
   refine mD.lT (aj hlt2) ?_
   (refine pR (by kernel_rfl) (lQ func143 rfl mixed (by kernel_rfl) ?_);(conv=>whnf))
   refine uq (.ep 4 k 0) ?_ rfl ?_ ?_
   rotate_left
   ·trivial
   ·trivial
   refine mD.lT (Bf _ l t k hlt htl) ?_
   refine lV.i64 (by omega) ?_
   refine lU (k+1) [] [] rfl (by show l.length -(k+1)<l.length-k;omega) hlt ⟨(by trivial),⟨rfl,rfl,rfl⟩,⟨rfl,rfl, ?_⟩,trivial⟩ ⟨rfl,trivial⟩
   rw [<-yx _ l t k hlt htl,bT]
   rfl
  have hke:k=l.length:=by simp only [ah,decide_eq_false_iff_not]at hb;omega
  subst hke
  rw [yw _ l t htl]
  refine mO Gn 7 [13,103] (fun x:TR=> [(13,bs x.body),(103,iv x.i)]) (fun x=> [(6, .var 160 ((oq.getD 0 []).map FV.up)),(5, .rows 160 2 oq),(4, .rows 95 10 (x.l.map rO))]) (fun x=>x.i<=3∧KR b n (1+x.i) x.l x.body) (fun x=>3-x.i) [] [] ⟨_,body.drop q,0⟩ (by kernel_rfl) (fun _=>rfl) rfl ⟨au _,hK1⟩ ⟨(by trivial),⟨rfl,rfl,rfl⟩,⟨rfl,rfl,rfl⟩,trivial⟩ ⟨⟨rfl,bI.symm⟩,rfl,trivial⟩ ?_
  clear hK1 hq htl ht he hK hbody hll
  rintro⟨l,body,j⟩ ⟨hj,hK⟩
  change j<=3 at hj
  change KR b n (1+j) l body at hK
  have hbody:=hK.sz
  have hll:=hK.len
  have hcj:j=0∨j=1∨j=2∨j=3:=by omega
  rcases hcj with rfl|rfl|rfl|rfl
  ·refine mZ.mk' 0 rfl (by decide) ?_
   refine mD.at rfl ?_
   (refine nO [] (by kernel_rfl) (mQ.up (uX body hbody) GS) ?_ ?_;(focus trivial))
   rintro _ _ _ ⟨t,q,e,hR,rfl,rfl,rfl⟩
   have hstep:=hK.num (fun e v=> {e with seq:=v}) (·.seq) (fun _=>rfl) (fun _=>rfl) (fun e v he hv=>⟨by first|exact he.seq|exact hv,by first|exact he.kind|exact hv,by first|exact he.time|exact hv,by first|exact he.ver|exact hv,by first|exact he.arm|exact hv,by first|exact he.val|exact hv,he.client,he.id,he.name,he.other⟩) (fun c hc e he=>(hc.ok e he).seq) hR
   apply lK<;>intro h
   ·have he:e≠0:=by simpa using h
    exact lX (.nN [el [],iv (0:Nat),bv false]) 0 [] [] [] ⟨[],0,false,Dw.no fun c r h1 h2 h3=>he (hstep.2 c r h1 h2 h3).1,rfl,rfl,rfl⟩ rfl trivial (by trivial)
   have he:e=0:=by simpa using h
   apply lK<;>intro h
   ·have ht:t.length≠n:=by simp at h;omega
    exact lX (.nN [el [],iv (0:Nat),bv false]) 0 [] [] [] ⟨[],0,false,Dw.no fun c r h1 h2 h3=>ht (hstep.2 c r h1 h2 h3).2,rfl,rfl,rfl⟩ rfl trivial (by trivial)
   have ht:t.length=n:=by simp at h;omega
   obtain⟨hK1,hq⟩:=hstep.1 he ht
   have htl:t.length=l.length:=by omega
   clear hstep hR
   refine sN.mk' q body.length rfl (by rw [ah]) hq (by rw [ah];exact aA _) ?_
   refine mO Am 7 [126] (fun k:Nat=> [(126,iv k)]) (fun k=> [(6, .var 160 ((oq.getD 0 []).map FV.up)),(5, .rows 160 2 oq),(4, .rows 95 10 ((wz (fun e v=> {e with seq:=v}) l t k).map rO))]) (fun k=>k<=l.length) (fun k=>l.length-k) [] [] 0 (by kernel_rfl) (fun _=>rfl) rfl (au _) ⟨(by trivial),⟨rfl,rfl,rfl⟩,⟨rfl,rfl,by rw [vF]⟩,trivial⟩ ⟨rfl,trivial⟩ ?_
   intro k hk
   refine lK (fun hb=> ?_) (fun hb=> ?_)
   ·have hlt:k<l.length:=by simp at hb;omega
    have hlt2:k<t.length:=by omega
    (refine mP xZ [] (by kernel_rfl) ?_;conv=>whnf)
    refine mZ.mk' k rfl (by rw [ah,yu _ _ _ _ htl];exact hlt) ?_
    refine mZ.mk' k rfl (pU hlt2) ?_
    refine mD.lT (aj hlt2) ?_
    (refine pR (by kernel_rfl) (lQ func144 rfl mixed (by kernel_rfl) ?_);(conv=>whnf))
    refine uq (.ep 4 k 1) ?_ rfl ?_ ?_
    rotate_left
    ·trivial
    ·trivial
    refine mD.lT (Bf _ l t k hlt htl) ?_
    refine lV.i64 (by omega) ?_
    refine lU (k+1) [] [] rfl (by show l.length -(k+1)<l.length-k;omega) hlt ⟨(by trivial),⟨rfl,rfl,rfl⟩,⟨rfl,rfl, ?_⟩,trivial⟩ ⟨rfl,trivial⟩
    rw [<-yx _ l t k hlt htl,bT]
    rfl
   have hke:k=l.length:=by simp only [ah,decide_eq_false_iff_not]at hb;omega
   subst hke
   rw [yw _ l t htl]
   refine lV.i64 (by dsimp only;omega) ?_
   exact lU ⟨_,body.drop q,0+1⟩ [] [] rfl (by show 3 -(0+1)<3-0;decide) ⟨(by show 0+1<=3;decide),hK1⟩ ⟨(by trivial),⟨rfl,rfl,rfl⟩,⟨rfl,rfl,rfl⟩,trivial⟩ ⟨⟨rfl,bI.symm⟩,rfl,trivial⟩
  ·refine mZ.mk' 1 rfl (by decide) ?_
   refine mD.at rfl ?_
   (refine nO [] (by kernel_rfl) (mQ.up (uX body hbody) GS) ?_ ?_;(focus trivial))
   rintro _ _ _ ⟨t,q,e,hR,rfl,rfl,rfl⟩
   have hstep:=hK.num (fun e v=> {e with kind:=v}) (·.kind) (fun _=>rfl) (fun _=>rfl) (fun e v he hv=>⟨by first|exact he.seq|exact hv,by first|exact he.kind|exact hv,by first|exact he.time|exact hv,by first|exact he.ver|exact hv,by first|exact he.arm|exact hv,by first|exact he.val|exact hv,he.client,he.id,he.name,he.other⟩) (fun c hc e he=>(hc.ok e he).kind) hR
   apply lK<;>intro h
   ·have he:e≠0:=by simpa using h
    exact lX (.nN [el [],iv (0:Nat),bv false]) 0 [] [] [] ⟨[],0,false,Dw.no fun c r h1 h2 h3=>he (hstep.2 c r h1 h2 h3).1,rfl,rfl,rfl⟩ rfl trivial (by trivial)
   have he:e=0:=by simpa using h
   apply lK<;>intro h
   ·have ht:t.length≠n:=by simp at h;omega
    exact lX (.nN [el [],iv (0:Nat),bv false]) 0 [] [] [] ⟨[],0,false,Dw.no fun c r h1 h2 h3=>ht (hstep.2 c r h1 h2 h3).2,rfl,rfl,rfl⟩ rfl trivial (by trivial)
   have ht:t.length=n:=by simp at h;omega
   obtain⟨hK1,hq⟩:=hstep.1 he ht
   have htl:t.length=l.length:=by omega
   clear hstep hR
   refine sN.mk' q body.length rfl (by rw [ah]) hq (by rw [ah];exact aA _) ?_
   refine mO Am 7 [126] (fun k:Nat=> [(126,iv k)]) (fun k=> [(6, .var 160 ((oq.getD 0 []).map FV.up)),(5, .rows 160 2 oq),(4, .rows 95 10 ((wz (fun e v=> {e with kind:=v}) l t k).map rO))]) (fun k=>k<=l.length) (fun k=>l.length-k) [] [] 0 (by kernel_rfl) (fun _=>rfl) rfl (au _) ⟨(by trivial),⟨rfl,rfl,rfl⟩,⟨rfl,rfl,by rw [vF]⟩,trivial⟩ ⟨rfl,trivial⟩ ?_
   intro k hk
   refine lK (fun hb=> ?_) (fun hb=> ?_)
   ·have hlt:k<l.length:=by simp at hb;omega
    have hlt2:k<t.length:=by omega
    (refine mP xZ [] (by kernel_rfl) ?_;conv=>whnf)
    refine mZ.mk' k rfl (by rw [ah,yu _ _ _ _ htl];exact hlt) ?_
    refine mZ.mk' k rfl (pU hlt2) ?_
    refine mD.lT (aj hlt2) ?_
    (refine pR (by kernel_rfl) (lQ func145 rfl mixed (by kernel_rfl) ?_);(conv=>whnf))
    refine uq (.ep 4 k 2) ?_ rfl ?_ ?_
    rotate_left
    ·trivial
    ·trivial
    refine mD.lT (Bf _ l t k hlt htl) ?_
    refine lV.i64 (by omega) ?_
    refine lU (k+1) [] [] rfl (by show l.length -(k+1)<l.length-k;omega) hlt ⟨(by trivial),⟨rfl,rfl,rfl⟩,⟨rfl,rfl, ?_⟩,trivial⟩ ⟨rfl,trivial⟩
    rw [<-yx _ l t k hlt htl,bT]
    rfl
   have hke:k=l.length:=by simp only [ah,decide_eq_false_iff_not]at hb;omega
   subst hke
   rw [yw _ l t htl]
   refine lV.i64 (by dsimp only;omega) ?_
   exact lU ⟨_,body.drop q,1+1⟩ [] [] rfl (by show 3 -(1+1)<3-1;decide) ⟨(by show 1+1<=3;decide),hK1⟩ ⟨(by trivial),⟨rfl,rfl,rfl⟩,⟨rfl,rfl,rfl⟩,trivial⟩ ⟨⟨rfl,bI.symm⟩,rfl,trivial⟩
  ·refine mZ.mk' 2 rfl (by decide) ?_
   refine mD.at rfl ?_
   (refine nO [] (by kernel_rfl) (mQ.up (uX body hbody) GS) ?_ ?_;(focus trivial))
   rintro _ _ _ ⟨t,q,e,hR,rfl,rfl,rfl⟩
   have hstep:=hK.num (fun e v=> {e with time:=v}) (·.time) (fun _=>rfl) (fun _=>rfl) (fun e v he hv=>⟨by first|exact he.seq|exact hv,by first|exact he.kind|exact hv,by first|exact he.time|exact hv,by first|exact he.ver|exact hv,by first|exact he.arm|exact hv,by first|exact he.val|exact hv,he.client,he.id,he.name,he.other⟩) (fun c hc e he=>(hc.ok e he).time) hR
   apply lK<;>intro h
   ·have he:e≠0:=by simpa using h
    exact lX (.nN [el [],iv (0:Nat),bv false]) 0 [] [] [] ⟨[],0,false,Dw.no fun c r h1 h2 h3=>he (hstep.2 c r h1 h2 h3).1,rfl,rfl,rfl⟩ rfl trivial (by trivial)
   have he:e=0:=by simpa using h
   apply lK<;>intro h
   ·have ht:t.length≠n:=by simp at h;omega
    exact lX (.nN [el [],iv (0:Nat),bv false]) 0 [] [] [] ⟨[],0,false,Dw.no fun c r h1 h2 h3=>ht (hstep.2 c r h1 h2 h3).2,rfl,rfl,rfl⟩ rfl trivial (by trivial)
   have ht:t.length=n:=by simp at h;omega
   obtain⟨hK1,hq⟩:=hstep.1 he ht
   have htl:t.length=l.length:=by omega
   clear hstep hR
   refine sN.mk' q body.length rfl (by rw [ah]) hq (by rw [ah];exact aA _) ?_
   refine mO Am 7 [126] (fun k:Nat=> [(126,iv k)]) (fun k=> [(6, .var 160 ((oq.getD 0 []).map FV.up)),(5, .rows 160 2 oq),(4, .rows 95 10 ((wz (fun e v=> {e with time:=v}) l t k).map rO))]) (fun k=>k<=l.length) (fun k=>l.length-k) [] [] 0 (by kernel_rfl) (fun _=>rfl) rfl (au _) ⟨(by trivial),⟨rfl,rfl,rfl⟩,⟨rfl,rfl,by rw [vF]⟩,trivial⟩ ⟨rfl,trivial⟩ ?_
   intro k hk
   refine lK (fun hb=> ?_) (fun hb=> ?_)
   ·have hlt:k<l.length:=by simp at hb;omega
    have hlt2:k<t.length:=by omega
    (refine mP xZ [] (by kernel_rfl) ?_;conv=>whnf)
    refine mZ.mk' k rfl (by rw [ah,yu _ _ _ _ htl];exact hlt) ?_
    refine mZ.mk' k rfl (pU hlt2) ?_
    refine mD.lT (aj hlt2) ?_
    (refine pR (by kernel_rfl) (lQ func146 rfl mixed (by kernel_rfl) ?_);(conv=>whnf))
    refine uq (.ep 4 k 3) ?_ rfl ?_ ?_
    rotate_left
    ·trivial
    ·trivial
    refine mD.lT (Bf _ l t k hlt htl) ?_
    refine lV.i64 (by omega) ?_
    refine lU (k+1) [] [] rfl (by show l.length -(k+1)<l.length-k;omega) hlt ⟨(by trivial),⟨rfl,rfl,rfl⟩,⟨rfl,rfl, ?_⟩,trivial⟩ ⟨rfl,trivial⟩
    rw [<-yx _ l t k hlt htl,bT]
    rfl
   have hke:k=l.length:=by simp only [ah,decide_eq_false_iff_not]at hb;omega
   subst hke
   rw [yw _ l t htl]
   refine lV.i64 (by dsimp only;omega) ?_
   exact lU ⟨_,body.drop q,2+1⟩ [] [] rfl (by show 3 -(2+1)<3-2;decide) ⟨(by show 2+1<=3;decide),hK1⟩ ⟨(by trivial),⟨rfl,rfl,rfl⟩,⟨rfl,rfl,rfl⟩,trivial⟩ ⟨⟨rfl,bI.symm⟩,rfl,trivial⟩
  ·refine lV.i64 (by dsimp only;omega) ?_
   exact lU ⟨l,body,1⟩ [] [] rfl (by show 4-1<4-0;decide) ⟨(by show 1<=4;decide),hK⟩ ⟨⟨rfl,rfl,rfl⟩,⟨rfl,rfl,rfl⟩,trivial⟩ ⟨⟨rfl,rfl⟩,rfl,trivial⟩
 ·refine mZ.mk' 1 rfl (by decide) ?_
  refine mD.at rfl ?_
  (refine nO [] (by kernel_rfl) (mQ.up (y8 body hbody) GS) ?_ ?_;(focus trivial))
  rintro _ _ _ ⟨t,q,e,hR,rfl,rfl,rfl⟩
  have hstep:=hK.txt (fun e v=> {e with id:=v}) (·.id) (fun _=>rfl) (fun _=>rfl) (fun e v he hv=>⟨he.seq,he.kind,he.time,he.ver,he.arm,he.val,by first|exact he.client|(show v.length<=_;omega),by first|exact he.id|(show v.length<=_;omega),by first|exact he.name|(show v.length<=_;omega),by first|exact he.other|(show v.length<=_;omega)⟩) (fun c hc=>hc.s2) hR
  apply lK<;>intro h
  ·have he:e≠0:=by simpa using h
   exact lX (.nN [el [],iv (0:Nat),bv false]) 0 [] [] [] ⟨[],0,false,Dw.no fun c r h1 h2 h3=>he (hstep.2 c r h1 h2 h3).1,rfl,rfl,rfl⟩ rfl trivial (by trivial)
  have he:e=0:=by simpa using h
  apply lK<;>intro h
  ·have ht:t.length≠n:=by simp at h;omega
   exact lX (.nN [el [],iv (0:Nat),bv false]) 0 [] [] [] ⟨[],0,false,Dw.no fun c r h1 h2 h3=>ht (hstep.2 c r h1 h2 h3).2,rfl,rfl,rfl⟩ rfl trivial (by trivial)
  have ht:t.length=n:=by simp at h;omega
  obtain⟨hK1,hq⟩:=hstep.1 he ht
  have htl:t.length=l.length:=by omega
  clear hstep hR
  refine sN.mk' q body.length rfl (by rw [ah]) hq (by rw [ah];exact aA _) ?_
  refine mO Gm 7 [85] (fun k:Nat=> [(85,iv k)]) (fun k=> [(6, .var 160 ((oq.getD 1 []).map FV.up)),(5, .rows 160 2 oq),(4, .rows 95 10 ((wz (fun e v=> {e with id:=v}) l t k).map rO))]) (fun k=>k<=l.length) (fun k=>l.length-k) [] [] 0 (by kernel_rfl) (fun _=>rfl) rfl (au _) ⟨(by trivial),⟨rfl,rfl,rfl⟩,⟨rfl,rfl,by rw [vF]⟩,trivial⟩ ⟨rfl,trivial⟩ ?_
  intro k hk
  refine lK (fun hb=> ?_) (fun hb=> ?_)
  ·have hlt:k<l.length:=by simp at hb;omega
   have hlt2:k<t.length:=by omega
   (refine mP xZ [] (by kernel_rfl) ?_;conv=>whnf)
   refine mZ.mk' k rfl (by rw [ah,yu _ _ _ _ htl];exact hlt) ?_
   refine mZ.mk' k rfl (pU hlt2) ?_
   refine mD.lT (aj hlt2) ?_
   (refine pR (by kernel_rfl) (lQ func147 rfl mixed (by kernel_rfl) ?_);(conv=>whnf))
   refine uq (.ep 4 k 4) ?_ rfl ?_ ?_
   rotate_left
   ·trivial
   ·trivial
   refine mD.lT (Bf _ l t k hlt htl) ?_
   refine lV.i64 (by omega) ?_
   refine lU (k+1) [] [] rfl (by show l.length -(k+1)<l.length-k;omega) hlt ⟨(by trivial),⟨rfl,rfl,rfl⟩,⟨rfl,rfl, ?_⟩,trivial⟩ ⟨rfl,trivial⟩
   rw [<-yx _ l t k hlt htl,bT]
   rfl
  have hke:k=l.length:=by simp only [ah,decide_eq_false_iff_not]at hb;omega
  subst hke
  rw [yw _ l t htl]
  refine mO Gn 7 [13,103] (fun j:Nat=> [(13,bs (body.drop q)),(103,iv 0)]) (fun j=> [(5, .rows 160 2 oq),(4, .rows 95 10 ((List.zipWith (fun e v=> {e with id:=v}) l t).map rO))]) (fun j=>j=0) (fun j=>j) [] [] 0 (by kernel_rfl) (fun _=>rfl) rfl rfl ⟨⟨rfl,rfl,rfl⟩,⟨rfl,rfl,rfl⟩,trivial⟩ ⟨⟨rfl,bI.symm⟩,rfl,trivial⟩ ?_
  intro j hj
  refine lV.i64 (by dsimp only;omega) ?_
  exact lU ⟨List.zipWith (fun e v=> {e with id:=v}) l t,body.drop q,1+1⟩ [] [] rfl (by show 4 -(1+1)<4-1;decide) ⟨(by show 1+1<=4;decide),hK1⟩ ⟨⟨rfl,rfl,rfl⟩,⟨rfl,rfl,rfl⟩,trivial⟩ ⟨⟨rfl,rfl⟩,rfl,trivial⟩
 ·refine mZ.mk' 2 rfl (by decide) ?_
  refine mD.at rfl ?_
  (refine nO [] (by kernel_rfl) (mQ.up (y8 body hbody) GS) ?_ ?_;(focus trivial))
  rintro _ _ _ ⟨t,q,e,hR,rfl,rfl,rfl⟩
  have hstep:=hK.txt (fun e v=> {e with name:=v}) (·.name) (fun _=>rfl) (fun _=>rfl) (fun e v he hv=>⟨he.seq,he.kind,he.time,he.ver,he.arm,he.val,by first|exact he.client|(show v.length<=_;omega),by first|exact he.id|(show v.length<=_;omega),by first|exact he.name|(show v.length<=_;omega),by first|exact he.other|(show v.length<=_;omega)⟩) (fun c hc=>hc.s3) hR
  apply lK<;>intro h
  ·have he:e≠0:=by simpa using h
   exact lX (.nN [el [],iv (0:Nat),bv false]) 0 [] [] [] ⟨[],0,false,Dw.no fun c r h1 h2 h3=>he (hstep.2 c r h1 h2 h3).1,rfl,rfl,rfl⟩ rfl trivial (by trivial)
  have he:e=0:=by simpa using h
  apply lK<;>intro h
  ·have ht:t.length≠n:=by simp at h;omega
   exact lX (.nN [el [],iv (0:Nat),bv false]) 0 [] [] [] ⟨[],0,false,Dw.no fun c r h1 h2 h3=>ht (hstep.2 c r h1 h2 h3).2,rfl,rfl,rfl⟩ rfl trivial (by trivial)
  have ht:t.length=n:=by simp at h;omega
  obtain⟨hK1,hq⟩:=hstep.1 he ht
  have htl:t.length=l.length:=by omega
  clear hstep hR
  refine sN.mk' q body.length rfl (by rw [ah]) hq (by rw [ah];exact aA _) ?_
  refine mO Gm 7 [85] (fun k:Nat=> [(85,iv k)]) (fun k=> [(6, .var 160 ((oq.getD 2 []).map FV.up)),(5, .rows 160 2 oq),(4, .rows 95 10 ((wz (fun e v=> {e with name:=v}) l t k).map rO))]) (fun k=>k<=l.length) (fun k=>l.length-k) [] [] 0 (by kernel_rfl) (fun _=>rfl) rfl (au _) ⟨(by trivial),⟨rfl,rfl,rfl⟩,⟨rfl,rfl,by rw [vF]⟩,trivial⟩ ⟨rfl,trivial⟩ ?_
  intro k hk
  refine lK (fun hb=> ?_) (fun hb=> ?_)
  ·have hlt:k<l.length:=by simp at hb;omega
   have hlt2:k<t.length:=by omega
   (refine mP xZ [] (by kernel_rfl) ?_;conv=>whnf)
   refine mZ.mk' k rfl (by rw [ah,yu _ _ _ _ htl];exact hlt) ?_
   refine mZ.mk' k rfl (pU hlt2) ?_
   refine mD.lT (aj hlt2) ?_
   (refine pR (by kernel_rfl) (lQ func148 rfl mixed (by kernel_rfl) ?_);(conv=>whnf))
   refine uq (.ep 4 k 5) ?_ rfl ?_ ?_
   rotate_left
   ·trivial
   ·trivial
   refine mD.lT (Bf _ l t k hlt htl) ?_
   refine lV.i64 (by omega) ?_
   refine lU (k+1) [] [] rfl (by show l.length -(k+1)<l.length-k;omega) hlt ⟨(by trivial),⟨rfl,rfl,rfl⟩,⟨rfl,rfl, ?_⟩,trivial⟩ ⟨rfl,trivial⟩
   rw [<-yx _ l t k hlt htl,bT]
   rfl
  have hke:k=l.length:=by simp only [ah,decide_eq_false_iff_not]at hb;omega
  subst hke
  rw [yw _ l t htl]
  refine mO Gn 7 [13,103] (fun j:Nat=> [(13,bs (body.drop q)),(103,iv 0)]) (fun j=> [(5, .rows 160 2 oq),(4, .rows 95 10 ((List.zipWith (fun e v=> {e with name:=v}) l t).map rO))]) (fun j=>j=0) (fun j=>j) [] [] 0 (by kernel_rfl) (fun _=>rfl) rfl rfl ⟨⟨rfl,rfl,rfl⟩,⟨rfl,rfl,rfl⟩,trivial⟩ ⟨⟨rfl,bI.symm⟩,rfl,trivial⟩ ?_
  intro j hj
  refine lV.i64 (by dsimp only;omega) ?_
  exact lU ⟨List.zipWith (fun e v=> {e with name:=v}) l t,body.drop q,2+1⟩ [] [] rfl (by show 4 -(2+1)<4-2;decide) ⟨(by show 2+1<=4;decide),hK1⟩ ⟨⟨rfl,rfl,rfl⟩,⟨rfl,rfl,rfl⟩,trivial⟩ ⟨⟨rfl,rfl⟩,rfl,trivial⟩
 ·refine mZ.mk' 3 rfl (by decide) ?_
  refine mD.at rfl ?_
  (refine nO [] (by kernel_rfl) (mQ.up (y8 body hbody) GS) ?_ ?_;(focus trivial))
  rintro _ _ _ ⟨t,q,e,hR,rfl,rfl,rfl⟩
  have hstep:=hK.txt (fun e v=> {e with other:=v}) (·.other) (fun _=>rfl) (fun _=>rfl) (fun e v he hv=>⟨he.seq,he.kind,he.time,he.ver,he.arm,he.val,by first|exact he.client|(show v.length<=_;omega),by first|exact he.id|(show v.length<=_;omega),by first|exact he.name|(show v.length<=_;omega),by first|exact he.other|(show v.length<=_;omega)⟩) (fun c hc=>hc.s4) hR
  apply lK<;>intro h
  ·have he:e≠0:=by simpa using h
   exact lX (.nN [el [],iv (0:Nat),bv false]) 0 [] [] [] ⟨[],0,false,Dw.no fun c r h1 h2 h3=>he (hstep.2 c r h1 h2 h3).1,rfl,rfl,rfl⟩ rfl trivial (by trivial)
  have he:e=0:=by simpa using h
  apply lK<;>intro h
  ·have ht:t.length≠n:=by simp at h;omega
   exact lX (.nN [el [],iv (0:Nat),bv false]) 0 [] [] [] ⟨[],0,false,Dw.no fun c r h1 h2 h3=>ht (hstep.2 c r h1 h2 h3).2,rfl,rfl,rfl⟩ rfl trivial (by trivial)
  have ht:t.length=n:=by simp at h;omega
  obtain⟨hK1,hq⟩:=hstep.1 he ht
  have htl:t.length=l.length:=by omega
  clear hstep hR
  refine sN.mk' q body.length rfl (by rw [ah]) hq (by rw [ah];exact aA _) ?_
  refine mO Gm 7 [85] (fun k:Nat=> [(85,iv k)]) (fun k=> [(6, .var 160 ((oq.getD 3 []).map FV.up)),(5, .rows 160 2 oq),(4, .rows 95 10 ((wz (fun e v=> {e with other:=v}) l t k).map rO))]) (fun k=>k<=l.length) (fun k=>l.length-k) [] [] 0 (by kernel_rfl) (fun _=>rfl) rfl (au _) ⟨(by trivial),⟨rfl,rfl,rfl⟩,⟨rfl,rfl,by rw [vF]⟩,trivial⟩ ⟨rfl,trivial⟩ ?_
  intro k hk
  refine lK (fun hb=> ?_) (fun hb=> ?_)
  ·have hlt:k<l.length:=by simp at hb;omega
   have hlt2:k<t.length:=by omega
   (refine mP xZ [] (by kernel_rfl) ?_;conv=>whnf)
   refine mZ.mk' k rfl (by rw [ah,yu _ _ _ _ htl];exact hlt) ?_
   refine mZ.mk' k rfl (pU hlt2) ?_
   refine mD.lT (aj hlt2) ?_
   (refine pR (by kernel_rfl) (lQ func149 rfl mixed (by kernel_rfl) ?_);(conv=>whnf))
   refine uq (.ep 4 k 6) ?_ rfl ?_ ?_
   rotate_left
   ·trivial
   ·trivial
   refine mD.lT (Bf _ l t k hlt htl) ?_
   refine lV.i64 (by omega) ?_
   refine lU (k+1) [] [] rfl (by show l.length -(k+1)<l.length-k;omega) hlt ⟨(by trivial),⟨rfl,rfl,rfl⟩,⟨rfl,rfl, ?_⟩,trivial⟩ ⟨rfl,trivial⟩
   rw [<-yx _ l t k hlt htl,bT]
   rfl
  have hke:k=l.length:=by simp only [ah,decide_eq_false_iff_not]at hb;omega
  subst hke
  rw [yw _ l t htl]
  refine mO Gn 7 [13,103] (fun x:TR=> [(13,bs x.body),(103,iv x.i)]) (fun x=> [(6, .var 160 ((oq.getD 3 []).map FV.up)),(5, .rows 160 2 oq),(4, .rows 95 10 (x.l.map rO))]) (fun x=>x.i<=3∧KR b n (7+x.i) x.l x.body) (fun x=>3-x.i) [] [] ⟨_,body.drop q,0⟩ (by kernel_rfl) (fun _=>rfl) rfl ⟨au _,hK1⟩ ⟨(by trivial),⟨rfl,rfl,rfl⟩,⟨rfl,rfl,rfl⟩,trivial⟩ ⟨⟨rfl,bI.symm⟩,rfl,trivial⟩ ?_
  clear hK1 hq htl ht he hK hbody hll
  rintro⟨l,body,j⟩ ⟨hj,hK⟩
  change j<=3 at hj
  change KR b n (7+j) l body at hK
  have hbody:=hK.sz
  have hll:=hK.len
  have hcj:j=0∨j=1∨j=2∨j=3:=by omega
  rcases hcj with rfl|rfl|rfl|rfl
  ·refine mZ.mk' 0 rfl (by decide) ?_
   refine mD.at rfl ?_
   (refine nO [] (by kernel_rfl) (mQ.up (uX body hbody) GS) ?_ ?_;(focus trivial))
   rintro _ _ _ ⟨t,q,e,hR,rfl,rfl,rfl⟩
   have hstep:=hK.num (fun e v=> {e with ver:=v}) (·.ver) (fun _=>rfl) (fun _=>rfl) (fun e v he hv=>⟨by first|exact he.seq|exact hv,by first|exact he.kind|exact hv,by first|exact he.time|exact hv,by first|exact he.ver|exact hv,by first|exact he.arm|exact hv,by first|exact he.val|exact hv,he.client,he.id,he.name,he.other⟩) (fun c hc e he=>(hc.ok e he).ver) hR
   apply lK<;>intro h
   ·have he:e≠0:=by simpa using h
    exact lX (.nN [el [],iv (0:Nat),bv false]) 0 [] [] [] ⟨[],0,false,Dw.no fun c r h1 h2 h3=>he (hstep.2 c r h1 h2 h3).1,rfl,rfl,rfl⟩ rfl trivial (by trivial)
   have he:e=0:=by simpa using h
   apply lK<;>intro h
   ·have ht:t.length≠n:=by simp at h;omega
    exact lX (.nN [el [],iv (0:Nat),bv false]) 0 [] [] [] ⟨[],0,false,Dw.no fun c r h1 h2 h3=>ht (hstep.2 c r h1 h2 h3).2,rfl,rfl,rfl⟩ rfl trivial (by trivial)
   have ht:t.length=n:=by simp at h;omega
   obtain⟨hK1,hq⟩:=hstep.1 he ht
   have htl:t.length=l.length:=by omega
   clear hstep hR
   refine sN.mk' q body.length rfl (by rw [ah]) hq (by rw [ah];exact aA _) ?_
   refine mO Am 7 [126] (fun k:Nat=> [(126,iv k)]) (fun k=> [(6, .var 160 ((oq.getD 3 []).map FV.up)),(5, .rows 160 2 oq),(4, .rows 95 10 ((wz (fun e v=> {e with ver:=v}) l t k).map rO))]) (fun k=>k<=l.length) (fun k=>l.length-k) [] [] 0 (by kernel_rfl) (fun _=>rfl) rfl (au _) ⟨(by trivial),⟨rfl,rfl,rfl⟩,⟨rfl,rfl,by rw [vF]⟩,trivial⟩ ⟨rfl,trivial⟩ ?_
   intro k hk
   refine lK (fun hb=> ?_) (fun hb=> ?_)
   ·have hlt:k<l.length:=by simp at hb;omega
    have hlt2:k<t.length:=by omega
    (refine mP xZ [] (by kernel_rfl) ?_;conv=>whnf)
    refine mZ.mk' k rfl (by rw [ah,yu _ _ _ _ htl];exact hlt) ?_
    refine mZ.mk' k rfl (pU hlt2) ?_
    refine mD.lT (aj hlt2) ?_
    (refine pR (by kernel_rfl) (lQ func150 rfl mixed (by kernel_rfl) ?_);(conv=>whnf))
    refine uq (.ep 4 k 7) ?_ rfl ?_ ?_
    rotate_left
    ·trivial
    ·trivial
    refine mD.lT (Bf _ l t k hlt htl) ?_
    refine lV.i64 (by omega) ?_
    refine lU (k+1) [] [] rfl (by show l.length -(k+1)<l.length-k;omega) hlt ⟨(by trivial),⟨rfl,rfl,rfl⟩,⟨rfl,rfl, ?_⟩,trivial⟩ ⟨rfl,trivial⟩
    rw [<-yx _ l t k hlt htl,bT]
    rfl
   have hke:k=l.length:=by simp only [ah,decide_eq_false_iff_not]at hb;omega
   subst hke
   rw [yw _ l t htl]
   refine lV.i64 (by dsimp only;omega) ?_
   exact lU ⟨_,body.drop q,0+1⟩ [] [] rfl (by show 3 -(0+1)<3-0;decide) ⟨(by show 0+1<=3;decide),hK1⟩ ⟨(by trivial),⟨rfl,rfl,rfl⟩,⟨rfl,rfl,rfl⟩,trivial⟩ ⟨⟨rfl,bI.symm⟩,rfl,trivial⟩
  ·refine mZ.mk' 1 rfl (by decide) ?_
   refine mD.at rfl ?_
   (refine nO [] (by kernel_rfl) (mQ.up (uX body hbody) GS) ?_ ?_;(focus trivial))
   rintro _ _ _ ⟨t,q,e,hR,rfl,rfl,rfl⟩
   have hstep:=hK.num (fun e v=> {e with arm:=v}) (·.arm) (fun _=>rfl) (fun _=>rfl) (fun e v he hv=>⟨by first|exact he.seq|exact hv,by first|exact he.kind|exact hv,by first|exact he.time|exact hv,by first|exact he.ver|exact hv,by first|exact he.arm|exact hv,by first|exact he.val|exact hv,he.client,he.id,he.name,he.other⟩) (fun c hc e he=>(hc.ok e he).arm) hR
   apply lK<;>intro h
   ·have he:e≠0:=by simpa using h
    exact lX (.nN [el [],iv (0:Nat),bv false]) 0 [] [] [] ⟨[],0,false,Dw.no fun c r h1 h2 h3=>he (hstep.2 c r h1 h2 h3).1,rfl,rfl,rfl⟩ rfl trivial (by trivial)
   have he:e=0:=by simpa using h
   apply lK<;>intro h
   ·have ht:t.length≠n:=by simp at h;omega
    exact lX (.nN [el [],iv (0:Nat),bv false]) 0 [] [] [] ⟨[],0,false,Dw.no fun c r h1 h2 h3=>ht (hstep.2 c r h1 h2 h3).2,rfl,rfl,rfl⟩ rfl trivial (by trivial)
   have ht:t.length=n:=by simp at h;omega
   obtain⟨hK1,hq⟩:=hstep.1 he ht
   have htl:t.length=l.length:=by omega
   clear hstep hR
   refine sN.mk' q body.length rfl (by rw [ah]) hq (by rw [ah];exact aA _) ?_
   refine mO Am 7 [126] (fun k:Nat=> [(126,iv k)]) (fun k=> [(6, .var 160 ((oq.getD 3 []).map FV.up)),(5, .rows 160 2 oq),(4, .rows 95 10 ((wz (fun e v=> {e with arm:=v}) l t k).map rO))]) (fun k=>k<=l.length) (fun k=>l.length-k) [] [] 0 (by kernel_rfl) (fun _=>rfl) rfl (au _) ⟨(by trivial),⟨rfl,rfl,rfl⟩,⟨rfl,rfl,by rw [vF]⟩,trivial⟩ ⟨rfl,trivial⟩ ?_
   intro k hk
   refine lK (fun hb=> ?_) (fun hb=> ?_)
   ·have hlt:k<l.length:=by simp at hb;omega
    have hlt2:k<t.length:=by omega
    (refine mP xZ [] (by kernel_rfl) ?_;conv=>whnf)
    refine mZ.mk' k rfl (by rw [ah,yu _ _ _ _ htl];exact hlt) ?_
    refine mZ.mk' k rfl (pU hlt2) ?_
    refine mD.lT (aj hlt2) ?_
    (refine pR (by kernel_rfl) (lQ func151 rfl mixed (by kernel_rfl) ?_);(conv=>whnf))
    refine uq (.ep 4 k 8) ?_ rfl ?_ ?_
    rotate_left
    ·trivial
    ·trivial
    refine mD.lT (Bf _ l t k hlt htl) ?_
    refine lV.i64 (by omega) ?_
    refine lU (k+1) [] [] rfl (by show l.length -(k+1)<l.length-k;omega) hlt ⟨(by trivial),⟨rfl,rfl,rfl⟩,⟨rfl,rfl, ?_⟩,trivial⟩ ⟨rfl,trivial⟩
    rw [<-yx _ l t k hlt htl,bT]
    rfl
   have hke:k=l.length:=by simp only [ah,decide_eq_false_iff_not]at hb;omega
   subst hke
   rw [yw _ l t htl]
   refine lV.i64 (by dsimp only;omega) ?_
   exact lU ⟨_,body.drop q,1+1⟩ [] [] rfl (by show 3 -(1+1)<3-1;decide) ⟨(by show 1+1<=3;decide),hK1⟩ ⟨(by trivial),⟨rfl,rfl,rfl⟩,⟨rfl,rfl,rfl⟩,trivial⟩ ⟨⟨rfl,bI.symm⟩,rfl,trivial⟩
  ·refine mZ.mk' 2 rfl (by decide) ?_
   refine mD.at rfl ?_
   (refine nO [] (by kernel_rfl) (mQ.up (uX body hbody) GS) ?_ ?_;(focus trivial))
   rintro _ _ _ ⟨t,q,e,hR,rfl,rfl,rfl⟩
   have hstep:=hK.num (fun e v=> {e with val:=v}) (·.val) (fun _=>rfl) (fun _=>rfl) (fun e v he hv=>⟨by first|exact he.seq|exact hv,by first|exact he.kind|exact hv,by first|exact he.time|exact hv,by first|exact he.ver|exact hv,by first|exact he.arm|exact hv,by first|exact he.val|exact hv,he.client,he.id,he.name,he.other⟩) (fun c hc e he=>(hc.ok e he).val) hR
   apply lK<;>intro h
   ·have he:e≠0:=by simpa using h
    exact lX (.nN [el [],iv (0:Nat),bv false]) 0 [] [] [] ⟨[],0,false,Dw.no fun c r h1 h2 h3=>he (hstep.2 c r h1 h2 h3).1,rfl,rfl,rfl⟩ rfl trivial (by trivial)
   have he:e=0:=by simpa using h
   apply lK<;>intro h
   ·have ht:t.length≠n:=by simp at h;omega
    exact lX (.nN [el [],iv (0:Nat),bv false]) 0 [] [] [] ⟨[],0,false,Dw.no fun c r h1 h2 h3=>ht (hstep.2 c r h1 h2 h3).2,rfl,rfl,rfl⟩ rfl trivial (by trivial)
   have ht:t.length=n:=by simp at h;omega
   obtain⟨hK1,hq⟩:=hstep.1 he ht
   have htl:t.length=l.length:=by omega
   clear hstep hR
   refine sN.mk' q body.length rfl (by rw [ah]) hq (by rw [ah];exact aA _) ?_
   refine mO Am 7 [126] (fun k:Nat=> [(126,iv k)]) (fun k=> [(6, .var 160 ((oq.getD 3 []).map FV.up)),(5, .rows 160 2 oq),(4, .rows 95 10 ((wz (fun e v=> {e with val:=v}) l t k).map rO))]) (fun k=>k<=l.length) (fun k=>l.length-k) [] [] 0 (by kernel_rfl) (fun _=>rfl) rfl (au _) ⟨(by trivial),⟨rfl,rfl,rfl⟩,⟨rfl,rfl,by rw [vF]⟩,trivial⟩ ⟨rfl,trivial⟩ ?_
   intro k hk
   refine lK (fun hb=> ?_) (fun hb=> ?_)
   ·have hlt:k<l.length:=by simp at hb;omega
    have hlt2:k<t.length:=by omega
    (refine mP xZ [] (by kernel_rfl) ?_;conv=>whnf)
    refine mZ.mk' k rfl (by rw [ah,yu _ _ _ _ htl];exact hlt) ?_
    refine mZ.mk' k rfl (pU hlt2) ?_
    refine mD.lT (aj hlt2) ?_
    (refine pR (by kernel_rfl) (lQ func152 rfl mixed (by kernel_rfl) ?_);(conv=>whnf))
    refine uq (.ep 4 k 9) ?_ rfl ?_ ?_
    rotate_left
    ·trivial
    ·trivial
    refine mD.lT (Bf _ l t k hlt htl) ?_
    refine lV.i64 (by omega) ?_
    refine lU (k+1) [] [] rfl (by show l.length -(k+1)<l.length-k;omega) hlt ⟨(by trivial),⟨rfl,rfl,rfl⟩,⟨rfl,rfl, ?_⟩,trivial⟩ ⟨rfl,trivial⟩
    rw [<-yx _ l t k hlt htl,bT]
    rfl
   have hke:k=l.length:=by simp only [ah,decide_eq_false_iff_not]at hb;omega
   subst hke
   rw [yw _ l t htl]
   refine lV.i64 (by dsimp only;omega) ?_
   exact lU ⟨_,body.drop q,2+1⟩ [] [] rfl (by show 3 -(2+1)<3-2;decide) ⟨(by show 2+1<=3;decide),hK1⟩ ⟨(by trivial),⟨rfl,rfl,rfl⟩,⟨rfl,rfl,rfl⟩,trivial⟩ ⟨⟨rfl,bI.symm⟩,rfl,trivial⟩
  ·refine lV.i64 (by dsimp only;omega) ?_
   exact lU ⟨l,body,4⟩ [] [] rfl (by show 4-4<4-3;decide) ⟨(by show 4<=4;decide),hK⟩ ⟨⟨rfl,rfl,rfl⟩,⟨rfl,rfl,rfl⟩,trivial⟩ ⟨⟨rfl,rfl⟩,rfl,trivial⟩
 ·refine lV.i64 (by simp only [ah];omega) ?_
  refine lX (.nN [el l,iv ((hd.length+sz:Nat):Int),bv true]) 0 [] [] [4] ⟨l,hd.length+sz,true,⟨fun _=>⟨hK.len,hK.ok,by omega⟩,fun h=>(by cases h),fun c r h1 h2 h3=> ?_⟩,rfl,rfl,rfl⟩ rfl trivial ⟨⟨rfl,rfl,rfl⟩, ?_,rfl,trivial⟩
  ·obtain⟨f1,f2,_⟩:=TF c r h1 h2 h3
   refine⟨rfl, ?_, ?_⟩
   ·rw [(hK.full c r h1 h2 h3).1]
    show c.map (mg 10)=c
    rw [show mg 10=fun x=>x from rfl,List.map_id']
   ·rw [f2,ak,f1]
  ·refine Ak ?_
   rw [ah]
   rfl
end
section
attribute [local irreducible] best ints en bd rF dsT
def GT3 (b:By)(Q:List Ev->Prop):Prop:= ∀l0:List Ev,(∀e∈l0,e.ok)->uN l0=0->b=tab l0->Q l0
theorem xk {l:List Ev}(h:uN l=0):l.length<=512∧wF l=0:=by
 unfold uN at h
 split at h
 ·omega
 ·exact⟨by omega,h⟩
def zV (b:By)(l:List Ev)(e:Int):Prop:=(∀x∈l,x.ok)∧l.length<=512∧((e=0∧uN l=0∧tab l=b)∨(e=1∧l = []))∧GT3 b fun l0=>e=0∧l=l0
theorem zV.no {b:By}(h:GT3 b fun _=>False):zV b [] 1:=⟨fun _ h=>(by cases h),au _, .inr ⟨rfl,rfl⟩,fun l0 h1 h2 h3=>(h l0 h1 h2 h3).elim⟩
theorem zV.two {b:By}{l l':List Ev}{e e':Int}(h:zV b l e)(h':zV b l' e'):l=l'∧e=e':=by
 obtain⟨a1,a2,a3,a4⟩:=h
 obtain⟨b1,b2,b3,b4⟩:=h'
 rcases a3 with ⟨rfl,p1,p2⟩|⟨rfl,rfl⟩
 ·have:=b4 l a1 p1 p2.symm
  exact⟨this.2.symm,this.1.symm⟩
 ·rcases b3 with ⟨rfl,p1,p2⟩|⟨rfl,rfl⟩
  ·have:=a4 l' b1 p1 p2.symm
   omega
  ·exact⟨rfl,rfl⟩
structure KT (b:By)(n:Nat)(l:List Ev)(at_:Nat):Prop where
 len:l.length<=n
 ok : ∀e∈l,e.ok
 atl:at_<=b.length
 full:GT3 b fun l0=>n=l0.length∧∃i,i<=nC l0∧l=l0.take (16*i)∧b.drop at_=((List.range (nC l0)).drop i).flatMap fun j=>Bd (ch l0 j)
theorem KT.step {b:By}{n:Nat}{l:List Ev}{at_:Nat}(h:KT b n l at_)(hlt:l.length<n){c:List Ev}{k:Nat}{ok:Bool}(hR:Dw (b.drop at_) (min 16 (n-l.length)) c k ok) :
  (ok=true->KT b n (l++c) (at_+k)∧0<c.length)∧GT3 b fun _=>ok=true:=by
 have key:GT3 b fun l0=>ok=true∧∃i,i+1<=nC l0∧l++c=l0.take (16*(i+1))∧b.drop (at_+k)=((List.range (nC l0)).drop (i+1)).flatMap fun j=>Bd (ch l0 j):=fun l0 h1 h2 h3=>by
  obtain⟨q1,i,q2,q3,q4⟩:=h.full l0 h1 h2 h3
  have hl:l.length=min (16*i) l0.length:=by rw [q3,aK]
  have hi:16*i<l0.length:=by omega
  have hic:i<nC l0:=by unfold nC;omega
  have Kt:=NZ h1 (Du (xk h2).2) hic
  have hcl:(ch l0 i).length=min 16 (n-l.length):=by unfold ch;rw [aK,aS];omega
  have hd:(List.range (nC l0)).drop i=i::(List.range (nC l0)).drop (i+1):=by
   rw [dI (by rw [List.length_range];exact hic),jH]
  rw [hd,iC]at q4
  obtain⟨f1,f2,f3⟩:=hR.full _ _ Kt hcl q4
  refine⟨f1,i,hic, ?_, ?_⟩
  ·rw [f2,q3,show 16*(i+1)=16*i+16 by omega,lG];rfl
  ·rw [<-dB,q4,f3,eY rfl]
 refine⟨fun hk=> ?_,fun l0 h1 h2 h3=>(key l0 h1 h2 h3).1⟩
 obtain⟨g1,g2,g3⟩:=hR.good hk
 have ha:=h.atl
 rw [aS]at g3
 refine⟨⟨by rw [ak];omega,fun e he=> ?_,by omega,fun l0 h1 h2 h3=>⟨(h.full l0 h1 h2 h3).1, ?_⟩⟩,by omega⟩
 ·rcases bK.1 he with he|he
  ·exact h.ok e he
  ·exact g2 e he
 ·obtain⟨_,i,r1,r2,r3⟩:=key l0 h1 h2 h3
  exact⟨i+1,r1,r2,r3⟩
theorem KT.fin {b:By}{n:Nat}{l:List Ev}{at_:Nat}(h:KT b n l at_)(he:l.length=n):GT3 b fun l0=>l=l0:=fun l0 h1 h2 h3=>by
 obtain⟨q1,i,q2,q3,_⟩:=h.full l0 h1 h2 h3
 have hl:l.length=min (16*i) l0.length:=by rw [q3,aK]
 rw [q3,dD (by omega)]
structure TS where
 l:List Ev
 a:Nat
def ajB (b:By)(a:AV)(m:Nat)(H:lM):Prop:= ∃l e,zV b l e∧a = .nN [el l,iv e]∧m=0∧H = []
theorem TG (b:By)(hb:b.length<=100000):mQ Tryz.prog GS 79 [bs b] 0 [] (ajB b):=by
 have hC:=mQ.up (EM b 0 512 (by omega) (by decide)) GS
 have hr:=rW b 0 512 5 (by decide) (by decide)
 have ho:=oN b 0
 have hhead:GT3 b fun l0=>(qg b 0 512 5).2.2=0∧(qg b 0 512 5).1=(l0.length:Int):=fun l0 h1 h2 h3=>by
  have hl:=(xk h2).1
  have r1:=Lm (b:=b) (e:=0) (nJ (by omega:l0.length<=9223372036854775807)) rfl h3
  have:=Jl (em:=5) (most:=512) r1.1 r1.2.1 (by omega)
  rw [this]
  exact⟨rfl,rfl⟩
 generalize qg b 0 512 5=t at *
 obtain⟨x,k,e⟩:=t
 simp only at hC hr hhead
 obtain⟨n,rfl⟩ : ∃n:Nat,x=(n:Int):=⟨x.toNat,by omega⟩
 have hn:n<=512:=by omega
 refine lQ func79 rfl mixed (by kernel_rfl) ?_
 refine mY [] (by kernel_rfl) (mQ.up (NT b (by omega)) GS) (by trivial) ?_
 refine pW [0] [] (by kernel_rfl) hC rfl (by trivial) (by trivial) rfl ?_
 refine pW [0] [] (by kernel_rfl) (mQ.up (Dn (b.drop k) e) GS) rfl (by trivial) (by trivial) rfl ?_
 apply lK<;>intro h
 ·have he:e≠0:=by simpa using h
  exact lX (.nN [el [],iv 1]) 0 [] [] [] ⟨[],1,zV.no fun l0 h1 h2 h3=>he (hhead l0 h1 h2 h3).1,rfl,rfl,rfl⟩ rfl trivial (by trivial)
 have he:e=0:=by simpa using h
 subst he
 obtain⟨hr1,hr2⟩:=hr.2.2.2 rfl
 obtain⟨_,hbe,hke⟩:=ho.2.2.1 hr1
 rw [<-hr2]at hbe hke
 have hk0:KT b n [] (num (n:Int)).length:=by
  refine⟨au _,fun _ h=>(by cases h), ?_,fun l0 h1 h2 h3=> ?_⟩
  ·have:=congrArg List.length hbe
   rw [ak]at this
   omega
  ·have hnl:n=l0.length:=by have:=(hhead l0 h1 h2 h3).2;omega
   refine⟨hnl,0,au _,by simp, ?_⟩
   rw [h3]
   unfold tab zU
   rw [hnl,eY rfl,dJ]
 have n1:=(ni (n:Int)).2
 refine mY [] (by kernel_rfl) (mQ.up (rE [] (n:Int) (nJ (by omega)) (by simp)) GS) (by trivial) ?_
 refine mO agC 3 [6,7] (fun x:TS=> [(6,iv x.a),(7, .own 2)]) (fun x=> [(2, .rows 95 10 (x.l.map rO))]) (fun x=>KT b n x.l x.a) (fun x=>n-x.l.length) [(2, .nil)] [] ⟨[],(num (n:Int)).length⟩ (by kernel_rfl) (fun _=>rfl) rfl hk0 ⟨rfl,trivial⟩ ⟨congrArg (fun n:Nat=>Value.int .i64 (n:Int)) (by simp),trivial,trivial⟩ ?_
 rintro⟨l,at_⟩ hK
 change KT b n l at_ at hK
 have hat:=hK.atl
 have hle:=hK.len
 apply lK<;>intro h
 ·have hlt:l.length<n:=by simp at h;omega
  refine sN.mk' at_ b.length rfl (by rw [ah]) hat (by rw [ah];exact aA _) ?_
  refine lV.to (y:=((n-l.length:Nat):Int)) (by rw [ah];dsimp only;rw [IntWalk.i64_in _ (by omega)];omega) ?_
  conv=>whnf
  have hmin:min (16:Int) ((n-l.length:Nat):Int)=((min 16 (n-l.length):Nat):Int):=by omega
  rw [hmin]
  have hcut:(b.map oh).drop at_=(b.drop at_).map oh:=bI.symm
  refine nO [] (by kernel_rfl) (TD (b.drop at_) (min 16 (n-l.length)) (qh hb) (by omega)) ⟨⟨rfl,hcut⟩,rfl,trivial⟩ ?_
  rintro _ _ _ ⟨c,q,ok,hR,rfl,rfl,rfl⟩
  obtain⟨hs1,hs2⟩:=hK.step hlt hR
  conv=>whnf
  cases ok
  ·exact lX (.nN [el [],iv 1]) 0 [] [] [] ⟨[],1,zV.no (fun l0 h1 h2 h3=>Bool.false_ne_true (hs2 l0 h1 h2 h3)),rfl,rfl,rfl⟩ rfl trivial (by trivial)
  obtain⟨hK1,hc0⟩:=hs1 rfl
  have hl1:=hK1.len
  rw [ak]at hl1
  have hq:=hK1.atl
  refine lN.mk (Dq (by simp only [ah];omega)) ?_
  refine lV.i64 (by dsimp only;omega) ?_
  exact lU ⟨l++c,at_+q⟩ [(2, .lab 3)] [] rfl (by show n -(l++c).length<n-l.length;rw [ak];omega) hK1 ⟨⟨rfl,rfl,aJ.symm⟩,trivial⟩ ⟨rfl,rfl,trivial⟩
 have hln:l.length=n:=by simp at h;omega
 have hfin:=hK.fin hln
 have hT:=Dv l hK.ok (by omega)
 have hq:=mQ.up (equalA (Dt l) b) GS
 refine mY [2] (by kernel_rfl) (hT) (by trivial) ?_
 apply lK<;>intro h
 ·have he:uN l≠0:=by simpa using h
  exact lX (.nN [el [],iv 1]) 0 [] [] [] ⟨[],1,zV.no fun l0 h1 h2 h3=>he (by rw [hfin l0 h1 h2 h3];exact h2),rfl,rfl,rfl⟩ rfl trivial (by trivial)
 have he:uN l=0:=by simpa using h
 have etb:Dt l=tab l:=by unfold Dt;rw [if_pos he]
 rw [etb]at hq ⊢
 (refine mF [] (by kernel_rfl) (hq) rfl ?_ ?_;(focus trivial))
 apply lK<;>intro h
 ·have hp : ¬tab l=b:=by simpa using h
  exact lX (.nN [el [],iv 1]) 0 [] [] [] ⟨[],1,zV.no fun l0 h1 h2 h3=>hp (by rw [hfin l0 h1 h2 h3];exact h3.symm),rfl,rfl,rfl⟩ rfl trivial (by trivial)
 ·have hp:tab l=b:=by simpa using h
  exact lX (.nN [el l,iv 0]) 0 [] [] [] ⟨l,0,⟨hK.ok,by omega, .inl ⟨rfl,he,hp⟩,fun l0 h1 h2 h3=>⟨rfl,hfin l0 h1 h2 h3⟩⟩,rfl,rfl,rfl⟩ rfl trivial ⟨⟨rfl,rfl⟩,rfl,trivial⟩
end
structure Dk where
 now:List By
 safe:List By
 fuse:Int
 ops:Int
 dead:Bool
def Dk.zero:Dk:=⟨[],[],0,0,false⟩
def U7 (l:List By):Prop:= ∀s∈l,s.length=64
structure Dk.ok (d:Dk):Prop where
 ev:d.now.length%2=0
 lo:8<=d.now.length
 hi:d.now.length<=256
 sf:d.safe.length=d.now.length
 fs : -1<=d.fuse∧d.fuse<=9223372036854775807
 op:0<=d.ops∧d.ops<=4611686018427387904
 n64:U7 d.now
 f64:U7 d.safe
def Dk.dying (d:Dk):Dk:= {d with dead:=true}
def Dk.tick (d:Dk):Dk:= {d with fuse:=if 0<d.fuse then d.fuse-1 else d.fuse,ops:=min (d.ops+1) 4611686018427387904}
def Dk.put (d:Dk)(n:Nat)(b:By):Dk:= {d.tick with now:=d.now.set n b}
def Dk.flush (d:Dk):Dk:= {d.tick with safe:=d.now}
theorem aec {l:List By}{n:Nat}{b:By}(h:U7 l)(hb:b.length=64):U7 (l.set n b):=fun s hs=>by
 rcases iG hs with h1|h1
 ·exact h s h1
 ·rw [h1];exact hb
theorem Dk.ok.tick {d:Dk}(h:d.ok):d.tick.ok:=by
 obtain⟨h1,h2,h3,h4,h5,h6,h7,h8⟩:=h
 refine⟨h1,h2,h3,h4, ?_, ?_,h7,h8⟩
 ·show -1<=(if 0<d.fuse then d.fuse-1 else d.fuse)∧(if 0<d.fuse then d.fuse-1 else d.fuse)<=9223372036854775807
  split<;>omega
 ·show 0<=min (d.ops+1) 4611686018427387904∧min (d.ops+1) 4611686018427387904<=4611686018427387904
  omega
theorem Dk.ok.dying {d:Dk}(h:d.ok):d.dying.ok:=⟨h.ev,h.lo,h.hi,h.sf,h.fs,h.op,h.n64,h.f64⟩
theorem Dk.ok.put {d:Dk}(h:d.ok){n:Nat}{b:By}(hb:b.length=64):(d.put n b).ok:=by
 obtain⟨h1,h2,h3,h4,h5,h6,h7,h8⟩:=h.tick
 refine⟨?_, ?_, ?_, ?_,h5,h6,aec h.n64 hb,h8⟩
 ·show (d.now.set n b).length%2=0;rw [bV];exact h1
 ·show 8<=(d.now.set n b).length;rw [bV];exact h2
 ·show (d.now.set n b).length<=256;rw [bV];exact h3
 ·show d.safe.length=(d.now.set n b).length;rw [bV];exact h4
theorem Dk.ok.flush {d:Dk}(h:d.ok):d.flush.ok:=by
 obtain⟨h1,h2,h3,h4,h5,h6,h7,h8⟩:=h.tick
 exact⟨h1,h2,h3,rfl,h5,h6,h7,h7⟩
def yN (d:Dk)(at_:Nat)(l:List By):Dk×Int:=
 match l with
 | []=>if d.dead then(d,40)else if d.fuse=0 then(d.dying,40)else(d.flush,0)
 | s::r=>if d.dead then(d,40)else if d.fuse=0 then(d.dying,40)else yN (d.put at_ s) (at_+1) r
theorem EP : ∀ {l:List By} {d:Dk} {at_:Nat},d.ok->U7 l->(yN d at_ l).1.ok∧(yN d at_ l).1.now.length=d.now.length∧((yN d at_ l).2=0∨((yN d at_ l).2=40∧(yN d at_ l).1.dead=true)):=by
 intro l
 induction l with
 | nil=>
  intro d at_ h _
  unfold yN
  cases hd:d.dead with
  | true=>exact⟨h,rfl, .inr ⟨rfl,hd⟩⟩
  | false=>
   rw [if_neg (by decide)]
   split
   ·exact⟨h.dying,rfl, .inr ⟨rfl,rfl⟩⟩
   ·exact⟨h.flush,rfl, .inl rfl⟩
 | cons s r ih=>
  intro d at_ h hl
  unfold yN
  cases hd:d.dead with
  | true=>exact⟨h,rfl, .inr ⟨rfl,hd⟩⟩
  | false=>
   rw [if_neg (by decide)]
   split
   ·exact⟨h.dying,rfl, .inr ⟨rfl,rfl⟩⟩
   ·have:=ih (d:=d.put at_ s) (at_:=at_+1) (h.put (hl s (bG ..))) fun x hx=>hl x (dK _ hx)
    refine⟨this.1,this.2.1.trans ?_,this.2.2⟩
    show (d.now.set at_ s).length=d.now.length
    rw [bV]
structure So where
 d:Dk
 gen:Int
 half:Int
 next:Int
 frame:Int
 ev:List Ev
def So.zero:So:=⟨Dk.zero,0,0,0,0,[]⟩
def So.Jt (d:Dk):So:= {So.zero with d:=d}
def wG (a:Int)(l:List By):Int:=l.foldl (fun a s=>if wo s then max a (hG s:Int)else a) a
theorem N8 {l:List By}{a:Int} : a<=wG a l:=by
 unfold wG
 induction l generalizing a with
 | nil=>exact je _
 | cons s r ih=>
  rw [eX]
  refine Int.le_trans ?_ ih
  split
  ·exact Int.le_max_left _ _
  ·exact je _
theorem aed {l:List By}{a:Int}{s:By}(hs:s∈l)(h:wo s=true):(hG s:Int)<=wG a l:=by
 induction l generalizing a with
 | nil=>cases hs
 | cons x r ih=>
  unfold wG
  rw [eX]
  rcases bD.1 hs with rfl|hs
  ·rw [if_pos h]
   exact Int.le_trans (Int.le_max_right _ _) N8
  ·exact ih hs
theorem U8 (l:List By)(a:Int)(h:0<=a):wG a l=max a (wG 0 l):=by
 unfold wG
 suffices hh : ∀(l:List By) (a b:Int),l.foldl (fun a s=>if wo s then max a (hG s:Int)else a) (max a b)=max a (l.foldl (fun a s=>if wo s then max a (hG s:Int)else a) b) by
  have:=hh l a 0
  rwa [Int.max_eq_left h]at this
 intro l
 induction l with
 | nil=>intro a b;rfl
 | cons s r ih=>
  intro a b
  rw [eX,eX]
  split
  ·rw [Int.max_assoc,ih]
  ·exact ih a b
theorem Z4 {l:List By}{a:Int}(h:a<=4294967295):wG a l<=4294967295:=by
 unfold wG
 induction l generalizing a with
 | nil=>exact h
 | cons s r ih=>
  rw [eX]
  refine ih ?_
  have:=Qu s
  split
  ·omega
  ·exact h
def uO (s:So):So×Int:=
 if uz (wG s.gen s.d.now+1) 0 (tab s.ev)≠0∨s.d.now.length/2<nS (tab s.ev)then(So.zero,19)
 else if(yN s.d ((1-s.half).toNat*(s.d.now.length/2)) (zy (wG s.gen s.d.now+1) 0 (tab s.ev))).2≠0 then(So.Jt (yN s.d ((1-s.half).toNat*(s.d.now.length/2)) (zy (wG s.gen s.d.now+1) 0 (tab s.ev))).1,40)
 else(⟨(yN s.d ((1-s.half).toNat*(s.d.now.length/2)) (zy (wG s.gen s.d.now+1) 0 (tab s.ev))).1,wG s.gen s.d.now+1,1-s.half,(nS (tab s.ev):Nat),1,s.ev⟩,0)
noncomputable def qp (l:List By):Int×Int×Nat×By×Bool:=
 match l with
 | []=>(0,0,0,[],false)
 | s::_=>if hN s<1∨l.length<hN s then(0,0,0,[],false)else if(AU (l.take (hN s))).2.2.2 then((AU (l.take (hN s))).1,(AU (l.take (hN s))).2.1,hN s,(AU (l.take (hN s))).2.2.1,true)else(0,0,0,[],false)
noncomputable def lgF (g:Int):Nat->List By->Nat->List By
 | 0,_,_=> []
 | m+1,l,k=>if(qp l).2.2.2.2=true∧(qp l).1=g∧(qp l).2.1=(k:Int)then(qp l).2.2.2.1::lgF g m (l.drop (qp l).2.2.1) (k+1)else []
noncomputable def FU (b:By):List Ev×Int:=
 open Classical in if h : ∃l0:List Ev,(∀e∈l0,e.ok)∧uN l0=0∧b=tab l0 then(Classical.choose h,0)else([],1)
theorem Z5 {b:By}{l:List Ev}{e:Int}(h:zV b l e):FU b=(l,e):=by
 obtain⟨h1,_,h2,h3⟩:=h
 unfold FU
 rcases h2 with ⟨rfl,h4,h5⟩|⟨rfl,rfl⟩
 ·have hx : ∃l0:List Ev,(∀e∈l0,e.ok)∧uN l0=0∧b=tab l0:=⟨l,h1,h4,h5.symm⟩
  rw [dif_pos hx]
  obtain⟨q1,q2,q3⟩:=jS hx
  rw [(h3 _ q1 q2 q3).2]
 ·rw [dif_neg]
  rintro⟨l0,q1,q2,q3⟩
  exact absurd (h3 l0 q1 q2 q3).1 (by decide)
theorem ahF (b:By):(∀e∈(FU b).1,e.ok)∧(FU b).1.length<=512∧((FU b).2=0->uN (FU b).1=0∧b=tab (FU b).1)∧((FU b).2=0∨(FU b).2=1):=by
 unfold FU
 split
 ·rename_i hx
  obtain⟨q1,q2,q3⟩:=jS hx
  exact⟨q1,(xk q2).1,fun _=>⟨q2,q3⟩, .inl rfl⟩
 ·exact⟨(fun _ h=>by cases h),au _,(fun h=>by simp at h), .inr rfl⟩
noncomputable def zo (out:List Ev):List By->List Ev
 | []=>out
 | b::r=>if(FU b).2≠0∨512<out.length+(FU b).1.length then out else zo (out++(FU b).1) r
noncomputable def FW (l:List By):Bool:=(qp l).2.2.2.2&&decide ((qp l).2.1=0)
noncomputable def Xi (l:List By):List Ev:=zo [] (lgF (qp l).1 l.length l 0)
noncomputable def hlf (a b:List By):Int×List Ev:=
 if FW a=true∧(FW b=false∨(qp b).1<=(qp a).1)then(0,Xi a)else if FW b=true then(1,Xi b)else(1,[])
noncomputable def wH (d:Dk):So×Int:=
 if d.dead then(So.Jt d,40)
 else uO ⟨d,0,(hlf (d.now.take (d.now.length/2)) (d.now.drop (d.now.length/2))).1,0,0,(hlf (d.now.take (d.now.length/2)) (d.now.drop (d.now.length/2))).2⟩
structure So.ok (s:So):Prop where
 d:s.d.ok
 gen:1<=s.gen∧s.gen<=4294967295
 half:s.half=0∨s.half=1
 next:1<=s.next∧s.next<=(s.d.now.length/2:Nat)
 frame:1<=s.frame∧s.frame<=65536
 ev:(∀e∈s.ev,e.ok)∧uN s.ev=0
def xw (s:So)(l:List Ev):So×Int:=
 if uN l≠0 then(So.zero,uN l)
 else if 512<s.ev.length+l.length then(So.zero,5)
 else if l = []then(s,0)
 else if 255<nS (tab (s.ev++l))∨s.d.now.length/2<nS (tab (s.ev++l))then(So.zero,19)
 else if uz s.gen s.frame (tab l)≠0∨((s.d.now.length/2:Nat):Int)<s.next+(nS (tab l):Nat)then uO {s with ev:=s.ev++l}
 else if(yN s.d (s.half.toNat*(s.d.now.length/2)+s.next.toNat) (zy s.gen s.frame (tab l))).2≠0 then(So.Jt (yN s.d (s.half.toNat*(s.d.now.length/2)+s.next.toNat) (zy s.gen s.frame (tab l))).1,40)
 else(⟨(yN s.d (s.half.toNat*(s.d.now.length/2)+s.next.toNat) (zy s.gen s.frame (tab l))).1,s.gen,s.half,s.next+(nS (tab l):Nat),s.frame+1,s.ev++l⟩,0)
section
attribute [local irreducible] num hsh
theorem afi {g f:Int}{b:By}(h:g<1∨4294967295<g∨f<0∨65535<f):uz g f b=3∧zy g f b = []:=by
 have e:uz g f b=3:=by unfold uz;rw [if_pos h]
 exact⟨e,by unfold zy;rw [if_neg (by rw [e];decide)]⟩
theorem afj {g f:Int}{b:By}(h : ¬(g<1∨4294967295<g∨f<0∨65535<f))(h2:255<nS b):uz g f b=4∧zy g f b = []:=by
 have e:uz g f b=4:=by unfold uz;rw [if_neg h,if_pos h2]
 exact⟨e,by unfold zy;rw [if_neg (by rw [e];decide)]⟩
theorem Z7 {g f:Int}{b:By}(h : ¬(g<1∨4294967295<g∨f<0∨65535<f))(h2 : ¬255<nS b):uz g f b=0∧zy g f b=secs g.toNat f.toNat b:=by
 have e:uz g f b=0:=by unfold uz;rw [if_neg h,if_neg h2]
 exact⟨e,by unfold zy;rw [if_pos e]⟩
theorem lV.divN {K:Int->Prop}(v k:Nat)(hv:v<1000000000)(c:K ((v/k:Nat):Int)):lV .i64 ((v:Int).tdiv (k:Int)) K:=by
 have h:=ku v k
 refine lV.to (y:=((v/k:Nat):Int)) ?_ c
 rw [show (v:Int).tdiv (k:Int)=((v/k:Nat):Int)from rfl]
 generalize v/k=q at *
 exact IntWalk.i64_in _ (by omega)
theorem Z8 (l:List By)(b:By):(l++ [b]).map FB=l.map FB++ [[.lst 1 (b.map oh)]]:=by rw [aJ];rfl
theorem U9 (b:By)(i:Nat):List.drop (i*48) (List.take ((i+1)*48) ((pad b).map oh))=(prt b i).map oh:=by
 unfold prt
 rw [gX,show (i+1)*48-i*48=48 by omega,dU,bI]
theorem Dx (G:Glob)(gen frame:Int)(b:By)(hb:b.length<=3000000):mQ Tryz.prog G 10 [iv gen,iv frame,bs b] 0 [] (Is (.nN [ss (zy gen frame b),iv (uz gen frame b)])):=by
 have hP:=mQ.up (rE [] (b.length:Int) (nJ (by omega)) (au _)) G
 rw [dO]at hP
 have hP:mQ Tryz.prog G 28 [bs [],iv ((b.map oh).length:Nat)] 0 [] (sW 5 1 ((num (b.length:Int)).map oh)):=by rw [ah];exact hP
 have hnl:=ni (b.length:Int)
 have hdl:(dat b).length=(num (b.length:Int)).length+b.length:=by unfold dat;rw [ak]
 have hdm:(num (b.length:Int)).map oh++b.map oh=(dat b).map oh:=by unfold dat;rw [aJ]
 refine lQ func10 rfl mixed (by kernel_rfl) ?_
 by_cases hc:gen<1∨4294967295<gen∨frame<0∨65535<frame
 ·obtain⟨e1,e2⟩:=afi (b:=b) hc
  rw [e1,e2]
  conv=>whnf
  repeat' (apply lK<;>intro h<;>(conv=>whnf))
  all_goals first
   | exact lZ [] (by trivial)
   | (exfalso;simp at *;omega)
 apply lK<;>intro h
 ·exfalso;simp at h;omega
 apply lK<;>intro h
 ·exfalso;simp at h;omega
 apply lK<;>intro h
 ·exfalso;simp at h;omega
 apply lK<;>intro h
 ·exfalso;simp at h;omega
 refine mY [] (by kernel_rfl) (hP) (by trivial) ?_
 refine lN.mk (lS (by simp only [ah];omega) (by kernel_rfl)) ?_
 conv=>whnf
 rw [hdm]
 refine lV.i64 (by rw [ah];omega) ?_
 refine lV.to (y:=(((dat b).length+47:Nat):Int)) (by rw [ah,IntWalk.i64_in _ (by omega)];omega) ?_
 refine lN.mk (by decide) ?_
 refine lV.divN _ 48 (by omega) ?_
 conv=>whnf
 have hpl:=Gw b
 have hpos:=NM b
 have hn1:nS b*48<(dat b).length+48:=by unfold nS;omega
 have hn2:(dat b).length<=nS b*48:=by unfold nS;omega
 have ahG:(dat b).map oh++(vI (nS b*48 -(dat b).length)).data.toList.map oh=(pad b).map oh:=by
  unfold pad;rw [aJ];rfl
 rw [show ((dat b).length+47)/48=nS b from rfl]
 apply lK<;>intro h
 ·obtain⟨e1,e2⟩:=afj hc (by simp at h;omega:255<nS b)
  rw [e1,e2]
  exact lZ [] (by trivial)
 have hns : ¬255<nS b:=by simp at h;omega
 obtain⟨e1,e2⟩:=Z7 hc hns
 rw [e1,e2]
 refine lV.to (y:=((nS b*48:Nat):Int)) (by rw [IntWalk.i64_in _ (by omega)];omega) ?_
 refine lV.to (y:=((nS b*48 -(dat b).length:Nat):Int)) (by rw [ah,IntWalk.i64_in _ (by omega)];omega) ?_
 refine KG.mk' (nS b*48 -(dat b).length) rfl rfl ⟨by omega,by unfold maxLen;omega⟩ ?_
 refine lN.mk ?_ ?_
 ·have:(vI (nS b*48 -(dat b).length)).size=nS b*48 -(dat b).length:=by simp [vI,ByteArray.size]
  rw [this,ah];unfold maxLen;omega
 conv=>whnf
 rw [ahG]
 conv=>whnf
 obtain⟨g,hg⟩ : ∃g:Nat,gen=(g:Int):=⟨gen.toNat,by omega⟩
 obtain⟨f,hf⟩ : ∃f:Nat,frame=(f:Int):=⟨frame.toNat,by omega⟩
 subst hg;subst hf
 simp only [dh]
 refine mO ((8,8)::af2) 4 [8,10,47] (fun i:Nat=> [(8,bs (pad b)),(10, .own 3),(47,iv i)]) (fun i=> [(3, .rows 22 1 ((Di g f b i).map FB))]) (fun i=>i<=nS b) (fun i=>nS b-i) [(3, .nil)] [2] 0 (by kernel_rfl) (fun _=>rfl) rfl (au _) ⟨rfl,trivial⟩ ⟨⟨rfl,rfl,rfl⟩,trivial,rfl,trivial⟩ ?_
 intro i hi
 apply lK<;>intro h
 rotate_left
 ·have hie:i=nS b:=by simp at h;omega
  subst hie
  refine lZ [3] ?_
  trivial
 have hlt:i<nS b:=by simp at h;omega
 (refine mP aiI [3] (by kernel_rfl) ?_;conv=>whnf)
 refine lV.to (y:=((i*48:Nat):Int)) (by rw [IntWalk.i64_in _ (by omega)];omega) ?_
 refine lV.i64 (by omega) ?_
 refine lV.to (y:=(((i+1)*48:Nat):Int)) (by rw [IntWalk.i64_in _ (by omega)];omega) ?_
 refine sN.mk' (i*48) ((i+1)*48) rfl rfl (by omega) (by rw [ah,hpl];omega) ?_
 conv=>whnf
 have alk:=Gx hlt
 refine mY [] (by kernel_rfl) (U4 G g f i (nS b) (prt b i) (by omega) (by omega) (by omega) (by omega) (by omega)) ⟨(by trivial),⟨rfl,U9 b i⟩,trivial⟩ ?_
 refine lN.mk (lS (by rw [ah,Dj];simp only [ln];omega) (by kernel_rfl)) ?_
 refine lV.i64 (by omega) ?_
 exact lU (i+1) [(3, .lab 6)] [] rfl (by show nS b -(i+1)<nS b-i;omega) hlt ⟨⟨rfl,rfl,by rw [Ls,Z8]⟩,trivial⟩ ⟨⟨rfl,rfl⟩,rfl,rfl,trivial⟩
end
end Go.Proofs.YtocckceefcmeaaaGreatDoor.Cl
namespace Go.Proofs.YtocckceefcmeaaaGreatDoor.Vc
open RowKit Vc Dg Cl Go.Proofs.Tryz
attribute [local irreducible] loadVar storeVar Instr.indexAt Instr.index Instr.sliceAt Instr.makeSlice Instr.lookup Instr.mapUpdate Instr.range Instr.next Instr.entry Instr.makeMap Builtin.append_ Builtin.copy_ Builtin.len_ Builtin.min_ Builtin.max_ Builtin.cap_ Builtin.delete_ Builtin.clear_ convert binOp eqGuard Op.unary Calls
def beT (k n j:Nat):List UInt8:=(List.range j).map fun t=>bt (n/2^(8*(k-1-t)))
theorem Z9 (k n j:Nat):beT k n (j+1)=beT k n j++ [bt (n/2^(8*(k-1-j)))]:=by
 simp only [beT,iQ,aJ,gG,jB]
theorem Ju {w:World}{B:Nat}{E:TypeId}{sz:Nat}{oa:Option Addr}{n c:Nat}{xs:List Value}(hO:Own w B E sz oa n c xs):oa=none->c=0:=by
 intro e
 rcases hO.2 with ⟨hv,hn⟩|⟨g,cap,cur,hv,_⟩
 ·injection hv with _ _ e3
 ·injection hv with e1 _ _
  rw [e]at e1;cases e1
theorem TI (n k:Nat)(w:World)(hk:k<=8)(hn:n<18446744073709551616) :
  zC Tryz.prog 70 #[.int .u64 n, .int .i64 k] w fun v w'=> ∃oa c,v = .slice oa k c∧Own w' w.heap.size 5 1 oa k c (oH (be k n))∧Below w.heap.size w w':=by
 refine oz func70 rfl Dg.mixed (by kernel_rfl) ?_
 refine tq (X:=Nat×Option Addr×Nat) agA (fun x=> [(5, .slice x.2.1 x.1 x.2.2),(6, .int .i64 ((k:Int)-1-x.1))]) (fun x w'=>x.1<=k∧Below w.heap.size w w'∧Own w' w.heap.size 5 1 x.2.1 x.1 x.2.2 (oH (beT k n x.1))) (fun x=>k-x.1) (0,none,0) (by kernel_rfl)
  ?_ ⟨au _,Below.refl _ _,Own.nil _ _ _ _⟩ ?_
 ·refine⟨rfl,qI ?_,trivial⟩
  rw [IntWalk.i64_in _ (by omega)];simp
 rintro⟨j,oo,cc⟩ w1 r1 ⟨hj,hB,ho⟩
 dsimp only at hj ho
 apply lK<;>intro h
 ·have hlt:j<k:=by have:=of_decide_eq_true h;dsimp only at this;omega
  have e1:IntKind.i64.wrap (8*((k:Int)-1 -(j:Int)))=((8*(k-1-j):Nat):Int):=by rw [IntWalk.i64_in _ (by omega)];omega
  have e2:IntKind.u64.wrap (IntKind.i64.wrap (8*((k:Int)-1 -(j:Int))))=((8*(k-1-j):Nat):Int):=by rw [e1,IntWalk.u64_in _ (by omega)]
  refine lN.mk (by rw [e2];omega) ?_
  refine qL (B:=w.heap.size) (sz:=1) (qY:=1) (m:=1) (n:=j) rfl rfl rfl rfl rfl rfl (ho.alloc _) (Row.alloc1 _ _ _) rfl (fun u hu=>by simp at hu;subst hu;rfl) (fun e=>by cases e) (by omega) (dM hB.size (by simp)) (by unfold maxLen;omega) ?_
  intro o3 c3 w3 ho3 hB3 _
  refine rU.mk ⟨_, ?_,(j+1,o3,c3),rfl, ?_, ?_⟩
  ·show k -(j+1)<k-j;omega
  ·exact⟨rfl,qI (by rw [IntWalk.i64_in _ (by dsimp only;omega)];dsimp only;omega),trivial⟩
  ·refine⟨hlt,(rP hB (aA _) _).trans hB3, ?_⟩
   dsimp only
   rw [Z9,pK,BI]
   rw [e2,Jp n (8*(k-1-j)) _ (by have:IntKind.u64.bits=64:=rfl;rw [this];omega)]at ho3
   exact ho3
 ·have hge : ¬j<k:=by have:=of_decide_eq_false h;dsimp only at this;omega
  obtain rfl:j=k:=by omega
  exact rX.mk ⟨oo,cc,rfl,ho,hB⟩
theorem TJ (g f i n:Nat)(oa:Option Addr)(m c:Nat)(d:List UInt8)(w:World)(h1:g<4294967296)(h2:f<65536)(h3:i<256)(h4:n<256)(hm:m=d.length)(hd_:d.length<=1000)(hc:m<=c)(hnil:oa=none->c=0)(hr:Row w oa (oH d)) :
  zC Tryz.prog 31 #[.int .i64 g, .int .i64 f, .int .i64 i, .int .i64 n, .slice oa m c] w fun v w'=> ∃qy c',v = .slice qy (16+m) c'∧Own w' w.heap.size 5 1 qy (16+m) c' (oH (sec g f i n d))∧Below w.heap.size w w':=by
 refine oz func31 rfl Dg.mixed (by kernel_rfl) ?_
 have lb : ∀l:List UInt8,(oH l).length=l.length:=fun l=>by simp [oH]
 have u1:IntKind.u64.wrap (g:Int)=(g:Int):=IntWalk.u64_in _ (by omega)
 have u2:IntKind.u64.wrap (f:Int)=(f:Int):=IntWalk.u64_in _ (by omega)
 conv=>whnf
 rw [u1]
 refine pY (by kernel_rfl) (TI g 4 w (by decide) (by omega)) ?_
 rintro _ w1 ⟨o1,c1,rfl,hO1,hB1⟩
 conv=>whnf
 rw [u2]
 refine pY (by kernel_rfl) (TI f 2 w1 (by decide) (by omega)) ?_
 rintro _ w2 ⟨o2,c2,rfl,hO2,hB2⟩
 have hB2':=hB1.trans (hB2.mono hB1.size)
 have ajC:=hO1.below hB2
 refine qL (B:=w.heap.size) (sz:=1) (qY:=1) (m:=2) (n:=4) rfl rfl rfl rfl rfl rfl ajC hO2.row (by rw [lb,uV]) (uQ _) (Ju hO2) (by decide) hB2'.size (by decide) ?_
 intro o3 c3 w3 hO3 hB3 _
 have Wj:=hB2'.trans hB3
 clear ajC hO2 hO1 hB1 hB2 hB3 hB2'
 rw [<-pK]at hO3
 refine qL (B:=w.heap.size) (sz:=1) (qY:=1) (m:=2) (n:=4+2) rfl rfl rfl rfl rfl rfl (hO3.alloc _) (Row.alloc1 _ _ _) rfl (fun u hu=>by simp at hu;rcases hu with rfl|rfl<;>rfl) (fun e=>by cases e) (by decide) (dM Wj.size (by simp)) (by decide) ?_
 intro o4 c4 w4 hO4 hB4 _
 have aee:=(rP Wj (aA _) _).trans hB4
 clear Wj hB4 hO3
 rw [ZP i,ZP n]at hO4
 have hO4:Own w4 w.heap.size 5 1 o4 8 c4 (oH (hd g f i n)):=by
  unfold hd
  rw [pK]
  exact hO4
 have hl:=Aq g f i n
 obtain⟨q1,q2⟩:=aff g f i n d
 have q3:CY 101 0 (frame [hd g f i n,d])=(hw g f i n d:Int):=q2
 have ajD:oH (sec g f i n d)=oH (hd g f i n++be 8 (hw g f i n d))++oH d:=by unfold sec;rw [pK]
 rw [ajD]
 clear ajD q2
 generalize hw g f i n d=y at *
 generalize hd g f i n=z at *
 have c48:=Ux hO4
 refine pY (by kernel_rfl) (Yq 101 (some ⟨w4.heap.size,0,none⟩) 2 [.slice o4 8 c4, .slice oa m c] [z,d] _ (show 2<=1099511627776 by decide) (by rw [Jq,hl];omega) (Row.alloc1 _ _ _) ?_) ?_
 ·refine⟨rfl,fun k hk=> ?_⟩
  have hk:k<2:=hk
  match k,hk with
  | 0,_=>exact⟨o4,c4,by show some (Value.slice o4 8 c4)=some (Value.slice o4 z.length c4);rw [hl],by show z.length<=c4;omega,Ju hO4,hO4.row.alloc _⟩
  | 1,_=>exact⟨oa,c,by show some (Value.slice oa m c)=some (Value.slice oa d.length c);rw [hm],by show d.length<=c;omega,hnil,(hr.below aee).alloc _⟩
 rintro _ w5 ⟨rfl,hB5⟩
 rw [q3]
 have ahH:Below w4.heap.size w4 w5:=(rP (Below.refl _ _) (aA _) _).trans (hB5.mono (by simp))
 have ahI:=aee.trans (ahH.mono aee.size)
 have hO5:=hO4.below ahH
 clear hO4 aee hB5 ahH
 refine pY (by kernel_rfl) (TI y 8 w5 (by decide) q1) ?_
 rintro _ w6 ⟨o6,c6,rfl,hO6,hB6⟩
 have ahJ:=ahI.trans (hB6.mono ahI.size)
 have hO7:=hO5.below hB6
 refine qL (B:=w.heap.size) (sz:=1) (qY:=1) (m:=8) (n:=8) rfl rfl rfl rfl rfl rfl hO7 hO6.row (by rw [lb,uV]) (uQ _) (Ju hO6) (by decide) ahJ.size (by decide) ?_
 intro o8 c8 w8 hO8 hB8 _
 have aef:=ahJ.trans hB8
 rw [<-pK]at hO8
 clear hO7 hO6 hO5 hB6 hB8 ahJ ahI
 refine qL (B:=w.heap.size) (sz:=1) (qY:=1) (m:=m) (n:=8+8) rfl rfl rfl rfl rfl rfl hO8 (hr.below aef) (by rw [lb];omega) (uQ _) hnil (by omega) aef.size (by unfold maxLen;omega) ?_
 intro o9 c9 w9 hO9 hB9 _
 have alp:=aef.trans hB9
 clear hO8 aef hB9
 exact rX.mk ⟨o9,c9,rfl,hO9,alp⟩
end Go.Proofs.YtocckceefcmeaaaGreatDoor.Vc
namespace Go.Proofs.YtocckceefcmeaaaGreatDoor.Cl
open RowKit Vc Ax Go.Proofs.Tryz
attribute [local irreducible] loadVar storeVar Instr.indexAt Instr.index Instr.sliceAt Instr.makeSlice Instr.lookup Instr.mapUpdate Instr.range Instr.next Instr.entry Instr.makeMap Builtin.append_ Builtin.copy_ Builtin.len_ Builtin.min_ Builtin.max_ Builtin.cap_ Builtin.delete_ Builtin.clear_ convert binOp eqGuard Op.unary Calls
section
attribute [local irreducible] num hsh
theorem Qy (G:Glob)(g f i n:Nat)(d:By)(h1:g<4294967296)(h2:f<65536)(h3:i<256)(h4:n<256)(hd_:d.length<=1000):mQ Tryz.prog G 31 [iv g,iv f,iv i,iv n,bs d] 0 [] (sW 5 1 ((sec g f i n d).map oh)):=by
 refine zQ (E:=5) (c:=fun a:UInt8=> [Value.int .u8 (a.toNat:Int)]) (fun _=>rfl) (fun _=>rfl) (fun _ v hv=>by simp at hv;subst hv;rfl) fun w F σ vs hF r=> ?_
 match vs,r with
 | [x1,x2,x3,x4,x5],⟨r1,r2,r3,r4,r5,_⟩=>
  rw [r1.oJ,r2.oJ,r3.oJ,r4.oJ]
  cases r5 with
  | lst hu=>
   obtain⟨oa,c,rfl,hc,hn,hr⟩:=EK hu hF
   refine(TJ g f i n oa d.length c d w h1 h2 h3 h4 rfl hd_ hc hn hr).mono fun v w' ⟨qy,c',e,hO,hB⟩=> ?_
   refine⟨qy,c', ?_, ?_,hB⟩
   ·rw [e,Gv]
   ·rw [Jd,Gv];exact hO
theorem ER (G:Glob)(gen frame:Int)(b:By)(hb:b.length<=3000000):mQ Tryz.prog G 11 [iv gen,iv frame,bs b] 0 [] (Is (.nN [ss (zy gen frame b),iv (uz gen frame b)])):=by
 have hP:=mQ.up (sJ [] (b.length:Int) (nJ (by omega)) (au _)) G
 rw [dO]at hP
 have hP:mQ Tryz.prog G 30 [bs [],iv ((b.map oh).length:Nat)] 0 [] (sW 5 1 ((num (b.length:Int)).map oh)):=by rw [ah];exact hP
 have hnl:=ni (b.length:Int)
 have hdl:(dat b).length=(num (b.length:Int)).length+b.length:=by unfold dat;rw [ak]
 have hdm:(num (b.length:Int)).map oh++b.map oh=(dat b).map oh:=by unfold dat;rw [aJ]
 refine lQ func11 rfl mixed (by kernel_rfl) ?_
 by_cases hc:gen<1∨4294967295<gen∨frame<0∨65535<frame
 ·obtain⟨e1,e2⟩:=afi (b:=b) hc
  rw [e1,e2]
  conv=>whnf
  repeat' (apply lK<;>intro h<;>(conv=>whnf))
  all_goals first
   | exact lZ [] (by trivial)
   | (exfalso;simp at *;omega)
 apply lK<;>intro h
 ·exfalso;simp at h;omega
 apply lK<;>intro h
 ·exfalso;simp at h;omega
 apply lK<;>intro h
 ·exfalso;simp at h;omega
 apply lK<;>intro h
 ·exfalso;simp at h;omega
 refine mY [] (by kernel_rfl) (hP) (by trivial) ?_
 refine lN.mk (lS (by simp only [ah];omega) (by kernel_rfl)) ?_
 conv=>whnf
 rw [hdm]
 refine lV.i64 (by rw [ah];omega) ?_
 refine lV.to (y:=(((dat b).length+47:Nat):Int)) (by rw [ah,IntWalk.i64_in _ (by omega)];omega) ?_
 refine lN.mk (by decide) ?_
 refine lV.divN _ 48 (by omega) ?_
 conv=>whnf
 have hpl:=Gw b
 have hpos:=NM b
 have hn1:nS b*48<(dat b).length+48:=by unfold nS;omega
 have hn2:(dat b).length<=nS b*48:=by unfold nS;omega
 have ahG:(dat b).map oh++(vI (nS b*48 -(dat b).length)).data.toList.map oh=(pad b).map oh:=by
  unfold pad;rw [aJ];rfl
 rw [show ((dat b).length+47)/48=nS b from rfl]
 apply lK<;>intro h
 ·obtain⟨e1,e2⟩:=afj hc (by simp at h;omega:255<nS b)
  rw [e1,e2]
  exact lZ [] (by trivial)
 have hns : ¬255<nS b:=by simp at h;omega
 obtain⟨e1,e2⟩:=Z7 hc hns
 rw [e1,e2]
 refine lV.to (y:=((nS b*48:Nat):Int)) (by rw [IntWalk.i64_in _ (by omega)];omega) ?_
 refine lV.to (y:=((nS b*48 -(dat b).length:Nat):Int)) (by rw [ah,IntWalk.i64_in _ (by omega)];omega) ?_
 refine KG.mk' (nS b*48 -(dat b).length) rfl rfl ⟨by omega,by unfold maxLen;omega⟩ ?_
 refine lN.mk ?_ ?_
 ·have:(vI (nS b*48 -(dat b).length)).size=nS b*48 -(dat b).length:=by simp [vI,ByteArray.size]
  rw [this,ah];unfold maxLen;omega
 conv=>whnf
 rw [ahG]
 conv=>whnf
 obtain⟨g,hg⟩ : ∃g:Nat,gen=(g:Int):=⟨gen.toNat,by omega⟩
 obtain⟨f,hf⟩ : ∃f:Nat,frame=(f:Int):=⟨frame.toNat,by omega⟩
 subst hg;subst hf
 simp only [dh]
 refine mO ((8,8)::af4) 4 [8,10,11] (fun i:Nat=> [(8,bs (pad b)),(10, .own 3),(11,iv i)]) (fun i=> [(3, .rows 22 1 ((Di g f b i).map FB))]) (fun i=>i<=nS b) (fun i=>nS b-i) [(3, .nil)] [2] 0 (by kernel_rfl) (fun _=>rfl) rfl (au _) ⟨rfl,trivial⟩ ⟨⟨rfl,rfl,rfl⟩,trivial,rfl,trivial⟩ ?_
 intro i hi
 apply lK<;>intro h
 rotate_left
 ·have hie:i=nS b:=by simp at h;omega
  subst hie
  refine lZ [3] ?_
  trivial
 have hlt:i<nS b:=by simp at h;omega
 refine lV.to (y:=((i*48:Nat):Int)) (by rw [IntWalk.i64_in _ (by omega)];omega) ?_
 refine lV.i64 (by omega) ?_
 refine lV.to (y:=(((i+1)*48:Nat):Int)) (by rw [IntWalk.i64_in _ (by omega)];omega) ?_
 refine sN.mk' (i*48) ((i+1)*48) rfl rfl (by omega) (by rw [ah,hpl];omega) ?_
 conv=>whnf
 have alk:=Gx hlt
 refine mY [] (by kernel_rfl) (Qy G g f i (nS b) (prt b i) (by omega) (by omega) (by omega) (by omega) (by omega)) ⟨rfl,rfl,rfl,rfl,⟨rfl,U9 b i⟩,trivial⟩ ?_
 refine lN.mk (lS (by rw [ah,Dj];simp only [ln];omega) (by kernel_rfl)) ?_
 refine lV.i64 (by omega) ?_
 exact lU (i+1) [(3, .lab 6)] [] rfl (by show nS b -(i+1)<nS b-i;omega) hlt ⟨⟨rfl,rfl,by rw [Ls,Z8]⟩,trivial⟩ ⟨⟨rfl,rfl⟩,rfl,rfl,trivial⟩
end
end Go.Proofs.YtocckceefcmeaaaGreatDoor.Cl
