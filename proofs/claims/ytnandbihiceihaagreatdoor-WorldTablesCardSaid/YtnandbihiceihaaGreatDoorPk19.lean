/- Joined parts of the proof. Plain laws of what lies within the windows, event by event -/
import Derived.Test.YtnandbihiceihaaGreatDoorPk17
import Derived.Test.YtnandbihiceihaaGreatDoorPk18
import Derived.Test.YtnandbihiceihaaGreatDoorPk13
import Derived.Test.YtnandbihiceihaaGreatDoorPk15
import Derived.Test.YtnandbihiceihaaGreatDoorPk12
set_option linter.unusedVariables false
set_option linter.unusedSimpArgs false
set_option maxRecDepth 100000
set_option maxHeartbeats 16000000
namespace Go.Proofs.YtnandbihiceihaaGreatDoor.Cl
open Vc Ax Go.Proofs.YtnandbihiceihaaGreatDoor.Id Go.Proofs.Tryz
def insL (ls:List Lk)(xs:List Ex)(w:Int)(l:List Ev):List (List Ev):=xs.zipIdx.map fun p=>uD ls xs w p.2 p.1 l
def yK (ls:List Lk)(xs:List Ex)(name:By)(w:Int)(l:List Ev):List Bool:=xs.zipIdx.map fun p=>yT ls xs name w p.2 p.1 l
theorem xR (ls:List Lk)(xs:List Ex)(w:Int)(l:List Ev):(insL ls xs w l).length=xs.length:=by unfold insL;simp
theorem xU (ls:List Lk)(xs:List Ex)(name:By)(w:Int)(l:List Ev):(yK ls xs name w l).length=xs.length:=by unfold yK;simp
theorem uF (ls:List Lk)(xs:List Ex)(w:Int)(l:List Ev)(i:Nat):(insL ls xs w l)[i]? = xs[i]?.map fun x=>uD ls xs w i x l:=by
 unfold insL
 rw [aJ,List.getElem?_zipIdx]
 cases xs[i]? <;>simp
theorem wo (ls:List Lk)(xs:List Ex)(name:By)(w:Int)(l:List Ev)(i:Nat):(yK ls xs name w l)[i]? = xs[i]?.map fun x=>yT ls xs name w i x l:=by
 unfold yK
 rw [aJ,List.getElem?_zipIdx]
 cases xs[i]? <;>simp
theorem ZU (ls:List Lk)(xs:List Ex)(w:Int):insL ls xs w []=List.replicate xs.length []:=by
 apply eu
 intro i
 rw [uF,gy]
 by_cases h:i<xs.length
 ·rw [ah h,if_pos h];rfl
 ·rw [dN aai,if_neg h];rfl
theorem ZV (ls:List Lk)(xs:List Ex)(name:By)(w:Int):yK ls xs name w []=List.replicate xs.length false:=by
 apply eu
 intro i
 rw [wo,gy]
 by_cases h:i<xs.length
 ·rw [ah h,if_pos h];rfl
 ·rw [dN aai,if_neg h];rfl
theorem xW (ls:List Lk)(xs:List Ex)(w:Int)(k:Nat)(x:Ex)(l:List Ev)(e:Ev):uD ls xs w k x (l++ [e])=if BF ls xs e.id e.time=some k∧e.time<x.time+w then uD ls xs w k x l++ [e]else uD ls xs w k x l:=by
 unfold uD
 rw [fQ]
 by_cases h1:BF ls xs e.id e.time=some k
 ·by_cases h2:e.time<x.time+w
  ·simp [h1,h2]
  ·simp [h1,h2]
 ·simp [h1]
theorem adG {ls:List Lk}{xs:List Ex}{w:Int}{l:List Ev}{e:Ev}{i:Nat}(hi:i<xs.length)(h:BF ls xs e.id e.time=some i)(ht:e.time<xs[i].time+w):insL ls xs w (l++ [e])=(insL ls xs w l).set i ((insL ls xs w l)[i]'aiM++ [e]):=by
 apply eu
 intro j
 have hg:(insL ls xs w l)[i]'aiM=uD ls xs w i xs[i] l:=by
  have:=uF ls xs w l i
  rw [ah aiM,ah hi]at this
  injection this
 rw [hg,uF]
 by_cases hj:i=j
 ·subst hj
  rw [dh aiM,ah hi]
  simp only [bD,xW]
  rw [if_pos ⟨h,ht⟩]
 ·rw [fP hj,uF]
  cases hx:xs[j]? with
  | none=>rfl
  | some x=>
   simp only [bD,xW]
   rw [if_neg fun hh=>hj (by rw [h]at hh;injection hh.1)]
theorem PW {ls:List Lk}{xs:List Ex}{w:Int}{l:List Ev}{e:Ev}(h : ∀i (hi:i<xs.length),BF ls xs e.id e.time=some i->¬e.time<xs[i].time+w):insL ls xs w (l++ [e])=insL ls xs w l:=by
 apply eu
 intro j
 rw [uF,uF]
 cases hx:xs[j]? with
 | none=>rfl
 | some x=>
  obtain⟨hj,rfl⟩:=aB.1 hx
  simp only [bD,xW]
  rw [if_neg fun hh=>h j hj hh.1 hh.2]
theorem Ag (ls:List Lk)(xs:List Ex)(name:By)(w:Int)(k:Nat)(x:Ex)(l:List Ev)(e:Ev):yT ls xs name w k x (l++ [e])=if BF ls xs e.id e.time=some k∧e.time<x.time+w then yT ls xs name w k x l||(decide (e.name=name)&& !decide (e.arm=x.arm))else yT ls xs name w k x l:=by
 unfold yT
 rw [xW]
 split
 ·simp
 ·rfl
theorem adH {ls:List Lk}{xs:List Ex}{name:By}{w:Int}{l:List Ev}{e:Ev}{i:Nat}(hi:i<xs.length)(h:BF ls xs e.id e.time=some i)(ht:e.time<xs[i].time+w) :
  yK ls xs name w (l++ [e])=(yK ls xs name w l).set i ((yK ls xs name w l)[i]'aiN||(decide (e.name=name)&& !decide (e.arm=xs[i].arm))):=by
 apply eu
 intro j
 have hg:(yK ls xs name w l)[i]'aiN=yT ls xs name w i xs[i] l:=by
  have:=wo ls xs name w l i
  rw [ah aiN,ah hi]at this
  injection this
 rw [hg,wo]
 by_cases hj:i=j
 ·subst hj
  rw [dh aiN,ah hi]
  simp only [bD,Ag]
  rw [if_pos ⟨h,ht⟩]
 ·rw [fP hj,wo]
  cases hx:xs[j]? with
  | none=>rfl
  | some x=>
   simp only [bD,Ag]
   rw [if_neg fun hh=>hj (by rw [h]at hh;injection hh.1)]
theorem PX {ls:List Lk}{xs:List Ex}{name:By}{w:Int}{l:List Ev}{e:Ev}(h : ∀i (hi:i<xs.length),BF ls xs e.id e.time=some i->¬e.time<xs[i].time+w):yK ls xs name w (l++ [e])=yK ls xs name w l:=by
 apply eu
 intro j
 rw [wo,wo]
 cases hx:xs[j]? with
 | none=>rfl
 | some x=>
  obtain⟨hj,rfl⟩:=aB.1 hx
  simp only [bD,Ag]
  rw [if_neg fun hh=>h j hj hh.1 hh.2]
def V9 (ts:List Int)(l:List Ev):List Int:=l.foldl (fun ts e=>e.time::ts) ts
theorem PY (ts:List Int)(l:List Ev)(e:Ev):V9 ts (l++ [e])=e.time::V9 ts l:=by unfold V9;rw [fJ];rfl
def tsB (b:Int)(x:Ex)(ts:List Int)(l:List Ev):List Int:=l.foldl (fun ts e=>if x.time-b<=e.time∧e.time<x.time then x.time::ts else ts) ts
theorem ZW (b:Int)(x:Ex)(ts:List Int)(l:List Ev)(e:Ev):tsB b x ts (l++ [e])=if x.time-b<=e.time∧e.time<x.time then x.time::tsB b x ts l else tsB b x ts l:=by unfold tsB;rw [fJ];rfl
theorem JY (ls:List Lk)(b:Int)(x:Ex)(l:List Ev)(e:Ev):xg ls b x (l++ [e])=if x.time-b<=e.time∧e.time<x.time∧yQ ls x.time e.id=yQ ls x.time x.id then xg ls b x l++ [e]else xg ls b x l:=by
 unfold xg
 rw [fQ]
 by_cases h1:x.time-b<=e.time
 ·by_cases h2:e.time<x.time
  ·by_cases h3:yQ ls x.time e.id=yQ ls x.time x.id
   ·simp [h1,h2,h3]
   ·simp [h1,h2,h3]
  ·simp [h1,h2]
 ·simp [h1]
theorem PZ (ls:List Lk)(xs:List Ex)(w:Int)(k:Nat)(x:Ex)(l:List Ev) : ∀e∈uD ls xs w k x l,e∈l:=fun e he=>(fA.1 he).1
theorem Dh (ls:List Lk)(xs:List Ex)(w:Int)(k:Nat)(x:Ex)(l:List Ev):(uD ls xs w k x l).length<=l.length:=dJ _ _
theorem P5 (ls:List Lk)(b:Int)(x:Ex)(l:List Ev) : ∀e∈xg ls b x l,e∈l:=fun e he=>(fA.1 he).1
theorem Di (ls:List Lk)(b:Int)(x:Ex)(l:List Ev):(xg ls b x l).length<=l.length:=dJ _ _
def EZ (l:List Ev)(name:By)(m:Mt)(mark:Int)(i:Nat):List Sm:=(((uY l name).zipIdx.take i).filter fun p=>decide (p.1.time+m.window<=mark)).map fun p=>V8 l name m p.2 p.1
theorem P6 (l:List Ev)(name:By)(m:Mt)(mark:Int):EZ l name m mark (uY l name).length=EX l name m mark:=by
 unfold EZ EX
 rw [dR abb]
theorem JZ {l:List Ev}{name:By}{m:Mt}{mark:Int}{i:Nat}(h:i<(uY l name).length):EZ l name m mark (i+1)=if(uY l name)[i].time+m.window<=mark then EZ l name m mark i++ [V8 l name m i (uY l name)[i]]else EZ l name m mark i:=by
 unfold EZ
 rw [aG aaE,fQ,aS]
 simp only [List.getElem_zipIdx,aO]
 by_cases hc:(uY l name)[i].time+m.window<=mark
 ·rw [if_pos hc];simp [hc]
 ·rw [if_neg hc];simp [hc]
theorem P7 (l:List Ev)(name:By)(m:Mt)(mark:Int)(i:Nat):(EZ l name m mark i).length<=(uY l name).length:=by
 unfold EZ
 rw [aj]
 refine bG (dJ _ _) ?_
 rw [aN]
 simp
 omega
def aes (M:Int)(ls ls':List Lk):Prop:= ∀t,t<M->wF t ls'=wF t ls
theorem aes.rt {M:Int}{ls ls':List Lk}(h:aes M ls ls'){t:Int}(ht:t<M)(id:By):yQ ls' t id=yQ ls t id:=by unfold yQ;rw [h t ht]
section
variable {p r:List Ev}{M:Int}
end
attribute [local irreducible] loadVar storeVar Instr.indexAt Instr.index Instr.sliceAt Instr.makeSlice Instr.lookup Instr.mapUpdate Instr.range Instr.next Instr.entry Instr.makeMap Builtin.append_ Builtin.copy_ Builtin.len_ Builtin.min_ Builtin.max_ Builtin.cap_ Builtin.delete_ Builtin.clear_ convert binOp eqGuard Op.unary Calls
section
open Go.RowKit
def Wh (r:List Ev):List TV:= [.n 63 10 (r.map wX)]
def Wi (L:List (List Ev)):oI:= .tree 28 1 (L.map Wh) none
section
variable {G:Glob}
theorem s2A (L:List (List Ev))(i:Nat)(e:Ev)(hi:i<L.length)(hl:L[i].length<=50000):mP Tryz.prog G 83 [iv i,Uo e, .ptr 0 0] 2 [(0, .var 149 [.own 1]),(1,Wi L)]
  (fun a n H=>a = .og []∧n=4∧H = [(0, .var 149 [.own 1]),(1,Wi (L.set i (L[i]++ [e])))]):=by
 refine mP.gh (Gh.unfold (mD:=1) (i:=i) (j:=0) rfl akp rfl) (R':=fun a n H=>a = .og []∧n=4∧H = [(0, .var 149 [.own 1]),(1, .tree 28 1 ((L.map Wh).set i [.f .top]) (some (i,0,3))),(3, .rows 63 10 ((L[i]++ [e]).map wX))]) ?_ ?_
 ·generalize L[i]=r at *
  refine lJ func83 rfl mixed aag ?_
  (refine lX aiG [2,4] aag ?_;conv=>whnf)
  repeat' (first
   | (refine And.intro ?_ ?_<;>(conv=>whnf))
   | (refine mJ.mk' i rfl aaL ?_;conv=>whnf)
   | (refine ATr.here ?_;conv=>whnf)
   | (refine ATs.here ?_;conv=>whnf)
   | (refine lW.mk (nG aaL aag) ?_;conv=>whnf))
  exact nI (.og []) 4 _ [(3, .lab 5)] [] ⟨rfl,rfl,rfl⟩ rfl ⟨aam,⟨rfl,rfl,rfl,rfl,rfl,rfl⟩,⟨rfl,rfl,by rw [aS];rfl⟩,trivial⟩ aam
 ·rintro _ _ _ ⟨rfl,rfl,rfl⟩
  have hs:i<((L.map Wh).set i [TV.f .top]).length:=by rw [bJ,aj];exact hi
  have e1:((L.map Wh).set i [TV.f .top]).set i ([TV.f .top].set 0 (.n 63 10 ((L[i]++ [e]).map wX)))=(L.set i (L[i]++ [e])).map Wh:=by
   rw [List.set_set,dF]
   rfl
  refine⟨4,_,Gh.fold (mD:=1) (e:=3) (i:=i) (j:=0) rfl rfl aaw (dh (pF hi)),rfl,rfl, ?_⟩
  show [(0,_),(1,oI.tree _ _ _ _)]=_
  rw [e1]
  rfl
abbrev boF (b:Bool):List FV:= [.v (.bool b)]
theorem s3A (B:List Bool)(i:Nat)(e:Ev)(name:By)(xs:List Ex)(hi:i<B.length)(hx:i<xs.length):mP Tryz.prog G 84 [iv i,Uo e, .ptr 0 0, .ptr 2 0, .ptr 3 0] 4 [(0, .var 150 [.own 1]),(1, .rows 4 1 (B.map boF)),(2, .var 9 [tv name]),(3, .var 97 [JV xs])]
  (fun a n H=>a = .og []∧n=4∧H = [(0, .var 150 [.own 1]),(1, .rows 4 1 ((B.set i (B[i]||(decide (e.name=name)&& !decide (e.arm=xs[i].arm)))).map boF)),(2, .var 9 [tv name]),(3, .var 97 [JV xs])]):=by
 have hgB:=ah hi
 have hgx:=ah hx
 generalize B[i]=b0 at *
 generalize xs[i]=x at *
 refine lJ func84 rfl mixed aag ?_
 (refine lX aiH [] aag ?_;conv=>whnf)
 repeat' (first
  | (refine And.intro ?_ ?_<;>(conv=>whnf))
  | (refine mJ.mk' i rfl agA ?_;conv=>whnf)
  | (refine mQ.lU aaH ?_;conv=>whnf)
  | (apply lH<;>intro h<;>(conv=>whnf)))
 all_goals (refine nI (.og []) 4 _ [] [] ⟨rfl,rfl,rfl⟩ rfl ⟨aam,⟨rfl,rfl, ?_⟩,aam,aam,trivial⟩ aam)
 all_goals (have hb:(e.arm != x.arm) = !decide (e.arm=x.arm):=by(cases h:decide (e.arm=x.arm)<;>simp_all))
 all_goals (rw [dF];simp_all [mW])
structure Tim (xs:List Ex)(w:Int)(l:List Ev):Prop where
 w:0<=w∧w<=1000000000000
 xs : ∀x∈xs, -1000000000000<=x.time∧x.time<=1000000000000
theorem P8 {ls:List Lk}{xs:List Ex}{id:By}{t:Int}{i:Nat}(h:BF ls xs id t=some i):Ar ls xs id t=(i:Int):=by unfold Ar;rw [h]
theorem P9 {ls:List Lk}{xs:List Ex}{id:By}{t:Int}(h:BF ls xs id t=none):Ar ls xs id t = -1:=by unfold Ar;rw [h]
abbrev ahm:AV:= .fn (.func 83) [] [.ptr 6 0]
abbrev ajK:AV:= .fn (.func 84) [] [.ptr 6 0, .ptr 8 0, .ptr 4 0]
theorem adI (ls:List Lk)(ts:List Int)(xs:List Ex)(m:Mt)(l:List Ev)(hls:ls.length<=50000)(hxl:xs.length<=50000)(hl:l.length<=10000)(ht:Tim xs m.window l) :
  mP Tryz.prog G 80 [iv 2,ahm, .ptr 2 0, .ptr 3 0, .ptr 4 0, .ptr 5 0] 8
   [(0,Dc ls),(1, .oU (Tm ls ts)),(2, .var 28 [el l]),(3, .var 146 [.ptr 0 0]),(4, .var 97 [JV xs]),(5,Qv m),(6, .var 149 [.own 7]),(7,Wi (insL ls xs m.window []))]
   (fun a n H=>a = .og []∧n=8∧H = [(0,Dc ls),(1, .oU (Tm ls (V9 ts (oq 2 l)))),(2, .var 28 [el l]),(3, .var 146 [.ptr 0 0]),(4, .var 97 [JV xs]),(5,Qv m),(6, .var 149 [.own 7]),(7,Wi (insL ls xs m.window (oq 2 l)))]):=by
 refine yI func80 rfl mixed aag ?_
 refine qc [] aag (ZI G l 2) aam ?_
 have hol:=qR 2 l
 refine Bc (ZH G l 2 aai) 9 (fun p=> [(0,Dc ls),(1, .oU (Tm ls (V9 ts ((oq 2 l).take p)))),(2, .var 28 [el l]),(3, .var 146 [.ptr 0 0]),(4, .var 97 [JV xs]),(5,Qv m),(6, .var 149 [.own 7]),(7,Wi (insL ls xs m.window ((oq 2 l).take p))),(8, .var 151 [ahm])]) [] [] rfl aag rfl (fun x hx=>PL x hx) rfl aam (fun p x hx=> ?_) ?_
 ·obtain⟨hp,rfl⟩:=IB hx
  have hsn:(oq 2 l).take (p+1)=(oq 2 l).take p++ [(oq 2 l)[p]]:=aG hp
  have hpl:((oq 2 l).take p).length<=p:=ahg
  rw [hsn]
  generalize (oq 2 l)[p]=e at *
  generalize (oq 2 l).take p=q at *
  refine vw [0,1] [] aag (ZN ls (V9 ts q) xs e.id e.time hls aai) rfl aam aam rfl ?_
  rw [PY]
  cases ho:BF ls xs e.id e.time with
  | none=>
   rw [P9 ho,PW fun i hi h=>by rw [ho]at h;cases h]
   (refine lX TN [] aag ?_;conv=>whnf)
   exact sN [] [] rfl aam
  | some i=>
   obtain⟨hi,_⟩:=ML ho
   have hx:=ht.xs _ (aV hi)
   have hw:=ht.w
   have hgx:=ah hi
   have hin:=adG (e:=e) (l:=q) (ls:=ls) (w:=m.window) hi ho
   have hout : ∀j (hj:j<xs.length),BF ls xs e.id e.time=some j->j=i:=fun j hj h=>by rw [ho]at h;injection h with h;exact h.symm
   have hil:i<(insL ls xs m.window q).length:=aiM
   have hlen:(insL ls xs m.window q)[i].length<=50000:=by(have h1:=uF ls xs m.window q i;rw [ah hil,hgx]at h1;injection h1 with h1;rw [h1];have:=Dh ls xs m.window i xs[i] q;exact bG this aai)
   rw [P8 ho]
   (refine lX TN [] aag ?_;conv=>whnf)
   refine mJ.mk' i rfl (pF hi) ?_
   refine mQ.lU hgx ?_
   refine lN.i64 aai ?_
   apply lH<;>intro h
   ·rw [hin aaE]
    refine vw [6,7] [] aag (s2A (insL ls xs m.window q) i e hil hlen) rfl aam aam rfl ?_
    exact sN [] [] rfl aam
   ·rw [PW fun j hj h'=>by have:=hout j hj h';subst this;simpa using h]
    exact sN [] [] rfl aam
 ·rw [aj,aZ]
  exact nI (.og []) 8 _ [] [] ⟨rfl,rfl,rfl⟩ rfl aam aam
theorem adJ (ls:List Lk)(ts:List Int)(xs:List Ex)(m:Mt)(l:List Ev)(name:By)(hls:ls.length<=50000)(hxl:xs.length<=50000)(hl:l.length<=10000)(ht:Tim xs m.window l) :
  mP Tryz.prog G 80 [iv 1,ajK, .ptr 2 0, .ptr 3 0, .ptr 4 0, .ptr 5 0] 9
   [(0,Dc ls),(1, .oU (Tm ls ts)),(2, .var 28 [el l]),(3, .var 146 [.ptr 0 0]),(4, .var 97 [JV xs]),(5,Qv m),(6, .var 150 [.own 7]),(7, .rows 4 1 ((yK ls xs name m.window []).map boF)),(8, .var 9 [tv name])]
   (fun a n H=>a = .og []∧n=9∧H = [(0,Dc ls),(1, .oU (Tm ls (V9 ts (oq 1 l)))),(2, .var 28 [el l]),(3, .var 146 [.ptr 0 0]),(4, .var 97 [JV xs]),(5,Qv m),(6, .var 150 [.own 7]),(7, .rows 4 1 ((yK ls xs name m.window (oq 1 l)).map boF)),(8, .var 9 [tv name])]):=by
 refine yI func80 rfl mixed aag ?_
 refine qc [] aag (ZI G l 1) aam ?_
 have hol:=qR 1 l
 refine Bc (ZH G l 1 aai) 10 (fun p=> [(0,Dc ls),(1, .oU (Tm ls (V9 ts ((oq 1 l).take p)))),(2, .var 28 [el l]),(3, .var 146 [.ptr 0 0]),(4, .var 97 [JV xs]),(5,Qv m),(6, .var 150 [.own 7]),(7, .rows 4 1 ((yK ls xs name m.window ((oq 1 l).take p)).map boF)),(8, .var 9 [tv name]),(9, .var 151 [ajK])]) [] [] rfl aag rfl (fun x hx=>PL x hx) rfl aam (fun p x hx=> ?_) ?_
 ·obtain⟨hp,rfl⟩:=IB hx
  have hsn:(oq 1 l).take (p+1)=(oq 1 l).take p++ [(oq 1 l)[p]]:=aG hp
  have hpl:((oq 1 l).take p).length<=p:=ahg
  rw [hsn]
  generalize (oq 1 l)[p]=e at *
  generalize (oq 1 l).take p=q at *
  refine vw [0,1] [] aag (ZN ls (V9 ts q) xs e.id e.time hls aai) rfl aam aam rfl ?_
  rw [PY]
  cases ho:BF ls xs e.id e.time with
  | none=>
   rw [P9 ho,PX fun i hi h=>by rw [ho]at h;cases h]
   (refine lX TN [] aag ?_;conv=>whnf)
   exact sN [] [] rfl aam
  | some i=>
   obtain⟨hi,_⟩:=ML ho
   have hx:=ht.xs _ (aV hi)
   have hw:=ht.w
   have hgx:=ah hi
   have hin:=adH (name:=name) (e:=e) (l:=q) (ls:=ls) (w:=m.window) hi ho
   have hout : ∀j (hj:j<xs.length),BF ls xs e.id e.time=some j->j=i:=fun j hj h=>by rw [ho]at h;injection h with h;exact h.symm
   have hil:i<(yK ls xs name m.window q).length:=aiN
   skip
   rw [P8 ho]
   (refine lX TN [] aag ?_;conv=>whnf)
   refine mJ.mk' i rfl (pF hi) ?_
   refine mQ.lU hgx ?_
   refine lN.i64 aai ?_
   apply lH<;>intro h
   ·rw [hin aaE]
    refine vw [6,7,8,4] [] aag (s3A (yK ls xs name m.window q) i e name xs hil hi) rfl aam aam rfl ?_
    exact sN [] [] rfl aam
   ·rw [PX fun j hj h'=>by have:=hout j hj h';subst this;simpa using h]
    exact sN [] [] rfl aam
 ·rw [aj,aZ]
  exact nI (.og []) 9 _ [] [] ⟨rfl,rfl,rfl⟩ rfl aam aam
def ajL:List FV:= [.v (.slice none 0 0)]
def ZX (r:List Ev):List FV:= [.lst 10 (r.map wX)]
theorem adK (ls:List Lk)(ts:List Int)(xs:List Ex)(m:Mt)(l:List Ev)(hls:ls.length<=50000)(hxl:xs.length<=50000)(hl:l.length<=10000)(ht:Tim xs m.window l) :
  mP Tryz.prog G 80 [iv 2,ahm, .ptr 2 0, .ptr 3 0, .ptr 4 0, .ptr 5 0] 8
   [(0,Dc ls),(1, .oU (Tm ls ts)),(2, .var 28 [el l]),(3, .var 146 [.ptr 0 0]),(4, .var 97 [JV xs]),(5,Qv m),(6, .var 149 [.own 7]),(7, .rows 28 1 (List.replicate xs.length ajL))]
   (fun a n H=>a = .og []∧n=8∧H = [(0,Dc ls),(1, .oU (Tm ls (V9 ts (oq 2 l)))),(2, .var 28 [el l]),(3, .var 146 [.ptr 0 0]),(4, .var 97 [JV xs]),(5,Qv m),(6, .var 149 [.own 7]),(7, .rows 28 1 ((insL ls xs m.window (oq 2 l)).map ZX))]):=by
 have e:(List.replicate xs.length ajL).map (fun r=>r.map (O6 63 10))=(insL ls xs m.window []).map Wh:=by
  rw [ZU,iD,iD]
  rfl
 refine mP.gh (Gh.tree (mD:=7) 63 10 rfl) (R':=fun a n H=>a = .og []∧n=8∧H = [(0,Dc ls),(1, .oU (Tm ls (V9 ts (oq 2 l)))),(2, .var 28 [el l]),(3, .var 146 [.ptr 0 0]),(4, .var 97 [JV xs]),(5,Qv m),(6, .var 149 [.own 7]),(7,Wi (insL ls xs m.window (oq 2 l)))]) ?_ ?_
 ·show mP _ _ _ _ _ [_,_,_,_,_,_,_,(7,oI.tree _ _ _ _)] _
  rw [e]
  exact adI ls ts xs m l hls hxl hl ht
 ·rintro _ _ _ ⟨rfl,rfl,rfl⟩
  refine⟨8,_,Gh.freeze (mD:=7) rfl,rfl,rfl, ?_⟩
  show [_,_,_,_,_,_,_,(7,oI.rows _ _ _)]=_
  rw [List.map_map]
  rfl
end
end
section
open Go.RowKit Ky
theorem F5 {m:Mt}(h:Bh m=0):(1<=m.window∧m.window<=68719476736)∧(1<=m.cap∧m.cap<=1048576)∧(-1099511627776<=m.least∧m.least<=1099511627776)∧(0<=m.before∧m.before<=68719476736):=by
 unfold Bh at h
 split at h
 ·cases h
 ·split at h
  ·cases h
  ·split at h
   ·cases h
   ·rename_i h3
    omega
structure EvB (l:List Ev):Prop where
 len:l.length<=10000
 time : ∀e∈l, -1000000000000<=e.time∧e.time<=1000000000000
 val : ∀e∈l, -1000000<=e.val∧e.val<=1000000
theorem EvB.meas {l q:List Ev}(h:EvB l)(hs : ∀e∈q,e∈oq 2 l)(hq:q.length<=10000):Df q:=
 ⟨hq,fun e he=>by have:=(fA.1 (hs e he)).2;simpa using this,fun e he=>h.val e (fA.1 (hs e he)).1⟩
theorem ZY {ls:List Lk}{name:By} : ∀(l:List Ev) (x:Ex),x∈tY ls name l->∃e∈l,x=exE e:=by
 have : ∀(l:List Ev) (o:List Ex) (x:Ex),x∈l.foldl (CZ ls name) o->x∈o∨∃e∈l,x=exE e:=by
  intro l
  induction l with
  | nil=>intro o x h;exact .inl h
  | cons e r ih=>
   intro o x h
   rcases ih _ x h with h|⟨e',h1,h2⟩
   ·unfold CZ at h
    split at h
    ·rcases bC.1 h with h|h
     ·exact .inl h
     ·rw [aW]at h;exact .inr ⟨e,dw,h⟩
    ·exact .inl h
   ·exact .inr ⟨e',dU _ h1,h2⟩
 intro l x h
 rcases this l [] x h with h|h
 ·cases h
 ·exact h
theorem EvB.tim {l:List Ev}(h:EvB l){m:Mt}(hm:Bh m=0)(name:By):Tim (uY l name) m.window l:=
 ⟨by have:=(F5 hm).1;omega,fun x hx=>by
  obtain⟨e,he,rfl⟩:=ZY _ x hx
  exact h.time e (fA.1 he).1⟩
theorem Z4 (l:List Ev)(name:By)(m:Mt)(mark:Int)(hB:EvB l)(z1:m.name.length<=140737488355328)(z2:m.below.length<=140737488355328) :
  mP Tryz.prog GS 37 [el l,tv name,Jl m,iv mark] 0 [] (Is (smL (if Bh m=0 then EX l name m mark else []))):=by
 have hlen:=hB.len
 have hls:(oM l).length<=50000:=aho
 refine yI func37 rfl mixed aag ?_
 (refine lM [] aag (ZQ m z1 z2) rfl ?_ ?_;(focus trivial))
 apply lH<;>intro h
 ·rw [if_neg aaE]
  exact lQ [] aam
 have hm:Bh m=0:=aaE
 rw [if_pos hm]
 obtain⟨rw,rc,rl,rb⟩:=F5 hm
 have htm:=hB.tim hm name
 refine qc [] aag (ajF l aai) aam ?_
 refine vw [3,4] [] aag (adF (oM l) [] l name hls aai) rfl aam aam rfl ?_
 have hxl:(tY (oM l) name (oq 1 l)).length<=10000:=bG (zD _ _ _) (bG (qR 1 l) hlen)
 have hxs:tY (oM l) name (oq 1 l)=uY l name:=rfl
 rw [hxs]at hxl ⊢
 have hall:=P6 l name m mark
 have hsucc:=fun(i:Nat)=>JZ (l:=l) (name:=name) (m:=m) (mark:=mark) (i:=i)
 have hsl:=P7 l name m mark
 have hse : ∀k x,V8 l name m k x=⟨x,lim m (MN m (uD (oM l) (uY l name) m.window k x (oq 2 l))),lim m (PG m (uD (oM l) (uY l name) m.window k x (oq 2 l))),if m.before=0 then 0 else lim m (MN m (xg (oM l) m.before x (oq 2 l))),yT (oM l) (uY l name) name m.window k x (oq 1 l)⟩:=fun _ _=>rfl
 generalize uY l name=xs at *
 generalize tsF name [] (oq 1 l)=ts1 at *
 refine uT.mk' (qp:=24) xs.length ahM ahM ⟨by omega,by unfold maxLen;omega⟩ ?_
 refine uT.mk' (qp:=1) xs.length ahM ahM ⟨by omega,by unfold maxLen;omega⟩ ?_
 refine vw [3,4,0,5,6,2,8,7] [] aag (adK (oM l) ts1 xs m l hls aai hlen htm) rfl aam aam rfl ?_
 generalize V9 ts1 (oq 2 l)=ts2 at *
 refine mX [3,4,0,5,6,2,10,9,1] [] aag (adJ (oM l) ts2 xs m l name hls aai hlen htm) rfl ⟨aam,aam,aam,aam,aam,aam,aam,⟨rfl,rfl, ?_⟩,aam,trivial⟩ aam ?_
 ·rw [ZV,iD]
  rfl
 rintro _ _ _ ⟨rfl,rfl,rfl⟩
 refine⟨rfl, ?_⟩
 generalize V9 ts2 (oq 1 l)=ts3 at *
 refine mY afd 12 [44,14] (fun x:Nat×List Int=> [(44,iv x.1),(14, .own 11)]) (fun x=> [(3, .var 236 [C9 (oM l), .mp 4]),(4, .oU (Tm (oM l) x.2)),(0, .var 28 [el l]),(5, .var 146 [.ptr 3 0]),(6, .var 97 [JV xs]),(2,Qv m),(8, .var 149 [.own 7]),(7, .rows 28 1 ((insL (oM l) xs m.window (oq 2 l)).map ZX)),(10, .var 150 [.own 9]),(9, .rows 4 1 ((yK (oM l) xs name m.window (oq 1 l)).map boF)),(11, .rows 101 10 ((EZ l name m mark x.1).map UR))]) (fun x=>x.1<=xs.length) (fun x=>xs.length-x.1) [(11, .nil)] [] (0,ts3) aag (fun _=>rfl) rfl (aH _) aam aam ?_
 rintro⟨i,ts⟩ hi
 change i<=xs.length at hi
 apply lH<;>intro h
 rotate_left
 ·have hie:i=xs.length:=aaG
  subst hie
  exact lQ [11] (by refine⟨rfl,rfl, ?_⟩;rw [<-hall])
 have hlt:i<xs.length:=aaG
 have hgx:=ah hlt
 have htx:=htm.xs _ (aV hlt)
 have hs:=hsucc i hlt
 have hins:(insL (oM l) xs m.window (oq 2 l))[i]? = some (uD (oM l) xs m.window i xs[i] (oq 2 l)):=by rw [uF,hgx];rfl
 have alI:(yK (oM l) xs name m.window (oq 1 l))[i]? = some (yT (oM l) xs name m.window i xs[i] (oq 1 l)):=by rw [wo,hgx];rfl
 have hMe:Df (uD (oM l) xs m.window i xs[i] (oq 2 l)):=hB.meas (PZ _ _ _ _ _ _) (bG (Dh _ _ _ _ _ _) (bG (qR 2 l) hlen))
 have hse:=hse i xs[i]
 generalize uD (oM l) xs m.window i xs[i] (oq 2 l)=ins at *
 generalize yT (oM l) xs name m.window i xs[i] (oq 1 l)=mx at *
 generalize xs[i]=x at *
 refine mJ.mk' i rfl (pF hlt) ?_
 refine mQ.lU hgx ?_
 refine lN.i64 aai ?_
 apply lH<;>intro h
 ·rw [if_neg aaG]at hs
  refine lN.i64 aai ?_
  exact lK (i+1,ts) [(11, .lab 11)] [] rfl ac4 hlt ⟨aam,aam,aam,aam,aam,aam,aam,aam,aam,aam,⟨rfl,rfl,by rw [hs]⟩,trivial⟩ aam
 rw [if_pos aaG]at hs
 (refine lX XR [] aag ?_;conv=>whnf)
 refine mJ.mk' i rfl (by rw [aj,xU];exact hlt) ?_
 refine mQ.lU alI ?_
 (refine lX XR [13] aag ?_;conv=>whnf)
 refine mJ.mk' i rfl (by rw [aj,xR];exact hlt) ?_
 refine mQ.lU hins ?_
 (refine lM [] aag (valueA m ins hm hMe z1 z2) rfl ?_ ?_;(focus trivial))
 refine lH (fun hb=> ?_) (fun hb=> ?_)
 rotate_left
 ·rw [if_pos (by simpa using hb)]at hse
  refine lW.mk (nG (by have:=hsl i;simp only [ln];omega) aag) ?_
  refine lN.i64 aai ?_
  refine lK (i+1,ts) [(11, .lab 15)] [] rfl ac4 hlt ⟨aam,aam,aam,aam,aam,aam,aam,aam,aam,aam,⟨rfl,rfl, ?_⟩,trivial⟩ aam
  rw [hs,hse,aS]
  rfl
 have hb0 : ¬m.before=0:=by simpa using hb
 rw [if_neg hb0]at hse
 refine qc [] aag (ZI GS l 2) aam ?_
 have hol:=qR 2 l
 refine Bc (ZH GS l 2 aai) 16 (fun p=> [(3, .var 236 [C9 (oM l), .mp 4]),(4, .oU (Tm (oM l) (tsB m.before x ts ((oq 2 l).take p)))),(0, .var 28 [el l]),(5, .var 146 [.ptr 3 0]),(6, .var 97 [JV xs]),(2,Qv m),(8, .var 149 [.own 7]),(7, .rows 28 1 ((insL (oM l) xs m.window (oq 2 l)).map ZX)),(10, .var 150 [.own 9]),(9, .rows 4 1 ((yK (oM l) xs name m.window (oq 1 l)).map boF)),(11, .rows 101 10 ((EZ l name m mark i).map UR)),(12, .var 99 ((SG x).map FV.up)),(13, .var 101 ((UR ⟨x,lim m (MN m ins),lim m (PG m ins),0,mx⟩).map FV.up)),(14, .var 28 [.own 15]),(15, .rows 63 10 ((xg (oM l) m.before x ((oq 2 l).take p)).map wX))]) [(15, .nil)] [] rfl aag rfl (fun x hx=>PL x hx) rfl aam (fun p y hy=> ?_) ?_
 ·obtain⟨hp,rfl⟩:=IB hy
  have hsn:(oq 2 l).take (p+1)=(oq 2 l).take p++ [(oq 2 l)[p]]:=aG hp
  have hte:=hB.time _ (fA.1 (aV hp)).1
  have h1:=JY (oM l) m.before x ((oq 2 l).take p) (oq 2 l)[p]
  have h2:=ZW m.before x ts ((oq 2 l).take p) (oq 2 l)[p]
  have h3:=Di (oM l) m.before x ((oq 2 l).take p)
  rw [aN]at h3
  rw [<-hsn]at h1 h2
  generalize (oq 2 l)[p]=e at *
  generalize xg (oM l) m.before x ((oq 2 l).take p)=bf at *
  generalize tsB m.before x ts ((oq 2 l).take p)=ts' at *
  (refine lX XR [3,4] aag ?_;conv=>whnf)
  refine lN.i64 aai ?_
  refine lH (fun c1=> ?_) (fun c1=> ?_)
  rotate_left
  ·rw [if_neg (fun h=>by simp at c1;omega)]at h1 h2
   refine sN [(15, .lab 15)] [] rfl ⟨aam,by rw [h2];exact rfl,aam,aam,aam,aam,aam,aam,aam,aam,aam,aam,aam,aam,⟨rfl,rfl,by rw [h1]⟩,trivial⟩
  refine lH (fun c2=> ?_) (fun c2=> ?_)
  rotate_left
  ·rw [if_neg (fun h=>by simp at c2;omega)]at h1 h2
   refine sN [(15, .lab 15)] [] rfl ⟨aam,by rw [h2];exact rfl,aam,aam,aam,aam,aam,aam,aam,aam,aam,aam,aam,aam,⟨rfl,rfl,by rw [h1]⟩,trivial⟩
  rw [if_pos (by simp at c1 c2;omega)]at h2
  refine vw [3,4] [] aag (Ed (oM l) ts' x.time e.id aai) rfl aam aam rfl ?_
  refine vw [3,4] [] aag (Ed (oM l) (x.time::ts') x.time x.id aai) rfl aam aam rfl ?_
  rw [SI]
  refine lH (fun c3=> ?_) (fun c3=> ?_)
  rotate_left
  ·rw [if_neg (fun h=>by rw [(pX _ _).2 h.2.2]at c3;cases c3)]at h1
   refine sN [(15, .lab 15)] [] rfl ⟨aam,by rw [h2];exact rfl,aam,aam,aam,aam,aam,aam,aam,aam,aam,aam,aam,aam,⟨rfl,rfl,by rw [h1]⟩,trivial⟩
  rw [if_pos ⟨by simpa using c1,by simpa using c2,(pX _ _).1 c3⟩]at h1
  refine lW.mk (nG aaL aag) ?_
  refine sN [(15, .lab 18)] [] rfl ⟨aam,by rw [h2];exact rfl,aam,aam,aam,aam,aam,aam,aam,aam,aam,aam,aam,aam,⟨rfl,rfl, ?_⟩,trivial⟩
  rw [h1,aS]
  rfl
 ·rw [show ((oq 2 l).map fun e=> [Uo e]).length=(oq 2 l).length from aj _,aZ]
  have hMb:Df (xg (oM l) m.before x (oq 2 l)):=hB.meas (P5 _ _ _ _) (bG (Di _ _ _ _) (bG hol hlen))
  generalize xg (oM l) m.before x (oq 2 l)=bf at *
  refine lM [15] aag (valueA m bf hm hMb z1 z2) rfl ?_ ?_;(focus trivial)
  refine lW.mk (nG (by have:=hsl i;simp only [ln];omega) aag) ?_
  refine lN.i64 aai ?_
  refine lK (i+1,tsB m.before x ts (oq 2 l)) [(11, .lab 17)] [] rfl ac4 hlt ⟨aam,aam,aam,aam,aam,aam,aam,aam,aam,aam,⟨rfl,rfl, ?_⟩,trivial⟩ aam
  rw [hs,hse,aS]
  rfl
end
section
open Go.RowKit Ky
section
variable {G:Glob}
theorem MP (l:List Ev)(hl:l.length<=100000):mP Tryz.prog G 97 [el l] 0 [] (Is (C9 (oM l))):=by
 refine lJ func97 rfl mixed aag ?_
 refine mY afI 1 [3,4] (fun i:Nat=> [(3, .own 0),(4,iv i)]) (fun i=> [(0, .rows 240 3 ((oM (l.take i)).map UU))]) (fun i=>i<=l.length) (fun i=>l.length-i) [(0, .nil)] [] 0 aag (fun _=>rfl) rfl (aH _) ⟨rfl,trivial⟩ ⟨trivial,rfl,trivial⟩ ?_
 intro i hi
 have hol:(oM (l.take i)).length<=i:=by
  unfold oM
  have:=qR 3 (l.take i)
  rw [aN]at this
  rw [aj];omega
 apply lH<;>intro h
 ·have hlt:i<l.length:=aaG
  have hsn:=zF (k:=3) hlt
  have hg:=ah hlt
  generalize l[i]=e at *
  refine mJ.mk' i rfl (pF hlt) ?_
  refine mQ.lU hg ?_
  refine lH (fun h1=> ?_) (fun h1=> ?_)
  ·rw [if_pos aaJ]at hsn
   (refine lX aiK [] aag ?_;conv=>whnf)
   repeat' (first
    | (refine And.intro ?_ ?_<;>(conv=>whnf))
    | (refine mJ.mk' i rfl (pF hlt) ?_;conv=>whnf)
    | (refine mQ.lU hg ?_;conv=>whnf))
   refine lW.mk (nG aaL aag) ?_
   refine lN.i64 aai ?_
   refine lK (i+1) [(0, .lab 2)] [] rfl aaF hlt ⟨⟨rfl,rfl, ?_⟩,trivial⟩ aam
   show _=(oM (l.take (i+1))).map UU
   unfold oM
   rw [hsn,aS,aS]
   rfl
  ·rw [if_neg aaJ]at hsn
   refine lN.i64 aai ?_
   refine lK (i+1) [(0, .lab 0)] [] rfl aaF hlt ⟨⟨rfl,rfl, ?_⟩,trivial⟩ aam
   show _=(oM (l.take (i+1))).map UU
   unfold oM
   rw [hsn]
 ·have hie:i=l.length:=aaG
  subst hie
  rw [aZ]
  exact lQ [0] aam
theorem ahn {n:Nat}{σ:Nat->Ax.Loc}{F:Nat->Prop}{w:World}{l:List Lk}{v:Value}(h:mM n σ F w (C9 l) v)(hF : ∀b,F b->b<w.heap.size) :
  ∃oa cap,v = .slice oa l.length cap∧l.length<=cap∧(oa=none->cap=0)∧Row w oa (recs lkc l):=CG (sz:=3) (enc:=UU) (c:=lkc) (fun _=>rfl) h hF
theorem MQ (ls:List Lk)(x y:ByteArray)(h:ls.length<=1000000):mP Tryz.prog G 98 [C9 ls,sv x,sv y] 0 [] (Is (bv (decide (rt ls x=rt ls y)))):=
 Ov fun w σ F vs hG hF r=>by
  match vs,r with
  | [v,u,z],⟨r1,r2,r3,_⟩=>
  obtain⟨oa,c,rfl,_,_,hr⟩:=ahn r1 hF
  rw [r2.nY,r3.nY]
  exact ZF oa c ls x y w hr h
def before (t:Int)(xs:List Ex):Prop:= ∀x∈xs,x.time<=t
theorem adL {ls:List Lk}{xs:List Ex}{id:By}{t:Int}(hb:before t xs):Ar ls xs id t<0↔∀x∈xs, ¬yQ ls t x.id=yQ ls t id:=by
 unfold Ar
 cases h:BF ls xs id t with
 | some i=>
  obtain⟨hi,hp⟩:=ML h
  refine⟨fun h=>absurd h (by show ¬(i:Int)<0;omega),fun h=> ?_⟩
  unfold Iu at hp
  simp only [ak,decide_eq_true_eq]at hp
  exact absurd hp.2 (h _ (aV hi))
 | none=>
  refine⟨fun _ x hx e=> ?_,fun _=>by show (-1:Int)<0;decide⟩
  unfold BF at h
  rw [jY]at h
  have:=h x hx
  unfold Iu at this
  rw [decide_eq_true (hb x hx),decide_eq_true e]at this
  cases this
end
end
section
open Go.RowKit Ky
theorem Wj (ls:List Lk)(name:By)(es:List Ev) : ∀x∈tY ls name es, ∃e∈es,x=exE e:=by
 have : ∀(es:List Ev) (o:List Ex), ∀x∈es.foldl (CZ ls name) o,x∈o∨∃e∈es,x=exE e:=by
  intro es
  induction es with
  | nil=>intro o x hx;exact .inl hx
  | cons e r ih=>
   intro o x hx
   rw [gJ]at hx
   rcases ih _ x hx with h|⟨e',h1,h2⟩
   ·unfold CZ at h
    split at h
    ·rcases bC.1 h with h|h
     ·exact .inl h
     ·exact .inr ⟨e,dw,aW.1 h⟩
    ·exact .inl h
   ·exact .inr ⟨e',dU _ h1,h2⟩
 intro x hx
 rcases this es [] x hx with h|h
 ·cases h
 ·exact h
def IE (ls:List Lk)(t:Int)(id:By)(o:List Ex):Bool:=o.all fun x=> !decide (yQ ls t x.id=yQ ls t id)
theorem SL {ls:List Lk}{t:Int}{id:By}{o:List Ex}{k:Nat}(h:k<o.length):IE ls t id (o.take (k+1))=(IE ls t id (o.take k)&& !decide (yQ ls t o[k].id=yQ ls t id)):=by
 unfold IE
 rw [aG h,List.all_append]
 simp
section
variable {G:Glob}
theorem adM (l:List Ev)(name:By)(hl:l.length<=50000)(hasc:l.Pairwise fun a b=>a.time<=b.time):mP Tryz.prog G 94 [el l,tv name] 0 [] (Is (JV (uY l name))):=by
 have hls:(oM l).length<=50000:=aho
 refine lJ func94 rfl mixed aag ?_
 refine qc [] aag (MP l aai) aam ?_
 unfold uY
 generalize oM l=ls at *
 refine mY afD 1 [6,7] (fun i:Nat=> [(6, .own 0),(7,iv i)]) (fun i=> [(0, .rows 99 6 ((tY ls name (oq 1 (l.take i))).map SG))]) (fun i=>i<=l.length) (fun i=>l.length-i) [(0, .nil)] [] 0 aag (fun _=>rfl) rfl (aH _) ⟨rfl,trivial⟩ ⟨trivial,rfl,trivial⟩ ?_
 intro i hi
 apply lH<;>intro h
 ·have hlt:i<l.length:=aaG
  have hsn:=zF (k:=1) hlt
  have hol:=zD ls name (oq 1 (l.take i))
  have adN:=qR 1 (l.take i)
  rw [aN]at adN
  have hbef:before l[i].time (tY ls name (oq 1 (l.take i))):=fun x hx=>by
   obtain⟨e,he,rfl⟩:=Wj ls name _ x hx
   have he2:e∈l.take i:=by unfold oq at he;exact(fA.1 he).1
   obtain⟨j,hj,rfl⟩:=jr he2
   rw [aN]at hj
   rw [kF]
   exact jq.1 hasc j i aai hlt aai
  have hg:=ah hlt
  have hstep:oq 1 (l.take (i+1))=oq 1 (l.take i)∨(l[i].kind=1∧tY ls name (oq 1 (l.take (i+1)))=CZ ls name (tY ls name (oq 1 (l.take i))) l[i]):=by
   rw [hsn]
   by_cases hk:l[i].kind=1
   ·rw [if_pos hk];exact .inr ⟨hk,Ec _ _ _ _⟩
   ·rw [if_neg hk];exact .inl rfl
  generalize hee:l[i]=e at *
  refine mJ.mk' i rfl (pF hlt) ?_
  refine mQ.lU hg ?_
  refine lH (fun h1=> ?_) (fun h1=> ?_)
  ·have hk : ¬e.kind=1:=aaJ
   have hout:tY ls name (oq 1 (l.take i))=tY ls name (oq 1 (l.take (i+1))):=by
    rw [if_neg hk]at hsn;rw [hsn]
   ·skip
    refine lN.i64 aai ?_
    refine lK (i+1) [(0, .lab 0)] [] rfl aaF hlt ⟨⟨rfl,rfl, ?_⟩,trivial⟩ aam
    rw [hout]
  have hk:e.kind=1:=aaJ
  have hst:tY ls name (oq 1 (l.take (i+1)))=CZ ls name (tY ls name (oq 1 (l.take i))) e:=by
   rw [if_pos hk]at hsn;rw [hsn];exact Ec _ _ _ _
  unfold CZ at hst
  refine lH (fun h2=> ?_) (fun h2=> ?_)
  ·have hn : ¬e.name=name:=by simpa [mW]using h2
   have hout:tY ls name (oq 1 (l.take i))=tY ls name (oq 1 (l.take (i+1))):=by
    rw [hst,if_neg fun h=>hn h.1]
   ·skip
    refine lN.i64 aai ?_
    refine lK (i+1) [(0, .lab 0)] [] rfl aaF hlt ⟨⟨rfl,rfl, ?_⟩,trivial⟩ aam
    rw [hout]
  have hn:e.name=name:=by simpa [mW]using h2
  have hone:(Ar ls (tY ls name (oq 1 (l.take i))) e.id e.time<0)↔IE ls e.time e.id (tY ls name (oq 1 (l.take i)))=true:=by
   rw [adL hbef]
   unfold IE
   simp [bP]
  generalize tY ls name (oq 1 (l.take i))=o at *
  refine qc [] aag (mP.BD (MO ls e.time aai)) aam ?_
  have hul:=FY e.time ls
  refine mY afE 2 [10,11] (fun k:Nat=> [(10,bv (IE ls e.time e.id (o.take k))),(11,iv k)]) (fun _=> [(0, .rows 99 6 (o.map SG)),(1, .var 63 ((wX e).map FV.up))]) (fun k=>k<=o.length) (fun k=>o.length-k) [] [] 0 aag (fun _=>rfl) rfl (aH _) aam aam ?_
  intro k hk2
  refine lH (fun h3=> ?_) (fun h3=> ?_)
  ·have hlk:k<o.length:=akb
   have hnb:=SL (ls:=ls) (t:=e.time) (id:=e.id) hlk
   have hgk:=ah hlk
   generalize o[k]=x at *
   (refine lX aiI [] aag ?_;conv=>whnf)
   cases hnn:IE ls e.time e.id (o.take k)with
   | false=>
    rw [hnn,gq]at hnb
    refine lN.i64 aai ?_
    exact lK (k+1) [] [] rfl (by show o.length -(k+1)<o.length-k;omega) hlk aam ⟨congrArg Value.bool hnb.symm,rfl,trivial⟩
   | true=>
    rw [hnn,gX]at hnb
    conv=>whnf
    repeat' (first
     | (refine And.intro ?_ ?_<;>(conv=>whnf))
     | (refine mJ.mk' k rfl (pF hlk) ?_;conv=>whnf)
     | (refine mQ.lU hgk ?_;conv=>whnf)
     | ((refine lM [] aag (MQ (wF e.time ls) (ba x.id) (ba e.id) aai) rfl ?_ ?_;(focus (trivial;done));(conv=>whnf))))
    refine lN.i64 aai ?_
    exact lK (k+1) [] [] rfl (by show o.length -(k+1)<o.length-k;omega) hlk aam ⟨congrArg Value.bool hnb.symm,rfl,trivial⟩
  ·have hke:k=o.length:=akb
   subst hke
   rw [aZ]
   refine lH (fun h4=> ?_) (fun h4=> ?_)
   ·rw [if_pos ⟨hn,hone.2 h4⟩]at hst
    refine lW.mk (nG aaL aag) ?_
    refine lN.i64 aai ?_
    refine lK (i+1) [(0, .lab 3)] [] rfl aaF hlt ⟨⟨rfl,rfl, ?_⟩,trivial⟩ aam
    rw [hst,aS]
    rfl
   ·rw [if_neg (fun h=>by rw [hone.1 h.2]at h4;cases h4)]at hst
    refine lN.i64 aai ?_
    refine lK (i+1) [(0, .lab 0)] [] rfl aaF hlt ⟨⟨rfl,rfl, ?_⟩,trivial⟩ aam
    rw [hst]
 ·have hie:i=l.length:=aaG
  subst hie
  rw [aZ]
  exact lQ [0] aam
end
end
section
open Go.RowKit Ky
def sB (s:ByteArray):List FV:= [.v (.string s)]
theorem SN (l:List ByteArray):recs (fun s=> [Value.string s]) l=nD l:=by
 unfold nD
 induction l with
 | nil=>rfl
 | cons x r ih=>rw [gW, <-ih];rfl
section
variable {G:Glob}
theorem ajM (L:List ByteArray)(x:ByteArray)(h:L.length<=1099511627776):mP Tryz.prog G 178 [.lst 1 (L.map sB),sv x] 0 [] (Is (bv (hasB L x))):=
 Ov fun w σ F vs hG hF r=>by
  match vs,r with
  | [v,u],⟨r1,r2,_⟩=>
  obtain⟨oa,c,rfl,_,_,hr⟩:=CG (sz:=1) (enc:=sB) (c:=fun s=> [Value.string s]) (fun _=>rfl) r1 hF
  rw [SN]at hr
  rw [r2.nY]
  exact(MJ oa c L x w hr h).mono fun v w' ⟨e1,e2⟩=>⟨e1,by rw [e2];exact Below.refl _ _⟩
theorem Dj {L:List ByteArray}{x:ByteArray}(i:Nat):(L.take i++ [x]++L.drop i).length=L.length+1∧∀y,y∈L.take i++ [x]++L.drop i↔y∈L∨y=x:=by
 refine⟨by simp;omega,fun y=> ?_⟩
 rw [bC,bC,aW]
 constructor
 ·rintro((h|h)|h)
  ·exact .inl (bQ h)
  ·exact .inr h
  ·exact .inl (dM h)
 ·rintro(h|h)
  ·rw [<-cZ i L]at h
   rcases bC.1 h with h|h
   ·exact .inl (.inl h)
   ·exact .inr h
  ·exact .inl (.inr h)
theorem UY (L:List ByteArray)(x:ByteArray)(hl:L.length<=4000000):mP Tryz.prog G 252 [.lst 1 (L.map sB),sv x] 0 [] (fun a n H=> ∃M:List ByteArray,M.length=L.length+1∧(∀y,y∈M↔y∈L∨y=x)∧vZ 9 1 (M.map sB) a n H):=by
 refine lJ func252 rfl mixed aag ?_
 refine mY TW 0 [5] (fun i:Nat=> [(5,iv i)]) (fun _=> []) (fun i=>i<=L.length) (fun i=>L.length-i) [] [] 0 aag (fun _=>rfl) rfl (aH _) aam aam ?_
 intro i hi
 apply lH<;>intro h
 ·have hlt:i<L.length:=aaG
  have hg:=ah hlt
  generalize L[i]=y at *
  refine mJ.mk' i rfl (pF hlt) ?_
  refine mQ.lU hg ?_
  apply lH<;>intro h
  ·refine lN.i64 aai ?_
   exact lK (i+1) [] [] rfl (by show L.length -(i+1)<L.length-i;omega) hlt aam aam
  ·(refine lX X5 [0,1,2,3,4] aag ?_;conv=>whnf)
   repeat' (first
    | (refine And.intro ?_ ?_<;>(conv=>whnf))
    | (refine uo.mk' 0 i rfl rfl (aH _) aeE ?_;conv=>whnf)
    | (refine uo.mk' i L.length rfl ahM hi (by rw [aj];exact au _) ?_;conv=>whnf)
    | (refine lW.mk (nG (by simp only [cut,aj,ay,bn,dP,aN,bU];omega) aag) ?_;conv=>whnf))
   all_goals (refine nI (.own 0) 1 [(0, .rows 9 1 ((L.take i++ [x]++L.drop i).map sB))] [(0, .lab 4)] [] ⟨L.take i++ [x]++L.drop i,(Dj i).1,(Dj i).2,rfl,rfl,rfl⟩ rfl ⟨⟨rfl,rfl, ?_⟩,trivial⟩ aam)
   all_goals (rw [aS,aS,iw,jw];rfl)
 ·(refine lX X5 [0,1,2,3,4] aag ?_;conv=>whnf)
  repeat' (first
   | (refine And.intro ?_ ?_<;>(conv=>whnf))
   | (refine uo.mk' 0 i rfl rfl (aH _) aeE ?_;conv=>whnf)
   | (refine uo.mk' i L.length rfl ahM hi (by rw [aj];exact au _) ?_;conv=>whnf)
   | (refine lW.mk (nG (by simp only [cut,aj,ay,bn,dP,aN,bU];omega) aag) ?_;conv=>whnf))
  all_goals (refine nI (.own 0) 1 [(0, .rows 9 1 ((L.take i++ [x]++L.drop i).map sB))] [(0, .lab 4)] [] ⟨L.take i++ [x]++L.drop i,(Dj i).1,(Dj i).2,rfl,rfl,rfl⟩ rfl ⟨⟨rfl,rfl, ?_⟩,trivial⟩ aam)
  all_goals (rw [aS,aS,iw,jw];rfl)
structure MX where
 L:List ByteArray
 again:Bool
structure MY where
 i:Nat
 M:List ByteArray
 again:Bool
structure MOK (ls:List Lk)(id:ByteArray)(L:List ByteArray):Prop where
 len:L.length+away L ls<=1+2*ls.length
 me:id∈L
 con : ∀y,y∈L->con ls id y
theorem Z5 (L:List ByteArray)(l:List Lk):away L l<=2*l.length:=by
 induction l with
 | nil=>exact au _
 | cons k l ih=>
  simp only [away,bn]
  have hb : ∀b:Bool,(bif b then 0 else 1:Nat)<=1:=fun b=>by cases b<;>decide
  have h1:=hb (hasB L k.a)
  have h2:=hb (hasB L k.b)
  omega
theorem MOK.put {ls:List Lk}{id s:ByteArray}{M M':List ByteArray}{k:Lk}(h:MOK ls id M)(hkm:k∈ls)(hs:s∉M)(hM : ∀y,y∈M'↔y∈M∨y=s)(hl:M'.length=M.length+1)(hks:k.a=s∨k.b=s)(hc:Id.con ls id s):MOK ls id M'∧away M' ls<away M ls:=by
 have h1:=UQ (L:=M) (M:=M') (fun y hy=>(hM y).2 (.inl hy)) hs ((hM s).2 (.inr rfl)) ls ⟨k,hkm,hks⟩
 have:=h.len
 refine⟨⟨by omega,(hM id).2 (.inl h.me),fun y hy=> ?_⟩,h1⟩
 rcases(hM y).1 hy with e|e
 ·exact h.con y e
 ·rw [e];exact hc
theorem Wn (ls:List Lk)(id:ByteArray)(h:ls.length<=1000000):mP Tryz.prog G 177 [C9 ls,sv id] 0 [] (fun a n H=> ∃L:List ByteArray,L.length<=2000001∧(∀y,y∈L↔con ls id y)∧vZ 9 1 (L.map sB) a n H):=by
 refine lJ func177 rfl mixed aag ?_
 refine mY TT 2 [5,6] (fun x:MX=> [(5, .own 1),(6,bv x.again)]) (fun x=> [(1, .rows 9 1 (x.L.map sB))]) (fun x=>MOK ls id x.L∧(x.again=false->∀k∈ls,(k.a∈x.L↔k.b∈x.L))) (fun x=>2*away x.L ls+(bif x.again then 1 else 0)) [(1, .lab 0)] [] ⟨[id],true⟩ aag (fun _=>rfl) rfl ⟨⟨by have:=Z5 [id] ls;simp only [ln];omega,by simp,fun y hy=>by simp at hy;subst hy;exact rfl⟩,fun e=>by cases e⟩ aam aam ?_
 rintro⟨L,again⟩ ⟨hL,hcl⟩
 change MOK ls id L at hL
 change again=false->∀k∈ls,(k.a∈L↔k.b∈L)at hcl
 conv=>whnf
 cases again with
 | false=>
  have ahb:=hcl rfl
  have:=hL.len
  refine nI (.own 0) 1 _ [(0, .lab 1)] [] ⟨L,by omega,fun y=>⟨hL.con y,fun hy=>(Bf (fun z=>z∈L) _ ls rfl ahb id y hy).1 hL.me⟩,rfl,rfl,rfl⟩ rfl aam aam
 | true=>
  refine mY TU 3 [5,6,7] (fun x:MY=> [(5, .own 2),(6,bv x.again),(7,iv x.i)]) (fun x=> [(2, .rows 9 1 (x.M.map sB))])
   (fun x=>x.i<=ls.length∧MOK ls id x.M∧(x.again=false->away x.M ls<=away L ls∧∀k∈ls.take x.i,(k.a∈x.M↔k.b∈x.M))∧(x.again=true->away x.M ls<away L ls)) (fun x=>ls.length-x.i) [(2, .lab 1)] [] ⟨0,L,false⟩ aag (fun _=>rfl) rfl
   ⟨aH _,hL,fun _=>⟨au _,fun k hk=>by simp at hk⟩,fun e=>by cases e⟩ aam aam ?_
  rintro⟨i,M,again⟩ ⟨hi,hM,hf,ht⟩
  change i<=ls.length at hi
  change MOK ls id M at hM
  change again=false->away M ls<=away L ls∧∀k∈ls.take i,(k.a∈M↔k.b∈M)at hf
  change again=true->away M ls<away L ls at ht
  have hML:=hM.len
  apply lH<;>intro h
  rotate_left
  ·have hie:i=ls.length:=aaG
   subst hie
   rw [aZ]at hf
   refine lK ⟨M,again⟩ [(1, .lab 2)] [] rfl ?_ ⟨hM,fun e=>(hf e).2⟩ aam aam
   cases again with
   | true=>have:=ht rfl;simp only [cond_true];omega
   | false=>have:=(hf rfl).1;simp only [cond_true,cond_false];omega
  have hlt:i<ls.length:=aaG
  have hg:=ah hlt
  have hkm:ls[i]∈ls:=aV hlt
  have hlk:=OQ _ ls rfl ls[i] hkm
  have htk:=aG hlt
  generalize ls[i]=k at *
  have hnew : ∀s M',s∉M->(∀y,y∈M'↔y∈M∨y=s)->M'.length=M.length+1->(k.a=s∨k.b=s)->Id.con ls id s->MOK ls id M'∧away M' ls<away L ls:=fun s M' a1 a2 a3 a4 a5=>by
   obtain⟨b1,b2⟩:=hM.put hkm a1 a2 a3 a4 a5
   refine⟨b1, ?_⟩
   cases again with
   | true=>have:=ht rfl;omega
   | false=>have:=(hf rfl).1;omega
  (refine lX afU [2] aag ?_;conv=>whnf)
  repeat' (first
   | (refine And.intro ?_ ?_<;>(conv=>whnf))
   | (refine mJ.mk' i rfl (pF hlt) ?_;conv=>whnf)
   | (refine mQ.lU hg ?_;conv=>whnf)
   | (refine lM [2] aag (ajM M k.a aai) rfl ?_ ?_;(focus (trivial;done));(conv=>whnf))
   | (refine lM [2] aag (ajM M k.b aai) rfl ?_ ?_;(focus (trivial;done));(conv=>whnf)))
  refine lH (fun hab=> ?_) (fun hab=> ?_)
  ·have hab:hasB M k.a=hasB M k.b:=by simpa using hab
   have ahc:k.a∈M↔k.b∈M:=by rw [<-oP, <-oP,hab]
   refine lN.i64 (by(try dsimp only);omega) ?_
   refine lK ⟨i+1,M,again⟩ [(2, .lab 2)] [] rfl aej ⟨hlt,hM,fun e=>⟨(hf e).1,fun k' hk'=> ?_⟩,ht⟩ aam aam
   rw [htk]at hk'
   rcases bC.1 hk' with h|h
   ·exact(hf e).2 k' h
   ·rw [aW.1 h];exact ahc
  ·have hab:hasB M k.a≠hasB M k.b:=by intro e;simp [e]at hab
   refine mJ.mk' i rfl (pF hlt) ?_
   refine mQ.lU hg ?_
   conv=>whnf
   cases ha:hasB M k.a with
   | true=>
    have hb:hasB M k.b=false:=by cases hb:hasB M k.b with
     | false=>rfl
     | true=>exact absurd (ha.trans hb.symm) hab
    refine mJ.mk' i rfl (pF hlt) ?_
    refine mQ.lU hg ?_
    refine oD [2] aag (UY M k.b aai) ?_ ?_;(focus trivial)
    rintro _ _ _ ⟨M',hl',hm',rfl,rfl,rfl⟩
    obtain⟨f1,f2⟩:=hnew k.b M' ((uz _ _).1 hb) hm' hl' (.inr rfl) ((hM.con _ ((oP _ _).1 ha)).trans hlk)
    refine lN.i64 (by(try dsimp only);omega) ?_
    exact lK ⟨i+1,M',true⟩ [(2, .lab 3)] [] rfl aej ⟨hlt,f1,(fun e=>by cases e),fun _=>f2⟩ aam aam
   | false=>
    have hb:hasB M k.b=true:=by cases hb:hasB M k.b with
     | true=>rfl
     | false=>exact absurd (ha.trans hb.symm) hab
    refine oD [2] aag (UY M k.a aai) ?_ ?_;(focus trivial)
    rintro _ _ _ ⟨M',hl',hm',rfl,rfl,rfl⟩
    obtain⟨f1,f2⟩:=hnew k.a M' ((uz _ _).1 ha) hm' hl' (.inl rfl) ((hM.con _ ((oP _ _).1 hb)).trans hlk.symm)
    refine lN.i64 (by(try dsimp only);omega) ?_
    exact lK ⟨i+1,M',true⟩ [(2, .lab 3)] [] rfl aej ⟨hlt,f1,(fun e=>by cases e),fun _=>f2⟩ aam aam
theorem SQ {ls:List Lk}{t:Int}{id:By}{L:List ByteArray}(hL : ∀y,y∈L↔Id.con (wF t ls) (ba id) y)(x:Ex):(decide (x.time<=t)&&hasB L (ba x.id))=Iu ls t id x:=by
 have e:hasB L (ba x.id)=decide (yQ ls t x.id=yQ ls t id):=by
  rw [jA,oP,hL,decide_eq_true_iff]
  exact⟨fun h=>Eq.symm h,fun h=>Eq.symm h⟩
 rw [e]
 rfl
theorem adO (l:List Ev)(xs:List Ex)(id:By)(t:Int)(hl:l.length<=50000)(hx:xs.length<=100000):mP Tryz.prog G 95 [el l,JV xs,tv id,iv t] 0 [] (Is (iv (Ar (oM l) xs id t))):=by
 have hls:(oM l).length<=50000:=aho
 refine lJ func95 rfl mixed aag ?_
 refine qc [] aag (MP l aai) aam ?_
 generalize oM l=ls at *
 refine qc [] aag (mP.BD (MO ls t aai)) aam ?_
 have hul:=FY t ls
 (refine oD [] aag (Wn (wF t ls) (ba id) aai) ?_ ?_;(focus trivial))
 rintro _ _ _ ⟨L,hLl,hL,rfl,rfl,rfl⟩
 have how:=fun x=>SQ (t:=t) (ls:=ls) (id:=id) hL x
 refine mY afF 1 [11] (fun i:Nat=> [(11,iv i)]) (fun i=> [(0, .rows 9 1 (L.map sB))]) (fun i=>i<=xs.length∧∀j (h:j<xs.length),j<i->Iu ls t id xs[j]=false) (fun i=>xs.length-i) [] [] 0 aag (fun _=>rfl) rfl ⟨aH _,fun j _ h=>absurd h (dQ j)⟩ aam aam ?_
 rintro i ⟨hi,hno⟩
 apply lH<;>intro h
 rotate_left
 ·have hie:i=xs.length:=aaG
  subst hie
  have e:Ar ls xs id t = -1:=ahX
  exact lQ [] ahW
 have hlt:i<xs.length:=aaG
 have hP:=how xs[i]
 have hg:=ah hlt
 have hsome:Iu ls t id xs[i]=true->Ar ls xs id t=(i:Int):=fun h=>ag8
 have hnext:Iu ls t id xs[i]=false->i+1<=xs.length∧∀j (h:j<xs.length),j<i+1->Iu ls t id xs[j]=false:=fun h0=>⟨hlt,fun j h hj=>by
  rcases eG j i with h1|h1
  ·exact hno j h h1
  ·have:j=i:=aai
   subst this
   exact h0⟩
 generalize xs[i]=x at *
 refine mJ.mk' i rfl (pF hlt) ?_
 refine mQ.lU hg ?_
 refine lH (fun h1=> ?_) (fun h1=> ?_)
 ·refine lN.i64 (by(try dsimp only);omega) ?_
  exact lK (i+1) [] [] rfl ac4 (hnext (by rw [<-hP,decide_eq_false ahZ];rfl)) aam aam
 have ht:x.time<=t:=ahZ
 rw [decide_eq_true ht,gX]at hP
 refine mY afG 1 [12] (fun k:Nat=> [(12,iv k)]) (fun k=> [(0, .rows 9 1 (L.map sB))]) (fun k=>k<=L.length∧ba x.id∉L.take k) (fun k=>L.length-k) [] [] 0 aag (fun _=>rfl) rfl ⟨aH _,by simp⟩ aam aam ?_
 rintro k ⟨hk,hnk⟩
 refine lH (fun h2=> ?_) (fun h2=> ?_)
 ·have hlk:k<L.length:=agU
  have hgk:=ah hlk
  have hmk:=aV hlk
  have htk:=aG hlk
  generalize L[k]=y at *
  (refine lX aiJ [] aag ?_;conv=>whnf)
  repeat' (first
   | (refine And.intro ?_ ?_<;>(conv=>whnf))
   | (refine mJ.mk' i rfl (pF hlt) ?_;conv=>whnf)
   | (refine mJ.mk' k rfl (pF hlk) ?_;conv=>whnf)
   | (refine mQ.lU hg ?_;conv=>whnf)
   | (refine mQ.lU hgk ?_;conv=>whnf))
  refine lH (fun h3=> ?_) (fun h3=> ?_)
  ·have h3:=(pX _ _).1 h3
   have e:=hsome (by rw [<-hP];exact(oP _ _).2 (by rw [show ba x.id=y from h3.symm];exact hmk))
   exact lQ [] ahW
  ·have h3 : ¬y=ba x.id:=fun e=>by rw [(pX _ _).2 e]at h3;cases h3
   refine lN.i64 (by(try dsimp only);omega) ?_
   refine lK (k+1) [] [] rfl (by show L.length -(k+1)<L.length-k;omega) ⟨hlk, ?_⟩ aam aam
   rw [htk]
   simp only [bC,aW,not_or]
   exact⟨hnk,fun e=>h3 e.symm⟩
 ·have hke:k=L.length:=agU
  subst hke
  rw [aZ]at hnk
  refine lN.i64 (by(try dsimp only);omega) ?_
  exact lK (i+1) [] [] rfl ac4 (hnext (by rw [<-hP];exact(uz _ _).2 hnk)) aam aam
end
end
section
open Go.RowKit Ky
section
variable {G:Glob}
end
end
section
open Go.RowKit Ky
section
variable {G:Glob}
end
end
section
open Go.RowKit
def Z7:Tx:= [[97,110,110],[98,111,98],[99,97,116],[100,97,110],[101,118,101],[102,97,121]]
def qZ (n:Nat):By:=Z7.getD (n%6) []
theorem aew:mP Tryz.prog GC 76 [] 0 [] (vZ 9 1 (Z7.map Ie)):=by
 refine lJ func76 rfl mixed aag ?_
 exact nI (.own 0) 1 _ [(0, .lab 0)] [] ⟨rfl,rfl,rfl⟩ rfl aam aam
theorem Qa:Z7.length=6:=rfl
attribute [local irreducible] Z7
theorem SV (n:Nat)(hn:n<1000000):mP Tryz.prog GC 34 [iv n] 0 [] (Is (tv (qZ n))):=by
 refine lJ func34 rfl mixed aag ?_
 refine qc [] aag (aew) aam ?_
 refine qc [] aag (aew) aam ?_
 conv=>whnf
 rw [aj,Qa]
 refine lW.mk aaw ?_
 conv=>whnf
 have hlt:n%6<Z7.length:=by rw [Qa];omega
 refine mJ.mk' (n%6) rfl (pF hlt) ?_
 refine mQ.lU (ah hlt) ?_
 refine lQ [] (congrArg (fun x:By=>Value.string ⟨x.toArray⟩) ?_)
 unfold qZ
 rw [aT,ah hlt]
 rfl
end
section
open Go.RowKit Ky
def Nv (L:By)(at_:Nat):oI:= .var 85 [bs L,iv at_]
def I9 (L:By)(at_ n:Nat):Nat:=(L.getD at_ 0).toNat%n
def Ja (L:By)(at_:Nat):Nat:=if at_<L.length then at_+1 else at_
theorem zG (L:By)(at_ n:Nat)(h:0<n):I9 L at_ n<n:=fO _ h
theorem xk {L:By}{at_:Nat}(h:at_<=L.length):Ja L at_<=L.length:=by unfold Ja;split<;>omega
theorem aex (L:By)(at_ n:Nat)(hn:0<n)(hn2:n<=256)(hL:at_<=100000)(ha:at_<=L.length):mP Tryz.prog GS 33 [.ptr 0 0,iv n] 1 [(0,Nv L at_)] (fun a m H=>a=iv (I9 L at_ n)∧m=1∧H = [(0,Nv L (Ja L at_))]):=by
 refine lJ func33 rfl mixed aag ?_
 (refine lX aef [] aag ?_;conv=>whnf)
 apply lH<;>intro h
 ·have hge:L.length<=at_:=aaG
  refine nI (iv (I9 L at_ n)) 1 [(0,Nv L (Ja L at_))] [] [] ⟨rfl,rfl,rfl⟩ rfl ?_ ?_
  ·unfold Ja;rw [if_neg aai];trivial
  ·unfold I9;rw [aT,dN hge,iP,show (0:UInt8).toNat=0 from rfl,Nat.zero_mod];trivial
 have hlt:at_<L.length:=aaG
 refine lN.i64 aai ?_
 (refine lX aef [] aag ?_;conv=>whnf)
 repeat' (first
  | (refine And.intro ?_ ?_<;>(conv=>whnf))
  | (refine lN.to (y:=((at_:Nat):Int)) (by rw [show ((at_:Nat):Int)+1-1=((at_:Nat):Int) by omega];exact IntWalk.i64_in _ aai) ?_;conv=>whnf)
  | (refine mJ.mk' at_ rfl (pF hlt) ?_;conv=>whnf)
  | (refine mQ.lU (ah hlt) ?_;conv=>whnf)
  | (refine lN.i64 (by have:=L[at_].toNat_lt;omega) ?_;conv=>whnf)
  | (refine lW.mk aai ?_;conv=>whnf))
 refine nI (iv (I9 L at_ n)) 1 [(0,Nv L (Ja L at_))] [] [] ⟨rfl,rfl,rfl⟩ rfl ?_ ?_
 ·unfold Ja;rw [if_pos hlt];trivial
 ·unfold I9;rw [aT,ah hlt];exact rfl
theorem Dl (L:By)(at_ n:Nat)(hn:0<n)(hn2:n<=256)(hL:L.length<=100000)(ha:at_<=L.length):mP Tryz.prog GS 33 [.ptr 0 0,iv n] 1 [(0,Nv L at_)] (fun a m H=>a=iv (I9 L at_ n)∧m=1∧H = [(0,Nv L (Ja L at_))]):=aex L at_ n hn hn2 aai ha
theorem ajN (L:By)(at_:Nat):mP Tryz.prog GS 32 [.ptr 0 0] 1 [(0,Nv L at_)] (fun a m H=>a=bv (decide (at_<L.length))∧m=1∧H = [(0,Nv L at_)]):=by
 refine lJ func32 rfl mixed aag ?_
 (refine lX aiz [] aag ?_;conv=>whnf)
 refine nI (bv (decide (at_<L.length))) 1 [(0,Nv L at_)] [] [] ⟨rfl,rfl,rfl⟩ rfl aam ?_
 refine congrArg Value.bool ?_
 rw [aj]
 exact decide_eq_decide.2 aai
def qN:Tx:= [[98,108,117,101],[103,114,101,101,110],[102,97,115,116],[115,108,111,119]]
def wu:Tx:= [[98,117,121],[118,105,115,105,116]]
theorem zH:mP Tryz.prog GS 12 [] 0 [] (vZ 9 1 (qN.map Ie)):=by
 refine lJ func12 rfl mixed aag ?_
 exact nI (.own 0) 1 _ [(0, .lab 0)] [] ⟨rfl,rfl,rfl⟩ rfl aam aam
theorem Qb:mP Tryz.prog GS 35 [] 0 [] (vZ 9 1 (wu.map Ie)):=by
 refine lJ func35 rfl mixed aag ?_
 exact nI (.own 0) 1 _ [(0, .lab 0)] [] ⟨rfl,rfl,rfl⟩ rfl aam aam
end
end Go.Proofs.YtnandbihiceihaaGreatDoor.Cl
