/- Joined parts of the proof. The walks of the reference's distinct, index and width -/
import Derived.Test.YtocckceefcmeaaaGreatDoorPk8
import Derived.Test.YtocckceefcmeaaaGreatDoorPk9
import Derived.Test.YtocckceefcmeaaaGreatDoorPk10
import Derived.Test.YtocckceefcmeaaaGreatDoorPk7
set_option linter.unusedVariables false
set_option linter.unusedSimpArgs false
set_option maxRecDepth 100000
set_option maxHeartbeats 16000000
namespace Go.Proofs.YtocckceefcmeaaaGreatDoor.Cl
open RowKit Vc Ax Go.Proofs.Tryz
attribute [local irreducible] loadVar storeVar Instr.indexAt Instr.index Instr.sliceAt Instr.makeSlice Instr.lookup Instr.mapUpdate Instr.range Instr.next Instr.entry Instr.makeMap Builtin.append_ Builtin.copy_ Builtin.len_ Builtin.min_ Builtin.max_ Builtin.cap_ Builtin.delete_ Builtin.clear_ convert binOp eqGuard Op.unary Calls
theorem LK : ∀(d:Li) (x:Int) (k:Nat),k<=d.length->(∀j (h1:j<k) (h2:j<d.length),d[j]<x)->(∀h:k<d.length,x<=d[k])->ins d x=if ∃h:k<d.length,d[k]=x then d else d.take k++ [x]++d.drop k:=by
 intro d
 induction d with
 | nil=>
  intro x k hk _ _
  have:k=0:=by simpa using hk
  subst this;simp [ins]
 | cons y r ih=>
  intro x k hk h1 h2
  unfold ins
  cases k with
  | zero=>
   have h3:x<=y:=h2 (by simp)
   rw [if_neg (by omega)]
   by_cases e:y=x
   ·rw [if_pos e,if_pos ⟨by simp,e⟩]
   ·rw [if_neg e,if_neg (by rintro⟨_,h⟩;exact e h)];simp
  | succ k=>
   have h3:y<x:=h1 0 (by omega) (by simp)
   rw [if_pos h3]
   have:=ih x k (by simpa using hk) (fun j hj hjl=>h1 (j+1) (by omega) (by simp;omega)) (fun h=>h2 (by simp;omega))
   rw [this]
   by_cases e : ∃h:k<r.length,r[k]=x
   ·rw [if_pos e,if_pos (by obtain⟨h,e⟩:=e;exact⟨by simp;omega,e⟩)]
   ·rw [if_neg e,if_neg (by rintro⟨h,e2⟩;exact e ⟨by simpa using h,e2⟩)];simp
theorem WR {d:Li}{k:Nat}{x:Int}{h:k<d.length}(e:d[k]=x):idx d x<=k:=by
 induction d generalizing k with
 | nil=>simp at h
 | cons y r ih=>
  unfold idx
  split
  ·omega
  ·rename_i hy
   cases k with
   | zero=>exact absurd e hy
   | succ k=>have:=ih (k:=k) (h:=by simpa using h) (by simpa using e);omega
theorem aat (f v:Nat):wid (f+1) v=if v=0 then 0 else wid f (v/2)+1:=rfl
theorem QK (d:Li)(x:Int)(k:Nat) : []++((d.map qX).drop 0).take (k-0)++ [[FV.v (Value.int .i64 x)]]++((d.map qX).drop k).take (d.length-k)=(d.take k++ [x]++d.drop k).map qX:=by
 rw [dO,dJ,iU,dD (by simp:((d.map qX).drop k).length<=d.length-k),aJ,aJ,dU,bI]
 rfl
theorem LM (l:Li)(hs:l.length<=1000000):mQ Tryz.prog GC 186 [li l] 0 [] (sW 3 1 ((ds l).map qX)):=by
 refine lQ func186 rfl mixed (by kernel_rfl) ?_
 refine mO acF 1 [3,4] (fun i:Nat=> [(3, .own 0),(4,iv i)]) (fun i=> [(0, .rows 3 1 ((ds (l.take i)).map qX))]) (fun i=>i<=l.length) (fun i=>l.length-i) [(0, .nil)] [] 0 (by kernel_rfl) (fun _=>rfl) rfl (au _) ⟨rfl,trivial⟩ ⟨trivial,rfl,trivial⟩ ?_
 rintro i hi
 have hdl:=yZ (l.take i)
 rw [aK]at hdl
 apply lK<;>intro h
 rotate_left
 ·have:i=l.length:=by simp at h;omega
  subst this
  conv=>whnf
  rw [aW]
  exact lX (.own 0) 1 _ [(0, .lab 0)] [] ⟨rfl,rfl,rfl⟩ rfl (by trivial) (by trivial)
 have hlt:i<l.length:=by simp at h;omega
 have hnext:ds (l.take (i+1))=ins (ds (l.take i)) l[i]:=by rw [aG hlt,adr]
 generalize hd:ds (l.take i)=d at *
 refine uj acG [5] (fun k:Nat=> [(5,iv k)]) (fun k=>k<=d.length∧∀j (h1:j<k) (h2:j<d.length),d[j]<l[i]) (fun k=>d.length-k) 0 (by kernel_rfl) (fun _=>rfl) (by kernel_rfl) ⟨au _,fun j h1=>absurd h1 (gI j)⟩ (by trivial) (by trivial) ?_
 rintro k ⟨hk,hno⟩
 (refine mP IQ [] (by kernel_rfl) ?_;conv=>whnf)
 (repeat' ((first|refine And.intro ?_ ?_|(apply lK<;>intro h<;>try simp only [bl]at h)|refine lV.i64 (by first|omega|(simp only [ln]at *;omega)) ?_|refine mZ.mk' _ rfl (by first|omega|(simp only [ln]at *;omega)) ?_|refine mD.lT (by assumption) ?_|refine mD.set (by first|omega|(simp only [ln]at *;omega)) ?_|refine mD.map (by first|omega|(simp only [ln]at *;omega)) ?_|refine lN.mk (by first|decide|omega) ?_|refine sO.mk (by kernel_rfl) rfl rfl ?_|refine lN.mk (lS (by first|omega|(simp only [ln]at *;omega)) (by kernel_rfl)) ?_)<;>conv=>whnf))
 ·rename_i h1
  have hkl:k<d.length:=by simp at h1;omega
  exact lU (k+1) [] [] rfl (by show d.length -(k+1)<d.length-k;omega) ⟨hkl,fun j h2 h3=>by
   rcases dP j k with h4|h4
   ·exact hno j h4 h3
   ·have:j=k:=by omega
    subst this;exact h⟩ (by trivial) ⟨rfl,trivial⟩
 ·rename_i h1
  have hkl:k<d.length:=by simp at h1;omega
  have hins:=LK d l[i] k hk hno fun _=>h
  (refine mP IQ [] (by kernel_rfl) ?_;conv=>whnf)
  (repeat' ((first|refine And.intro ?_ ?_|(apply lK<;>intro h<;>try simp only [bl]at h)|refine lV.i64 (by first|omega|(simp only [ln]at *;omega)) ?_|refine mZ.mk' _ rfl (by first|omega|(simp only [ln]at *;omega)) ?_|refine mD.lT (by assumption) ?_|refine mD.set (by first|omega|(simp only [ln]at *;omega)) ?_|refine mD.map (by first|omega|(simp only [ln]at *;omega)) ?_|refine lN.mk (by first|decide|omega) ?_|refine sO.mk (by kernel_rfl) rfl rfl ?_|refine lN.mk (lS (by first|omega|(simp only [ln]at *;omega)) (by kernel_rfl)) ?_)<;>conv=>whnf))
  ·exfalso;rename_i h3;simp only [ah]at *;omega
  ·rename_i h3
   rw [if_neg (by rintro⟨_,h4⟩;exact h h4)]at hins
   ·skip
    (refine mP IQ [0,1,2,3,4,5] (by kernel_rfl) ?_;conv=>whnf)
    repeat' (first
     | (refine And.intro ?_ ?_<;>(conv=>whnf))
     | (refine sN.mk' 0 k rfl rfl (au _) (by rw [ah];omega) ?_;conv=>whnf)
     | (refine sN.mk' k d.length rfl (by rw [ah]) hk (by rw [ah];exact aA _) ?_;conv=>whnf)
     | (refine mZ.mk' i rfl (pU hlt) ?_;conv=>whnf)
     | (refine mD.map hlt ?_;conv=>whnf)
     | (refine lN.mk (lS (by(try simp only [ln]at *);omega) (by kernel_rfl)) ?_;conv=>whnf))
    all_goals
     refine lV.i64 (x:=(i:Int)+1) (by omega) ?_
     refine lU (i+1) [(0, .lab 5)] [] rfl (by show l.length -(i+1)<l.length-i;omega) hlt ⟨⟨rfl,rfl, ?_⟩,trivial⟩ ⟨rfl,rfl,trivial⟩
     rw [hnext,hins]
     exact QK d l[i] k
  ·rename_i h3
   rw [if_pos ⟨hkl,h⟩]at hins
   exact lU (i+1) [(0, .lab 0)] [] rfl (by show l.length -(i+1)<l.length-i;omega) hlt ⟨⟨rfl,rfl,by rw [hnext,hins]⟩,trivial⟩ ⟨rfl,rfl,trivial⟩
 ·have hkl:k=d.length:=by simp at h;omega
  have hins:=LK d l[i] k hk hno fun h=>by omega
  rw [if_neg (by rintro⟨h,_⟩;omega)]at hins
  (refine mP IQ [] (by kernel_rfl) ?_;conv=>whnf)
  refine lK (fun h5=> ?_) (fun h5=> ?_)
  rotate_left
  ·exfalso;simp at h5;omega
  conv=>whnf
  ·skip
   ·skip
    (refine mP IQ [0,1,2,3,4,5] (by kernel_rfl) ?_;conv=>whnf)
    repeat' (first
     | (refine And.intro ?_ ?_<;>(conv=>whnf))
     | (refine sN.mk' 0 k rfl rfl (au _) (by rw [ah];omega) ?_;conv=>whnf)
     | (refine sN.mk' k d.length rfl (by rw [ah]) hk (by rw [ah];exact aA _) ?_;conv=>whnf)
     | (refine mZ.mk' i rfl (pU hlt) ?_;conv=>whnf)
     | (refine mD.map hlt ?_;conv=>whnf)
     | (refine lN.mk (lS (by(try simp only [ln]at *);omega) (by kernel_rfl)) ?_;conv=>whnf))
    all_goals
     refine lV.i64 (x:=(i:Int)+1) (by omega) ?_
     refine lU (i+1) [(0, .lab 5)] [] rfl (by show l.length -(i+1)<l.length-i;omega) hlt ⟨⟨rfl,rfl, ?_⟩,trivial⟩ ⟨rfl,rfl,trivial⟩
     rw [hnext,hins]
     exact QK d l[i] k
theorem ahV (d:Li)(x:Int)(hx:x∈d)(hs:d.length<=1000000):mQ Tryz.prog GC 187 [li d,iv x] 0 [] (Is (iv (idx d x))):=by
 have hi:=I8 hx
 refine lQ func187 rfl mixed (by kernel_rfl) ?_
 refine uj acH [5] (fun k:Nat=> [(5,iv k)]) (fun k=>k<=idx d x) (fun k=>d.length-k) 0 (by kernel_rfl) (fun _=>rfl) (by kernel_rfl) (au _) (by trivial) (by trivial) ?_
 rintro k hk
 have hkl:k<d.length:=by omega
 apply lK<;>intro h
 rotate_left
 ·exfalso;simp at h;omega
 refine mZ.mk' k rfl (pU hkl) ?_
 refine mD.map hkl ?_
 apply lK<;>intro h
 ·have e:d[k]=x:=by simpa using h
  have e2:idx d x=k:=by
   have:=WR e
   omega
  conv=>whnf
  rw [e2]
  exact lZ [] (by trivial)
 ·have e:d[k]≠x:=by simpa using h
  have e2:k≠idx d x:=fun e2=>by subst e2;exact e (by have:=hi.2;rw [aj hkl]at this;injection this)
  refine lV.i64 (by omega) ?_
  exact lU (k+1) [] [] rfl (by show d.length -(k+1)<d.length-k;omega) (by show k+1<=idx d x;omega) trivial ⟨rfl,trivial⟩
theorem ahW (u:Nat)(hu:u<18446744073709551616):mQ Tryz.prog GC 188 [uv u] 0 [] (Is (iv (wid 64 u))):=by
 refine lQ func188 rfl mixed (by kernel_rfl) ?_
 refine mO acI 0 [0,3] (fun x:NX=> [(0,uv x.u),(3,iv x.i)]) (fun _=> []) (fun x=>x.i<=64∧x.u<2^(64-x.i)∧x.i+wid (64-x.i) x.u=wid 64 u) (fun x=>64-x.i) [] [] ⟨0,u⟩ (by kernel_rfl) (fun _=>rfl) rfl ⟨au _,hu,aV _⟩ trivial ⟨rfl,rfl,trivial⟩ ?_
 rintro⟨i,v⟩ ⟨hi,hv,hw⟩
 change i<=64 at hi
 change v<2^(64-i)at hv
 change i+wid (64-i) v=wid 64 u at hw
 apply lK<;>intro h
 ·have h0:v≠0:=by simp at h;omega
  obtain⟨f,hf⟩ : ∃f,64-i=f+1:=by
   cases he:64-i with
   | zero=>rw [he]at hv;simp at hv;omega
   | succ f=>exact⟨f,rfl⟩
  rw [hf]at hv hw
  rw [aat,if_neg h0]at hw
  have hv2:v/2<2^f:=by rw [gZ]at hv;omega
  have hf2:64 -(i+1)=f:=by omega
  refine lN.mk (by decide) ?_
  refine lV.i64 (x:=(i:Int)+1) (by omega) ?_
  exact lU ⟨i+1,v/2⟩ [] [] rfl (by show 64 -(i+1)<64-i;omega) ⟨by show i+1<=64;omega,by show v/2<2^(64 -(i+1));rw [hf2];exact hv2,by show i+1+wid (64 -(i+1)) (v/2)=_;rw [hf2];omega⟩ trivial ⟨congrArg (Value.int .u64) (wZ v),rfl,trivial⟩
 ·have h0:v=0:=by simp at h;omega
  subst h0
  have:wid (64-i) 0=0:=by cases 64-i<;>simp [wid]
  rw [this]at hw
  conv=>whnf
  rw [<-hw]
  exact lZ [] (by trivial)
theorem JG (l:Li)(hs:l.length<=512)(k:Int):mQ Tryz.prog GC 30 [bs (num k),iv ((l.map qX).length:Nat)] 0 [] (sW 5 1 ((num k++num l.length).map oh)):=by
 rw [ah]
 exact sJ (num k) l.length (nJ (by omega)) (by have:=(ni k).2;omega)
theorem JH (k:Int)(l:Li):(num k++num l.length).length<=20:=by
 have h1:=(ni k).2
 have h2:=(ni (l.length:Int)).2
 rw [ak];omega
theorem ajN (l:Li)(hl:nP l)(hs:l.length<=512):mQ Tryz.prog GC 163 [iv 1,li l] 0 [] (Is (bs (en 1 l))):=by
 rw [<-en1]
 have hh:=JH 1 l
 refine lQ func163 rfl mixed (by kernel_rfl) ?_
 refine mY [] (by kernel_rfl) (sJ [] 1 (by unfold I64;omega) (by simp)) (by trivial) ?_
 refine mY [0] (by kernel_rfl) (JG l hs 1) (by trivial) ?_
 conv=>whnf
 generalize num 1++num (l.length:Int)=b at *
 refine mO ab2 2 [5,6] (fun k:Nat=> [(5,bs (b++b1 (l.take k))),(6,iv k)]) (fun _=> []) (fun k=>k<=l.length) (fun k=>l.length-k) [] [1] 0 (by kernel_rfl) (fun _=>rfl) rfl (au _) trivial ⟨⟨rfl,rfl,by simp [b1]⟩,rfl,trivial⟩ ?_
 rintro k hk
 have hbl:=zS l k
 refine lK (fun hlt=> ?_) (fun hge=> ?_)
 ·have hlt:k<l.length:=by simpa using hlt
  conv=>whnf
  (repeat' ((first|refine And.intro ?_ ?_|(apply lK<;>intro h<;>try simp only [bl]at h)|refine lV.i64 (by first|omega|(simp only [ln]at *;omega)) ?_|refine mZ.mk' _ rfl (by first|omega|(simp only [ln]at *;omega)) ?_|refine mD.lT (by assumption) ?_|refine mD.set (by first|omega|(simp only [ln]at *;omega)) ?_|refine mD.map (by first|omega|(simp only [ln]at *;omega)) ?_|refine lN.mk (by first|decide|omega) ?_|refine sO.mk (by kernel_rfl) rfl rfl ?_|refine lN.mk (lS (by first|omega|(simp only [ln]at *;omega)) (by kernel_rfl)) ?_)<;>conv=>whnf))
  refine mY [] (by kernel_rfl) (sJ (b++b1 (l.take k)) l[k] (hl _ (aT hlt)) (by rw [ak];omega)) (by trivial) ?_
  conv=>whnf
  (repeat' ((first|refine And.intro ?_ ?_|(apply lK<;>intro h<;>try simp only [bl]at h)|refine lV.i64 (by first|omega|(simp only [ln]at *;omega)) ?_|refine mZ.mk' _ rfl (by first|omega|(simp only [ln]at *;omega)) ?_|refine mD.lT (by assumption) ?_|refine mD.set (by first|omega|(simp only [ln]at *;omega)) ?_|refine mD.map (by first|omega|(simp only [ln]at *;omega)) ?_|refine lN.mk (by first|decide|omega) ?_|refine sO.mk (by kernel_rfl) rfl rfl ?_|refine lN.mk (lS (by first|omega|(simp only [ln]at *;omega)) (by kernel_rfl)) ?_)<;>conv=>whnf))
  refine lU (k+1) [] [2] rfl (by show l.length -(k+1)<l.length-k;omega) hlt trivial ⟨⟨rfl,rfl,by rw [NQ hlt,aH]⟩,rfl,trivial⟩
 ·have:k=l.length:=by simp at hge;omega
  subst this
  conv=>whnf
  rw [aW]
  exact lZ [] (by trivial)
theorem ajO (l:Li)(hl:nP l)(hs:l.length<=512):mQ Tryz.prog GC 163 [iv 2,li l] 0 [] (Is (bs (en 2 l))):=by
 rw [<-en2]
 have hh:=JH 2 l
 have hbl:=S9 l
 refine lQ func163 rfl mixed (by kernel_rfl) ?_
 refine mY [] (by kernel_rfl) (sJ [] 2 (by unfold I64;omega) (by simp)) (by trivial) ?_
 refine mY [0] (by kernel_rfl) (JG l hs 2) (by trivial) ?_
 conv=>whnf
 generalize num 2++num (l.length:Int)=b at *
 refine mO ab3 2 [5,7] (fun x:LX=> [(5,bs x.out),(7,iv x.k)]) (fun _=> []) (fun x=>x.k<=l.length∧x.out++b2 (l.drop x.k)=b++b2 l) (fun x=>l.length-x.k) [] [1] ⟨0,0,b⟩ (by kernel_rfl) (fun _=>rfl) rfl ⟨au _,rfl⟩ trivial ⟨⟨rfl,rfl,rfl⟩,rfl,trivial⟩ ?_
 rintro⟨i,p,out⟩ ⟨hi,ho⟩
 change i<=l.length at hi
 change out++b2 (l.drop i)=b++b2 l at ho
 have hol:out.length<=b.length+20*l.length:=by have:=congrArg List.length ho;simp only [ak]at this;omega
 conv=>whnf
 (repeat' ((first|refine And.intro ?_ ?_|(apply lK<;>intro h<;>try simp only [bl]at h)|refine lV.i64 (by first|omega|(simp only [ln]at *;omega)) ?_|refine mZ.mk' _ rfl (by first|omega|(simp only [ln]at *;omega)) ?_|refine mD.lT (by assumption) ?_|refine mD.set (by first|omega|(simp only [ln]at *;omega)) ?_|refine mD.map (by first|omega|(simp only [ln]at *;omega)) ?_|refine lN.mk (by first|decide|omega) ?_|refine sO.mk (by kernel_rfl) rfl rfl ?_|refine lN.mk (lS (by first|omega|(simp only [ln]at *;omega)) (by kernel_rfl)) ?_)<;>conv=>whnf))
 ·have hlt:i<l.length:=by simp at h;omega
  refine mO ab4 2 [8] (fun k:Nat=> [(8,iv k)]) (fun _=> []) (fun k=>Tj l i k) (fun k=>l.length-k) [] [] i (by kernel_rfl) (fun _=>rfl) rfl ⟨aA _,hi,by simp⟩ trivial ⟨rfl,trivial⟩ ?_
  rintro k hr
  have hk:=hr.2.1
  (refine mP Nl [] (by kernel_rfl) ?_;conv=>whnf)
  have hgi:l.getD i 0=l[i]:=by rw [ay,aj hlt];rfl
  have done:(∀hk:k<l.length,l[k]≠l.getD i 0)->i<k∧out++num l[i]++num ((k-i:Nat):Int)++b2 (l.drop k)=b++b2 l:=fun e=>by
   have:=hr.fin hlt e
   refine⟨this.1, ?_⟩
   rw [<-ho,this.2,hgi]
   simp only [aH]
  (repeat' ((first|refine And.intro ?_ ?_|(apply lK<;>intro h<;>try simp only [bl]at h)|refine lV.i64 (by first|omega|(simp only [ln]at *;omega)) ?_|refine mZ.mk' _ rfl (by first|omega|(simp only [ln]at *;omega)) ?_|refine mD.lT (by assumption) ?_|refine mD.set (by first|omega|(simp only [ln]at *;omega)) ?_|refine mD.map (by first|omega|(simp only [ln]at *;omega)) ?_|refine lN.mk (by first|decide|omega) ?_|refine sO.mk (by kernel_rfl) rfl rfl ?_|refine lN.mk (lS (by first|omega|(simp only [ln]at *;omega)) (by kernel_rfl)) ?_)<;>conv=>whnf))
  ·rename_i h1
   have hkl:k<l.length:=by simp at h1;omega
   have e:l[k]=l.getD i 0:=by rw [hgi];exact h
   exact lU (k+1) [] [] rfl (by show l.length -(k+1)<l.length-k;omega) (hr.next hkl e) trivial ⟨rfl,trivial⟩
  all_goals
   have ⟨hik,hd⟩:=done (by first|(intro hkl e;rw [hgi]at e;exact absurd e h)|(intro hkl;simp at h;omega))
   have h10:=(ni l[i]).2
   have h20:=congrArg List.length hd
   simp only [ak]at h20
   refine mY [] (by kernel_rfl) (sJ out l[i] (hl _ (aT hlt)) (by omega)) (by trivial) ?_
   conv=>whnf
   (repeat' ((first|refine And.intro ?_ ?_|(apply lK<;>intro h<;>try simp only [bl]at h)|refine lV.i64 (by first|omega|(simp only [ln]at *;omega)) ?_|refine mZ.mk' _ rfl (by first|omega|(simp only [ln]at *;omega)) ?_|refine mD.lT (by assumption) ?_|refine mD.set (by first|omega|(simp only [ln]at *;omega)) ?_|refine mD.map (by first|omega|(simp only [ln]at *;omega)) ?_|refine lN.mk (by first|decide|omega) ?_|refine sO.mk (by kernel_rfl) rfl rfl ?_|refine lN.mk (lS (by first|omega|(simp only [ln]at *;omega)) (by kernel_rfl)) ?_)<;>conv=>whnf))
   have hp:mQ Tryz.prog GC 30 [bs (out++num l[i]),iv ((k:Int) -(i:Int))] 0 [] (sW 5 1 ((out++num l[i]++num ((k-i:Nat):Int)).map oh)):=by
    rw [<-show ((k-i:Nat):Int)=(k:Int) -(i:Int) by omega]
    exact sJ (out++num l[i]) ((k-i:Nat):Int) (nJ (by omega)) (by rw [ak];omega)
   refine mY [2] (by kernel_rfl) (hp) (by trivial) ?_
   conv=>whnf
   (repeat' ((first|refine And.intro ?_ ?_|(apply lK<;>intro h<;>try simp only [bl]at h)|refine lV.i64 (by first|omega|(simp only [ln]at *;omega)) ?_|refine mZ.mk' _ rfl (by first|omega|(simp only [ln]at *;omega)) ?_|refine mD.lT (by assumption) ?_|refine mD.set (by first|omega|(simp only [ln]at *;omega)) ?_|refine mD.map (by first|omega|(simp only [ln]at *;omega)) ?_|refine lN.mk (by first|decide|omega) ?_|refine sO.mk (by kernel_rfl) rfl rfl ?_|refine lN.mk (lS (by first|omega|(simp only [ln]at *;omega)) (by kernel_rfl)) ?_)<;>conv=>whnf))
   exact lU ⟨k,0,out++num l[i]++num ((k-i:Nat):Int)⟩ [] [3] rfl (by show l.length-k<l.length-i;omega) ⟨hk,hd⟩ trivial ⟨⟨rfl,rfl,rfl⟩,rfl,trivial⟩
 ·have:i=l.length:=by simp at h;omega
  subst this
  simp only [iI,b2,rl,jW,bY]at ho
  rw [ho]
  exact lZ [] (by trivial)
theorem ajP (x s:Int):IntKind.i64.wrap (IntKind.u64.wrap (IntKind.u64.wrap x-IntKind.u64.wrap s))=wQ (x-s):=by
 have e:IntKind.u64.bits=64:=rfl
 have e1:IntKind.u64.signed=false:=rfl
 have:=yc (IntKind.u64.wrap (IntKind.u64.wrap x-IntKind.u64.wrap s))
 unfold wQ at this
 rw [this,yc]
 simp only [IntKind.wrap,e,e1,dY,bf,if_false]
 omega
theorem ajQ (l:Li)(hl:nP l)(hne:l≠ [])(hs:l.length<=512):mQ Tryz.prog GC 163 [iv 3,li l] 0 [] (Is (bs (en 3 l))):=by
 rw [<-en3]
 have h0:0<l.length:=dX.2 hne
 have hh:=JH 3 l
 have hbl:=st_len l 0
 have hfirst:b3 l=num l[0]++st l[0] (l.drop 1):=by
  have e:l=l[0]::l.drop 1:=by have:=drop_cons h0;simpa using this
  have e2:b3 (l[0]::l.drop 1)=num (wQ (l[0]-0))++st l[0] (l.drop 1):=rfl
  rw [Int.sub_zero,NJ (hl _ (aT h0))]at e2
  rw [<-e]at e2
  exact e2
 refine lQ func163 rfl mixed (by kernel_rfl) ?_
 refine mY [] (by kernel_rfl) (sJ [] 3 (by unfold I64;omega) (by simp)) (by trivial) ?_
 refine mY [0] (by kernel_rfl) (JG l hs 3) (by trivial) ?_
 conv=>whnf
 generalize num 3++num (l.length:Int)=b at *
 (repeat' ((first|refine And.intro ?_ ?_|(apply lK<;>intro h<;>try simp only [bl]at h)|refine lV.i64 (by first|omega|(simp only [ln]at *;omega)) ?_|refine mZ.mk' _ rfl (by first|omega|(simp only [ln]at *;omega)) ?_|refine mD.lT (by assumption) ?_|refine mD.set (by first|omega|(simp only [ln]at *;omega)) ?_|refine mD.map (by first|omega|(simp only [ln]at *;omega)) ?_|refine lN.mk (by first|decide|omega) ?_|refine sO.mk (by kernel_rfl) rfl rfl ?_|refine lN.mk (lS (by first|omega|(simp only [ln]at *;omega)) (by kernel_rfl)) ?_)<;>conv=>whnf))
 refine mY [1] (by kernel_rfl) (sJ b l[0] (hl _ (aT h0)) (by omega)) (by trivial) ?_
 refine mO ab5 3 [5,9] (fun x:LX=> [(5,bs x.out),(9,iv x.k)]) (fun _=> []) (fun x=>1<=x.k∧x.k<=l.length∧x.out++st (l.getD (x.k-1) 0) (l.drop x.k)=b++b3 l) (fun x=>l.length-x.k) [] [2] ⟨1,0,b++num l[0]⟩ (by kernel_rfl) (fun _=>rfl) rfl ⟨aA _,h0,by rw [hfirst,aH];simp [aj h0]⟩ trivial ⟨⟨rfl,rfl,rfl⟩,rfl,trivial⟩ ?_
 rintro⟨k,p,out⟩ ⟨hk1,hk,ho⟩
 change 1<=k at hk1
 change k<=l.length at hk
 change out++st (l.getD (k-1) 0) (l.drop k)=b++b3 l at ho
 have hol:out.length<=b.length+10*l.length:=by have:=congrArg List.length ho;simp only [ak,b3]at this;omega
 refine lK (fun hlt=> ?_) (fun hge=> ?_)
 ·have hlt:k<l.length:=by simp at hlt;omega
  have hkm:k-1<l.length:=by omega
  have hgd:l.getD (k-1) 0=l[k-1]:=by rw [ay,aj hkm];rfl
  rw [drop_cons hlt,hgd]at ho
  simp only [st]at ho
  (refine mP Nl [] (by kernel_rfl) ?_;conv=>whnf)
  repeat' (first
   | (refine mZ.mk' k rfl (pU hlt) ?_;conv=>whnf)
   | (refine mZ.mk' (k-1) (by show (k:Int)-1=_;omega) (pU hkm) ?_;conv=>whnf)
   | (refine mD.map hlt ?_;conv=>whnf)
   | (refine mD.map hkm ?_;conv=>whnf)
   | (refine lV.i64 (x:=(k:Int)-1) (by omega) ?_;conv=>whnf)
   | (refine lV.to (ajP _ _) ?_;conv=>whnf)
   | (refine lV.to rfl ?_;conv=>whnf))
  refine mY [] (by kernel_rfl) (sJ out (wQ (l[k]-l[k-1])) (Ll _) (by omega)) (by trivial) ?_
  conv=>whnf
  (repeat' ((first|refine And.intro ?_ ?_|(apply lK<;>intro h<;>try simp only [bl]at h)|refine lV.i64 (by first|omega|(simp only [ln]at *;omega)) ?_|refine mZ.mk' _ rfl (by first|omega|(simp only [ln]at *;omega)) ?_|refine mD.lT (by assumption) ?_|refine mD.set (by first|omega|(simp only [ln]at *;omega)) ?_|refine mD.map (by first|omega|(simp only [ln]at *;omega)) ?_|refine lN.mk (by first|decide|omega) ?_|refine sO.mk (by kernel_rfl) rfl rfl ?_|refine lN.mk (lS (by first|omega|(simp only [ln]at *;omega)) (by kernel_rfl)) ?_)<;>conv=>whnf))
  refine lU ⟨k+1,0,out++num (wQ (l[k]-l[k-1]))⟩ [] [3] rfl (by show l.length -(k+1)<l.length-k;omega) ⟨by show 1<=k+1;omega,hlt, ?_⟩ trivial ⟨⟨rfl,rfl,rfl⟩,rfl,trivial⟩
  show (out++num (wQ (l[k]-l[k-1])))++st (l.getD (k+1-1) 0) (l.drop (k+1))=_
  rw [jI,ay,aj hlt, <-ho,aH]
  rfl
 ·have:k=l.length:=by simp at hge;omega
  subst this
  simp only [iI,st,bY]at ho
  conv=>whnf
  rw [<-ho]
  exact lZ [] (by trivial)
theorem ajR (l:Li)(hl:nP l)(hs:l.length<=512):mQ Tryz.prog GC 163 [iv 4,li l] 0 [] (Is (bs (en 4 l))):=by
 rw [<-en4]
 have hh:=JH 4 l
 have hdl:=yZ l
 have hda:nP (ds l):=fun x hx=>hl x ((uU l x).1 hx)
 have n1:=(ni ((ds l).length:Int)).2
 have hix : ∀k,(ixs (ds l) (l.take k)).length<=10*l.length:=fun k=>by
  have h1:=EJ (fun x=>num (idx (ds l) x)) 10 (l.take k) fun x _=>(ni _).2
  rw [aK]at h1
  have h2:(ixs (ds l) (l.take k)).length<=10*min k l.length:=h1
  omega
 have e4:b4 l=num ((ds l).length:Int)++(b1 (ds l)++ixs (ds l) (l.take l.length)):=by
  rw [aW]
  unfold b4 ixs
  simp only [aH]
 rw [e4]
 refine lQ func163 rfl mixed (by kernel_rfl) ?_
 refine mY [] (by kernel_rfl) (sJ [] 4 (by unfold I64;omega) (by simp)) (by trivial) ?_
 refine mY [0] (by kernel_rfl) (JG l hs 4) (by trivial) ?_
 conv=>whnf
 generalize num 4++num (l.length:Int)=b at *
 refine mY [] (by kernel_rfl) (LM l (by omega)) (by trivial) ?_
 conv=>whnf
 generalize hd:ds l=d at *
 have hp:mQ Tryz.prog GC 30 [bs b,iv ((d.map qX).length:Nat)] 0 [] (sW 5 1 ((b++num (d.length:Int)).map oh)):=by
  rw [ah]
  exact sJ b d.length (nJ (by omega)) (by omega)
 refine mY [1,2] (by kernel_rfl) (hp) (by trivial) ?_
 refine mO ab6 4 [5,11] (fun k:Nat=> [(5,bs (b++num (d.length:Int)++b1 (d.take k))),(11,iv k)]) (fun _=> [(2, .fz 1 (d.map qX))]) (fun k=>k<=d.length) (fun k=>d.length-k) [] [3] 0 (by kernel_rfl) (fun _=>rfl) rfl (au _) ⟨⟨rfl,rfl⟩,trivial⟩ ⟨⟨rfl,rfl,by simp [b1]⟩,rfl,trivial⟩ ?_
 rintro k hk
 have hbl:=zS d k
 refine lK (fun hlt=> ?_) (fun hge=> ?_)
 ·have hlt:k<d.length:=by simpa using hlt
  conv=>whnf
  (repeat' ((first|refine And.intro ?_ ?_|(apply lK<;>intro h<;>try simp only [bl]at h)|refine lV.i64 (by first|omega|(simp only [ln]at *;omega)) ?_|refine mZ.mk' _ rfl (by first|omega|(simp only [ln]at *;omega)) ?_|refine mD.lT (by assumption) ?_|refine mD.set (by first|omega|(simp only [ln]at *;omega)) ?_|refine mD.map (by first|omega|(simp only [ln]at *;omega)) ?_|refine lN.mk (by first|decide|omega) ?_|refine sO.mk (by kernel_rfl) rfl rfl ?_|refine lN.mk (lS (by first|omega|(simp only [ln]at *;omega)) (by kernel_rfl)) ?_)<;>conv=>whnf))
  refine mY [] (by kernel_rfl) (sJ (b++num (d.length:Int)++b1 (d.take k)) d[k] (hda _ (aT hlt)) (by simp only [ak];omega)) (by trivial) ?_
  conv=>whnf
  (repeat' ((first|refine And.intro ?_ ?_|(apply lK<;>intro h<;>try simp only [bl]at h)|refine lV.i64 (by first|omega|(simp only [ln]at *;omega)) ?_|refine mZ.mk' _ rfl (by first|omega|(simp only [ln]at *;omega)) ?_|refine mD.lT (by assumption) ?_|refine mD.set (by first|omega|(simp only [ln]at *;omega)) ?_|refine mD.map (by first|omega|(simp only [ln]at *;omega)) ?_|refine lN.mk (by first|decide|omega) ?_|refine sO.mk (by kernel_rfl) rfl rfl ?_|refine lN.mk (lS (by first|omega|(simp only [ln]at *;omega)) (by kernel_rfl)) ?_)<;>conv=>whnf))
  refine lU (k+1) [] [4] rfl (by show d.length -(k+1)<d.length-k;omega) hlt ⟨⟨rfl,rfl⟩,trivial⟩ ⟨⟨rfl,rfl,by rw [NQ hlt,aH]⟩,rfl,trivial⟩
 have:k=d.length:=by simp at hge;omega
 subst this
 rw [aW]at hbl ⊢
 refine mO ab7 4 [5,12] (fun k:Nat=> [(5,bs (b++num (d.length:Int)++b1 d++ixs d (l.take k))),(12,iv k)]) (fun _=> [(2, .fz 1 (d.map qX))]) (fun k=>k<=l.length) (fun k=>l.length-k) [] [] 0 (by kernel_rfl) (fun _=>rfl) rfl (au _) ⟨⟨rfl,rfl⟩,trivial⟩ ⟨⟨rfl,by simp [ixs]⟩,rfl,trivial⟩ ?_
 rintro k hk
 have hx:=hix k
 apply lK<;>intro h
 ·have hlt:k<l.length:=by simp at h;omega
  have hmem:l[k]∈d:=by rw [<-hd];exact(uU l _).2 (aT hlt)
  have hil:=(I8 hmem).1
  conv=>whnf
  (repeat' ((first|refine And.intro ?_ ?_|(apply lK<;>intro h<;>try simp only [bl]at h)|refine lV.i64 (by first|omega|(simp only [ln]at *;omega)) ?_|refine mZ.mk' _ rfl (by first|omega|(simp only [ln]at *;omega)) ?_|refine mD.lT (by assumption) ?_|refine mD.set (by first|omega|(simp only [ln]at *;omega)) ?_|refine mD.map (by first|omega|(simp only [ln]at *;omega)) ?_|refine lN.mk (by first|decide|omega) ?_|refine sO.mk (by kernel_rfl) rfl rfl ?_|refine lN.mk (lS (by first|omega|(simp only [ln]at *;omega)) (by kernel_rfl)) ?_)<;>conv=>whnf))
  (refine mF [] (by kernel_rfl) (ahV d l[k] hmem (by omega)) rfl ?_ ?_;(focus trivial))
  refine mY [] (by kernel_rfl) (sJ (b++num (d.length:Int)++b1 d++ixs d (l.take k)) (idx d l[k]:Int) (nJ (by omega)) (by simp only [ak];omega)) (by trivial) ?_
  conv=>whnf
  (repeat' ((first|refine And.intro ?_ ?_|(apply lK<;>intro h<;>try simp only [bl]at h)|refine lV.i64 (by first|omega|(simp only [ln]at *;omega)) ?_|refine mZ.mk' _ rfl (by first|omega|(simp only [ln]at *;omega)) ?_|refine mD.lT (by assumption) ?_|refine mD.set (by first|omega|(simp only [ln]at *;omega)) ?_|refine mD.map (by first|omega|(simp only [ln]at *;omega)) ?_|refine lN.mk (by first|decide|omega) ?_|refine sO.mk (by kernel_rfl) rfl rfl ?_|refine lN.mk (lS (by first|omega|(simp only [ln]at *;omega)) (by kernel_rfl)) ?_)<;>conv=>whnf))
  refine lU (k+1) [] [4] rfl (by show l.length -(k+1)<l.length-k;omega) hlt ⟨⟨rfl,rfl⟩,trivial⟩ ⟨⟨rfl,rfl, ?_⟩,rfl,trivial⟩
  rw [Qk hlt, <-aH]
 ·have:k=l.length:=by simp at h;omega
  subst this
  conv=>whnf
  simp only [<-aH,aW]
  exact lZ [] (by trivial)
theorem aeB {l:Li}(hne:l≠ []):0<(ds l).length∧(ds l)[0]? = some (lo l)∧(ds l)[(ds l).length-1]? = some (hi l):=by
 have h:=dX.2 (ai9 hne)
 unfold lo hi
 generalize ds l=d at *
 refine⟨h, ?_, ?_⟩
 ·cases d with
  | nil=>simp at h
  | cons y r=>rfl
 ·rw [<-List.getLast?_eq_getElem?,List.getLastD_eq_getLast?]
  cases hd:d.getLast? with
  | none=>rw [List.getLast?_eq_none_iff.1 hd]at h;simp at h
  | some y=>rfl
theorem ajS (l:Li)(hl:nP l)(hne:l≠ [])(hs:l.length<=512):mQ Tryz.prog GC 163 [iv 5,li l] 0 [] (Is (bs (en 5 l))):=by
 rw [<-en5]
 have hh:=JH 5 l
 have hdl:=yZ l
 obtain⟨hd0,ahX,alx⟩:=aeB hne
 have hlast:((ds l).length:Int)-1=(((ds l).length-1:Nat):Int):=by omega
 obtain⟨a,ha⟩:=kH l hne
 have h1:=lo_le ha
 have h2:=Qd ha
 have hlo:=hl _ h1.2
 have hhi:=hl _ h2.2
 have hdf:=Gz hlo hhi (by omega)
 have hw:=Lj l hl
 have hlen:=ahW (dif (lo l) (hi l)) hdf.2
 have hwd:wid 64 (dif (lo l) (hi l))=wd l:=rfl
 rw [hwd]at hlen
 have n1:=(ni (lo l)).2
 have e5:b5 l=num (lo l)++num (wd l:Int)++pk (x9 (lo l) (wd l) l) (vZ l.length (wd l)) (l.length*wd l):=rfl
 have ajT : ∀i k (hlt:i<l.length),k<wd l->x9 (lo l) (wd l) l (i*wd l+k)=(dif (lo l) l[i]).testBit k:=fun i k hlt hk=>UR hk hlt
 have aly : ∀i (hlt:i<l.length),lo l<=l[i]:=fun i hlt=>(lo_le (aT hlt)).1
 rw [e5]
 clear hwd e5
 refine lQ func163 rfl mixed (by kernel_rfl) ?_
 refine mY [] (by kernel_rfl) (sJ [] 5 (by unfold I64;omega) (by simp)) (by trivial) ?_
 refine mY [0] (by kernel_rfl) (JG l hs 5) (by trivial) ?_
 conv=>whnf
 generalize num 5++num (l.length:Int)=b at *
 refine mY [] (by kernel_rfl) (LM l (by omega)) (by trivial) ?_
 conv=>whnf
 generalize hwe:wd l=w at *
 generalize hm:lo l=m at *
 generalize hM:hi l=M at *
 generalize hd:ds l=d at *
 (refine mP Nl [] (by kernel_rfl) ?_;conv=>whnf)
 refine lV.to (y:=((d.length-1:Nat):Int)) (by rw [ah,IntWalk.i64_in _ (by omega)];omega) ?_
 refine mZ.mk' (d.length-1) rfl (by rw [ah];omega) ?_
 refine mD.lT alx ?_
 refine lV.to rfl ?_
 refine mZ.mk' 0 rfl (by rw [ah];omega) ?_
 refine mD.lT ahX ?_
 refine lV.to rfl ?_
 refine lV.to hdf.1 ?_
 (refine mF [2] (by kernel_rfl) (hlen) rfl ?_ ?_;(focus trivial))
 refine mZ.mk' 0 rfl (by rw [ah];omega) ?_
 refine mD.lT ahX ?_
 refine mY [1] (by kernel_rfl) (sJ b m hlo (by omega)) (by trivial) ?_
 refine mY [3,2] (by kernel_rfl) (sJ (b++num m) (w:Int) (nJ (by omega)) (by rw [ak];omega)) (by trivial) ?_
 conv=>whnf
 have hlw:l.length*w<=640000:=by
  have:=jd hs hw;omega
 refine lV.to (y:=((l.length*w:Nat):Int)) (by rw [ah, <-dN];exact IntWalk.i64_in _ (by omega)) ?_
 refine lV.i64 (by omega) ?_
 refine lN.mk (by decide) ?_
 refine lV.to (y:=((vZ l.length w:Nat):Int)) (by
  have e:Int.tdiv (((l.length*w:Nat):Int)+7) 8=((vZ l.length w:Nat):Int):=rfl
  rw [e];exact IntWalk.i64_in _ (by unfold vZ;omega)) ?_
 refine KG.mk' (qY:=1) (vZ l.length w) rfl rfl (by unfold vZ maxLen;omega) ?_
 conv=>whnf
 have hb3:(b++num m++num (w:Int)).length<=100:=by have:=(ni (w:Int)).2;simp only [ak];omega
 refine mO ab8 6 [16] (fun i:Nat=> [(16,iv i)]) (fun i=> [(5, .rows 5 1 ((pk (x9 m w l) (vZ l.length w) (i*w)).map oh)),(4, .rows 5 1 ((b++num m++num (w:Int)).map oh)),(2, .fz 1 (d.map qX))]) (fun i=>i<=l.length) (fun i=>l.length-i) [] [] 0 (by kernel_rfl) (fun _=>rfl) rfl (au _) ⟨⟨rfl,rfl,by rw [fJ,UK,eG];rfl⟩,⟨rfl,rfl,rfl⟩,⟨rfl,rfl⟩,trivial⟩ ⟨rfl,trivial⟩ ?_
 rintro i hi
 apply lK<;>intro h
 ·have hlt:i<l.length:=by simp at h;omega
  have hxd:=Gz hlo (hl _ (aT hlt)) (aly i hlt)
  have hbit:=fun k=>ajT i k hlt
  (refine mP Nl [] (by kernel_rfl) ?_;conv=>whnf)
  repeat' (first
   | (refine mZ.mk' i rfl (pU hlt) ?_;conv=>whnf)
   | (refine mZ.mk' 0 rfl (by rw [ah];omega) ?_;conv=>whnf)
   | (refine mD.lT ahX ?_;conv=>whnf)
   | (refine mD.map hlt ?_;conv=>whnf)
   | (refine lV.to hxd.1 ?_;conv=>whnf)
   | (refine lV.to rfl ?_;conv=>whnf))
  generalize dif m l[i]=dd at *
  refine mO ab9 6 [18] (fun k:Nat=> [(18,iv k)]) (fun k=> [(5, .rows 5 1 ((pk (x9 m w l) (vZ l.length w) (i*w+k)).map oh)),(4, .rows 5 1 ((b++num m++num (w:Int)).map oh)),(2, .fz 1 (d.map qX))]) (fun k=>k<=w) (fun k=>w-k) [] [] 0 (by kernel_rfl) (fun _=>rfl) rfl (au _) ⟨⟨rfl,rfl,rfl⟩,⟨rfl,rfl,rfl⟩,⟨rfl,rfl⟩,trivial⟩ ⟨rfl,trivial⟩ ?_
  rintro k hk
  apply lK<;>intro h
  ·have hkw:k<w:=by simp at h;omega
   have hat:=UU hlt hkw
   have hmul:i*w+k<=640000:=by omega
   refine lV.to (y:=((i*w:Nat):Int)) (by rw [<-dN];exact IntWalk.i64_in _ (by omega)) ?_
   refine lV.to (y:=((i*w+k:Nat):Int)) (by rw [<-fM];exact IntWalk.i64_in _ (by omega)) ?_
   conv=>whnf
   generalize hp:i*w+k=p at *
   refine lN.mk (by decide) ?_
   refine lV.to (y:=((p/8:Nat):Int)) (by
    have e:Int.tdiv (p:Int) 8=((p/8:Nat):Int):=rfl
    rw [e];exact IntWalk.i64_in _ (by omega)) ?_
   refine mZ.mk' (p/8) rfl (by rw [ah,pk_len];exact hat.2) ?_
   refine mD.lT (NR hat.2) ?_
   refine lV.to (y:=((k:Nat):Int)) (sH (by omega)) ?_
   refine lN.mk (by omega) ?_
   refine lV.to (y:=(((if dd.testBit k=true then 1 else 0:Nat)):Int)) (by rw [Zh hxd.2 (by omega)];exact w8 (by split<;>omega)) ?_
   refine lN.mk (by decide) ?_
   refine lV.to (y:=((p%8:Nat):Int)) (sH (n:=p%8) (by omega)) ?_
   refine lN.mk (by omega) ?_
   refine lV.to (y:=(((if dd.testBit k=true then 1 else 0)*2^(p%8):Nat):Int)) (V6 (s:=p%8) (by split<;>omega) (iM _ (by decide))) ?_
   refine mZ.mk' (p/8) rfl (by rw [ah,pk_len];exact hat.2) ?_
   refine mD.lT (NR hat.2) ?_
   refine lV.i64 (by omega) ?_
   conv=>whnf
   have hbk:x9 m w l p=dd.testBit k:=by rw [<-hp];exact hbit k hkw
   refine lU (k+1) [] [] rfl (by show w -(k+1)<w-k;omega) hkw ⟨⟨rfl,rfl, ?_⟩,⟨rfl,rfl,rfl⟩,⟨rfl,rfl⟩,trivial⟩ ⟨rfl,trivial⟩
   rw [show i*w+(k+1)=p+1 by omega,Zi,hbk]
  ·have:k=w:=by simp at h;omega
   subst this
   refine lV.i64 (by omega) ?_
   refine lU (i+1) [] [] rfl (by show l.length -(i+1)<l.length-i;omega) hlt ⟨⟨rfl,rfl, ?_⟩,⟨rfl,rfl,rfl⟩,⟨rfl,rfl⟩,trivial⟩ ⟨rfl,trivial⟩
   rw [show (i+1)*k=i*k+k by rw [bJ,dF]]
 ·have:i=l.length:=by simp at h;omega
  subst this
  have hS:vZ l.length w<=100000:=by unfold vZ;omega
  refine lN.mk (lS (by simp only [ah,ak,pk_len]at *;omega) (by kernel_rfl)) ?_
  conv=>whnf
  simp only [<-aH]
  refine lZ [6] ⟨rfl,rfl, ?_⟩
  simp only [aJ]
section
attribute [local irreducible] best ints en bd
theorem zX (l:Li)(hl:nP l)(hs:l.length<=512):mQ Tryz.prog GC 132 [li l] 0 [] (Is (bs (ints l))):=by
 refine lQ func132 rfl mixed (by kernel_rfl) ?_
 apply lK<;>intro h
 ·have e:l = []:=aI (by simp at h;simp [h])
  subst e
  conv=>whnf
  rw [ex2]
  exact lZ [0] (by trivial)
 have hne:l≠ []:=fun e=>by subst e;simp at h
 refine mY [] (by kernel_rfl) (ajN l hl hs) (by trivial) ?_
 refine mO abN 0 [3,4] (fun k:Nat=> [(3,bs (best l (k-2))),(4,iv k)]) (fun _=> []) (fun k=>2<=k∧k<=6) (fun k=>6-k) [] [] 2 (by kernel_rfl) (fun _=>rfl) rfl ⟨aA _,by decide⟩ trivial ⟨⟨rfl,by rw [LD]⟩,rfl,trivial⟩ ?_
 rintro k ⟨hk1,hk2⟩
 have hc:k=2∨k=3∨k=4∨k=5∨k=6:=by omega
 rcases hc with rfl|rfl|rfl|rfl|rfl
 ·refine mY [] (by kernel_rfl) (ajO l hl hs) (by trivial) ?_
  apply lK<;>intro h
  ·refine lV.i64 (by decide) ?_
   refine lU (0+3) [] [] rfl (by decide) ⟨by decide,by decide⟩ trivial ⟨⟨rfl, ?_⟩,rfl,trivial⟩
   show _=(best l (0+1)).map oh
   rw [xM 0 (by simp only [ah,decide_eq_true_eq,decide_eq_false_iff_not]at h;have h3:((en (0+2) l).length:Int)<((best l 0).length:Int):=h;omega)]
  ·refine lV.i64 (by decide) ?_
   refine lU (0+3) [] [] rfl (by decide) ⟨by decide,by decide⟩ trivial ⟨⟨rfl, ?_⟩,rfl,trivial⟩
   show _=(best l (0+1)).map oh
   rw [xO 0 (by simp only [ah,decide_eq_true_eq,decide_eq_false_iff_not]at h;have h3 : ¬((en (0+2) l).length:Int)<((best l 0).length:Int):=h;omega)]
 ·refine mY [] (by kernel_rfl) (ajQ l hl hne hs) (by trivial) ?_
  apply lK<;>intro h
  ·refine lV.i64 (by decide) ?_
   refine lU (1+3) [] [] rfl (by decide) ⟨by decide,by decide⟩ trivial ⟨⟨rfl, ?_⟩,rfl,trivial⟩
   show _=(best l (1+1)).map oh
   rw [xM 1 (by simp only [ah,decide_eq_true_eq,decide_eq_false_iff_not]at h;have h3:((en (1+2) l).length:Int)<((best l 1).length:Int):=h;omega)]
  ·refine lV.i64 (by decide) ?_
   refine lU (1+3) [] [] rfl (by decide) ⟨by decide,by decide⟩ trivial ⟨⟨rfl, ?_⟩,rfl,trivial⟩
   show _=(best l (1+1)).map oh
   rw [xO 1 (by simp only [ah,decide_eq_true_eq,decide_eq_false_iff_not]at h;have h3 : ¬((en (1+2) l).length:Int)<((best l 1).length:Int):=h;omega)]
 ·refine mY [] (by kernel_rfl) (ajR l hl hs) (by trivial) ?_
  apply lK<;>intro h
  ·refine lV.i64 (by decide) ?_
   refine lU (2+3) [] [] rfl (by decide) ⟨by decide,by decide⟩ trivial ⟨⟨rfl, ?_⟩,rfl,trivial⟩
   show _=(best l (2+1)).map oh
   rw [xM 2 (by simp only [ah,decide_eq_true_eq,decide_eq_false_iff_not]at h;have h3:((en (2+2) l).length:Int)<((best l 2).length:Int):=h;omega)]
  ·refine lV.i64 (by decide) ?_
   refine lU (2+3) [] [] rfl (by decide) ⟨by decide,by decide⟩ trivial ⟨⟨rfl, ?_⟩,rfl,trivial⟩
   show _=(best l (2+1)).map oh
   rw [xO 2 (by simp only [ah,decide_eq_true_eq,decide_eq_false_iff_not]at h;have h3 : ¬((en (2+2) l).length:Int)<((best l 2).length:Int):=h;omega)]
 ·refine mY [] (by kernel_rfl) (ajS l hl hne hs) (by trivial) ?_
  apply lK<;>intro h
  ·refine lV.i64 (by decide) ?_
   refine lU (3+3) [] [] rfl (by decide) ⟨by decide,by decide⟩ trivial ⟨⟨rfl, ?_⟩,rfl,trivial⟩
   show _=(best l (3+1)).map oh
   rw [xM 3 (by simp only [ah,decide_eq_true_eq,decide_eq_false_iff_not]at h;have h3:((en (3+2) l).length:Int)<((best l 3).length:Int):=h;omega)]
  ·refine lV.i64 (by decide) ?_
   refine lU (3+3) [] [] rfl (by decide) ⟨by decide,by decide⟩ trivial ⟨⟨rfl, ?_⟩,rfl,trivial⟩
   show _=(best l (3+1)).map oh
   rw [xO 3 (by simp only [ah,decide_eq_true_eq,decide_eq_false_iff_not]at h;have h3 : ¬((en (3+2) l).length:Int)<((best l 3).length:Int):=h;omega)]
 ·conv=>whnf
  rw [UY hne]
  exact lZ [] (by trivial)
end
section
attribute [local irreducible] best ints en bd
theorem LP (d:Tx)(x:By)(k:Nat) : []++((d.map wC).drop 0).take (k-0)++ [[FV.v (Value.string ⟨x.toArray⟩)]]++((d.map wC).drop k).take (d.length-k)=(d.take k++ [x]++d.drop k).map wC:=by
 rw [dO,dJ,iU,dD (by simp:((d.map wC).drop k).length<=d.length-k),aJ,aJ,dU,bI]
 rfl
theorem Vt (l:Tx)(hs:l.length<=512)(ht:AA l):mQ Tryz.prog GC 131 [tl l] 0 [] (sW 5 1 ((rF l).map oh)):=by
 have hdl:=wB l
 have hkl:=fun k=>yK ((dsT l).take k) (ht.ds.take k)
 have n1:=(ni ((dsT l).length:Int)).2
 refine lQ func131 rfl mixed (by kernel_rfl) ?_
 refine mO abI 1 [3,4] (fun i:Nat=> [(3, .own 0),(4,iv i)]) (fun i=> [(0, .rows 9 1 ((dsT (l.take i)).map wC))]) (fun i=>i<=l.length) (fun i=>l.length-i) [(0, .nil)] [] 0 (by kernel_rfl) (fun _=>rfl) rfl (au _) ⟨rfl,trivial⟩ ⟨trivial,rfl,trivial⟩ ?_
 rintro i hi
 apply lK<;>intro h
 rotate_left
 ·have:i=l.length:=by simp at h;omega
  subst this
  rw [aW]
  conv=>whnf
  have hput:mQ Tryz.prog GC 30 [bs [],iv (((dsT l).map wC).length:Nat)] 0 [] (sW 5 1 ((num ((dsT l).length:Int)).map oh)):=by
   rw [ah]
   exact sJ [] ((dsT l).length:Int) (nJ (by omega)) (by simp)
  refine mY [0] (by kernel_rfl) (hput) (by trivial) ?_
  refine mO abK 3 [6,8] (fun k:Nat=> [(6, .own 2),(8,iv k)]) (fun k=> [(0, .fz 1 ((dsT l).map wC)),(2, .rows 5 1 ((num ((dsT l).length:Int)++((dsT l).take k).flatMap qH).map oh))]) (fun k=>k<=(dsT l).length) (fun k=>(dsT l).length-k) [(2, .lab 1)] [] 0 (by kernel_rfl) (fun _=>rfl) rfl (au _) ⟨⟨rfl,rfl⟩,⟨rfl,rfl,by simp⟩,trivial⟩ ⟨rfl,rfl,trivial⟩ ?_
  rintro k hk
  have hkk:=hkl k
  rw [aK]at hkk
  apply lK<;>intro h
  ·have hlt:k<(dsT l).length:=by simp at h;omega
   have hmem:(dsT l)[k]∈dsT l:=aT hlt
   refine mZ.mk' k rfl (pU hlt) ?_
   refine mD.map hlt ?_
   refine mY [2] (by kernel_rfl) (ahy (num ((dsT l).length:Int)++((dsT l).take k).flatMap qH) (dsT l)[k] (by rw [ak];omega) (ht.ds _ hmem)) ⟨⟨rfl,rfl,rfl⟩,rfl,trivial⟩ ?_
   refine lV.i64 (by omega) ?_
   refine lU (k+1) [(2, .lab 3)] [] rfl (by show (dsT l).length -(k+1)<(dsT l).length-k;omega) hlt ⟨⟨rfl,rfl⟩,⟨rfl,rfl, ?_⟩,trivial⟩ ⟨rfl,rfl,trivial⟩
   rw [LG hlt, <-aH]
  ·have:k=(dsT l).length:=by simp at h;omega
   subst this
   rw [aW]
   refine mO abL 4 [7,9] (fun k:Nat=> [(7, .own 3),(9,iv k)]) (fun k=> [(0, .fz 1 ((dsT l).map wC)),(2, .rows 5 1 ((num ((dsT l).length:Int)++(dsT l).flatMap qH).map oh)),(3, .rows 3 1 ((BM (dsT l) (l.take k)).map qX))]) (fun k=>k<=l.length) (fun k=>l.length-k) [(3, .nil)] [] 0 (by kernel_rfl) (fun _=>rfl) rfl (au _) ⟨⟨rfl,rfl⟩,⟨rfl,rfl,rfl⟩,rfl,trivial⟩ ⟨trivial,rfl,trivial⟩ ?_
   rintro i hi
   apply lK<;>intro h
   ·have hlt:i<l.length:=by simp at h;omega
    have hmem:l[i]∈dsT l:=(tN l _).2 (aT hlt)
    have hil:=y7 hmem
    refine uj abM [10] (fun k:Nat=> [(10,iv k)]) (fun k=>k<=wu (dsT l) l[i]) (fun k=>(dsT l).length-k) 0 (by kernel_rfl) (fun _=>rfl) (by kernel_rfl) (au _) (by trivial) (by trivial) ?_
    rintro k hk
    have hkl:k<(dsT l).length:=by omega
    have amP:(BM (dsT l) (l.take i)).length=i:=by rw [uM,aK];omega
    (refine mP ED [] (by kernel_rfl) ?_;conv=>whnf)
    (repeat' ((first|refine And.intro ?_ ?_|(apply lK<;>intro h<;>try simp only [bl]at h)|refine lV.i64 (by first|omega|(simp only [ln]at *;omega)) ?_|refine mZ.mk' _ rfl (by first|omega|(simp only [ln]at *;omega)) ?_|refine mD.lT (by assumption) ?_|refine mD.set (by first|omega|(simp only [ln]at *;omega)) ?_|refine mD.map (by first|omega|(simp only [ln]at *;omega)) ?_|refine lN.mk (by first|decide|omega) ?_|refine sO.mk (by kernel_rfl) rfl rfl ?_|refine lN.mk (lS (by first|omega|(simp only [ln]at *;omega)) (by kernel_rfl)) ?_)<;>conv=>whnf))
    ·have e:(dsT l)[k]≠l[i]:=fun e=>h (by rw [e])
     have e2:k≠wu (dsT l) l[i]:=fun e2=>by subst e2;exact e (by have:=hil.2;rw [aj hkl]at this;injection this)
     exact lU (k+1) [] [] rfl (by show (dsT l).length -(k+1)<(dsT l).length-k;omega) (by show k+1<=wu (dsT l) l[i];omega) (by trivial) ⟨rfl,trivial⟩
    ·have e:(dsT l)[k]=l[i]:=ZN h
     have e2:k=wu (dsT l) l[i]:=by have:=Tv e;omega
     refine lU (i+1) [(3, .lab 5)] [] rfl (by show l.length -(i+1)<l.length-i;omega) hlt ⟨⟨rfl,rfl⟩,⟨rfl,rfl,rfl⟩,⟨rfl,rfl, ?_⟩,trivial⟩ ⟨rfl,rfl,trivial⟩
     rw [Qr hlt,aJ, <-e2]
     rfl
   ·have:i=l.length:=by simp at h;omega
    subst this
    rw [aW]
    conv=>whnf
    have ale:=yK (dsT l) ht.ds
    have hib:=nR (BM (dsT l) l) (by rw [uM];exact hs)
    refine mY [3] (by kernel_rfl) (zX (BM (dsT l) l) (GK _ _ (fun x hx=>(tN l x).2 hx) (by omega)) (by rw [uM];exact hs)) (by trivial) ?_
    refine lN.mk (lS (by simp only [ln];omega) (by kernel_rfl)) ?_
    refine lX (.own 0) 1 [(0, .rows 5 1 ((rF l).map oh))] [(0, .lab 4)] [] ⟨rfl,rfl,rfl⟩ rfl ⟨⟨rfl,rfl, ?_⟩,trivial⟩ (by trivial)
    unfold rF
    simp only [aJ]
 have hlt:i<l.length:=by simp at h;omega
 have hdi:=wB (l.take i)
 rw [aK]at hdi
 have hnext:dsT (l.take (i+1))=yj (dsT (l.take i)) l[i]:=by rw [aG hlt,Zz]
 generalize hd:dsT (l.take i)=d at *
 refine uj abJ [5] (fun k:Nat=> [(5,iv k)]) (fun k=>k<=d.length∧∀j (h1:j<k) (h2:j<d.length),d[j]<l[i]) (fun k=>d.length-k) 0 (by kernel_rfl) (fun _=>rfl) (by kernel_rfl) ⟨au _,fun j h1=>absurd h1 (gI j)⟩ (by trivial) (by trivial) ?_
 rintro k ⟨hk,hno⟩
 (refine mP ED [] (by kernel_rfl) ?_;conv=>whnf)
 (repeat' ((first|refine And.intro ?_ ?_|(apply lK<;>intro h<;>try simp only [bl]at h)|refine lV.i64 (by first|omega|(simp only [ln]at *;omega)) ?_|refine mZ.mk' _ rfl (by first|omega|(simp only [ln]at *;omega)) ?_|refine mD.lT (by assumption) ?_|refine mD.set (by first|omega|(simp only [ln]at *;omega)) ?_|refine mD.map (by first|omega|(simp only [ln]at *;omega)) ?_|refine lN.mk (by first|decide|omega) ?_|refine sO.mk (by kernel_rfl) rfl rfl ?_|refine lN.mk (lS (by first|omega|(simp only [ln]at *;omega)) (by kernel_rfl)) ?_)<;>conv=>whnf))
 ·rename_i h1
  have hkl:k<d.length:=by simp at h1;omega
  rw [Tz]at h
  exact lU (k+1) [] [] rfl (by show d.length -(k+1)<d.length-k;omega) ⟨hkl,fun j h2 h3=>by
   rcases dP j k with h4|h4
   ·exact hno j h4 h3
   ·have:j=k:=by omega
    subst this;exact of_decide_eq_true h⟩ (by trivial) ⟨rfl,trivial⟩
 ·rename_i h1
  have hkl:k<d.length:=by simp at h1;omega
  rw [Tz]at h
  have hins:=Jj d l[i] k hk hno fun _=>of_decide_eq_false h
  (refine mP ED [] (by kernel_rfl) ?_;conv=>whnf)
  (repeat' ((first|refine And.intro ?_ ?_|(apply lK<;>intro h<;>try simp only [bl]at h)|refine lV.i64 (by first|omega|(simp only [ln]at *;omega)) ?_|refine mZ.mk' _ rfl (by first|omega|(simp only [ln]at *;omega)) ?_|refine mD.lT (by assumption) ?_|refine mD.set (by first|omega|(simp only [ln]at *;omega)) ?_|refine mD.map (by first|omega|(simp only [ln]at *;omega)) ?_|refine lN.mk (by first|decide|omega) ?_|refine sO.mk (by kernel_rfl) rfl rfl ?_|refine lN.mk (lS (by first|omega|(simp only [ln]at *;omega)) (by kernel_rfl)) ?_)<;>conv=>whnf))
  ·exfalso;rename_i h3;simp only [ah]at *;omega
  ·rename_i h3
   rw [if_neg (by rintro⟨_,h4⟩;exact h (by rw [h4]))]at hins
   ·skip
    (refine mP ED [0,1,2,3,4,5] (by kernel_rfl) ?_;conv=>whnf)
    repeat' (first
     | (refine And.intro ?_ ?_<;>(conv=>whnf))
     | (refine sN.mk' 0 k rfl rfl (au _) (by rw [ah];omega) ?_;conv=>whnf)
     | (refine sN.mk' k d.length rfl (by rw [ah]) hk (by rw [ah];exact aA _) ?_;conv=>whnf)
     | (refine mZ.mk' i rfl (pU hlt) ?_;conv=>whnf)
     | (refine mD.map hlt ?_;conv=>whnf)
     | (refine lN.mk (lS (by(try simp only [ln]at *);omega) (by kernel_rfl)) ?_;conv=>whnf))
    all_goals
     refine lV.i64 (x:=(i:Int)+1) (by omega) ?_
     refine lU (i+1) [(0, .lab 5)] [] rfl (by show l.length -(i+1)<l.length-i;omega) hlt ⟨⟨rfl,rfl, ?_⟩,trivial⟩ ⟨rfl,rfl,trivial⟩
     rw [hnext,hins]
     exact LP d l[i] k
  ·rename_i h3
   rw [if_pos ⟨hkl,ZN h⟩]at hins
   exact lU (i+1) [(0, .lab 0)] [] rfl (by show l.length -(i+1)<l.length-i;omega) hlt ⟨⟨rfl,rfl,by rw [hnext,hins]⟩,trivial⟩ ⟨rfl,rfl,trivial⟩
 ·have hkl:k=d.length:=by simp at h;omega
  have hins:=Jj d l[i] k hk hno fun h=>by omega
  rw [if_neg (by rintro⟨h,_⟩;omega)]at hins
  (refine mP ED [] (by kernel_rfl) ?_;conv=>whnf)
  refine lK (fun h5=> ?_) (fun h5=> ?_)
  rotate_left
  ·exfalso;simp at h5;omega
  conv=>whnf
  ·skip
   ·skip
    (refine mP ED [0,1,2,3,4,5] (by kernel_rfl) ?_;conv=>whnf)
    repeat' (first
     | (refine And.intro ?_ ?_<;>(conv=>whnf))
     | (refine sN.mk' 0 k rfl rfl (au _) (by rw [ah];omega) ?_;conv=>whnf)
     | (refine sN.mk' k d.length rfl (by rw [ah]) hk (by rw [ah];exact aA _) ?_;conv=>whnf)
     | (refine mZ.mk' i rfl (pU hlt) ?_;conv=>whnf)
     | (refine mD.map hlt ?_;conv=>whnf)
     | (refine lN.mk (lS (by(try simp only [ln]at *);omega) (by kernel_rfl)) ?_;conv=>whnf))
    all_goals
     refine lV.i64 (x:=(i:Int)+1) (by omega) ?_
     refine lU (i+1) [(0, .lab 5)] [] rfl (by show l.length -(i+1)<l.length-i;omega) hlt ⟨⟨rfl,rfl, ?_⟩,trivial⟩ ⟨rfl,rfl,trivial⟩
     rw [hnext,hins]
     exact LP d l[i] k
theorem G8 (l:Tx)(hs:l.length<=512)(ht:AA l):mQ Tryz.prog GC 131 [tl l] 0 [] (Is (bs (rF l))):=(Vt l hs ht).Fv
end
section
attribute [local irreducible] best ints en bd rF dsT
abbrev ng (r mV:Nat):Nat×AV:=(r, .own mV)
abbrev nx (r:Nat)(x:FV):Nat×AV:=(r,x.up)
abbrev nr (mV t:Nat)(R:List (List FV)):Nat×oZ:=(mV, .rows t 1 R)
abbrev no (mV t:Nat)(x:FV):Nat×oZ:=(mV, .rows t 1 [[x]])
abbrev nw (mV t:Nat)(R:List (List FV))(x:FV):Nat×oZ:=(mV, .rows t 1 (R++ [[x]]))
abbrev ne (n:Nat)(l:List (Nat×AV))(H:lM):Nat×List (Nat×AV)×lM:=(n,l,H)
def ns7:List Nd:= [⟨#[true,true,true,false,false,true,true,true,false,false,true,true,true,false,false,true,true,true,false,false,false,false,false,false],8,[(3,4),(8,3),(13,2),(18,1)]⟩,
 ⟨#[true,true,true,false,false,true,true,true,false,false,true,true,true,false,false,true,true,true,true,false,false,false,false,false],7,[(3,8),(8,6),(13,5)]⟩,
 ⟨#[true,true,true,false,false,true,true,true,false,false,true,true,true,true,false,true,true,true,false,false,false,false,false,false],7,[(3,9),(8,7),(18,5)]⟩,
 ⟨#[true,true,true,false,false,true,true,true,true,false,true,true,true,false,false,true,true,true,false,false,false,false,false,false],7,[(3,10),(13,7),(18,6)]⟩,
 ⟨#[true,true,true,true,false,true,true,true,false,false,true,true,true,false,false,true,true,true,false,false,false,false,false,false],7,[(4,11),(8,10),(13,9),(18,8)]⟩,
 ⟨#[true,true,true,false,false,true,true,true,false,false,true,true,true,true,false,true,true,true,true,false,false,false,false,false],6,[(3,13),(8,12)]⟩,
 ⟨#[true,true,true,false,false,true,true,true,true,false,true,true,true,false,false,true,true,true,true,false,false,false,false,false],6,[(3,14),(13,12)]⟩,
 ⟨#[true,true,true,false,false,true,true,true,true,false,true,true,true,true,false,true,true,true,false,false,false,false,false,false],6,[(3,15),(18,12)]⟩,
 ⟨#[true,true,true,true,false,true,true,true,false,false,true,true,true,false,false,true,true,true,true,false,false,false,false,false],6,[(4,16),(8,14),(13,13)]⟩,
 ⟨#[true,true,true,true,false,true,true,true,false,false,true,true,true,true,false,true,true,true,false,false,false,false,false,false],6,[(4,17),(8,15),(18,13)]⟩,
 ⟨#[true,true,true,true,false,true,true,true,true,false,true,true,true,false,false,true,true,true,false,false,false,false,false,false],6,[(4,18),(13,15),(18,14)]⟩,
 ⟨#[true,true,true,true,true,true,true,true,false,false,true,true,true,false,false,true,true,true,false,false,false,false,false,false],6,[(8,18),(13,17),(18,16)]⟩,
 ⟨#[true,true,true,false,false,true,true,true,true,false,true,true,true,true,false,true,true,true,true,false,false,false,false,false],5,[(3,19)]⟩,
 ⟨#[true,true,true,true,false,true,true,true,false,false,true,true,true,true,false,true,true,true,true,false,false,false,false,false],5,[(4,20),(8,19)]⟩,
 ⟨#[true,true,true,true,false,true,true,true,true,false,true,true,true,false,false,true,true,true,true,false,false,false,false,false],5,[(4,21),(13,19)]⟩,
 ⟨#[true,true,true,true,false,true,true,true,true,false,true,true,true,true,false,true,true,true,false,false,false,false,false,false],5,[(4,22),(18,19)]⟩,
 ⟨#[true,true,true,true,true,true,true,true,false,false,true,true,true,false,false,true,true,true,true,false,false,false,false,false],5,[(8,21),(13,20)]⟩,
 ⟨#[true,true,true,true,true,true,true,true,false,false,true,true,true,true,false,true,true,true,false,false,false,false,false,false],5,[(8,22),(18,20)]⟩,
 ⟨#[true,true,true,true,true,true,true,true,true,false,true,true,true,false,false,true,true,true,false,false,false,false,false,false],5,[(9,23),(13,22),(18,21)]⟩,
 ⟨#[true,true,true,true,false,true,true,true,true,false,true,true,true,true,false,true,true,true,true,false,false,false,false,false],4,[(4,24)]⟩,
 ⟨#[true,true,true,true,true,true,true,true,false,false,true,true,true,true,false,true,true,true,true,false,false,false,false,false],4,[(8,24)]⟩,
 ⟨#[true,true,true,true,true,true,true,true,true,false,true,true,true,false,false,true,true,true,true,false,false,false,false,false],4,[(9,25),(13,24)]⟩,
 ⟨#[true,true,true,true,true,true,true,true,true,false,true,true,true,true,false,true,true,true,false,false,false,false,false,false],4,[(9,26),(18,24)]⟩,
 ⟨#[true,true,true,true,true,true,true,true,true,true,true,true,true,false,false,true,true,true,false,false,false,false,false,false],4,[(13,26),(18,25)]⟩,
 ⟨#[true,true,true,true,true,true,true,true,true,false,true,true,true,true,false,true,true,true,true,false,false,false,false,false],3,[(9,27)]⟩,
 ⟨#[true,true,true,true,true,true,true,true,true,true,true,true,true,false,false,true,true,true,true,false,false,false,false,false],3,[(13,27)]⟩,
 ⟨#[true,true,true,true,true,true,true,true,true,true,true,true,true,true,false,true,true,true,false,false,false,false,false,false],3,[(14,28),(18,27)]⟩,
 ⟨#[true,true,true,true,true,true,true,true,true,true,true,true,true,true,false,true,true,true,true,false,false,false,false,false],2,[(14,29)]⟩,
 ⟨#[true,true,true,true,true,true,true,true,true,true,true,true,true,true,true,true,true,true,false,false,false,false,false,false],2,[(18,29)]⟩,
 ⟨#[true,true,true,true,true,true,true,true,true,true,true,true,true,true,true,true,true,true,true,false,false,false,false,false],1,[(19,30)]⟩,
 ⟨#[true,true,true,true,true,true,true,true,true,true,true,true,true,true,true,true,true,true,true,true,false,false,false,false],0,[]⟩]
def st7 (R0 R1 R2 R3:List (List FV))(x0 x1 x2 x3:FV):List (Nat×List (Nat×AV)×lM):= [ne 19 [ng 26 0,nx 28 x0,ng 31 1,nx 33 x1,ng 36 2,nx 38 x2,ng 41 3,nx 43 x3] [nr 0 9 R0,nr 1 9 R1,nr 2 9 R2,nr 3 9 R3],
 ne 19 [ng 44 17,ng 26 0,nx 28 x0,ng 31 1,nx 33 x1,ng 36 2,nx 38 x2,ng 41 3,nx 43 x3] [nr 0 9 R0,nr 1 9 R1,nr 2 9 R2,nr 3 9 R3,no 17 9 x3],
 ne 19 [ng 39 15,ng 26 0,nx 28 x0,ng 31 1,nx 33 x1,ng 36 2,nx 38 x2,ng 41 3,nx 43 x3] [nr 0 9 R0,nr 1 9 R1,nr 2 9 R2,no 15 9 x2,nr 3 9 R3],
 ne 19 [ng 34 13,ng 26 0,nx 28 x0,ng 31 1,nx 33 x1,ng 36 2,nx 38 x2,ng 41 3,nx 43 x3] [nr 0 9 R0,nr 1 9 R1,no 13 9 x1,nr 2 9 R2,nr 3 9 R3],
 ne 19 [ng 29 11,ng 26 0,nx 28 x0,ng 31 1,nx 33 x1,ng 36 2,nx 38 x2,ng 41 3,nx 43 x3] [nr 0 9 R0,no 11 9 x0,nr 1 9 R1,nr 2 9 R2,nr 3 9 R3],
 ne 19 [ng 39 15,ng 44 17,ng 26 0,nx 28 x0,ng 31 1,nx 33 x1,ng 36 2,nx 38 x2,ng 41 3,nx 43 x3] [nr 0 9 R0,nr 1 9 R1,nr 2 9 R2,no 15 9 x2,nr 3 9 R3,no 17 9 x3],
 ne 19 [ng 34 13,ng 44 17,ng 26 0,nx 28 x0,ng 31 1,nx 33 x1,ng 36 2,nx 38 x2,ng 41 3,nx 43 x3] [nr 0 9 R0,nr 1 9 R1,no 13 9 x1,nr 2 9 R2,nr 3 9 R3,no 17 9 x3],
 ne 19 [ng 34 13,ng 39 15,ng 26 0,nx 28 x0,ng 31 1,nx 33 x1,ng 36 2,nx 38 x2,ng 41 3,nx 43 x3] [nr 0 9 R0,nr 1 9 R1,no 13 9 x1,nr 2 9 R2,no 15 9 x2,nr 3 9 R3],
 ne 19 [ng 29 11,ng 44 17,ng 26 0,nx 28 x0,ng 31 1,nx 33 x1,ng 36 2,nx 38 x2,ng 41 3,nx 43 x3] [nr 0 9 R0,no 11 9 x0,nr 1 9 R1,nr 2 9 R2,nr 3 9 R3,no 17 9 x3],
 ne 19 [ng 29 11,ng 39 15,ng 26 0,nx 28 x0,ng 31 1,nx 33 x1,ng 36 2,nx 38 x2,ng 41 3,nx 43 x3] [nr 0 9 R0,no 11 9 x0,nr 1 9 R1,nr 2 9 R2,no 15 9 x2,nr 3 9 R3],
 ne 19 [ng 29 11,ng 34 13,ng 26 0,nx 28 x0,ng 31 1,nx 33 x1,ng 36 2,nx 38 x2,ng 41 3,nx 43 x3] [nr 0 9 R0,no 11 9 x0,nr 1 9 R1,no 13 9 x1,nr 2 9 R2,nr 3 9 R3],
 ne 19 [ng 30 12,ng 26 0,nx 28 x0,ng 31 1,nx 33 x1,ng 36 2,nx 38 x2,ng 41 3,nx 43 x3] [nw 12 9 R0 x0,nr 1 9 R1,nr 2 9 R2,nr 3 9 R3],
 ne 19 [ng 34 13,ng 39 15,ng 44 17,ng 26 0,nx 28 x0,ng 31 1,nx 33 x1,ng 36 2,nx 38 x2,ng 41 3,nx 43 x3] [nr 0 9 R0,nr 1 9 R1,no 13 9 x1,nr 2 9 R2,no 15 9 x2,nr 3 9 R3,no 17 9 x3],
 ne 19 [ng 29 11,ng 39 15,ng 44 17,ng 26 0,nx 28 x0,ng 31 1,nx 33 x1,ng 36 2,nx 38 x2,ng 41 3,nx 43 x3] [nr 0 9 R0,no 11 9 x0,nr 1 9 R1,nr 2 9 R2,no 15 9 x2,nr 3 9 R3,no 17 9 x3],
 ne 19 [ng 29 11,ng 34 13,ng 44 17,ng 26 0,nx 28 x0,ng 31 1,nx 33 x1,ng 36 2,nx 38 x2,ng 41 3,nx 43 x3] [nr 0 9 R0,no 11 9 x0,nr 1 9 R1,no 13 9 x1,nr 2 9 R2,nr 3 9 R3,no 17 9 x3],
 ne 19 [ng 29 11,ng 34 13,ng 39 15,ng 26 0,nx 28 x0,ng 31 1,nx 33 x1,ng 36 2,nx 38 x2,ng 41 3,nx 43 x3] [nr 0 9 R0,no 11 9 x0,nr 1 9 R1,no 13 9 x1,nr 2 9 R2,no 15 9 x2,nr 3 9 R3],
 ne 19 [ng 30 12,ng 44 17,ng 26 0,nx 28 x0,ng 31 1,nx 33 x1,ng 36 2,nx 38 x2,ng 41 3,nx 43 x3] [nw 12 9 R0 x0,nr 1 9 R1,nr 2 9 R2,nr 3 9 R3,no 17 9 x3],
 ne 19 [ng 30 12,ng 39 15,ng 26 0,nx 28 x0,ng 31 1,nx 33 x1,ng 36 2,nx 38 x2,ng 41 3,nx 43 x3] [nw 12 9 R0 x0,nr 1 9 R1,nr 2 9 R2,no 15 9 x2,nr 3 9 R3],
 ne 19 [ng 30 12,ng 34 13,ng 26 0,nx 28 x0,ng 31 1,nx 33 x1,ng 36 2,nx 38 x2,ng 41 3,nx 43 x3] [nw 12 9 R0 x0,nr 1 9 R1,no 13 9 x1,nr 2 9 R2,nr 3 9 R3],
 ne 19 [ng 29 11,ng 34 13,ng 39 15,ng 44 17,ng 26 0,nx 28 x0,ng 31 1,nx 33 x1,ng 36 2,nx 38 x2,ng 41 3,nx 43 x3] [nr 0 9 R0,no 11 9 x0,nr 1 9 R1,no 13 9 x1,nr 2 9 R2,no 15 9 x2,nr 3 9 R3,no 17 9 x3],
 ne 19 [ng 30 12,ng 39 15,ng 44 17,ng 26 0,nx 28 x0,ng 31 1,nx 33 x1,ng 36 2,nx 38 x2,ng 41 3,nx 43 x3] [nw 12 9 R0 x0,nr 1 9 R1,nr 2 9 R2,no 15 9 x2,nr 3 9 R3,no 17 9 x3],
 ne 19 [ng 30 12,ng 34 13,ng 44 17,ng 26 0,nx 28 x0,ng 31 1,nx 33 x1,ng 36 2,nx 38 x2,ng 41 3,nx 43 x3] [nw 12 9 R0 x0,nr 1 9 R1,no 13 9 x1,nr 2 9 R2,nr 3 9 R3,no 17 9 x3],
 ne 19 [ng 30 12,ng 34 13,ng 39 15,ng 26 0,nx 28 x0,ng 31 1,nx 33 x1,ng 36 2,nx 38 x2,ng 41 3,nx 43 x3] [nw 12 9 R0 x0,nr 1 9 R1,no 13 9 x1,nr 2 9 R2,no 15 9 x2,nr 3 9 R3],
 ne 19 [ng 30 12,ng 35 14,ng 26 0,nx 28 x0,ng 31 1,nx 33 x1,ng 36 2,nx 38 x2,ng 41 3,nx 43 x3] [nw 12 9 R0 x0,nw 14 9 R1 x1,nr 2 9 R2,nr 3 9 R3],
 ne 19 [ng 30 12,ng 34 13,ng 39 15,ng 44 17,ng 26 0,nx 28 x0,ng 31 1,nx 33 x1,ng 36 2,nx 38 x2,ng 41 3,nx 43 x3] [nw 12 9 R0 x0,nr 1 9 R1,no 13 9 x1,nr 2 9 R2,no 15 9 x2,nr 3 9 R3,no 17 9 x3],
 ne 19 [ng 30 12,ng 35 14,ng 44 17,ng 26 0,nx 28 x0,ng 31 1,nx 33 x1,ng 36 2,nx 38 x2,ng 41 3,nx 43 x3] [nw 12 9 R0 x0,nw 14 9 R1 x1,nr 2 9 R2,nr 3 9 R3,no 17 9 x3],
 ne 19 [ng 30 12,ng 35 14,ng 39 15,ng 26 0,nx 28 x0,ng 31 1,nx 33 x1,ng 36 2,nx 38 x2,ng 41 3,nx 43 x3] [nw 12 9 R0 x0,nw 14 9 R1 x1,nr 2 9 R2,no 15 9 x2,nr 3 9 R3],
 ne 19 [ng 30 12,ng 35 14,ng 39 15,ng 44 17,ng 26 0,nx 28 x0,ng 31 1,nx 33 x1,ng 36 2,nx 38 x2,ng 41 3,nx 43 x3] [nw 12 9 R0 x0,nw 14 9 R1 x1,nr 2 9 R2,no 15 9 x2,nr 3 9 R3,no 17 9 x3],
 ne 19 [ng 30 12,ng 35 14,ng 40 16,ng 26 0,nx 28 x0,ng 31 1,nx 33 x1,ng 36 2,nx 38 x2,ng 41 3,nx 43 x3] [nw 12 9 R0 x0,nw 14 9 R1 x1,nw 16 9 R2 x2,nr 3 9 R3],
 ne 19 [ng 30 12,ng 35 14,ng 40 16,ng 44 17,ng 26 0,nx 28 x0,ng 31 1,nx 33 x1,ng 36 2,nx 38 x2,ng 41 3,nx 43 x3] [nw 12 9 R0 x0,nw 14 9 R1 x1,nw 16 9 R2 x2,nr 3 9 R3,no 17 9 x3],
 ne 19 [ng 30 12,ng 35 14,ng 40 16,ng 45 18,ng 26 0,nx 28 x0,ng 31 1,nx 33 x1,ng 36 2,nx 38 x2,ng 41 3,nx 43 x3] [nw 12 9 R0 x0,nw 14 9 R1 x1,nw 16 9 R2 x2,nw 18 9 R3 x3]]
def ns8:List Nd:= [⟨#[true,true,true,false,false,true,true,true,false,false,true,true,true,false,false,false,false,false],6,[(3,3),(8,2),(13,1)]⟩,
 ⟨#[true,true,true,false,false,true,true,true,false,false,true,true,true,true,false,false,false,false],5,[(3,5),(8,4)]⟩,
 ⟨#[true,true,true,false,false,true,true,true,true,false,true,true,true,false,false,false,false,false],5,[(3,6),(13,4)]⟩,
 ⟨#[true,true,true,true,false,true,true,true,false,false,true,true,true,false,false,false,false,false],5,[(4,7),(8,6),(13,5)]⟩,
 ⟨#[true,true,true,false,false,true,true,true,true,false,true,true,true,true,false,false,false,false],4,[(3,8)]⟩,
 ⟨#[true,true,true,true,false,true,true,true,false,false,true,true,true,true,false,false,false,false],4,[(4,9),(8,8)]⟩,
 ⟨#[true,true,true,true,false,true,true,true,true,false,true,true,true,false,false,false,false,false],4,[(4,10),(13,8)]⟩,
 ⟨#[true,true,true,true,true,true,true,true,false,false,true,true,true,false,false,false,false,false],4,[(8,10),(13,9)]⟩,
 ⟨#[true,true,true,true,false,true,true,true,true,false,true,true,true,true,false,false,false,false],3,[(4,11)]⟩,
 ⟨#[true,true,true,true,true,true,true,true,false,false,true,true,true,true,false,false,false,false],3,[(8,11)]⟩,
 ⟨#[true,true,true,true,true,true,true,true,true,false,true,true,true,false,false,false,false,false],3,[(9,12),(13,11)]⟩,
 ⟨#[true,true,true,true,true,true,true,true,true,false,true,true,true,true,false,false,false,false],2,[(9,13)]⟩,
 ⟨#[true,true,true,true,true,true,true,true,true,true,true,true,true,false,false,false,false,false],2,[(13,13)]⟩,
 ⟨#[true,true,true,true,true,true,true,true,true,true,true,true,true,true,false,false,false,false],1,[(14,14)]⟩,
 ⟨#[true,true,true,true,true,true,true,true,true,true,true,true,true,true,true,false,false,false],0,[]⟩]
def st8 (R0 R1 R2:List (List FV))(x0 x1 x2:FV):List (Nat×List (Nat×AV)×lM):= [ne 25 [ng 46 4,nx 48 x0,ng 51 5,nx 53 x1,ng 56 6,nx 58 x2] [nr 4 3 R0,nr 5 3 R1,nr 6 3 R2],
 ne 25 [ng 59 23,ng 46 4,nx 48 x0,ng 51 5,nx 53 x1,ng 56 6,nx 58 x2] [nr 4 3 R0,nr 5 3 R1,nr 6 3 R2,no 23 3 x2],
 ne 25 [ng 54 21,ng 46 4,nx 48 x0,ng 51 5,nx 53 x1,ng 56 6,nx 58 x2] [nr 4 3 R0,nr 5 3 R1,no 21 3 x1,nr 6 3 R2],
 ne 25 [ng 49 19,ng 46 4,nx 48 x0,ng 51 5,nx 53 x1,ng 56 6,nx 58 x2] [nr 4 3 R0,no 19 3 x0,nr 5 3 R1,nr 6 3 R2],
 ne 25 [ng 54 21,ng 59 23,ng 46 4,nx 48 x0,ng 51 5,nx 53 x1,ng 56 6,nx 58 x2] [nr 4 3 R0,nr 5 3 R1,no 21 3 x1,nr 6 3 R2,no 23 3 x2],
 ne 25 [ng 49 19,ng 59 23,ng 46 4,nx 48 x0,ng 51 5,nx 53 x1,ng 56 6,nx 58 x2] [nr 4 3 R0,no 19 3 x0,nr 5 3 R1,nr 6 3 R2,no 23 3 x2],
 ne 25 [ng 49 19,ng 54 21,ng 46 4,nx 48 x0,ng 51 5,nx 53 x1,ng 56 6,nx 58 x2] [nr 4 3 R0,no 19 3 x0,nr 5 3 R1,no 21 3 x1,nr 6 3 R2],
 ne 25 [ng 50 20,ng 46 4,nx 48 x0,ng 51 5,nx 53 x1,ng 56 6,nx 58 x2] [nw 20 3 R0 x0,nr 5 3 R1,nr 6 3 R2],
 ne 25 [ng 49 19,ng 54 21,ng 59 23,ng 46 4,nx 48 x0,ng 51 5,nx 53 x1,ng 56 6,nx 58 x2] [nr 4 3 R0,no 19 3 x0,nr 5 3 R1,no 21 3 x1,nr 6 3 R2,no 23 3 x2],
 ne 25 [ng 50 20,ng 59 23,ng 46 4,nx 48 x0,ng 51 5,nx 53 x1,ng 56 6,nx 58 x2] [nw 20 3 R0 x0,nr 5 3 R1,nr 6 3 R2,no 23 3 x2],
 ne 25 [ng 50 20,ng 54 21,ng 46 4,nx 48 x0,ng 51 5,nx 53 x1,ng 56 6,nx 58 x2] [nw 20 3 R0 x0,nr 5 3 R1,no 21 3 x1,nr 6 3 R2],
 ne 25 [ng 50 20,ng 54 21,ng 59 23,ng 46 4,nx 48 x0,ng 51 5,nx 53 x1,ng 56 6,nx 58 x2] [nw 20 3 R0 x0,nr 5 3 R1,no 21 3 x1,nr 6 3 R2,no 23 3 x2],
 ne 25 [ng 50 20,ng 55 22,ng 46 4,nx 48 x0,ng 51 5,nx 53 x1,ng 56 6,nx 58 x2] [nw 20 3 R0 x0,nw 22 3 R1 x1,nr 6 3 R2],
 ne 25 [ng 50 20,ng 55 22,ng 59 23,ng 46 4,nx 48 x0,ng 51 5,nx 53 x1,ng 56 6,nx 58 x2] [nw 20 3 R0 x0,nw 22 3 R1 x1,nr 6 3 R2,no 23 3 x2],
 ne 25 [ng 50 20,ng 55 22,ng 60 24,ng 46 4,nx 48 x0,ng 51 5,nx 53 x1,ng 56 6,nx 58 x2] [nw 20 3 R0 x0,nw 22 3 R1 x1,nw 24 3 R2 x2]]
def ns9:List Nd:= [⟨#[true,true,true,false,false,true,true,true,false,false,true,true,true,false,false,false,false,false],6,[(3,3),(8,2),(13,1)]⟩,
 ⟨#[true,true,true,false,false,true,true,true,false,false,true,true,true,true,false,false,false,false],5,[(3,5),(8,4)]⟩,
 ⟨#[true,true,true,false,false,true,true,true,true,false,true,true,true,false,false,false,false,false],5,[(3,6),(13,4)]⟩,
 ⟨#[true,true,true,true,false,true,true,true,false,false,true,true,true,false,false,false,false,false],5,[(4,7),(8,6),(13,5)]⟩,
 ⟨#[true,true,true,false,false,true,true,true,true,false,true,true,true,true,false,false,false,false],4,[(3,8)]⟩,
 ⟨#[true,true,true,true,false,true,true,true,false,false,true,true,true,true,false,false,false,false],4,[(4,9),(8,8)]⟩,
 ⟨#[true,true,true,true,false,true,true,true,true,false,true,true,true,false,false,false,false,false],4,[(4,10),(13,8)]⟩,
 ⟨#[true,true,true,true,true,true,true,true,false,false,true,true,true,false,false,false,false,false],4,[(8,10),(13,9)]⟩,
 ⟨#[true,true,true,true,false,true,true,true,true,false,true,true,true,true,false,false,false,false],3,[(4,11)]⟩,
 ⟨#[true,true,true,true,true,true,true,true,false,false,true,true,true,true,false,false,false,false],3,[(8,11)]⟩,
 ⟨#[true,true,true,true,true,true,true,true,true,false,true,true,true,false,false,false,false,false],3,[(9,12),(13,11)]⟩,
 ⟨#[true,true,true,true,true,true,true,true,true,false,true,true,true,true,false,false,false,false],2,[(9,13)]⟩,
 ⟨#[true,true,true,true,true,true,true,true,true,true,true,true,true,false,false,false,false,false],2,[(13,13)]⟩,
 ⟨#[true,true,true,true,true,true,true,true,true,true,true,true,true,true,false,false,false,false],1,[(14,14)]⟩,
 ⟨#[true,true,true,true,true,true,true,true,true,true,true,true,true,true,true,false,false,false],0,[]⟩]
def st9 (R0 R1 R2:List (List FV))(x0 x1 x2:FV):List (Nat×List (Nat×AV)×lM):= [ne 31 [ng 61 7,nx 63 x0,ng 66 8,nx 68 x1,ng 71 9,nx 73 x2] [nr 7 3 R0,nr 8 3 R1,nr 9 3 R2],
 ne 31 [ng 74 29,ng 61 7,nx 63 x0,ng 66 8,nx 68 x1,ng 71 9,nx 73 x2] [nr 7 3 R0,nr 8 3 R1,nr 9 3 R2,no 29 3 x2],
 ne 31 [ng 69 27,ng 61 7,nx 63 x0,ng 66 8,nx 68 x1,ng 71 9,nx 73 x2] [nr 7 3 R0,nr 8 3 R1,no 27 3 x1,nr 9 3 R2],
 ne 31 [ng 64 25,ng 61 7,nx 63 x0,ng 66 8,nx 68 x1,ng 71 9,nx 73 x2] [nr 7 3 R0,no 25 3 x0,nr 8 3 R1,nr 9 3 R2],
 ne 31 [ng 69 27,ng 74 29,ng 61 7,nx 63 x0,ng 66 8,nx 68 x1,ng 71 9,nx 73 x2] [nr 7 3 R0,nr 8 3 R1,no 27 3 x1,nr 9 3 R2,no 29 3 x2],
 ne 31 [ng 64 25,ng 74 29,ng 61 7,nx 63 x0,ng 66 8,nx 68 x1,ng 71 9,nx 73 x2] [nr 7 3 R0,no 25 3 x0,nr 8 3 R1,nr 9 3 R2,no 29 3 x2],
 ne 31 [ng 64 25,ng 69 27,ng 61 7,nx 63 x0,ng 66 8,nx 68 x1,ng 71 9,nx 73 x2] [nr 7 3 R0,no 25 3 x0,nr 8 3 R1,no 27 3 x1,nr 9 3 R2],
 ne 31 [ng 65 26,ng 61 7,nx 63 x0,ng 66 8,nx 68 x1,ng 71 9,nx 73 x2] [nw 26 3 R0 x0,nr 8 3 R1,nr 9 3 R2],
 ne 31 [ng 64 25,ng 69 27,ng 74 29,ng 61 7,nx 63 x0,ng 66 8,nx 68 x1,ng 71 9,nx 73 x2] [nr 7 3 R0,no 25 3 x0,nr 8 3 R1,no 27 3 x1,nr 9 3 R2,no 29 3 x2],
 ne 31 [ng 65 26,ng 74 29,ng 61 7,nx 63 x0,ng 66 8,nx 68 x1,ng 71 9,nx 73 x2] [nw 26 3 R0 x0,nr 8 3 R1,nr 9 3 R2,no 29 3 x2],
 ne 31 [ng 65 26,ng 69 27,ng 61 7,nx 63 x0,ng 66 8,nx 68 x1,ng 71 9,nx 73 x2] [nw 26 3 R0 x0,nr 8 3 R1,no 27 3 x1,nr 9 3 R2],
 ne 31 [ng 65 26,ng 69 27,ng 74 29,ng 61 7,nx 63 x0,ng 66 8,nx 68 x1,ng 71 9,nx 73 x2] [nw 26 3 R0 x0,nr 8 3 R1,no 27 3 x1,nr 9 3 R2,no 29 3 x2],
 ne 31 [ng 65 26,ng 70 28,ng 61 7,nx 63 x0,ng 66 8,nx 68 x1,ng 71 9,nx 73 x2] [nw 26 3 R0 x0,nw 28 3 R1 x1,nr 9 3 R2],
 ne 31 [ng 65 26,ng 70 28,ng 74 29,ng 61 7,nx 63 x0,ng 66 8,nx 68 x1,ng 71 9,nx 73 x2] [nw 26 3 R0 x0,nw 28 3 R1 x1,nr 9 3 R2,no 29 3 x2],
 ne 31 [ng 65 26,ng 70 28,ng 75 30,ng 61 7,nx 63 x0,ng 66 8,nx 68 x1,ng 71 9,nx 73 x2] [nw 26 3 R0 x0,nw 28 3 R1 x1,nw 30 3 R2 x2]]
theorem ahY {α:Type}(l:List Ev)(f:Ev->α)(en:α->List FV){k:Nat}(h:k<l.length):((l.take (k+1)).map f).map en=((l.take k).map f).map en++ [en (f l[k])]:=by
 rw [aG h,aJ,aJ];rfl
theorem WT (l:List Ev)(h:U6 l):mQ Tryz.prog GS 99 [el l] 0 [] (sW 5 1 ((xQ l).map oh)):=by
 have hl:=h.len
 refine lQ func99 rfl mixed (by kernel_rfl) ?_
 refine mO agI 10 [3,4,5,6,7,8,9,10,11,12,13] (fun k:Nat=> [(3, .own 0),(4, .own 1),(5, .own 2),(6, .own 3),(7, .own 4),(8, .own 5),(9, .own 6),(10, .own 7),(11, .own 8),(12, .own 9),(13,iv k)]) (fun k=> [(0, .rows 9 1 (((l.take k).map (·.client)).map wC)),(1, .rows 9 1 (((l.take k).map (·.id)).map wC)),(2, .rows 9 1 (((l.take k).map (·.name)).map wC)),(3, .rows 9 1 (((l.take k).map (·.other)).map wC)),(4, .rows 3 1 (((l.take k).map (·.seq)).map qX)),(5, .rows 3 1 (((l.take k).map (·.kind)).map qX)),(6, .rows 3 1 (((l.take k).map (·.time)).map qX)),(7, .rows 3 1 (((l.take k).map (·.ver)).map qX)),(8, .rows 3 1 (((l.take k).map (·.arm)).map qX)),(9, .rows 3 1 (((l.take k).map (·.val)).map qX))]) (fun k=>k<=l.length) (fun k=>l.length-k) [(0, .nil),(1, .nil),(2, .nil),(3, .nil),(4, .nil),(5, .nil),(6, .nil),(7, .nil),(8, .nil),(9, .nil)] [] 0 (by kernel_rfl) (fun _=>rfl) rfl (au _) (by trivial) (by trivial) ?_
 rintro k hk
 refine lK (fun hlt=> ?_) (fun hge=> ?_)
 ·have hlt:k<l.length:=by simpa using hlt
  refine mZ.mk' k rfl (pU hlt) ?_
  refine mD.map hlt ?_
  conv=>whnf
  have sn:=fun {α:Type} (f:Ev->α) (en:α->List FV)=>ahY l f en hlt
  generalize l[k]=e at sn ⊢
  refine af0 [0,1,2,5,6,7,10,11,12,15,16,17,20,21,22,23] [0,1,2,5,6,7,10,11,12,15,16,17] ns7 (tk [20,21,22,23] .done) 4 [0,1,2,3] [(3,6),(26,45)] (st7 (((l.take k).map (·.client)).map wC) (((l.take k).map (·.id)).map wC) (((l.take k).map (·.name)).map wC) (((l.take k).map (·.other)).map wC) (sF e.client) (sF e.id) (sF e.name) (sF e.other)) (by kernel_rfl) (by kernel_rfl) ?_ ?_ ?_
  ·refine nH [] [] ?_ ?_ ?_;(focus rfl);(focus trivial);(focus trivial);done
  ·refine⟨⟨?_, ?_, ?_, ?_,trivial⟩,⟨?_, ?_, ?_,trivial⟩,⟨?_, ?_, ?_,trivial⟩,⟨?_, ?_, ?_,trivial⟩,⟨?_, ?_, ?_, ?_,trivial⟩,⟨?_, ?_,trivial⟩,⟨?_, ?_,trivial⟩,⟨?_, ?_,trivial⟩,⟨?_, ?_, ?_,trivial⟩,⟨?_, ?_, ?_,trivial⟩,⟨?_, ?_, ?_,trivial⟩,⟨?_, ?_, ?_,trivial⟩,⟨?_,trivial⟩,⟨?_, ?_,trivial⟩,⟨?_, ?_,trivial⟩,⟨?_, ?_,trivial⟩,⟨?_, ?_,trivial⟩,⟨?_, ?_,trivial⟩,⟨?_, ?_, ?_,trivial⟩,⟨?_,trivial⟩,⟨?_,trivial⟩,⟨?_, ?_,trivial⟩,⟨?_, ?_,trivial⟩,⟨?_, ?_,trivial⟩,⟨?_,trivial⟩,⟨?_,trivial⟩,⟨?_, ?_,trivial⟩,⟨?_,trivial⟩,⟨?_,trivial⟩,⟨?_,trivial⟩,trivial,trivial⟩
   ·refine nH [(11, .lab 19)] [] ?_ ?_ ?_;(focus rfl);(focus trivial);(focus trivial);done
   ·refine nH [(13, .lab 19)] [] ?_ ?_ ?_;(focus rfl);(focus trivial);(focus trivial);done
   ·refine nH [(15, .lab 19)] [] ?_ ?_ ?_;(focus rfl);(focus trivial);(focus trivial);done
   ·refine nH [(17, .lab 19)] [] ?_ ?_ ?_;(focus rfl);(focus trivial);(focus trivial);done
   ·refine nH [(11, .lab 19),(17, .lab 17)] [] ?_ ?_ ?_;(focus rfl);(focus trivial);(focus trivial);done
   ·refine nH [(13, .lab 19),(17, .lab 17)] [] ?_ ?_ ?_;(focus rfl);(focus trivial);(focus trivial);done
   ·refine nH [(15, .lab 19),(17, .lab 17)] [] ?_ ?_ ?_;(focus rfl);(focus trivial);(focus trivial);done
   ·refine nH [(11, .lab 19),(15, .lab 15)] [] ?_ ?_ ?_;(focus rfl);(focus trivial);(focus trivial);done
   ·refine nH [(13, .lab 19),(15, .lab 15)] [] ?_ ?_ ?_;(focus rfl);(focus trivial);(focus trivial);done
   ·refine nH [(15, .lab 15),(17, .lab 19)] [] ?_ ?_ ?_;(focus rfl);(focus trivial);(focus trivial);done
   ·refine nH [(11, .lab 19),(13, .lab 13)] [] ?_ ?_ ?_;(focus rfl);(focus trivial);(focus trivial);done
   ·refine nH [(13, .lab 13),(15, .lab 19)] [] ?_ ?_ ?_;(focus rfl);(focus trivial);(focus trivial);done
   ·refine nH [(13, .lab 13),(17, .lab 19)] [] ?_ ?_ ?_;(focus rfl);(focus trivial);(focus trivial);done
   ·refine lN.mk (lS (by simp only [ln];omega) (by kernel_rfl)) ?_
    refine nH [(12, .lab 19)] [] ?_ ?_ ?_;(focus rfl);(focus trivial);(focus trivial);done
   ·refine nH [(11, .lab 11),(13, .lab 19)] [] ?_ ?_ ?_;(focus rfl);(focus trivial);(focus trivial);done
   ·refine nH [(11, .lab 11),(15, .lab 19)] [] ?_ ?_ ?_;(focus rfl);(focus trivial);(focus trivial);done
   ·refine nH [(11, .lab 11),(17, .lab 19)] [] ?_ ?_ ?_;(focus rfl);(focus trivial);(focus trivial);done
   ·refine nH [(11, .lab 19),(15, .lab 15),(17, .lab 17)] [] ?_ ?_ ?_;(focus rfl);(focus trivial);(focus trivial);done
   ·refine nH [(13, .lab 19),(15, .lab 15),(17, .lab 17)] [] ?_ ?_ ?_;(focus rfl);(focus trivial);(focus trivial);done
   ·refine nH [(11, .lab 19),(13, .lab 13),(17, .lab 17)] [] ?_ ?_ ?_;(focus rfl);(focus trivial);(focus trivial);done
   ·refine nH [(13, .lab 13),(15, .lab 19),(17, .lab 17)] [] ?_ ?_ ?_;(focus rfl);(focus trivial);(focus trivial);done
   ·refine nH [(11, .lab 19),(13, .lab 13),(15, .lab 15)] [] ?_ ?_ ?_;(focus rfl);(focus trivial);(focus trivial);done
   ·refine nH [(13, .lab 13),(15, .lab 15),(17, .lab 19)] [] ?_ ?_ ?_;(focus rfl);(focus trivial);(focus trivial);done
   ·refine lN.mk (lS (by simp only [ln];omega) (by kernel_rfl)) ?_
    refine nH [(12, .lab 19),(17, .lab 17)] [] ?_ ?_ ?_;(focus rfl);(focus trivial);(focus trivial);done
   ·refine nH [(11, .lab 11),(13, .lab 19),(17, .lab 17)] [] ?_ ?_ ?_;(focus rfl);(focus trivial);(focus trivial);done
   ·refine nH [(11, .lab 11),(15, .lab 19),(17, .lab 17)] [] ?_ ?_ ?_;(focus rfl);(focus trivial);(focus trivial);done
   ·refine lN.mk (lS (by simp only [ln];omega) (by kernel_rfl)) ?_
    refine nH [(12, .lab 19),(15, .lab 15)] [] ?_ ?_ ?_;(focus rfl);(focus trivial);(focus trivial);done
   ·refine nH [(11, .lab 11),(13, .lab 19),(15, .lab 15)] [] ?_ ?_ ?_;(focus rfl);(focus trivial);(focus trivial);done
   ·refine nH [(11, .lab 11),(15, .lab 15),(17, .lab 19)] [] ?_ ?_ ?_;(focus rfl);(focus trivial);(focus trivial);done
   ·refine lN.mk (lS (by simp only [ln];omega) (by kernel_rfl)) ?_
    refine nH [(12, .lab 19),(13, .lab 13)] [] ?_ ?_ ?_;(focus rfl);(focus trivial);(focus trivial);done
   ·refine nH [(11, .lab 11),(13, .lab 13),(15, .lab 19)] [] ?_ ?_ ?_;(focus rfl);(focus trivial);(focus trivial);done
   ·refine nH [(11, .lab 11),(13, .lab 13),(17, .lab 19)] [] ?_ ?_ ?_;(focus rfl);(focus trivial);(focus trivial);done
   ·refine nH [(12, .lab 12),(13, .lab 19)] [] ?_ ?_ ?_;(focus rfl);(focus trivial);(focus trivial);done
   ·refine nH [(12, .lab 12),(15, .lab 19)] [] ?_ ?_ ?_;(focus rfl);(focus trivial);(focus trivial);done
   ·refine nH [(12, .lab 12),(17, .lab 19)] [] ?_ ?_ ?_;(focus rfl);(focus trivial);(focus trivial);done
   ·refine nH [(11, .lab 19),(13, .lab 13),(15, .lab 15),(17, .lab 17)] [] ?_ ?_ ?_;(focus rfl);(focus trivial);(focus trivial);done
   ·refine lN.mk (lS (by simp only [ln];omega) (by kernel_rfl)) ?_
    refine nH [(12, .lab 19),(15, .lab 15),(17, .lab 17)] [] ?_ ?_ ?_;(focus rfl);(focus trivial);(focus trivial);done
   ·refine nH [(11, .lab 11),(13, .lab 19),(15, .lab 15),(17, .lab 17)] [] ?_ ?_ ?_;(focus rfl);(focus trivial);(focus trivial);done
   ·refine lN.mk (lS (by simp only [ln];omega) (by kernel_rfl)) ?_
    refine nH [(12, .lab 19),(13, .lab 13),(17, .lab 17)] [] ?_ ?_ ?_;(focus rfl);(focus trivial);(focus trivial);done
   ·refine nH [(11, .lab 11),(13, .lab 13),(15, .lab 19),(17, .lab 17)] [] ?_ ?_ ?_;(focus rfl);(focus trivial);(focus trivial);done
   ·refine lN.mk (lS (by simp only [ln];omega) (by kernel_rfl)) ?_
    refine nH [(12, .lab 19),(13, .lab 13),(15, .lab 15)] [] ?_ ?_ ?_;(focus rfl);(focus trivial);(focus trivial);done
   ·refine nH [(11, .lab 11),(13, .lab 13),(15, .lab 15),(17, .lab 19)] [] ?_ ?_ ?_;(focus rfl);(focus trivial);(focus trivial);done
   ·refine nH [(12, .lab 12),(13, .lab 19),(17, .lab 17)] [] ?_ ?_ ?_;(focus rfl);(focus trivial);(focus trivial);done
   ·refine nH [(12, .lab 12),(15, .lab 19),(17, .lab 17)] [] ?_ ?_ ?_;(focus rfl);(focus trivial);(focus trivial);done
   ·refine nH [(12, .lab 12),(13, .lab 19),(15, .lab 15)] [] ?_ ?_ ?_;(focus rfl);(focus trivial);(focus trivial);done
   ·refine nH [(12, .lab 12),(15, .lab 15),(17, .lab 19)] [] ?_ ?_ ?_;(focus rfl);(focus trivial);(focus trivial);done
   ·refine lN.mk (lS (by simp only [ln];omega) (by kernel_rfl)) ?_
    refine nH [(12, .lab 12),(14, .lab 19)] [] ?_ ?_ ?_;(focus rfl);(focus trivial);(focus trivial);done
   ·refine nH [(12, .lab 12),(13, .lab 13),(15, .lab 19)] [] ?_ ?_ ?_;(focus rfl);(focus trivial);(focus trivial);done
   ·refine nH [(12, .lab 12),(13, .lab 13),(17, .lab 19)] [] ?_ ?_ ?_;(focus rfl);(focus trivial);(focus trivial);done
   ·refine lN.mk (lS (by simp only [ln];omega) (by kernel_rfl)) ?_
    refine nH [(12, .lab 19),(13, .lab 13),(15, .lab 15),(17, .lab 17)] [] ?_ ?_ ?_;(focus rfl);(focus trivial);(focus trivial);done
   ·refine nH [(12, .lab 12),(13, .lab 19),(15, .lab 15),(17, .lab 17)] [] ?_ ?_ ?_;(focus rfl);(focus trivial);(focus trivial);done
   ·refine lN.mk (lS (by simp only [ln];omega) (by kernel_rfl)) ?_
    refine nH [(12, .lab 12),(14, .lab 19),(17, .lab 17)] [] ?_ ?_ ?_;(focus rfl);(focus trivial);(focus trivial);done
   ·refine nH [(12, .lab 12),(13, .lab 13),(15, .lab 19),(17, .lab 17)] [] ?_ ?_ ?_;(focus rfl);(focus trivial);(focus trivial);done
   ·refine lN.mk (lS (by simp only [ln];omega) (by kernel_rfl)) ?_
    refine nH [(12, .lab 12),(14, .lab 19),(15, .lab 15)] [] ?_ ?_ ?_;(focus rfl);(focus trivial);(focus trivial);done
   ·refine nH [(12, .lab 12),(13, .lab 13),(15, .lab 15),(17, .lab 19)] [] ?_ ?_ ?_;(focus rfl);(focus trivial);(focus trivial);done
   ·refine nH [(12, .lab 12),(14, .lab 14),(15, .lab 19)] [] ?_ ?_ ?_;(focus rfl);(focus trivial);(focus trivial);done
   ·refine nH [(12, .lab 12),(14, .lab 14),(17, .lab 19)] [] ?_ ?_ ?_;(focus rfl);(focus trivial);(focus trivial);done
   ·refine lN.mk (lS (by simp only [ln];omega) (by kernel_rfl)) ?_
    refine nH [(12, .lab 12),(14, .lab 19),(15, .lab 15),(17, .lab 17)] [] ?_ ?_ ?_;(focus rfl);(focus trivial);(focus trivial);done
   ·refine nH [(12, .lab 12),(14, .lab 14),(15, .lab 19),(17, .lab 17)] [] ?_ ?_ ?_;(focus rfl);(focus trivial);(focus trivial);done
   ·refine lN.mk (lS (by simp only [ln];omega) (by kernel_rfl)) ?_
    refine nH [(12, .lab 12),(14, .lab 14),(16, .lab 19)] [] ?_ ?_ ?_;(focus rfl);(focus trivial);(focus trivial);done
   ·refine nH [(12, .lab 12),(14, .lab 14),(15, .lab 15),(17, .lab 19)] [] ?_ ?_ ?_;(focus rfl);(focus trivial);(focus trivial);done
   ·refine lN.mk (lS (by simp only [ln];omega) (by kernel_rfl)) ?_
    refine nH [(12, .lab 12),(14, .lab 14),(16, .lab 19),(17, .lab 17)] [] ?_ ?_ ?_;(focus rfl);(focus trivial);(focus trivial);done
   ·refine nH [(12, .lab 12),(14, .lab 14),(16, .lab 16),(17, .lab 19)] [] ?_ ?_ ?_;(focus rfl);(focus trivial);(focus trivial);done
   ·refine lN.mk (lS (by simp only [ln];omega) (by kernel_rfl)) ?_
    refine nH [(12, .lab 12),(14, .lab 14),(16, .lab 16),(18, .lab 19)] [] ?_ ?_ ?_;(focus rfl);(focus trivial);(focus trivial);done
  refine⟨trivial,trivial,trivial,trivial,trivial,trivial,trivial,trivial,trivial,trivial,trivial,trivial,trivial,trivial,trivial,trivial,trivial,trivial,trivial,trivial,trivial,trivial,trivial,trivial,trivial,trivial,trivial,trivial,trivial,trivial, ?_,trivial⟩
  refine af0 [0,1,2,5,6,7,10,11,12,15,16,17] [0,1,2,5,6,7,10,11,12] ns8 (tk [15,16,17] .done) 3 [4,5,6] [(7,9),(46,60)] (st8 (((l.take k).map (·.seq)).map qX) (((l.take k).map (·.kind)).map qX) (((l.take k).map (·.time)).map qX) (iF e.seq) (iF e.kind) (iF e.time)) (by kernel_rfl) (by kernel_rfl) ?_ ?_ ?_
  ·refine nH [] [] ?_ ?_ ?_;(focus rfl);(focus trivial);(focus trivial);done
  ·refine⟨⟨?_, ?_, ?_,trivial⟩,⟨?_, ?_,trivial⟩,⟨?_, ?_,trivial⟩,⟨?_, ?_, ?_,trivial⟩,⟨?_,trivial⟩,⟨?_, ?_,trivial⟩,⟨?_, ?_,trivial⟩,⟨?_, ?_,trivial⟩,⟨?_,trivial⟩,⟨?_,trivial⟩,⟨?_, ?_,trivial⟩,⟨?_,trivial⟩,⟨?_,trivial⟩,⟨?_,trivial⟩,trivial,trivial⟩
   ·refine nH [(19, .lab 25)] [] ?_ ?_ ?_;(focus rfl);(focus trivial);(focus trivial);done
   ·refine nH [(21, .lab 25)] [] ?_ ?_ ?_;(focus rfl);(focus trivial);(focus trivial);done
   ·refine nH [(23, .lab 25)] [] ?_ ?_ ?_;(focus rfl);(focus trivial);(focus trivial);done
   ·refine nH [(19, .lab 25),(23, .lab 23)] [] ?_ ?_ ?_;(focus rfl);(focus trivial);(focus trivial);done
   ·refine nH [(21, .lab 25),(23, .lab 23)] [] ?_ ?_ ?_;(focus rfl);(focus trivial);(focus trivial);done
   ·refine nH [(19, .lab 25),(21, .lab 21)] [] ?_ ?_ ?_;(focus rfl);(focus trivial);(focus trivial);done
   ·refine nH [(21, .lab 21),(23, .lab 25)] [] ?_ ?_ ?_;(focus rfl);(focus trivial);(focus trivial);done
   ·refine lN.mk (lS (by simp only [ln];omega) (by kernel_rfl)) ?_
    refine nH [(20, .lab 25)] [] ?_ ?_ ?_;(focus rfl);(focus trivial);(focus trivial);done
   ·refine nH [(19, .lab 19),(21, .lab 25)] [] ?_ ?_ ?_;(focus rfl);(focus trivial);(focus trivial);done
   ·refine nH [(19, .lab 19),(23, .lab 25)] [] ?_ ?_ ?_;(focus rfl);(focus trivial);(focus trivial);done
   ·refine nH [(19, .lab 25),(21, .lab 21),(23, .lab 23)] [] ?_ ?_ ?_;(focus rfl);(focus trivial);(focus trivial);done
   ·refine lN.mk (lS (by simp only [ln];omega) (by kernel_rfl)) ?_
    refine nH [(20, .lab 25),(23, .lab 23)] [] ?_ ?_ ?_;(focus rfl);(focus trivial);(focus trivial);done
   ·refine nH [(19, .lab 19),(21, .lab 25),(23, .lab 23)] [] ?_ ?_ ?_;(focus rfl);(focus trivial);(focus trivial);done
   ·refine lN.mk (lS (by simp only [ln];omega) (by kernel_rfl)) ?_
    refine nH [(20, .lab 25),(21, .lab 21)] [] ?_ ?_ ?_;(focus rfl);(focus trivial);(focus trivial);done
   ·refine nH [(19, .lab 19),(21, .lab 21),(23, .lab 25)] [] ?_ ?_ ?_;(focus rfl);(focus trivial);(focus trivial);done
   ·refine nH [(20, .lab 20),(21, .lab 25)] [] ?_ ?_ ?_;(focus rfl);(focus trivial);(focus trivial);done
   ·refine nH [(20, .lab 20),(23, .lab 25)] [] ?_ ?_ ?_;(focus rfl);(focus trivial);(focus trivial);done
   ·refine lN.mk (lS (by simp only [ln];omega) (by kernel_rfl)) ?_
    refine nH [(20, .lab 25),(21, .lab 21),(23, .lab 23)] [] ?_ ?_ ?_;(focus rfl);(focus trivial);(focus trivial);done
   ·refine nH [(20, .lab 20),(21, .lab 25),(23, .lab 23)] [] ?_ ?_ ?_;(focus rfl);(focus trivial);(focus trivial);done
   ·refine lN.mk (lS (by simp only [ln];omega) (by kernel_rfl)) ?_
    refine nH [(20, .lab 20),(22, .lab 25)] [] ?_ ?_ ?_;(focus rfl);(focus trivial);(focus trivial);done
   ·refine nH [(20, .lab 20),(21, .lab 21),(23, .lab 25)] [] ?_ ?_ ?_;(focus rfl);(focus trivial);(focus trivial);done
   ·refine lN.mk (lS (by simp only [ln];omega) (by kernel_rfl)) ?_
    refine nH [(20, .lab 20),(22, .lab 25),(23, .lab 23)] [] ?_ ?_ ?_;(focus rfl);(focus trivial);(focus trivial);done
   ·refine nH [(20, .lab 20),(22, .lab 22),(23, .lab 25)] [] ?_ ?_ ?_;(focus rfl);(focus trivial);(focus trivial);done
   ·refine lN.mk (lS (by simp only [ln];omega) (by kernel_rfl)) ?_
    refine nH [(20, .lab 20),(22, .lab 22),(24, .lab 25)] [] ?_ ?_ ?_;(focus rfl);(focus trivial);(focus trivial);done
  refine⟨trivial,trivial,trivial,trivial,trivial,trivial,trivial,trivial,trivial,trivial,trivial,trivial,trivial,trivial, ?_,trivial⟩
  refine af0 [0,1,2,5,6,7,10,11,12,15,16,17] [0,1,2,5,6,7,10,11,12] ns9 (tk [15,16,17] .done) 3 [7,8,9] [(10,12),(61,75)] (st9 (((l.take k).map (·.ver)).map qX) (((l.take k).map (·.arm)).map qX) (((l.take k).map (·.val)).map qX) (iF e.ver) (iF e.arm) (iF e.val)) (by kernel_rfl) (by kernel_rfl) ?_ ?_ ?_
  ·refine nH [] [] ?_ ?_ ?_;(focus rfl);(focus trivial);(focus trivial);done
  ·refine⟨⟨?_, ?_, ?_,trivial⟩,⟨?_, ?_,trivial⟩,⟨?_, ?_,trivial⟩,⟨?_, ?_, ?_,trivial⟩,⟨?_,trivial⟩,⟨?_, ?_,trivial⟩,⟨?_, ?_,trivial⟩,⟨?_, ?_,trivial⟩,⟨?_,trivial⟩,⟨?_,trivial⟩,⟨?_, ?_,trivial⟩,⟨?_,trivial⟩,⟨?_,trivial⟩,⟨?_,trivial⟩,trivial,trivial⟩
   ·refine nH [(25, .lab 31)] [] ?_ ?_ ?_;(focus rfl);(focus trivial);(focus trivial);done
   ·refine nH [(27, .lab 31)] [] ?_ ?_ ?_;(focus rfl);(focus trivial);(focus trivial);done
   ·refine nH [(29, .lab 31)] [] ?_ ?_ ?_;(focus rfl);(focus trivial);(focus trivial);done
   ·refine nH [(25, .lab 31),(29, .lab 29)] [] ?_ ?_ ?_;(focus rfl);(focus trivial);(focus trivial);done
   ·refine nH [(27, .lab 31),(29, .lab 29)] [] ?_ ?_ ?_;(focus rfl);(focus trivial);(focus trivial);done
   ·refine nH [(25, .lab 31),(27, .lab 27)] [] ?_ ?_ ?_;(focus rfl);(focus trivial);(focus trivial);done
   ·refine nH [(27, .lab 27),(29, .lab 31)] [] ?_ ?_ ?_;(focus rfl);(focus trivial);(focus trivial);done
   ·refine lN.mk (lS (by simp only [ln];omega) (by kernel_rfl)) ?_
    refine nH [(26, .lab 31)] [] ?_ ?_ ?_;(focus rfl);(focus trivial);(focus trivial);done
   ·refine nH [(25, .lab 25),(27, .lab 31)] [] ?_ ?_ ?_;(focus rfl);(focus trivial);(focus trivial);done
   ·refine nH [(25, .lab 25),(29, .lab 31)] [] ?_ ?_ ?_;(focus rfl);(focus trivial);(focus trivial);done
   ·refine nH [(25, .lab 31),(27, .lab 27),(29, .lab 29)] [] ?_ ?_ ?_;(focus rfl);(focus trivial);(focus trivial);done
   ·refine lN.mk (lS (by simp only [ln];omega) (by kernel_rfl)) ?_
    refine nH [(26, .lab 31),(29, .lab 29)] [] ?_ ?_ ?_;(focus rfl);(focus trivial);(focus trivial);done
   ·refine nH [(25, .lab 25),(27, .lab 31),(29, .lab 29)] [] ?_ ?_ ?_;(focus rfl);(focus trivial);(focus trivial);done
   ·refine lN.mk (lS (by simp only [ln];omega) (by kernel_rfl)) ?_
    refine nH [(26, .lab 31),(27, .lab 27)] [] ?_ ?_ ?_;(focus rfl);(focus trivial);(focus trivial);done
   ·refine nH [(25, .lab 25),(27, .lab 27),(29, .lab 31)] [] ?_ ?_ ?_;(focus rfl);(focus trivial);(focus trivial);done
   ·refine nH [(26, .lab 26),(27, .lab 31)] [] ?_ ?_ ?_;(focus rfl);(focus trivial);(focus trivial);done
   ·refine nH [(26, .lab 26),(29, .lab 31)] [] ?_ ?_ ?_;(focus rfl);(focus trivial);(focus trivial);done
   ·refine lN.mk (lS (by simp only [ln];omega) (by kernel_rfl)) ?_
    refine nH [(26, .lab 31),(27, .lab 27),(29, .lab 29)] [] ?_ ?_ ?_;(focus rfl);(focus trivial);(focus trivial);done
   ·refine nH [(26, .lab 26),(27, .lab 31),(29, .lab 29)] [] ?_ ?_ ?_;(focus rfl);(focus trivial);(focus trivial);done
   ·refine lN.mk (lS (by simp only [ln];omega) (by kernel_rfl)) ?_
    refine nH [(26, .lab 26),(28, .lab 31)] [] ?_ ?_ ?_;(focus rfl);(focus trivial);(focus trivial);done
   ·refine nH [(26, .lab 26),(27, .lab 27),(29, .lab 31)] [] ?_ ?_ ?_;(focus rfl);(focus trivial);(focus trivial);done
   ·refine lN.mk (lS (by simp only [ln];omega) (by kernel_rfl)) ?_
    refine nH [(26, .lab 26),(28, .lab 31),(29, .lab 29)] [] ?_ ?_ ?_;(focus rfl);(focus trivial);(focus trivial);done
   ·refine nH [(26, .lab 26),(28, .lab 28),(29, .lab 31)] [] ?_ ?_ ?_;(focus rfl);(focus trivial);(focus trivial);done
   ·refine lN.mk (lS (by simp only [ln];omega) (by kernel_rfl)) ?_
    refine nH [(26, .lab 26),(28, .lab 28),(30, .lab 31)] [] ?_ ?_ ?_;(focus rfl);(focus trivial);(focus trivial);done
  refine⟨trivial,trivial,trivial,trivial,trivial,trivial,trivial,trivial,trivial,trivial,trivial,trivial,trivial,trivial, ?_,trivial⟩
  refine lV.i64 (by omega) ?_
  refine lU (k+1) [(0, .lab 12),(1, .lab 14),(2, .lab 16),(3, .lab 18),(4, .lab 20),(5, .lab 22),(6, .lab 24),(7, .lab 26),(8, .lab 28),(9, .lab 30)] [] rfl (by show l.length -(k+1)<l.length-k;omega) hlt ?_ (by trivial)
  simp only [sn]
  exact(by trivial)
 have:k=l.length:=by simp at hge;omega
 subst this
 rw [aW]
 have t1:=tV (l.map (·.client)) (oQ h.s1) (by rw [ah];omega)
 have t2:=tV (l.map (·.id)) (oQ h.s2) (by rw [ah];omega)
 have t3:=tV (l.map (·.name)) (oQ h.s3) (by rw [ah];omega)
 have t4:=tV (l.map (·.other)) (oQ h.s4) (by rw [ah];omega)
 have i1:=nR (l.map (·.seq)) (by rw [ah];omega)
 have i2:=nR (l.map (·.kind)) (by rw [ah];omega)
 have i3:=nR (l.map (·.time)) (by rw [ah];omega)
 have i4:=nR (l.map (·.ver)) (by rw [ah];omega)
 have i5:=nR (l.map (·.arm)) (by rw [ah];omega)
 have i6:=nR (l.map (·.val)) (by rw [ah];omega)
 simp only [ah]at t1 t2 t3 t4
 refine mY [0] (by kernel_rfl) (mQ.up (Vt (l.map (·.client)) (by rw [ah];omega) (oQ h.s1)) GS) (by trivial) ?_
 refine mY [4] (by kernel_rfl) (mQ.up (zX (l.map (·.seq)) (all_map fun e he=>(h.ok e he).seq) (by rw [ah];omega)) GS) (by trivial) ?_
 refine lN.mk (lS (by simp only [ln];omega) (by kernel_rfl)) ?_
 refine mY [5] (by kernel_rfl) (mQ.up (zX (l.map (·.kind)) (all_map fun e he=>(h.ok e he).kind) (by rw [ah];omega)) GS) (by trivial) ?_
 refine lN.mk (lS (by simp only [ln];omega) (by kernel_rfl)) ?_
 refine mY [6] (by kernel_rfl) (mQ.up (zX (l.map (·.time)) (all_map fun e he=>(h.ok e he).time) (by rw [ah];omega)) GS) (by trivial) ?_
 refine lN.mk (lS (by simp only [ln];omega) (by kernel_rfl)) ?_
 refine mY [1] (by kernel_rfl) (mQ.up (G8 (l.map (·.id)) (by rw [ah];omega) (oQ h.s2)) GS) (by trivial) ?_
 refine lN.mk (lS (by simp only [ln];omega) (by kernel_rfl)) ?_
 refine mY [2] (by kernel_rfl) (mQ.up (G8 (l.map (·.name)) (by rw [ah];omega) (oQ h.s3)) GS) (by trivial) ?_
 refine lN.mk (lS (by simp only [ln];omega) (by kernel_rfl)) ?_
 refine mY [3] (by kernel_rfl) (mQ.up (G8 (l.map (·.other)) (by rw [ah];omega) (oQ h.s4)) GS) (by trivial) ?_
 refine lN.mk (lS (by simp only [ln];omega) (by kernel_rfl)) ?_
 refine mY [7] (by kernel_rfl) (mQ.up (zX (l.map (·.ver)) (all_map fun e he=>(h.ok e he).ver) (by rw [ah];omega)) GS) (by trivial) ?_
 refine lN.mk (lS (by simp only [ln];omega) (by kernel_rfl)) ?_
 refine mY [8] (by kernel_rfl) (mQ.up (zX (l.map (·.arm)) (all_map fun e he=>(h.ok e he).arm) (by rw [ah];omega)) GS) (by trivial) ?_
 refine lN.mk (lS (by simp only [ln];omega) (by kernel_rfl)) ?_
 refine mY [9] (by kernel_rfl) (mQ.up (zX (l.map (·.val)) (all_map fun e he=>(h.ok e he).val) (by rw [ah];omega)) GS) (by trivial) ?_
 refine lN.mk (lS (by simp only [ln];omega) (by kernel_rfl)) ?_
 refine lX (.own 0) 1 [(0, .rows 5 1 ((xQ l).map oh))] [(0, .lab 19)] [] ⟨rfl,rfl,rfl⟩ rfl ⟨⟨rfl,rfl, ?_⟩,trivial⟩ (by trivial)
 unfold xQ
 simp only [aJ]
end
section
attribute [local irreducible] best ints en bd rF dsT xQ Bd su Bc
theorem aau (l:List Ev)(i j:Nat)(hj:j=min (16*i+16) l.length):((l.map rO).take j).drop (16*i)=(ch l i).map rO:=by
 unfold ch
 rw [<-dU, <-bI,gX]
 congr 1
 rcases lJ (16*i+16) l.length with h|h
 ·rw [hj,dW h];congr 1;omega
 ·rw [hj,Nat.min_eq_right h,dD (by rw [aS];omega),dD (by rw [aS];omega)]
theorem G9 (l:List Ev)(hok : ∀e∈l,e.ok)(hl:l.length<=1000000):mQ Tryz.prog GS 61 [el l] 0 [] (Is (.nN [bs (Dt l),iv (uN l)])):=by
 refine lQ func61 rfl mixed (by kernel_rfl) ?_
 apply lK<;>intro h
 ·have h5:512<l.length:=by simp at h;omega
  have e1:uN l=5:=by unfold uN;rw [if_pos h5]
  have e2:Dt l = []:=by unfold Dt;rw [e1,if_neg (by decide)]
  rw [e1,e2]
  exact lZ [] (by trivial)
 have h5:l.length<=512:=by simp at h;omega
 have e5:uN l=wF l:=by unfold uN;rw [if_neg (by omega)]
 refine mO agv 0 [4] (fun i:Nat=> [(4,iv i)]) (fun _=> []) (fun i=>i<=l.length∧wF (l.take i)=0) (fun i=>l.length-i) [] [] 0 (by kernel_rfl) (fun _=>rfl) rfl ⟨au _,rfl⟩ trivial ⟨rfl,trivial⟩ ?_
 rintro i ⟨hi,hz⟩
 apply lK<;>intro h
 ·have hlt:i<l.length:=by simp at h;omega
  have hk:=LH hlt hz
  refine mZ.mk' i rfl (pU hlt) ?_
  refine mD.lT (aj hlt) ?_
  (refine mF [] (by kernel_rfl) (ad8 l[i] (hok _ (aT hlt))) rfl ?_ ?_;(focus trivial))
  generalize Bc l[i]=c at *
  apply lK<;>intro h
  ·have hc:c≠0:=by simpa using h
   have e6:uN l=c:=by rw [e5];exact hk.2 hc
   have e7:Dt l = []:=by unfold Dt;rw [e6,if_neg hc]
   rw [e6,e7]
   exact lZ [] (by trivial)
  ·have hc:c=0:=by simpa using h
   refine lV.i64 (by omega) ?_
   exact lU (i+1) [] [] rfl (by show l.length -(i+1)<l.length-i;omega) ⟨hlt,hk.1.trans hc⟩ trivial ⟨rfl,trivial⟩
 have hie:i=l.length:=by simp at h;omega
 subst hie
 rw [aW]at hz
 have hv:=Du hz
 rw [hz]at e5
 have etb:Dt l=tab l:=by unfold Dt;rw [if_pos e5]
 rw [etb,e5]
 conv=>whnf
 rw [ah]
 refine mY [] (by kernel_rfl) (mQ.up (sJ [] (l.length:Int) (nJ (by omega)) (by simp)) GS) (by trivial) ?_
 refine mO agw 2 [7,6] (fun i:Nat=> [(7,iv ((16*i:Nat):Int)),(6, .own 1)]) (fun i=> [(1, .rows 5 1 ((zU l i).map oh))]) (fun i=>i<=nC l) (fun i=>nC l-i) [(1, .lab 0)] [] 0 (by kernel_rfl) (fun _=>rfl) rfl (au _) ⟨⟨rfl,rfl,by show ([]++num (l.length:Int)).map oh=(zU l 0).map oh;unfold zU;simp⟩,trivial⟩ (by trivial) ?_
 rintro i hi
 have hnc:nC l<=32∧16*nC l<=l.length+15∧l.length<=16*nC l:=by unfold nC;omega
 have hta:=Js hok hv i hi
 apply lK<;>intro h
 ·have hlt:16*i<l.length:=by simp at h;omega
  have hlc:i<nC l:=by omega
  have Kt:=NZ hok hv hlc
  have hcl:=N7 Kt
  have hbl:(xQ (ch l i)).length<=70000:=wE Kt 4
  refine lV.i64 (by omega) ?_
  conv=>whnf
  have hmin:min ((16*i:Nat)+16:Int) (l.length:Int)=((min (16*i+16) l.length:Nat):Int):=by omega
  rw [ah,hmin]
  refine sN.mk' (16*i) (min (16*i+16) l.length) rfl rfl (by omega) (by(try rw [ah]);omega) ?_
  conv=>whnf
  have hL:=WI (ch l i) Kt
  have hC:=WT (ch l i) Kt
  have ajU:=Jr Kt
  have hcb:Bd (ch l i)=num (su (ch l i)).1++num (su (ch l i)).2++num ((xQ (ch l i)).length:Int)++xQ (ch l i):=by unfold Bd;rfl
  have n1:=(ni (su (ch l i)).1).2
  have n2:=(ni (su (ch l i)).2).2
  have p1:=mQ.up (sJ (zU l i) (su (ch l i)).1 ajU.1 (by omega)) GS
  have p2:=mQ.up (sJ (zU l i++num (su (ch l i)).1) (su (ch l i)).2 ajU.2 (by rw [ak];omega)) GS
  have p3:=mQ.up (sJ (zU l i++num (su (ch l i)).1++num (su (ch l i)).2) ((xQ (ch l i)).length:Int) (nJ (by omega)) (by simp only [ak];omega)) GS
  rw [<-ah (f:=oh)]at p3
  refine mY [] (by kernel_rfl) hL ⟨⟨rfl,aau l i _ rfl⟩,trivial⟩ ?_
  refine mY [] (by kernel_rfl) hC ⟨⟨rfl,aau l i _ rfl⟩,trivial⟩ ?_
  refine mY [1] (by kernel_rfl) (p1) (by trivial) ?_
  refine mY [3] (by kernel_rfl) (p2) (by trivial) ?_
  refine mY [4] (by kernel_rfl) (p3) (by trivial) ?_
  conv=>whnf
  have n3:=(ni (((xQ (ch l i)).map oh).length:Int)).2
  refine lN.mk (lS (by simp only [ln]at *;omega) (by kernel_rfl)) ?_
  refine lV.i64 (by omega) ?_
  refine lU (i+1) [(1, .lab 6)] [] rfl (by show nC l -(i+1)<nC l-i;omega) hlc ⟨⟨rfl,rfl, ?_⟩,trivial⟩ ⟨Ak (by omega),rfl,trivial⟩
  rw [EO,hcb,ah]
  simp only [aJ,aH]
 have:i=nC l:=by simp at h;omega
 subst this
 exact lZ [1] (by trivial)
end
section
attribute [local irreducible] best ints en bd
theorem JI (b:By)(hb:b.length<=100000):mQ Tryz.prog GC 140 [bs b] 0 [] (RIa b):=by
 refine lQ func140 rfl mixed (by kernel_rfl) ?_
 refine mY [] (by kernel_rfl) (Va b) (by trivial) ?_
 refine nM [0] [] (by kernel_rfl) (aeh b hb) rfl (by trivial) (by trivial) ?_
 rintro _ _ _ ⟨l,e,j,hl,hs,hG,rfl,rfl,rfl⟩
 refine⟨rfl, ?_⟩
 apply lK<;>intro h
 ·have he:e≠0:=by simpa using h
  exact lX (.nN [li [],iv (0:Nat),iv 1]) 0 [] [] [] ⟨[],0,1,Ji.bad fun l0 r ha hl h=>he (hG l0 r ha hl h).1,rfl,rfl,rfl⟩ rfl trivial (by trivial)
 have he:e=0:=by simpa using h
 subst he
 have hI:=zX l hl hs
 have hpre:=Vb b (ints l)
 refine mY [] (by kernel_rfl) (hI) (by trivial) ?_
 (refine mF [] (by kernel_rfl) (hpre) rfl ?_ ?_;(focus trivial))
 apply lK<;>intro h
 ·have hp : ¬b.take (ints l).length=ints l:=by simpa using h
  exact lX (.nN [li [],iv (0:Nat),iv 1]) 0 [] [] [] ⟨[],0,1,Ji.bad fun l0 r ha hl h=>hp (by rw [(hG l0 r ha hl h).2,h,iO]),rfl,rfl,rfl⟩ rfl trivial (by trivial)
 ·have hp:b.take (ints l).length=ints l:=by simpa using h
  exact lX (.nN [li l,iv ((ints l).length:Nat),iv 0]) 0 [] [] [] ⟨l,(ints l).length,0,⟨hl,hs, .inl ⟨rfl,rfl,hp⟩,fun l0 r ha hl h=>⟨rfl,(hG l0 r ha hl h).2⟩⟩,rfl,rfl,rfl⟩ rfl trivial ⟨⟨rfl,rfl⟩,congrArg (fun n:Nat=>Value.int .i64 (n:Int)) (ah _),rfl,trivial⟩
end
def alz (b:By)(j:Nat)(t:By×Nat×Int)(a:AV)(n:Nat)(H:lM):Prop:=a=tv t.1∧n=1∧H = [(0,tH b (j+if t.2.2=0 then t.2.1 else 0) t.2.2)]
theorem ahZ (b:By)(j:Nat)(e:Int)(hb:b.length<=3000000)(hj:j<=b.length):mQ Tryz.prog GC 167 [.ptr 0 0,iv 200] 1 [(0,tH b j e)] (alz b j (FI (b.drop j) e)):=by
 have hN:=qC b j e hb hj
 have hd:=GL (b.drop j) e
 have ho:=(oN (b.drop j) e).2.1
 rw [sZ]at hd
 generalize ny (b.drop j) e=c at *
 obtain⟨x,k,e'⟩:=c
 simp only at hN hd ho
 have hdl:(b.drop j).length=b.length-j:=aS
 have hdk:((b.drop j).drop k).length=b.length-j-k:=by rw [aS,hdl]
 by_cases he:e'=0
 ·subst he
  simp only [if_true]at hd
  by_cases h1:x<0
  ·simp only [h1,if_true]at hd
   rw [if_neg (by decide)]at hd
   rw [hd]
   refine lQ func167 rfl mixed (by kernel_rfl) ?_
   refine pW [0] [] (by kernel_rfl) hN rfl (by trivial) (by trivial) rfl ?_
   apply lK<;>intro h
   rotate_left
   ·exfalso;simp at h;omega
   refine pW [0] [] (by kernel_rfl) (rQ b (j+k) 0 3) rfl (by trivial) (by trivial) rfl ?_
   exact lX (tv []) 1 [(0,tH b j 3)] [] [] ⟨rfl,rfl,rfl⟩ rfl (by trivial) (by trivial)
  rw [if_neg h1]at hd
  by_cases h2:200<x
  ·simp only [h2,if_true]at hd
   rw [if_neg (by decide)]at hd
   rw [hd]
   refine lQ func167 rfl mixed (by kernel_rfl) ?_
   refine pW [0] [] (by kernel_rfl) hN rfl (by trivial) (by trivial) rfl ?_
   apply lK<;>intro h
   ·exfalso;simp at h;omega
   apply lK<;>intro h
   rotate_left
   ·exfalso;simp at h;omega
   refine pW [0] [] (by kernel_rfl) (rQ b (j+k) 0 4) rfl (by trivial) (by trivial) rfl ?_
   exact lX (tv []) 1 [(0,tH b j 4)] [] [] ⟨rfl,rfl,rfl⟩ rfl (by trivial) (by trivial)
  simp only [h2,if_false,if_true]at hd
  obtain⟨n,rfl⟩ : ∃n:Nat,x=(n:Int):=⟨x.toNat,by omega⟩
  rw [dh]at hd
  by_cases h3:(((b.drop j).drop k).length:Int)<(n:Int)
  ·rw [if_pos h3]at hd
   rw [hd]
   refine lQ func167 rfl mixed (by kernel_rfl) ?_
   refine pW [0] [] (by kernel_rfl) hN rfl (by trivial) (by trivial) rfl ?_
   apply lK<;>intro h
   ·exfalso;simp at h;omega
   (refine mP SG [] (by kernel_rfl) ?_;conv=>whnf)
   refine lV.to (y:=((b.length-j-k:Nat):Int)) (by rw [ah,IntWalk.i64_in _ (by omega)];omega) ?_
   apply lK<;>intro h
   rotate_left
   ·exfalso;simp at h;omega
   refine pW [0] [] (by kernel_rfl) (rQ b (j+k) 0 16) rfl (by trivial) (by trivial) rfl ?_
   exact lX (tv []) 1 [(0,tH b j 16)] [] [] ⟨rfl,rfl,rfl⟩ rfl (by trivial) (by trivial)
  ·rw [if_neg h3]at hd
   rw [hd]
   refine lQ func167 rfl mixed (by kernel_rfl) ?_
   refine pW [0] [] (by kernel_rfl) hN rfl (by trivial) (by trivial) rfl ?_
   apply lK<;>intro h
   ·exfalso;simp at h;omega
   (refine mP SG [] (by kernel_rfl) ?_;conv=>whnf)
   refine lV.to (y:=((b.length-j-k:Nat):Int)) (by rw [ah,IntWalk.i64_in _ (by omega)];omega) ?_
   apply lK<;>intro h
   ·exfalso;simp at h;omega
   refine lV.to (y:=((j+k+n:Nat):Int)) (by rw [<-fM];exact IntWalk.i64_in _ (by omega)) ?_
   (refine mP SG [] (by kernel_rfl) ?_;conv=>whnf)
   repeat' (first
    | (refine And.intro ?_ ?_<;>(conv=>whnf))
    | (refine lV.to (y:=((j+k:Nat):Int)) (by rw [IntWalk.i64_in _ (by omega)];omega) ?_;conv=>whnf)
    | (refine sN.mk' (j+k) (j+k+n) rfl rfl (by omega) (by rw [ah];omega) ?_;conv=>whnf))
   have ec:((b.map oh).take (j+k+n)).drop (j+k)=(((b.drop j).drop k).take n).map oh:=by
    rw [gX,dU,bI,bI,dB,show j+k+n -(j+k)=n by omega]
   show F7 (((b.map oh).take (j+k+n)).drop (j+k)) _
   rw [ec]
   refine F7.of ?_
   exact lX (tv (((b.drop j).drop k).take n)) 1 [(0,tH b (j+k+n) 0)] [] [] ⟨rfl,rfl,by show _ = [(0,tH b (j+(k+n)) 0)];rw [<-fZ]⟩ rfl (by trivial) (by trivial)
 ·simp only [he,if_false]at hd
  rw [hd]
  ·skip
   refine lQ func167 rfl mixed (by kernel_rfl) ?_
   refine pW [0] [] (by kernel_rfl) hN rfl (by trivial) (by trivial) rfl ?_
   conv=>whnf
   have hq2:(e' != 0)=true:=by simpa using he
   rw [hq2]
   exact lX (tv []) 1 [(0,tH b j e')] [] [] ⟨rfl,rfl,by show _ = [(0,tH b (j+if e'=0 then k else 0) e')];rw [if_neg he];rfl⟩ rfl (by trivial) (by trivial)
section
attribute [local irreducible] best ints en bd
structure TY where
 ks:Tx
 j:Nat
 e:Int
def KJ (b:By)(n:Nat)(x:TY):Prop:=x.ks.length<=n∧AA x.ks∧x.j<=b.length∧GT b fun l0 r=>x.e=0∧(dsT l0).length=n∧QT l0 r x.ks (b.drop x.j)
theorem QL (b:By)(hb:b.length<=100000):mQ Tryz.prog GC 139 [bs b] 0 [] (RTa b):=by
 have hC:=Dy b 0 0 512 (by omega) (au _) (by decide)
 have hcl:=Oa b 0 512 5
 have hcr:=rW b 0 512 5 (by decide) (by decide)
 have hhead:=U1 b
 rw [dJ,aV]at hC
 generalize qg b 0 512 5=c at *
 obtain⟨x,k,e⟩:=c
 simp only at hC hcr hhead hcl
 obtain⟨n,rfl⟩ : ∃n:Nat,x=(n:Int):=⟨x.toNat,by omega⟩
 have hn:n<=512:=by omega
 have hk0:KJ b n ⟨[],k,e⟩:=⟨au _,fun _ h=>(by cases h),hcl,fun l0 r hl ht hb=>by
  have:=hhead l0 r hl ht hb
  exact⟨this.1,by omega,this.2.2⟩⟩
 clear hhead hcr hcl
 refine lQ func139 rfl mixed (by kernel_rfl) ?_
 refine mY [] (by kernel_rfl) (Va b) (by trivial) ?_
 refine pW [0] [] (by kernel_rfl) hC rfl (by trivial) (by trivial) rfl ?_
 refine mO abS 2 [7,9] (fun x:TY=> [(7, .own 1),(9,iv x.ks.length)]) (fun x=> [(1, .rows 9 1 (x.ks.map wC)),(0,tH b x.j x.e)]) (KJ b n) (fun x=>n-x.ks.length) [(1, .nil)] [] ⟨[],k,e⟩ (by kernel_rfl) (fun _=>rfl) rfl hk0 ⟨rfl,(by trivial),trivial⟩ ⟨trivial,rfl,trivial⟩ ?_
 rintro⟨ks,j,e'⟩ ⟨k1,k2,k3,k4⟩
 change ks.length<=n at k1
 change AA ks at k2
 change j<=b.length at k3
 change GT b fun l0 r=>e'=0∧(dsT l0).length=n∧QT l0 r ks (b.drop j)at k4
 apply lK<;>intro h
 ·have hlt:ks.length<n:=by simp at h;omega
  have hT:=ahZ b j e' (by omega) k3
  have hto:=ZH (b.drop j) e'
  have hstep:GT b fun l0 r=>(FI (b.drop j) e').2.2=0∧(dsT l0).length=n∧QT l0 r (ks++ [(FI (b.drop j) e').1]) ((b.drop j).drop (FI (b.drop j) e').2.1):=fun l0 r hl ht hbb=>by
   obtain⟨h1,h2,h3⟩:=k4 l0 r hl ht hbb
   subst h1
   have:=h3.step ht (by omega)
   exact⟨this.1,h2,this.2⟩
  generalize FI (b.drop j) e'=t at *
  obtain⟨s,q,f⟩:=t
  simp only at hto hstep
  have hs2:s.length<=200:=hto.1
  have hjq:j+(if f=0 then q else 0)<=b.length:=by
   have:=hto.2.1
   rw [aS]at this
   split<;>omega
  have hnew:GT b fun l0 r=>f=0∧(dsT l0).length=n∧QT l0 r (ks++ [s]) (b.drop (j+(if f=0 then q else 0))):=fun l0 r hl ht hbb=>by
   obtain⟨h1,h2,h3⟩:=hstep l0 r hl ht hbb
   subst h1
   rw [if_pos rfl, <-dB]
   exact⟨rfl,h2,h3⟩
  have hT':mQ Tryz.prog GC 167 [.ptr 0 0,iv 200] 1 [(0,tH b j e')] (fun a n H=>a=tv s∧n=1∧H = [(0,tH b (j+(if f=0 then q else 0)) f)]):=hT
  clear hT hstep hto
  generalize j+(if f=0 then q else 0)=j' at *
  refine pW [0] [] (by kernel_rfl) hT' rfl (by trivial) (by trivial) rfl ?_
  refine lN.mk (lS (by simp only [ln];omega) (by kernel_rfl)) ?_
  refine lV.i64 (by simp only;omega) ?_
  refine lU ⟨ks++ [s],j',f⟩ [(1, .lab 3)] [] rfl (by show n -(ks++ [s]).length<n-ks.length;rw [ak];simp only [ln];omega) ⟨by show (ks++ [s]).length<=n;rw [ak];simp only [ln];omega,fun t ht=> ?_,hjq,hnew⟩ ⟨⟨rfl,rfl,(vN ks s).symm⟩,⟨rfl,⟨rfl,rfl⟩,rfl,rfl,trivial⟩,trivial⟩ ⟨rfl, ?_,trivial⟩
  ·rcases bK.1 ht with h|h
   ·exact k2 t h
   ·rw [bF.1 h];exact hs2
  ·refine congrArg (fun n:Int=>Value.int .i64 n) ?_
   show _=((ks++ [s]).length:Int)
   rw [ak];rfl
 ·have hkn:ks.length=n:=by simp at h;omega
  have hfin:GT b fun l0 r=>ks=dsT l0∧b.drop j=ints (BM (dsT l0) l0)++r:=fun l0 r hl ht hb=>by
   have:=k4 l0 r hl ht hb
   exact this.2.2.fin (by omega)
  apply lK<;>intro h
  ·have he:e'≠0:=by simpa using h
   exact lX (.nN [tl [],iv (0:Nat),iv 1]) 0 [] [] [] ⟨[],0,1,OC.bad fun l0 r ha hl h=>he (k4 l0 r ha hl h).1,rfl,rfl,rfl⟩ rfl trivial (by trivial)
  have he:e'=0:=by simpa using h
  subst he
  refine sN.mk' j b.length rfl (by rw [ah]) k3 (by rw [ah];exact aA _) ?_
  conv=>whnf
  have hdrop:(b.map oh).drop j=(b.drop j).map oh:=bI.symm
  rw [show cut (some (AV.v (.int .i64 ((j:Nat):Int)))) none j b.length (b.map oh)=(b.drop j).map oh from hdrop]
  have hb':(b.drop j).length<=100000:=qh hb
  (refine nO [] (by kernel_rfl) (JI (b.drop j) hb') ?_ ?_;(focus trivial))
  rintro _ _ _ ⟨il,m,f,hR,rfl,rfl,rfl⟩
  have hgood:GT b fun l0 r=>f=0∧il=BM (dsT l0) l0∧ks=dsT l0:=fun l0 r hl ht hb=>by
   have h1:=hfin l0 r hl ht hb
   have h2:=wB l0
   have h3:=hR.2.2.2 _ r (GK (dsT l0) l0 (fun x hx=>(tN l0 x).2 hx) (by omega)) (by rw [uM];exact hl) h1.2
   exact⟨h3.1,h3.2,h1.1⟩
  have hil:=hR.2.1
  have hR1:=hR.1
  have hR3:=hR.2.2.1
  clear hdrop hfin hR hC hk0
  apply lK<;>intro h
  ·have he:f≠0:=by simpa using h
   obtain rfl:f=1:=by
    rcases hR3 with ⟨h,_⟩|⟨h,_⟩
    ·exact absurd h he
    ·exact h
   exact lX (.nN [tl [],iv (0:Nat),iv 1]) 0 [] [] [] ⟨[],0,1,OC.bad fun l0 r ha hl h=>he (hgood l0 r ha hl h).1,rfl,rfl,rfl⟩ rfl trivial (by trivial)
  refine mO abT 3 [8,13] (fun i:Nat=> [(8, .own 2),(13,iv i)]) (fun i=> [(2, .rows 9 1 ((Kr ks (il.take i)).map wC)),(1, .rows 9 1 (ks.map wC)),(0,tH b j 0)]) (fun i=>i<=il.length∧∀j (h:j<il.length),j<i->0<=il[j]∧il[j]<(ks.length:Int)) (fun i=>il.length-i) [(2, .nil)] [] 0 (by kernel_rfl) (fun _=>rfl) rfl ⟨au _,fun j _ h=>absurd h (gI j)⟩ ⟨rfl,⟨rfl,rfl,rfl⟩,(by trivial),trivial⟩ ⟨trivial,rfl,trivial⟩ ?_
  rintro i ⟨hi,hin⟩
  apply lK<;>intro h
  ·have hlt:i<il.length:=by simp at h;omega
   have hat:=aj hlt
   refine mZ.mk' i rfl (pU hlt) ?_
   refine mD.lT hat ?_
   conv=>whnf
   have hbad : ¬(0<=il[i]∧il[i]<(ks.length:Int))->GT b fun _ _=>False:=fun hx l0 r hl ht hb=>by
    obtain⟨_,h2,h3⟩:=hgood l0 r hl ht hb
    have hlt':i<(BM (dsT l0) l0).length:=by rw [<-h2];exact hlt
    have e:il[i]=(BM (dsT l0) l0)[i]'hlt':=by simp only [h2]
    rw [uM]at hlt'
    have e2:il[i]=((wu (dsT l0) l0[i]:Nat):Int):=by rw [e];simp [BM]
    have:=(y7 ((tN l0 l0[i]).2 (aT hlt'))).1
    exact hx (by rw [h3];omega)
   have hstep : ∀q:Nat,il[i]=(q:Int)->∀x,ks[q]? = some x->Kr ks (il.take (i+1))=Kr ks (il.take i)++ [x]:=fun q hq x hx=>Qq hlt hq hx
   have hnx:(0<=il[i]∧il[i]<(ks.length:Int))->∀j (h:j<il.length),j<i+1->0<=il[j]∧il[j]<(ks.length:Int):=fun hx j h hj=>by
    rcases dP j i with h4|h4
    ·exact hin j h h4
    ·have:j=i:=by omega
     subst this;exact hx
   have hxI:I64 il[i]:=hR1 _ (aT hlt)
   generalize il[i]=x at *
   apply lK<;>intro h
   ·have hx:x<0:=by simpa using h
    exact lX (.nN [tl [],iv (0:Nat),iv 1]) 0 [] [] [] ⟨[],0,1,OC.bad (hbad (by omega)),rfl,rfl,rfl⟩ rfl trivial (by trivial)
   have hx0:0<=x:=by simpa using h
   refine mZ.mk' i rfl (pU hlt) ?_
   refine mD.lT hat ?_
   apply lK<;>intro h
   ·have hx:(ks.length:Int)<=x:=by simpa using h
    exact lX (.nN [tl [],iv (0:Nat),iv 1]) 0 [] [] [] ⟨[],0,1,OC.bad (hbad (by omega)),rfl,rfl,rfl⟩ rfl trivial (by trivial)
   have hx1:x<(ks.length:Int):=by simp at h;omega
   obtain⟨q,rfl⟩ : ∃q:Nat,x=(q:Int):=⟨x.toNat,by omega⟩
   have hq:q<ks.length:=by omega
   have hkq:=aj hq
   refine mZ.mk' i rfl (pU hlt) ?_
   refine mD.lT hat ?_
   refine mZ.mk' q rfl (pU hq) ?_
   refine mD.lT hkq ?_
   conv=>whnf
   have e1:=hstep q rfl ks[q] hkq
   have htl:(Kr ks (il.take i)).length<=512:=by rw [GN,aK];omega
   refine lN.mk (lS (by simp only [ln];omega) (by kernel_rfl)) ?_
   refine lV.i64 (by omega) ?_
   exact lU (i+1) [(2, .lab 4)] [] rfl (by show il.length -(i+1)<il.length-i;omega) ⟨hlt,hnx ⟨hx0,hx1⟩⟩ ⟨⟨rfl,rfl,by rw [e1];exact(vN _ _).symm⟩,⟨rfl,rfl,rfl⟩,⟨rfl,(by trivial)⟩,trivial⟩ ⟨rfl,rfl,trivial⟩
  ·have hie:i=il.length:=by simp at h;omega
   subst hie
   rw [aW]
   have hl5:(Kr ks il).length<=512:=by rw [GN];exact hil
   have hok:=ZJ k2 il
   have hG:GT b fun l0 r=>Kr ks il=l0:=fun l0 r hl ht hb=>by
    obtain⟨_,h2,h3⟩:=hgood l0 r hl ht hb
    rw [h2,h3]
    exact ZI fun x hx=>(tN l0 x).2 hx
   generalize Kr ks il=l at *
   conv=>whnf
   have hT:=G8 l hl5 hok
   have hpre:=Vb b (rF l)
   refine mY [2] (by kernel_rfl) (hT) (by trivial) ?_
   (refine mF [] (by kernel_rfl) (hpre) rfl ?_ ?_;(focus trivial))
   apply lK<;>intro h
   ·have hp : ¬b.take (rF l).length=rF l:=by simpa using h
    exact lX (.nN [tl [],iv (0:Nat),iv 1]) 0 [] [] [] ⟨[],0,1,OC.bad fun l0 r ha hl h=>hp (by rw [hG l0 r ha hl h,h,dZ rfl]),rfl,rfl,rfl⟩ rfl trivial (by trivial)
   ·have hp:b.take (rF l).length=rF l:=by simpa using h
    exact lX (.nN [tl l,iv ((rF l).length:Nat),iv 0]) 0 [] [] [] ⟨l,(rF l).length,0,⟨hok,hl5, .inl ⟨rfl,rfl,hp⟩,fun l0 r ha hl h=>⟨rfl,hG l0 r ha hl h⟩⟩,rfl,rfl,rfl⟩ rfl trivial ⟨⟨rfl,rfl⟩,congrArg (fun n:Nat=>Value.int .i64 (n:Int)) (ah _),rfl,trivial⟩
end
section
attribute [local irreducible] best ints en bd rF dsT xQ Bd su Bc
def tr (b:By)(bad:Bool):oZ:= .var 145 [bs b,bv bad]
def TRi (b:By)(bad:Bool)(n:Nat)(a:AV)(m:Nat)(H:lM):Prop:= ∃(l:Li) (k:Nat) (ok:Bool),l.length=n∧nP l∧k<=b.length∧(∀l0 r,l0.length=n->nP l0->b=ints l0++r->ok=true∧l=l0∧b.drop k=r)∧a=li l∧m=1∧H = [(0,tr (b.drop k) (bad|| !ok))]
def TRt (b:By)(bad:Bool)(n:Nat)(a:AV)(m:Nat)(H:lM):Prop:= ∃(l:Tx) (k:Nat) (ok:Bool),l.length=n∧AA l∧k<=b.length∧(∀l0 r,l0.length=n->AA l0->b=rF l0++r->ok=true∧l=l0∧b.drop k=r)∧a=tl l∧m=1∧H = [(0,tr (b.drop k) (bad|| !ok))]
theorem take_len {b x:By}(h:b.take x.length=x):x.length<=b.length:=by
 have:=congrArg List.length h
 rw [aK]at this
 omega
theorem EX (b:By)(bad:Bool)(n:Nat)(hb:b.length<=100000)(hn:n<=16):mQ Tryz.prog GS 113 [.ptr 0 0,iv n] 1 [(0,tr b bad)] (TRi b bad n):=by
 refine lQ func113 rfl mixed (by kernel_rfl) ?_
 refine nO [] (by kernel_rfl) (mQ.up (JI b hb) GS) (by trivial) ?_
 rintro _ _ _ ⟨l,k,e,⟨r1,r2,r3,r4⟩,rfl,rfl,rfl⟩
 conv=>whnf
 have key : ∀l0 r,l0.length=n->nP l0->b=ints l0++r->e=0∧l=l0:=fun l0 r h1 h2 h3=>r4 l0 r h2 (by omega) h3
 have hno:(¬e=0∨¬l.length=n)->∀l0 r,l0.length=n->nP l0->b=ints l0++r->False:=fun h l0 r h1 h2 h3=>by
  have:=key l0 r h1 h2 h3
  rcases h with h|h
  ·exact h this.1
  ·exact h (by rw [this.2];exact h1)
 have hz:nP (List.replicate n (0:Int)):=fun x hx=>by rw [iY hx];exact nJ (n:=0) (by decide)
 rcases r3 with ⟨rfl,hk,hp⟩|⟨rfl,rfl,rfl⟩
 ·have hkb:k<=b.length:=by rw [hk];exact take_len hp
  conv=>whnf
  by_cases hl:l.length=n
  ·have e1:((((l.map qX).length:Nat):Int) != (n:Int))=false:=by rw [ah,hl];simp
   rw [e1]
   refine sN.mk' k b.length rfl (by rw [ah]) hkb (by rw [ah];exact aA _) ?_
   conv=>whnf
   have hcut:(b.map oh).drop k=(b.drop k).map oh:=bI.symm
   refine lX (.lst 1 (l.map qX)) 1 [(0,tr (b.drop k) bad)] [] [] ⟨l,k,true,hl,r1,hkb,fun l0 r h1 h2 h3=>⟨rfl,(key l0 r h1 h2 h3).2, ?_⟩,rfl,rfl,by simp⟩ rfl ⟨⟨rfl,⟨rfl,hcut⟩,rfl,trivial⟩,trivial⟩ ⟨rfl,rfl⟩
   rw [hk,(key l0 r h1 h2 h3).2,h3,eY rfl]
  ·have e1:((((l.map qX).length:Nat):Int) != (n:Int))=true:=by rw [ah];simp;omega
   rw [e1]
   refine KG.mk' n rfl rfl ⟨dM (iD _ hn) (aP (by kernel_rfl)),by unfold maxLen;omega⟩ ?_
   refine lX (.lst 1 ((List.replicate n (0:Int)).map qX)) 1 [(0,tr b true)] [] [1] ⟨List.replicate n (0:Int),0,false,cu,hz,au _,fun l0 r h1 h2 h3=>(hno (.inr hl) l0 r h1 h2 h3).elim,rfl,rfl,by rw [dJ,dH,kU]⟩ rfl (by trivial) ⟨rfl,rfl, ?_⟩
   rw [eG];rfl
 ·
  refine KG.mk' n rfl rfl ⟨dM (iD _ hn) (aP (by kernel_rfl)),by unfold maxLen;omega⟩ ?_
  refine lX (.lst 1 ((List.replicate n (0:Int)).map qX)) 1 [(0,tr b true)] [] [1] ⟨List.replicate n (0:Int),0,false,cu,hz,au _,fun l0 r h1 h2 h3=>(hno (.inl (by decide)) l0 r h1 h2 h3).elim,rfl,rfl,by rw [dJ,dH,kU]⟩ rfl (by trivial) ⟨rfl,rfl, ?_⟩
  rw [eG];rfl
theorem He (b:By)(bad:Bool)(n:Nat)(hb:b.length<=100000)(hn:n<=16):mQ Tryz.prog GS 112 [.ptr 0 0,iv n] 1 [(0,tr b bad)] (TRt b bad n):=by
 refine lQ func112 rfl mixed (by kernel_rfl) ?_
 refine nO [] (by kernel_rfl) (mQ.up (QL b hb) GS) (by trivial) ?_
 rintro _ _ _ ⟨l,k,e,⟨r1,r2,r3,r4⟩,rfl,rfl,rfl⟩
 conv=>whnf
 have key : ∀l0 r,l0.length=n->AA l0->b=rF l0++r->e=0∧l=l0:=fun l0 r h1 h2 h3=>r4 l0 r (by omega) h2 h3
 have hno:(¬e=0∨¬l.length=n)->∀l0 r,l0.length=n->AA l0->b=rF l0++r->False:=fun h l0 r h1 h2 h3=>by
  have:=key l0 r h1 h2 h3
  rcases h with h|h
  ·exact h this.1
  ·exact h (by rw [this.2];exact h1)
 have hz:AA (List.replicate n ([]:By)):=fun x hx=>by rw [iY hx];exact(by decide)
 rcases r3 with ⟨rfl,hk,hp⟩|⟨rfl,rfl,rfl⟩
 ·have hkb:k<=b.length:=by rw [hk];exact take_len hp
  conv=>whnf
  by_cases hl:l.length=n
  ·have e1:((((l.map wC).length:Nat):Int) != (n:Int))=false:=by rw [ah,hl];simp
   rw [e1]
   refine sN.mk' k b.length rfl (by rw [ah]) hkb (by rw [ah];exact aA _) ?_
   conv=>whnf
   have hcut:(b.map oh).drop k=(b.drop k).map oh:=bI.symm
   refine lX (.lst 1 (l.map wC)) 1 [(0,tr (b.drop k) bad)] [] [] ⟨l,k,true,hl,r1,hkb,fun l0 r h1 h2 h3=>⟨rfl,(key l0 r h1 h2 h3).2, ?_⟩,rfl,rfl,by simp⟩ rfl ⟨⟨rfl,⟨rfl,hcut⟩,rfl,trivial⟩,trivial⟩ ⟨rfl,rfl⟩
   rw [hk,(key l0 r h1 h2 h3).2,h3,eY rfl]
  ·have e1:((((l.map wC).length:Nat):Int) != (n:Int))=true:=by rw [ah];simp;omega
   rw [e1]
   refine KG.mk' n rfl rfl ⟨dM (iD _ hn) (aP (by kernel_rfl)),by unfold maxLen;omega⟩ ?_
   refine lX (.lst 1 ((List.replicate n ([]:By)).map wC)) 1 [(0,tr b true)] [] [1] ⟨List.replicate n ([]:By),0,false,cu,hz,au _,fun l0 r h1 h2 h3=>(hno (.inr hl) l0 r h1 h2 h3).elim,rfl,rfl,by rw [dJ,dH,kU]⟩ rfl (by trivial) ⟨rfl,rfl, ?_⟩
   rw [eG];rfl
 ·
  refine KG.mk' n rfl rfl ⟨dM (iD _ hn) (aP (by kernel_rfl)),by unfold maxLen;omega⟩ ?_
  refine lX (.lst 1 ((List.replicate n ([]:By)).map wC)) 1 [(0,tr b true)] [] [1] ⟨List.replicate n ([]:By),0,false,cu,hz,au _,fun l0 r h1 h2 h3=>(hno (.inl (by decide)) l0 r h1 h2 h3).elim,rfl,rfl,by rw [dJ,dH,kU]⟩ rfl (by trivial) ⟨rfl,rfl, ?_⟩
  rw [eG];rfl
end
section
attribute [local irreducible] best ints en bd rF dsT xQ Bd su Bc
structure KB (b:By)(n s:Nat)(body:By)(bad:Bool):Prop where
 sz:body.length<=100000
 full:Q7 b n fun c r=>body=rs s c∧bad=false
theorem KB.num {b:By}{n s:Nat}{body:By}{bad:Bool}(h:KB b n s body bad)(f:Ev->Int)(hf : ∀c,(cols c)[s]? = some (ints (c.map f)))(hs : ∀c,U6 c->nP (c.map f)){l:List Int}{k:Nat}{ok:Bool}
  (hR : ∀l0 r,l0.length=n->nP l0->body=ints l0++r->ok=true∧l=l0∧body.drop k=r):KB b n (s+1) (body.drop k) (bad|| !ok)∧Q7 b n fun c _=>l=c.map f:=by
 have key:Q7 b n fun c _=>ok=true∧l=c.map f∧body.drop k=rs (s+1) c∧bad=false:=fun c r hc hn hb=>by
  obtain⟨h1,h2⟩:=h.full c r hc hn hb
  obtain⟨g1,g2,g3⟩:=hR (c.map f) (rs (s+1) c) (by rw [ah,hn]) (hs c hc) (by rw [h1,GR s c _ (hf c)])
  exact⟨g1,g2,g3,h2⟩
 refine⟨⟨by rw [aS];have:=h.sz;omega,fun c r hc hn hb=> ?_⟩,fun c r hc hn hb=>(key c r hc hn hb).2.1⟩
 obtain⟨h1,_,h3,h4⟩:=key c r hc hn hb
 exact⟨h3,by rw [h1,h4];rfl⟩
theorem KB.txt {b:By}{n s:Nat}{body:By}{bad:Bool}(h:KB b n s body bad)(f:Ev->By)(hf : ∀c,(cols c)[s]? = some (rF (c.map f)))(hs : ∀c,U6 c->AA (c.map f)){l:List By}{k:Nat}{ok:Bool}
  (hR : ∀l0 r,l0.length=n->AA l0->body=rF l0++r->ok=true∧l=l0∧body.drop k=r):KB b n (s+1) (body.drop k) (bad|| !ok)∧Q7 b n fun c _=>l=c.map f:=by
 have key:Q7 b n fun c _=>ok=true∧l=c.map f∧body.drop k=rs (s+1) c∧bad=false:=fun c r hc hn hb=>by
  obtain⟨h1,h2⟩:=h.full c r hc hn hb
  obtain⟨g1,g2,g3⟩:=hR (c.map f) (rs (s+1) c) (by rw [ah,hn]) (hs c hc) (by rw [h1,GR s c _ (hf c)])
  exact⟨g1,g2,g3,h2⟩
 refine⟨⟨by rw [aS];have:=h.sz;omega,fun c r hc hn hb=> ?_⟩,fun c r hc hn hb=>(key c r hc hn hb).2.1⟩
 obtain⟨h1,_,h3,h4⟩:=key c r hc hn hb
 exact⟨h3,by rw [h1,h4];rfl⟩
theorem ah0 (b:By)(n:Nat)(hb:b.length<=100000)(x1 x2 x3 e1 e2 e3:Int)(k1 k2 k3:Nat)(h1:ny b 0=(x1,k1,e1))(h2:ny (b.drop k1) e1=(x2,k2,e2))(h3:qg ((b.drop k1).drop k2) e2 1073741824 5=(x3,k3,e3)) :
  k1+k2+k3<=b.length∧0<=x3∧Q7 b n fun c r=>e3=0∧x3=((xQ c).length:Int)∧((b.drop k1).drop k2).drop k3=xQ c++r∧k1+k2+k3+(xQ c).length=(Bd c).length:=by
 have hd:=heads b n 1073741824 (by decide) (fun c r hc _=>by have:=wE hc 4;change (xQ c).length<=70000 at this;omega) x1 x2 x3 e1 e2 e3 k1 k2 k3 h1 h2 h3
 have o1:=oN b 0
 have o2:=oN (b.drop k1) e1
 have o3:=oN ((b.drop k1).drop k2) e2
 have o4:=rW ((b.drop k1).drop k2) e2 1073741824 5 (by decide) (by decide)
 rw [h1]at o1
 rw [h2]at o2
 rw [h3]at o4
 simp only at o1 o2 o4
 have l1:=o1.2.1
 have l2:=o2.2.1
 have l3:=o3.2.1
 rw [<-o4.2.2.1]at l3
 simp only [aS]at l2 l3
 refine⟨by omega,hd.2.2.1,fun c r hc hn hcb=> ?_⟩
 obtain⟨f1,f2,f3,f4⟩:=hd.2.2.2.2.2 c r hc hn hcb
 obtain⟨q1,q2⟩:=o4.2.2.2 f1
 obtain⟨p1,p2,p3⟩:=o3.2.2.1 q1
 obtain⟨u1,u2,u3⟩:=o2.2.2.1 p1
 obtain⟨v1,v2,v3⟩:=o1.2.2.1 u1
 rw [<-q2, <-o4.2.2.1]at p2
 rw [<-q2, <-o4.2.2.1]at p3
 have e1:b=num x1++(num x2++(num x3++((b.drop k1).drop k2).drop k3)):=by rw [<-p2, <-u2];exact v2
 have e2:b=num x1++(num x2++(num x3++(xQ c++r))):=by rw [hcb,f2,f3,f4];unfold Bd;simp only [aH]
 have e3:=e1.symm.trans e2
 refine⟨f1,f4,bM (bM (bM e3)), ?_⟩
 unfold Bd
 rw [<-f2, <-f3, <-f4]
 simp only [ak]
 omega
structure Cs where
 a:Tx
 s:Li
 k:Li
 t:Li
 d:Tx
 nm:Tx
 o:Tx
 v:Li
 r:Li
 w:Li
def Cs.ev (x:Cs)(i:Nat):Ev:=⟨x.a.getD i [],x.s.getD i 0,x.k.getD i 0,x.t.getD i 0,x.d.getD i [],x.nm.getD i [],x.o.getD i [],x.v.getD i 0,x.r.getD i 0,x.w.getD i 0⟩
def Cs.evs (x:Cs)(n:Nat):List Ev:=(List.range n).map x.ev
structure Cs.ok (x:Cs)(n:Nat):Prop where
 a:x.a.length=n∧AA x.a
 s:x.s.length=n∧nP x.s
 k:x.k.length=n∧nP x.k
 t:x.t.length=n∧nP x.t
 d:x.d.length=n∧AA x.d
 nm:x.nm.length=n∧AA x.nm
 o:x.o.length=n∧AA x.o
 v:x.v.length=n∧nP x.v
 r:x.r.length=n∧nP x.r
 w:x.w.length=n∧nP x.w
theorem y9 {α:Type}{P:α->Prop}{l:List α}{z:α}(h : ∀x∈l,P x)(hz:P z)(i:Nat):P (l.getD i z):=by
 rw [ay]
 cases e:l[i]? with
 | none=>exact hz
 | some x=>exact h x (aZ e)
theorem getD_at {α:Type}{l:List α}{z:α}{i:Nat}(h:i<l.length):l[i]? = some (l.getD i z):=by simp [ay,h]
theorem Cs.ajV {x:Cs}{n:Nat}(h:x.ok n)(i:Nat):(x.ev i).ok:=by
 have z:I64 0:=nJ (n:=0) (by decide)
 have tx : ∀ {l:Tx},AA l->(l.getD i []).length<=200:=fun h=>y9 (P:=fun s:By=>s.length<=200) h (by decide) i
 exact⟨y9 h.s.2 z i,y9 h.k.2 z i,y9 h.t.2 z i,y9 h.v.2 z i,y9 h.r.2 z i,y9 h.w.2 z i,by have:=tx h.a.2;show (x.a.getD i []).length<=_;omega,by have:=tx h.d.2;show (x.d.getD i []).length<=_;omega,by have:=tx h.nm.2;show (x.nm.getD i []).length<=_;omega,by have:=tx h.o.2;show (x.o.getD i []).length<=_;omega⟩
theorem Cs.Oo (x:Cs)(n:Nat):(x.evs n).length=n:=by simp [Cs.evs]
theorem Cs.aav (x:Cs)(n:Nat):x.evs (n+1)=x.evs n++ [x.ev n]:=by simp [Cs.evs,iQ]
theorem Cs.ah1 {x:Cs}{n m:Nat}(h:x.ok n) : ∀e∈x.evs m,e.ok:=fun e he=>by
 obtain⟨i,_,rfl⟩:=eP.1 he
 exact Cs.ajV h i
theorem Cs.of (c:List Ev):Cs.evs ⟨c.map (·.client),c.map (·.seq),c.map (·.kind),c.map (·.time),c.map (·.id),c.map (·.name),c.map (·.other),c.map (·.ver),c.map (·.arm),c.map (·.val)⟩ c.length=c:=by
 apply jy
 ·rw [Cs.Oo]
 ·intro i h1 h2
  simp [Cs.evs,Cs.ev,ay,h2]
theorem aaw {c:List Ev}{r:By}{x:Int}{n:Nat}(h:x=((xQ c).length:Int))(e:x=(n:Int)):(xQ c++r).take n=rs 0 c:=by
 have:n=(xQ c).length:=by omega
 rw [this,dZ rfl,ZX]
theorem QM (b:By)(hb:b.length<=100000):mQ Tryz.prog GS 82 [bs b] 0 [] (ajB b):=by
 have hC:=mQ.up (Dy b 0 0 512 (by omega) (au _) (by decide)) GS
 have hr:=rW b 0 512 5 (by decide) (by decide)
 have hle:=Oa b 0 512 5
 have hz:(qg b 0 512 5).2.2≠0->(qg b 0 512 5).1=0:=by
  rw [sZ]
  intro h
  simp only at h ⊢
  rw [if_neg h]
 have hhead:GT3 b fun l0=>(qg b 0 512 5).2.2=0∧(qg b 0 512 5).1=(l0.length:Int)∧b.drop (qg b 0 512 5).2.1=(List.range (nC l0)).flatMap fun j=>Bd (ch l0 j):=fun l0 h1 h2 h3=>by
  have hl:=(xk h2).1
  have r1:=Lm (b:=b) (e:=0) (nJ (by omega:l0.length<=9223372036854775807)) rfl h3
  have:=Jl (em:=5) (most:=512) r1.1 r1.2.1 (by omega)
  rw [this]
  exact⟨rfl,rfl,r1.2.2⟩
 rw [dJ,aV]at hC
 generalize qg b 0 512 5=t at *
 obtain⟨x,k,e⟩:=t
 simp only at hC hr hhead hle hz
 obtain⟨n,rfl⟩ : ∃n:Nat,x=(n:Int):=⟨x.toNat,by omega⟩
 have hn:n<=512:=by omega
 have hk0:KT b n [] k:=⟨au _,fun _ h=>(by cases h),hle,fun l0 h1 h2 h3=>by
  obtain⟨_,q1,q2⟩:=hhead l0 h1 h2 h3
  exact⟨by omega,0,au _,by simp,by rw [dJ];exact q2⟩⟩
 refine lQ func82 rfl mixed (by kernel_rfl) ?_
 refine mY [] (by kernel_rfl) (mQ.up (Va b) GS) (by trivial) ?_
 refine pW [0] [] (by kernel_rfl) hC rfl (by trivial) (by trivial) rfl ?_
 refine mO agD 2 [6] (fun x:TS=> [(6, .own 1)]) (fun x=> [(1, .rows 95 10 (x.l.map rO)),(0,tH b x.a e)]) (fun x=>KT b n x.l x.a) (fun x=>n-x.l.length) [(1, .nil)] [] ⟨[],k⟩ (by kernel_rfl) (fun _=>rfl) rfl hk0 ⟨rfl,(by trivial),trivial⟩ ⟨trivial,trivial⟩ ?_
 rintro⟨l,at_⟩ hK
 change KT b n l at_ at hK
 have hat:=hK.atl
 have hle2:=hK.len
 apply lK<;>intro h
 ·have hlt:l.length<n:=by simp at h;omega
  have he:e=0:=by
   by_cases he:e=0
   ·exact he
   ·have:=hz he;omega
  subst he
  clear hC hr hhead hz hk0
  obtain⟨⟨x1,k1,e1⟩,h1⟩ : ∃t,ny (b.drop at_) 0=t:=⟨_,rfl⟩
  have hN1:=mQ.up (qC b at_ 0 (by omega) hat) GS
  have u1:=(oN (b.drop at_) 0).2.1
  rw [h1]at hN1 u1
  simp only [aS]at hN1 u1
  have Xh:=mQ.up (qC b (at_+k1) e1 (by omega) (by omega)) GS
  rw [<-dB]at Xh
  obtain⟨⟨x2,k2,e2⟩,h2⟩ : ∃t,ny ((b.drop at_).drop k1) e1=t:=⟨_,rfl⟩
  have u2:=(oN ((b.drop at_).drop k1) e1).2.1
  rw [h2]at Xh u2
  simp only [aS]at Xh u2
  have hC:=mQ.up (Dy b (at_+k1+k2) e2 1073741824 (by omega) (by omega) (by decide)) GS
  rw [<-dB, <-dB]at hC
  obtain⟨⟨x3,k3,e3⟩,h3⟩ : ∃t,qg (((b.drop at_).drop k1).drop k2) e2 1073741824 5=t:=⟨_,rfl⟩
  rw [h3]at hC
  simp only at hC
  obtain⟨hk3,hx3,hfull⟩:=ah0 (b.drop at_) (min 16 (n-l.length)) (qh hb) x1 x2 x3 e1 e2 e3 k1 k2 k3 h1 h2 h3
  clear h1 h2 h3
  rw [aS]at hk3
  have hstep : ∀c k ok,Dw (b.drop at_) (min 16 (n-l.length)) c k ok->(ok=true->KT b n (l++c) (at_+k)∧0<c.length)∧GT3 b fun _=>ok=true:=fun c k ok hR=>hK.step hlt hR
  have hbad:(Q7 (b.drop at_) (min 16 (n-l.length)) fun _ _=>False)->GT3 b fun _=>False:=fun hno l0 h1 h2 h3=>Bool.false_ne_true ((hstep _ _ _ (Dw.no hno)).2 l0 h1 h2 h3)
  obtain⟨sz,rfl⟩ : ∃sz:Nat,x3=(sz:Int):=⟨x3.toNat,by omega⟩
  refine lV.to (y:=((n-l.length:Nat):Int)) (by rw [ah];dsimp only;rw [IntWalk.i64_in _ (by omega)];omega) ?_
  conv=>whnf
  have hmin:min (16:Int) ((n-l.length:Nat):Int)=((min 16 (n-l.length):Nat):Int):=by omega
  rw [hmin]
  have hrow:min 16 (n-l.length)<=16:=by omega
  have hrow1:0<min 16 (n-l.length):=by omega
  have hrow2:l.length+min 16 (n-l.length)<=n:=by omega
  generalize min 16 (n-l.length)=rows at *
  refine pW [0] [] (by kernel_rfl) hN1 rfl (by trivial) (by trivial) rfl ?_
  refine pW [0] [] (by kernel_rfl) Xh rfl (by trivial) (by trivial) rfl ?_
  refine pW [0] [] (by kernel_rfl) hC rfl (by trivial) (by trivial) rfl ?_
  conv=>whnf
  clear hN1 Xh hC
  apply lK<;>intro h
  ·have he:e3≠0:=by simpa using h
   exact lX (.nN [el [],iv 1]) 0 [] [] [] ⟨[],1,zV.no (hbad fun c r h1 h2 _=>he (hfull c r h1 h2 ‹_›).1),rfl,rfl,rfl⟩ rfl trivial (by trivial)
  have he:e3=0:=by simpa using h
  subst he
  obtain⟨q,hq⟩ : ∃q,q=at_+k1+k2+k3:=⟨_,rfl⟩
  have hqd:(((b.drop at_).drop k1).drop k2).drop k3=b.drop q:=by rw [dB,dB,dB,hq];congr 1;omega
  rw [hqd]at hfull
  rw [<-hq]
  have hqb:q<=b.length:=by omega
  refine lV.to (y:=((b.length-q:Nat):Int)) (by rw [ah,IntWalk.i64_in _ (by omega)];omega) ?_
  apply lK<;>intro h
  ·have hgt:b.length-q<sz:=by simp at h;omega
   exact lX (.nN [el [],iv 1]) 0 [] [] [] ⟨[],1,zV.no (hbad fun c r h1 h2 h3=>by
    obtain⟨_,g2,g3,_⟩:=hfull c r h1 h2 h3
    have:=congrArg List.length g3
    rw [ak,aS]at this
    omega),rfl,rfl,rfl⟩ rfl trivial (by trivial)
  have hle3:sz<=b.length-q:=by simp at h;omega
  (refine mP aeY [] (by kernel_rfl) ?_;conv=>whnf)
  repeat' (first
   | (refine And.intro ?_ ?_<;>(conv=>whnf))
   | (refine lV.to (y:=((q+sz:Nat):Int)) (by rw [IntWalk.i64_in _ (by omega)];omega) ?_;conv=>whnf)
   | (refine sN.mk' q (q+sz) rfl rfl (by omega) (by rw [ah];omega) ?_;conv=>whnf))
  have hcut:((b.map oh).take (q+sz)).drop q=((b.drop q).take sz).map oh:=by
   rw [gX,dU,bI,show q+sz-q=sz by omega]
  have hK0:KB (b.drop at_) rows 0 ((b.drop q).take sz) false:=⟨by rw [aK,aS];omega,fun c r h1 h2 h3=>by
   obtain⟨_,g2,g3,_⟩:=hfull c r h1 h2 h3
   exact⟨by rw [g3];exact aaw g2 rfl,rfl⟩⟩
  have hK1:=hK
  replace hK:=hK0
  clear hK0
  obtain⟨body,hbody⟩ : ∃y,y=(b.drop q).take sz:=⟨_,rfl⟩
  obtain⟨bad,hbd⟩ : ∃y,y=false:=⟨_,rfl⟩
  rw [<-hbody]at hcut hK
  rw [<-hbd]at hK
  refine nM [2] [] (by kernel_rfl) (He body bad rows hK.sz hrow) rfl (by refine⟨⟨rfl,⟨rfl,hcut⟩, ?_,trivial⟩,trivial⟩;rw [hbd];rfl) (by trivial) ?_
  rintro _ _ _ ⟨a,k,ok,hla,hta,_,hR,rfl,rfl,rfl⟩
  obtain⟨hK',hGa⟩:=hK.txt (·.client) (fun _=>rfl) (fun c hc=>oQ hc.s1) hR
  replace hK:=hK'
  clear hR hK'
  generalize body.drop k=body at *
  generalize (bad|| !ok)=bad at *
  refine⟨rfl, ?_⟩
  conv=>whnf
  clear hcut hbody hbd
  refine nM [2] [] (by kernel_rfl) (EX body bad rows hK.sz hrow) rfl (by trivial) (by trivial) ?_
  rintro _ _ _ ⟨s,k,ok,hls,hts,_,hR,rfl,rfl,rfl⟩
  obtain⟨hK',hGs⟩:=hK.num (·.seq) (fun _=>rfl) (fun c hc=>all_map fun e he=>(hc.ok e he).seq) hR
  replace hK:=hK'
  clear hR hK'
  generalize body.drop k=body at *
  generalize (bad|| !ok)=bad at *
  refine⟨rfl, ?_⟩
  refine nM [2] [] (by kernel_rfl) (EX body bad rows hK.sz hrow) rfl (by trivial) (by trivial) ?_
  rintro _ _ _ ⟨kk,k,ok,hlkk,alA,_,hR,rfl,rfl,rfl⟩
  obtain⟨hK',ajW⟩:=hK.num (·.kind) (fun _=>rfl) (fun c hc=>all_map fun e he=>(hc.ok e he).kind) hR
  replace hK:=hK'
  clear hR hK'
  generalize body.drop k=body at *
  generalize (bad|| !ok)=bad at *
  refine⟨rfl, ?_⟩
  refine nM [2] [] (by kernel_rfl) (EX body bad rows hK.sz hrow) rfl (by trivial) (by trivial) ?_
  rintro _ _ _ ⟨tm,k,ok,alB,alC,_,hR,rfl,rfl,rfl⟩
  obtain⟨hK',ajX⟩:=hK.num (·.time) (fun _=>rfl) (fun c hc=>all_map fun e he=>(hc.ok e he).time) hR
  replace hK:=hK'
  clear hR hK'
  generalize body.drop k=body at *
  generalize (bad|| !ok)=bad at *
  refine⟨rfl, ?_⟩
  refine nM [2] [] (by kernel_rfl) (He body bad rows hK.sz hrow) rfl (by trivial) (by trivial) ?_
  rintro _ _ _ ⟨d,k,ok,hld,htd,_,hR,rfl,rfl,rfl⟩
  obtain⟨hK',hGd⟩:=hK.txt (·.id) (fun _=>rfl) (fun c hc=>oQ hc.s2) hR
  replace hK:=hK'
  clear hR hK'
  generalize body.drop k=body at *
  generalize (bad|| !ok)=bad at *
  refine⟨rfl, ?_⟩
  refine nM [2] [] (by kernel_rfl) (He body bad rows hK.sz hrow) rfl (by trivial) (by trivial) ?_
  rintro _ _ _ ⟨nm,k,ok,alD,alE,_,hR,rfl,rfl,rfl⟩
  obtain⟨hK',ajY⟩:=hK.txt (·.name) (fun _=>rfl) (fun c hc=>oQ hc.s3) hR
  replace hK:=hK'
  clear hR hK'
  generalize body.drop k=body at *
  generalize (bad|| !ok)=bad at *
  refine⟨rfl, ?_⟩
  refine nM [2] [] (by kernel_rfl) (He body bad rows hK.sz hrow) rfl (by trivial) (by trivial) ?_
  rintro _ _ _ ⟨o,k,ok,hlo,hto,_,hR,rfl,rfl,rfl⟩
  obtain⟨hK',hGo⟩:=hK.txt (·.other) (fun _=>rfl) (fun c hc=>oQ hc.s4) hR
  replace hK:=hK'
  clear hR hK'
  generalize body.drop k=body at *
  generalize (bad|| !ok)=bad at *
  refine⟨rfl, ?_⟩
  refine nM [2] [] (by kernel_rfl) (EX body bad rows hK.sz hrow) rfl (by trivial) (by trivial) ?_
  rintro _ _ _ ⟨v,k,ok,hlv,htv,_,hR,rfl,rfl,rfl⟩
  obtain⟨hK',hGv⟩:=hK.num (·.ver) (fun _=>rfl) (fun c hc=>all_map fun e he=>(hc.ok e he).ver) hR
  replace hK:=hK'
  clear hR hK'
  generalize body.drop k=body at *
  generalize (bad|| !ok)=bad at *
  refine⟨rfl, ?_⟩
  refine nM [2] [] (by kernel_rfl) (EX body bad rows hK.sz hrow) rfl (by trivial) (by trivial) ?_
  rintro _ _ _ ⟨r,k,ok,hlr,htr,_,hR,rfl,rfl,rfl⟩
  obtain⟨hK',hGr⟩:=hK.num (·.arm) (fun _=>rfl) (fun c hc=>all_map fun e he=>(hc.ok e he).arm) hR
  replace hK:=hK'
  clear hR hK'
  generalize body.drop k=body at *
  generalize (bad|| !ok)=bad at *
  refine⟨rfl, ?_⟩
  refine nM [2] [] (by kernel_rfl) (EX body bad rows hK.sz hrow) rfl (by trivial) (by trivial) ?_
  rintro _ _ _ ⟨w,k,ok,hlw,htw,_,hR,rfl,rfl,rfl⟩
  obtain⟨hK',hGw⟩:=hK.num (·.val) (fun _=>rfl) (fun c hc=>all_map fun e he=>(hc.ok e he).val) hR
  replace hK:=hK'
  clear hR hK'
  generalize body.drop k=body at *
  generalize (bad|| !ok)=bad at *
  refine⟨rfl, ?_⟩
  conv=>whnf
  have hx:Cs.ok ⟨a,s,kk,tm,d,nm,o,v,r,w⟩ rows:=⟨⟨hla,hta⟩,⟨hls,hts⟩,⟨hlkk,alA⟩,⟨alB,alC⟩,⟨hld,htd⟩,⟨alD,alE⟩,⟨hlo,hto⟩,⟨hlv,htv⟩,⟨hlr,htr⟩,⟨hlw,htw⟩⟩
  apply lK<;>intro h
  ·exact lX (.nN [el [],iv 1]) 0 [] [] [] ⟨[],1,zV.no (hbad fun c r h1 h2 h3=>by
    have:=(hK.full c r h1 h2 h3).2
    rw [h]at this
    cases this),rfl,rfl,rfl⟩ rfl trivial (by trivial)
  have hRC:Dw (b.drop at_) rows (Cs.evs ⟨a,s,kk,tm,d,nm,o,v,r,w⟩ rows) (k1+k2+k3+sz) true:=by
   refine⟨fun _=>⟨Cs.Oo _ _,Cs.ah1 hx,by rw [aS];omega⟩,(fun h=>by cases h),fun c r' h1 h2 h3=> ?_⟩
   obtain⟨_,g2,g3,g4⟩:=hfull c r' h1 h2 h3
   refine⟨rfl, ?_,by omega⟩
   rw [hGa c r' h1 h2 h3,hGs c r' h1 h2 h3,ajW c r' h1 h2 h3,ajX c r' h1 h2 h3,hGd c r' h1 h2 h3,ajY c r' h1 h2 h3,hGo c r' h1 h2 h3,hGv c r' h1 h2 h3,hGr c r' h1 h2 h3,hGw c r' h1 h2 h3, <-h2]
   exact Cs.of c
  obtain⟨hK2,hc0⟩:=(hstep _ _ _ hRC).1 rfl
  clear hRC hstep hbad hfull hK hGa hGs ajW ajX hGd ajY hGo hGv hGr hGw
  obtain⟨x,hxe⟩ : ∃x:Cs,x=⟨a,s,kk,tm,d,nm,o,v,r,w⟩:=⟨_,rfl⟩
  rw [<-hxe]at hx hK2 hc0
  have hl5 : ∀i,(l++x.evs i).length=l.length+i:=fun i=>by rw [ak,Cs.Oo]
  have hlT:=hK2.len
  have haT:=hK2.atl
  rw [hl5]at hlT
  refine mO agE 4 [6,20] (fun i:Nat=> [(6, .own 3),(20,iv i)]) (fun i=> [(3, .rows 95 10 ((l++x.evs i).map rO)),(2,tr body bad),(0,tH b q 0)]) (fun i=>i<=rows) (fun i=>rows-i) [(3, .lab 1)] [] 0 (by kernel_rfl) (fun _=>rfl) rfl (au _) ⟨⟨rfl,rfl,by simp [Cs.evs]⟩,(by trivial),(by trivial),trivial⟩ (by trivial) ?_
  intro i hi
  apply lK<;>intro h
  ·have hlt:i<rows:=by simp at h;omega
   have g1:a[i]? = some (a.getD i []):=getD_at (by omega)
   have g2:s[i]? = some (s.getD i 0):=getD_at (by omega)
   have g3:kk[i]? = some (kk.getD i 0):=getD_at (by omega)
   have g4:tm[i]? = some (tm.getD i 0):=getD_at (by omega)
   have g5:d[i]? = some (d.getD i []):=getD_at (by omega)
   have g6:nm[i]? = some (nm.getD i []):=getD_at (by omega)
   have g7:o[i]? = some (o.getD i []):=getD_at (by omega)
   have g8:v[i]? = some (v.getD i 0):=getD_at (by omega)
   have g9:r[i]? = some (r.getD i 0):=getD_at (by omega)
   have g10:w[i]? = some (w.getD i 0):=getD_at (by omega)
   have hev:x.ev i=⟨a.getD i [],s.getD i 0,kk.getD i 0,tm.getD i 0,d.getD i [],nm.getD i [],o.getD i [],v.getD i 0,r.getD i 0,w.getD i 0⟩:=by rw [hxe];rfl
   have hl6:=hl5 i
   (refine mP aeY [] (by kernel_rfl) ?_;conv=>whnf)
   repeat' (first
    | (refine And.intro ?_ ?_<;>(conv=>whnf))
    | (refine mZ.mk' i rfl (by rw [ah];omega) ?_;conv=>whnf)
    | (refine mD.lT (by with_reducible assumption) ?_;conv=>whnf))
   refine lN.mk (Dq (by simp only [ah,bC,fK];omega)) ?_
   refine lV.i64 (by omega) ?_
   refine lU (i+1) [(3, .lab 5)] [] rfl (by show rows -(i+1)<rows-i;omega) hlt ⟨⟨rfl,rfl, ?_⟩,(by trivial),(by trivial),trivial⟩ (by trivial)
   rw [Cs.aav, <-aH,hev]
   rw [aJ (l₁:=l++x.evs i)]
   refine congrArg (List.map rO (l++x.evs i)++ ·) ?_
   simp only [gG,jB,rO]
  have hie:i=rows:=by simp at h;omega
  subst hie
  refine lV.to (y:=((q+sz:Nat):Int)) (by rw [IntWalk.i64_in _ (by omega)];omega) ?_
  exact lU ⟨l++x.evs i,at_+(k1+k2+k3+sz)⟩ [(1, .lab 3)] [] rfl (by show n -(l++x.evs i).length<n-l.length;rw [hl5];omega) hK2 ⟨(by trivial),⟨rfl,⟨rfl,rfl⟩,congrArg (fun n:Nat=>Value.int .i64 (n:Int)) (show q+sz=at_+(k1+k2+k3+sz) by omega),rfl,trivial⟩,trivial⟩ ⟨rfl,trivial⟩
 have hln:l.length=n:=by simp at h;omega
 have hfin:=hK.fin hln
 have hT:=G9 l hK.ok (by omega)
 refine mY [1] (by kernel_rfl) (hT) (by trivial) ?_
 apply lK<;>intro h
 ·have he:e≠0:=by simpa using h
  exact lX (.nN [el [],iv 1]) 0 [] [] [] ⟨[],1,zV.no fun l0 h1 h2 h3=>he (hhead l0 h1 h2 h3).1,rfl,rfl,rfl⟩ rfl trivial (by trivial)
 apply lK<;>intro h
 ·have he:uN l≠0:=by simpa using h
  exact lX (.nN [el [],iv 1]) 0 [] [] [] ⟨[],1,zV.no fun l0 h1 h2 h3=>he (by rw [hfin l0 h1 h2 h3];exact h2),rfl,rfl,rfl⟩ rfl trivial (by trivial)
 have he:uN l=0:=by simpa using h
 have etb:Dt l=tab l:=by unfold Dt;rw [if_pos he]
 rw [etb]
 refine F7.of ?_
 refine F7.of ?_
 apply lK<;>intro h
 ·have hp : ¬tab l=b:=by simpa [qP]using h
  exact lX (.nN [el [],iv 1]) 0 [] [] [] ⟨[],1,zV.no fun l0 h1 h2 h3=>hp (by rw [hfin l0 h1 h2 h3];exact h3.symm),rfl,rfl,rfl⟩ rfl trivial (by trivial)
 ·have hp:tab l=b:=by simpa [qP]using h
  exact lX (.nN [el l,iv 0]) 0 [] [] [] ⟨l,0,⟨hK.ok,by omega, .inl ⟨rfl,he,hp⟩,fun l0 h1 h2 h3=>⟨rfl,hfin l0 h1 h2 h3⟩⟩,rfl,rfl,rfl⟩ rfl trivial ⟨⟨rfl,rfl⟩,rfl,trivial⟩
end
section
open Ky
attribute [local irreducible] num hsh AU wo qp lg FU tab wF Bd sec hG hF hI hN
theorem aax (s:By)(hl:s.length=64):mQ Tryz.prog GS 114 [bs s] 0 [] (Is (.nN [iv (hG s),bv (wo s)])):=by
 have hk : ∀k,k<64->s[k]? = some (s.getD k 0):=fun k hk=>by rw [ay,aj (by omega),bH]
 have k6:=hk 6 (by decide)
 have k7:=hk 7 (by decide)
 have hN1:=Dz GS (s.take 4) (by rw [aK];omega)
 have Xh:=Dz GS ((s.drop 4).take 2) (by rw [aK];omega)
 have hgl:=Qu s
 have hg2:Lr (s.take 4)=hG s:=by unfold hG;rfl
 rw [hg2]at hN1
 refine lQ func114 rfl mixed (by kernel_rfl) ?_
 refine sN.mk' 0 4 rfl rfl (au _) (by rw [ah];omega) ?_
 refine mY [] (by kernel_rfl) hN1 ⟨⟨rfl,dU.symm⟩,trivial⟩ ?_
 refine lV.to (y:=(hG s:Int)) (IntWalk.i64_in _ (by omega)) ?_
 conv=>whnf
 have hr:wo s=(decide (0<hG s)&&(decide (hI s<hN s)&&decide (s=sec (hG s) (hF s) (hI s) (hN s) (s.drop 16)))):=by
  unfold wo;rw [decide_eq_true hl,gW]
 have e3:hI s=(s.getD 6 0).toNat:=by unfold hI;rfl
 have e4:hN s=(s.getD 7 0).toNat:=by unfold hN;rfl
 have hi6:=(s.getD 6 0).toNat_lt
 have hi7:=(s.getD 7 0).toNat_lt
 have alh:(s.drop 16).length=48:=by rw [aS,hl]
 have hfl:hF s<65536:=by
  unfold hF
  have:=NK ((s.drop 4).take 2)
  rw [show ((s.drop 4).take 2).length=2 by rw [aK,aS];omega]at this
  exact this
 have hf2:hF s=Lr ((s.drop 4).take 2):=by unfold hF;rfl
 have hS:=mQ.Fv (Qy GS (hG s) (hF s) (hI s) (hN s) (s.drop 16) hgl hfl (by omega) (by omega) (by omega))
 rw [<-hf2]at Xh
 rw [e3,e4]at hr hS
 generalize s.getD 6 0=a6 at *
 generalize s.getD 7 0=a7 at *
 generalize hG s=g at *
 refine mP agK [] (by kernel_rfl) ?_
 refine NP [0,1,2,3] ?_
 refine⟨Gy 12 rfl (fun h=> ?_) (fun h=> ?_)⟩
 ·have hg0:0<g:=by have:=of_decide_eq_true h;omega
  refine NP [4,5,6,7,8,9,10,11,12] ?_
  refine mZ.mk' 6 rfl (by rw [ah];omega) ?_
  refine mD.lT k6 ?_
  refine mZ.mk' 7 rfl (by rw [ah];omega) ?_
  refine mD.lT k7 ?_
  refine⟨Gy 21 rfl (fun h=> ?_) (fun h=> ?_)⟩
  ·have him:a6.toNat<a7.toNat:=by have:=of_decide_eq_true h;omega
   have hrr:wo s=decide (s=sec g (hF s) a6.toNat a7.toNat (s.drop 16)):=by
    rw [hr,decide_eq_true hg0,decide_eq_true him,gW,gW]
   refine F7.of ?_
   refine sN.mk' 4 6 rfl rfl (by decide) (by rw [ah];omega) ?_
   conv=>whnf
   repeat' (first
    | (refine nO [] (by kernel_rfl) Xh ?_ ?_;(focus (exact⟨⟨rfl,by rw [dU,bI];exact gX⟩,trivial⟩));rintro _ _ _ ⟨rfl,rfl,rfl⟩;conv=>whnf)
    | (refine mZ.mk' 6 rfl (by rw [ah];omega) ?_;conv=>whnf)|(refine mZ.mk' 7 rfl (by rw [ah];omega) ?_;conv=>whnf)
    | (refine mD.lT k6 ?_;conv=>whnf)|(refine mD.lT k7 ?_;conv=>whnf)
    | (refine lV.to (y:=(hF s:Int)) (IntWalk.i64_in _ (by omega)) ?_;conv=>whnf)
    | (refine lV.i64 (by omega) ?_;conv=>whnf)
    | (refine sN.mk' 16 s.length rfl (by rw [ah]) (by omega) (by rw [ah];exact aA _) ?_;conv=>whnf))
   refine mY [] (by kernel_rfl) hS ⟨rfl,rfl,rfl,rfl,⟨rfl,bI.symm⟩,trivial⟩ ?_
   refine F7.of ?_
   conv=>whnf
   rw [hrr]
   exact lZ [] ⟨rfl,congrArg Value.bool (qP _ _),trivial⟩
  ·have him : ¬a6.toNat<a7.toNat:=by have:=of_decide_eq_false h;omega
   have hrr:wo s=false:=by rw [hr,decide_eq_false him,dY,Bool.and_false]
   rw [hrr]
   exact lZ [] (by trivial)
 ·have hg0:g=0:=by have:=of_decide_eq_false h;omega
  have hrr:wo s=false:=by rw [hr,decide_eq_false (by omega),dY]
  rw [hrr]
  exact lZ [] (by trivial)
theorem WU (d:Dk)(h:d.ok):mQ Tryz.prog GS 83 [uY d] 0 [] (Is (iv (wG 0 d.now))):=by
 have hhi:=h.hi
 have h64:=h.n64
 refine lQ func83 rfl mixed (by kernel_rfl) ?_
 refine uj agF [3,4] (fun i:Nat=> [(3,iv (wG 0 (d.now.take i))),(4,iv i)]) (fun i=>i<=d.now.length) (fun i=>d.now.length-i) 0 (by kernel_rfl) (fun _=>rfl) (by kernel_rfl) (au _) (by trivial) (by trivial) ?_
 intro i hi
 apply lK<;>intro h
 rotate_left
 ·have hie:i=d.now.length:=by simp only [ah]at h;simp at h;omega
  subst hie
  rw [aW]
  exact lZ [] rfl
 have hlt:i<d.now.length:=by simp only [ah]at h;simp at h;omega
 have hs:=QE (a:=0) hlt
 refine mZ.mk' i rfl (pU hlt) ?_
 refine mD.lT (aj hlt) ?_
 refine mY [] (by kernel_rfl) (aax d.now[i] (h64 _ (aT hlt))) (by trivial) ?_
 apply lK<;>intro h
 ·rw [if_pos h]at hs
  refine lV.i64 (by omega) ?_
  exact lU (i+1) [] [] rfl (by show d.now.length -(i+1)<d.now.length-i;omega) hlt (by trivial) ⟨Ak hs.symm,rfl,trivial⟩
 ·rw [h,if_neg (by decide)]at hs
  refine lV.i64 (by omega) ?_
  exact lU (i+1) [] [] rfl (by show d.now.length -(i+1)<d.now.length-i;omega) hlt (by trivial) ⟨Ak hs.symm,rfl,trivial⟩
def FaR (l:List By)(a:AV)(n:Nat)(H:lM):Prop:= ∃k:Nat,a = .nN [iv (qp l).1,iv (qp l).2.1,bs (qp l).2.2.2.1,iv k,bv (qp l).2.2.2.2]∧n=0∧H = []∧((qp l).2.2.2.2=true->k=(qp l).2.2.1)
theorem ah2 {l:List By}{a e:Nat}(ha:a<e)(he:e<=l.length):0<((l.take e).drop a).length∧((l.take e).drop a)[0]? = some (l[a]'(by omega))∧((l.take e).drop a).length=e-a:=by
 have hl:((l.take e).drop a).length=e-a:=by rw [aS,aK];omega
 refine⟨by omega, ?_,hl⟩
 rw [dA,dS,jG ha,aj (by omega)]
theorem QN (d:Dk)(h:d.ok)(a e:Nat)(ha:a<=e)(he:e<=d.now.length):mQ Tryz.prog GS 49 [uY d,iv a,iv e] 0 [] (FaR ((d.now.take e).drop a)):=by
 have hhi:=h.hi
 have h64:=h.n64
 have zero:qp ((d.now.take e).drop a)=nxZ->∀k:Nat,FaR ((d.now.take e).drop a) (.nN [iv 0,iv 0,bs [],iv k,bv false]) 0 []:=fun e k=>by
  unfold FaR;rw [e];exact⟨k,rfl,rfl,rfl,fun h=>by cases h⟩
 refine lQ func49 rfl mixed (by kernel_rfl) ?_
 apply lK<;>intro h
 ·have h0:(d.now.take e).drop a = []:=aI (by rw [aS,aK];simp at h;omega)
  exact lX (.nN [iv 0,iv 0,bs [],iv (0:Nat),bv false]) 0 [] [] [] (zero (by rw [h0,GV]) 0) rfl trivial (by trivial)
 have hae:a<e:=by simp at h;omega
 obtain⟨f1,f2,f3⟩:=ah2 hae he
 have hlt:a<d.now.length:=by omega
 have am2:=h64 d.now[a] (aT hlt)
 have k7:d.now[a][7]? = some (d.now[a].getD 7 0):=by rw [ay,aj (by omega),bH]
 have hN7:hN d.now[a]=(d.now[a].getD 7 0).toNat:=by unfold hN;rfl
 have hi7:=(d.now[a].getD 7 0).toNat_lt
 have hg:((d.now.take e).drop a)[0]=d.now[a]:=by
  rw [aj f1]at f2;injection f2
 have hnd:=DC f1
 rw [hg,hN7,f3]at hnd
 generalize d.now[a].getD 7 0=a7 at *
 refine mZ.mk' a rfl (pU hlt) ?_
 refine mD.lT (aj hlt) ?_
 refine mZ.mk' 7 rfl (by rw [ah];omega) ?_
 refine mD.lT k7 ?_
 refine lV.i64 (by omega) ?_
 apply lK<;>intro h
 ·have h1:a7.toNat<1:=by simp at h;omega
  exact lX (.nN [iv 0,iv 0,bs [],iv (0:Nat),bv false]) 0 [] [] [] (zero (by rw [hnd,if_pos (.inl h1)]) 0) rfl trivial (by trivial)
 have h1 : ¬a7.toNat<1:=by simp at h;omega
 refine lV.i64 (by omega) ?_
 apply lK<;>intro h
 ·have h2:e-a<a7.toNat:=by simp at h;omega
  exact lX (.nN [iv 0,iv 0,bs [],iv (0:Nat),bv false]) 0 [] [] [] (zero (by rw [hnd,if_pos (.inr h2)]) 0) rfl trivial (by trivial)
 have h2 : ¬e-a<a7.toNat:=by simp at h;omega
 rw [if_neg (by omega)]at hnd
 have hB:=aex GS (((d.now.take e).drop a).take a7.toNat) (by rw [aK];omega)
 unfold Qz at hB
 have hcut:((d.now.map FB).take (a+a7.toNat)).drop a=(((d.now.take e).drop a).take a7.toNat).map FB:=by
  rw [gX, <-bI, <-dU]
  congr 1
  rw [gX,kE]
  congr 1
  omega
 refine lV.to (y:=((a+a7.toNat:Nat):Int)) (by rw [IntWalk.i64_in _ (by omega)];omega) ?_
 refine sN.mk' a (a+a7.toNat) rfl rfl (by omega) (by rw [ah];omega) ?_
 refine mY [] (by kernel_rfl) hB ⟨⟨rfl,hcut⟩,trivial⟩ ?_
 conv=>whnf
 generalize (d.now.take e).drop a=l at *
 rcases Au (l.take a7.toNat)with ⟨g',f',b',hx,e1⟩|⟨_,e1⟩
 ·rw [e1]at hnd
  have hnd:qp l=(((g':Nat):Int),((f':Nat):Int),a7.toNat,b',true):=hnd
  refine lX (.nN [iv g',iv f',bs b',iv (a7.toNat:Nat),bv true]) 0 [] [] [] ?_ rfl trivial ?_
  ·unfold FaR;rw [hnd];exact⟨_,rfl,rfl,rfl,fun _=>rfl⟩
  ·rw [e1];trivial
 ·rw [e1]at hnd
  have hnd:qp l=nxZ:=hnd
  refine lX (.nN [iv 0,iv 0,bs [],iv (a7.toNat:Nat),bv false]) 0 [] [] [] (zero hnd _) rfl trivial ?_
  rw [e1];trivial
end
section
open Ky
attribute [local irreducible] num hsh AU wo qp lg FU zo tab wF Bd sec hG hF hI hN
abbrev zA (d:Dk)(h:Nat):List By:=(d.now.take ((h+1)*(d.now.length/2))).drop (h*(d.now.length/2))
theorem aj0 (d:Dk):zA d 0=d.now.take (d.now.length/2):=by
 unfold zA;rw [fJ,dJ,aV,dF]
theorem aj1 (d:Dk)(h:d.now.length%2=0):zA d 1=d.now.drop (d.now.length/2):=by
 unfold zA;rw [dF,show (1+1)*(d.now.length/2)=d.now.length by omega,aW]
structure RS where
 out:List Ev
 j:Nat
 k:Nat
theorem aj2 (d:Dk)(h:d.ok)(hv:Nat)(hv1:hv<=1)(g:Int):mQ Tryz.prog GS 50 [uY d,iv hv,iv g] 0 [] (Is (el (zo [] (lg g (zA d hv) 0)))):=by
 have hhi:=h.hi
 have hm1:hv*(d.now.length/2)<=d.now.length/2:=by
  have:=aX (d.now.length/2) hv1
  omega
 have hm2:(hv+1)*(d.now.length/2)=hv*(d.now.length/2)+d.now.length/2:=by rw [bJ,dF]
 have hF:=fun j hj=>QN d h (hv*(d.now.length/2)+j) ((hv+1)*(d.now.length/2)) hj (by omega)
 have hLl:(zA d hv).length=d.now.length/2:=by unfold zA;rw [aS,aK];omega
 have hdd : ∀j,(d.now.take ((hv+1)*(d.now.length/2))).drop (hv*(d.now.length/2)+j)=(zA d hv).drop j:=fun j=>by unfold zA;rw [dB]
 simp only [hdd]at hF
 generalize zA d hv=L at *
 obtain⟨a0,ha0⟩ : ∃a,a=hv*(d.now.length/2):=⟨_,rfl⟩
 obtain⟨e0,he0⟩ : ∃a,a=(hv+1)*(d.now.length/2):=⟨_,rfl⟩
 rw [<-ha0, <-he0]at hm2 hF
 rw [<-ha0]at hm1
 refine lQ func50 rfl mixed (by kernel_rfl) ?_
 (refine mP aiP [] (by kernel_rfl) ?_;conv=>whnf)
 refine lN.mk (by decide) ?_
 rw [ah]
 refine lV.divN d.now.length 2 (by omega) ?_
 refine lV.to (y:=(a0:Int)) (by rw [IntWalk.i64_in _ (by rw [<-dN];omega),ha0];omega) ?_
 refine lV.to (y:=((hv+1:Nat):Int)) (by rw [IntWalk.i64_in _ (by omega)];omega) ?_
 refine lN.mk (by decide) ?_
 rw [ah]
 refine lV.divN d.now.length 2 (by omega) ?_
 refine lV.to (y:=(e0:Int)) (by rw [IntWalk.i64_in _ (by rw [<-dN];omega),he0];omega) ?_
 refine mO agn 2 [7,9,10] (fun x:RS=> [(7,iv ((a0+x.j:Nat):Int)),(9, .own 1),(10,iv x.k)]) (fun x=> [(0, .var 40 (dkC d)),(1, .rows 95 10 (x.out.map rO))]) (fun x=>x.j<=L.length∧x.k<=x.j∧x.out.length<=512∧zo [] (lg g L 0)=zo x.out (lg g (L.drop x.j) x.k)) (fun x=>L.length-x.j) [(1, .nil)] [] ⟨[],0,0⟩ (by kernel_rfl) (fun _=>rfl) rfl ⟨au _,aA _,au _,rfl⟩ (by trivial) (by trivial) ?_
 rintro⟨out,j,k⟩ ⟨hj,hkj,ho,hI⟩
 dsimp only at hj hkj ho hI
 rw [hI]
 have hgo:=Vh (g:=g) (l:=L.drop j) (k:=k)
 have hst:=Ob (g:=g) (l:=L.drop j) (k:=k)
 have hnx:= @BN (L.drop j)
 have hll:=(aag (g:=g) (m:=(L.drop j).length) (l:=L.drop j) (k:=k) (aA _)).2
 refine nO [] (by kernel_rfl) (hF j (by omega)) (by trivial) ?_
 rintro _ _ _ ⟨n,rfl,rfl,rfl,hn⟩
 obtain⟨g2,f2,n2,b2,ok2,hq2⟩ : ∃g f n b ok,qp (L.drop j)=(g,f,n,b,ok):=⟨_,_,_,_,_,rfl⟩
 rw [hq2]at hn hgo hst hnx ⊢
 dsimp only at hn hgo hst hnx ⊢
 apply lK<;>intro h
 ·have hx:ok2=false:=by simpa using h
  rw [hst (by rw [hx];simp)]
  have e:zo out []=out:=by unfold zo;rfl
  rw [e]
  exact lZ [1] (by trivial)
 have hok2:ok2=true:=by simpa using h
 subst hok2
 apply lK<;>intro h
 ·have hx:g2≠g:=by simpa using h
  rw [hst (fun hy=>hx hy.2.1)]
  have e:zo out []=out:=by unfold zo;rfl
  rw [e]
  exact lZ [1] (by trivial)
 have hg2:g2=g:=by simpa using h
 subst hg2
 apply lK<;>intro h
 ·have hx:f2≠(k:Int):=by simpa using h
  rw [hst (fun hy=>hx hy.2.2)]
  have e:zo out []=out:=by unfold zo;rfl
  rw [e]
  exact lZ [1] (by trivial)
 have hf2:f2=(k:Int):=by simpa using h
 subst hf2
 obtain rfl:=hn rfl
 have hgo:=hgo ⟨rfl,rfl,rfl⟩
 obtain⟨g0,f0,b0,_,q0,q1,q2⟩:=hnx rfl
 injection q0 with _ q0
 injection q0 with _ q0
 injection q0 with q0 _
 rw [<-q0]at q1 q2
 rw [aS]at q1
 have hbl:=hll b2 (by rw [hgo];exact bG ..)
 rw [hgo]
 refine nO [] (by kernel_rfl) (QM b2 (by omega)) (by trivial) ?_
 rintro _ _ _ ⟨l,e,hR,rfl,rfl,rfl⟩
 have hrd:=Z5 hR
 have hlz:=hR.2.1
 have hstep : ∀r,zo out (b2::r)=if e≠0∨512<out.length+l.length then out else zo (out++l) r:=fun r=>by
  rw [zo.eq_def];simp only [hrd]
 rw [hstep]
 apply lK<;>intro h
 ·have he:e≠0:=by simpa using h
  rw [if_pos (.inl he)]
  exact lZ [1] (by trivial)
 have he:e=0:=by simpa using h
 subst he
 refine lV.i64 (by simp only [ah];omega) ?_
 apply lK<;>intro h
 ·have hg:512<out.length+l.length:=by simp only [ah]at h;simp at h;omega
  rw [if_pos (.inr hg)]
  exact lZ [1] (by trivial)
 have hg : ¬512<out.length+l.length:=by simp only [ah]at h;simp at h;omega
 have hz:zo [] (lg g2 L 0)=zo (out++l) (lg g2 (L.drop (j+n)) (k+1)):=by
  rw [hI,hgo,hstep,if_neg (by simp only [not_or];exact⟨by simp,hg⟩),dB]
 refine lN.mk (Dq (by simp only [ah];omega)) ?_
 refine lV.to (y:=((a0+(j+n):Nat):Int)) (by(try dsimp only);rw [IntWalk.i64_in _ (by omega)];omega) ?_
 refine lV.i64 (by(try dsimp only);omega) ?_
 conv=>whnf
 rw [<-hstep, <-hgo, <-hI]
 exact lU ⟨out++l,j+n,k+1⟩ [(1, .lab 2)] [] rfl (by show L.length -(j+n)<L.length-j;omega) ⟨by show j+n<=_;omega,by show k+1<=j+n;omega,by show (out++l).length<=512;rw [ak];omega,hz⟩ ⟨(by trivial),⟨rfl,rfl,JB out l⟩,trivial⟩ ⟨rfl,rfl,rfl,trivial⟩
theorem WV (g f:Int)(b:By):uz g f b=0∨uz g f b=3∨uz g f b=4:=by
 unfold uz;split
 ·exact .inr (.inl rfl)
 ·split
  ·exact .inr (.inr rfl)
  ·exact .inl rfl
theorem Vu (d:Dk)(h:d.ok)(g:Int)(l:List Ev)(he:(∀e∈l,e.ok)∧uN l=0):mQ Tryz.prog GS 62 [uY d,iv g,el l] 0 [] (Is (.nN [ss (zy g 0 (tab l)),bv (decide (uz g 0 (tab l)=0∧nS (tab l)<=d.now.length/2))])):=by
 have hhi:=h.hi
 have hT:=G9 l he.1 (by have:=(xk he.2).1;omega)
 have e1:Dt l=tab l:=by unfold Dt;rw [if_pos he.2]
 rw [e1,he.2]at hT
 have hS:=ER GS g 0 (tab l) (by have:=zW he.1 he.2;omega)
 refine lQ func62 rfl mixed (by kernel_rfl) ?_
 refine mY [] (by kernel_rfl) hT (by trivial) ?_
 conv=>whnf
 rcases WV g 0 (tab l)with h0|h0|h0
 ·have hl:=xR h0
  have hx : ∀p:Prop,[Decidable p]->decide (uz g 0 (tab l)=0∧p)=decide p:=fun p _=>by simp [h0]
  rw [hx]
  rw [h0]at hS
  refine mY [] (by kernel_rfl) hS (by trivial) ?_
  (refine mP Yl [] (by kernel_rfl) ?_;conv=>whnf)
  refine lN.mk (by decide) ?_
  rw [ah]
  refine lV.divN d.now.length 2 (by omega) ?_
  refine lZ [] ⟨(by trivial),congrArg Value.bool ?_,trivial⟩
  rw [ah,hl.1]
  simp
  omega
 ·have hx : ∀p:Prop,[Decidable p]->decide (uz g 0 (tab l)=0∧p)=false:=fun p _=>by simp [h0]
  rw [hx]
  rw [h0]at hS
  refine mY [] (by kernel_rfl) hS (by trivial) ?_
  (refine mP Yl [] (by kernel_rfl) ?_;conv=>whnf)
  exact lZ [] (by trivial)
 ·have hx : ∀p:Prop,[Decidable p]->decide (uz g 0 (tab l)=0∧p)=false:=fun p _=>by simp [h0]
  rw [hx]
  rw [h0]at hS
  refine mY [] (by kernel_rfl) hS (by trivial) ?_
  (refine mP Yl [] (by kernel_rfl) ?_;conv=>whnf)
  exact lZ [] (by trivial)
theorem Oq (d:Dk):mQ Tryz.prog GS 48 [uY d,iv 40] 0 [] (Is (.nN [stA (So.Jt d),iv 40])):=by
 refine lQ func48 rfl mixed (by kernel_rfl) ?_
 exact lZ [] (by trivial)
theorem Vw (d:Dk)(h:d.ok)(at_:Nat)(l:List By)(h64:U7 l)(hat:at_+l.length<=d.now.length):mQ Tryz.prog GS 63 [uY d,iv at_,ss l] 0 [] (Is (.nN [uY (yN d at_ l).1,iv (yN d at_ l).2])):=by
 have hhi:=h.hi
 have hdd:d.dead=true->yN d at_ l=(d,40):=fun hx=>by
  cases l with
  | nil=>unfold yN;rw [if_pos hx]
  | cons s r=>unfold yN;rw [if_pos hx]
 refine lQ func63 rfl mixed (by kernel_rfl) ?_
 apply lK<;>intro h
 ·rw [hdd h]
  exact lZ [] (by trivial)
 refine mO agx 2 [9] (fun x:WS=> [(9,iv x.i)]) (fun x=> [(0, .var 40 (dkC x.d)),(1, .var 40 [.v (.slice none 0 0), .v (.slice none 0 0),iv 0,iv 0,bv false])]) (fun x=>x.i<=l.length∧x.d.ok∧x.d.dead=false∧x.d.now.length=d.now.length∧yN d at_ l=yN x.d (at_+x.i) (l.drop x.i)) (fun x=>l.length-x.i) [] [] ⟨d,0⟩ (by kernel_rfl) (fun _=>rfl) rfl ⟨au _,by assumption,h,rfl,rfl⟩ (by trivial) (by trivial) ?_
 rintro⟨d1,i⟩ ⟨hi,hok,hd,hlen,hw⟩
 dsimp only at hi hok hd hlen hw
 rw [hw]
 have hd' : ¬d1.dead=true:=by rw [hd];decide
 apply lK<;>intro h
 ·have hlt:i<l.length:=by simp at h;omega
  have h6:=h64 l[i] (aT hlt)
  have hstep:yN d1 (at_+i) (l.drop i)=if d1.dead then(d1,40)else if d1.fuse=0 then(d1.dying,40)else yN (d1.put (at_+i) l[i]) (at_+i+1) (l.drop (i+1)):=by
   rw [dI hlt];rfl
  have hW:=aez d1 hok (at_+i) (by omega) l[i] h6
  unfold dWt at hW
  rw [if_neg hd']at hW hstep
  refine mP (fun _=> .take 1 (tk [2,3,4,5,6,7] (.one 0 (.post 8 (tk [9,10,11] (.one 12 (.take 13 .done))))))) [0] (by kernel_rfl) ?_
  refine lV.to (y:=((at_+i:Nat):Int)) (by(try dsimp only);rw [IntWalk.i64_in _ (by omega)];omega) ?_
  refine mZ.mk' i rfl (pU hlt) ?_
  refine mD.lT (aj hlt) ?_
  conv=>whnf
  by_cases hf:d1.fuse=0
  ·rw [if_pos hf]at hW hstep
   rw [hstep]
   refine mY [] (by kernel_rfl) hW (by trivial) ?_
   exact lZ [] (by trivial)
  ·rw [if_neg hf]at hW hstep
   refine mY [] (by kernel_rfl) hW (by trivial) ?_
   refine lV.i64 (by(try dsimp only);omega) ?_
   refine lU ⟨d1.put (at_+i) l[i],i+1⟩ [] [] rfl (by show l.length -(i+1)<l.length-i;omega) ⟨hlt,hok.put h6,hd, ?_,hstep⟩ (by trivial) ⟨rfl,trivial⟩
   show (d1.now.set (at_+i) l[i]).length=d.now.length
   rw [bV];exact hlen
 have hie:i=l.length:=by simp at h;omega
 subst hie
 have hstep:yN d1 (at_+l.length) (l.drop l.length)=if d1.dead then(d1,40)else if d1.fuse=0 then(d1.dying,40)else(d1.flush,0):=by
  rw [iI];rfl
 have hW:=aeA d1 hok
 unfold dFl at hW
 rw [if_neg hd']at hW hstep
 rw [hstep]
 conv=>whnf
 by_cases hf:d1.fuse=0
 ·rw [if_pos hf]at hW ⊢
  refine mY [] (by kernel_rfl) hW (by trivial) ?_
  exact lZ [] (by trivial)
 ·rw [if_neg hf]at hW ⊢
  refine mY [] (by kernel_rfl) hW (by trivial) ?_
  exact lZ [] (by trivial)
theorem EY (s:So)(hd:s.d.ok)(he:(∀e∈s.ev,e.ok)∧uN s.ev=0)(hg:0<=s.gen∧s.gen<=4294967295)(hh:s.half=0∨s.half=1):mQ Tryz.prog GS 51 [stA s] 0 [] (Is (.nN [stA (uO s).1,iv (uO s).2])):=by
 have hhi:=hd.hi
 have hG:=WU s.d hd
 have hgm:=U8 s.d.now s.gen hg.1
 have hgr:=Z4 (l:=s.d.now) hg.2
 have alv:=N8 (l:=s.d.now) (a:=s.gen)
 have hWh:=Vu s.d hd (wG s.gen s.d.now+1) s.ev he
 refine lQ func51 rfl mixed (by kernel_rfl) ?_
 (refine mP aiQ [] (by kernel_rfl) ?_;conv=>whnf)
 refine mY [] (by kernel_rfl) hG (by trivial) ?_
 refine lV.to (y:=wG s.gen s.d.now+1) (by rw [<-hgm];exact IntWalk.i64_in _ (by omega)) ?_
 refine mY [] (by kernel_rfl) hWh (by trivial) ?_
 apply lK<;>intro h
 ·have hx:uz (wG s.gen s.d.now+1) 0 (tab s.ev)≠0∨s.d.now.length/2<nS (tab s.ev):=by
   by_cases h0:uz (wG s.gen s.d.now+1) 0 (tab s.ev)=0
   ·right;simp [h0]at h;omega
   ·exact .inl h0
  rw [AB hx]
  exact lZ [] (by trivial)
 have h1:uz (wG s.gen s.d.now+1) 0 (tab s.ev)=0∧nS (tab s.ev)<=s.d.now.length/2:=by simp at h;exact⟨h.1,by omega⟩
 obtain⟨he0,hle⟩:=h1
 obtain⟨hL1,hL2⟩:=xR he0
 obtain⟨hv,WM,hh2⟩ : ∃hv:Nat,1-s.half=(hv:Int)∧hv<=1:=⟨(1-s.half).toNat,by omega,by omega⟩
 obtain⟨d,e,hw⟩ : ∃d e,yN s.d ((1-s.half).toNat*(s.d.now.length/2)) (zy (wG s.gen s.d.now+1) 0 (tab s.ev))=(d,e):=⟨_,_,rfl⟩
 rw [G5 (by omega) hw]
 have hm:hv*(s.d.now.length/2)<=s.d.now.length/2:=by
  have:=aX (s.d.now.length/2) hh2
  omega
 rw [WM,dh]at hw
 have hwo:=EP (at_:=hv*(s.d.now.length/2)) hd hL2
 have hW:=Vw s.d hd (hv*(s.d.now.length/2)) (zy (wG s.gen s.d.now+1) 0 (tab s.ev)) hL2 (by rw [hL1];omega)
 rw [hw]at hwo hW
 refine lV.to (y:=(hv:Int)) (by rw [WM];exact IntWalk.i64_in _ (by omega)) ?_
 refine lN.mk (by decide) ?_
 rw [ah]
 refine lV.divN s.d.now.length 2 (by omega) ?_
 refine lV.to (y:=((hv*(s.d.now.length/2):Nat):Int)) (by rw [IntWalk.i64_in _ (by rw [<-dN];omega)];omega) ?_
 refine mY [] (by kernel_rfl) hW (by trivial) ?_
 apply lK<;>intro h
 ·have hne:e≠0:=by simpa using h
  have h40:e=40:=by rcases hwo.2.2 with h|h;exact absurd h hne;exact h.1
  subst h40
  rw [if_pos hne]
  refine mY [] (by kernel_rfl) (Oq d) (by trivial) ?_
  exact lZ [] (by trivial)
 have TN:e=0:=by simpa using h
 rw [if_neg (by rw [TN];simp)]
 conv=>whnf
 rw [WM]
 refine lZ [] ⟨⟨⟨rfl,rfl⟩,⟨rfl,rfl⟩,rfl,rfl,rfl,rfl,rfl,congrArg (fun n:Nat=>Value.int .i64 (n:Int)) (by rw [ah,hL1]),rfl,⟨rfl,rfl⟩,trivial⟩,rfl,trivial⟩
theorem aay {s:So}{g:Int}(h0:0<=g)(h:g<=wG 0 s.d.now)(hs:s.gen=0):uO {s with gen:=g} = uO s:=by
 have e:wG g s.d.now=wG s.gen s.d.now:=by rw [hs,U8 _ g h0];omega
 unfold uO
 dsimp only
 rw [e]
theorem aeC {l:List By}(h:(qp l).2.2.2.2=true):1<=(qp l).1∧(qp l).1<=4294967295∧∃s∈l,wo s=true∧(hG s:Int)=(qp l).1:=by
 obtain⟨g,f,b,hx,e,h1,h2⟩:=BN h
 rw [e]at hx ⊢
 dsimp only at hx ⊢
 have hsc:=zO hx.1
 have hl:=hx.len
 have h3:=hx.at (i:=0) (by omega)
 refine⟨hsc.1,hsc.2.1,(l.take (nS b))[0]'(by omega),fD (aT (by omega)),h3.2.1, ?_⟩
 rw [h3.2.2.1]
structure PS where
 g:Int
 h:Nat
 i:Nat
noncomputable def TQ (d:Dk):Nat->Int×Nat
 | 0=>(0,1)
 | i+1=>if FW (zA d i)=true∧(TQ d i).1<(qp (zA d i)).1 then((qp (zA d i)).1,i)else TQ d i
theorem Ot {d:Dk}{i:Nat}{g:Int}{h:Nat}(e:TQ d i=(g,h))(h1:FW (zA d i)=true)(h2:g<(qp (zA d i)).1):TQ d (i+1)=((qp (zA d i)).1,i):=by
 show (if _ then _ else _)=_
 rw [if_pos ⟨h1,by rw [e];exact h2⟩]
theorem JJ {d:Dk}{i:Nat}{g:Int}{h:Nat}(e:TQ d i=(g,h))(h1:FW (zA d i)=true->¬g<(qp (zA d i)).1):TQ d (i+1)=(g,h):=by
 show (if _ then _ else _)=_
 rw [if_neg (fun hx=>h1 hx.1 (by have:=hx.2;rw [e]at this;exact this)),e]
theorem aeD {l:List By}(h:FW l=true):1<=(qp l).1∧(qp l).1<=4294967295∧∃s∈l,wo s=true∧(hG s:Int)=(qp l).1:=by
 rw [GY,aB]at h
 exact aeC h.1
theorem aeE {d:Dk}{i:Nat}{s:By}(h:s∈zA d i):s∈d.now:=fD (ig h)
theorem Hf (l:List By):Xi l=zo [] (lg (qp l).1 l 0):=by unfold Xi lg;rfl
theorem aj3 {d:Dk}(hev:d.now.length%2=0){g:Int}{h:Nat}(e:TQ d 2=(g,h)) :
  0<=g∧g<=4294967295∧g<=wG 0 d.now∧h<=1∧hlf (d.now.take (d.now.length/2)) (d.now.drop (d.now.length/2))=((h:Int),if 0<g then zo [] (lg g (zA d h) 0)else []):=by
 rw [<-aj0, <-aj1 d hev]
 have z:=N8 (l:=d.now) (a:=0)
 have one : ∀i,FW (zA d i)=true->1<=(qp (zA d i)).1∧(qp (zA d i)).1<=4294967295∧(qp (zA d i)).1<=wG 0 d.now:=fun i hi=>by
  obtain⟨a1,a2,s,hs,a3,a4⟩:=aeD hi
  exact⟨a1,a2,by rw [<-a4];exact aed (aeE hs) a3⟩
 have o0:TQ d 0=(0,1):=rfl
 have alF:=one 0
 have one1:=one 1
 unfold hlf
 by_cases ha:FW (zA d 0)=true
 ·obtain⟨p1,p2,p3⟩:=alF ha
  have o1:=Ot o0 ha (by omega)
  by_cases hb:FW (zA d 1)=true
  ·obtain⟨q1,q2,q3⟩:=one1 hb
   by_cases hlt:(qp (zA d 0)).1<(qp (zA d 1)).1
   ·have o2:TQ d 2=((qp (zA d 1)).1,1):=Ot o1 hb hlt
    rw [o2]at e
    injection e with e1 e2
    subst e1 e2
    rw [if_neg (by rintro⟨_,hx⟩;rcases hx with hx|hx;rw [hb]at hx;cases hx;omega),if_pos hb,if_pos (by omega),Hf]
    exact⟨by omega,q2,q3,by omega,rfl⟩
   ·have o2:=JJ o1 (fun _=>hlt)
    rw [o2]at e
    injection e with e1 e2
    subst e1 e2
    rw [if_pos ⟨ha, .inr (by omega)⟩,if_pos (by omega),Hf]
    exact⟨by omega,p2,p3,by omega,rfl⟩
  ·have o2:=JJ o1 (fun hx=>absurd hx hb)
   rw [o2]at e
   injection e with e1 e2
   subst e1 e2
   rw [if_pos ⟨ha, .inl (by simpa using hb)⟩,if_pos (by omega),Hf]
   exact⟨by omega,p2,p3,by omega,rfl⟩
 ·have o1:=JJ o0 (fun hx=>absurd hx ha)
  rw [if_neg (fun hx=>ha hx.1)]
  by_cases hb:FW (zA d 1)=true
  ·obtain⟨q1,q2,q3⟩:=one1 hb
   have o2:TQ d 2=((qp (zA d 1)).1,1):=Ot o1 hb (show (0:Int)<(qp (zA d 1)).1 by omega)
   rw [o2]at e
   injection e with e1 e2
   subst e1 e2
   rw [if_pos hb,if_pos (by omega),Hf]
   exact⟨by omega,q2,q3,by omega,rfl⟩
  ·have o2:=JJ o1 (fun hx=>absurd hx hb)
   rw [o2]at e
   injection e with e1 e2
   subst e1 e2
   rw [if_neg hb,if_neg (by omega)]
   exact⟨by omega,by omega,z,by omega,rfl⟩
theorem WW (g:Int)(l:List By):(∀e∈zo [] (lg g l 0),e.ok)∧uN (zo [] (lg g l 0))=0:=aam _ [] (fun e he=>by cases he) DI
theorem TT (d:Dk)(hd:d.ok):mQ Tryz.prog GS 18 [uY d] 0 [] (Is (.nN [stA (wH d).1,iv (wH d).2])):=by
 have hhi:=hd.hi
 have hR:=ahT d hd
 unfold vT at hR
 refine lQ func18 rfl mixed (by kernel_rfl) ?_
 refine nO [] (by kernel_rfl) hR (by trivial) ?_
 rintro _ _ _ ⟨rfl,rfl,b0,rfl⟩
 conv=>whnf
 rcases gq d.dead with hdd|hdd
 ·have e:wH d=(So.Jt d,40):=by unfold wH;rw [if_pos hdd]
  rw [if_pos hdd,e]
  refine mY [] (by kernel_rfl) (Oq d) (by trivial) ?_
  exact lZ [] (by trivial)
 have hnd : ¬d.dead=true:=by rw [hdd];decide
 have e:wH d=uO ⟨d,0,(hlf (d.now.take (d.now.length/2)) (d.now.drop (d.now.length/2))).1,0,0,(hlf (d.now.take (d.now.length/2)) (d.now.drop (d.now.length/2))).2⟩:=by unfold wH;rw [if_neg hnd]
 rw [if_neg hnd,e]
 refine mO af9 3 [7] (fun x:PS=> [(7,iv x.i)]) (fun x=> [(0, .var 40 (dkC d)),(1, .var 43 [.v (.slice none 0 0), .v (.slice none 0 0),iv 0,iv 0,bv false,iv 0,iv 0,iv 0,iv 0, .v (.slice none 0 0)]),(2, .var 43 (dkC d++ [iv x.g,iv x.h,iv 0,iv 0, .v (.slice none 0 0)]))]) (fun x=>x.i<=2∧TQ d x.i=(x.g,x.h)) (fun x=>2-x.i) [] [] ⟨0,1,0⟩ (by kernel_rfl) (fun _=>rfl) rfl ⟨by decide,rfl⟩ (by trivial) (by trivial) ?_
 rintro⟨g,hv,i⟩ ⟨hi,hI⟩
 dsimp only at hi hI
 apply lK<;>intro h
 ·have hlt:i<2:=by simp at h;omega
  have hm1:i*(d.now.length/2)<=d.now.length/2:=by
   have:=aX (d.now.length/2) (show i<=1 by omega)
   omega
  have hm2:(i+1)*(d.now.length/2)=i*(d.now.length/2)+d.now.length/2:=by rw [bJ,dF]
  have hF:=QN d hd (i*(d.now.length/2)) ((i+1)*(d.now.length/2)) (by omega) (by omega)
  have hF:mQ Tryz.prog GS 49 [uY d,iv ((i*(d.now.length/2):Nat):Int),iv (((i+1)*(d.now.length/2):Nat):Int)] 0 [] (FaR (zA d i)):=hF
  have hgo:=fun h1 h2=>Ot hI h1 h2
  have hno:=fun h1=>JJ hI h1
  have Oe:=GY (zA d i)
  refine lN.mk (by decide) ?_
  rw [ah]
  refine lV.divN d.now.length 2 (by omega) ?_
  refine lV.to (y:=((i*(d.now.length/2):Nat):Int)) (by(try dsimp only);rw [IntWalk.i64_in _ (by rw [<-dN];omega)];omega) ?_
  refine lV.to (y:=((i+1:Nat):Int)) (by(try dsimp only);rw [IntWalk.i64_in _ (by omega)];omega) ?_
  refine lV.to (y:=(((i+1)*(d.now.length/2):Nat):Int)) (by rw [IntWalk.i64_in _ (by rw [<-dN];omega)];omega) ?_
  refine nO [] (by kernel_rfl) hF (by trivial) ?_
  rintro _ _ _ ⟨n,rfl,rfl,rfl,hn⟩
  obtain⟨g2,f2,n2,b2,ok2,hq2⟩ : ∃g f n b ok,qp (zA d i)=(g,f,n,b,ok):=⟨_,_,_,_,_,rfl⟩
  rw [hq2]at hgo hno Oe ⊢
  dsimp only at hgo hno Oe ⊢
  apply lK<;>intro h
  ·apply lK<;>intro h
   ·have hf2:f2=0:=by simpa using h
    apply lK<;>intro h
    ·have hgg:g<g2:=by simpa using h
     have hx:TQ d (i+1)=(g2,i):=hgo (by rw [Oe,aB,decide_eq_true_eq];exact⟨by assumption,hf2⟩) hgg
     refine lV.i64 (by(try dsimp only);omega) ?_
     exact lU ⟨g2,i,i+1⟩ [] [] rfl (by show 2 -(i+1)<2-i;omega) ⟨hlt,hx⟩ (by trivial) ⟨rfl,trivial⟩
    ·have hx:TQ d (i+1)=(g,hv):=hno fun _=>by simp at h;omega
     refine lV.i64 (by(try dsimp only);omega) ?_
     exact lU ⟨g,hv,i+1⟩ [] [] rfl (by show 2 -(i+1)<2-i;omega) ⟨hlt,hx⟩ (by trivial) ⟨rfl,trivial⟩
   ·have hf2:f2≠0:=by simpa using h
    have hx:TQ d (i+1)=(g,hv):=hno fun hy=>by rw [Oe,aB,decide_eq_true_eq]at hy;exact absurd hy.2 hf2
    refine lV.i64 (by(try dsimp only);omega) ?_
    exact lU ⟨g,hv,i+1⟩ [] [] rfl (by show 2 -(i+1)<2-i;omega) ⟨hlt,hx⟩ (by trivial) ⟨rfl,trivial⟩
  ·have hx:TQ d (i+1)=(g,hv):=hno fun hy=>by rw [Oe,aB,decide_eq_true_eq]at hy;rw [h]at hy;exact absurd hy.1 (by decide)
   refine lV.i64 (by(try dsimp only);omega) ?_
   exact lU ⟨g,hv,i+1⟩ [] [] rfl (by show 2 -(i+1)<2-i;omega) ⟨hlt,hx⟩ (by trivial) ⟨rfl,trivial⟩
 have hie:i=2:=by simp at h;omega
 subst hie
 obtain⟨g0,g1,g2,h1,hH⟩:=aj3 hd.ev hI
 rw [hH]
 dsimp only
 have hC:=fun ev hev=>EY ⟨d,g,(hv:Nat),0,0,ev⟩ hd hev ⟨g0,g1⟩ (by show ((hv:Nat):Int)=0∨((hv:Nat):Int)=1;omega)
 have hcg : ∀ev,uO ⟨d,g,(hv:Nat),0,0,ev⟩=uO ⟨d,0,(hv:Nat),0,0,ev⟩:=fun ev=>aay (s:=⟨d,0,(hv:Nat),0,0,ev⟩) g0 g2 rfl
 apply lK<;>intro h
 ·have hg:0<g:=by simp at h;omega
  rw [if_pos hg, <-hcg]
  refine mY [] (by kernel_rfl) (aj2 d hd hv h1 g) (by trivial) ?_
  refine mY [] (by kernel_rfl) (hC _ (WW g (zA d hv))) (by trivial) ?_
  exact lZ [] (by trivial)
 ·have hg : ¬0<g:=by simp at h;omega
  rw [if_neg hg, <-hcg]
  refine mY [] (by kernel_rfl) (hC [] ⟨(fun e he=>by cases he),DI⟩) (by trivial) ?_
  exact lZ [] (by trivial)
end
section
open Ky
attribute [local irreducible] num hsh AU wo qp lg FU zo tab wF Bd sec hG hF hI hN
theorem aaz (l:List Ev)(hl:l.length<=1000000):mQ Tryz.prog GS 27 [el l,el l] 0 [] (Is (bv true)):=by
 refine lQ func27 rfl mixed (by kernel_rfl) ?_
 apply lK<;>intro h
 ·exfalso;simp at h
 refine mO agc 0 [5] (fun i:Nat=> [(5,iv i)]) (fun _=> []) (fun i=>i<=l.length) (fun i=>l.length-i) [] [] 0 (by kernel_rfl) (fun _=>rfl) rfl (au _) trivial ⟨rfl,trivial⟩ ?_
 intro i hi
 apply lK<;>intro h
 ·have hlt:i<l.length:=by simp at h;omega
  (refine mP aiM [] (by kernel_rfl) ?_;conv=>whnf)
  repeat' (first
   | (refine And.intro ?_ ?_<;>(conv=>whnf))
   | (refine mZ.mk' i rfl (pU hlt) ?_;conv=>whnf)
   | (refine mD.lT (aj hlt) ?_;conv=>whnf))
  refine sO.mk (by kernel_rfl) rfl rfl ?_
  apply lK<;>intro h
  ·exfalso
   simp [qP]at h
  refine lV.i64 (by omega) ?_
  exact lU (i+1) [] [] rfl (by show l.length -(i+1)<l.length-i;omega) hlt trivial ⟨rfl,trivial⟩
 ·exact lZ [] (by trivial)
theorem Vx (s:So)(h:s.ok):mQ Tryz.prog GS 55 [stA s] 0 [] (Is (iv 0)):=by
 obtain⟨hd,hg,hh,hn,hf,he⟩:=h
 have hhi:=hd.hi
 have hT:=G9 s.ev he.1 (by have:=(xk he.2).1;omega)
 rw [he.2]at hT
 refine lQ func55 rfl mixed (by kernel_rfl) ?_
 refine mY [] (by kernel_rfl) hT (by trivial) ?_
 (refine mF [] (by kernel_rfl) (G7 s.d hd) rfl ?_ ?_;(focus trivial))
 conv=>whnf
 repeat' (first
  | (apply lK<;>intro h<;>(first|(exfalso;(try rw [ah]at h);simp at h;omega)|((try simp at h);conv=>whnf)))
  | (refine lN.mk (by decide) ?_;rw [ah];refine lV.divN s.d.now.length 2 (by omega) ?_;conv=>whnf))
 all_goals exact lZ [] rfl
theorem WX (s:So)(h:s.ok):mQ Tryz.prog GS 22 [stA s] 0 [] (Is (.nN [stA (uO s).1,iv (uO s).2])):=by
 have hg:=h.gen
 refine lQ func22 rfl mixed (by kernel_rfl) ?_
 (refine mF [] (by kernel_rfl) (Vx s h) rfl ?_ ?_;(focus trivial))
 refine mY [] (by kernel_rfl) (EY s h.d h.ev (by omega) h.half) (by trivial) ?_
 exact lZ [] (by trivial)
theorem aaA (a:So)(ha:a.d.now.length<=1000∧a.d.safe.length<=1000)(hl:a.ev.length<=1000000):mQ Tryz.prog GS 19 [stA a,stA a] 0 [] (Is (bv true)):=by
 refine lQ func19 rfl mixed (by kernel_rfl) ?_
 conv=>whnf
 repeat' (first
  | (apply lK<;>intro h<;>(first|(exfalso;simp at h;done)|(conv=>whnf)))
  | (refine nO [] (by kernel_rfl) (ahU a.d ha) ?_ ?_;(focus (trivial;done));rintro _ _ _ ⟨rfl,rfl,rfl⟩;conv=>whnf)
  | (refine nO [] (by kernel_rfl) (aaz a.ev hl) ?_ ?_;(focus (trivial;done));rintro _ _ _ ⟨rfl,rfl,rfl⟩;conv=>whnf))
 exact lZ [] rfl
theorem QO (s:So)(h:s.ok)(l:List Ev)(hl : ∀e∈l,e.ok)(hll:l.length<=1000):mQ Tryz.prog GS 25 [stA s,el l] 0 [] (Is (.nN [stA (xw s l).1,iv (xw s l).2])):=by
 have hV:=Vx s h
 obtain⟨hd,hg,hh,hn,hf,he⟩:=h
 have hhi:=hd.hi
 have hel:=(xk he.2).1
 have hT:=G9 l hl (by omega)
 refine lQ func25 rfl mixed (by kernel_rfl) ?_
 (refine mF [] (by kernel_rfl) (hV) rfl ?_ ?_;(focus trivial))
 refine mY [] (by kernel_rfl) hT (by trivial) ?_
 apply lK<;>intro h
 ·have hne:uN l≠0:=by simpa using h
  rw [QG hne]
  exact lZ [] (by trivial)
 have h0:uN l=0:=by simpa using h
 have eB:Dt l=tab l:=by unfold Dt;rw [if_pos h0]
 rw [eB]
 refine lV.i64 (by simp only [ah];omega) ?_
 apply lK<;>intro h
 ·have hgt:512<s.ev.length+l.length:=by simp only [ah]at h;simp at h;omega
  rw [EU h0 hgt]
  exact lZ [] (by trivial)
 have hgt : ¬512<s.ev.length+l.length:=by simp only [ah]at h;simp at h;omega
 apply lK<;>intro h
 ·have hnil:l = []:=by simpa using h
  subst hnil
  rw [JC s hel]
  exact lZ [] (by trivial)
 have hnil:l≠ []:=by simpa using h
 have hev:(∀e∈s.ev++l,e.ok)∧uN (s.ev++l)=0:=⟨fun e h=>(bK.1 h).elim (he.1 e) (hl e),G6 he.2 h0 (by rw [ak];omega)⟩
 have hWh:=Vu s.d hd 1 (s.ev++l) hev
 have hC:=EY {s with ev:=s.ev++l} hd hev (by show 0<=s.gen∧s.gen<=4294967295;omega) hh
 have hS:=ER GS s.gen s.frame (tab l) (by have:=zW hl h0;omega)
 refine lN.mk (Dq (by simp only [ln];omega)) ?_
 refine lN.mk (Dq (by simp only [ln];omega)) ?_
 conv=>whnf
 rw [show []++List.map rO s.ev++List.map rO l=List.map rO (s.ev++l) by rw [dO,aJ]]
 refine mY [4] (by kernel_rfl) hWh (by trivial) ?_
 apply lK<;>intro h
 ·have hfu:255<nS (tab (s.ev++l))∨s.d.now.length/2<nS (tab (s.ev++l)):=by
   by_cases h1:nS (tab (s.ev++l))<=255
   ·have:=Y0 (b:=tab (s.ev++l)) (g:=1) (f:=0) (by omega) (by omega) (by omega) (by omega) h1
    simp [this]at h;omega
   ·omega
  rw [EW h0 hgt hnil hfu]
  exact lZ [] (by trivial)
 have hfu : ¬(255<nS (tab (s.ev++l))∨s.d.now.length/2<nS (tab (s.ev++l))):=by
  simp at h
  have:=(zO h.1).2.2.2.2
  omega
 refine lN.mk (by decide) ?_
 rw [ah]
 refine lV.divN s.d.now.length 2 (by omega) ?_
 refine mY [] (by kernel_rfl) hS (by trivial) ?_
 conv=>whnf
 have toC:uz s.gen s.frame (tab l)≠0∨((s.d.now.length/2:Nat):Int)<s.next+(nS (tab l):Nat)->xw s l=uO {s with ev:=s.ev++l}:=JD h0 hgt hnil hfu
 apply lK<;>intro h
 ·have hx:uz s.gen s.frame (tab l)≠0∨((s.d.now.length/2:Nat):Int)<s.next+(nS (tab l):Nat):= .inl (by simpa using h)
  rw [toC hx]
  refine mY [4] (by kernel_rfl) hC (by trivial) ?_
  exact lZ [] (by trivial)
 have hs0:uz s.gen s.frame (tab l)=0:=by simpa using h
 obtain⟨hL1,hL2⟩:=xR hs0
 have hq:=(zO hs0).2.2.2.2
 refine lV.to (y:=s.next+(nS (tab l):Nat)) (by rw [ah,hL1];exact IntWalk.i64_in _ (by omega)) ?_
 apply lK<;>intro h
 ·have hx:uz s.gen s.frame (tab l)≠0∨((s.d.now.length/2:Nat):Int)<s.next+(nS (tab l):Nat):= .inr (by simpa using h)
  rw [toC hx]
  refine mY [4] (by kernel_rfl) hC (by trivial) ?_
  exact lZ [] (by trivial)
 have hfit:s.next+(nS (tab l):Nat)<=((s.d.now.length/2:Nat):Int):=by simp at h;omega
 obtain⟨hv,WM,hh2⟩ : ∃hv:Nat,s.half=(hv:Int)∧hv<=1:=⟨s.half.toNat,by omega,by omega⟩
 obtain⟨nv,hnv⟩ : ∃nv:Nat,s.next=(nv:Int):=⟨s.next.toNat,by omega⟩
 obtain⟨d,e,hw⟩ : ∃d e,yN s.d (s.half.toNat*(s.d.now.length/2)+s.next.toNat) (zy s.gen s.frame (tab l))=(d,e):=⟨_,_,rfl⟩
 rw [Ol h0 hgt hnil hfu (by omega) hw]
 have hm:hv*(s.d.now.length/2)<=s.d.now.length/2:=by
  have:=aX (s.d.now.length/2) hh2
  omega
 rw [WM,hnv,dh,dh]at hw
 have hwo:=EP (at_:=hv*(s.d.now.length/2)+nv) hd hL2
 have hW:=Vw s.d hd (hv*(s.d.now.length/2)+nv) (zy s.gen s.frame (tab l)) hL2 (by rw [hL1];omega)
 rw [hw]at hwo hW
 refine lV.to (y:=((hv*(s.d.now.length/2):Nat):Int)) (by rw [WM,IntWalk.i64_in _ (by rw [<-dN];omega)];omega) ?_
 refine lV.to (y:=((hv*(s.d.now.length/2)+nv:Nat):Int)) (by rw [hnv,IntWalk.i64_in _ (by omega)];omega) ?_
 refine mY [] (by kernel_rfl) hW (by trivial) ?_
 apply lK<;>intro h
 ·have hne:e≠0:=by simpa using h
  have h40:e=40:=by rcases hwo.2.2 with h|h;exact absurd h hne;exact h.1
  subst h40
  rw [if_pos hne]
  refine mY [] (by kernel_rfl) (Oq d) (by trivial) ?_
  exact lZ [] (by trivial)
 have TN:e=0:=by simpa using h
 rw [if_neg (by rw [TN];simp)]
 refine lV.to (y:=s.next+(nS (tab l):Nat)) (by rw [ah,hL1];exact IntWalk.i64_in _ (by omega)) ?_
 refine lV.i64 (by omega) ?_
 exact lZ [4] (by trivial)
end
section
def QS:Tx:= [[97,110,110],[98,111,98],[99,97,116],[100,97,110],[101,118,101],[102,97,121]]
def pX (n:Nat):By:=QS.getD (n%6) []
theorem afr:mQ Tryz.prog GC 128 [] 0 [] (sW 9 1 (QS.map wC)):=by
 refine lQ func128 rfl mixed (by kernel_rfl) ?_
 exact lX (.own 0) 1 _ [(0, .lab 0)] [] ⟨rfl,rfl,rfl⟩ rfl (by trivial) (by trivial)
theorem JK:QS.length=6:=rfl
attribute [local irreducible] QS
theorem TU (n:Nat)(hn:n<1000000):mQ Tryz.prog GC 94 [iv n] 0 [] (Is (tv (pX n))):=by
 refine lQ func94 rfl mixed (by kernel_rfl) ?_
 refine mY [] (by kernel_rfl) (afr) (by trivial) ?_
 refine mY [] (by kernel_rfl) (afr) (by trivial) ?_
 conv=>whnf
 rw [ah,JK]
 refine lN.mk (by decide) ?_
 conv=>whnf
 have hlt:n%6<QS.length:=by rw [JK];omega
 refine mZ.mk' (n%6) rfl (pU hlt) ?_
 refine mD.lT (aj hlt) ?_
 refine lZ [] (congrArg (fun x:By=>Value.string ⟨x.toArray⟩) ?_)
 unfold pX
 rw [ay,aj hlt]
 rfl
end
section
open Ky
def TW (L:By)(at_:Nat):oZ:= .var 131 [bs L,iv at_]
def wI (L:By)(at_ n:Nat):Nat:=(L.getD at_ 0).toNat%n
def uD (L:By)(at_:Nat):Nat:=if at_<L.length then at_+1 else at_
theorem sK (L:By)(at_ n:Nat)(h:0<n):wI L at_ n<n:=iM _ h
theorem qR {L:By}{at_:Nat}(h:at_<=L.length):uD L at_<=L.length:=by unfold uD;split<;>omega
theorem aj6 (L:By)(at_ n:Nat)(hn:0<n)(hn2:n<=256)(hL:at_<=100000)(ha:at_<=L.length):mQ Tryz.prog GS 93 [.ptr 0 0,iv n] 1 [(0,TW L at_)] (fun a m H=>a=iv (wI L at_ n)∧m=1∧H = [(0,TW L (uD L at_))]):=by
 refine lQ func93 rfl mixed (by kernel_rfl) ?_
 (refine mP aeZ [] (by kernel_rfl) ?_;conv=>whnf)
 apply lK<;>intro h
 ·have hge:L.length<=at_:=by simp at h;omega
  refine lX (iv (wI L at_ n)) 1 [(0,TW L (uD L at_))] [] [] ⟨rfl,rfl,rfl⟩ rfl ?_ ?_
  ·unfold uD;rw [if_neg (by omega)];trivial
  ·unfold wI;rw [ay,fG hge,Option.getD_none,show (0:UInt8).toNat=0 from rfl,Nat.zero_mod];trivial
 have hlt:at_<L.length:=by simp at h;omega
 refine lV.i64 (by omega) ?_
 (refine mP aeZ [] (by kernel_rfl) ?_;conv=>whnf)
 repeat' (first
  | (refine And.intro ?_ ?_<;>(conv=>whnf))
  | (refine lV.to (y:=((at_:Nat):Int)) (by rw [show ((at_:Nat):Int)+1-1=((at_:Nat):Int) by omega];exact IntWalk.i64_in _ (by omega)) ?_;conv=>whnf)
  | (refine mZ.mk' at_ rfl (pU hlt) ?_;conv=>whnf)
  | (refine mD.lT (aj hlt) ?_;conv=>whnf)
  | (refine lV.i64 (by have:=L[at_].toNat_lt;omega) ?_;conv=>whnf)
  | (refine lN.mk (by omega) ?_;conv=>whnf))
 refine lX (iv (wI L at_ n)) 1 [(0,TW L (uD L at_))] [] [] ⟨rfl,rfl,rfl⟩ rfl ?_ ?_
 ·unfold uD;rw [if_pos hlt];trivial
 ·unfold wI;rw [ay,aj hlt];exact rfl
theorem DN (L:By)(at_ n:Nat)(hn:0<n)(hn2:n<=256)(hL:L.length<=100000)(ha:at_<=L.length):mQ Tryz.prog GS 93 [.ptr 0 0,iv n] 1 [(0,TW L at_)] (fun a m H=>a=iv (wI L at_ n)∧m=1∧H = [(0,TW L (uD L at_))]):=aj6 L at_ n hn hn2 (by omega) ha
theorem aj7 (L:By)(at_:Nat):mQ Tryz.prog GS 92 [.ptr 0 0] 1 [(0,TW L at_)] (fun a m H=>a=bv (decide (at_<L.length))∧m=1∧H = [(0,TW L at_)]):=by
 refine lQ func92 rfl mixed (by kernel_rfl) ?_
 (refine mP aiT [] (by kernel_rfl) ?_;conv=>whnf)
 refine lX (bv (decide (at_<L.length))) 1 [(0,TW L at_)] [] [] ⟨rfl,rfl,rfl⟩ rfl (by trivial) ?_
 refine congrArg Value.bool ?_
 rw [ah]
 exact decide_eq_decide.2 (by omega)
def qU:Tx:= [[98,108,117,101],[103,114,101,101,110],[102,97,115,116],[115,108,111,119]]
def zY:Tx:= [[98,117,121],[118,105,115,105,116]]
theorem DR:mQ Tryz.prog GS 95 [] 0 [] (sW 9 1 (qU.map wC)):=by
 refine lQ func95 rfl mixed (by kernel_rfl) ?_
 exact lX (.own 0) 1 _ [(0, .lab 0)] [] ⟨rfl,rfl,rfl⟩ rfl (by trivial) (by trivial)
theorem aaB:mQ Tryz.prog GS 96 [] 0 [] (sW 9 1 (zY.map wC)):=by
 refine lQ func96 rfl mixed (by kernel_rfl) ?_
 exact lX (.own 0) 1 _ [(0, .lab 0)] [] ⟨rfl,rfl,rfl⟩ rfl (by trivial) (by trivial)
end
section
open Ky
def EZ:Tx:= [[97,112,112],[116,97,98],[119,101,98]]
structure EvP (e:Ev):Prop where
 client:e.client∈EZ
 id : ∃k:Nat,k<6∧e.id=pX k
 seq:1<=e.seq∧e.seq<=60
 time:0<=e.time∧e.time<=180
 kinds:(e.kind=1∧(∃k:Nat,k<2∧e.name=qU.getD k [])∧e.other = []∧(1<=e.arm∧e.arm<=3)∧(1<=e.ver∧e.ver<=2)∧e.val=0)∨
  (e.kind=2∧(∃k:Nat,k<2∧e.name=zY.getD k [])∧e.other = []∧e.ver=0∧e.arm=0∧(-4<=e.val∧e.val<=35))∨
  (e.kind=3∧e.name = []∧(∃k:Nat,k<7∧e.other=pX k)∧e.other≠e.id∧e.ver=0∧e.arm=0∧e.val=0)
structure aeF (l:List Ev):Prop where
 len:l.length<=60
 all : ∀e∈l,EvP e
 asc:l.Pairwise fun a b=>a.time<=b.time
structure ES where
 out:List Ev
 a:Nat
 tm:Nat
 sq:List Nat
 last:Int
structure EI (L:By)(x:ES):Prop where
 at_:x.a<=L.length
 P:aeF x.out
 tm:x.tm<=3*x.out.length
 le : ∀e∈x.out,e.time<=(x.tm:Int)
 sl:x.sq.length=3
 sb : ∀k∈x.sq,k<=x.out.length
 last : -1<=x.last∧x.last<=2
def enN (n:Nat):List FV:= [iF n]
theorem lV.div {K:Int->Prop}(v k:Nat)(hv:v<1000000)(c:K ((v/k:Nat):Int)):lV .i64 ((v:Int).tdiv (k:Int)) K:=by
 have h:=ku v k
 refine lV.to (y:=((v/k:Nat):Int)) ?_ c
 rw [show (v:Int).tdiv (k:Int)=((v/k:Nat):Int)from rfl]
 generalize v/k=q at *
 exact IntWalk.i64_in _ (by omega)
theorem AL {a b:Nat}(h:yL ⟨(pX a).toArray⟩ ⟨(pX b).toArray⟩=false):pX a≠pX b:=fun e=>by
 rw [qP,decide_eq_false_iff_not]at h;exact h e
theorem Hg {a b:Nat}(ha:a<6)(hb:b<6)(h:yL ⟨(pX a).toArray⟩ ⟨(pX b).toArray⟩=true):pX (a+1)≠pX b:=by
 have h1:pX a=pX b:=by rw [qP,decide_eq_true_eq]at h;exact h
 have h2 : ∀a,a<6->∀b,b<6->pX a=pX b->pX (a+1)≠pX b:=by decide
 exact h2 a ha b hb h1
theorem qj (l:List Ev)(e:Ev):l.map rO++ [rO e]=(l++ [e]).map rO:=by rw [aJ];rfl
theorem EI.next {L:By}{out:List Ev}{a tm:Nat}{sq:List Nat}{last:Int}(h:EI L ⟨out,a,tm,sq,last⟩)(hl:out.length<60){a' st i k:Nat}(ha:a'<=L.length)(hst:st<4)(hi:i<3)(hk:k<=out.length){e:Ev}(het:e.time=((tm+st:Nat):Int))(he:EvP e):EI L ⟨out++ [e],a',tm+st,sq.set i (k+1),i⟩:=by
 obtain⟨hp,hP,htm,hle,hsl,hsb,hlast⟩:=h
 dsimp only at *
 have hn:(out++ [e]).length=out.length+1:=by rw [ak];rfl
 refine⟨ha,⟨by dsimp only;omega,fun x hx=> ?_,jX.2 ⟨hP.asc,jK _ _,fun x hx y hy=> ?_⟩⟩,by dsimp only;omega,fun x hx=> ?_,by dsimp only;rw [bV];exact hsl,fun x hx=> ?_,by dsimp only;omega⟩
 ·rcases bK.1 hx with h|h
  ·exact hP.all x h
  ·rw [bF]at h;rw [h];exact he
 ·rw [bF]at hy
  have:=hle x hx
  rw [hy];omega
 ·dsimp only at hx ⊢
  rcases bK.1 hx with h|h
  ·have:=hle x h;omega
  ·rw [bF]at h;rw [h];omega
 ·dsimp only at hx ⊢
  rcases iG hx with h|h
  ·have:=hsb x h;omega
  ·omega
def NxC (L:By)(p n v q:Nat):Prop:=v<n∧q<=L.length∧mQ Tryz.prog GS 93 [.ptr 0 0,iv n] 1 [(0,TW L p)] (fun a m H=>a=iv v∧m=1∧H = [(0,TW L q)])
end
end Go.Proofs.YtocckceefcmeaaaGreatDoor.Cl
