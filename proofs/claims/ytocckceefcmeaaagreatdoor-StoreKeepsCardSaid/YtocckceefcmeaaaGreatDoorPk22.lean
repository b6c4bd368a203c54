/- Joined parts of the proof. Logs of written frames, and what is left of them by a crash: plain laws of the store -/
import Derived.Test.YtocckceefcmeaaaGreatDoorPk19
import Derived.Test.YtocckceefcmeaaaGreatDoorPk21
import Derived.Test.YtocckceefcmeaaaGreatDoorPk11
import Derived.Test.YtocckceefcmeaaaGreatDoorPk20
import Derived.OpenShut
import Derived.Stop.Joined
set_option linter.unusedVariables false
set_option linter.unusedSimpArgs false
set_option maxRecDepth 100000
set_option maxHeartbeats 16000000
namespace Go.Proofs.YtocckceefcmeaaaGreatDoor.Cl
open Go Go.RowKit Go.Proofs Go.Proofs.YtocckceefcmeaaaGreatDoor.Vc Go.Proofs.YtocckceefcmeaaaGreatDoor.Ax
section
attribute [local irreducible] num hsh oM jM fM lg tV sH tab jY sec hG hF hI hN
def nY (g:Nat):Nat→List By→List By
 | _,[]=> []
 | j,b::r=>secs g j b++nY g (j+1) r
theorem aaT {l:List By}(h:(fM l).2.2.2.2=true) : ∃s∈l,jM s=true∧(hG s:Int)=(fM l).1:=by
 obtain⟨g,f,b,hx,e,h1,h2⟩:=qL h
 rw [e]at hx ⊢
 dsimp only at hx ⊢
 have hl:=hx.len
 have h3:=hx.at (i:=0) (by omega)
 refine⟨(l.take (nS b))[0]'(by omega),List.mem_of_mem_take (List.getElem_mem (by omega)),h3.2.1, ?_⟩
 rw [h3.2.2.1]
theorem LP (g:Nat)(b:By) : ∀(bs:List By) (j:Nat),nY g j (bs++ [b])=nY g j bs++secs g (j+bs.length) b:=by
 intro bs
 induction bs with
 | nil=>intro j;show secs g j b++ [] = []++secs g (j+0) b;rw [List.append_nil];rfl
 | cons a r ih=>
  intro j
  show secs g j a++nY g (j+1) (r++ [b])=(secs g j a++nY g (j+1) r)++_
  rw [ih,List.append_assoc,List.length_cons,show j+1+r.length=j+(r.length+1) by omega]
theorem aaU {g:Nat}(hg:1≤g∧g≤4294967295)(rest:List By) : ∀(bs:List By) (j:Nat),j+bs.length≤65536→(∀b∈bs,nS b≤255)→lg (g:Int) (nY g j bs++rest) j=bs++lg (g:Int) rest (j+bs.length):=by
 intro bs
 induction bs with
 | nil=>intro j _ _;rfl
 | cons b r ih=>
  intro j hj hb
  rw [List.length_cons]at hj
  have hb0:=hb b (List.mem_cons_self ..)
  have hF:rW (secs g j b) g j b:=⟨vG (by omega) (by omega) (by omega) (by omega) hb0,rfl⟩
  have e:nY g j (b::r)++rest=secs g j b++(nY g (j+1) r++rest):=by
   show (secs g j b++nY g (j+1) r)++rest=_
   rw [List.append_assoc]
  rw [e]
  have hn:fM (secs g j b++(nY g (j+1) r++rest))=(((g:Nat):Int),((j:Nat):Int),nS b,b,true):=by
   refine Jz rfl (by rw [List.length_append,dP];omega) ?_
   rw [List.take_left' (dP g j b)]
   exact hF
  rw [Lu (by rw [hn];exact⟨rfl,rfl,rfl⟩),hn]
  dsimp only
  rw [List.drop_left' (dP g j b),ih (j+1) (by omega) fun x hx=>hb x (List.mem_cons_of_mem _ hx),List.length_cons,show j+1+r.length=j+(r.length+1) by omega]
  rfl
theorem XO {g:Nat}(hg:1≤g∧g≤4294967295){b:By}{r rest:List By}(hb:nS b≤255):fM (nY g 0 (b::r)++rest)=(((g:Nat):Int),0,nS b,b,true):=by
 have e:nY g 0 (b::r)++rest=secs g 0 b++(nY g 1 r++rest):=by
  show (secs g 0 b++nY g 1 r)++rest=_
  rw [List.append_assoc]
 rw [e]
 refine Jz (f:=0) rfl (by rw [List.length_append,dP];omega) ?_
 rw [List.take_left' (dP g 0 b)]
 exact⟨vG (by omega) (by omega) (by omega) (by omega) hb,rfl⟩
def Mix (A B M:List By):Prop:=A.length=B.length∧M.length=A.length∧∀j:Nat,M[j]? = A[j]? ∨M[j]? = B[j]?
theorem Mix.self {A M:List By}(h:Mix A A M):M=A:=List.ext_getElem? fun j=>(h.2.2 j).elim id id
theorem Mix.refl (A:List By):Mix A A A:=⟨rfl,rfl,fun _=> .inl rfl⟩
theorem Mix.app {A A' B B' M:List By}(h:Mix (A++A') (B++B') M)(hl:A.length=B.length) : ∃m m',M=m++m'∧Mix A B m∧Mix A' B' m':=by
 obtain⟨h1,h2,h3⟩:=h
 rw [List.length_append,List.length_append]at h1
 rw [List.length_append]at h2
 refine⟨M.take A.length,M.drop A.length,(List.take_append_drop ..).symm,⟨hl,by rw [List.length_take];omega,fun j=> ?_⟩,⟨by omega,by rw [List.length_drop];omega,fun j=> ?_⟩⟩
 ·rcases Nat.lt_or_ge j A.length with hj | hj
  ·have:=h3 j
   rw [List.getElem?_append_left hj,List.getElem?_append_left (by omega)]at this
   rw [List.getElem?_take_of_lt hj]
   exact this
  ·exact .inl (by rw [List.getElem?_eq_none (by rw [List.length_take];omega),List.getElem?_eq_none hj])
 ·have:=h3 (A.length+j)
  rw [List.getElem?_append_right (by omega),List.getElem?_append_right (by omega),Nat.add_sub_cancel_left, ←hl,Nat.add_sub_cancel_left]at this
  rw [List.getElem?_drop]
  exact this
def jn (k:Int)(c o:List By):List By:=if k=0 then c++o else o++c
theorem JG (k:Int)(c o:List By):(jn k c o).length=c.length+o.length:=by
 unfold jn;split<;>rw [List.length_append];omega
theorem JH {k:Int}{c o:List By}{x:By} : x∈jn k c o↔x∈c∨x∈o:=by
 unfold jn;split<;>rw [List.mem_append];exact Or.comm
theorem XP {k:Int}(hk:k=0∨k=1)(c o:List By):jn k c o=jn (1-k) o c:=by
 rcases hk with rfl | rfl<;>rfl
theorem Mix.jn {k:Int}{c o c' o' M:List By}(h:Mix (Cl.jn k c o) (Cl.jn k c' o') M)(h1:c.length=c'.length)(h2:o.length=o'.length) : ∃m n,M=Cl.jn k m n∧Mix c c' m∧Mix o o' n:=by
 unfold Cl.jn at h ⊢
 split at h
 ·rename_i hk
  obtain⟨m,n,e,a,b⟩:=h.app h1
  exact⟨m,n,by rw [if_pos hk];exact e,a,b⟩
 ·rename_i hk
  obtain⟨m,n,e,a,b⟩:=h.app h2
  exact⟨n,m,by rw [if_neg hk];exact e,b,a⟩
def wrt (L:List By)(a:Nat)(l:List By):List By:=L.take a++l++L.drop (a+l.length)
theorem LQ {L l:List By}{a:Nat}(h:a+l.length≤L.length):(wrt L a l).length=L.length:=by
 unfold wrt;rw [List.length_append,List.length_append,List.length_take,List.length_drop];omega
theorem Yt {A B l:List By}{a:Nat}(h:a+l.length≤A.length):wrt (A++B) a l=wrt A a l++B:=by
 unfold wrt
 rw [List.take_append_of_le_length (by omega),List.drop_append_of_le_length h,List.append_assoc,List.append_assoc,List.append_assoc]
theorem Tf (A B l:List By)(a:Nat):wrt (A++B) (A.length+a) l=A++wrt B a l:=by
 unfold wrt
 rw [List.take_length_add_append,show A.length+a+l.length=A.length+(a+l.length) by omega,List.drop_length_add_append,List.append_assoc,List.append_assoc,List.append_assoc]
theorem LU (L0 L1:List By)(hl:L0.length=L1.length) : ∀(l:List By) (d:Dk) (a:Nat),d.dead=false→d.safe=L0→Mix L0 L1 d.now→(∀i (h:i<l.length),L1[a+i]? = some l[i])→
  ∃d' e,qK d a l=(d',e)∧((e=0∧d'.now=wrt d.now a l∧d'.safe=d'.now∧d'.dead=false∧(d.fuse<0→d'.fuse<0))∨(e=40∧0≤d.fuse∧d'.safe=L0∧Mix L0 L1 d'.now)):=by
 intro l
 induction l with
 | nil=>
  intro d a h1 h2 h3 _
  unfold qK
  rw [if_neg (by rw [h1];decide)]
  by_cases h0:d.fuse=0
  ·rw [if_pos h0]
   exact⟨_,_,rfl, .inr ⟨rfl,by omega,h2,h3⟩⟩
  ·rw [if_neg h0]
   refine⟨_,_,rfl, .inl ⟨rfl, ?_,rfl,h1,fun hf=> ?_⟩⟩
   ·show d.now=_
    unfold wrt
    rw [List.append_nil,List.length_nil,Nat.add_zero,List.take_append_drop]
   ·show (if 0<d.fuse then d.fuse-1 else d.fuse)<0
    rw [if_neg (by omega)];exact hf
 | cons s r ih=>
  intro d a h1 h2 h3 h4
  have hs:=h4 0 (by simp)
  rw [Nat.add_zero]at hs
  have ha:=(List.getElem?_eq_some_iff.1 hs).1
  unfold qK
  rw [if_neg (by rw [h1];decide)]
  by_cases h0:d.fuse=0
  ·rw [if_pos h0]
   exact⟨_,_,rfl, .inr ⟨rfl,by omega,h2,h3⟩⟩
  rw [if_neg h0]
  have hn:(d.put a s).now=d.now.set a s:=rfl
  have hf:(d.put a s).fuse=if 0<d.fuse then d.fuse-1 else d.fuse:=rfl
  obtain⟨d',e,e1,e2⟩:=ih (d.put a s) (a+1) h1 h2 ⟨hl,by rw [hn,List.length_set];exact h3.2.1,fun j=>by
   rw [hn]
   rcases Nat.decEq a j with hj | hj
   ·rw [List.getElem?_set_ne hj];exact h3.2.2 j
   ·subst hj
    rw [List.getElem?_set_self (by have:=h3.2.1;omega),hs]
    exact .inr rfl⟩ fun i hi=>by
     have:=h4 (i+1) (by rw [List.length_cons];omega)
     rw [show a+1+i=a+(i+1) by omega,this];rfl
  refine⟨d',e,e1, ?_⟩
  rcases e2 with ⟨a1,a2,a3,a4,a5⟩ | ⟨a1,a2,a3,a4⟩
  ·refine .inl ⟨a1, ?_,a3,a4,fun hx=>a5 (by rw [hf,if_neg (by omega)];exact hx)⟩
   have hal:a<d.now.length:=by have:=h3.2.1;omega
   rw [a2,hn]
   unfold wrt
   rw [List.take_succ_eq_append_getElem (by rw [List.length_set];omega),List.getElem_set_self,List.take_set_of_le (Nat.le_refl _),List.drop_set_of_lt (by omega),List.length_cons,List.append_assoc,List.append_assoc,List.append_assoc]
   rw [show a+1+r.length=a+(r.length+1) by omega]
   rfl
  ·refine .inr ⟨a1, ?_,a3,a4⟩
   rw [hf]at a2
   split at a2<;>omega
theorem LV {L l:List By}{a:Nat}(h:a+l.length≤L.length)(i:Nat)(hi:i<l.length):(wrt L a l)[a+i]? = some l[i]:=by
 unfold wrt
 have ht:(L.take a).length=a:=by rw [List.length_take];omega
 rw [List.append_assoc,List.getElem?_append_right (by omega),ht,Nat.add_sub_cancel_left,List.getElem?_append_left hi,List.getElem?_eq_getElem hi]
theorem Ci {g f:Nat}{b:By}(hs:jO g f b=0){o m:List By}(hNb:nS b≤o.length)(ho : ∀x∈o,jM x=true→hG x<g)(h:Mix o (secs g f b++o.drop (nS b)) m) :
  m=secs g f b++o.drop (nS b)∨(fM m).2.2.2.2=false∨fM m=fM o:=by
 rcases Bool.eq_false_or_eq_true (fM m).2.2.2.2 with hx | hx
 rotate_left 1
 ·exact .inr (.inl hx)
 obtain⟨g',f',b',hF,e,h2,h3⟩:=qL hx
 rw [e]at hF
 dsimp only at hF
 have hFl:=hF.len
 have hml:=h.2.1
 have hlt:(m.take (nS b')).length=nS b':=by rw [List.length_take];omega
 have hq:rW (secs g f b) g f b:=⟨hs,rfl⟩
 have hql:(secs g f b).length=nS b:=dP _ _ _
 have at_ : ∀i,i<nS b'→∃x,m[i]? = some x∧jM x=true∧hG x=g'∧hN x=nS b':=fun i hi=>by
  have:=hF.at (i:=i) (by omega)
  refine⟨(m.take (nS b'))[i]'(by omega), ?_,this.2.1,this.2.2.1,this.2.2.2.2.2⟩
  rw [List.getElem_take,List.getElem?_eq_getElem]
 have aaV : ∀i,i<nS b→(secs g f b++o.drop (nS b))[i]? = (secs g f b)[i]? :=fun i hi=>List.getElem?_append_left (by omega)
 have aaW : ∀i,nS b≤i→(secs g f b++o.drop (nS b))[i]? = o[i]? :=fun i hi=>by
  rw [List.getElem?_append_right (by omega),hql,List.getElem?_drop,show nS b+(i-nS b)=i by omega]
 by_cases hg:g'=g
 ·subst hg
  left
  have isn : ∀i,i<nS b'→i<nS b∧m[i]? = (secs g' f b)[i]? :=fun i hi=>by
   obtain⟨x,x1,x2,x3,_⟩:=at_ i hi
   have no:m[i]? ≠o[i]? :=fun hc=>by
    rw [x1]at hc
    have:=ho x (List.mem_of_getElem? hc.symm) x2
    omega
   have hc:=(h.2.2 i).resolve_left no
   by_cases hi2:i<nS b
   ·exact⟨hi2,by rw [hc,aaV i hi2]⟩
   ·rw [aaW i (by omega)]at hc;exact absurd hc no
  have hn:nS b'=nS b:=by
   obtain⟨x,x1,_,_,x4⟩:=at_ 0 (by omega)
   obtain⟨y1,y2⟩:=isn 0 (by omega)
   rw [x1,List.getElem?_eq_getElem (by omega)]at y2
   injection y2 with y2
   have:=(hq.at (i:=0) (by omega)).2.2.2.2.2
   rw [←y2]at this
   omega
  refine List.ext_getElem? fun i=> ?_
  by_cases hi:i<nS b
  ·rw [aaV i hi];exact(isn i (by omega)).2
  ·rcases h.2.2 i with hc | hc
   ·rw [hc,aaW i (by omega)]
   ·exact hc
 ·right;right
  have iso : ∀i,i<nS b'→m[i]? = o[i]? :=fun i hi=>by
   rcases h.2.2 i with hc | hc
   ·exact hc
   ·by_cases hi2:i<nS b
    ·obtain⟨x,x1,x2,x3,_⟩:=at_ i hi
     rw [aaV i hi2,x1,List.getElem?_eq_getElem (by omega)]at hc
     injection hc with hc
     have:=(hq.at (i:=i) (by omega)).2.2.1
     rw [←hc]at this
     omega
    ·rw [hc,aaW i (by omega)]
  have et:m.take (nS b')=o.take (nS b'):=List.ext_getElem? fun i=>by
   by_cases hi:i<nS b'
   ·rw [List.getElem?_take_of_lt hi,List.getElem?_take_of_lt hi];exact iso i hi
   ·rw [List.getElem?_eq_none (by omega),List.getElem?_eq_none (by rw [List.length_take];omega)]
  rw [e]
  exact(Jz rfl (by omega) (by rw [←et];exact hF)).symm
structure WL (L:List By)(k:Int)(g:Nat)(bs:List By):Prop where
 ge:1≤g∧g≤4294967295
 nb:bs≠ []∧bs.length≤65536∧∀b∈bs,nS b≤255
 lay : ∃c o rest,L=jn k c o∧o.length=c.length∧c=nY g 0 bs++rest∧lg g rest bs.length = []∧(zY o=true→(fM o).1<g)
structure SL (L:List By)(k:Int)(g:Nat)(bs:List By):Prop where
 ge:1≤g∧g≤4294967295
 nb:bs≠ []∧bs.length≤65536∧∀b∈bs,nS b≤255
 lay : ∃c o rest,L=jn k c o∧o.length=c.length∧c=nY g 0 bs++rest∧(∀x∈rest,jM x=true→hG x<g)∧(zY o=true→(fM o).1<g)
theorem JI {g:Nat}{l:List By}{k:Nat}(h:(fM l).2.2.2.2=true→(fM l).1<g):lg (g:Int) l k = []:=by
 refine Eh ?_
 rintro⟨h1,h2,_⟩
 have:=h h1
 omega
theorem JJ {g:Nat}{l:List By}(h : ∀x∈l,jM x=true→hG x<g)(hx:(fM l).2.2.2.2=true):(fM l).1<g:=by
 obtain⟨s,hs,h1,h2⟩:=aaT hx
 have:=h s hs h1
 omega
theorem SL.wl {L:List By}{k:Int}{g:Nat}{bs:List By}(h:SL L k g bs):WL L k g bs:=by
 obtain⟨h1,h2,c,o,rest,a1,a2,a3,a4,a5⟩:=h
 exact⟨h1,h2,c,o,rest,a1,a2,a3,JI (JJ a4),a5⟩
theorem Ti {l:List By}(h:zY l=true):(fM l).2.2.2.2=true:=(aaE h).1
theorem Et {k:Int}{c o:List By}(h:o.length=c.length):(jn k c o).length/2=c.length:=by rw [JG];omega
theorem WL.hlf {L:List By}{k:Int}{g:Nat}{bs:List By}(h:WL L k g bs)(hk:k=0∨k=1):hlf (L.take (L.length/2)) (L.drop (L.length/2))=(k,sH [] bs):=by
 obtain⟨h1,⟨b0,b1,b2⟩,c,o,rest,rfl,a2,a3,a4,a5⟩:=h
 obtain⟨b,r,rfl⟩ : ∃b r,bs=b::r:=by
  cases bs with
  | nil=>exact absurd rfl b0
  | cons b r=>exact⟨b,r,rfl⟩
 have hn:fM c=(((g:Nat):Int),0,nS b,b,true):=by rw [a3];exact XO h1 (b2 b (List.mem_cons_self ..))
 have hL:zY c=true:=by rw [sO,hn];rfl
 have hE:NU c=sH [] (b::r):=by
  have e:NU c=sH [] (lg (fM c).1 c 0):=by unfold NU lg;rfl
  rw [e,hn,a3,aaU h1 rest (b::r) 0 (by omega) b2,Nat.zero_add,a4,List.append_nil]
 rw [Et a2]
 unfold jn
 unfold Cl.hlf
 rcases hk with rfl | rfl
 ·rw [if_pos rfl,List.take_left' rfl,List.drop_left' rfl,if_pos,hE]
  refine⟨hL, ?_⟩
  rcases Bool.eq_false_or_eq_true (zY o)with ho | ho
  ·right;rw [hn];exact Int.le_of_lt (a5 ho)
  ·exact .inl ho
 ·rw [if_neg (show ¬(1:Int)=0 by decide),List.take_left' a2,List.drop_left' a2,if_neg,if_pos hL,hE]
  rintro⟨h3,h4⟩
  rcases h4 with h4 | h4
  ·rw [hL]at h4;cases h4
  ·rw [hn]at h4
   have:=a5 h3
   dsimp only at h4
   omega
theorem aaX {c o:List By}{k:Int}{G:Nat}{b:By}(hk:k=0∨k=1)(hl:o.length=c.length)(hG : ∀x∈jn k c o,jM x=true→hG x≤G)(hg:G+1≤4294967295)(hb:nS b≤255∧nS b≤c.length) :
  wrt (jn k c o) ((1-k).toNat*c.length) (secs (G+1) 0 b)=jn k c (secs (G+1) 0 b++o.drop (nS b))∧SL (jn k c (secs (G+1) 0 b++o.drop (nS b))) (1-k) (G+1) [b]:=by
 have hq:(secs (G+1) 0 b).length=nS b:=dP _ _ _
 refine⟨?_,⟨by omega,hg⟩,⟨by simp,by show 1≤65536;decide,fun x hx=> ?_⟩, ?_⟩
 ·rcases hk with rfl | rfl
  ·show wrt (c++o) (1*c.length) _=c++_
   rw [Nat.one_mul]
   have:=Tf c o (secs (G+1) 0 b) 0
   rw [Nat.add_zero]at this
   rw [this]
   unfold wrt
   rw [List.take_zero,hq,Nat.zero_add];rfl
  ·show wrt (o++c) (0*c.length) _=(_++_)++c
   rw [Nat.zero_mul,Yt (by rw [hq];omega)]
   unfold wrt
   rw [List.take_zero,hq,Nat.zero_add];rfl
 ·rw [List.mem_singleton.1 hx];exact hb.1
 ·refine⟨secs (G+1) 0 b++o.drop (nS b),c,o.drop (nS b),XP hk _ _, ?_, ?_,fun x hx h=> ?_,fun h=> ?_⟩
  ·rw [List.length_append,List.length_drop,hq];omega
  ·show _=(secs (G+1) 0 b++ [])++_
   rw [List.append_nil]
  ·have:=hG x (JH.2 (.inr (List.mem_of_mem_drop hx))) h
   omega
  ·exact JJ (fun x hx h=>by have:=hG x (JH.2 (.inl hx)) h;omega) (Ti h)
theorem XQ {c o:List By}{k:Int}{g G:Nat}{b:By}{bs M:List By}(hl:o.length=c.length)(h:WL (jn k c o) k g bs)(hG : ∀x∈jn k c o,jM x=true→hG x≤G)(hg:G+1≤4294967295)(hb:nS b≤255∧nS b≤c.length)
  (hM:Mix (jn k c o) (jn k c (secs (G+1) 0 b++o.drop (nS b))) M):M=jn k c (secs (G+1) 0 b++o.drop (nS b))∨WL M k g bs:=by
 obtain⟨m,n,rfl,h1,h2⟩:=hM.jn rfl (by rw [List.length_append,dP,List.length_drop];omega)
 have e:=h1.self
 subst e
 have hx:=Ci (vG (by omega) (by omega) (by omega) (by omega) hb.1) (by omega) (fun x hx h=>by have:=hG x (JH.2 (.inr hx)) h;omega) h2
 obtain⟨g1,g2,c',o',rest,a1,a2,a3,a4,a5⟩:=h
 have hcc:c'=m∧o'=o:=by
  have hlen:m.length=c'.length:=by
   have:=congrArg List.length a1
   rw [JG,JG]at this;omega
  unfold jn at a1
  split at a1
  ·have:=List.append_inj a1 (by omega);exact⟨this.1.symm,this.2.symm⟩
  ·have:=List.append_inj a1 (by omega);exact⟨this.2.symm,this.1.symm⟩
 obtain⟨rfl,rfl⟩:=hcc
 rcases hx with hx | hx | hx
 ·exact .inl (by rw [hx])
 ·exact .inr ⟨g1,g2,c',n,rest,rfl,by have:=h2.2.1;omega,a3,a4,fun h=>by rw [Ti h]at hx;cases hx⟩
 ·exact .inr ⟨g1,g2,c',n,rest,rfl,by have:=h2.2.1;omega,a3,a4,fun h=>by
   rw [hx]
   refine a5 ?_
   rw [sO]at h ⊢
   rw [hx]at h;exact h⟩
theorem aaY {L:List By}{k:Int}{g:Nat}{bs:List By}{b:By}(h:SL L k g bs)(hk:k=0∨k=1)(hn:bs.length+1≤65536)(hb:nS b≤255)(hr:(nY g 0 bs).length+nS b≤L.length/2) :
  SL (wrt L (k.toNat*(L.length/2)+(nY g 0 bs).length) (secs g bs.length b)) k g (bs++ [b])∧∀M,Mix L (wrt L (k.toNat*(L.length/2)+(nY g 0 bs).length) (secs g bs.length b)) M→M=wrt L (k.toNat*(L.length/2)+(nY g 0 bs).length) (secs g bs.length b)∨WL M k g bs:=by
 obtain⟨g1,⟨b0,b1,b2⟩,c,o,rest,rfl,a2,a3,a4,a5⟩:=h
 have hq:(secs g bs.length b).length=nS b:=dP _ _ _
 have hh:=Et (k:=k) a2
 rw [hh]at hr ⊢
 have hcl:c.length=(nY g 0 bs).length+rest.length:=by rw [a3,List.length_append]
 have e:wrt (jn k c o) (k.toNat*c.length+(nY g 0 bs).length) (secs g bs.length b)=jn k (nY g 0 bs++(secs g bs.length b++rest.drop (nS b))) o:=by
  have ec:wrt c (nY g 0 bs).length (secs g bs.length b)=nY g 0 bs++(secs g bs.length b++rest.drop (nS b)):=by
   have:=Tf (nY g 0 bs) rest (secs g bs.length b) 0
   rw [Nat.add_zero]at this
   rw [a3,this]
   unfold wrt
   rw [List.take_zero,hq,Nat.zero_add];rfl
  unfold jn
  rcases hk with rfl | rfl
  ·show wrt (c++o) (0*_+_) _=_++o
   rw [Nat.zero_mul,Nat.zero_add,Yt (by rw [hq];omega),ec]
  ·show wrt (o++c) (1*_+_) _=o++_
   rw [Nat.one_mul, ←a2,Tf,ec]
 rw [e]
 have ef:nY g 0 bs++(secs g bs.length b++rest.drop (nS b))=nY g 0 (bs++ [b])++rest.drop (nS b):=by
  rw [LP,Nat.zero_add,List.append_assoc]
 have hlen:(nY g 0 bs++(secs g bs.length b++rest.drop (nS b))).length=c.length:=by
  rw [List.length_append,List.length_append,List.length_drop,hq];omega
 refine⟨⟨g1,⟨by simp,by rw [List.length_append];exact hn,fun x hx=> ?_⟩,_,o,rest.drop (nS b),rfl,by omega,ef,fun x hx=>a4 x (List.mem_of_mem_drop hx),a5⟩,fun M hM=> ?_⟩
 ·rcases List.mem_append.1 hx with hx | hx
  ·exact b2 x hx
  ·rw [List.mem_singleton.1 hx];exact hb
 ·obtain⟨m,n,rfl,h1,h2⟩:=hM.jn hlen.symm rfl
  have e2:=h2.self
  subst e2
  rw [a3]at h1
  obtain⟨p,r,rfl,h3,h4⟩:=h1.app rfl
  have e3:=h3.self
  subst e3
  have hx:=Ci (vG (by omega) (by omega) (by omega) (by omega) hb) (by omega) a4 h4
  rcases hx with hx | hx | hx
  ·exact .inl (by rw [hx])
  ·exact .inr ⟨g1,⟨b0,b1,b2⟩,_,n,r,rfl,by have:=h4.2.1;rw [List.length_append];omega,rfl,JI fun h=>(by rw [hx]at h;cases h),a5⟩
  ·exact .inr ⟨g1,⟨b0,b1,b2⟩,_,n,r,rfl,by have:=h4.2.1;rw [List.length_append];omega,rfl,JI fun h=>(by rw [hx]at h ⊢;exact JJ a4 h),a5⟩
end
section
theorem aaZ {P:Program}{G:Glob}{f:FuncId}{b:By}{R:AV→Nat→aj→Prop}(h:bC P G f [bs b] 0 [] R){w:World}(hw:G.holds w) : ∃a n H,R a n H:=by
 have hr:Row (w.alloc (.cells (cZ b).toArray 0)) (some ⟨w.heap.size,0,none⟩) (cZ b):=Row.alloc1 w (cZ b) 0
 have e : ∀b:By,cZ b=recs (fun x:UInt8=> [Value.int .u8 x.toNat]) b:=fun b=>by
  unfold cZ recs
  induction b with
  | nil=>rfl
  | cons c r ih=>rw [List.map_cons,ih];rfl
 have hv:dN (Here (w.alloc (.cells (cZ b).toArray 0))) (w.alloc (.cells (cZ b).toArray 0)) (.lst 1 (b.map dO)) (.slice (some ⟨w.heap.size,0,none⟩) b.length b.length):=
  Nc (enc:=dO) (c:=fun x:UInt8=> [Value.int .u8 x.toNat]) (fun _=>rfl) (fun _=>rfl) (fun a v hv=>by rw [List.mem_singleton.1 hv];rfl) (Nat.le_refl _) (fun e=>by cases e) (by rw [←e];exact hr) (fun _ h=>h) (by decide)
 have hG:G.holds (w.alloc (.cells (cZ b).toArray 0)):=Glob.fJ hw (by simp) fun k hk=>heap_alloc_old w _ (Nat.lt_of_lt_of_le hk hw.1)
 have st:St G (w.alloc (.cells (cZ b).toArray 0)) (jU (w.alloc (.cells (cZ b).toArray 0)) Ja []) (Here (w.alloc (.cells (cZ b).toArray 0))) 0 Ja (Here (w.alloc (.cells (cZ b).toArray 0))) [] (w.alloc (.cells (cZ b).toArray 0)):=
  ⟨hG,pV.refl _ _,fun b hb=>⟨hb, .inl hb⟩,(fun aP b h=>by cases h),(fun aP b g h=>by cases h),(fun aP pW b b' g h=>by cases h),(fun aP b h=>by cases h)⟩
 obtain⟨_,_,_,⟨v,_,a,n,_,_,H,hR,_⟩,_⟩:=h _ _ _ [.slice (some ⟨w.heap.size,0,none⟩) b.length b.length] st ⟨.lst hv,trivial⟩ []
 exact⟨a,n,H,hR⟩
def Rd:Prop:= ∀l:List Ev,(∀e∈l,e.ok)→jJ l=0→(tab l).length≤100000→tV (tab l)=(l,0)
theorem aa0 {w:World}(hw:GS.holds w):Rd:=fun l h1 h2 h3=>by
 obtain⟨_,_,_,l',e,hR,_⟩:=aaZ (zX (tab l) (by omega)) hw
 have hx:=hR.2.2.2 l h1 h2 rfl
 rw [RV hR,hx.1,hx.2]
theorem aa1:nS (tab [])=1:=by rw [Ep];decide
attribute [local irreducible] num hsh oM jM fM lg tV tab jY sec hG hF hI hN
def Oo (bs:List By)(ev:List Ev):Prop:= ∃els:List (List Ev),bs=els.map tab∧els.flatten=ev∧∀l∈els,((∀e∈l,e.ok)∧jJ l=0)∧(tab l).length≤100000
theorem XR (hrd:Rd) : ∀(els:List (List Ev)) (out:List Ev),(∀l∈els,((∀e∈l,e.ok)∧jJ l=0)∧(tab l).length≤100000)→(out++els.flatten).length≤512→sH out (els.map tab)=out++els.flatten:=by
 intro els
 induction els with
 | nil=>intro out _ _;simp [sH]
 | cons l r ih=>
  intro out h hl
  have hlr:=h l (List.mem_cons_self ..)
  rw [List.flatten_cons,List.length_append,List.length_append]at hl
  have e:=hrd l hlr.1.1 hlr.1.2 hlr.2
  rw [List.map_cons,List.flatten_cons]
  unfold sH
  rw [e,if_neg (by simp only [not_or];exact⟨by simp,by omega⟩), ←List.append_assoc]
  exact ih (out++l) (fun x hx=>h x (List.mem_cons_of_mem _ hx)) (by rw [List.length_append,List.length_append];omega)
theorem Oo.sH (hrd:Rd){bs:List By}{ev:List Ev}(h:Oo bs ev)(hl:ev.length≤512):sH [] bs=ev:=by
 obtain⟨els,rfl,rfl,h⟩:=h
 exact XR hrd els [] h hl
theorem Tj {b:By}(h:nS b≤255):b.length≤100000:=by unfold nS dat at h;rw [List.length_append]at h;omega
theorem Oo.one {ev:List Ev}(h:(∀e∈ev,e.ok)∧jJ ev=0)(hn:nS (tab ev)≤255):Oo [tab ev] ev:=⟨[ev],rfl,by simp,fun l hl=>by rw [List.mem_singleton.1 hl];exact⟨h,Tj hn⟩⟩
theorem Oo.snoc {bs:List By}{ev l:List Ev}(h:Oo bs ev)(hl:(∀e∈l,e.ok)∧jJ l=0)(hn:nS (tab l)≤255):Oo (bs++ [tab l]) (ev++l):=by
 obtain⟨els,rfl,rfl,h⟩:=h
 refine⟨els++ [l],by simp,by simp,fun x hx=> ?_⟩
 rcases List.mem_append.1 hx with hx | hx
 ·exact h x hx
 ·rw [List.mem_singleton.1 hx];exact⟨hl,Tj hn⟩
structure Fit (n:Nat)(ev:List Ev):Prop where
 ok:(∀e∈ev,e.ok)∧jJ ev=0
 n1:nS (tab ev)≤255
 n2:nS (tab ev)≤n/2
def Bd (L:List By)(G:Nat):Prop:= ∀x∈L,jM x=true→Cl.hG x≤G
theorem Bd.mono {L:List By}{G G':Nat}(h:Bd L G)(hg:G≤G'):Bd L G':=fun x hx hr=>Nat.le_trans (h x hx hr) hg
theorem Bd.secs {g f G:Nat}{b:By}(hs:jO g f b=0)(hg:g≤G):Bd (secs g f b) G:=fun x hx _=>by
 obtain⟨i,hi,rfl⟩:=List.mem_iff_getElem.1 hx
 have:=(rW.at (l:=Cl.secs g f b) ⟨hs,rfl⟩ hi).2.2.1
 omega
theorem Bd.app {A B:List By}{G:Nat}(h:Bd A G)(k:Bd B G):Bd (A++B) G:=fun x hx hr=>(List.mem_append.1 hx).elim (fun h'=>h x h' hr) fun h'=>k x h' hr
theorem Bd.take {A:List By}{G:Nat}(h:Bd A G)(n:Nat):Bd (A.take n) G:=fun x hx hr=>h x (List.mem_of_mem_take hx) hr
theorem Bd.drop {A:List By}{G:Nat}(h:Bd A G)(n:Nat):Bd (A.drop n) G:=fun x hx hr=>h x (List.mem_of_mem_drop hx) hr
theorem Bd.wrt {L l:List By}{G a:Nat}(h:Bd L G)(k:Bd l G):Bd (wrt L a l) G:=((h.take a).app k).app (h.drop _)
theorem Bd.mix {A B M:List By}{G:Nat}(h:Bd A G)(k:Bd B G)(hM:Mix A B M):Bd M G:=fun x hx hr=>by
 obtain⟨i,hi,rfl⟩:=List.mem_iff_getElem.1 hx
 rcases hM.2.2 i with e | e
 ·rw [List.getElem?_eq_getElem hi]at e;exact h _ (List.mem_of_getElem? e.symm) hr
 ·rw [List.getElem?_eq_getElem hi]at e;exact k _ (List.mem_of_getElem? e.symm) hr
structure Tm (n G:Nat)(ev:List Ev)(L:List By):Prop where
 len:L.length=n
 bd:Bd L G
 wl : ∃k g bs,(k=0∨k=1)∧WL L k g bs∧Oo bs ev
structure Hq (n G:Nat)(s:So):Prop where
 ok:s.ok
 dead:s.d.dead=false
 safe:s.d.safe=s.d.now
 len:s.d.now.length=n
 bd:Bd s.d.now G
 gen:s.gen≤(G:Int)
 sl : ∃bs,SL s.d.now s.half s.gen.toNat bs∧Oo bs s.ev∧s.next=((nY s.gen.toNat 0 bs).length:Nat)∧s.frame=(bs.length:Nat)
 fit:Fit n s.ev
theorem Hq.gd {n G:Nat}{s:So}(h:Hq n G s):Tm n G s.ev s.d.now:=by
 obtain⟨bs,h1,h2,_⟩:=h.sl
 exact⟨h.len,h.bd,s.half,_,bs,h.ok.half,h1.wl,h2⟩
theorem Hq.arm {n G:Nat}{s:So}(h:Hq n G s){f:Int}(hf : -1≤f∧f≤9223372036854775807):Hq n G {s with d:=s.d.arm f}:=
 ⟨h.ok.arm hf,h.dead,h.safe,h.len,h.bd,h.gen,h.sl,h.fit⟩
theorem Hq.mono {n G G':Nat}{s:So}(h:Hq n G s)(hg:G≤G'):Hq n G' s:=⟨h.ok,h.dead,h.safe,h.len,h.bd.mono hg,by have:=h.gen;omega,h.sl,h.fit⟩
theorem Tm.mono {n G G':Nat}{ev:List Ev}{L:List By}(h:Tm n G ev L)(hg:G≤G'):Tm n G' ev L:=⟨h.len,h.bd.mono hg,h.wl⟩
theorem aa2 : ∀ {l:List By} {a G:Int},a≤G→(∀x∈l,jM x=true→(Cl.hG x:Int)≤G)→lW a l≤G:=by
 intro l
 induction l with
 | nil=>intro a G ha _;exact ha
 | cons s r ih=>
  intro a G ha h
  unfold lW
  rw [List.foldl_cons]
  refine ih ?_ fun x hx=>h x (List.mem_cons_of_mem _ hx)
  split
  ·rename_i hs
   exact Int.max_le.2 ⟨ha,h s (List.mem_cons_self ..) hs⟩
  ·exact ha
theorem ac2 {L:List By}(k:Int)(h:L.length%2=0) : ∃c o,L=jn k c o∧o.length=c.length:=by
 unfold jn
 split
 ·exact⟨L.take (L.length/2),L.drop (L.length/2),(List.take_append_drop ..).symm,by rw [List.length_take,List.length_drop];omega⟩
 ·exact⟨L.drop (L.length/2),L.take (L.length/2),(List.take_append_drop ..).symm,by rw [List.length_take,List.length_drop];omega⟩
theorem xZ {d:Dk}(hd:d.ok)(h1:d.dead=false)(h2:d.safe=d.now){n G:Nat}(hn:d.now.length=n)(hG:Bd d.now G){gen k nx fr:Int}(hg:0≤gen∧gen≤G)(hG2:G+1≤4294967295)(hk:k=0∨k=1){ev:List Ev}(hf:Fit n ev){r:So×Int}(hr:r=kX ⟨d,gen,k,nx,fr,ev⟩) :
  (r.2=0∧Hq n (G+1) r.1∧r.1.ev=ev∧gen<r.1.gen∧(d.fuse<0→r.1.d.fuse<0))∨
  (r.2=40∧0≤d.fuse∧∃d',r.1=So.wR d'∧d'.ok∧∀old g bs,WL d.now k g bs→Oo bs old→∀M,Mix d'.now d'.safe M→Tm n (G+1) old M∨Tm n (G+1) ev M):=by
 have hout:=G8 (s:=⟨d,gen,k,nx,fr,ev⟩) hd hf.ok hg.1 hk
 rw [←hr]at hout
 obtain⟨c,o,e0,hl⟩:=ac2 k hd.ev
 have hh:d.now.length/2=c.length:=by rw [e0];exact Et hl
 have hgl:gen≤lW gen d.now:=Jy
 have hgu:lW gen d.now≤G:=aa2 hg.2 fun x hx hr=>by have:=hG x hx hr;omega
 obtain⟨G0,hG0⟩ : ∃G0:Nat,lW gen d.now=(G0:Int):=⟨(lW gen d.now).toNat,by omega⟩
 have hB0 : ∀x∈jn k c o,jM x=true→Cl.hG x≤G0:=fun x hx hr=>by
  rw [←e0]at hx
  have:=Xm (a:=gen) hx hr
  omega
 have hn2:=hf.n2
 obtain⟨q1,q2⟩:=aaX (b:=tab ev) hk hl hB0 (by omega) ⟨hf.n1,by omega⟩
 have hsc:jO ((G0+1:Nat):Int) (0:Nat) (tab ev)=0:=vG (by omega) (by omega) (by omega) (by omega) hf.n1
 have hcE:jO (lW gen d.now+1) 0 (tab ev)=0:=by rw [hG0];exact hsc
 have hcL:qm (lW gen d.now+1) 0 (tab ev)=secs (G0+1) 0 (tab ev):=by
  unfold qm;rw [if_pos hcE,hG0];rfl
 have hlen:(secs (G0+1) 0 (tab ev)).length=nS (tab ev):=dP _ _ _
 rw [←e0, ←hh]at q1
 have hat:(1-k).toNat*(d.now.length/2)+nS (tab ev)≤d.now.length:=by
  rcases hk with rfl | rfl
  ·show 1*_+_≤_;omega
  ·show 0*_+_≤_;omega
 have hwl:(wrt d.now ((1-k).toNat*(d.now.length/2)) (secs (G0+1) 0 (tab ev))).length=d.now.length:=LQ (by omega)
 have aa3:=LU d.now (wrt d.now ((1-k).toNat*(d.now.length/2)) (secs (G0+1) 0 (tab ev))) hwl.symm (secs (G0+1) 0 (tab ev)) d ((1-k).toNat*(d.now.length/2)) h1 h2 ⟨hwl.symm,rfl,fun _=> .inl rfl⟩ fun i hi=>LV (by omega) i hi
 obtain⟨d',e,hw,hx⟩:=aa3
 have hBs:Bd (secs (G0+1) 0 (tab ev)) (G+1):=Bd.secs hsc (by omega)
 have hB1:Bd (wrt d.now ((1-k).toNat*(d.now.length/2)) (secs (G0+1) 0 (tab ev))) (G+1):=(hG.mono (by omega)).wrt hBs
 have hgo:=xU (s:=⟨d,gen,k,nx,fr,ev⟩) (d:=d') (e:=e) (by dsimp only;rw [hcE];simp;omega) (by dsimp only;rw [hcL];exact hw)
 rw [←hr]at hgo
 rcases hx with ⟨rfl,a1,a2,a3,a4⟩ | ⟨rfl,a1,a2,a3⟩
 ·left
  rw [if_neg (by simp)]at hgo
  dsimp only at hgo
  subst hgo
  have hok:So.ok ⟨d',lW gen d.now+1,1-k,((nS (tab ev):Nat):Int),1,ev⟩:=by
   rcases hout with ⟨_,h⟩ | ⟨h,_⟩ | ⟨h,_⟩
   ·exact h
   ·cases h
   ·exact absurd rfl h
  rw [q1]at a1
  refine⟨rfl,⟨hok,a3,a2, ?_, ?_,by dsimp only;omega,⟨[tab ev], ?_,Oo.one hf.ok hf.n1, ?_,rfl⟩,hf⟩,rfl,by dsimp only;omega,a4⟩
  ·dsimp only;rw [a1, ←q1,hwl,hn]
  ·dsimp only;rw [a1, ←q1];exact hB1
  ·dsimp only
   rw [a1,show (lW gen d.now+1).toNat=G0+1 by omega]
   exact q2
  ·dsimp only
   show _=(((Cl.secs _ 0 (tab ev)++ []:List By).length:Nat):Int)
   rw [List.append_nil,dP]
 ·right
  rw [if_pos (by decide)]at hgo
  subst hgo
  have hok:d'.ok:=by
   rcases hout with ⟨h,_⟩ | ⟨_,d2,h,h3⟩ | ⟨_,h,_⟩
   ·cases h
   ·have:d'=d2:=congrArg So.d h3
    rw [this];exact h
   ·exact absurd rfl h
  refine⟨rfl,a1,d',rfl,hok,fun old g bs hW hT M hM=> ?_⟩
  rw [a2]at hM
  have hM2:Mix d.now (wrt d.now ((1-k).toNat*(d.now.length/2)) (secs (G0+1) 0 (tab ev))) M:=by
   refine⟨hwl.symm,hM.2.1.trans a3.2.1,fun j=> ?_⟩
   rcases hM.2.2 j with h | h
   ·rw [h];exact a3.2.2 j
   ·exact .inl h
  have hMl:M.length=n:=hM2.2.1.trans hn
  have hMb:Bd M (G+1):=(hG.mono (by omega)).mix hB1 hM2
  rw [q1]at hM2
  rw [e0]at hM2 hW
  rcases XQ hl hW hB0 (by omega) ⟨hf.n1,by omega⟩ hM2 with h | h
  ·refine .inr ⟨hMl,hMb,1-k,G0+1,[tab ev],by omega, ?_,Oo.one hf.ok hf.n1⟩
   rw [h];exact q2.wl
  ·exact .inl ⟨hMl,hMb,k,g,bs,hk,h,hT⟩
theorem G9 (hrd:Rd){d:Dk}(hd:d.ok)(h1:d.dead=false)(h2:d.safe=d.now){n G:Nat}{ev:List Ev}(h:Tm n G ev d.now)(hf:Fit n ev)(hG2:G+1≤4294967295){r:So×Int}(hr:r=nN d) :
  (r.2=0∧Hq n (G+1) r.1∧r.1.ev=ev∧(d.fuse<0→r.1.d.fuse<0))∨(r.2=40∧0≤d.fuse∧∃d',r.1=So.wR d'∧d'.ok∧∀M,Mix d'.now d'.safe M→Tm n (G+1) ev M):=by
 obtain⟨hn,hB,k,g,bs,hk,hW,hT⟩:=h
 have hh:=hW.hlf hk
 rw [hT.sH hrd (oO hf.ok.2).1]at hh
 have e:nN d=kX ⟨d,0,k,0,0,ev⟩:=by unfold nN;rw [if_neg (by rw [h1];decide),hh]
 rw [e]at hr
 rcases xZ hd h1 h2 hn hB ⟨Int.le_refl 0,by omega⟩ hG2 hk hf hr with ⟨a,b,c,_,f⟩ | ⟨a,b,d',c,f,g'⟩
 ·exact .inl ⟨a,b,c,f⟩
 ·exact .inr ⟨a,b,d',c,f,fun M hM=>(g' ev g bs hW hT M hM).elim id id⟩
theorem wK {s:So}{n G:Nat}(h:Hq n G s)(hG2:G+1≤4294967295){r:So×Int}(hr:r=kX s) :
  (r.2=0∧Hq n (G+1) r.1∧r.1.ev=s.ev∧s.gen<r.1.gen∧(s.d.fuse<0→r.1.d.fuse<0))∨(r.2=40∧0≤s.d.fuse∧∃d',r.1=So.wR d'∧d'.ok∧∀M,Mix d'.now d'.safe M→Tm n (G+1) s.ev M):=by
 obtain⟨bs,hS,hT,_⟩:=h.sl
 have hg:=h.ok.gen
 have hg2:=h.gen
 rcases xZ (r:=r) (nx:=s.next) (fr:=s.frame) h.ok.d h.dead h.safe h.len h.bd ⟨by omega,hg2⟩ hG2 h.ok.half h.fit hr with hx | ⟨a,b,d',c,f,g'⟩
 ·exact .inl hx
 ·exact .inr ⟨a,b,d',c,f,fun M hM=>(g' s.ev _ bs hS.wl hT M hM).elim id id⟩
theorem JK {s:So}{n G:Nat}(h:Hq n G s)(hG2:G+1≤4294967295){l:List Ev}(hl:(∀e∈l,e.ok)∧jJ l=0)(hc:s.ev.length+l.length≤512){r:So×Int}(hr:r=nO s l) :
  (r.2=0∧Hq n (G+1) r.1∧r.1.ev=s.ev++l∧(s.d.fuse<0→r.1.d.fuse<0))∨r.2=19∨(r.2=40∧0≤s.d.fuse∧∃d',r.1=So.wR d'∧d'.ok∧∀M,Mix d'.now d'.safe M→Tm n (G+1) s.ev M∨Tm n (G+1) (s.ev++l) M∧Fit n (s.ev++l)):=by
 obtain⟨bs,hS,hT,hnx,hfr⟩:=h.sl
 have hg:=h.ok.gen
 have hg2:=h.gen
 have hout:=Td h.ok hl.1 hl.2
 rw [←hr]at hout
 by_cases c3:l = []
 ·subst c3
  rw [Af s (oO h.ok.ev.2).1]at hr
  subst hr
  exact .inl ⟨rfl,h.mono (by omega),(List.append_nil _).symm,id⟩
 by_cases c4:255<nS (tab (s.ev++l))∨s.d.now.length/2<nS (tab (s.ev++l))
 ·rw [vM hl.2 (by omega) c3 c4]at hr
  subst hr
  exact .inr (.inl rfl)
 have hlen:=h.len
 have hf:Fit n (s.ev++l):=⟨⟨fun e he=>(List.mem_append.1 he).elim (h.fit.ok.1 e) (hl.1 e),xW h.fit.ok.2 hl.2 (by rw [List.length_append];exact hc)⟩,by omega,by omega⟩
 by_cases c5:jO s.gen s.frame (tab l)≠0∨((s.d.now.length/2:Nat):Int)<s.next+(nS (tab l):Nat)
 ·rw [Ag hl.2 (by omega) c3 c4 c5]at hr
  rcases xZ (r:=r) (nx:=s.next) (fr:=s.frame) h.ok.d h.dead h.safe h.len h.bd ⟨by omega,hg2⟩ hG2 h.ok.half hf hr with ⟨a,b,c,_,f⟩ | ⟨a,b,d',c,f,g'⟩
  ·exact .inl ⟨a,b,c,f⟩
  ·exact .inr (.inr ⟨a,b,d',c,f,fun M hM=>(g' s.ev _ bs hS.wl hT M hM).imp id fun h=>⟨h,hf⟩⟩)
 have hsc:jO s.gen s.frame (tab l)=0:=by
  by_cases hz:jO s.gen s.frame (tab l)=0
  ·exact hz
  ·exact absurd (.inl hz) c5
 have hsz:=wB hsc
 have hroom:(nY s.gen.toNat 0 bs).length+nS (tab l)≤s.d.now.length/2:=by
  have : ¬((s.d.now.length/2:Nat):Int)<s.next+(nS (tab l):Nat):=fun hx=>c5 (.inr hx)
  omega
 have hcL:qm s.gen s.frame (tab l)=secs s.gen.toNat bs.length (tab l):=by
  unfold qm;rw [if_pos hsc,hfr];rfl
 have hsc2:jO (s.gen.toNat:Nat) (bs.length:Nat) (tab l)=0:=by rw [←hfr,Int.toNat_of_nonneg (by omega)];exact hsc
 obtain⟨q1,q2⟩:=aaY hS h.ok.half (by omega) hsz.2.2.2.2 hroom
 have hql:(secs s.gen.toNat bs.length (tab l)).length=nS (tab l):=dP _ _ _
 have hev:=h.ok.d.ev
 have hat:s.half.toNat*(s.d.now.length/2)+(nY s.gen.toNat 0 bs).length+nS (tab l)≤s.d.now.length:=by
  rcases h.ok.half with hk | hk
  ·rw [hk];show 0*_+_+_≤_;omega
  ·rw [hk];show 1*_+_+_≤_;omega
 have hwl:(wrt s.d.now (s.half.toNat*(s.d.now.length/2)+(nY s.gen.toNat 0 bs).length) (secs s.gen.toNat bs.length (tab l))).length=s.d.now.length:=LQ (by omega)
 have aa3:=LU s.d.now (wrt s.d.now (s.half.toNat*(s.d.now.length/2)+(nY s.gen.toNat 0 bs).length) (secs s.gen.toNat bs.length (tab l))) hwl.symm (secs s.gen.toNat bs.length (tab l)) s.d (s.half.toNat*(s.d.now.length/2)+(nY s.gen.toNat 0 bs).length) h.dead h.safe ⟨hwl.symm,rfl,fun _=> .inl rfl⟩ fun i hi=>LV (by omega) i hi
 obtain⟨d',e,hw,hx⟩:=aa3
 have hBs:Bd (secs s.gen.toNat bs.length (tab l)) (G+1):=Bd.secs hsc2 (by omega)
 have hB1:=((h.bd.mono (Nat.le_succ G)).wrt (a:=s.half.toNat*(s.d.now.length/2)+(nY s.gen.toNat 0 bs).length) hBs)
 have hnt:s.next.toNat=(nY s.gen.toNat 0 bs).length:=by omega
 rw [Eo hl.2 (by omega) c3 c4 c5 (d:=d') (e:=e) (by rw [hcL,hnt];exact hw)]at hr
 rcases hx with ⟨rfl,a1,a2,a3,a4⟩ | ⟨rfl,a1,a2,a3⟩
 ·left
  rw [if_neg (by simp)]at hr
  subst hr
  have hok:So.ok ⟨d',s.gen,s.half,s.next+(nS (tab l):Nat),s.frame+1,s.ev++l⟩:=by
   rcases hout with ⟨_,h⟩ | ⟨h,_⟩ | ⟨h,_⟩
   ·exact h
   ·cases h
   ·exact absurd rfl h
  refine⟨rfl,⟨hok,a3,a2, ?_, ?_,by dsimp only;omega,⟨bs++ [tab l], ?_,hT.snoc hl hsz.2.2.2.2, ?_, ?_⟩,hf⟩,rfl,a4⟩
  ·dsimp only;rw [a1,hwl];exact hlen
  ·dsimp only;rw [a1];exact hB1
  ·dsimp only;rw [a1];exact q1
  ·dsimp only;rw [LP,List.length_append,dP,hnx];omega
  ·dsimp only;rw [hfr,List.length_append];rfl
 ·right;right
  rw [if_pos (by decide)]at hr
  subst hr
  have hok:d'.ok:=by
   rcases hout with ⟨h,_⟩ | ⟨_,d2,h,h3⟩ | ⟨_,h,_⟩
   ·cases h
   ·have:d'=d2:=congrArg So.d h3
    rw [this];exact h
   ·exact absurd rfl h
  refine⟨rfl,a1,d',rfl,hok,fun M hM=> ?_⟩
  rw [a2]at hM
  have hM2:Mix s.d.now (wrt s.d.now (s.half.toNat*(s.d.now.length/2)+(nY s.gen.toNat 0 bs).length) (secs s.gen.toNat bs.length (tab l))) M:=by
   refine⟨hwl.symm,hM.2.1.trans a3.2.1,fun j=> ?_⟩
   rcases hM.2.2 j with h | h
   ·rw [h];exact a3.2.2 j
   ·exact .inl h
  have hMl:M.length=n:=hM2.2.1.trans hlen
  have hMb:Bd M (G+1):=(h.bd.mono (Nat.le_succ G)).mix hB1 hM2
  rcases q2 M hM2 with hx | hx
  ·refine .inr ⟨⟨hMl,hMb,s.half,s.gen.toNat,bs++ [tab l],h.ok.half, ?_,hT.snoc hl hsz.2.2.2.2⟩,hf⟩
   rw [hx];exact q1.wl
  ·exact .inl ⟨hMl,hMb,s.half,_,bs,h.ok.half,hx,hT⟩
theorem N9 {n:Nat}(h2:8≤n):nN (dk0 n)=kX ⟨dk0 n,0,1,0,0,[]⟩:=by
 have hl:(dk0 n).now.length=n:=by simp [dk0]
 have e1:hlf ((dk0 n).now.take ((dk0 n).now.length/2)) ((dk0 n).now.drop ((dk0 n).now.length/2))=(1,[]):=by
  have ta:(dk0 n).now.take ((dk0 n).now.length/2)=List.replicate (n/2) z64:=by
   rw [hl];show (List.replicate n z64).take (n/2)=_
   rw [List.take_replicate,Nat.min_eq_left (by omega)]
  have tb:(dk0 n).now.drop ((dk0 n).now.length/2)=List.replicate (n-n/2) z64:=by
   rw [hl];show (List.replicate n z64).drop (n/2)=_
   rw [List.drop_replicate]
  rw [ta,tb]
  unfold hlf
  rw [LK,LK]
  rfl
 unfold nN
 rw [if_neg (show ¬((dk0 n).dead=true) by show ¬(false=true);decide),e1]
theorem Oa {n:Nat}(h1:n%2=0)(h2:8≤n)(h3:n≤256){r:So×Int}(hr:r=nN (dk0 n)):r.2=0∧Hq n 1 r.1∧r.1.ev = []∧r.1.d.fuse<0:=by
 rw [N9 h2]at hr
 have hN:=aa1
 rcases xZ (d:=dk0 n) (n:=n) (G:=0) (gen:=0) (ev:= []) (JD h1 h2 h3) rfl rfl (by simp [dk0]) (fun x hx hr=>by
  have hx:x∈List.replicate n z64:=hx
  rw [(List.mem_replicate.1 hx).2,SN]at hr
  cases hr) ⟨Int.le_refl 0,Int.le_refl 0⟩ (by omega) (.inr rfl) ⟨⟨(fun e he=>by cases he),xX⟩,by omega,by omega⟩ hr with ⟨a,b,c,_,f⟩ | ⟨_,b,_⟩
 ·exact⟨a,b,c,f (by show (-1:Int)<0;decide)⟩
 ·exact absurd b (by show ¬(0:Int)≤ -1;decide)
end
attribute [local irreducible] loadVar storeVar Instr.indexAt Instr.index Instr.sliceAt Instr.makeSlice Instr.lookup Instr.mapUpdate Instr.range Instr.next Instr.entry Instr.makeMap Builtin.append_ Builtin.copy_ Builtin.len_ Builtin.min_ Builtin.max_ Builtin.cap_ Builtin.delete_ Builtin.clear_ convert binOp eqGuard Op.unary Calls
section
open Go.Proofs.YtocckceefcmeaaaGreatDoor.Ky
attribute [local irreducible] num hsh oM jM
end
section
open Go.Proofs.YtocckceefcmeaaaGreatDoor.Ky
attribute [local irreducible] num hsh oM jM fM lg tV sH tab jY wG sec hG hF hI hN SV nN kX nO
theorem aa4 {l:List Ac}(h:lng l=false):l.length≤16∧∀a∈l,a.ev.length≤100∧a.pick.length≤40:=by
 unfold lng at h
 rw [Bool.or_eq_false_iff]at h
 refine⟨by simpa using h.2,fun a ha=> ?_⟩
 have:=List.any_eq_false.1 h.1 a ha
 simp at this
 omega
structure Kp where
 s:So
 i:Nat
theorem Ob (hrd:Rd)(k:Nat)(hk:k<256)(l:List Ac)(hok : ∀a∈l,a.ok)(hl:l.length≤4611686018427387904):bC Tryz.prog GS 7 [u8v k, .lst 4 (l.map SY)] 0 [] (Is (bv true)):=by
 refine au Tryz.func7 rfl mixed (by kernel_rfl) ?_
 conv=>whnf
 (refine aW [] (by kernel_rfl) (XG) rfl ?_ ?_;(focus trivial))
 conv=>whnf
 (refine aW [] (by kernel_rfl) (acZ l hl) rfl ?_ ?_;(focus trivial))
 conv=>whnf
 apply ah<;>intro h
 ·conv=>whnf
  exact aZ [] rfl
 have hlong:=aa4 h
 have hP:=Em (dk0 (8+2*k%60)) (JD (by omega) (by omega) (by omega))
 obtain⟨q,hq⟩ : ∃q,q=nN (dk0 (8+2*k%60)):=⟨_,rfl⟩
 have hF:=Oa (by omega) (by omega) (by omega) hq
 rw [←hq]at hP
 clear hq
 obtain⟨⟨d0,aeu,ac5,ac6,iw,ev0⟩,e0⟩:=q
 obtain⟨h00,hS0,hE0,hf0⟩:=hF
 have h00:e0=0:=h00
 have hE0:ev0 = []:=hE0
 subst h00 hE0
 dsimp only at hP hS0 hf0
 generalize 8+2*k%60=n at hS0
 conv=>whnf
 refine ak [] (by kernel_rfl) (SK k hk) (by trivial) ?_
 rintro _ _ _ ⟨rfl,rfl,rfl⟩
 conv=>whnf
 refine ak [] (by kernel_rfl) hP (by trivial) ?_
 rintro _ _ _ ⟨rfl,rfl,rfl⟩
 conv=>whnf
 refine bf abE 2 [7,8] (fun x:Kp=> [(7, .own 1),(8,iv x.i)]) (fun x=> [(0, .var 43 (stC x.s)),(1, .rows 95 10 (x.s.ev.map iE))]) (fun x=>x.i≤l.length∧Hq n (1+2*x.i) x.s∧x.s.ev.length≤12*x.i∧x.s.d.fuse<0) (fun x=>l.length-x.i) [(1, .nil)] [] ⟨⟨d0,aeu,ac5,ac6,iw,[]⟩,0⟩ (by kernel_rfl) (fun _=>rfl) rfl ⟨Nat.zero_le _,hS0,Nat.zero_le _,hf0⟩ (by trivial) (by trivial) ?_
 rintro⟨s,i⟩ ⟨hi,hs,hel,hfu⟩
 dsimp only at hi hs hel hfu
 conv=>whnf
 apply ah<;>intro h
 rotate_left 1
 ·conv=>whnf
  refine ak [1] (by kernel_rfl) (oP s.ev (by omega)) (by trivial) ?_
  rintro _ _ _ ⟨rfl,rfl,rfl⟩
  conv=>whnf
  exact aZ [] rfl
 have hlt:i<l.length:=by simp only [List.length_map]at h;simp at h;omega
 have hao:=hok _ (List.getElem_mem hlt)
 have hal:=hlong.2 _ (List.getElem_mem hlt)
 have afv:=hlong.1
 have hev:=aaS l[i] (by omega) (n:=i) (by omega)
 obtain⟨hv1,hv2,hv3⟩:=hev
 have hE:=aaQ l[i] (by omega) i (by omega)
 generalize S9 l[i] i=ev at *
 have hQ:=SH s hs.ok ev hv1 (by omega)
 obtain⟨q,hq⟩ : ∃q,q=nO s ev:=⟨_,rfl⟩
 have hF:=JK hs (by omega) ⟨hv1,hv2⟩ (by omega) hq
 rw [←hq]at hQ
 clear hq
 obtain⟨s1,e1⟩:=q
 dsimp only at hQ hF
 conv=>whnf
 refine zh adJ [] [(9,10),(29,39)] 3 [(9, .ptr 2 0),(10,iv e1)] [(0, .var 43 (stC s)),(1, .rows 95 10 (s.ev.map iE)),(2, .var 43 (stC s1))] (by kernel_rfl) (by kernel_rfl) ?_ ?_
 ·conv=>whnf
  repeat' (first
   | (refine And.intro ?_ ?_<;>(conv=>whnf))
   | (refine bD.mk' i rfl (iT hlt) ?_;conv=>whnf)
   | (refine aT.aB (List.getElem?_eq_getElem hlt) ?_;conv=>whnf)
   | (refine ak [] (by kernel_rfl) hE ?_ ?_;(focus (trivial;done));rintro _ _ _ ⟨rfl,rfl,rfl⟩;conv=>whnf)
   | (refine ak [] (by kernel_rfl) hQ ?_ ?_;(focus (trivial;done));rintro _ _ _ ⟨rfl,rfl,rfl⟩;conv=>whnf))
  all_goals (refine zi [(2, .lab 2)] [] ?_ ?_ ?_;(focus rfl);(focus trivial);(focus trivial);done)
 have hm3:((l[i].kind:Nat):Int).tmod 3=((l[i].kind%3:Nat):Int):=rfl
 have hm2:((l[i].kind:Nat):Int).tmod 2=((l[i].kind%2:Nat):Int):=rfl
 rcases hF with ⟨he1,hs2,hev1,hf2⟩ | he1 | ⟨_,hbad,_⟩
 ·have he1:e1=0:=he1
  subst he1
  have hf2:=hf2 hfu
  have hl2:s1.ev.length≤12*(i+1):=by rw [hev1,List.length_append];omega
  have hrow:s.ev.map iE++ev.map iE=s1.ev.map iE:=by rw [hev1];exact Ad _ _
  conv=>whnf
  (refine bD.mk' i rfl (iT hlt) ?_;(conv=>whnf);refine aT.aB (List.getElem?_eq_getElem hlt) ?_;(conv=>whnf))
  refine ak [] (by kernel_rfl) hE (by trivial) ?_
  rintro _ _ _ ⟨rfl,rfl,rfl⟩
  conv=>whnf
  refine ay.mk (BU (by simp only [List.length_map];omega)) ?_
  rw [hrow]
  conv=>whnf
  (refine bD.mk' i rfl (iT hlt) ?_;(conv=>whnf);refine aT.aB (List.getElem?_eq_getElem hlt) ?_;(conv=>whnf))
  refine ay.mk (by decide) ?_
  conv=>whnf
  refine ah (fun h3=> ?_) (fun h3=> ?_)
  ·have hO:=Em (s1).d hs2.ok.d
   obtain⟨q,hq⟩ : ∃q,q=nN (s1).d:=⟨_,rfl⟩
   have hF:=G9 hrd hs2.ok.d hs2.dead hs2.safe hs2.gd hs2.fit (by omega) hq
   rw [←hq]at hO
   clear hq
   obtain⟨⟨d3,Eu,tq,tu,nP,ev3⟩,e3⟩:=q
   rcases hF with ⟨h00,hs3,qM,hf3⟩ | ⟨_,hbad,_⟩
   rotate_left 1
   ·exfalso;omega
   have h00:e3=0:=h00
   have qM:ev3=(s1).ev:=qM
   subst h00 qM
   dsimp only at hO hs3 hf3
   have hf3:=hf3 hf2
   conv=>whnf
   refine ak [] (by kernel_rfl) hO (by trivial) ?_
   rintro _ _ _ ⟨rfl,rfl,rfl⟩
   conv=>whnf
   refine aW [3] (by kernel_rfl) (oP (s1).ev (by omega)) rfl (by trivial) ?_
   conv=>whnf
   refine ah (fun hgen=> ?_) (fun hgen=> ?_)
   rotate_left 1
   skip
   conv=>whnf
   (refine bD.mk' i rfl (iT hlt) ?_;(conv=>whnf);refine aT.aB (List.getElem?_eq_getElem hlt) ?_;(conv=>whnf))
   refine ay.mk (by decide) ?_
   conv=>whnf
   refine ah (fun h2=> ?_) (fun h2=> ?_)
   ·conv=>whnf
    refine aK.i64 (by dsimp only;omega) ?_
    conv=>whnf
    exact aI ⟨⟨d3,Eu,tq,tu,nP,(s1).ev⟩,i+1⟩ [(1, .lab 3)] [] rfl (by show l.length -(i+1)<l.length-i;omega) ⟨hlt,(show 1+2*i+1+1=1+2*(i+1) by omega)▸hs3,hl2,hf3⟩ (by trivial) ⟨rfl,rfl,trivial⟩
   ·conv=>whnf
    refine aK.i64 (by dsimp only;omega) ?_
    conv=>whnf
    exact aI ⟨s1,i+1⟩ [(1, .lab 3)] [] rfl (by show l.length -(i+1)<l.length-i;omega) ⟨hlt,hs2.mono (by dsimp only;omega),hl2,hf2⟩ (by trivial) ⟨rfl,rfl,trivial⟩
   conv=>whnf
   (refine bD.mk' i rfl (iT hlt) ?_;(conv=>whnf);refine aT.aB (List.getElem?_eq_getElem hlt) ?_;(conv=>whnf))
   refine ay.mk (by decide) ?_
   conv=>whnf
   refine ah (fun h5=> ?_) (fun h5=> ?_)
   ·exfalso;simp at h3 h5;omega
   skip
   conv=>whnf
   (refine bD.mk' i rfl (iT hlt) ?_;(conv=>whnf);refine aT.aB (List.getElem?_eq_getElem hlt) ?_;(conv=>whnf))
   refine ay.mk (by decide) ?_
   conv=>whnf
   refine ah (fun h2=> ?_) (fun h2=> ?_)
   ·conv=>whnf
    refine aK.i64 (by dsimp only;omega) ?_
    conv=>whnf
    exact aI ⟨⟨d3,Eu,tq,tu,nP,(s1).ev⟩,i+1⟩ [(1, .lab 3)] [] rfl (by show l.length -(i+1)<l.length-i;omega) ⟨hlt,(show 1+2*i+1+1=1+2*(i+1) by omega)▸hs3,hl2,hf3⟩ (by trivial) ⟨rfl,rfl,trivial⟩
   ·conv=>whnf
    refine aK.i64 (by dsimp only;omega) ?_
    conv=>whnf
    exact aI ⟨s1,i+1⟩ [(1, .lab 3)] [] rfl (by show l.length -(i+1)<l.length-i;omega) ⟨hlt,hs2.mono (by dsimp only;omega),hl2,hf2⟩ (by trivial) ⟨rfl,rfl,trivial⟩
  ·have hO:=Cc (s1) hs2.ok
   obtain⟨q,hq⟩ : ∃q,q=kX (s1):=⟨_,rfl⟩
   have hF:=wK hs2 (by omega) hq
   rw [←hq]at hO
   clear hq
   obtain⟨⟨d3,Eu,tq,tu,nP,ev3⟩,e3⟩:=q
   rcases hF with ⟨h00,hs3,qM,hgr,hf3⟩ | ⟨_,hbad,_⟩
   rotate_left 1
   ·exfalso;omega
   have h00:e3=0:=h00
   have qM:ev3=(s1).ev:=qM
   subst h00 qM
   dsimp only at hO hs3 hf3
   have hf3:=hf3 hf2
   conv=>whnf
   refine ak [] (by kernel_rfl) hO (by trivial) ?_
   rintro _ _ _ ⟨rfl,rfl,rfl⟩
   conv=>whnf
   refine aW [3] (by kernel_rfl) (oP (s1).ev (by omega)) rfl (by trivial) ?_
   conv=>whnf
   refine ah (fun hgen=> ?_) (fun hgen=> ?_)
   ·exfalso;simp at hgen;dsimp only at hgr;omega
   conv=>whnf
   (refine bD.mk' i rfl (iT hlt) ?_;(conv=>whnf);refine aT.aB (List.getElem?_eq_getElem hlt) ?_;(conv=>whnf))
   refine ay.mk (by decide) ?_
   conv=>whnf
   refine ah (fun h2=> ?_) (fun h2=> ?_)
   ·conv=>whnf
    refine aK.i64 (by dsimp only;omega) ?_
    conv=>whnf
    exact aI ⟨⟨d3,Eu,tq,tu,nP,(s1).ev⟩,i+1⟩ [(1, .lab 3)] [] rfl (by show l.length -(i+1)<l.length-i;omega) ⟨hlt,(show 1+2*i+1+1=1+2*(i+1) by omega)▸hs3,hl2,hf3⟩ (by trivial) ⟨rfl,rfl,trivial⟩
   ·conv=>whnf
    refine aK.i64 (by dsimp only;omega) ?_
    conv=>whnf
    exact aI ⟨s1,i+1⟩ [(1, .lab 3)] [] rfl (by show l.length -(i+1)<l.length-i;omega) ⟨hlt,hs2.mono (by dsimp only;omega),hl2,hf2⟩ (by trivial) ⟨rfl,rfl,trivial⟩
 ·have he1:e1=19:=he1
  subst he1
  have hs2:=hs.mono (show 1+2*i≤1+2*i+1 by omega)
  have hl2:s.ev.length≤12*(i+1):=by omega
  have hf2:=hfu
  conv=>whnf
  (refine bD.mk' i rfl (iT hlt) ?_;(conv=>whnf);refine aT.aB (List.getElem?_eq_getElem hlt) ?_;(conv=>whnf))
  refine ay.mk (by decide) ?_
  conv=>whnf
  refine ah (fun h3=> ?_) (fun h3=> ?_)
  ·have hO:=Em (s).d hs2.ok.d
   obtain⟨q,hq⟩ : ∃q,q=nN (s).d:=⟨_,rfl⟩
   have hF:=G9 hrd hs2.ok.d hs2.dead hs2.safe hs2.gd hs2.fit (by omega) hq
   rw [←hq]at hO
   clear hq
   obtain⟨⟨d3,Eu,tq,tu,nP,ev3⟩,e3⟩:=q
   rcases hF with ⟨h00,hs3,qM,hf3⟩ | ⟨_,hbad,_⟩
   rotate_left 1
   ·exfalso;omega
   have h00:e3=0:=h00
   have qM:ev3=(s).ev:=qM
   subst h00 qM
   dsimp only at hO hs3 hf3
   have hf3:=hf3 hf2
   conv=>whnf
   refine ak [] (by kernel_rfl) hO (by trivial) ?_
   rintro _ _ _ ⟨rfl,rfl,rfl⟩
   conv=>whnf
   refine aW [1] (by kernel_rfl) (oP (s).ev (by omega)) rfl (by trivial) ?_
   conv=>whnf
   refine ah (fun hgen=> ?_) (fun hgen=> ?_)
   rotate_left 1
   skip
   conv=>whnf
   (refine bD.mk' i rfl (iT hlt) ?_;(conv=>whnf);refine aT.aB (List.getElem?_eq_getElem hlt) ?_;(conv=>whnf))
   refine ay.mk (by decide) ?_
   conv=>whnf
   refine ah (fun h2=> ?_) (fun h2=> ?_)
   ·conv=>whnf
    refine aK.i64 (by dsimp only;omega) ?_
    conv=>whnf
    exact aI ⟨⟨d3,Eu,tq,tu,nP,(s).ev⟩,i+1⟩ [(1, .lab 1)] [] rfl (by show l.length -(i+1)<l.length-i;omega) ⟨hlt,(show 1+2*i+1+1=1+2*(i+1) by omega)▸hs3,hl2,hf3⟩ (by trivial) ⟨rfl,rfl,trivial⟩
   ·conv=>whnf
    refine aK.i64 (by dsimp only;omega) ?_
    conv=>whnf
    exact aI ⟨s,i+1⟩ [(1, .lab 1)] [] rfl (by show l.length -(i+1)<l.length-i;omega) ⟨hlt,hs2.mono (by dsimp only;omega),hl2,hf2⟩ (by trivial) ⟨rfl,rfl,trivial⟩
   conv=>whnf
   (refine bD.mk' i rfl (iT hlt) ?_;(conv=>whnf);refine aT.aB (List.getElem?_eq_getElem hlt) ?_;(conv=>whnf))
   refine ay.mk (by decide) ?_
   conv=>whnf
   refine ah (fun h5=> ?_) (fun h5=> ?_)
   ·exfalso;simp at h3 h5;omega
   skip
   conv=>whnf
   (refine bD.mk' i rfl (iT hlt) ?_;(conv=>whnf);refine aT.aB (List.getElem?_eq_getElem hlt) ?_;(conv=>whnf))
   refine ay.mk (by decide) ?_
   conv=>whnf
   refine ah (fun h2=> ?_) (fun h2=> ?_)
   ·conv=>whnf
    refine aK.i64 (by dsimp only;omega) ?_
    conv=>whnf
    exact aI ⟨⟨d3,Eu,tq,tu,nP,(s).ev⟩,i+1⟩ [(1, .lab 1)] [] rfl (by show l.length -(i+1)<l.length-i;omega) ⟨hlt,(show 1+2*i+1+1=1+2*(i+1) by omega)▸hs3,hl2,hf3⟩ (by trivial) ⟨rfl,rfl,trivial⟩
   ·conv=>whnf
    refine aK.i64 (by dsimp only;omega) ?_
    conv=>whnf
    exact aI ⟨s,i+1⟩ [(1, .lab 1)] [] rfl (by show l.length -(i+1)<l.length-i;omega) ⟨hlt,hs2.mono (by dsimp only;omega),hl2,hf2⟩ (by trivial) ⟨rfl,rfl,trivial⟩
  ·have hO:=Cc (s) hs2.ok
   obtain⟨q,hq⟩ : ∃q,q=kX (s):=⟨_,rfl⟩
   have hF:=wK hs2 (by omega) hq
   rw [←hq]at hO
   clear hq
   obtain⟨⟨d3,Eu,tq,tu,nP,ev3⟩,e3⟩:=q
   rcases hF with ⟨h00,hs3,qM,hgr,hf3⟩ | ⟨_,hbad,_⟩
   rotate_left 1
   ·exfalso;omega
   have h00:e3=0:=h00
   have qM:ev3=(s).ev:=qM
   subst h00 qM
   dsimp only at hO hs3 hf3
   have hf3:=hf3 hf2
   conv=>whnf
   refine ak [] (by kernel_rfl) hO (by trivial) ?_
   rintro _ _ _ ⟨rfl,rfl,rfl⟩
   conv=>whnf
   refine aW [1] (by kernel_rfl) (oP (s).ev (by omega)) rfl (by trivial) ?_
   conv=>whnf
   refine ah (fun hgen=> ?_) (fun hgen=> ?_)
   ·exfalso;simp at hgen;dsimp only at hgr;omega
   conv=>whnf
   (refine bD.mk' i rfl (iT hlt) ?_;(conv=>whnf);refine aT.aB (List.getElem?_eq_getElem hlt) ?_;(conv=>whnf))
   refine ay.mk (by decide) ?_
   conv=>whnf
   refine ah (fun h2=> ?_) (fun h2=> ?_)
   ·conv=>whnf
    refine aK.i64 (by dsimp only;omega) ?_
    conv=>whnf
    exact aI ⟨⟨d3,Eu,tq,tu,nP,(s).ev⟩,i+1⟩ [(1, .lab 1)] [] rfl (by show l.length -(i+1)<l.length-i;omega) ⟨hlt,(show 1+2*i+1+1=1+2*(i+1) by omega)▸hs3,hl2,hf3⟩ (by trivial) ⟨rfl,rfl,trivial⟩
   ·conv=>whnf
    refine aK.i64 (by dsimp only;omega) ?_
    conv=>whnf
    exact aI ⟨s,i+1⟩ [(1, .lab 1)] [] rfl (by show l.length -(i+1)<l.length-i;omega) ⟨hlt,hs2.mono (by dsimp only;omega),hl2,hf2⟩ (by trivial) ⟨rfl,rfl,trivial⟩
 ·exfalso;omega
end
end Go.Proofs.YtocckceefcmeaaaGreatDoor.Cl
namespace Go.Proofs.YtocckceefcmeaaaGreatDoor.Vc
open Go Go.RowKit Go.Proofs.YtocckceefcmeaaaGreatDoor.Ax
section
variable {H:Type}{enc:TypeId×Value→H}{w:World}
theorem LW {P:Program} : ∀ {ts:List TypeId} {ds:List (DataW H)} {B:Nat},(∀x∈DataW.weightsEach P ts ds,x≤B)→∀(j:Nat) t d,ts[j]? = some t→ds[j]? = some d→∀x∈d.weights P t,x≤B:=by
 intro ts
 induction ts with
 | nil=>intro ds B _ j t d h;simp at h
 | cons t ts ih=>
  intro ds B h j u d h1 h2
  cases ds with
  | nil=>simp at h2
  | cons e ds=>
   simp only [DataW.weightsEach,List.mem_append]at h
   cases j with
   | zero=>
    simp only [List.getElem?_cons_zero,Option.some.injEq]at h1 h2
    subst h1;subst h2
    exact fun x hx=>h x (.inl hx)
   | succ j=>exact ih (fun x hx=>h x (.inr hx)) j u d (by simpa using h1) (by simpa using h2)
theorem XT {P:Program}{t e:TypeId}{d:DataW H}{ds:List (DataW H)}{len:Nat}(hu:P.underlying t=some (.slice e))(hdl:ds.length=len)(hd:(d = .nil∧len=0)∨∃rest,d = .slice ds rest)(hB : ∀x∈d.weights P t,x≤reachBytes) :
  ∀x∈DataW.weightsAll P e ds,x≤reachBytes:=by
 rcases hd with ⟨_,h0⟩ | ⟨rest,rfl⟩
 ·have:ds = []:=List.eq_nil_of_length_eq_zero (by omega)
  subst this
  intro x hx;simp [DataW.weightsAll]at hx
 ·intro x hx
  refine hB x ?_
  simp only [DataW.weights,hu,List.mem_cons,List.mem_append]
  exact .inr (.inl hx)
end
inductive Sh where
 | n (k:IntKind)
 | b
 | s
 | l (iy:Nat) (es:List Sh)
inductive Oc:Sh→FV→Prop
 | n {k:IntKind} {x:Int} (h:(Lit.int k x).wf=true):Oc (.n k) (.v (.int k x))
 | b (x:Bool):Oc .b (.v (.bool x))
 | s (x:ByteArray) (h:x.size≤140737488351232):Oc .s (.v (.string x))
 | l {iy:Nat} {es:List Sh} {rows:List (List FV)} (hn:rows.length≤maxLen) (hb:rows.length*iy≤140737488351232) (h : ∀row∈rows,row.length=es.length) (hr : ∀row∈rows, ∀(j:Nat) e a,es[j]? = some e→row[j]? = some a→Oc e a):Oc (.l iy es) (.lst es.length rows)
def Bg (es:List Sh)(row:List FV):Prop:=row.length=es.length∧∀(j:Nat) e a,es[j]? = some e→row[j]? = some a→Oc e a
theorem Bg.nil:Bg [] []:=⟨rfl,fun j e a h=>by simp at h⟩
theorem Bg.app {e1 e2:List Sh}{r1 r2:List FV}(h1:Bg e1 r1)(h2:Bg e2 r2):Bg (e1++e2) (r1++r2):=by
 refine⟨by simp [h1.1,h2.1],fun j e a he ha=> ?_⟩
 rw [List.getElem?_append]at he ha
 rw [h1.1]at ha
 split at he
 ·rename_i h;rw [if_pos h]at ha;exact h1.2 j e a he ha
 ·rename_i h;rw [if_neg h]at ha;exact h2.2 _ e a he ha
theorem Bg.one {e:Sh}{a:FV}(h:Oc e a):Bg [e] [a]:=⟨rfl,fun j e' a' he ha=>by
 match j,he,ha with
 | 0,he,ha=>simp at he ha;subst he;subst ha;exact h⟩
theorem Bg.Ew {row:List FV}(h:Bg [] row):row = []:=List.eq_nil_of_length_eq_zero h.1
theorem Bg.cons_inv {e:Sh}{es:List Sh}{row:List FV}(h:Bg (e::es) row) : ∃a r,row=a::r∧Oc e a∧Bg es r:=by
 cases row with
 | nil=>have:=h.1;simp at this
 | cons a r=>exact⟨a,r,rfl,h.2 0 e a rfl rfl,by have:=h.1;simpa using this,fun j e' a' he ha=>h.2 (j+1) e' a' (by simpa using he) (by simpa using ha)⟩
theorem Oc.Yu {iy:Nat}{es:List Sh}{a:FV}(h:Oc (.l iy es) a) : ∃rows:List (List FV),a = .lst es.length rows∧(rows.length≤maxLen∧rows.length*iy≤140737488351232)∧∀row∈rows,Bg es row:=by
 cases h with
 | l hn hb h hr=>exact⟨_,rfl,⟨hn,hb⟩,fun row hrow=>⟨h row hrow,hr row hrow⟩⟩
def Oe (f:TypeId→Option (List Sh))(P:Program):List Field→Nat→Option (List Sh)
 | [],_=>some []
 | x::r,o=>bif Nat.beq x.offset o then
   match f x.type with
   | some es=>bif Nat.beq es.length (P.cellsOf x.type)then
     match Oe f P r (o+es.length)with
     | some rs=>some (es++rs)
     | none=>none
    else none
   | none=>none
  else none
def shT (P:Program):Nat→TypeId→Option (List Sh)
 | 0,_=>none
 | n+1,t=>match P.underlying t with
  | some (.int k)=>some [.n k]
  | some .bool=>some [.b]
  | some .string=>some [.s]
  | some (.slice e)=>match shT P n e with
   | some es=>bif Nat.beq es.length (P.cellsOf e)&&Nat.ble 1 es.length then some [.l (P.bytesOf e) es]else none
   | none=>none
  | some (.struct fs)=>match Oe (shT P n) P fs.toList 0 with
   | some es=>bif Nat.beq es.length (P.cellsOf t)then some es else none
   | none=>none
  | _=>none
section
variable {H:Type}{enc:TypeId×Value→H}{P:Program}{w:World}
def One (w:World)(es:List Sh)(cs:List Value):Prop:= ∃row,Bg es row∧nU (Here w) w row cs∧∀v∈cs,v.oneCell'=true
theorem One.nil:One w [] []:=⟨[],Bg.nil,⟨rfl,fun j a v h=>by simp at h⟩,fun v h=>by cases h⟩
theorem One.app {e1 e2:List Sh}{c1 c2:List Value}(h1:One w e1 c1)(h2:One w e2 c2):One w (e1++e2) (c1++c2):=by
 obtain⟨r1,k1,f1,o1⟩:=h1
 obtain⟨r2,k2,f2,o2⟩:=h2
 refine⟨r1++r2,k1.app k2,⟨by simp [f1.1,f2.1],fun j a v ha hv=> ?_⟩,fun v hv=>(List.mem_append.1 hv).elim (o1 v) (o2 v)⟩
 rw [List.getElem?_append]at ha hv
 rw [f1.1]at hv
 split at ha
 ·rename_i h;rw [if_pos h]at hv;exact f1.2 j a v ha hv
 ·rename_i h;rw [if_neg h]at hv;exact f2.2 _ a v ha hv
theorem One.one {e:Sh}{a:FV}{v:Value}(h:Oc e a)(hf:dN (Here w) w a v)(ho:v.oneCell'=true):One w [e] [v]:=
 ⟨[a], .one h,⟨rfl,fun j a' v' ha hv=>by
  match j,ha,hv with
  | 0,ha,hv=>simp at ha hv;subst ha;subst hv;exact hf⟩,fun u hu=>by rw [List.mem_singleton.1 hu];exact ho⟩
theorem XU {sz:Nat} : ∀(css:List (List Value)) (i j:Nat) (c:List Value) (v:Value),(∀c∈css,c.length=sz)→css[i]? = some c→c[j]? = some v→css.flatten[i*sz+j]? = some v:=by
 intro css
 induction css with
 | nil=>intro i j c v _ h;simp at h
 | cons a r ih=>
  intro i j c v hl hi hj
  have ha:a.length=sz:=hl a (by simp)
  rw [List.flatten_cons,List.getElem?_append]
  cases i with
  | zero=>
   simp only [List.getElem?_cons_zero,Option.some.injEq]at hi
   subst hi
   have:=(List.getElem?_eq_some_iff.1 hj).1
   rw [if_pos (by omega)]
   simpa using hj
  | succ i=>
   rw [if_neg (by rw [ha,Nat.add_mul];omega),ha]
   have:=ih i j c v (fun c hc=>hl c (by simp [hc])) (by simpa using hi) hj
   rw [show (i+1)*sz+j-sz=i*sz+j by rw [Nat.add_mul];omega]
   exact this
theorem JL {f:TypeId→Option (List Sh)}{cs:List Value} : ∀(fs:List Field) (o:Nat) (es:List Sh),Oe f P fs o=some es→
  (∀x∈fs, ∀e',f x.type=some e'→e'.length=P.cellsOf x.type→One w e' ((cs.drop x.offset).take (P.cellsOf x.type)))→One w es ((cs.drop o).take es.length):=by
 intro fs
 induction fs with
 | nil=>intro o es h _;injection h with h;subst h;simpa using One.nil
 | cons x r ih=>
  intro o es h hx
  unfold Oe at h
  cases ho:Nat.beq x.offset o with
  | false=>rw [ho]at h;cases h
  | true=>
   rw [ho]at h
   simp only [cond_true]at h
   have ho:=Nat.eq_of_beq_eq_true ho
   cases hf:f x.type with
   | none=>rw [hf]at h;cases h
   | some e1=>
    rw [hf]at h
    simp only at h
    cases hl:Nat.beq e1.length (P.cellsOf x.type)with
    | false=>rw [hl]at h;cases h
    | true=>
     rw [hl]at h
     simp only [cond_true]at h
     have hl:=Nat.eq_of_beq_eq_true hl
     cases hr:Oe f P r (o+e1.length)with
     | none=>rw [hr]at h;cases h
     | some e2=>
      rw [hr]at h
      simp only [Option.some.injEq]at h
      subst h
      have h1:=hx x (by simp) e1 hf hl
      have h2:=ih (o+e1.length) e2 hr fun y hy=>hx y (by simp [hy])
      rw [ho, ←hl]at h1
      have:=h1.app h2
      rw [List.length_append,List.take_add,List.drop_drop]
      exact this
theorem Tn {es:List Sh}{e:TypeId}(one : ∀cs (d:DataW H),VD enc P w e cs d→(∀x∈d.weights P e,x≤reachBytes)→One w es cs) :
  ∀(css:List (List Value)) (ds:List (DataW H)),ds.length=css.length→(∀(i:Nat) c d',css[i]? = some c→ds[i]? = some d'→VD enc P w e c d')→(∀x∈DataW.weightsAll P e ds,x≤reachBytes)→
   ∃rows:List (List FV),rows.length=css.length∧(∀row∈rows,Bg es row)∧∀(i:Nat) c row,css[i]? = some c→rows[i]? = some row→nU (Here w) w row c∧∀v∈c,v.oneCell'=true:=by
 intro css
 induction css with
 | nil=>intro ds _ _ _;exact⟨[],rfl,(fun k h=>by cases h),fun i c row h=>by simp at h⟩
 | cons a css ih=>
  intro ds hl h hB
  cases ds with
  | nil=>simp at hl
  | cons d ds=>
   simp only [DataW.weightsAll,List.mem_append]at hB
   obtain⟨row,k1,k2,k3⟩:=one a d (h 0 a d rfl rfl) fun x hx=>hB x (.inl hx)
   obtain⟨rows,h1,h2,h3⟩:=ih ds (by simpa using hl) (fun i c d' hc hd=>h (i+1) c d' (by simpa using hc) (by simpa using hd)) fun x hx=>hB x (.inr hx)
   refine⟨row::rows,by simp [h1],fun y hy=> ?_,fun i c r hc hr=> ?_⟩
   ·rcases List.mem_cons.1 hy with rfl | hy
    ·exact k1
    ·exact h2 y hy
   ·cases i with
    | zero=>simp at hc hr;subst hc;subst hr;exact⟨k2,k3⟩
    | succ i=>exact h3 i c r (by simpa using hc) (by simpa using hr)
theorem rdg : ∀(n:Nat) (t:TypeId) (es:List Sh),shT P n t=some es→∀(cs:List Value) (d:DataW H),VD enc P w t cs d→(∀x∈d.weights P t,x≤reachBytes)→One w es cs:=by
 intro n
 induction n with
 | zero=>intro t es h;cases h
 | succ n ih=>
  intro t es h cs d hd hB
  unfold shT at h
  cases hu:P.underlying t with
  | none=>rw [hu]at h;cases h
  | some u=>
   rw [hu]at h
   cases u with
   | int k=>
    simp only [Option.some.injEq]at h
    subst h
    obtain⟨x,e,_,hw⟩:=VE hu hd
    subst e
    exact .one (.n hw) (.v _) rfl
   | bool=>
    simp only [Option.some.injEq]at h
    subst h
    obtain⟨held,fuel,p,hx⟩:=hd
    obtain⟨b,e,_⟩:=DataW.trod_bool hu hx
    subst e
    exact .one (.b b) (.v _) rfl
   | string=>
    simp only [Option.some.injEq]at h
    subst h
    obtain⟨held,fuel,p,hx⟩:=hd
    obtain⟨s,e,hd,_⟩:=DataW.trod_string hu hx
    injection hd with hd
    subst hd
    subst e
    have h1:=hB s.data.toList.length (by simp [DataW.weights])
    have h2:s.data.toList.length=s.size:=by simp
    have h3:reachBytes=140737488351232:=rfl
    exact .one (.s s (by omega)) (.v _) rfl
   | slice e=>
    simp only at h
    cases hs:shT P n e with
    | none=>rw [hs]at h;cases h
    | some ee=>
     rw [hs]at h
     simp only at h
     cases hc:Nat.beq ee.length (P.cellsOf e)&&Nat.ble 1 ee.length with
     | false=>rw [hc]at h;cases h
     | true=>
      rw [hc]at h
      simp only [cond_true,Option.some.injEq]at h
      subst h
      simp only [Bool.and_eq_true]at hc
      have hsz:=Nat.eq_of_beq_eq_true hc.1
      have hpos:=Nat.le_of_ble_eq_true hc.2
      obtain⟨oa,len,cap,css,ds,h1,hlc,hcm,hn,hcl,hr,hall,hdl,hdd,hel⟩:=Nh hu hd
      obtain⟨rows,k1,k2,k3⟩:=Tn (fun cs d=>ih e ee hs cs d) css ds (by omega) hel (XT hu hdl hdd hB)
      subst h1
      have hsz' : ∀c∈css,c.length=ee.length:=fun c hc=>by rw [(hall c hc).1,hsz]
      have cell : ∀i j,i<len→j<ee.length→∃b o row a v,oa=some ⟨b,o,none⟩∧b<w.heap.size∧rows[i]? = some row∧row[j]? = some a∧w.cell? ⟨b,o+(i*ee.length+j),none⟩=some v∧dN (Here w) w a v∧v.oneCell'=true:=by
       intro i j hi hj
       have hic:i<css.length:=by omega
       have hir:i<rows.length:=by omega
       have hci:=List.getElem?_eq_getElem hic
       have hri:=List.getElem?_eq_getElem hir
       have hjc:j<css[i].length:=by rw [hsz' _ (List.getElem_mem hic)];exact hj
       have hjr:j<rows[i].length:=by rw [(k2 _ (List.getElem_mem hir)).1];exact hj
       have hfl:=XU css i j css[i] css[i][j] hsz' hci (List.getElem?_eq_getElem hjc)
       rcases hr with h0 | ⟨b,o,rfl,hb,hcc⟩
       ·rw [h0]at hfl;simp at hfl
       ·obtain⟨f1,f2⟩:=k3 i css[i] rows[i] hci hri
        exact⟨b,o,rows[i],rows[i][j],css[i][j],rfl,hb,hri,List.getElem?_eq_getElem hjr,hcc _ _ hfl,f1.2 j _ _ (List.getElem?_eq_getElem hjr) (List.getElem?_eq_getElem hjc),f2 _ (List.getElem_mem hjc)⟩
      have hb : ∃b o,(0<len→oa=some ⟨b,o,none⟩∧Here w b):=by
       rcases Nat.eq_zero_or_pos len with h0 | h0
       ·exact⟨0,0,fun h=>by omega⟩
       ·obtain⟨b,o,_,_,_,e,hb,_⟩:=cell 0 0 h0 hpos
        exact⟨b,o,fun _=>⟨e,hb⟩⟩
      obtain⟨b,o,hbo⟩:=hb
      have hbb:rows.length*P.bytesOf e≤140737488351232:=by
       rcases hdd with ⟨_,h0⟩ | ⟨rest,hdd⟩
       ·rw [show rows.length=0 by omega,Nat.zero_mul];exact Nat.zero_le _
       ·subst hdd
        have:=hB ((ds.length+rest.length)*P.bytesOf e) (by simp only [DataW.weights,hu,List.mem_cons,true_or])
        rw [show rows.length=ds.length by omega]
        exact Nat.le_trans (Nat.mul_le_mul_right _ (Nat.le_add_right _ _)) this
      refine .one (a:= .lst ee.length rows) (.l (by omega) hbb (fun row hrow=>(k2 row hrow).1) fun row hrow=>(k2 row hrow).2) ?_ rfl
      refine .lst ee.length rows oa len cap b o (by omega) hlc hn hbo (fun row hrow=>(k2 row hrow).1) (fun i j hi hj=> ?_) fun i j row a v hi hj hv=> ?_
      ·obtain⟨b',o',_,_,v,e,_,_,_,h4,_,h6⟩:=cell i j hi hj
       obtain⟨rfl,rfl⟩:b'=b∧o'=o:=by
        have:=(hbo (by omega)).1
        rw [e]at this;injection this with this;injection this with h1 h2;exact⟨h1,h2⟩
       exact⟨v,h4,h6⟩
      ·have hil:=(List.getElem?_eq_some_iff.1 hi).1
       have hjl:j<ee.length:=by rw [←(k2 row (List.mem_of_getElem? hi)).1];exact(List.getElem?_eq_some_iff.1 hj).1
       obtain⟨b',o',row',a',v',e,_,h2,h3,h4,h5,_⟩:=cell i j (by omega) hjl
       obtain⟨rfl,rfl⟩:b'=b∧o'=o:=by
        have:=(hbo (by omega)).1
        rw [e]at this;injection this with this;injection this with h1 h2;exact⟨h1,h2⟩
       rw [hi]at h2;injection h2 with h2;subst h2
       rw [hj]at h3;injection h3 with h3;subst h3
       rw [hv]at h4;injection h4 with h4;subst h4
       exact h5
   | struct fs=>
    simp only at h
    cases hs:Oe (shT P n) P fs.toList 0 with
    | none=>rw [hs]at h;cases h
    | some ee=>
     rw [hs]at h
     simp only at h
     cases hc:Nat.beq ee.length (P.cellsOf t)with
     | false=>rw [hc]at h;cases h
     | true=>
      rw [hc]at h
      simp only [cond_true,Option.some.injEq]at h
      subst h
      have hsz:=Nat.eq_of_beq_eq_true hc
      obtain⟨held,fuel,p,hx⟩:=hd
      obtain⟨xs,m,rfl,hdd,hcl,hxl,hel⟩:=DataW.trod_struct hu hx
      injection hdd with hdd
      subst hdd
      have:=JL (w:=w) (cs:=cs) fs.toList 0 ee hs fun x hx e' he' hle=>by
       obtain⟨i,hi⟩:=List.mem_iff_getElem?.1 hx
       have hi':fs[i]? = some x:=by simpa using hi
       have hil:i<xs.length:=by rw [hxl];exact(Array.getElem?_eq_some_iff.1 hi').1
       have h1:=hel i x hi'
       rw [List.getElem?_eq_getElem hil]at h1
       refine ih x.type e' he' _ xs[i].1 ⟨held,m,xs[i].2,h1⟩ ?_
       have hE : ∀y∈DataW.weightsEach P (fs.toList.map (·.type)) (xs.map (·.1)),y≤reachBytes:=by
        intro y hy
        refine hB y ?_
        simp only [DataW.weights,hu]
        exact hy
       exact LW hE i x.type xs[i].1 (by rw [List.getElem?_map,hi];rfl) (by rw [List.getElem?_map,List.getElem?_eq_getElem hil];rfl)
      rw [List.drop_zero,List.take_of_length_le (by omega)]at this
      exact this
   | _=>cases h
end
section
open Go.ChangeShapes Go.WideShapes Go.ChangeAt
section
variable {H:Type}{enc:TypeId×Value→H}{P:Program}{w:World}
theorem Og {t e:TypeId}{es:List Sh}{iy:Nat}{v:Value}{r:Reach}{b0:Nat}{d:DataW H}{p:List MemPlace}(n:Nat)(ht:P.underlying t=some (.slice e))(hs:shT P n t=some [.l iy es])(hval:Value.okWide P w r b0 t v)
  (h:DataW.Trod enc P w 0 (fun _=>true) true t v d p) (hB : ∀x∈d.weights P t,x≤reachBytes) : ∃rows:List (List FV),(rows.length≤maxLen∧rows.length*iy≤140737488351232)∧(∀row∈rows,Bg es row)∧aX 0 Ja (Here w) w (.lst es.length rows) v:=by
 obtain⟨row,h1,h2,h3⟩:=rdg n t _ hs v.cells.toList d ⟨_,_,_,h.choose_spec⟩ hB
 obtain⟨a,r,rfl,ha,hr⟩:=h1.cons_inv
 obtain rfl:=hr.Ew
 obtain⟨rows,rfl,hb,hrows⟩:=ha.Yu
 obtain⟨oa,len,cap,rfl⟩:=okWide_slice ht hval
 refine⟨rows,hb,hrows, ?_⟩
 have:=h2.2 0 _ (.slice oa len cap) rfl (by simp [Value.cells])
 exact this.up
end
end
end Go.Proofs.YtocckceefcmeaaaGreatDoor.Vc
namespace Go.Proofs.YtocckceefcmeaaaGreatDoor.Cl
open Go Go.RowKit Go.Proofs Go.Proofs.YtocckceefcmeaaaGreatDoor.Vc Go.Proofs.YtocckceefcmeaaaGreatDoor.Ax
def ac7:List Sh:= [.n .u8, .n .u8, .l 1 [.n .u8], .l 1 [.n .u8]]
theorem Cj {α:Type}{es:List Sh}{enc:α→List FV}{ok:α→Prop}(one : ∀row,Bg es row→∃a,row=enc a∧ok a) : ∀rows:List (List FV),(∀row∈rows,Bg es row)→∃l:List α,rows=l.map enc∧∀a∈l,ok a:=by
 intro rows
 induction rows with
 | nil=>intro _;exact⟨[],rfl,fun a h=>by cases h⟩
 | cons r rs ih=>
  intro h
  obtain⟨a,e,ha⟩:=one r (h r (by simp))
  obtain⟨l,e2,hl⟩:=ih fun row hrow=>h row (by simp [hrow])
  refine⟨a::l,by rw [e,e2];rfl,fun b hb=> ?_⟩
  rcases List.mem_cons.1 hb with rfl | hb
  ·exact ha
  ·exact hl b hb
theorem Ey {a:FV}(h:Oc (.n .u8) a) : ∃k:Nat,a = .v (.int .u8 k)∧k<256:=by
 cases h with
 | n hw=>obtain⟨k,rfl,hk⟩:=Ya hw;exact⟨k,rfl,hk⟩
theorem LY {a:FV}{b:Nat}(h:Oc (.l b [.n .u8]) a) : ∃l:By,a = .lst 1 (l.map dO):=by
 obtain⟨rows,rfl,_,hr⟩:=h.Yu
 obtain⟨l,rfl,_⟩:=Cj (α:=UInt8) (enc:=dO) (ok:=fun _=>True) (fun row h=>by
  obtain⟨a,r,rfl,ha,h⟩:=h.cons_inv
  obtain rfl:=h.Ew
  obtain⟨k,rfl,hk⟩:=Ey ha
  exact⟨UInt8.ofNat k,by unfold dO;rw [toNat_ofNat hk],trivial⟩) rows hr
 exact⟨l,rfl⟩
theorem aa7 (row:List FV)(h:Bg ac7 row) : ∃a:Ac,row=SY a∧a.ok:=by
 obtain⟨a0,r,rfl,h0,h⟩:=h.cons_inv
 obtain⟨a1,r,rfl,h1,h⟩:=h.cons_inv
 obtain⟨a2,r,rfl,h2,h⟩:=h.cons_inv
 obtain⟨a3,r,rfl,h3,h⟩:=h.cons_inv
 obtain rfl:=h.Ew
 obtain⟨k0,rfl,b0⟩:=Ey h0
 obtain⟨k1,rfl,b1⟩:=Ey h1
 obtain⟨l2,rfl⟩:=LY h2
 obtain⟨l3,rfl⟩:=LY h3
 exact⟨⟨k0,k1,l2,l3⟩,rfl,b0,b1⟩
end Go.Proofs.YtocckceefcmeaaaGreatDoor.Cl
