/- Joined parts of the proof. Logs of written frames, and what is left of them by a crash: plain laws of the store -/
import Derived.Test.YtocckceefcmeaaaGreatDoorPk19
import Derived.Test.YtocckceefcmeaaaGreatDoorPk21
import Derived.Test.YtocckceefcmeaaaGreatDoorPk11
import Derived.Test.YtocckceefcmeaaaGreatDoorPk20
set_option linter.unusedVariables false
set_option linter.unusedSimpArgs false
set_option maxRecDepth 100000
set_option maxHeartbeats 16000000
namespace Go.Proofs.YtocckceefcmeaaaGreatDoor.Cl
open Go Go.RowKit Go.Proofs Go.Proofs.YtocckceefcmeaaaGreatDoor.Vc Go.Proofs.YtocckceefcmeaaaGreatDoor.Ax
section
attribute [local irreducible] num hsh oV kC gG lg tY rO tab kL sec hG hF hI hN
def oO (g:Nat):Nat→List By→List By
 | _,[]=> []
 | j,b::r=>secs g j b++oO g (j+1) r
theorem abt {l:List By}(h:(gG l).2.2.2.2=true) : ∃s∈l,kC s=true∧(hG s:Int)=(gG l).1:=by
 obtain⟨g,f,b,hx,e,h1,h2⟩:=rM h
 rw [e]at hx ⊢
 dsimp only at hx ⊢
 have hl:=hx.len
 have h3:=hx.at (i:=0) (by omega)
 refine⟨(l.take (nS b))[0]'(by omega),List.mem_of_mem_take (List.getElem_mem (by omega)),h3.2.1, ?_⟩
 rw [h3.2.2.1]
theorem MV (g:Nat)(b:By) : ∀(bs:List By) (j:Nat),oO g j (bs++ [b])=oO g j bs++secs g (j+bs.length) b:=by
 intro bs
 induction bs with
 | nil=>intro j;show secs g j b++ [] = []++secs g (j+0) b;rw [List.append_nil];rfl
 | cons a r ih=>
  intro j
  show secs g j a++oO g (j+1) (r++ [b])=(secs g j a++oO g (j+1) r)++_
  rw [ih,List.append_assoc,List.length_cons,show j+1+r.length=j+(r.length+1) by omega]
theorem abu {g:Nat}(hg:1≤g∧g≤4294967295)(rest:List By) : ∀(bs:List By) (j:Nat),j+bs.length≤65536→(∀b∈bs,nS b≤255)→lg (g:Int) (oO g j bs++rest) j=bs++lg (g:Int) rest (j+bs.length):=by
 intro bs
 induction bs with
 | nil=>intro j _ _;rfl
 | cons b r ih=>
  intro j hj hb
  rw [List.length_cons]at hj
  have hb0:=hb b (List.mem_cons_self ..)
  have hF:tC (secs g j b) g j b:=⟨wC (by omega) (by omega) (by omega) (by omega) hb0,rfl⟩
  have e:oO g j (b::r)++rest=secs g j b++(oO g (j+1) r++rest):=by
   show (secs g j b++oO g (j+1) r)++rest=_
   rw [List.append_assoc]
  rw [e]
  have hn:gG (secs g j b++(oO g (j+1) r++rest))=(((g:Nat):Int),((j:Nat):Int),nS b,b,true):=by
   refine J5 rfl (by rw [List.length_append,dX];omega) ?_
   rw [List.take_left' (dX g j b)]
   exact hF
  rw [MI (by rw [hn];exact⟨rfl,rfl,rfl⟩),hn]
  dsimp only
  rw [List.drop_left' (dX g j b),ih (j+1) (by omega) fun x hx=>hb x (List.mem_cons_of_mem _ hx),List.length_cons,show j+1+r.length=j+(r.length+1) by omega]
  rfl
theorem Yl {g:Nat}(hg:1≤g∧g≤4294967295){b:By}{r rest:List By}(hb:nS b≤255):gG (oO g 0 (b::r)++rest)=(((g:Nat):Int),0,nS b,b,true):=by
 have e:oO g 0 (b::r)++rest=secs g 0 b++(oO g 1 r++rest):=by
  show (secs g 0 b++oO g 1 r)++rest=_
  rw [List.append_assoc]
 rw [e]
 refine J5 (f:=0) rfl (by rw [List.length_append,dX];omega) ?_
 rw [List.take_left' (dX g 0 b)]
 exact⟨wC (by omega) (by omega) (by omega) (by omega) hb,rfl⟩
def Mix (A B M:List By):Prop:=A.length=B.length∧M.length=A.length∧∀j:Nat,M[j]? = A[j]? ∨M[j]? = B[j]?
theorem Mix.self {A M:List By}(h:Mix A A M):M=A:=List.ext_getElem? fun j=>(h.2.2 j).elim id id
theorem Mix.refl (A:List By):Mix A A A:=⟨rfl,rfl,fun _=> .inl rfl⟩
theorem Mix.app {A A' B B' M:List By}(h:Mix (A++A') (B++B') M)(hl:A.length=B.length) : ∃m m',M=m++m'∧Mix A B m∧Mix A' B' m':=by
 obtain⟨h1,h2,h3⟩:=h
 rw [List.length_append,List.length_append]at h1
 rw [List.length_append]at h2
 refine⟨M.take A.length,M.drop A.length,(List.take_append_drop ..).symm,⟨hl,by rw [List.length_take];omega,fun j=> ?_⟩,⟨by omega,by rw [List.length_drop];omega,fun j=> ?_⟩⟩
 ·rcases Nat.lt_or_ge j A.length with hj | hj
  ·have:=h3 j
   rw [List.getElem?_append_left hj,List.getElem?_append_left (by omega)]at this
   rw [List.getElem?_take_of_lt hj]
   exact this
  ·exact .inl (by rw [List.getElem?_eq_none (by rw [List.length_take];omega),List.getElem?_eq_none hj])
 ·have:=h3 (A.length+j)
  rw [List.getElem?_append_right (by omega),List.getElem?_append_right (by omega),Nat.add_sub_cancel_left, ←hl,Nat.add_sub_cancel_left]at this
  rw [List.getElem?_drop]
  exact this
def jn (k:Int)(c o:List By):List By:=if k=0 then c++o else o++c
theorem Kt (k:Int)(c o:List By):(jn k c o).length=c.length+o.length:=by
 unfold jn;split<;>rw [List.length_append];omega
theorem Ku {k:Int}{c o:List By}{x:By} : x∈jn k c o↔x∈c∨x∈o:=by
 unfold jn;split<;>rw [List.mem_append];exact Or.comm
theorem Ym {k:Int}(hk:k=0∨k=1)(c o:List By):jn k c o=jn (1-k) o c:=by
 rcases hk with rfl | rfl<;>rfl
theorem Mix.jn {k:Int}{c o c' o' M:List By}(h:Mix (Cl.jn k c o) (Cl.jn k c' o') M)(h1:c.length=c'.length)(h2:o.length=o'.length) : ∃m n,M=Cl.jn k m n∧Mix c c' m∧Mix o o' n:=by
 unfold Cl.jn at h ⊢
 split at h
 ·rename_i hk
  obtain⟨m,n,e,a,b⟩:=h.app h1
  exact⟨m,n,by rw [if_pos hk];exact e,a,b⟩
 ·rename_i hk
  obtain⟨m,n,e,a,b⟩:=h.app h2
  exact⟨n,m,by rw [if_neg hk];exact e,b,a⟩
def wrt (L:List By)(a:Nat)(l:List By):List By:=L.take a++l++L.drop (a+l.length)
theorem MW {L l:List By}{a:Nat}(h:a+l.length≤L.length):(wrt L a l).length=L.length:=by
 unfold wrt;rw [List.length_append,List.length_append,List.length_take,List.length_drop];omega
theorem YZ {A B l:List By}{a:Nat}(h:a+l.length≤A.length):wrt (A++B) a l=wrt A a l++B:=by
 unfold wrt
 rw [List.take_append_of_le_length (by omega),List.drop_append_of_le_length h,List.append_assoc,List.append_assoc,List.append_assoc]
theorem Uf (A B l:List By)(a:Nat):wrt (A++B) (A.length+a) l=A++wrt B a l:=by
 unfold wrt
 rw [List.take_length_add_append,show A.length+a+l.length=A.length+(a+l.length) by omega,List.drop_length_add_append,List.append_assoc,List.append_assoc,List.append_assoc]
theorem MX (L0 L1:List By)(hl:L0.length=L1.length) : ∀(l:List By) (d:Dk) (a:Nat),d.dead=false→d.safe=L0→Mix L0 L1 d.now→(∀i (h:i<l.length),L1[a+i]? = some l[i])→
  ∃d' e,rJ d a l=(d',e)∧((e=0∧d'.now=wrt d.now a l∧d'.safe=d'.now∧d'.dead=false∧(d.fuse<0→d'.fuse<0))∨(e=40∧0≤d.fuse∧d'.safe=L0∧Mix L0 L1 d'.now)):=by
 intro l
 induction l with
 | nil=>
  intro d a h1 h2 h3 _
  unfold rJ
  rw [if_neg (by rw [h1];decide)]
  by_cases h0:d.fuse=0
  ·rw [if_pos h0]
   exact⟨_,_,rfl, .inr ⟨rfl,by omega,h2,h3⟩⟩
  ·rw [if_neg h0]
   refine⟨_,_,rfl, .inl ⟨rfl, ?_,rfl,h1,fun hf=> ?_⟩⟩
   ·show d.now=_
    unfold wrt
    rw [List.append_nil,List.length_nil,Nat.add_zero,List.take_append_drop]
   ·show (if 0<d.fuse then d.fuse-1 else d.fuse)<0
    rw [if_neg (by omega)];exact hf
 | cons s r ih=>
  intro d a h1 h2 h3 h4
  have hs:=h4 0 (by simp)
  rw [Nat.add_zero]at hs
  have ha:=(List.getElem?_eq_some_iff.1 hs).1
  unfold rJ
  rw [if_neg (by rw [h1];decide)]
  by_cases h0:d.fuse=0
  ·rw [if_pos h0]
   exact⟨_,_,rfl, .inr ⟨rfl,by omega,h2,h3⟩⟩
  rw [if_neg h0]
  have hn:(d.put a s).now=d.now.set a s:=rfl
  have hf:(d.put a s).fuse=if 0<d.fuse then d.fuse-1 else d.fuse:=rfl
  obtain⟨d',e,e1,e2⟩:=ih (d.put a s) (a+1) h1 h2 ⟨hl,by rw [hn,List.length_set];exact h3.2.1,fun j=>by
   rw [hn]
   rcases Nat.decEq a j with hj | hj
   ·rw [List.getElem?_set_ne hj];exact h3.2.2 j
   ·subst hj
    rw [List.getElem?_set_self (by have:=h3.2.1;omega),hs]
    exact .inr rfl⟩ fun i hi=>by
     have:=h4 (i+1) (by rw [List.length_cons];omega)
     rw [show a+1+i=a+(i+1) by omega,this];rfl
  refine⟨d',e,e1, ?_⟩
  rcases e2 with ⟨a1,a2,a3,a4,a5⟩ | ⟨a1,a2,a3,a4⟩
  ·refine .inl ⟨a1, ?_,a3,a4,fun hx=>a5 (by rw [hf,if_neg (by omega)];exact hx)⟩
   have hal:a<d.now.length:=by have:=h3.2.1;omega
   rw [a2,hn]
   unfold wrt
   rw [List.take_succ_eq_append_getElem (by rw [List.length_set];omega),List.getElem_set_self,List.take_set_of_le (Nat.le_refl _),List.drop_set_of_lt (by omega),List.length_cons,List.append_assoc,List.append_assoc,List.append_assoc]
   rw [show a+1+r.length=a+(r.length+1) by omega]
   rfl
  ·refine .inr ⟨a1, ?_,a3,a4⟩
   rw [hf]at a2
   split at a2<;>omega
theorem MZ {L l:List By}{a:Nat}(h:a+l.length≤L.length)(i:Nat)(hi:i<l.length):(wrt L a l)[a+i]? = some l[i]:=by
 unfold wrt
 have ht:(L.take a).length=a:=by rw [List.length_take];omega
 rw [List.append_assoc,List.getElem?_append_right (by omega),ht,Nat.add_sub_cancel_left,List.getElem?_append_left hi,List.getElem?_eq_getElem hi]
theorem Dj {g f:Nat}{b:By}(hs:kJ g f b=0){o m:List By}(hNb:nS b≤o.length)(ho : ∀x∈o,kC x=true→hG x<g)(h:Mix o (secs g f b++o.drop (nS b)) m) :
  m=secs g f b++o.drop (nS b)∨(gG m).2.2.2.2=false∨gG m=gG o:=by
 rcases Bool.eq_false_or_eq_true (gG m).2.2.2.2 with hx | hx
 rotate_left 1
 ·exact .inr (.inl hx)
 obtain⟨g',f',b',hF,e,h2,h3⟩:=rM hx
 rw [e]at hF
 dsimp only at hF
 have hFl:=hF.len
 have hml:=h.2.1
 have hlt:(m.take (nS b')).length=nS b':=by rw [List.length_take];omega
 have hq:tC (secs g f b) g f b:=⟨hs,rfl⟩
 have hql:(secs g f b).length=nS b:=dX _ _ _
 have at_ : ∀i,i<nS b'→∃x,m[i]? = some x∧kC x=true∧hG x=g'∧hN x=nS b':=fun i hi=>by
  have:=hF.at (i:=i) (by omega)
  refine⟨(m.take (nS b'))[i]'(by omega), ?_,this.2.1,this.2.2.1,this.2.2.2.2.2⟩
  rw [List.getElem_take,List.getElem?_eq_getElem]
 have abv : ∀i,i<nS b→(secs g f b++o.drop (nS b))[i]? = (secs g f b)[i]? :=fun i hi=>List.getElem?_append_left (by omega)
 have abw : ∀i,nS b≤i→(secs g f b++o.drop (nS b))[i]? = o[i]? :=fun i hi=>by
  rw [List.getElem?_append_right (by omega),hql,List.getElem?_drop,show nS b+(i-nS b)=i by omega]
 by_cases hg:g'=g
 ·subst hg
  left
  have isn : ∀i,i<nS b'→i<nS b∧m[i]? = (secs g' f b)[i]? :=fun i hi=>by
   obtain⟨x,x1,x2,x3,_⟩:=at_ i hi
   have no:m[i]? ≠o[i]? :=fun hc=>by
    rw [x1]at hc
    have:=ho x (List.mem_of_getElem? hc.symm) x2
    omega
   have hc:=(h.2.2 i).resolve_left no
   by_cases hi2:i<nS b
   ·exact⟨hi2,by rw [hc,abv i hi2]⟩
   ·rw [abw i (by omega)]at hc;exact absurd hc no
  have hn:nS b'=nS b:=by
   obtain⟨x,x1,_,_,x4⟩:=at_ 0 (by omega)
   obtain⟨y1,y2⟩:=isn 0 (by omega)
   rw [x1,List.getElem?_eq_getElem (by omega)]at y2
   injection y2 with y2
   have:=(hq.at (i:=0) (by omega)).2.2.2.2.2
   rw [←y2]at this
   omega
  refine List.ext_getElem? fun i=> ?_
  by_cases hi:i<nS b
  ·rw [abv i hi];exact(isn i (by omega)).2
  ·rcases h.2.2 i with hc | hc
   ·rw [hc,abw i (by omega)]
   ·exact hc
 ·right;right
  have iso : ∀i,i<nS b'→m[i]? = o[i]? :=fun i hi=>by
   rcases h.2.2 i with hc | hc
   ·exact hc
   ·by_cases hi2:i<nS b
    ·obtain⟨x,x1,x2,x3,_⟩:=at_ i hi
     rw [abv i hi2,x1,List.getElem?_eq_getElem (by omega)]at hc
     injection hc with hc
     have:=(hq.at (i:=i) (by omega)).2.2.1
     rw [←hc]at this
     omega
    ·rw [hc,abw i (by omega)]
  have et:m.take (nS b')=o.take (nS b'):=List.ext_getElem? fun i=>by
   by_cases hi:i<nS b'
   ·rw [List.getElem?_take_of_lt hi,List.getElem?_take_of_lt hi];exact iso i hi
   ·rw [List.getElem?_eq_none (by omega),List.getElem?_eq_none (by rw [List.length_take];omega)]
  rw [e]
  exact(J5 rfl (by omega) (by rw [←et];exact hF)).symm
structure WL (L:List By)(k:Int)(g:Nat)(bs:List By):Prop where
 ge:1≤g∧g≤4294967295
 nb:bs≠ []∧bs.length≤65536∧∀b∈bs,nS b≤255
 lay : ∃c o rest,L=jn k c o∧o.length=c.length∧c=oO g 0 bs++rest∧lg g rest bs.length = []∧(AO o=true→(gG o).1<g)
structure SL (L:List By)(k:Int)(g:Nat)(bs:List By):Prop where
 ge:1≤g∧g≤4294967295
 nb:bs≠ []∧bs.length≤65536∧∀b∈bs,nS b≤255
 lay : ∃c o rest,L=jn k c o∧o.length=c.length∧c=oO g 0 bs++rest∧(∀x∈rest,kC x=true→hG x<g)∧(AO o=true→(gG o).1<g)
theorem Kz {g:Nat}{l:List By}{k:Nat}(h:(gG l).2.2.2.2=true→(gG l).1<g):lg (g:Int) l k = []:=by
 refine EK ?_
 rintro⟨h1,h2,_⟩
 have:=h h1
 omega
theorem KA {g:Nat}{l:List By}(h : ∀x∈l,kC x=true→hG x<g)(hx:(gG l).2.2.2.2=true):(gG l).1<g:=by
 obtain⟨s,hs,h1,h2⟩:=abt hx
 have:=h s hs h1
 omega
theorem SL.wl {L:List By}{k:Int}{g:Nat}{bs:List By}(h:SL L k g bs):WL L k g bs:=by
 obtain⟨h1,h2,c,o,rest,a1,a2,a3,a4,a5⟩:=h
 exact⟨h1,h2,c,o,rest,a1,a2,a3,Kz (KA a4),a5⟩
theorem Ug {l:List By}(h:AO l=true):(gG l).2.2.2.2=true:=(abb h).1
theorem ET {k:Int}{c o:List By}(h:o.length=c.length):(jn k c o).length/2=c.length:=by rw [Kt];omega
theorem WL.hlf {L:List By}{k:Int}{g:Nat}{bs:List By}(h:WL L k g bs)(hk:k=0∨k=1):hlf (L.take (L.length/2)) (L.drop (L.length/2))=(k,rO [] bs):=by
 obtain⟨h1,⟨b0,b1,b2⟩,c,o,rest,rfl,a2,a3,a4,a5⟩:=h
 obtain⟨b,r,rfl⟩ : ∃b r,bs=b::r:=by
  cases bs with
  | nil=>exact absurd rfl b0
  | cons b r=>exact⟨b,r,rfl⟩
 have hn:gG c=(((g:Nat):Int),0,nS b,b,true):=by rw [a3];exact Yl h1 (b2 b (List.mem_cons_self ..))
 have hL:AO c=true:=by rw [uh,hn];rfl
 have hE:OC c=rO [] (b::r):=by
  have e:OC c=rO [] (lg (gG c).1 c 0):=by unfold OC lg;rfl
  rw [e,hn,a3,abu h1 rest (b::r) 0 (by omega) b2,Nat.zero_add,a4,List.append_nil]
 rw [ET a2]
 unfold jn
 unfold Cl.hlf
 rcases hk with rfl | rfl
 ·rw [if_pos rfl,List.take_left' rfl,List.drop_left' rfl,if_pos,hE]
  refine⟨hL, ?_⟩
  rcases Bool.eq_false_or_eq_true (AO o)with ho | ho
  ·right;rw [hn];exact Int.le_of_lt (a5 ho)
  ·exact .inl ho
 ·rw [if_neg (show ¬(1:Int)=0 by decide),List.take_left' a2,List.drop_left' a2,if_neg,if_pos hL,hE]
  rintro⟨h3,h4⟩
  rcases h4 with h4 | h4
  ·rw [hL]at h4;cases h4
  ·rw [hn]at h4
   have:=a5 h3
   dsimp only at h4
   omega
theorem abx {c o:List By}{k:Int}{G:Nat}{b:By}(hk:k=0∨k=1)(hl:o.length=c.length)(hG : ∀x∈jn k c o,kC x=true→hG x≤G)(hg:G+1≤4294967295)(hb:nS b≤255∧nS b≤c.length) :
  wrt (jn k c o) ((1-k).toNat*c.length) (secs (G+1) 0 b)=jn k c (secs (G+1) 0 b++o.drop (nS b))∧SL (jn k c (secs (G+1) 0 b++o.drop (nS b))) (1-k) (G+1) [b]:=by
 have hq:(secs (G+1) 0 b).length=nS b:=dX _ _ _
 refine⟨?_,⟨by omega,hg⟩,⟨by simp,by show 1≤65536;decide,fun x hx=> ?_⟩, ?_⟩
 ·rcases hk with rfl | rfl
  ·show wrt (c++o) (1*c.length) _=c++_
   rw [Nat.one_mul]
   have:=Uf c o (secs (G+1) 0 b) 0
   rw [Nat.add_zero]at this
   rw [this]
   unfold wrt
   rw [List.take_zero,hq,Nat.zero_add];rfl
  ·show wrt (o++c) (0*c.length) _=(_++_)++c
   rw [Nat.zero_mul,YZ (by rw [hq];omega)]
   unfold wrt
   rw [List.take_zero,hq,Nat.zero_add];rfl
 ·rw [List.mem_singleton.1 hx];exact hb.1
 ·refine⟨secs (G+1) 0 b++o.drop (nS b),c,o.drop (nS b),Ym hk _ _, ?_, ?_,fun x hx h=> ?_,fun h=> ?_⟩
  ·rw [List.length_append,List.length_drop,hq];omega
  ·show _=(secs (G+1) 0 b++ [])++_
   rw [List.append_nil]
  ·have:=hG x (Ku.2 (.inr (List.mem_of_mem_drop hx))) h
   omega
  ·exact KA (fun x hx h=>by have:=hG x (Ku.2 (.inl hx)) h;omega) (Ug h)
theorem Yn {c o:List By}{k:Int}{g G:Nat}{b:By}{bs M:List By}(hl:o.length=c.length)(h:WL (jn k c o) k g bs)(hG : ∀x∈jn k c o,kC x=true→hG x≤G)(hg:G+1≤4294967295)(hb:nS b≤255∧nS b≤c.length)
  (hM:Mix (jn k c o) (jn k c (secs (G+1) 0 b++o.drop (nS b))) M):M=jn k c (secs (G+1) 0 b++o.drop (nS b))∨WL M k g bs:=by
 obtain⟨m,n,rfl,h1,h2⟩:=hM.jn rfl (by rw [List.length_append,dX,List.length_drop];omega)
 have e:=h1.self
 subst e
 have hx:=Dj (wC (by omega) (by omega) (by omega) (by omega) hb.1) (by omega) (fun x hx h=>by have:=hG x (Ku.2 (.inr hx)) h;omega) h2
 obtain⟨g1,g2,c',o',rest,a1,a2,a3,a4,a5⟩:=h
 have hcc:c'=m∧o'=o:=by
  have hlen:m.length=c'.length:=by
   have:=congrArg List.length a1
   rw [Kt,Kt]at this;omega
  unfold jn at a1
  split at a1
  ·have:=List.append_inj a1 (by omega);exact⟨this.1.symm,this.2.symm⟩
  ·have:=List.append_inj a1 (by omega);exact⟨this.2.symm,this.1.symm⟩
 obtain⟨rfl,rfl⟩:=hcc
 rcases hx with hx | hx | hx
 ·exact .inl (by rw [hx])
 ·exact .inr ⟨g1,g2,c',n,rest,rfl,by have:=h2.2.1;omega,a3,a4,fun h=>by rw [Ug h]at hx;cases hx⟩
 ·exact .inr ⟨g1,g2,c',n,rest,rfl,by have:=h2.2.1;omega,a3,a4,fun h=>by
   rw [hx]
   refine a5 ?_
   rw [uh]at h ⊢
   rw [hx]at h;exact h⟩
theorem aby {L:List By}{k:Int}{g:Nat}{bs:List By}{b:By}(h:SL L k g bs)(hk:k=0∨k=1)(hn:bs.length+1≤65536)(hb:nS b≤255)(hr:(oO g 0 bs).length+nS b≤L.length/2) :
  SL (wrt L (k.toNat*(L.length/2)+(oO g 0 bs).length) (secs g bs.length b)) k g (bs++ [b])∧∀M,Mix L (wrt L (k.toNat*(L.length/2)+(oO g 0 bs).length) (secs g bs.length b)) M→M=wrt L (k.toNat*(L.length/2)+(oO g 0 bs).length) (secs g bs.length b)∨WL M k g bs:=by
 obtain⟨g1,⟨b0,b1,b2⟩,c,o,rest,rfl,a2,a3,a4,a5⟩:=h
 have hq:(secs g bs.length b).length=nS b:=dX _ _ _
 have hh:=ET (k:=k) a2
 rw [hh]at hr ⊢
 have hcl:c.length=(oO g 0 bs).length+rest.length:=by rw [a3,List.length_append]
 have e:wrt (jn k c o) (k.toNat*c.length+(oO g 0 bs).length) (secs g bs.length b)=jn k (oO g 0 bs++(secs g bs.length b++rest.drop (nS b))) o:=by
  have ec:wrt c (oO g 0 bs).length (secs g bs.length b)=oO g 0 bs++(secs g bs.length b++rest.drop (nS b)):=by
   have:=Uf (oO g 0 bs) rest (secs g bs.length b) 0
   rw [Nat.add_zero]at this
   rw [a3,this]
   unfold wrt
   rw [List.take_zero,hq,Nat.zero_add];rfl
  unfold jn
  rcases hk with rfl | rfl
  ·show wrt (c++o) (0*_+_) _=_++o
   rw [Nat.zero_mul,Nat.zero_add,YZ (by rw [hq];omega),ec]
  ·show wrt (o++c) (1*_+_) _=o++_
   rw [Nat.one_mul, ←a2,Uf,ec]
 rw [e]
 have ef:oO g 0 bs++(secs g bs.length b++rest.drop (nS b))=oO g 0 (bs++ [b])++rest.drop (nS b):=by
  rw [MV,Nat.zero_add,List.append_assoc]
 have hlen:(oO g 0 bs++(secs g bs.length b++rest.drop (nS b))).length=c.length:=by
  rw [List.length_append,List.length_append,List.length_drop,hq];omega
 refine⟨⟨g1,⟨by simp,by rw [List.length_append];exact hn,fun x hx=> ?_⟩,_,o,rest.drop (nS b),rfl,by omega,ef,fun x hx=>a4 x (List.mem_of_mem_drop hx),a5⟩,fun M hM=> ?_⟩
 ·rcases List.mem_append.1 hx with hx | hx
  ·exact b2 x hx
  ·rw [List.mem_singleton.1 hx];exact hb
 ·obtain⟨m,n,rfl,h1,h2⟩:=hM.jn hlen.symm rfl
  have e2:=h2.self
  subst e2
  rw [a3]at h1
  obtain⟨p,r,rfl,h3,h4⟩:=h1.app rfl
  have e3:=h3.self
  subst e3
  have hx:=Dj (wC (by omega) (by omega) (by omega) (by omega) hb) (by omega) a4 h4
  rcases hx with hx | hx | hx
  ·exact .inl (by rw [hx])
  ·exact .inr ⟨g1,⟨b0,b1,b2⟩,_,n,r,rfl,by have:=h4.2.1;rw [List.length_append];omega,rfl,Kz fun h=>(by rw [hx]at h;cases h),a5⟩
  ·exact .inr ⟨g1,⟨b0,b1,b2⟩,_,n,r,rfl,by have:=h4.2.1;rw [List.length_append];omega,rfl,Kz fun h=>(by rw [hx]at h ⊢;exact KA a4 h),a5⟩
end
section
theorem abz {P:Program}{G:Glob}{f:FuncId}{b:By}{R:AV→Nat→ak→Prop}(h:bD P G f [bs b] 0 [] R){w:World}(hw:G.holds w) : ∃a n H,R a n H:=by
 have hr:Row (w.alloc (.cells (dw b).toArray 0)) (some ⟨w.heap.size,0,none⟩) (dw b):=Row.alloc1 w (dw b) 0
 have e : ∀b:By,dw b=recs (fun x:UInt8=> [Value.int .u8 x.toNat]) b:=fun b=>by
  unfold dw recs
  induction b with
  | nil=>rfl
  | cons c r ih=>rw [List.map_cons,ih];rfl
 have hv:dV (Here (w.alloc (.cells (dw b).toArray 0))) (w.alloc (.cells (dw b).toArray 0)) (.lst 1 (b.map dW)) (.slice (some ⟨w.heap.size,0,none⟩) b.length b.length):=
  NW (enc:=dW) (c:=fun x:UInt8=> [Value.int .u8 x.toNat]) (fun _=>rfl) (fun _=>rfl) (fun a v hv=>by rw [List.mem_singleton.1 hv];rfl) (Nat.le_refl _) (fun e=>by cases e) (by rw [←e];exact hr) (fun _ h=>h) (by decide)
 have hG:G.holds (w.alloc (.cells (dw b).toArray 0)):=Glob.gI hw (by simp) fun k hk=>heap_alloc_old w _ (Nat.lt_of_lt_of_le hk hw.1)
 have st:St G (w.alloc (.cells (dw b).toArray 0)) (kQ (w.alloc (.cells (dw b).toArray 0)) JB []) (Here (w.alloc (.cells (dw b).toArray 0))) 0 JB (Here (w.alloc (.cells (dw b).toArray 0))) [] (w.alloc (.cells (dw b).toArray 0)):=
  ⟨hG,qE.refl _ _,fun b hb=>⟨hb, .inl hb⟩,(fun aT b h=>by cases h),(fun aT b g h=>by cases h),(fun aT qF b b' g h=>by cases h),(fun aT b h=>by cases h)⟩
 obtain⟨_,_,_,⟨v,_,a,n,_,_,H,hR,_⟩,_⟩:=h _ _ _ [.slice (some ⟨w.heap.size,0,none⟩) b.length b.length] st ⟨.lst hv,trivial⟩ []
 exact⟨a,n,H,hR⟩
def Rd:Prop:= ∀l:List Ev,(∀e∈l,e.ok)→kD l=0→(tab l).length≤100000→tY (tab l)=(l,0)
theorem abA {w:World}(hw:GS.holds w):Rd:=fun l h1 h2 h3=>by
 obtain⟨_,_,_,l',e,hR,_⟩:=abz (AL (tab l) (by omega)) hw
 have hx:=hR.2.2.2 l h1 h2 rfl
 rw [Tq hR,hx.1,hx.2]
theorem abB:nS (tab [])=1:=by rw [EP];decide
attribute [local irreducible] num hsh oV kC gG lg tY tab kL sec hG hF hI hN
def O1 (bs:List By)(ev:List Ev):Prop:= ∃els:List (List Ev),bs=els.map tab∧els.flatten=ev∧∀l∈els,((∀e∈l,e.ok)∧kD l=0)∧(tab l).length≤100000
theorem Yo (hrd:Rd) : ∀(els:List (List Ev)) (out:List Ev),(∀l∈els,((∀e∈l,e.ok)∧kD l=0)∧(tab l).length≤100000)→(out++els.flatten).length≤512→rO out (els.map tab)=out++els.flatten:=by
 intro els
 induction els with
 | nil=>intro out _ _;simp [rO]
 | cons l r ih=>
  intro out h hl
  have hlr:=h l (List.mem_cons_self ..)
  rw [List.flatten_cons,List.length_append,List.length_append]at hl
  have e:=hrd l hlr.1.1 hlr.1.2 hlr.2
  rw [List.map_cons,List.flatten_cons]
  unfold rO
  rw [e,if_neg (by simp only [not_or];exact⟨by simp,by omega⟩), ←List.append_assoc]
  exact ih (out++l) (fun x hx=>h x (List.mem_cons_of_mem _ hx)) (by rw [List.length_append,List.length_append];omega)
theorem O1.rO (hrd:Rd){bs:List By}{ev:List Ev}(h:O1 bs ev)(hl:ev.length≤512):rO [] bs=ev:=by
 obtain⟨els,rfl,rfl,h⟩:=h
 exact Yo hrd els [] h hl
theorem Uh {b:By}(h:nS b≤255):b.length≤100000:=by unfold nS dat at h;rw [List.length_append]at h;omega
theorem O1.one {ev:List Ev}(h:(∀e∈ev,e.ok)∧kD ev=0)(hn:nS (tab ev)≤255):O1 [tab ev] ev:=⟨[ev],rfl,by simp,fun l hl=>by rw [List.mem_singleton.1 hl];exact⟨h,Uh hn⟩⟩
theorem O1.snoc {bs:List By}{ev l:List Ev}(h:O1 bs ev)(hl:(∀e∈l,e.ok)∧kD l=0)(hn:nS (tab l)≤255):O1 (bs++ [tab l]) (ev++l):=by
 obtain⟨els,rfl,rfl,h⟩:=h
 refine⟨els++ [l],by simp,by simp,fun x hx=> ?_⟩
 rcases List.mem_append.1 hx with hx | hx
 ·exact h x hx
 ·rw [List.mem_singleton.1 hx];exact⟨hl,Uh hn⟩
structure Fit (n:Nat)(ev:List Ev):Prop where
 ok:(∀e∈ev,e.ok)∧kD ev=0
 n1:nS (tab ev)≤255
 n2:nS (tab ev)≤n/2
def Bd (L:List By)(G:Nat):Prop:= ∀x∈L,kC x=true→Cl.hG x≤G
theorem Bd.mono {L:List By}{G G':Nat}(h:Bd L G)(hg:G≤G'):Bd L G':=fun x hx hr=>Nat.le_trans (h x hx hr) hg
theorem Bd.secs {g f G:Nat}{b:By}(hs:kJ g f b=0)(hg:g≤G):Bd (secs g f b) G:=fun x hx _=>by
 obtain⟨i,hi,rfl⟩:=List.mem_iff_getElem.1 hx
 have:=(tC.at (l:=Cl.secs g f b) ⟨hs,rfl⟩ hi).2.2.1
 omega
theorem Bd.app {A B:List By}{G:Nat}(h:Bd A G)(k:Bd B G):Bd (A++B) G:=fun x hx hr=>(List.mem_append.1 hx).elim (fun h'=>h x h' hr) fun h'=>k x h' hr
theorem Bd.take {A:List By}{G:Nat}(h:Bd A G)(n:Nat):Bd (A.take n) G:=fun x hx hr=>h x (List.mem_of_mem_take hx) hr
theorem Bd.drop {A:List By}{G:Nat}(h:Bd A G)(n:Nat):Bd (A.drop n) G:=fun x hx hr=>h x (List.mem_of_mem_drop hx) hr
theorem Bd.wrt {L l:List By}{G a:Nat}(h:Bd L G)(k:Bd l G):Bd (wrt L a l) G:=((h.take a).app k).app (h.drop _)
theorem Bd.mix {A B M:List By}{G:Nat}(h:Bd A G)(k:Bd B G)(hM:Mix A B M):Bd M G:=fun x hx hr=>by
 obtain⟨i,hi,rfl⟩:=List.mem_iff_getElem.1 hx
 rcases hM.2.2 i with e | e
 ·rw [List.getElem?_eq_getElem hi]at e;exact h _ (List.mem_of_getElem? e.symm) hr
 ·rw [List.getElem?_eq_getElem hi]at e;exact k _ (List.mem_of_getElem? e.symm) hr
structure Ii (n G:Nat)(ev:List Ev)(L:List By):Prop where
 len:L.length=n
 bd:Bd L G
 wl : ∃k g bs,(k=0∨k=1)∧WL L k g bs∧O1 bs ev
structure EU (n G:Nat)(s:So):Prop where
 ok:s.ok
 dead:s.d.dead=false
 safe:s.d.safe=s.d.now
 len:s.d.now.length=n
 bd:Bd s.d.now G
 gen:s.gen≤(G:Int)
 sl : ∃bs,SL s.d.now s.half s.gen.toNat bs∧O1 bs s.ev∧s.next=((oO s.gen.toNat 0 bs).length:Nat)∧s.frame=(bs.length:Nat)
 fit:Fit n s.ev
theorem EU.gd {n G:Nat}{s:So}(h:EU n G s):Ii n G s.ev s.d.now:=by
 obtain⟨bs,h1,h2,_⟩:=h.sl
 exact⟨h.len,h.bd,s.half,_,bs,h.ok.half,h1.wl,h2⟩
theorem EU.arm {n G:Nat}{s:So}(h:EU n G s){f:Int}(hf : -1≤f∧f≤9223372036854775807):EU n G {s with d:=s.d.arm f}:=
 ⟨h.ok.arm hf,h.dead,h.safe,h.len,h.bd,h.gen,h.sl,h.fit⟩
theorem EU.mono {n G G':Nat}{s:So}(h:EU n G s)(hg:G≤G'):EU n G' s:=⟨h.ok,h.dead,h.safe,h.len,h.bd.mono hg,by have:=h.gen;omega,h.sl,h.fit⟩
theorem Ii.mono {n G G':Nat}{ev:List Ev}{L:List By}(h:Ii n G ev L)(hg:G≤G'):Ii n G' ev L:=⟨h.len,h.bd.mono hg,h.wl⟩
theorem abC : ∀ {l:List By} {a G:Int},a≤G→(∀x∈l,kC x=true→(Cl.hG x:Int)≤G)→ni a l≤G:=by
 intro l
 induction l with
 | nil=>intro a G ha _;exact ha
 | cons s r ih=>
  intro a G ha h
  unfold ni
  rw [List.foldl_cons]
  refine ih ?_ fun x hx=>h x (List.mem_cons_of_mem _ hx)
  split
  ·rename_i hs
   exact Int.max_le.2 ⟨ha,h s (List.mem_cons_self ..) hs⟩
  ·exact ha
theorem adz {L:List By}(k:Int)(h:L.length%2=0) : ∃c o,L=jn k c o∧o.length=c.length:=by
 unfold jn
 split
 ·exact⟨L.take (L.length/2),L.drop (L.length/2),(List.take_append_drop ..).symm,by rw [List.length_take,List.length_drop];omega⟩
 ·exact⟨L.drop (L.length/2),L.take (L.length/2),(List.take_append_drop ..).symm,by rw [List.length_take,List.length_drop];omega⟩
theorem yM {d:Dk}(hd:d.ok)(h1:d.dead=false)(h2:d.safe=d.now){n G:Nat}(hn:d.now.length=n)(hG:Bd d.now G){gen k nx fr:Int}(hg:0≤gen∧gen≤G)(hG2:G+1≤4294967295)(hk:k=0∨k=1){ev:List Ev}(hf:Fit n ev){r:So×Int}(hr:r=lV ⟨d,gen,k,nx,fr,ev⟩) :
  (r.2=0∧EU n (G+1) r.1∧r.1.ev=ev∧gen<r.1.gen∧(d.fuse<0→r.1.d.fuse<0))∨
  (r.2=40∧0≤d.fuse∧∃d',r.1=So.jA d'∧d'.ok∧∀old g bs,WL d.now k g bs→O1 bs old→∀M,Mix d'.now d'.safe M→Ii n (G+1) old M∨Ii n (G+1) ev M):=by
 have hout:=Ih (s:=⟨d,gen,k,nx,fr,ev⟩) hd hf.ok hg.1 hk
 rw [←hr]at hout
 obtain⟨c,o,e0,hl⟩:=adz k hd.ev
 have hh:d.now.length/2=c.length:=by rw [e0];exact ET hl
 have hgl:gen≤ni gen d.now:=J4
 have hgu:ni gen d.now≤G:=abC hg.2 fun x hx hr=>by have:=hG x hx hr;omega
 obtain⟨G0,hG0⟩ : ∃G0:Nat,ni gen d.now=(G0:Int):=⟨(ni gen d.now).toNat,by omega⟩
 have hB0 : ∀x∈jn k c o,kC x=true→Cl.hG x≤G0:=fun x hx hr=>by
  rw [←e0]at hx
  have:=XR (a:=gen) hx hr
  omega
 have hn2:=hf.n2
 obtain⟨q1,q2⟩:=abx (b:=tab ev) hk hl hB0 (by omega) ⟨hf.n1,by omega⟩
 have hsc:kJ ((G0+1:Nat):Int) (0:Nat) (tab ev)=0:=wC (by omega) (by omega) (by omega) (by omega) hf.n1
 have hcE:kJ (ni gen d.now+1) 0 (tab ev)=0:=by rw [hG0];exact hsc
 have hcL:qO (ni gen d.now+1) 0 (tab ev)=secs (G0+1) 0 (tab ev):=by
  unfold qO;rw [if_pos hcE,hG0];rfl
 have hlen:(secs (G0+1) 0 (tab ev)).length=nS (tab ev):=dX _ _ _
 rw [←e0, ←hh]at q1
 have hat:(1-k).toNat*(d.now.length/2)+nS (tab ev)≤d.now.length:=by
  rcases hk with rfl | rfl
  ·show 1*_+_≤_;omega
  ·show 0*_+_≤_;omega
 have hwl:(wrt d.now ((1-k).toNat*(d.now.length/2)) (secs (G0+1) 0 (tab ev))).length=d.now.length:=MW (by omega)
 have abD:=MX d.now (wrt d.now ((1-k).toNat*(d.now.length/2)) (secs (G0+1) 0 (tab ev))) hwl.symm (secs (G0+1) 0 (tab ev)) d ((1-k).toNat*(d.now.length/2)) h1 h2 ⟨hwl.symm,rfl,fun _=> .inl rfl⟩ fun i hi=>MZ (by omega) i hi
 obtain⟨d',e,hw,hx⟩:=abD
 have hBs:Bd (secs (G0+1) 0 (tab ev)) (G+1):=Bd.secs hsc (by omega)
 have hB1:Bd (wrt d.now ((1-k).toNat*(d.now.length/2)) (secs (G0+1) 0 (tab ev))) (G+1):=(hG.mono (by omega)).wrt hBs
 have hgo:=yH (s:=⟨d,gen,k,nx,fr,ev⟩) (d:=d') (e:=e) (by dsimp only;rw [hcE];simp;omega) (by dsimp only;rw [hcL];exact hw)
 rw [←hr]at hgo
 rcases hx with ⟨rfl,a1,a2,a3,a4⟩ | ⟨rfl,a1,a2,a3⟩
 ·left
  rw [if_neg (by simp)]at hgo
  dsimp only at hgo
  subst hgo
  have hok:So.ok ⟨d',ni gen d.now+1,1-k,((nS (tab ev):Nat):Int),1,ev⟩:=by
   rcases hout with ⟨_,h⟩ | ⟨h,_⟩ | ⟨h,_⟩
   ·exact h
   ·cases h
   ·exact absurd rfl h
  rw [q1]at a1
  refine⟨rfl,⟨hok,a3,a2, ?_, ?_,by dsimp only;omega,⟨[tab ev], ?_,O1.one hf.ok hf.n1, ?_,rfl⟩,hf⟩,rfl,by dsimp only;omega,a4⟩
  ·dsimp only;rw [a1, ←q1,hwl,hn]
  ·dsimp only;rw [a1, ←q1];exact hB1
  ·dsimp only
   rw [a1,show (ni gen d.now+1).toNat=G0+1 by omega]
   exact q2
  ·dsimp only
   show _=(((Cl.secs _ 0 (tab ev)++ []:List By).length:Nat):Int)
   rw [List.append_nil,dX]
 ·right
  rw [if_pos (by decide)]at hgo
  subst hgo
  have hok:d'.ok:=by
   rcases hout with ⟨h,_⟩ | ⟨_,d2,h,h3⟩ | ⟨_,h,_⟩
   ·cases h
   ·have:d'=d2:=congrArg So.d h3
    rw [this];exact h
   ·exact absurd rfl h
  refine⟨rfl,a1,d',rfl,hok,fun old g bs hW hT M hM=> ?_⟩
  rw [a2]at hM
  have hM2:Mix d.now (wrt d.now ((1-k).toNat*(d.now.length/2)) (secs (G0+1) 0 (tab ev))) M:=by
   refine⟨hwl.symm,hM.2.1.trans a3.2.1,fun j=> ?_⟩
   rcases hM.2.2 j with h | h
   ·rw [h];exact a3.2.2 j
   ·exact .inl h
  have hMl:M.length=n:=hM2.2.1.trans hn
  have hMb:Bd M (G+1):=(hG.mono (by omega)).mix hB1 hM2
  rw [q1]at hM2
  rw [e0]at hM2 hW
  rcases Yn hl hW hB0 (by omega) ⟨hf.n1,by omega⟩ hM2 with h | h
  ·refine .inr ⟨hMl,hMb,1-k,G0+1,[tab ev],by omega, ?_,O1.one hf.ok hf.n1⟩
   rw [h];exact q2.wl
  ·exact .inl ⟨hMl,hMb,k,g,bs,hk,h,hT⟩
theorem dM (hrd:Rd){d:Dk}(hd:d.ok)(h1:d.dead=false)(h2:d.safe=d.now){n G:Nat}{ev:List Ev}(h:Ii n G ev d.now)(hf:Fit n ev)(hG2:G+1≤4294967295){r:So×Int}(hr:r=iK d) :
  (r.2=0∧EU n (G+1) r.1∧r.1.ev=ev∧(d.fuse<0→r.1.d.fuse<0))∨(r.2=40∧0≤d.fuse∧∃d',r.1=So.jA d'∧d'.ok∧∀M,Mix d'.now d'.safe M→Ii n (G+1) ev M):=by
 obtain⟨hn,hB,k,g,bs,hk,hW,hT⟩:=h
 have hh:=hW.hlf hk
 rw [hT.rO hrd (pO hf.ok.2).1]at hh
 have e:iK d=lV ⟨d,0,k,0,0,ev⟩:=by unfold iK;rw [if_neg (by rw [h1];decide),hh]
 rw [e]at hr
 rcases yM hd h1 h2 hn hB ⟨Int.le_refl 0,by omega⟩ hG2 hk hf hr with ⟨a,b,c,_,f⟩ | ⟨a,b,d',c,f,g'⟩
 ·exact .inl ⟨a,b,c,f⟩
 ·exact .inr ⟨a,b,d',c,f,fun M hM=>(g' ev g bs hW hT M hM).elim id id⟩
theorem Ij {s:So}{n G:Nat}(h:EU n G s)(hG2:G+1≤4294967295){r:So×Int}(hr:r=lV s) :
  (r.2=0∧EU n (G+1) r.1∧r.1.ev=s.ev∧s.gen<r.1.gen∧(s.d.fuse<0→r.1.d.fuse<0))∨(r.2=40∧0≤s.d.fuse∧∃d',r.1=So.jA d'∧d'.ok∧∀M,Mix d'.now d'.safe M→Ii n (G+1) s.ev M):=by
 obtain⟨bs,hS,hT,_⟩:=h.sl
 have hg:=h.ok.gen
 have hg2:=h.gen
 rcases yM (r:=r) (nx:=s.next) (fr:=s.frame) h.ok.d h.dead h.safe h.len h.bd ⟨by omega,hg2⟩ hG2 h.ok.half h.fit hr with hx | ⟨a,b,d',c,f,g'⟩
 ·exact .inl hx
 ·exact .inr ⟨a,b,d',c,f,fun M hM=>(g' s.ev _ bs hS.wl hT M hM).elim id id⟩
theorem KC {s:So}{n G:Nat}(h:EU n G s)(hG2:G+1≤4294967295){l:List Ev}(hl:(∀e∈l,e.ok)∧kD l=0)(hc:s.ev.length+l.length≤512){r:So×Int}(hr:r=nR s l) :
  (r.2=0∧EU n (G+1) r.1∧r.1.ev=s.ev++l∧(s.d.fuse<0→r.1.d.fuse<0))∨r.2=19∨(r.2=40∧0≤s.d.fuse∧∃d',r.1=So.jA d'∧d'.ok∧∀M,Mix d'.now d'.safe M→Ii n (G+1) s.ev M∨Ii n (G+1) (s.ev++l) M∧Fit n (s.ev++l)):=by
 obtain⟨bs,hS,hT,hnx,hfr⟩:=h.sl
 have hg:=h.ok.gen
 have hg2:=h.gen
 have hout:=Ue h.ok hl.1 hl.2
 rw [←hr]at hout
 by_cases c3:l = []
 ·subst c3
  rw [AZ s (pO h.ok.ev.2).1]at hr
  subst hr
  exact .inl ⟨rfl,h.mono (by omega),(List.append_nil _).symm,id⟩
 by_cases c4:255<nS (tab (s.ev++l))∨s.d.now.length/2<nS (tab (s.ev++l))
 ·rw [wJ hl.2 (by omega) c3 c4]at hr
  subst hr
  exact .inr (.inl rfl)
 have hlen:=h.len
 have hf:Fit n (s.ev++l):=⟨⟨fun e he=>(List.mem_append.1 he).elim (h.fit.ok.1 e) (hl.1 e),yI h.fit.ok.2 hl.2 (by rw [List.length_append];exact hc)⟩,by omega,by omega⟩
 by_cases c5:kJ s.gen s.frame (tab l)≠0∨((s.d.now.length/2:Nat):Int)<s.next+(nS (tab l):Nat)
 ·rw [A8 hl.2 (by omega) c3 c4 c5]at hr
  rcases yM (r:=r) (nx:=s.next) (fr:=s.frame) h.ok.d h.dead h.safe h.len h.bd ⟨by omega,hg2⟩ hG2 h.ok.half hf hr with ⟨a,b,c,_,f⟩ | ⟨a,b,d',c,f,g'⟩
  ·exact .inl ⟨a,b,c,f⟩
  ·exact .inr (.inr ⟨a,b,d',c,f,fun M hM=>(g' s.ev _ bs hS.wl hT M hM).imp id fun h=>⟨h,hf⟩⟩)
 have hsc:kJ s.gen s.frame (tab l)=0:=by
  by_cases hz:kJ s.gen s.frame (tab l)=0
  ·exact hz
  ·exact absurd (.inl hz) c5
 have hsz:=xg hsc
 have hroom:(oO s.gen.toNat 0 bs).length+nS (tab l)≤s.d.now.length/2:=by
  have : ¬((s.d.now.length/2:Nat):Int)<s.next+(nS (tab l):Nat):=fun hx=>c5 (.inr hx)
  omega
 have hcL:qO s.gen s.frame (tab l)=secs s.gen.toNat bs.length (tab l):=by
  unfold qO;rw [if_pos hsc,hfr];rfl
 have hsc2:kJ (s.gen.toNat:Nat) (bs.length:Nat) (tab l)=0:=by rw [←hfr,Int.toNat_of_nonneg (by omega)];exact hsc
 obtain⟨q1,q2⟩:=aby hS h.ok.half (by omega) hsz.2.2.2.2 hroom
 have hql:(secs s.gen.toNat bs.length (tab l)).length=nS (tab l):=dX _ _ _
 have hev:=h.ok.d.ev
 have hat:s.half.toNat*(s.d.now.length/2)+(oO s.gen.toNat 0 bs).length+nS (tab l)≤s.d.now.length:=by
  rcases h.ok.half with hk | hk
  ·rw [hk];show 0*_+_+_≤_;omega
  ·rw [hk];show 1*_+_+_≤_;omega
 have hwl:(wrt s.d.now (s.half.toNat*(s.d.now.length/2)+(oO s.gen.toNat 0 bs).length) (secs s.gen.toNat bs.length (tab l))).length=s.d.now.length:=MW (by omega)
 have abD:=MX s.d.now (wrt s.d.now (s.half.toNat*(s.d.now.length/2)+(oO s.gen.toNat 0 bs).length) (secs s.gen.toNat bs.length (tab l))) hwl.symm (secs s.gen.toNat bs.length (tab l)) s.d (s.half.toNat*(s.d.now.length/2)+(oO s.gen.toNat 0 bs).length) h.dead h.safe ⟨hwl.symm,rfl,fun _=> .inl rfl⟩ fun i hi=>MZ (by omega) i hi
 obtain⟨d',e,hw,hx⟩:=abD
 have hBs:Bd (secs s.gen.toNat bs.length (tab l)) (G+1):=Bd.secs hsc2 (by omega)
 have hB1:=((h.bd.mono (Nat.le_succ G)).wrt (a:=s.half.toNat*(s.d.now.length/2)+(oO s.gen.toNat 0 bs).length) hBs)
 have hnt:s.next.toNat=(oO s.gen.toNat 0 bs).length:=by omega
 rw [EO hl.2 (by omega) c3 c4 c5 (d:=d') (e:=e) (by rw [hcL,hnt];exact hw)]at hr
 rcases hx with ⟨rfl,a1,a2,a3,a4⟩ | ⟨rfl,a1,a2,a3⟩
 ·left
  rw [if_neg (by simp)]at hr
  subst hr
  have hok:So.ok ⟨d',s.gen,s.half,s.next+(nS (tab l):Nat),s.frame+1,s.ev++l⟩:=by
   rcases hout with ⟨_,h⟩ | ⟨h,_⟩ | ⟨h,_⟩
   ·exact h
   ·cases h
   ·exact absurd rfl h
  refine⟨rfl,⟨hok,a3,a2, ?_, ?_,by dsimp only;omega,⟨bs++ [tab l], ?_,hT.snoc hl hsz.2.2.2.2, ?_, ?_⟩,hf⟩,rfl,a4⟩
  ·dsimp only;rw [a1,hwl];exact hlen
  ·dsimp only;rw [a1];exact hB1
  ·dsimp only;rw [a1];exact q1
  ·dsimp only;rw [MV,List.length_append,dX,hnx];omega
  ·dsimp only;rw [hfr,List.length_append];rfl
 ·right;right
  rw [if_pos (by decide)]at hr
  subst hr
  have hok:d'.ok:=by
   rcases hout with ⟨h,_⟩ | ⟨_,d2,h,h3⟩ | ⟨_,h,_⟩
   ·cases h
   ·have:d'=d2:=congrArg So.d h3
    rw [this];exact h
   ·exact absurd rfl h
  refine⟨rfl,a1,d',rfl,hok,fun M hM=> ?_⟩
  rw [a2]at hM
  have hM2:Mix s.d.now (wrt s.d.now (s.half.toNat*(s.d.now.length/2)+(oO s.gen.toNat 0 bs).length) (secs s.gen.toNat bs.length (tab l))) M:=by
   refine⟨hwl.symm,hM.2.1.trans a3.2.1,fun j=> ?_⟩
   rcases hM.2.2 j with h | h
   ·rw [h];exact a3.2.2 j
   ·exact .inl h
  have hMl:M.length=n:=hM2.2.1.trans hlen
  have hMb:Bd M (G+1):=(h.bd.mono (Nat.le_succ G)).mix hB1 hM2
  rcases q2 M hM2 with hx | hx
  ·refine .inr ⟨⟨hMl,hMb,s.half,s.gen.toNat,bs++ [tab l],h.ok.half, ?_,hT.snoc hl hsz.2.2.2.2⟩,hf⟩
   rw [hx];exact q1.wl
  ·exact .inl ⟨hMl,hMb,s.half,_,bs,h.ok.half,hx,hT⟩
theorem OM {n:Nat}(h2:8≤n):iK (dk0 n)=lV ⟨dk0 n,0,1,0,0,[]⟩:=by
 have hl:(dk0 n).now.length=n:=by simp [dk0]
 have e1:hlf ((dk0 n).now.take ((dk0 n).now.length/2)) ((dk0 n).now.drop ((dk0 n).now.length/2))=(1,[]):=by
  have ta:(dk0 n).now.take ((dk0 n).now.length/2)=List.replicate (n/2) z64:=by
   rw [hl];show (List.replicate n z64).take (n/2)=_
   rw [List.take_replicate,Nat.min_eq_left (by omega)]
  have tb:(dk0 n).now.drop ((dk0 n).now.length/2)=List.replicate (n-n/2) z64:=by
   rw [hl];show (List.replicate n z64).drop (n/2)=_
   rw [List.drop_replicate]
  rw [ta,tb]
  unfold hlf
  rw [MQ,MQ]
  rfl
 unfold iK
 rw [if_neg (show ¬((dk0 n).dead=true) by show ¬(false=true);decide),e1]
theorem OO {n:Nat}(h1:n%2=0)(h2:8≤n)(h3:n≤256){r:So×Int}(hr:r=iK (dk0 n)):r.2=0∧EU n 1 r.1∧r.1.ev = []∧r.1.d.fuse<0:=by
 rw [OM h2]at hr
 have hN:=abB
 rcases yM (d:=dk0 n) (n:=n) (G:=0) (gen:=0) (ev:= []) (J9 h1 h2 h3) rfl rfl (by simp [dk0]) (fun x hx hr=>by
  have hx:x∈List.replicate n z64:=hx
  rw [(List.mem_replicate.1 hx).2,TU]at hr
  cases hr) ⟨Int.le_refl 0,Int.le_refl 0⟩ (by omega) (.inr rfl) ⟨⟨(fun e he=>by cases he),yJ⟩,by omega,by omega⟩ hr with ⟨a,b,c,_,f⟩ | ⟨_,b,_⟩
 ·exact⟨a,b,c,f (by show (-1:Int)<0;decide)⟩
 ·exact absurd b (by show ¬(0:Int)≤ -1;decide)
theorem eG {d:Dk}(h:d.ok)(pick:By):Mix d.now d.safe (d.crash pick).now∧(d.crash pick).safe=(d.crash pick).now∧(d.crash pick).dead=false∧(d.crash pick).fuse<0:=by
 obtain⟨a1,a2,a3⟩:=Ko d.now d.safe pick h.sf d.now.length (Nat.le_refl _)
 refine⟨⟨h.sf.symm,a1,fun j=> ?_⟩,rfl,rfl,by show (-1:Int)<0;decide⟩
 rcases Nat.lt_or_ge j d.now.length with hj | hj
 ·exact a3 j hj
 ·left
  rw [List.getElem?_eq_none hj,List.getElem?_eq_none]
  show (yK d.now d.safe pick d.now.length).1.length≤j
  omega
end
attribute [local irreducible] loadVar storeVar Instr.indexAt Instr.index Instr.sliceAt Instr.makeSlice Instr.lookup Instr.mapUpdate Instr.range Instr.next Instr.entry Instr.makeMap Builtin.append_ Builtin.copy_ Builtin.len_ Builtin.min_ Builtin.max_ Builtin.cap_ Builtin.delete_ Builtin.clear_ convert binOp eqGuard Op.unary Calls
section
open Go.Proofs.YtocckceefcmeaaaGreatDoor.Ky
attribute [local irreducible] num hsh oV kC
end
section
open Go.Proofs.YtocckceefcmeaaaGreatDoor.Ky
attribute [local irreducible] num hsh oV kC gG lg tY rO tab kL wG sec hG hF hI hN OZ iK lV nR
theorem abE {l:List Ac}(h:lng l=false):l.length≤16∧∀a∈l,a.ev.length≤100∧a.pick.length≤40:=by
 unfold lng at h
 rw [Bool.or_eq_false_iff]at h
 refine⟨by simpa using h.2,fun a ha=> ?_⟩
 have:=List.any_eq_false.1 h.1 a ha
 simp at this
 omega
structure Kp where
 s:So
 i:Nat
end
end Go.Proofs.YtocckceefcmeaaaGreatDoor.Cl
