/- Joined parts of the proof. What readChunk knows, in plain Lean -/
import Derived.Test.YtocckceefcmeaaaGreatDoorPk17
import Derived.Test.YtocckceefcmeaaaGreatDoorPk16
import Derived.Test.YtocckceefcmeaaaGreatDoorPk15
set_option linter.unusedVariables false
set_option linter.unusedSimpArgs false
set_option maxRecDepth 100000
set_option maxHeartbeats 16000000
namespace Go.Proofs.YtocckceefcmeaaaGreatDoor.Cl
open Go Go.RowKit Go.Proofs Go.Proofs.YtocckceefcmeaaaGreatDoor.Vc Go.Proofs.YtocckceefcmeaaaGreatDoor.Ax
section
attribute [local irreducible] best ints en bd ji dsT
def z0:Ev:=⟨[],0,0,0,[],[],[],0,0,0⟩
def mg (s:Nat)(x:Ev):Ev:=
 ⟨if 0<s then x.client else [],if 1<s then x.seq else 0,if 2<s then x.kind else 0,if 3<s then x.time else 0,if 4<s then x.id else [],if 5<s then x.name else [],if 6<s then x.other else [],if 7<s then x.ver else 0,if 8<s then x.arm else 0,if 9<s then x.val else 0⟩
def cols (c:List Ev):List By:= [ji (c.map (·.client)),ints (c.map (·.seq)),ints (c.map (·.kind)),ints (c.map (·.time)),ji (c.map (·.id)),ji (c.map (·.name)),ji (c.map (·.other)),ints (c.map (·.ver)),ints (c.map (·.arm)),ints (c.map (·.val))]
def rs (s:Nat)(c:List Ev):By:=((cols c).drop s).flatten
theorem aaZ (c:List Ev):uK c=rs 0 c:=by simp [uK,rs,cols]
def MG (b:By)(n:Nat)(Q:List Ev→By→Prop):Prop:= ∀c r,OW c→c.length=n→b=wG c++r→Q c r
structure xw (b:By)(n:Nat)(l:List Ev)(k:Nat)(ok:Bool):Prop where
 good:ok=true→l.length=n∧(∀e∈l,e.ok)∧k≤b.length
 bad:ok=false→l = []∧k=0
 full:MG b n fun c _=>ok=true∧l=c∧k=(wG c).length
theorem xw.no {b:By}{n:Nat}(h:MG b n fun _ _=>False):xw b n [] 0 false:=⟨(fun h=>by cases h),fun _=>⟨rfl,rfl⟩,fun c r h1 h2 h3=>(h c r h1 h2 h3).elim⟩
structure KR (b:By)(n:Nat)(s:Nat)(l:List Ev)(body:By):Prop where
 len:l.length=n
 ok : ∀e∈l,e.ok
 sz:body.length≤100000
 full:MG b n fun c _=>l=c.map (mg s)∧body=rs s c
def wz {α:Type}(g:Ev→α→Ev)(l:List Ev)(s:List α)(i:Nat):List Ev:=List.zipWith g (l.take i) (s.take i)++l.drop i
theorem jT {α:Type}(g:Ev→α→Ev)(l:List Ev)(s:List α):wz g l s 0=l:=by simp [wz]
theorem mY {α:Type}(g:Ev→α→Ev)(l:List Ev)(s:List α)(i:Nat)(h:s.length=l.length):(wz g l s i).length=l.length:=by simp [wz];omega
theorem mZ {α:Type}(g:Ev→α→Ev)(l:List Ev)(s:List α)(h:s.length=l.length):wz g l s l.length=List.zipWith g l s:=by
 unfold wz;rw [List.take_length,List.drop_length,List.append_nil, ←h,List.take_length]
theorem qP {α:Type}(g:Ev→α→Ev)(l:List Ev)(s:List α)(i:Nat)(hi:i<l.length)(h:s.length=l.length):(wz g l s i)[i]? = some l[i]:=by
 unfold wz
 have hz:(List.zipWith g (l.take i) (s.take i)).length=i:=by simp;omega
 rw [List.getElem?_append_right (by omega),hz,Nat.sub_self,List.getElem?_drop,Nat.add_zero,List.getElem?_eq_getElem hi]
theorem ng {α:Type}(g:Ev→α→Ev)(l:List Ev)(s:List α)(i:Nat)(hi:i<l.length)(h:s.length=l.length):(wz g l s i).set i (g l[i] (s[i]'(by omega)))=wz g l s (i+1):=by
 have his:i<s.length:=by omega
 have hz:(List.zipWith g (l.take i) (s.take i)).length=i:=by simp;omega
 unfold wz
 rw [List.set_append_right _ _ (by omega),hz,Nat.sub_self,List.take_succ_eq_append_getElem hi,List.take_succ_eq_append_getElem his,List.zipWith_append (by simp;omega)]
 have e:List.drop i l=l[i]::List.drop (i+1) l:=List.drop_eq_getElem_cons hi
 rw [e]
 show _++(g l[i] s[i]::List.drop (i+1) l)=(_++ [g l[i] s[i]])++_
 rw [List.append_assoc];rfl
theorem YR {α:Type}{g:Ev→α→Ev}{l:List Ev}{s:List α}(hl : ∀e∈l,e.ok)(hg : ∀e∈l, ∀v∈s,(g e v).ok) : ∀e∈List.zipWith g l s,e.ok:=by
 intro e he
 obtain⟨i,hi,rfl⟩:=List.getElem_of_mem he
 rw [List.getElem_zipWith]
 simp at hi
 exact hg _ (List.getElem_mem _) _ (List.getElem_mem _)
theorem zip_map {α:Type}(g:Ev→α→Ev)(c:List Ev)(a:Ev→Ev)(f:Ev→α):List.zipWith g (c.map a) (c.map f)=c.map fun x=>g (a x) (f x):=by
 induction c with
 | nil=>rfl
 | cons x r ih=>simp [ih]
theorem yE (s:Nat)(c:List Ev)(x:By)(h:(cols c)[s]? = some x):rs s c=x++rs (s+1) c:=by
 unfold rs
 obtain⟨hs,rfl⟩:=List.getElem?_eq_some_iff.1 h
 rw [List.drop_eq_getElem_cons hs];rfl
theorem adg:z0.ok:=by
 refine⟨?_, ?_, ?_, ?_, ?_, ?_, ?_, ?_, ?_, ?_⟩<;>first | (unfold z0 I64;simp;done) | (unfold z0;simp)
theorem KR.txt {b:By}{n s:Nat}{l:List Ev}{body:By}(h:KR b n s l body)(g:Ev→By→Ev)(f:Ev→By)(hf : ∀c,(cols c)[s]? = some (ji (c.map f)))(hg : ∀x:Ev,g (mg s x) (f x)=mg (s+1) x)
  (hok : ∀e v,e.ok→v.length≤200→(g e v).ok) (hs : ∀c,OW c→∀e∈c,(f e).length≤200) {t:Tx} {k:Nat} {e:Int} (hR:Ox body t k e) :
  (e=0→t.length=n→KR b n (s+1) (List.zipWith g l t) (body.drop k)∧k≤body.length)∧(MG b n fun _ _=>e=0∧t.length=n):=by
 obtain⟨r1,r2,r3,r4⟩:=hR
 have key:MG b n fun c _=>e=0∧t=c.map f∧body.drop k=rs (s+1) c:=fun c r hc hn hb=>by
  obtain⟨_,hbody⟩:=h.full c r hc hn hb
  have hb2:body=ji (c.map f)++rs (s+1) c:=by rw [hbody,yE s c _ (hf c)]
  have hcl:=hc.len
  have:=r4 (c.map f) (rs (s+1) c) (by rw [List.length_map];omega) (jd (hs c hc)) hb2
  refine⟨this.1,this.2, ?_⟩
  rcases r3 with ⟨_,hk,_⟩ | ⟨h1,_⟩
  ·rw [hk,this.2,hb2,List.drop_left' rfl]
  ·have:=this.1;omega
 refine⟨fun he ht=> ?_,fun c r hc hn hb=> ?_⟩
 ·have hk:k≤body.length:=by
   rcases r3 with ⟨_,hk,hp⟩ | ⟨h1,_⟩
   ·rw [hk]
    have:=congrArg List.length hp
    rw [List.length_take]at this
    omega
   ·omega
  refine⟨⟨?_,YR h.ok fun x hx v hv=>hok x v (h.ok x hx) (r1 v hv),by rw [List.length_drop];have:=h.sz;omega,fun c r hc hn hb=> ?_⟩,hk⟩
  ·rw [List.length_zipWith,h.len,ht];omega
  ·obtain⟨h1,_⟩:=h.full c r hc hn hb
   obtain⟨_,k2,k3⟩:=key c r hc hn hb
   refine⟨?_,k3⟩
   rw [h1,k2,zip_map]
   exact List.map_congr_left fun x _=>hg x
 ·obtain⟨k1,k2,_⟩:=key c r hc hn hb
  exact⟨k1,by rw [k2,List.length_map,hn]⟩
theorem KR.num {b:By}{n s:Nat}{l:List Ev}{body:By}(h:KR b n s l body)(g:Ev→Int→Ev)(f:Ev→Int)(hf : ∀c,(cols c)[s]? = some (ints (c.map f)))(hg : ∀x:Ev,g (mg s x) (f x)=mg (s+1) x)
  (hok : ∀e v,e.ok→I64 v→(g e v).ok) (hs : ∀c,OW c→∀e∈c,I64 (f e)) {t:Li} {k:Nat} {e:Int} (hR:BM body t k e) :
  (e=0→t.length=n→KR b n (s+1) (List.zipWith g l t) (body.drop k)∧k≤body.length)∧(MG b n fun _ _=>e=0∧t.length=n):=by
 obtain⟨r1,r2,r3,r4⟩:=hR
 have key:MG b n fun c _=>e=0∧t=c.map f∧body.drop k=rs (s+1) c:=fun c r hc hn hb=>by
  obtain⟨_,hbody⟩:=h.full c r hc hn hb
  have hb2:body=ints (c.map f)++rs (s+1) c:=by rw [hbody,yE s c _ (hf c)]
  have hcl:=hc.len
  have:=r4 (c.map f) (rs (s+1) c) (all_map (hs c hc)) (by rw [List.length_map];omega) hb2
  refine⟨this.1,this.2, ?_⟩
  rcases r3 with ⟨_,hk,_⟩ | ⟨h1,_⟩
  ·rw [hk,this.2,hb2,List.drop_left' rfl]
  ·have:=this.1;omega
 refine⟨fun he ht=> ?_,fun c r hc hn hb=> ?_⟩
 ·have hk:k≤body.length:=by
   rcases r3 with ⟨_,hk,hp⟩ | ⟨h1,_⟩
   ·rw [hk]
    have:=congrArg List.length hp
    rw [List.length_take]at this
    omega
   ·omega
  refine⟨⟨?_,YR h.ok fun x hx v hv=>hok x v (h.ok x hx) (r1 v hv),by rw [List.length_drop];have:=h.sz;omega,fun c r hc hn hb=> ?_⟩,hk⟩
  ·rw [List.length_zipWith,h.len,ht];omega
  ·obtain⟨h1,_⟩:=h.full c r hc hn hb
   obtain⟨_,k2,k3⟩:=key c r hc hn hb
   refine⟨?_,k3⟩
   rw [h1,k2,zip_map]
   exact List.map_congr_left fun x _=>hg x
 ·obtain⟨k1,k2,_⟩:=key c r hc hn hb
  exact⟨k1,by rw [k2,List.length_map,hn]⟩
end
attribute [local irreducible] loadVar storeVar Instr.indexAt Instr.index Instr.sliceAt Instr.makeSlice Instr.lookup Instr.mapUpdate Instr.range Instr.next Instr.entry Instr.makeMap Builtin.append_ Builtin.copy_ Builtin.len_ Builtin.min_ Builtin.max_ Builtin.cap_ Builtin.delete_ Builtin.clear_ convert binOp eqGuard Op.unary Calls
section
attribute [local irreducible] best ints en bd ji dsT
theorem heads (b:By)(n:Nat)(M:Int)(hM0:0≤M)(hM : ∀c r,OW c→b=wG c++r→((uK c).length:Int)≤M)(x1 x2 x3 e1 e2 e3:Int)(k1 k2 k3:Nat)(h1:bT b 0=(x1,k1,e1))(h2:bT (b.drop k1) e1=(x2,k2,e2))(h3:iT ((b.drop k1).drop k2) e2 M 5=(x3,k3,e3)) :
  I64 x1∧I64 x2∧0≤x3∧x3≤M∧(e3=0→∃rest,b=num x1++(num x2++(num x3++rest)))∧MG b n fun c r=>e3=0∧x1=(kK c).1∧x2=(kK c).2∧x3=((uK c).length:Int):=by
 have o1:=jv b 0
 have o2:=jv (b.drop k1) e1
 have o3:=jv ((b.drop k1).drop k2) e2
 have o4:=kT ((b.drop k1).drop k2) e2 M 5 hM0 (by decide)
 rw [h1]at o1
 rw [h2]at o2
 rw [h3]at o4
 simp only at o1 o2 o4
 refine⟨o1.1,o2.1,o4.1,o4.2.1,fun he=> ?_,fun c r hc hn hb=> ?_⟩
 ·obtain⟨q1,q2⟩:=o4.2.2.2 he
  obtain⟨p1,p2,p3⟩:=o3.2.2.1 q1
  obtain⟨u1,u2,u3⟩:=o2.2.2.1 p1
  obtain⟨v1,v2,v3⟩:=o1.2.2.1 u1
  refine⟨((b.drop k1).drop k2).drop (bT ((b.drop k1).drop k2) e2).2.1, ?_⟩
  rw [q2, ←p2, ←u2]
  exact v2
 ·have hr:=Hz hc
  have hbl:=oI hc 4
  change (uK c).length≤70000 at hbl
  have hb1:b=num (kK c).1++(num (kK c).2++(num ((uK c).length:Int)++(uK c++r))):=by rw [hb];unfold wG;simp only [List.append_assoc]
  have a1:=JH (b:=b) (e:=0) hr.1 rfl hb1
  rw [h1]at a1
  simp only at a1
  obtain⟨a1,a2,a3⟩:=a1
  have b1:=JH (b:=b.drop k1) (e:=e1) hr.2 a2 a3
  rw [h2]at b1
  simp only at b1
  obtain⟨b1,b2,b3⟩:=b1
  have c1:=JH (b:=(b.drop k1).drop k2) (e:=e2) (bW (by omega:(uK c).length≤9223372036854775807)) b2 b3
  have hle:=hM c r hc hb
  have c2:=ED (em:=5) c1.1 c1.2.1 hle
  rw [h3]at c2
  injection c2 with c2 c3
  injection c3 with c3 c4
  exact⟨c4,a1,b1,c2⟩
structure TR where
 l:List Ev
 body:By
 i:Nat
def stg (i:Nat):Nat:=match i with | 0=>0 | 1=>4 | 2=>5 | 3=>6 | _=>10
def RCa (b:By)(n:Nat)(a:AV)(m:Nat)(H:ak):Prop:= ∃l k ok,xw b n l k ok∧a = .bH [el l,iv (k:Nat),bv ok]∧m=0∧H = []
theorem aa0 (n:Nat):List.replicate n (jg z0)=(List.replicate n z0).map jg:=by simp
theorem JZ (b:By)(n:Nat)(hb:b.length≤100000)(hn:n≤16):bD Tryz.prog GS 110 [bs b,iv n] 0 [] (RCa b n):=by
 have hN1:=bD.up (jH b 0 (by omega)) GS
 obtain⟨⟨x1,k1,e1⟩,h1⟩ : ∃t,bT b 0=t:=⟨_,rfl⟩
 rw [h1]at hN1
 have hN2:=bD.up (jH (b.drop k1) e1 (gJ (by omega))) GS
 obtain⟨⟨x2,k2,e2⟩,h2⟩ : ∃t,bT (b.drop k1) e1=t:=⟨_,rfl⟩
 rw [h2]at hN2
 have hC:=bD.up (wF ((b.drop k1).drop k2) e2 (b.length:Int) (gJ (gJ (by omega))) (by omega)) GS
 obtain⟨⟨x3,k3,e3⟩,h3⟩ : ∃t,iT ((b.drop k1).drop k2) e2 (b.length:Int) 5=t:=⟨_,rfl⟩
 rw [h3]at hC
 simp only at hN1 hN2 hC
 obtain⟨i1,i2,p3,q3,Tn,hfull⟩:=heads b n (b.length:Int) (by omega) (fun c r _ h=>by rw [h];unfold wG;simp only [List.length_append];omega) x1 x2 x3 e1 e2 e3 k1 k2 k3 h1 h2 h3
 clear h1 h2 h3
 obtain⟨sz,rfl⟩ : ∃sz:Nat,x3=(sz:Int):=⟨x3.toNat,by omega⟩
 generalize b.drop k1=b1 at *
 generalize b1.drop k2=b2 at *
 generalize b2.drop k3=b3 at *
 refine au Tryz.func110 rfl mixed (by kernel_rfl) ?_
 conv=>whnf
 (refine aj [] (by kernel_rfl) (bD.up (Ew b (by omega)) GS) ?_ ?_;(focus trivial))
 rintro _ _ _ ⟨rfl,rfl,rfl⟩
 conv=>whnf
 refine aH [0] [] (by kernel_rfl) hN1 rfl (by trivial) (by trivial) ?_
 rintro _ _ _ ⟨rfl,rfl,rfl⟩
 refine⟨rfl, ?_⟩
 conv=>whnf
 refine aH [0] [] (by kernel_rfl) hN2 rfl (by trivial) (by trivial) ?_
 rintro _ _ _ ⟨rfl,rfl,rfl⟩
 refine⟨rfl, ?_⟩
 conv=>whnf
 rw [List.length_map]
 refine aH [0] [] (by kernel_rfl) hC rfl (by trivial) (by trivial) ?_
 rintro _ _ _ ⟨rfl,rfl,rfl⟩
 refine⟨rfl, ?_⟩
 conv=>whnf
 refine aH [0] [] (by kernel_rfl) (bD.up (tH b3 e3) GS) rfl (by trivial) (by trivial) ?_
 rintro _ _ _ ⟨rfl,rfl,rfl⟩
 refine⟨rfl, ?_⟩
 conv=>whnf
 apply ah<;>intro h
 ·have he:e3≠0:=by simpa using h
  conv=>whnf
  exact aV (.bH [el [],iv (0:Nat),bv false]) 0 [] [] [] ⟨[],0,false,xw.no fun c r h1 h2 h3=>he (hfull c r h1 h2 h3).1,rfl,rfl,rfl⟩ rfl trivial (by trivial)
 have he:e3=0:=by simpa using h
 subst he
 obtain⟨rest,hrest⟩:=Tn rfl
 have n1:=(bF x1).2
 have n2:=(bF x2).2
 have n3:=(bF (sz:Int)).2
 conv=>whnf
 (refine aj [] (by kernel_rfl) (bD.up (iD [] x1 i1 (by simp)) GS) ?_ ?_;(focus trivial))
 rintro _ _ _ ⟨rfl,rfl,rfl⟩
 conv=>whnf
 (refine aj [1] (by kernel_rfl) (bD.up (iD (num x1) x2 i2 (by omega)) GS) ?_ ?_;(focus trivial))
 rintro _ _ _ ⟨rfl,rfl,rfl⟩
 conv=>whnf
 (refine aj [2] (by kernel_rfl) (bD.up (iD (num x1++num x2) (sz:Int) (bW (by omega)) (by rw [List.length_append];omega)) GS) ?_ ?_;(focus trivial))
 rintro _ _ _ ⟨rfl,rfl,rfl⟩
 conv=>whnf
 obtain⟨hd,hhd⟩ : ∃hd,num x1++num x2++num (sz:Int)=hd:=⟨_,rfl⟩
 rw [hhd]
 have hb0:b=hd++rest:=by rw [←hhd,hrest];simp only [List.append_assoc]
 have hbl:=congrArg List.length hb0
 rw [List.length_append]at hbl
 have J3:MG b n fun c r=>sz=(uK c).length∧wG c=hd++uK c∧rest=uK c++r:=fun c r h1 h2 h3=>by
  obtain⟨_,f1,f2,f3⟩:=hfull c r h1 h2 h3
  have f4:sz=(uK c).length:=by omega
  have f5:wG c=hd++uK c:=by rw [←hhd,f1,f2,f4];rfl
  refine⟨f4,f5, ?_⟩
  rw [hb0,f5,List.append_assoc]at h3
  exact List.append_cancel_left h3
 clear hfull Tn hrest hhd
 refine aI.i64 (by simp only [List.length_map];omega) ?_
 conv=>whnf
 apply ah<;>intro h
 ·have hgt:rest.length<sz:=by simp only [List.length_map,gt_iff_lt,decide_eq_true_eq]at h;omega
  conv=>whnf
  exact aV (.bH [el [],iv (0:Nat),bv false]) 0 [] [] [] ⟨[],0,false,xw.no fun c r h1 h2 h3=>by
   obtain⟨f1,_,f3⟩:=J3 c r h1 h2 h3
   have:=congrArg List.length f3
   rw [List.length_append]at this
   omega,rfl,rfl,rfl⟩ rfl trivial (by trivial)
 have hle:sz≤rest.length:=by simp only [List.length_map,gt_iff_lt,decide_eq_false_iff_not]at h;omega
 conv=>whnf
 refine KG.mk' (iQ:=112) n rfl rfl (by unfold maxLen;omega) ?_
 conv=>whnf
 refine aI.i64 (by simp only [List.length_map];omega) ?_
 conv=>whnf
 refine lT.mk' hd.length (hd.length+sz) (by rw [List.length_map]) (by rw [List.length_map];omega) (by omega) (by rw [List.length_map];omega) ?_
 conv=>whnf
 have hcut:((b.map dW).take (hd.length+sz)).drop hd.length=(rest.take sz).map dW:=by
  rw [←List.map_take, ←List.map_drop,hb0,List.drop_take,List.drop_left' rfl,Nat.add_sub_cancel_left]
 have hK0:KR b n 0 (List.replicate n z0) (rest.take sz):=by
  refine⟨by simp,fun e he=> ?_, ?_,fun c r h1 h2 h3=> ?_⟩
  ·rw [List.eq_of_mem_replicate he];exact adg
  ·rw [List.length_take];omega
  ·obtain⟨f1,_,f3⟩:=J3 c r h1 h2 h3
   refine⟨?_, ?_⟩
   ·rw [show mg 0=fun _=>z0 from rfl,List.map_const',h2]
   ·rw [f3,f1,List.take_left' rfl,aaZ]
 (refine aj [] (by kernel_rfl) (Hy) ?_ ?_;(focus trivial))
 rintro _ _ _ ⟨rfl,rfl,rfl⟩
 conv=>whnf
 refine bg Vb 6 [13,62] (fun x:TR=> [(13,bs x.body),(62,iv x.i)]) (fun x=> [(5, .rows 160 2 bZ),(4, .rows 95 10 (x.l.map jg))]) (fun x=>x.i≤4∧KR b n (stg x.i) x.l x.body) (fun x=>4-x.i) [] [] ⟨List.replicate n z0,rest.take sz,0⟩ (by kernel_rfl) (fun _=>rfl) rfl ⟨Nat.zero_le _,hK0⟩ ⟨⟨rfl,rfl,rfl⟩,⟨rfl,rfl,aa0 n⟩,trivial⟩ ⟨⟨rfl,hcut⟩,rfl,trivial⟩ ?_
 rintro⟨l,body,i⟩ ⟨hi,hK⟩
 change i≤4 at hi
 change KR b n (stg i) l body at hK
 have hbody:=hK.sz
 have hll:=hK.len
 have hcs:i=0∨i=1∨i=2∨i=3∨i=4:=by omega
 rcases hcs with rfl | rfl | rfl | rfl | rfl
 ·conv=>whnf
  refine bC.mk' 0 rfl (by decide) ?_
  conv=>whnf
  refine aS.at rfl ?_
  conv=>whnf
  (refine aj [] (by kernel_rfl) (bD.up (oH body hbody) GS) ?_ ?_;(focus trivial))
  rintro _ _ _ ⟨t,q,e,hR,rfl,rfl,rfl⟩
  have hstep:=hK.txt (fun e v=> {e with client:=v}) (·.client) (fun _=>rfl) (fun _=>rfl) (fun e v he hv=>⟨he.seq,he.kind,he.time,he.ver,he.arm,he.val,by first | exact he.client | (show v.length≤_;omega),by first | exact he.id | (show v.length≤_;omega),by first | exact he.name | (show v.length≤_;omega),by first | exact he.other | (show v.length≤_;omega)⟩) (fun c hc=>hc.s1) hR
  conv=>whnf
  apply ah<;>intro h
  ·have he:e≠0:=by simpa using h
   conv=>whnf
   exact aV (.bH [el [],iv (0:Nat),bv false]) 0 [] [] [] ⟨[],0,false,xw.no fun c r h1 h2 h3=>he (hstep.2 c r h1 h2 h3).1,rfl,rfl,rfl⟩ rfl trivial (by trivial)
  have he:e=0:=by simpa using h
  conv=>whnf
  apply ah<;>intro h
  ·have ht:t.length≠n:=by simp at h;omega
   conv=>whnf
   exact aV (.bH [el [],iv (0:Nat),bv false]) 0 [] [] [] ⟨[],0,false,xw.no fun c r h1 h2 h3=>ht (hstep.2 c r h1 h2 h3).2,rfl,rfl,rfl⟩ rfl trivial (by trivial)
  have ht:t.length=n:=by simp at h;omega
  obtain⟨hK1,hq⟩:=hstep.1 he ht
  have htl:t.length=l.length:=by omega
  clear hstep hR
  conv=>whnf
  refine lT.mk' q body.length rfl (by rw [List.length_map]) hq (by rw [List.length_map];exact Nat.le_refl _) ?_
  conv=>whnf
  refine bg yc 7 [85] (fun k:Nat=> [(85,iv k)]) (fun k=> [(6, .var 160 ((bZ.getD 0 []).map FV.up)),(5, .rows 160 2 bZ),(4, .rows 95 10 ((wz (fun e v=> {e with client:=v}) l t k).map jg))]) (fun k=>k≤l.length) (fun k=>l.length-k) [] [] 0 (by kernel_rfl) (fun _=>rfl) rfl (Nat.zero_le _) ⟨(by trivial),⟨rfl,rfl,rfl⟩,⟨rfl,rfl,by rw [jT]⟩,trivial⟩ ⟨rfl,trivial⟩ ?_
  intro k hk
  conv=>whnf
  refine ah (fun hb=> ?_) (fun hb=> ?_)
  ·have hlt:k<l.length:=by simp at hb;omega
   have hlt2:k<t.length:=by omega
   conv=>whnf
   (refine aP mW [] (by kernel_rfl) ?_;conv=>whnf)
   refine bC.mk' k rfl (by rw [List.length_map,mY _ _ _ _ htl];exact hlt) ?_
   conv=>whnf
   refine bC.mk' k rfl (fQ hlt2) ?_
   conv=>whnf
   refine aS.aA (List.getElem?_eq_getElem hlt2) ?_
   conv=>whnf
   (refine eX (by kernel_rfl) (au Tryz.func143 rfl mixed (by kernel_rfl) ?_);(conv=>whnf))
   refine jw (.ep 4 k 0) ?_ rfl ?_ ?_
   rotate_left 1
   ·trivial
   ·trivial
   conv=>whnf
   refine aS.aA (qP _ l t k hlt htl) ?_
   conv=>whnf
   refine aI.i64 (by omega) ?_
   conv=>whnf
   refine aF (k+1) [] [] rfl (by show l.length -(k+1)<l.length-k;omega) hlt ⟨(by trivial),⟨rfl,rfl,rfl⟩,⟨rfl,rfl, ?_⟩,trivial⟩ ⟨rfl,trivial⟩
   rw [←ng _ l t k hlt htl,List.map_set]
   rfl
  have hke:k=l.length:=by simp only [List.length_map,decide_eq_false_iff_not]at hb;omega
  subst hke
  rw [mZ _ l t htl]
  conv=>whnf
  refine bg yg 7 [13,103] (fun x:TR=> [(13,bs x.body),(103,iv x.i)]) (fun x=> [(6, .var 160 ((bZ.getD 0 []).map FV.up)),(5, .rows 160 2 bZ),(4, .rows 95 10 (x.l.map jg))]) (fun x=>x.i≤3∧KR b n (1+x.i) x.l x.body) (fun x=>3-x.i) [] [] ⟨_,body.drop q,0⟩ (by kernel_rfl) (fun _=>rfl) rfl ⟨Nat.zero_le _,hK1⟩ ⟨(by trivial),⟨rfl,rfl,rfl⟩,⟨rfl,rfl,rfl⟩,trivial⟩ ⟨⟨rfl,List.map_drop.symm⟩,rfl,trivial⟩ ?_
  clear hK1 hq htl ht he hK hbody hll
  rintro⟨l,body,j⟩ ⟨hj,hK⟩
  change j≤3 at hj
  change KR b n (1+j) l body at hK
  have hbody:=hK.sz
  have hll:=hK.len
  have hcj:j=0∨j=1∨j=2∨j=3:=by omega
  rcases hcj with rfl | rfl | rfl | rfl
  ·conv=>whnf
   refine bC.mk' 0 rfl (by decide) ?_
   conv=>whnf
   refine aS.at rfl ?_
   conv=>whnf
   (refine aj [] (by kernel_rfl) (bD.up (jP body hbody) GS) ?_ ?_;(focus trivial))
   rintro _ _ _ ⟨t,q,e,hR,rfl,rfl,rfl⟩
   have hstep:=hK.num (fun e v=> {e with seq:=v}) (·.seq) (fun _=>rfl) (fun _=>rfl) (fun e v he hv=>⟨by first | exact he.seq | exact hv,by first | exact he.kind | exact hv,by first | exact he.time | exact hv,by first | exact he.ver | exact hv,by first | exact he.arm | exact hv,by first | exact he.val | exact hv,he.client,he.id,he.name,he.other⟩) (fun c hc e he=>(hc.ok e he).seq) hR
   conv=>whnf
   apply ah<;>intro h
   ·have he:e≠0:=by simpa using h
    conv=>whnf
    exact aV (.bH [el [],iv (0:Nat),bv false]) 0 [] [] [] ⟨[],0,false,xw.no fun c r h1 h2 h3=>he (hstep.2 c r h1 h2 h3).1,rfl,rfl,rfl⟩ rfl trivial (by trivial)
   have he:e=0:=by simpa using h
   conv=>whnf
   apply ah<;>intro h
   ·have ht:t.length≠n:=by simp at h;omega
    conv=>whnf
    exact aV (.bH [el [],iv (0:Nat),bv false]) 0 [] [] [] ⟨[],0,false,xw.no fun c r h1 h2 h3=>ht (hstep.2 c r h1 h2 h3).2,rfl,rfl,rfl⟩ rfl trivial (by trivial)
   have ht:t.length=n:=by simp at h;omega
   obtain⟨hK1,hq⟩:=hstep.1 he ht
   have htl:t.length=l.length:=by omega
   clear hstep hR
   conv=>whnf
   refine lT.mk' q body.length rfl (by rw [List.length_map]) hq (by rw [List.length_map];exact Nat.le_refl _) ?_
   conv=>whnf
   refine bg qm 7 [126] (fun k:Nat=> [(126,iv k)]) (fun k=> [(6, .var 160 ((bZ.getD 0 []).map FV.up)),(5, .rows 160 2 bZ),(4, .rows 95 10 ((wz (fun e v=> {e with seq:=v}) l t k).map jg))]) (fun k=>k≤l.length) (fun k=>l.length-k) [] [] 0 (by kernel_rfl) (fun _=>rfl) rfl (Nat.zero_le _) ⟨(by trivial),⟨rfl,rfl,rfl⟩,⟨rfl,rfl,by rw [jT]⟩,trivial⟩ ⟨rfl,trivial⟩ ?_
   intro k hk
   conv=>whnf
   refine ah (fun hb=> ?_) (fun hb=> ?_)
   ·have hlt:k<l.length:=by simp at hb;omega
    have hlt2:k<t.length:=by omega
    conv=>whnf
    (refine aP mW [] (by kernel_rfl) ?_;conv=>whnf)
    refine bC.mk' k rfl (by rw [List.length_map,mY _ _ _ _ htl];exact hlt) ?_
    conv=>whnf
    refine bC.mk' k rfl (fQ hlt2) ?_
    conv=>whnf
    refine aS.aA (List.getElem?_eq_getElem hlt2) ?_
    conv=>whnf
    (refine eX (by kernel_rfl) (au Tryz.func144 rfl mixed (by kernel_rfl) ?_);(conv=>whnf))
    refine jw (.ep 4 k 1) ?_ rfl ?_ ?_
    rotate_left 1
    ·trivial
    ·trivial
    conv=>whnf
    refine aS.aA (qP _ l t k hlt htl) ?_
    conv=>whnf
    refine aI.i64 (by omega) ?_
    conv=>whnf
    refine aF (k+1) [] [] rfl (by show l.length -(k+1)<l.length-k;omega) hlt ⟨(by trivial),⟨rfl,rfl,rfl⟩,⟨rfl,rfl, ?_⟩,trivial⟩ ⟨rfl,trivial⟩
    rw [←ng _ l t k hlt htl,List.map_set]
    rfl
   have hke:k=l.length:=by simp only [List.length_map,decide_eq_false_iff_not]at hb;omega
   subst hke
   rw [mZ _ l t htl]
   conv=>whnf
   refine aI.i64 (by dsimp only;omega) ?_
   conv=>whnf
   exact aF ⟨_,body.drop q,0+1⟩ [] [] rfl (by show 3 -(0+1)<3-0;decide) ⟨(by show 0+1≤3;decide),hK1⟩ ⟨(by trivial),⟨rfl,rfl,rfl⟩,⟨rfl,rfl,rfl⟩,trivial⟩ ⟨⟨rfl,List.map_drop.symm⟩,rfl,trivial⟩
  ·conv=>whnf
   refine bC.mk' 1 rfl (by decide) ?_
   conv=>whnf
   refine aS.at rfl ?_
   conv=>whnf
   (refine aj [] (by kernel_rfl) (bD.up (jP body hbody) GS) ?_ ?_;(focus trivial))
   rintro _ _ _ ⟨t,q,e,hR,rfl,rfl,rfl⟩
   have hstep:=hK.num (fun e v=> {e with kind:=v}) (·.kind) (fun _=>rfl) (fun _=>rfl) (fun e v he hv=>⟨by first | exact he.seq | exact hv,by first | exact he.kind | exact hv,by first | exact he.time | exact hv,by first | exact he.ver | exact hv,by first | exact he.arm | exact hv,by first | exact he.val | exact hv,he.client,he.id,he.name,he.other⟩) (fun c hc e he=>(hc.ok e he).kind) hR
   conv=>whnf
   apply ah<;>intro h
   ·have he:e≠0:=by simpa using h
    conv=>whnf
    exact aV (.bH [el [],iv (0:Nat),bv false]) 0 [] [] [] ⟨[],0,false,xw.no fun c r h1 h2 h3=>he (hstep.2 c r h1 h2 h3).1,rfl,rfl,rfl⟩ rfl trivial (by trivial)
   have he:e=0:=by simpa using h
   conv=>whnf
   apply ah<;>intro h
   ·have ht:t.length≠n:=by simp at h;omega
    conv=>whnf
    exact aV (.bH [el [],iv (0:Nat),bv false]) 0 [] [] [] ⟨[],0,false,xw.no fun c r h1 h2 h3=>ht (hstep.2 c r h1 h2 h3).2,rfl,rfl,rfl⟩ rfl trivial (by trivial)
   have ht:t.length=n:=by simp at h;omega
   obtain⟨hK1,hq⟩:=hstep.1 he ht
   have htl:t.length=l.length:=by omega
   clear hstep hR
   conv=>whnf
   refine lT.mk' q body.length rfl (by rw [List.length_map]) hq (by rw [List.length_map];exact Nat.le_refl _) ?_
   conv=>whnf
   refine bg qm 7 [126] (fun k:Nat=> [(126,iv k)]) (fun k=> [(6, .var 160 ((bZ.getD 0 []).map FV.up)),(5, .rows 160 2 bZ),(4, .rows 95 10 ((wz (fun e v=> {e with kind:=v}) l t k).map jg))]) (fun k=>k≤l.length) (fun k=>l.length-k) [] [] 0 (by kernel_rfl) (fun _=>rfl) rfl (Nat.zero_le _) ⟨(by trivial),⟨rfl,rfl,rfl⟩,⟨rfl,rfl,by rw [jT]⟩,trivial⟩ ⟨rfl,trivial⟩ ?_
   intro k hk
   conv=>whnf
   refine ah (fun hb=> ?_) (fun hb=> ?_)
   ·have hlt:k<l.length:=by simp at hb;omega
    have hlt2:k<t.length:=by omega
    conv=>whnf
    (refine aP mW [] (by kernel_rfl) ?_;conv=>whnf)
    refine bC.mk' k rfl (by rw [List.length_map,mY _ _ _ _ htl];exact hlt) ?_
    conv=>whnf
    refine bC.mk' k rfl (fQ hlt2) ?_
    conv=>whnf
    refine aS.aA (List.getElem?_eq_getElem hlt2) ?_
    conv=>whnf
    (refine eX (by kernel_rfl) (au Tryz.func145 rfl mixed (by kernel_rfl) ?_);(conv=>whnf))
    refine jw (.ep 4 k 2) ?_ rfl ?_ ?_
    rotate_left 1
    ·trivial
    ·trivial
    conv=>whnf
    refine aS.aA (qP _ l t k hlt htl) ?_
    conv=>whnf
    refine aI.i64 (by omega) ?_
    conv=>whnf
    refine aF (k+1) [] [] rfl (by show l.length -(k+1)<l.length-k;omega) hlt ⟨(by trivial),⟨rfl,rfl,rfl⟩,⟨rfl,rfl, ?_⟩,trivial⟩ ⟨rfl,trivial⟩
    rw [←ng _ l t k hlt htl,List.map_set]
    rfl
   have hke:k=l.length:=by simp only [List.length_map,decide_eq_false_iff_not]at hb;omega
   subst hke
   rw [mZ _ l t htl]
   conv=>whnf
   refine aI.i64 (by dsimp only;omega) ?_
   conv=>whnf
   exact aF ⟨_,body.drop q,1+1⟩ [] [] rfl (by show 3 -(1+1)<3-1;decide) ⟨(by show 1+1≤3;decide),hK1⟩ ⟨(by trivial),⟨rfl,rfl,rfl⟩,⟨rfl,rfl,rfl⟩,trivial⟩ ⟨⟨rfl,List.map_drop.symm⟩,rfl,trivial⟩
  ·conv=>whnf
   refine bC.mk' 2 rfl (by decide) ?_
   conv=>whnf
   refine aS.at rfl ?_
   conv=>whnf
   (refine aj [] (by kernel_rfl) (bD.up (jP body hbody) GS) ?_ ?_;(focus trivial))
   rintro _ _ _ ⟨t,q,e,hR,rfl,rfl,rfl⟩
   have hstep:=hK.num (fun e v=> {e with time:=v}) (·.time) (fun _=>rfl) (fun _=>rfl) (fun e v he hv=>⟨by first | exact he.seq | exact hv,by first | exact he.kind | exact hv,by first | exact he.time | exact hv,by first | exact he.ver | exact hv,by first | exact he.arm | exact hv,by first | exact he.val | exact hv,he.client,he.id,he.name,he.other⟩) (fun c hc e he=>(hc.ok e he).time) hR
   conv=>whnf
   apply ah<;>intro h
   ·have he:e≠0:=by simpa using h
    conv=>whnf
    exact aV (.bH [el [],iv (0:Nat),bv false]) 0 [] [] [] ⟨[],0,false,xw.no fun c r h1 h2 h3=>he (hstep.2 c r h1 h2 h3).1,rfl,rfl,rfl⟩ rfl trivial (by trivial)
   have he:e=0:=by simpa using h
   conv=>whnf
   apply ah<;>intro h
   ·have ht:t.length≠n:=by simp at h;omega
    conv=>whnf
    exact aV (.bH [el [],iv (0:Nat),bv false]) 0 [] [] [] ⟨[],0,false,xw.no fun c r h1 h2 h3=>ht (hstep.2 c r h1 h2 h3).2,rfl,rfl,rfl⟩ rfl trivial (by trivial)
   have ht:t.length=n:=by simp at h;omega
   obtain⟨hK1,hq⟩:=hstep.1 he ht
   have htl:t.length=l.length:=by omega
   clear hstep hR
   conv=>whnf
   refine lT.mk' q body.length rfl (by rw [List.length_map]) hq (by rw [List.length_map];exact Nat.le_refl _) ?_
   conv=>whnf
   refine bg qm 7 [126] (fun k:Nat=> [(126,iv k)]) (fun k=> [(6, .var 160 ((bZ.getD 0 []).map FV.up)),(5, .rows 160 2 bZ),(4, .rows 95 10 ((wz (fun e v=> {e with time:=v}) l t k).map jg))]) (fun k=>k≤l.length) (fun k=>l.length-k) [] [] 0 (by kernel_rfl) (fun _=>rfl) rfl (Nat.zero_le _) ⟨(by trivial),⟨rfl,rfl,rfl⟩,⟨rfl,rfl,by rw [jT]⟩,trivial⟩ ⟨rfl,trivial⟩ ?_
   intro k hk
   conv=>whnf
   refine ah (fun hb=> ?_) (fun hb=> ?_)
   ·have hlt:k<l.length:=by simp at hb;omega
    have hlt2:k<t.length:=by omega
    conv=>whnf
    (refine aP mW [] (by kernel_rfl) ?_;conv=>whnf)
    refine bC.mk' k rfl (by rw [List.length_map,mY _ _ _ _ htl];exact hlt) ?_
    conv=>whnf
    refine bC.mk' k rfl (fQ hlt2) ?_
    conv=>whnf
    refine aS.aA (List.getElem?_eq_getElem hlt2) ?_
    conv=>whnf
    (refine eX (by kernel_rfl) (au Tryz.func146 rfl mixed (by kernel_rfl) ?_);(conv=>whnf))
    refine jw (.ep 4 k 3) ?_ rfl ?_ ?_
    rotate_left 1
    ·trivial
    ·trivial
    conv=>whnf
    refine aS.aA (qP _ l t k hlt htl) ?_
    conv=>whnf
    refine aI.i64 (by omega) ?_
    conv=>whnf
    refine aF (k+1) [] [] rfl (by show l.length -(k+1)<l.length-k;omega) hlt ⟨(by trivial),⟨rfl,rfl,rfl⟩,⟨rfl,rfl, ?_⟩,trivial⟩ ⟨rfl,trivial⟩
    rw [←ng _ l t k hlt htl,List.map_set]
    rfl
   have hke:k=l.length:=by simp only [List.length_map,decide_eq_false_iff_not]at hb;omega
   subst hke
   rw [mZ _ l t htl]
   conv=>whnf
   refine aI.i64 (by dsimp only;omega) ?_
   conv=>whnf
   exact aF ⟨_,body.drop q,2+1⟩ [] [] rfl (by show 3 -(2+1)<3-2;decide) ⟨(by show 2+1≤3;decide),hK1⟩ ⟨(by trivial),⟨rfl,rfl,rfl⟩,⟨rfl,rfl,rfl⟩,trivial⟩ ⟨⟨rfl,List.map_drop.symm⟩,rfl,trivial⟩
  ·conv=>whnf
   refine aI.i64 (by dsimp only;omega) ?_
   conv=>whnf
   exact aF ⟨l,body,1⟩ [] [] rfl (by show 4-1<4-0;decide) ⟨(by show 1≤4;decide),hK⟩ ⟨⟨rfl,rfl,rfl⟩,⟨rfl,rfl,rfl⟩,trivial⟩ ⟨⟨rfl,rfl⟩,rfl,trivial⟩
 ·conv=>whnf
  refine bC.mk' 1 rfl (by decide) ?_
  conv=>whnf
  refine aS.at rfl ?_
  conv=>whnf
  (refine aj [] (by kernel_rfl) (bD.up (oH body hbody) GS) ?_ ?_;(focus trivial))
  rintro _ _ _ ⟨t,q,e,hR,rfl,rfl,rfl⟩
  have hstep:=hK.txt (fun e v=> {e with id:=v}) (·.id) (fun _=>rfl) (fun _=>rfl) (fun e v he hv=>⟨he.seq,he.kind,he.time,he.ver,he.arm,he.val,by first | exact he.client | (show v.length≤_;omega),by first | exact he.id | (show v.length≤_;omega),by first | exact he.name | (show v.length≤_;omega),by first | exact he.other | (show v.length≤_;omega)⟩) (fun c hc=>hc.s2) hR
  conv=>whnf
  apply ah<;>intro h
  ·have he:e≠0:=by simpa using h
   conv=>whnf
   exact aV (.bH [el [],iv (0:Nat),bv false]) 0 [] [] [] ⟨[],0,false,xw.no fun c r h1 h2 h3=>he (hstep.2 c r h1 h2 h3).1,rfl,rfl,rfl⟩ rfl trivial (by trivial)
  have he:e=0:=by simpa using h
  conv=>whnf
  apply ah<;>intro h
  ·have ht:t.length≠n:=by simp at h;omega
   conv=>whnf
   exact aV (.bH [el [],iv (0:Nat),bv false]) 0 [] [] [] ⟨[],0,false,xw.no fun c r h1 h2 h3=>ht (hstep.2 c r h1 h2 h3).2,rfl,rfl,rfl⟩ rfl trivial (by trivial)
  have ht:t.length=n:=by simp at h;omega
  obtain⟨hK1,hq⟩:=hstep.1 he ht
  have htl:t.length=l.length:=by omega
  clear hstep hR
  conv=>whnf
  refine lT.mk' q body.length rfl (by rw [List.length_map]) hq (by rw [List.length_map];exact Nat.le_refl _) ?_
  conv=>whnf
  refine bg yc 7 [85] (fun k:Nat=> [(85,iv k)]) (fun k=> [(6, .var 160 ((bZ.getD 1 []).map FV.up)),(5, .rows 160 2 bZ),(4, .rows 95 10 ((wz (fun e v=> {e with id:=v}) l t k).map jg))]) (fun k=>k≤l.length) (fun k=>l.length-k) [] [] 0 (by kernel_rfl) (fun _=>rfl) rfl (Nat.zero_le _) ⟨(by trivial),⟨rfl,rfl,rfl⟩,⟨rfl,rfl,by rw [jT]⟩,trivial⟩ ⟨rfl,trivial⟩ ?_
  intro k hk
  conv=>whnf
  refine ah (fun hb=> ?_) (fun hb=> ?_)
  ·have hlt:k<l.length:=by simp at hb;omega
   have hlt2:k<t.length:=by omega
   conv=>whnf
   (refine aP mW [] (by kernel_rfl) ?_;conv=>whnf)
   refine bC.mk' k rfl (by rw [List.length_map,mY _ _ _ _ htl];exact hlt) ?_
   conv=>whnf
   refine bC.mk' k rfl (fQ hlt2) ?_
   conv=>whnf
   refine aS.aA (List.getElem?_eq_getElem hlt2) ?_
   conv=>whnf
   (refine eX (by kernel_rfl) (au Tryz.func147 rfl mixed (by kernel_rfl) ?_);(conv=>whnf))
   refine jw (.ep 4 k 4) ?_ rfl ?_ ?_
   rotate_left 1
   ·trivial
   ·trivial
   conv=>whnf
   refine aS.aA (qP _ l t k hlt htl) ?_
   conv=>whnf
   refine aI.i64 (by omega) ?_
   conv=>whnf
   refine aF (k+1) [] [] rfl (by show l.length -(k+1)<l.length-k;omega) hlt ⟨(by trivial),⟨rfl,rfl,rfl⟩,⟨rfl,rfl, ?_⟩,trivial⟩ ⟨rfl,trivial⟩
   rw [←ng _ l t k hlt htl,List.map_set]
   rfl
  have hke:k=l.length:=by simp only [List.length_map,decide_eq_false_iff_not]at hb;omega
  subst hke
  rw [mZ _ l t htl]
  conv=>whnf
  refine bg yg 7 [13,103] (fun j:Nat=> [(13,bs (body.drop q)),(103,iv 0)]) (fun j=> [(5, .rows 160 2 bZ),(4, .rows 95 10 ((List.zipWith (fun e v=> {e with id:=v}) l t).map jg))]) (fun j=>j=0) (fun j=>j) [] [] 0 (by kernel_rfl) (fun _=>rfl) rfl rfl ⟨⟨rfl,rfl,rfl⟩,⟨rfl,rfl,rfl⟩,trivial⟩ ⟨⟨rfl,List.map_drop.symm⟩,rfl,trivial⟩ ?_
  intro j hj
  conv=>whnf
  refine aI.i64 (by dsimp only;omega) ?_
  conv=>whnf
  exact aF ⟨List.zipWith (fun e v=> {e with id:=v}) l t,body.drop q,1+1⟩ [] [] rfl (by show 4 -(1+1)<4-1;decide) ⟨(by show 1+1≤4;decide),hK1⟩ ⟨⟨rfl,rfl,rfl⟩,⟨rfl,rfl,rfl⟩,trivial⟩ ⟨⟨rfl,rfl⟩,rfl,trivial⟩
 ·conv=>whnf
  refine bC.mk' 2 rfl (by decide) ?_
  conv=>whnf
  refine aS.at rfl ?_
  conv=>whnf
  (refine aj [] (by kernel_rfl) (bD.up (oH body hbody) GS) ?_ ?_;(focus trivial))
  rintro _ _ _ ⟨t,q,e,hR,rfl,rfl,rfl⟩
  have hstep:=hK.txt (fun e v=> {e with name:=v}) (·.name) (fun _=>rfl) (fun _=>rfl) (fun e v he hv=>⟨he.seq,he.kind,he.time,he.ver,he.arm,he.val,by first | exact he.client | (show v.length≤_;omega),by first | exact he.id | (show v.length≤_;omega),by first | exact he.name | (show v.length≤_;omega),by first | exact he.other | (show v.length≤_;omega)⟩) (fun c hc=>hc.s3) hR
  conv=>whnf
  apply ah<;>intro h
  ·have he:e≠0:=by simpa using h
   conv=>whnf
   exact aV (.bH [el [],iv (0:Nat),bv false]) 0 [] [] [] ⟨[],0,false,xw.no fun c r h1 h2 h3=>he (hstep.2 c r h1 h2 h3).1,rfl,rfl,rfl⟩ rfl trivial (by trivial)
  have he:e=0:=by simpa using h
  conv=>whnf
  apply ah<;>intro h
  ·have ht:t.length≠n:=by simp at h;omega
   conv=>whnf
   exact aV (.bH [el [],iv (0:Nat),bv false]) 0 [] [] [] ⟨[],0,false,xw.no fun c r h1 h2 h3=>ht (hstep.2 c r h1 h2 h3).2,rfl,rfl,rfl⟩ rfl trivial (by trivial)
  have ht:t.length=n:=by simp at h;omega
  obtain⟨hK1,hq⟩:=hstep.1 he ht
  have htl:t.length=l.length:=by omega
  clear hstep hR
  conv=>whnf
  refine lT.mk' q body.length rfl (by rw [List.length_map]) hq (by rw [List.length_map];exact Nat.le_refl _) ?_
  conv=>whnf
  refine bg yc 7 [85] (fun k:Nat=> [(85,iv k)]) (fun k=> [(6, .var 160 ((bZ.getD 2 []).map FV.up)),(5, .rows 160 2 bZ),(4, .rows 95 10 ((wz (fun e v=> {e with name:=v}) l t k).map jg))]) (fun k=>k≤l.length) (fun k=>l.length-k) [] [] 0 (by kernel_rfl) (fun _=>rfl) rfl (Nat.zero_le _) ⟨(by trivial),⟨rfl,rfl,rfl⟩,⟨rfl,rfl,by rw [jT]⟩,trivial⟩ ⟨rfl,trivial⟩ ?_
  intro k hk
  conv=>whnf
  refine ah (fun hb=> ?_) (fun hb=> ?_)
  ·have hlt:k<l.length:=by simp at hb;omega
   have hlt2:k<t.length:=by omega
   conv=>whnf
   (refine aP mW [] (by kernel_rfl) ?_;conv=>whnf)
   refine bC.mk' k rfl (by rw [List.length_map,mY _ _ _ _ htl];exact hlt) ?_
   conv=>whnf
   refine bC.mk' k rfl (fQ hlt2) ?_
   conv=>whnf
   refine aS.aA (List.getElem?_eq_getElem hlt2) ?_
   conv=>whnf
   (refine eX (by kernel_rfl) (au Tryz.func148 rfl mixed (by kernel_rfl) ?_);(conv=>whnf))
   refine jw (.ep 4 k 5) ?_ rfl ?_ ?_
   rotate_left 1
   ·trivial
   ·trivial
   conv=>whnf
   refine aS.aA (qP _ l t k hlt htl) ?_
   conv=>whnf
   refine aI.i64 (by omega) ?_
   conv=>whnf
   refine aF (k+1) [] [] rfl (by show l.length -(k+1)<l.length-k;omega) hlt ⟨(by trivial),⟨rfl,rfl,rfl⟩,⟨rfl,rfl, ?_⟩,trivial⟩ ⟨rfl,trivial⟩
   rw [←ng _ l t k hlt htl,List.map_set]
   rfl
  have hke:k=l.length:=by simp only [List.length_map,decide_eq_false_iff_not]at hb;omega
  subst hke
  rw [mZ _ l t htl]
  conv=>whnf
  refine bg yg 7 [13,103] (fun j:Nat=> [(13,bs (body.drop q)),(103,iv 0)]) (fun j=> [(5, .rows 160 2 bZ),(4, .rows 95 10 ((List.zipWith (fun e v=> {e with name:=v}) l t).map jg))]) (fun j=>j=0) (fun j=>j) [] [] 0 (by kernel_rfl) (fun _=>rfl) rfl rfl ⟨⟨rfl,rfl,rfl⟩,⟨rfl,rfl,rfl⟩,trivial⟩ ⟨⟨rfl,List.map_drop.symm⟩,rfl,trivial⟩ ?_
  intro j hj
  conv=>whnf
  refine aI.i64 (by dsimp only;omega) ?_
  conv=>whnf
  exact aF ⟨List.zipWith (fun e v=> {e with name:=v}) l t,body.drop q,2+1⟩ [] [] rfl (by show 4 -(2+1)<4-2;decide) ⟨(by show 2+1≤4;decide),hK1⟩ ⟨⟨rfl,rfl,rfl⟩,⟨rfl,rfl,rfl⟩,trivial⟩ ⟨⟨rfl,rfl⟩,rfl,trivial⟩
 ·conv=>whnf
  refine bC.mk' 3 rfl (by decide) ?_
  conv=>whnf
  refine aS.at rfl ?_
  conv=>whnf
  (refine aj [] (by kernel_rfl) (bD.up (oH body hbody) GS) ?_ ?_;(focus trivial))
  rintro _ _ _ ⟨t,q,e,hR,rfl,rfl,rfl⟩
  have hstep:=hK.txt (fun e v=> {e with other:=v}) (·.other) (fun _=>rfl) (fun _=>rfl) (fun e v he hv=>⟨he.seq,he.kind,he.time,he.ver,he.arm,he.val,by first | exact he.client | (show v.length≤_;omega),by first | exact he.id | (show v.length≤_;omega),by first | exact he.name | (show v.length≤_;omega),by first | exact he.other | (show v.length≤_;omega)⟩) (fun c hc=>hc.s4) hR
  conv=>whnf
  apply ah<;>intro h
  ·have he:e≠0:=by simpa using h
   conv=>whnf
   exact aV (.bH [el [],iv (0:Nat),bv false]) 0 [] [] [] ⟨[],0,false,xw.no fun c r h1 h2 h3=>he (hstep.2 c r h1 h2 h3).1,rfl,rfl,rfl⟩ rfl trivial (by trivial)
  have he:e=0:=by simpa using h
  conv=>whnf
  apply ah<;>intro h
  ·have ht:t.length≠n:=by simp at h;omega
   conv=>whnf
   exact aV (.bH [el [],iv (0:Nat),bv false]) 0 [] [] [] ⟨[],0,false,xw.no fun c r h1 h2 h3=>ht (hstep.2 c r h1 h2 h3).2,rfl,rfl,rfl⟩ rfl trivial (by trivial)
  have ht:t.length=n:=by simp at h;omega
  obtain⟨hK1,hq⟩:=hstep.1 he ht
  have htl:t.length=l.length:=by omega
  clear hstep hR
  conv=>whnf
  refine lT.mk' q body.length rfl (by rw [List.length_map]) hq (by rw [List.length_map];exact Nat.le_refl _) ?_
  conv=>whnf
  refine bg yc 7 [85] (fun k:Nat=> [(85,iv k)]) (fun k=> [(6, .var 160 ((bZ.getD 3 []).map FV.up)),(5, .rows 160 2 bZ),(4, .rows 95 10 ((wz (fun e v=> {e with other:=v}) l t k).map jg))]) (fun k=>k≤l.length) (fun k=>l.length-k) [] [] 0 (by kernel_rfl) (fun _=>rfl) rfl (Nat.zero_le _) ⟨(by trivial),⟨rfl,rfl,rfl⟩,⟨rfl,rfl,by rw [jT]⟩,trivial⟩ ⟨rfl,trivial⟩ ?_
  intro k hk
  conv=>whnf
  refine ah (fun hb=> ?_) (fun hb=> ?_)
  ·have hlt:k<l.length:=by simp at hb;omega
   have hlt2:k<t.length:=by omega
   conv=>whnf
   (refine aP mW [] (by kernel_rfl) ?_;conv=>whnf)
   refine bC.mk' k rfl (by rw [List.length_map,mY _ _ _ _ htl];exact hlt) ?_
   conv=>whnf
   refine bC.mk' k rfl (fQ hlt2) ?_
   conv=>whnf
   refine aS.aA (List.getElem?_eq_getElem hlt2) ?_
   conv=>whnf
   (refine eX (by kernel_rfl) (au Tryz.func149 rfl mixed (by kernel_rfl) ?_);(conv=>whnf))
   refine jw (.ep 4 k 6) ?_ rfl ?_ ?_
   rotate_left 1
   ·trivial
   ·trivial
   conv=>whnf
   refine aS.aA (qP _ l t k hlt htl) ?_
   conv=>whnf
   refine aI.i64 (by omega) ?_
   conv=>whnf
   refine aF (k+1) [] [] rfl (by show l.length -(k+1)<l.length-k;omega) hlt ⟨(by trivial),⟨rfl,rfl,rfl⟩,⟨rfl,rfl, ?_⟩,trivial⟩ ⟨rfl,trivial⟩
   rw [←ng _ l t k hlt htl,List.map_set]
   rfl
  have hke:k=l.length:=by simp only [List.length_map,decide_eq_false_iff_not]at hb;omega
  subst hke
  rw [mZ _ l t htl]
  conv=>whnf
  refine bg yg 7 [13,103] (fun x:TR=> [(13,bs x.body),(103,iv x.i)]) (fun x=> [(6, .var 160 ((bZ.getD 3 []).map FV.up)),(5, .rows 160 2 bZ),(4, .rows 95 10 (x.l.map jg))]) (fun x=>x.i≤3∧KR b n (7+x.i) x.l x.body) (fun x=>3-x.i) [] [] ⟨_,body.drop q,0⟩ (by kernel_rfl) (fun _=>rfl) rfl ⟨Nat.zero_le _,hK1⟩ ⟨(by trivial),⟨rfl,rfl,rfl⟩,⟨rfl,rfl,rfl⟩,trivial⟩ ⟨⟨rfl,List.map_drop.symm⟩,rfl,trivial⟩ ?_
  clear hK1 hq htl ht he hK hbody hll
  rintro⟨l,body,j⟩ ⟨hj,hK⟩
  change j≤3 at hj
  change KR b n (7+j) l body at hK
  have hbody:=hK.sz
  have hll:=hK.len
  have hcj:j=0∨j=1∨j=2∨j=3:=by omega
  rcases hcj with rfl | rfl | rfl | rfl
  ·conv=>whnf
   refine bC.mk' 0 rfl (by decide) ?_
   conv=>whnf
   refine aS.at rfl ?_
   conv=>whnf
   (refine aj [] (by kernel_rfl) (bD.up (jP body hbody) GS) ?_ ?_;(focus trivial))
   rintro _ _ _ ⟨t,q,e,hR,rfl,rfl,rfl⟩
   have hstep:=hK.num (fun e v=> {e with ver:=v}) (·.ver) (fun _=>rfl) (fun _=>rfl) (fun e v he hv=>⟨by first | exact he.seq | exact hv,by first | exact he.kind | exact hv,by first | exact he.time | exact hv,by first | exact he.ver | exact hv,by first | exact he.arm | exact hv,by first | exact he.val | exact hv,he.client,he.id,he.name,he.other⟩) (fun c hc e he=>(hc.ok e he).ver) hR
   conv=>whnf
   apply ah<;>intro h
   ·have he:e≠0:=by simpa using h
    conv=>whnf
    exact aV (.bH [el [],iv (0:Nat),bv false]) 0 [] [] [] ⟨[],0,false,xw.no fun c r h1 h2 h3=>he (hstep.2 c r h1 h2 h3).1,rfl,rfl,rfl⟩ rfl trivial (by trivial)
   have he:e=0:=by simpa using h
   conv=>whnf
   apply ah<;>intro h
   ·have ht:t.length≠n:=by simp at h;omega
    conv=>whnf
    exact aV (.bH [el [],iv (0:Nat),bv false]) 0 [] [] [] ⟨[],0,false,xw.no fun c r h1 h2 h3=>ht (hstep.2 c r h1 h2 h3).2,rfl,rfl,rfl⟩ rfl trivial (by trivial)
   have ht:t.length=n:=by simp at h;omega
   obtain⟨hK1,hq⟩:=hstep.1 he ht
   have htl:t.length=l.length:=by omega
   clear hstep hR
   conv=>whnf
   refine lT.mk' q body.length rfl (by rw [List.length_map]) hq (by rw [List.length_map];exact Nat.le_refl _) ?_
   conv=>whnf
   refine bg qm 7 [126] (fun k:Nat=> [(126,iv k)]) (fun k=> [(6, .var 160 ((bZ.getD 3 []).map FV.up)),(5, .rows 160 2 bZ),(4, .rows 95 10 ((wz (fun e v=> {e with ver:=v}) l t k).map jg))]) (fun k=>k≤l.length) (fun k=>l.length-k) [] [] 0 (by kernel_rfl) (fun _=>rfl) rfl (Nat.zero_le _) ⟨(by trivial),⟨rfl,rfl,rfl⟩,⟨rfl,rfl,by rw [jT]⟩,trivial⟩ ⟨rfl,trivial⟩ ?_
   intro k hk
   conv=>whnf
   refine ah (fun hb=> ?_) (fun hb=> ?_)
   ·have hlt:k<l.length:=by simp at hb;omega
    have hlt2:k<t.length:=by omega
    conv=>whnf
    (refine aP mW [] (by kernel_rfl) ?_;conv=>whnf)
    refine bC.mk' k rfl (by rw [List.length_map,mY _ _ _ _ htl];exact hlt) ?_
    conv=>whnf
    refine bC.mk' k rfl (fQ hlt2) ?_
    conv=>whnf
    refine aS.aA (List.getElem?_eq_getElem hlt2) ?_
    conv=>whnf
    (refine eX (by kernel_rfl) (au Tryz.func150 rfl mixed (by kernel_rfl) ?_);(conv=>whnf))
    refine jw (.ep 4 k 7) ?_ rfl ?_ ?_
    rotate_left 1
    ·trivial
    ·trivial
    conv=>whnf
    refine aS.aA (qP _ l t k hlt htl) ?_
    conv=>whnf
    refine aI.i64 (by omega) ?_
    conv=>whnf
    refine aF (k+1) [] [] rfl (by show l.length -(k+1)<l.length-k;omega) hlt ⟨(by trivial),⟨rfl,rfl,rfl⟩,⟨rfl,rfl, ?_⟩,trivial⟩ ⟨rfl,trivial⟩
    rw [←ng _ l t k hlt htl,List.map_set]
    rfl
   have hke:k=l.length:=by simp only [List.length_map,decide_eq_false_iff_not]at hb;omega
   subst hke
   rw [mZ _ l t htl]
   conv=>whnf
   refine aI.i64 (by dsimp only;omega) ?_
   conv=>whnf
   exact aF ⟨_,body.drop q,0+1⟩ [] [] rfl (by show 3 -(0+1)<3-0;decide) ⟨(by show 0+1≤3;decide),hK1⟩ ⟨(by trivial),⟨rfl,rfl,rfl⟩,⟨rfl,rfl,rfl⟩,trivial⟩ ⟨⟨rfl,List.map_drop.symm⟩,rfl,trivial⟩
  ·conv=>whnf
   refine bC.mk' 1 rfl (by decide) ?_
   conv=>whnf
   refine aS.at rfl ?_
   conv=>whnf
   (refine aj [] (by kernel_rfl) (bD.up (jP body hbody) GS) ?_ ?_;(focus trivial))
   rintro _ _ _ ⟨t,q,e,hR,rfl,rfl,rfl⟩
   have hstep:=hK.num (fun e v=> {e with arm:=v}) (·.arm) (fun _=>rfl) (fun _=>rfl) (fun e v he hv=>⟨by first | exact he.seq | exact hv,by first | exact he.kind | exact hv,by first | exact he.time | exact hv,by first | exact he.ver | exact hv,by first | exact he.arm | exact hv,by first | exact he.val | exact hv,he.client,he.id,he.name,he.other⟩) (fun c hc e he=>(hc.ok e he).arm) hR
   conv=>whnf
   apply ah<;>intro h
   ·have he:e≠0:=by simpa using h
    conv=>whnf
    exact aV (.bH [el [],iv (0:Nat),bv false]) 0 [] [] [] ⟨[],0,false,xw.no fun c r h1 h2 h3=>he (hstep.2 c r h1 h2 h3).1,rfl,rfl,rfl⟩ rfl trivial (by trivial)
   have he:e=0:=by simpa using h
   conv=>whnf
   apply ah<;>intro h
   ·have ht:t.length≠n:=by simp at h;omega
    conv=>whnf
    exact aV (.bH [el [],iv (0:Nat),bv false]) 0 [] [] [] ⟨[],0,false,xw.no fun c r h1 h2 h3=>ht (hstep.2 c r h1 h2 h3).2,rfl,rfl,rfl⟩ rfl trivial (by trivial)
   have ht:t.length=n:=by simp at h;omega
   obtain⟨hK1,hq⟩:=hstep.1 he ht
   have htl:t.length=l.length:=by omega
   clear hstep hR
   conv=>whnf
   refine lT.mk' q body.length rfl (by rw [List.length_map]) hq (by rw [List.length_map];exact Nat.le_refl _) ?_
   conv=>whnf
   refine bg qm 7 [126] (fun k:Nat=> [(126,iv k)]) (fun k=> [(6, .var 160 ((bZ.getD 3 []).map FV.up)),(5, .rows 160 2 bZ),(4, .rows 95 10 ((wz (fun e v=> {e with arm:=v}) l t k).map jg))]) (fun k=>k≤l.length) (fun k=>l.length-k) [] [] 0 (by kernel_rfl) (fun _=>rfl) rfl (Nat.zero_le _) ⟨(by trivial),⟨rfl,rfl,rfl⟩,⟨rfl,rfl,by rw [jT]⟩,trivial⟩ ⟨rfl,trivial⟩ ?_
   intro k hk
   conv=>whnf
   refine ah (fun hb=> ?_) (fun hb=> ?_)
   ·have hlt:k<l.length:=by simp at hb;omega
    have hlt2:k<t.length:=by omega
    conv=>whnf
    (refine aP mW [] (by kernel_rfl) ?_;conv=>whnf)
    refine bC.mk' k rfl (by rw [List.length_map,mY _ _ _ _ htl];exact hlt) ?_
    conv=>whnf
    refine bC.mk' k rfl (fQ hlt2) ?_
    conv=>whnf
    refine aS.aA (List.getElem?_eq_getElem hlt2) ?_
    conv=>whnf
    (refine eX (by kernel_rfl) (au Tryz.func151 rfl mixed (by kernel_rfl) ?_);(conv=>whnf))
    refine jw (.ep 4 k 8) ?_ rfl ?_ ?_
    rotate_left 1
    ·trivial
    ·trivial
    conv=>whnf
    refine aS.aA (qP _ l t k hlt htl) ?_
    conv=>whnf
    refine aI.i64 (by omega) ?_
    conv=>whnf
    refine aF (k+1) [] [] rfl (by show l.length -(k+1)<l.length-k;omega) hlt ⟨(by trivial),⟨rfl,rfl,rfl⟩,⟨rfl,rfl, ?_⟩,trivial⟩ ⟨rfl,trivial⟩
    rw [←ng _ l t k hlt htl,List.map_set]
    rfl
   have hke:k=l.length:=by simp only [List.length_map,decide_eq_false_iff_not]at hb;omega
   subst hke
   rw [mZ _ l t htl]
   conv=>whnf
   refine aI.i64 (by dsimp only;omega) ?_
   conv=>whnf
   exact aF ⟨_,body.drop q,1+1⟩ [] [] rfl (by show 3 -(1+1)<3-1;decide) ⟨(by show 1+1≤3;decide),hK1⟩ ⟨(by trivial),⟨rfl,rfl,rfl⟩,⟨rfl,rfl,rfl⟩,trivial⟩ ⟨⟨rfl,List.map_drop.symm⟩,rfl,trivial⟩
  ·conv=>whnf
   refine bC.mk' 2 rfl (by decide) ?_
   conv=>whnf
   refine aS.at rfl ?_
   conv=>whnf
   (refine aj [] (by kernel_rfl) (bD.up (jP body hbody) GS) ?_ ?_;(focus trivial))
   rintro _ _ _ ⟨t,q,e,hR,rfl,rfl,rfl⟩
   have hstep:=hK.num (fun e v=> {e with val:=v}) (·.val) (fun _=>rfl) (fun _=>rfl) (fun e v he hv=>⟨by first | exact he.seq | exact hv,by first | exact he.kind | exact hv,by first | exact he.time | exact hv,by first | exact he.ver | exact hv,by first | exact he.arm | exact hv,by first | exact he.val | exact hv,he.client,he.id,he.name,he.other⟩) (fun c hc e he=>(hc.ok e he).val) hR
   conv=>whnf
   apply ah<;>intro h
   ·have he:e≠0:=by simpa using h
    conv=>whnf
    exact aV (.bH [el [],iv (0:Nat),bv false]) 0 [] [] [] ⟨[],0,false,xw.no fun c r h1 h2 h3=>he (hstep.2 c r h1 h2 h3).1,rfl,rfl,rfl⟩ rfl trivial (by trivial)
   have he:e=0:=by simpa using h
   conv=>whnf
   apply ah<;>intro h
   ·have ht:t.length≠n:=by simp at h;omega
    conv=>whnf
    exact aV (.bH [el [],iv (0:Nat),bv false]) 0 [] [] [] ⟨[],0,false,xw.no fun c r h1 h2 h3=>ht (hstep.2 c r h1 h2 h3).2,rfl,rfl,rfl⟩ rfl trivial (by trivial)
   have ht:t.length=n:=by simp at h;omega
   obtain⟨hK1,hq⟩:=hstep.1 he ht
   have htl:t.length=l.length:=by omega
   clear hstep hR
   conv=>whnf
   refine lT.mk' q body.length rfl (by rw [List.length_map]) hq (by rw [List.length_map];exact Nat.le_refl _) ?_
   conv=>whnf
   refine bg qm 7 [126] (fun k:Nat=> [(126,iv k)]) (fun k=> [(6, .var 160 ((bZ.getD 3 []).map FV.up)),(5, .rows 160 2 bZ),(4, .rows 95 10 ((wz (fun e v=> {e with val:=v}) l t k).map jg))]) (fun k=>k≤l.length) (fun k=>l.length-k) [] [] 0 (by kernel_rfl) (fun _=>rfl) rfl (Nat.zero_le _) ⟨(by trivial),⟨rfl,rfl,rfl⟩,⟨rfl,rfl,by rw [jT]⟩,trivial⟩ ⟨rfl,trivial⟩ ?_
   intro k hk
   conv=>whnf
   refine ah (fun hb=> ?_) (fun hb=> ?_)
   ·have hlt:k<l.length:=by simp at hb;omega
    have hlt2:k<t.length:=by omega
    conv=>whnf
    (refine aP mW [] (by kernel_rfl) ?_;conv=>whnf)
    refine bC.mk' k rfl (by rw [List.length_map,mY _ _ _ _ htl];exact hlt) ?_
    conv=>whnf
    refine bC.mk' k rfl (fQ hlt2) ?_
    conv=>whnf
    refine aS.aA (List.getElem?_eq_getElem hlt2) ?_
    conv=>whnf
    (refine eX (by kernel_rfl) (au Tryz.func152 rfl mixed (by kernel_rfl) ?_);(conv=>whnf))
    refine jw (.ep 4 k 9) ?_ rfl ?_ ?_
    rotate_left 1
    ·trivial
    ·trivial
    conv=>whnf
    refine aS.aA (qP _ l t k hlt htl) ?_
    conv=>whnf
    refine aI.i64 (by omega) ?_
    conv=>whnf
    refine aF (k+1) [] [] rfl (by show l.length -(k+1)<l.length-k;omega) hlt ⟨(by trivial),⟨rfl,rfl,rfl⟩,⟨rfl,rfl, ?_⟩,trivial⟩ ⟨rfl,trivial⟩
    rw [←ng _ l t k hlt htl,List.map_set]
    rfl
   have hke:k=l.length:=by simp only [List.length_map,decide_eq_false_iff_not]at hb;omega
   subst hke
   rw [mZ _ l t htl]
   conv=>whnf
   refine aI.i64 (by dsimp only;omega) ?_
   conv=>whnf
   exact aF ⟨_,body.drop q,2+1⟩ [] [] rfl (by show 3 -(2+1)<3-2;decide) ⟨(by show 2+1≤3;decide),hK1⟩ ⟨(by trivial),⟨rfl,rfl,rfl⟩,⟨rfl,rfl,rfl⟩,trivial⟩ ⟨⟨rfl,List.map_drop.symm⟩,rfl,trivial⟩
  ·conv=>whnf
   refine aI.i64 (by dsimp only;omega) ?_
   conv=>whnf
   exact aF ⟨l,body,4⟩ [] [] rfl (by show 4-4<4-3;decide) ⟨(by show 4≤4;decide),hK⟩ ⟨⟨rfl,rfl,rfl⟩,⟨rfl,rfl,rfl⟩,trivial⟩ ⟨⟨rfl,rfl⟩,rfl,trivial⟩
 ·conv=>whnf
  refine aI.i64 (by simp only [List.length_map];omega) ?_
  conv=>whnf
  refine aV (.bH [el l,iv ((hd.length+sz:Nat):Int),bv true]) 0 [] [] [4] ⟨l,hd.length+sz,true,⟨fun _=>⟨hK.len,hK.ok,by omega⟩,fun h=>(by cases h),fun c r h1 h2 h3=> ?_⟩,rfl,rfl,rfl⟩ rfl trivial ⟨⟨rfl,rfl,rfl⟩, ?_,rfl,trivial⟩
  ·obtain⟨f1,f2,_⟩:=J3 c r h1 h2 h3
   refine⟨rfl, ?_, ?_⟩
   ·rw [(hK.full c r h1 h2 h3).1]
    show c.map (mg 10)=c
    rw [show mg 10=fun x=>x from rfl,List.map_id']
   ·rw [f2,List.length_append,f1]
  ·refine Eb ?_
   rw [List.length_map]
   rfl
end
section
attribute [local irreducible] best ints en bd ji dsT
def GT3 (b:By)(Q:List Ev→Prop):Prop:= ∀l0:List Ev,(∀e∈l0,e.ok)→kD l0=0→b=tab l0→Q l0
theorem pO {l:List Ev}(h:kD l=0):l.length≤512∧kL l=0:=by
 unfold kD at h
 split at h
 ·omega
 ·exact⟨by omega,h⟩
def AB (b:By)(l:List Ev)(e:Int):Prop:=(∀x∈l,x.ok)∧l.length≤512∧((e=0∧kD l=0∧tab l=b)∨(e=1∧l = []))∧GT3 b fun l0=>e=0∧l=l0
theorem AB.no {b:By}(h:GT3 b fun _=>False):AB b [] 1:=⟨fun _ h=>(by cases h),Nat.zero_le _, .inr ⟨rfl,rfl⟩,fun l0 h1 h2 h3=>(h l0 h1 h2 h3).elim⟩
theorem AB.two {b:By}{l l':List Ev}{e e':Int}(h:AB b l e)(h':AB b l' e'):l=l'∧e=e':=by
 obtain⟨a1,a2,a3,a4⟩:=h
 obtain⟨b1,b2,b3,b4⟩:=h'
 rcases a3 with ⟨rfl,p1,p2⟩ | ⟨rfl,rfl⟩
 ·have:=b4 l a1 p1 p2.symm
  exact⟨this.2.symm,this.1.symm⟩
 ·rcases b3 with ⟨rfl,p1,p2⟩ | ⟨rfl,rfl⟩
  ·have:=a4 l' b1 p1 p2.symm
   omega
  ·exact⟨rfl,rfl⟩
structure KT (b:By)(n:Nat)(l:List Ev)(at_:Nat):Prop where
 len:l.length≤n
 ok : ∀e∈l,e.ok
 atl:at_≤b.length
 full:GT3 b fun l0=>n=l0.length∧∃i,i≤nC l0∧l=l0.take (16*i)∧b.drop at_=((List.range (nC l0)).drop i).flatMap fun j=>wG (ch l0 j)
theorem KT.step {b:By}{n:Nat}{l:List Ev}{at_:Nat}(h:KT b n l at_)(hlt:l.length<n){c:List Ev}{k:Nat}{ok:Bool}(hR:xw (b.drop at_) (min 16 (n-l.length)) c k ok) :
  (ok=true→KT b n (l++c) (at_+k)∧0<c.length)∧GT3 b fun _=>ok=true:=by
 have key:GT3 b fun l0=>ok=true∧∃i,i+1≤nC l0∧l++c=l0.take (16*(i+1))∧b.drop (at_+k)=((List.range (nC l0)).drop (i+1)).flatMap fun j=>wG (ch l0 j):=fun l0 h1 h2 h3=>by
  obtain⟨q1,i,q2,q3,q4⟩:=h.full l0 h1 h2 h3
  have hl:l.length=min (16*i) l0.length:=by rw [q3,List.length_take]
  have hi:16*i<l0.length:=by omega
  have hic:i<nC l0:=by unfold nC;omega
  have XP:=JY h1 (AA (pO h2).2) hic
  have hcl:(ch l0 i).length=min 16 (n-l.length):=by unfold ch;rw [List.length_take,List.length_drop];omega
  have hd:(List.range (nC l0)).drop i=i::(List.range (nC l0)).drop (i+1):=by
   rw [List.drop_eq_getElem_cons (by rw [List.length_range];exact hic),List.getElem_range]
  rw [hd,List.flatMap_cons]at q4
  obtain⟨f1,f2,f3⟩:=hR.full _ _ XP hcl q4
  refine⟨f1,i,hic, ?_, ?_⟩
  ·rw [f2,q3,show 16*(i+1)=16*i+16 by omega,List.take_add];rfl
  ·rw [←List.drop_drop,q4,f3,List.drop_left' rfl]
 refine⟨fun hk=> ?_,fun l0 h1 h2 h3=>(key l0 h1 h2 h3).1⟩
 obtain⟨g1,g2,g3⟩:=hR.good hk
 have ha:=h.atl
 rw [List.length_drop]at g3
 refine⟨⟨by rw [List.length_append];omega,fun e he=> ?_,by omega,fun l0 h1 h2 h3=>⟨(h.full l0 h1 h2 h3).1, ?_⟩⟩,by omega⟩
 ·rcases List.mem_append.1 he with he | he
  ·exact h.ok e he
  ·exact g2 e he
 ·obtain⟨_,i,r1,r2,r3⟩:=key l0 h1 h2 h3
  exact⟨i+1,r1,r2,r3⟩
theorem KT.fin {b:By}{n:Nat}{l:List Ev}{at_:Nat}(h:KT b n l at_)(he:l.length=n):GT3 b fun l0=>l=l0:=fun l0 h1 h2 h3=>by
 obtain⟨q1,i,q2,q3,_⟩:=h.full l0 h1 h2 h3
 have hl:l.length=min (16*i) l0.length:=by rw [q3,List.length_take]
 rw [q3,List.take_of_length_le (by omega)]
structure TS where
 l:List Ev
 a:Nat
def aeI (b:By)(a:AV)(m:Nat)(H:ak):Prop:= ∃l e,AB b l e∧a = .bH [el l,iv e]∧m=0∧H = []
theorem AL (b:By)(hb:b.length≤100000):bD Tryz.prog GS 79 [bs b] 0 [] (aeI b):=by
 have hC:=bD.up (wF b 0 512 (by omega) (by decide)) GS
 have hr:=kT b 0 512 5 (by decide) (by decide)
 have ho:=jv b 0
 have hhead:GT3 b fun l0=>(iT b 0 512 5).2.2=0∧(iT b 0 512 5).1=(l0.length:Int):=fun l0 h1 h2 h3=>by
  have hl:=(pO h2).1
  have r1:=JH (b:=b) (e:=0) (bW (by omega:l0.length≤9223372036854775807)) rfl h3
  have:=ED (em:=5) (most:=512) r1.1 r1.2.1 (by omega)
  rw [this]
  exact⟨rfl,rfl⟩
 generalize iT b 0 512 5=t at *
 obtain⟨x,k,e⟩:=t
 simp only at hC hr hhead
 obtain⟨n,rfl⟩ : ∃n:Nat,x=(n:Int):=⟨x.toNat,by omega⟩
 have hn:n≤512:=by omega
 refine au Tryz.func79 rfl mixed (by kernel_rfl) ?_
 conv=>whnf
 (refine aj [] (by kernel_rfl) (bD.up (Ew b (by omega)) GS) ?_ ?_;(focus trivial))
 rintro _ _ _ ⟨rfl,rfl,rfl⟩
 conv=>whnf
 refine aH [0] [] (by kernel_rfl) hC rfl (by trivial) (by trivial) ?_
 rintro _ _ _ ⟨rfl,rfl,rfl⟩
 refine⟨rfl, ?_⟩
 conv=>whnf
 refine aH [0] [] (by kernel_rfl) (bD.up (tH (b.drop k) e) GS) rfl (by trivial) (by trivial) ?_
 rintro _ _ _ ⟨rfl,rfl,rfl⟩
 refine⟨rfl, ?_⟩
 conv=>whnf
 apply ah<;>intro h
 ·have he:e≠0:=by simpa using h
  conv=>whnf
  exact aV (.bH [el [],iv 1]) 0 [] [] [] ⟨[],1,AB.no fun l0 h1 h2 h3=>he (hhead l0 h1 h2 h3).1,rfl,rfl,rfl⟩ rfl trivial (by trivial)
 have he:e=0:=by simpa using h
 subst he
 obtain⟨hr1,hr2⟩:=hr.2.2.2 rfl
 obtain⟨_,hbe,hke⟩:=ho.2.2.1 hr1
 rw [←hr2]at hbe hke
 have hk0:KT b n [] (num (n:Int)).length:=by
  refine⟨Nat.zero_le _,fun _ h=>(by cases h), ?_,fun l0 h1 h2 h3=> ?_⟩
  ·have:=congrArg List.length hbe
   rw [List.length_append]at this
   omega
  ·have hnl:n=l0.length:=by have:=(hhead l0 h1 h2 h3).2;omega
   refine⟨hnl,0,Nat.zero_le _,by simp, ?_⟩
   rw [h3]
   unfold tab Az
   rw [hnl,List.drop_left' rfl,List.drop_zero]
 have n1:=(bF (n:Int)).2
 conv=>whnf
 (refine aj [] (by kernel_rfl) (bD.up (iD [] (n:Int) (bW (by omega)) (by simp)) GS) ?_ ?_;(focus trivial))
 rintro _ _ _ ⟨rfl,rfl,rfl⟩
 conv=>whnf
 refine bg ZQ 3 [6,7] (fun x:TS=> [(6,iv x.a),(7, .own 2)]) (fun x=> [(2, .rows 95 10 (x.l.map jg))]) (fun x=>KT b n x.l x.a) (fun x=>n-x.l.length) [(2, .nil)] [] ⟨[],(num (n:Int)).length⟩ (by kernel_rfl) (fun _=>rfl) rfl hk0 ⟨rfl,trivial⟩ ⟨congrArg (fun n:Nat=>Value.int .i64 (n:Int)) (by simp),trivial,trivial⟩ ?_
 rintro⟨l,at_⟩ hK
 change KT b n l at_ at hK
 have hat:=hK.atl
 have hle:=hK.len
 conv=>whnf
 apply ah<;>intro h
 ·have hlt:l.length<n:=by simp at h;omega
  conv=>whnf
  refine lT.mk' at_ b.length rfl (by rw [List.length_map]) hat (by rw [List.length_map];exact Nat.le_refl _) ?_
  conv=>whnf
  refine aI.to (y:=((n-l.length:Nat):Int)) (by rw [List.length_map];dsimp only;rw [IntWalk.i64_in _ (by omega)];omega) ?_
  conv=>whnf
  have hmin:min (16:Int) ((n-l.length:Nat):Int)=((min 16 (n-l.length):Nat):Int):=by omega
  rw [hmin]
  have hcut:(b.map dW).drop at_=(b.drop at_).map dW:=List.map_drop.symm
  refine aj [] (by kernel_rfl) (JZ (b.drop at_) (min 16 (n-l.length)) (gJ hb) (by omega)) ⟨⟨rfl,hcut⟩,rfl,trivial⟩ ?_
  rintro _ _ _ ⟨c,q,ok,hR,rfl,rfl,rfl⟩
  obtain⟨hs1,hs2⟩:=hK.step hlt hR
  conv=>whnf
  cases ok
  ·conv=>whnf
   exact aV (.bH [el [],iv 1]) 0 [] [] [] ⟨[],1,AB.no (fun l0 h1 h2 h3=>Bool.false_ne_true (hs2 l0 h1 h2 h3)),rfl,rfl,rfl⟩ rfl trivial (by trivial)
  obtain⟨hK1,hc0⟩:=hs1 rfl
  have hl1:=hK1.len
  rw [List.length_append]at hl1
  have hq:=hK1.atl
  conv=>whnf
  refine ay.mk (C9 (by simp only [List.length_map];omega)) ?_
  conv=>whnf
  refine aI.i64 (by dsimp only;omega) ?_
  conv=>whnf
  exact aF ⟨l++c,at_+q⟩ [(2, .lab 3)] [] rfl (by show n -(l++c).length<n-l.length;rw [List.length_append];omega) hK1 ⟨⟨rfl,rfl,List.map_append.symm⟩,trivial⟩ ⟨rfl,rfl,trivial⟩
 have hln:l.length=n:=by simp at h;omega
 have hfin:=hK.fin hln
 have hT:=tX l hK.ok (by omega)
 have hq:=bD.up (equalA (Ir l) b) GS
 conv=>whnf
 (refine aj [2] (by kernel_rfl) (hT) ?_ ?_;(focus trivial))
 rintro _ _ _ ⟨rfl,rfl,rfl⟩
 conv=>whnf
 apply ah<;>intro h
 ·have he:kD l≠0:=by simpa using h
  conv=>whnf
  exact aV (.bH [el [],iv 1]) 0 [] [] [] ⟨[],1,AB.no fun l0 h1 h2 h3=>he (by rw [hfin l0 h1 h2 h3];exact h2),rfl,rfl,rfl⟩ rfl trivial (by trivial)
 have he:kD l=0:=by simpa using h
 have etb:Ir l=tab l:=by unfold Ir;rw [if_pos he]
 rw [etb]at hq ⊢
 conv=>whnf
 (refine bf [] (by kernel_rfl) (hq) rfl ?_ ?_;(focus trivial))
 conv=>whnf
 apply ah<;>intro h
 ·have hp : ¬tab l=b:=by simpa using h
  conv=>whnf
  exact aV (.bH [el [],iv 1]) 0 [] [] [] ⟨[],1,AB.no fun l0 h1 h2 h3=>hp (by rw [hfin l0 h1 h2 h3];exact h3.symm),rfl,rfl,rfl⟩ rfl trivial (by trivial)
 ·have hp:tab l=b:=by simpa using h
  conv=>whnf
  exact aV (.bH [el l,iv 0]) 0 [] [] [] ⟨l,0,⟨hK.ok,by omega, .inl ⟨rfl,he,hp⟩,fun l0 h1 h2 h3=>⟨rfl,hfin l0 h1 h2 h3⟩⟩,rfl,rfl,rfl⟩ rfl trivial ⟨⟨rfl,rfl⟩,rfl,trivial⟩
end
structure Dk where
 now:List By
 safe:List By
 fuse:Int
 ops:Int
 dead:Bool
def Dk.zero:Dk:=⟨[],[],0,0,false⟩
def OB (l:List By):Prop:= ∀s∈l,s.length=64
structure Dk.ok (d:Dk):Prop where
 ev:d.now.length%2=0
 lo:8≤d.now.length
 hi:d.now.length≤256
 sf:d.safe.length=d.now.length
 fs : -1≤d.fuse∧d.fuse≤9223372036854775807
 op:0≤d.ops∧d.ops≤4611686018427387904
 n64:OB d.now
 f64:OB d.safe
def Dk.dying (d:Dk):Dk:= {d with dead:=true}
def Dk.tick (d:Dk):Dk:= {d with fuse:=if 0<d.fuse then d.fuse-1 else d.fuse,ops:=min (d.ops+1) 4611686018427387904}
def Dk.put (d:Dk)(n:Nat)(b:By):Dk:= {d.tick with now:=d.now.set n b}
def Dk.flush (d:Dk):Dk:= {d.tick with safe:=d.now}
theorem XQ {l:List By}{n:Nat}{b:By}(h:OB l)(hb:b.length=64):OB (l.set n b):=fun s hs=>by
 rcases List.mem_or_eq_of_mem_set hs with h1 | h1
 ·exact h s h1
 ·rw [h1];exact hb
theorem Dk.ok.tick {d:Dk}(h:d.ok):d.tick.ok:=by
 obtain⟨h1,h2,h3,h4,h5,h6,h7,h8⟩:=h
 refine⟨h1,h2,h3,h4, ?_, ?_,h7,h8⟩
 ·show -1≤(if 0<d.fuse then d.fuse-1 else d.fuse)∧(if 0<d.fuse then d.fuse-1 else d.fuse)≤9223372036854775807
  split<;>omega
 ·show 0≤min (d.ops+1) 4611686018427387904∧min (d.ops+1) 4611686018427387904≤4611686018427387904
  omega
theorem Dk.ok.dying {d:Dk}(h:d.ok):d.dying.ok:=⟨h.ev,h.lo,h.hi,h.sf,h.fs,h.op,h.n64,h.f64⟩
theorem Dk.ok.put {d:Dk}(h:d.ok){n:Nat}{b:By}(hb:b.length=64):(d.put n b).ok:=by
 obtain⟨h1,h2,h3,h4,h5,h6,h7,h8⟩:=h.tick
 refine⟨?_, ?_, ?_, ?_,h5,h6,XQ h.n64 hb,h8⟩
 ·show (d.now.set n b).length%2=0;rw [List.length_set];exact h1
 ·show 8≤(d.now.set n b).length;rw [List.length_set];exact h2
 ·show (d.now.set n b).length≤256;rw [List.length_set];exact h3
 ·show d.safe.length=(d.now.set n b).length;rw [List.length_set];exact h4
theorem Dk.ok.flush {d:Dk}(h:d.ok):d.flush.ok:=by
 obtain⟨h1,h2,h3,h4,h5,h6,h7,h8⟩:=h.tick
 exact⟨h1,h2,h3,rfl,h5,h6,h7,h7⟩
def rJ (d:Dk)(at_:Nat)(l:List By):Dk×Int:=
 match l with
 | []=>if d.dead then(d,40)else if d.fuse=0 then(d.dying,40)else(d.flush,0)
 | s::r=>if d.dead then(d,40)else if d.fuse=0 then(d.dying,40)else rJ (d.put at_ s) (at_+1) r
theorem EH : ∀ {l:List By} {d:Dk} {at_:Nat},d.ok→OB l→(rJ d at_ l).1.ok∧(rJ d at_ l).1.now.length=d.now.length∧((rJ d at_ l).2=0∨((rJ d at_ l).2=40∧(rJ d at_ l).1.dead=true)):=by
 intro l
 induction l with
 | nil=>
  intro d at_ h _
  unfold rJ
  cases hd:d.dead with
  | true=>exact⟨h,rfl, .inr ⟨rfl,hd⟩⟩
  | false=>
   rw [if_neg (by decide)]
   split
   ·exact⟨h.dying,rfl, .inr ⟨rfl,rfl⟩⟩
   ·exact⟨h.flush,rfl, .inl rfl⟩
 | cons s r ih=>
  intro d at_ h hl
  unfold rJ
  cases hd:d.dead with
  | true=>exact⟨h,rfl, .inr ⟨rfl,hd⟩⟩
  | false=>
   rw [if_neg (by decide)]
   split
   ·exact⟨h.dying,rfl, .inr ⟨rfl,rfl⟩⟩
   ·have:=ih (d:=d.put at_ s) (at_:=at_+1) (h.put (hl s (List.mem_cons_self ..))) fun x hx=>hl x (List.mem_cons_of_mem _ hx)
    refine⟨this.1,this.2.1.trans ?_,this.2.2⟩
    show (d.now.set at_ s).length=d.now.length
    rw [List.length_set]
structure So where
 d:Dk
 gen:Int
 half:Int
 next:Int
 frame:Int
 ev:List Ev
def So.zero:So:=⟨Dk.zero,0,0,0,0,[]⟩
def So.jA (d:Dk):So:= {So.zero with d:=d}
def ni (a:Int)(l:List By):Int:=l.foldl (fun a s=>if kC s then max a (hG s:Int)else a) a
theorem J4 {l:List By}{a:Int} : a≤ni a l:=by
 unfold ni
 induction l generalizing a with
 | nil=>exact Int.le_refl _
 | cons s r ih=>
  rw [List.foldl_cons]
  refine Int.le_trans ?_ ih
  split
  ·exact Int.le_max_left _ _
  ·exact Int.le_refl _
theorem XR {l:List By}{a:Int}{s:By}(hs:s∈l)(h:kC s=true):(hG s:Int)≤ni a l:=by
 induction l generalizing a with
 | nil=>cases hs
 | cons x r ih=>
  unfold ni
  rw [List.foldl_cons]
  rcases List.mem_cons.1 hs with rfl | hs
  ·rw [if_pos h]
   exact Int.le_trans (Int.le_max_right _ _) J4
  ·exact ih hs
theorem aa2 {l:List By}{a:Int}(h:a≤4294967295):ni a l≤4294967295:=by
 unfold ni
 induction l generalizing a with
 | nil=>exact h
 | cons s r ih=>
  rw [List.foldl_cons]
  refine ih ?_
  have:=Tc s
  split
  ·omega
  ·exact h
def lV (s:So):So×Int:=
 if kJ (ni s.gen s.d.now+1) 0 (tab s.ev)≠0∨s.d.now.length/2<nS (tab s.ev)then(So.zero,19)
 else if(rJ s.d ((1-s.half).toNat*(s.d.now.length/2)) (qO (ni s.gen s.d.now+1) 0 (tab s.ev))).2≠0 then(So.jA (rJ s.d ((1-s.half).toNat*(s.d.now.length/2)) (qO (ni s.gen s.d.now+1) 0 (tab s.ev))).1,40)
 else(⟨(rJ s.d ((1-s.half).toNat*(s.d.now.length/2)) (qO (ni s.gen s.d.now+1) 0 (tab s.ev))).1,ni s.gen s.d.now+1,1-s.half,(nS (tab s.ev):Nat),1,s.ev⟩,0)
noncomputable def gG (l:List By):Int×Int×Nat×By×Bool:=
 match l with
 | []=>(0,0,0,[],false)
 | s::_=>if hN s<1∨l.length<hN s then(0,0,0,[],false)else if(oV (l.take (hN s))).2.2.2 then((oV (l.take (hN s))).1,(oV (l.take (hN s))).2.1,hN s,(oV (l.take (hN s))).2.2.1,true)else(0,0,0,[],false)
noncomputable def Un (g:Int):Nat→List By→Nat→List By
 | 0,_,_=> []
 | m+1,l,k=>if(gG l).2.2.2.2=true∧(gG l).1=g∧(gG l).2.1=(k:Int)then(gG l).2.2.2.1::Un g m (l.drop (gG l).2.2.1) (k+1)else []
noncomputable def tY (b:By):List Ev×Int:=
 open Classical in if h : ∃l0:List Ev,(∀e∈l0,e.ok)∧kD l0=0∧b=tab l0 then(Classical.choose h,0)else([],1)
theorem Tq {b:By}{l:List Ev}{e:Int}(h:AB b l e):tY b=(l,e):=by
 obtain⟨h1,_,h2,h3⟩:=h
 unfold tY
 rcases h2 with ⟨rfl,h4,h5⟩ | ⟨rfl,rfl⟩
 ·have hx : ∃l0:List Ev,(∀e∈l0,e.ok)∧kD l0=0∧b=tab l0:=⟨l,h1,h4,h5.symm⟩
  rw [dif_pos hx]
  obtain⟨q1,q2,q3⟩:=Classical.choose_spec hx
  rw [(h3 _ q1 q2 q3).2]
 ·rw [dif_neg]
  rintro⟨l0,q1,q2,q3⟩
  exact absurd (h3 l0 q1 q2 q3).1 (by decide)
theorem aa3 (b:By):(∀e∈(tY b).1,e.ok)∧(tY b).1.length≤512∧((tY b).2=0→kD (tY b).1=0∧b=tab (tY b).1)∧((tY b).2=0∨(tY b).2=1):=by
 unfold tY
 split
 ·rename_i hx
  obtain⟨q1,q2,q3⟩:=Classical.choose_spec hx
  exact⟨q1,(pO q2).1,fun _=>⟨q2,q3⟩, .inl rfl⟩
 ·exact⟨(fun _ h=>by cases h),Nat.zero_le _,(fun h=>by simp at h), .inr rfl⟩
noncomputable def rO (out:List Ev):List By→List Ev
 | []=>out
 | b::r=>if(tY b).2≠0∨512<out.length+(tY b).1.length then out else rO (out++(tY b).1) r
noncomputable def AO (l:List By):Bool:=(gG l).2.2.2.2&&decide ((gG l).2.1=0)
noncomputable def OC (l:List By):List Ev:=rO [] (Un (gG l).1 l.length l 0)
noncomputable def hlf (a b:List By):Int×List Ev:=
 if AO a=true∧(AO b=false∨(gG b).1≤(gG a).1)then(0,OC a)else if AO b=true then(1,OC b)else(1,[])
noncomputable def iK (d:Dk):So×Int:=
 if d.dead then(So.jA d,40)
 else lV ⟨d,0,(hlf (d.now.take (d.now.length/2)) (d.now.drop (d.now.length/2))).1,0,0,(hlf (d.now.take (d.now.length/2)) (d.now.drop (d.now.length/2))).2⟩
structure So.ok (s:So):Prop where
 d:s.d.ok
 gen:1≤s.gen∧s.gen≤4294967295
 half:s.half=0∨s.half=1
 next:1≤s.next∧s.next≤(s.d.now.length/2:Nat)
 frame:1≤s.frame∧s.frame≤65536
 ev:(∀e∈s.ev,e.ok)∧kD s.ev=0
def nR (s:So)(l:List Ev):So×Int:=
 if kD l≠0 then(So.zero,kD l)
 else if 512<s.ev.length+l.length then(So.zero,5)
 else if l = []then(s,0)
 else if 255<nS (tab (s.ev++l))∨s.d.now.length/2<nS (tab (s.ev++l))then(So.zero,19)
 else if kJ s.gen s.frame (tab l)≠0∨((s.d.now.length/2:Nat):Int)<s.next+(nS (tab l):Nat)then lV {s with ev:=s.ev++l}
 else if(rJ s.d (s.half.toNat*(s.d.now.length/2)+s.next.toNat) (qO s.gen s.frame (tab l))).2≠0 then(So.jA (rJ s.d (s.half.toNat*(s.d.now.length/2)+s.next.toNat) (qO s.gen s.frame (tab l))).1,40)
 else(⟨(rJ s.d (s.half.toNat*(s.d.now.length/2)+s.next.toNat) (qO s.gen s.frame (tab l))).1,s.gen,s.half,s.next+(nS (tab l):Nat),s.frame+1,s.ev++l⟩,0)
section
attribute [local irreducible] num hsh
theorem adh {g f:Int}{b:By}(h:g<1∨4294967295<g∨f<0∨65535<f):kJ g f b=3∧qO g f b = []:=by
 have e:kJ g f b=3:=by unfold kJ;rw [if_pos h]
 exact⟨e,by unfold qO;rw [if_neg (by rw [e];decide)]⟩
theorem adi {g f:Int}{b:By}(h : ¬(g<1∨4294967295<g∨f<0∨65535<f))(h2:255<nS b):kJ g f b=4∧qO g f b = []:=by
 have e:kJ g f b=4:=by unfold kJ;rw [if_neg h,if_pos h2]
 exact⟨e,by unfold qO;rw [if_neg (by rw [e];decide)]⟩
theorem aa4 {g f:Int}{b:By}(h : ¬(g<1∨4294967295<g∨f<0∨65535<f))(h2 : ¬255<nS b):kJ g f b=0∧qO g f b=secs g.toNat f.toNat b:=by
 have e:kJ g f b=0:=by unfold kJ;rw [if_neg h,if_neg h2]
 exact⟨e,by unfold qO;rw [if_pos e]⟩
theorem aI.divN {K:Int→Prop}(v k:Nat)(hv:v<1000000000)(c:K ((v/k:Nat):Int)):aI .i64 ((v:Int).tdiv (k:Int)) K:=by
 have h:=Nat.div_le_self v k
 refine aI.to (y:=((v/k:Nat):Int)) ?_ c
 rw [show (v:Int).tdiv (k:Int)=((v/k:Nat):Int)from rfl]
 generalize v/k=q at *
 exact IntWalk.i64_in _ (by omega)
theorem YS (l:List By)(b:By):(l++ [b]).map Af=l.map Af++ [[.lst 1 (b.map dW)]]:=by rw [List.map_append];rfl
theorem XT (b:By)(i:Nat):List.drop (i*48) (List.take ((i+1)*48) ((pad b).map dW))=(prt b i).map dW:=by
 unfold prt
 rw [List.drop_take,show (i+1)*48-i*48=48 by omega,List.map_take,List.map_drop]
theorem tZ (G:Glob)(gen frame:Int)(b:By)(hb:b.length≤3000000):bD Tryz.prog G 10 [iv gen,iv frame,bs b] 0 [] (Is (.bH [ss (qO gen frame b),iv (kJ gen frame b)])):=by
 have hP:=bD.up (iD [] (b.length:Int) (bW (by omega)) (Nat.zero_le _)) G
 rw [List.nil_append]at hP
 have hP:bD Tryz.prog G 28 [bs [],iv ((b.map dW).length:Nat)] 0 [] (lM 5 1 ((num (b.length:Int)).map dW)):=by rw [List.length_map];exact hP
 have hnl:=bF (b.length:Int)
 have hdl:(dat b).length=(num (b.length:Int)).length+b.length:=by unfold dat;rw [List.length_append]
 have hdm:(num (b.length:Int)).map dW++b.map dW=(dat b).map dW:=by unfold dat;rw [List.map_append]
 refine au Tryz.func10 rfl mixed (by kernel_rfl) ?_
 by_cases hc:gen<1∨4294967295<gen∨frame<0∨65535<frame
 ·obtain⟨e1,e2⟩:=adh (b:=b) hc
  rw [e1,e2]
  conv=>whnf
  repeat' (apply ah<;>intro h<;>(conv=>whnf))
  all_goals first
   | exact aX [] (by trivial)
   | (exfalso;simp at *;omega)
 conv=>whnf
 apply ah<;>intro h
 ·exfalso;simp at h;omega
 conv=>whnf
 apply ah<;>intro h
 ·exfalso;simp at h;omega
 conv=>whnf
 apply ah<;>intro h
 ·exfalso;simp at h;omega
 conv=>whnf
 apply ah<;>intro h
 ·exfalso;simp at h;omega
 conv=>whnf
 (refine aj [] (by kernel_rfl) (hP) ?_ ?_;(focus trivial))
 rintro _ _ _ ⟨rfl,rfl,rfl⟩
 conv=>whnf
 refine ay.mk (aG (by simp only [List.length_map];omega) (by kernel_rfl)) ?_
 conv=>whnf
 rw [hdm]
 refine aI.i64 (by rw [List.length_map];omega) ?_
 conv=>whnf
 refine aI.to (y:=(((dat b).length+47:Nat):Int)) (by rw [List.length_map,IntWalk.i64_in _ (by omega)];omega) ?_
 conv=>whnf
 refine ay.mk (by decide) ?_
 refine aI.divN _ 48 (by omega) ?_
 conv=>whnf
 have hpl:=Et b
 have hpos:=JJ b
 have hn1:nS b*48<(dat b).length+48:=by unfold nS;omega
 have hn2:(dat b).length≤nS b*48:=by unfold nS;omega
 have aeJ:(dat b).map dW++(l9 (nS b*48 -(dat b).length)).data.toList.map dW=(pad b).map dW:=by
  unfold pad;rw [List.map_append];rfl
 rw [show ((dat b).length+47)/48=nS b from rfl]
 apply ah<;>intro h
 ·obtain⟨e1,e2⟩:=adi hc (by simp at h;omega:255<nS b)
  rw [e1,e2]
  conv=>whnf
  exact aX [] (by trivial)
 have hns : ¬255<nS b:=by simp at h;omega
 obtain⟨e1,e2⟩:=aa4 hc hns
 rw [e1,e2]
 conv=>whnf
 refine aI.to (y:=((nS b*48:Nat):Int)) (by rw [IntWalk.i64_in _ (by omega)];omega) ?_
 conv=>whnf
 refine aI.to (y:=((nS b*48 -(dat b).length:Nat):Int)) (by rw [List.length_map,IntWalk.i64_in _ (by omega)];omega) ?_
 conv=>whnf
 refine KG.mk' (nS b*48 -(dat b).length) rfl rfl ⟨by omega,by unfold maxLen;omega⟩ ?_
 conv=>whnf
 refine ay.mk ?_ ?_
 ·have:(l9 (nS b*48 -(dat b).length)).size=nS b*48 -(dat b).length:=by simp [l9,ByteArray.size]
  rw [this,List.length_map];unfold maxLen;omega
 conv=>whnf
 rw [aeJ]
 conv=>whnf
 obtain⟨g,hg⟩ : ∃g:Nat,gen=(g:Int):=⟨gen.toNat,by omega⟩
 obtain⟨f,hf⟩ : ∃f:Nat,frame=(f:Int):=⟨frame.toNat,by omega⟩
 subst hg;subst hf
 simp only [Int.toNat_natCast]
 refine bg ((8,8)::Zw) 4 [8,10,47] (fun i:Nat=> [(8,bs (pad b)),(10, .own 3),(47,iv i)]) (fun i=> [(3, .rows 22 1 ((wu g f b i).map Af))]) (fun i=>i≤nS b) (fun i=>nS b-i) [(3, .nil)] [2] 0 (by kernel_rfl) (fun _=>rfl) rfl (Nat.zero_le _) ⟨rfl,trivial⟩ ⟨⟨rfl,rfl,rfl⟩,trivial,rfl,trivial⟩ ?_
 intro i hi
 conv=>whnf
 apply ah<;>intro h
 rotate_left 1
 ·have hie:i=nS b:=by simp at h;omega
  subst hie
  conv=>whnf
  refine aX [3] ?_
  trivial
 have hlt:i<nS b:=by simp at h;omega
 conv=>whnf
 (refine aP ace [3] (by kernel_rfl) ?_;conv=>whnf)
 refine aI.to (y:=((i*48:Nat):Int)) (by rw [IntWalk.i64_in _ (by omega)];omega) ?_
 conv=>whnf
 refine aI.i64 (by omega) ?_
 conv=>whnf
 refine aI.to (y:=(((i+1)*48:Nat):Int)) (by rw [IntWalk.i64_in _ (by omega)];omega) ?_
 conv=>whnf
 refine lT.mk' (i*48) ((i+1)*48) rfl rfl (by omega) (by rw [List.length_map,hpl];omega) ?_
 conv=>whnf
 have afQ:=Eu hlt
 refine aj [] (by kernel_rfl) (MB G g f i (nS b) (prt b i) (by omega) (by omega) (by omega) (by omega) (by omega)) ⟨(by trivial),⟨rfl,XT b i⟩,trivial⟩ ?_
 rintro _ _ _ ⟨rfl,rfl,rfl⟩
 conv=>whnf
 refine ay.mk (aG (by rw [List.length_map,Ah];simp only [List.length_cons,List.length_nil];omega) (by kernel_rfl)) ?_
 conv=>whnf
 refine aI.i64 (by omega) ?_
 conv=>whnf
 exact aF (i+1) [(3, .lab 6)] [] rfl (by show nS b -(i+1)<nS b-i;omega) hlt ⟨⟨rfl,rfl,by rw [Ob,YS]⟩,trivial⟩ ⟨⟨rfl,rfl⟩,rfl,rfl,trivial⟩
end
end Go.Proofs.YtocckceefcmeaaaGreatDoor.Cl
namespace Go.Proofs.YtocckceefcmeaaaGreatDoor.Vc
open Go Go.RowKit Go.Proofs.YtocckceefcmeaaaGreatDoor.Vc Go.Proofs.YtocckceefcmeaaaGreatDoor.Dg Go.Proofs.YtocckceefcmeaaaGreatDoor.Cl
attribute [local irreducible] loadVar storeVar Instr.indexAt Instr.index Instr.sliceAt Instr.makeSlice Instr.lookup Instr.mapUpdate Instr.range Instr.next Instr.entry Instr.makeMap Builtin.append_ Builtin.copy_ Builtin.len_ Builtin.min_ Builtin.max_ Builtin.cap_ Builtin.delete_ Builtin.clear_ convert binOp eqGuard Op.unary Calls
end Go.Proofs.YtocckceefcmeaaaGreatDoor.Vc
namespace Go.Proofs.YtocckceefcmeaaaGreatDoor.Cl
open Go Go.RowKit Go.Proofs Go.Proofs.YtocckceefcmeaaaGreatDoor.Vc Go.Proofs.YtocckceefcmeaaaGreatDoor.Ax
attribute [local irreducible] loadVar storeVar Instr.indexAt Instr.index Instr.sliceAt Instr.makeSlice Instr.lookup Instr.mapUpdate Instr.range Instr.next Instr.entry Instr.makeMap Builtin.append_ Builtin.copy_ Builtin.len_ Builtin.min_ Builtin.max_ Builtin.cap_ Builtin.delete_ Builtin.clear_ convert binOp eqGuard Op.unary Calls
section
attribute [local irreducible] num hsh
end
structure DX where
 j:Nat
 e:Int
 out:Li
theorem Gd.mono {b:By}{Q Q':Li→By→Prop}(h:Gd b Q)(k : ∀l0 r,cO l0→l0.length≤512→Q l0 r→Q' l0 r):Gd b Q':=fun l0 r h1 h2 h3=>k l0 r h1 h2 (h l0 r h1 h2 h3)
end Go.Proofs.YtocckceefcmeaaaGreatDoor.Cl
