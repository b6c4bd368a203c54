/- Joined parts of the proof. The walks of the reference's New, of the laws' empty disk and of the chapter's example; the laws of Sectors and of long  -/
import Derived.Test.YtocckceefcmeaaaGreatDoorPk19
import Derived.Test.YtocckceefcmeaaaGreatDoorPk14
import Derived.Test.YtocckceefcmeaaaGreatDoorPk16
import Derived.Test.YtocckceefcmeaaaGreatDoorPk17
import Derived.Test.YtocckceefcmeaaaGreatDoorPk18
import Derived.Test.YtocckceefcmeaaaGreatDoorPk12
import Derived.Test.YtocckceefcmeaaaGreatDoorPk15
import Derived.Test.YtocckceefcmeaaaGreatDoorPk11
set_option linter.unusedVariables false
set_option linter.unusedSimpArgs false
set_option maxRecDepth 100000
set_option maxHeartbeats 16000000
namespace Go.Proofs.YtocckceefcmeaaaGreatDoor.Cl
open Go Go.RowKit Go.Proofs Go.Proofs.YtocckceefcmeaaaGreatDoor.Vc Go.Proofs.YtocckceefcmeaaaGreatDoor.Ax Go.Proofs.YtocckceefcmeaaaGreatDoor.Ky
attribute [local irreducible] loadVar storeVar Instr.indexAt Instr.index Instr.sliceAt Instr.makeSlice Instr.lookup Instr.mapUpdate Instr.range Instr.next Instr.entry Instr.makeMap Builtin.append_ Builtin.copy_ Builtin.len_ Builtin.min_ Builtin.max_ Builtin.cap_ Builtin.delete_ Builtin.clear_ convert binOp eqGuard Op.unary Calls
def z64:By:=List.replicate 64 0
def dk0 (n:Nat):Dk:=⟨List.replicate n z64,List.replicate n z64, -1,0,false⟩
theorem LJ (n:Nat):Ol (List.replicate n z64):=fun s hs=>by rw [(List.mem_replicate.1 hs).2];rfl
theorem JD {n:Nat}(h1:n%2=0)(h2:8≤n)(h3:n≤256):(dk0 n).ok:=by
 refine⟨?_, ?_, ?_,rfl,⟨Int.le_refl (-1),by show (-1:Int)≤9223372036854775807;decide⟩,⟨Int.le_refl 0,by show (0:Int)≤4611686018427387904;decide⟩,LJ n,LJ n⟩<;>simp [dk0]<;>omega
theorem SI {α:Type}(n:Nat)(a:α):List.replicate (n+1) a=List.replicate n a++ [a]:=List.replicate_succ'
theorem acS (n:Nat)(h1:n%2=0)(h2:8≤n)(h3:n≤256):bC Tryz.prog GS 46 [iv n] 0 [] (Is (.bG [qc (dk0 n),iv 0])):=by
 have hm:((n:Int)).tmod 2=((n%2:Nat):Int):=rfl
 refine au Tryz.func46 rfl mixed (by kernel_rfl) ?_
 conv=>whnf
 apply ah<;>intro h
 ·exfalso;simp at h;omega
 conv=>whnf
 apply ah<;>intro h
 ·exfalso;simp at h;omega
 conv=>whnf
 refine ay.mk (by decide) ?_
 rw [hm,h1]
 conv=>whnf
 refine bf Y9 4 [5] (fun i:Nat=> [(5,iv i)]) (fun i=> [(0, .var 40 [.v (.slice none 0 0), .v (.slice none 0 0),iv 0,iv 0,bv false]),(1, .var 40 [.own 2, .own 3,iv (-1),iv 0,bv false]),(2, .rows 22 1 ((List.replicate i z64).map A8)),(3, .rows 22 1 ((List.replicate i z64).map A8))]) (fun i=>i≤n) (fun i=>n-i) [(2, .nil),(3, .nil)] [] 0 (by kernel_rfl) (fun _=>rfl) rfl (Nat.zero_le _) (by trivial) (by trivial) ?_
 intro i hi
 conv=>whnf
 apply ah<;>intro h
 rotate_left 1
 ·have hie:i=n:=by simp at h;omega
  subst hie
  conv=>whnf
  exact aZ [2,3] (by trivial)
 have hlt:i<n:=by simp at h;omega
 conv=>whnf
 (refine bK X6 [2,4,5] (by kernel_rfl) ?_;conv=>whnf)
 refine JQ.mk' 64 rfl rfl ⟨by decide,by decide⟩ ?_
 conv=>whnf
 refine ay.mk (aF (by simp only [List.length_map,List.length_replicate,List.length_cons,List.length_nil];omega) (by kernel_rfl)) ?_
 conv=>whnf
 (refine bK X6 [3,7,8] (by kernel_rfl) ?_;conv=>whnf)
 refine JQ.mk' 64 rfl rfl ⟨by decide,by decide⟩ ?_
 conv=>whnf
 refine ay.mk (aF (by simp only [List.length_map,List.length_replicate,List.length_cons,List.length_nil];omega) (by kernel_rfl)) ?_
 conv=>whnf
 refine aK.i64 (by omega) ?_
 conv=>whnf
 have e : ∀i,List.map A8 (List.replicate (i+1) z64)=List.map A8 (List.replicate i z64)++ [[FV.lst 1 (List.replicate 64 [FV.v (Value.int .u8 0)])]]:=fun i=>by rw [SI,List.map_append];rfl
 refine aI (i+1) [(2, .lab 6),(3, .lab 9)] [] rfl (by show n -(i+1)<n-i;omega) hlt ?_ ⟨rfl,trivial⟩
 simp only [e]
 trivial
theorem SK (k:Nat)(hk:k<256):bC Tryz.prog GS 17 [u8v k] 0 [] (Is (qc (dk0 (8+2*k%60)))):=by
 have hm:((2*k:Nat):Int).tmod 60=((2*k%60:Nat):Int):=rfl
 refine au Tryz.func17 rfl mixed (by kernel_rfl) ?_
 conv=>whnf
 refine aK.i64 (by omega) ?_
 conv=>whnf
 refine aK.to (y:=((2*k:Nat):Int)) (by rw [IntWalk.i64_in _ (by omega)];omega) ?_
 conv=>whnf
 refine ay.mk (by decide) ?_
 rw [hm]
 conv=>whnf
 refine aK.to (y:=((8+2*k%60:Nat):Int)) (by rw [IntWalk.i64_in _ (by omega)];omega) ?_
 conv=>whnf
 refine ak [] (by kernel_rfl) (acS (8+2*k%60) (by omega) (by omega) (by omega)) (by trivial) ?_
 rintro _ _ _ ⟨rfl,rfl,rfl⟩
 conv=>whnf
 exact aZ [] (by trivial)
theorem SN:jM z64=false:=by
 have h:hG z64=0:=by decide
 unfold jM
 rw [h];simp
theorem acT (n:Nat):fM (List.replicate n z64)=Xr:=by
 cases n with
 | zero=>rfl
 | succ n=>exact Ls (by simp) (by simp [SN])
theorem LK (n:Nat):zY (List.replicate n z64)=false:=by rw [sO,acT];rfl
theorem acU (n:Nat):lW 0 (List.replicate n z64)=0:=by
 induction n with
 | zero=>rfl
 | succ n ih=>
  unfold lW at ih ⊢
  rw [List.replicate_succ,List.foldl_cons,SN]
  exact ih
theorem Ep:tab [] = [0]:=by decide
theorem XF {n:Nat}(h2:8≤n) : ∃d:Dk,nN (dk0 n)=(⟨d,1,0,1,1,[]⟩,0)∧d.ops=2:=by
 have hl:(dk0 n).now.length=n:=by simp [dk0]
 have e1:hlf ((dk0 n).now.take ((dk0 n).now.length/2)) ((dk0 n).now.drop ((dk0 n).now.length/2))=(1,[]):=by
  have ta:(dk0 n).now.take ((dk0 n).now.length/2)=List.replicate (n/2) z64:=by
   rw [hl];show (List.replicate n z64).take (n/2)=_
   rw [List.take_replicate,Nat.min_eq_left (by omega)]
  have tb:(dk0 n).now.drop ((dk0 n).now.length/2)=List.replicate (n-n/2) z64:=by
   rw [hl];show (List.replicate n z64).drop (n/2)=_
   rw [List.drop_replicate]
  rw [ta,tb]
  unfold hlf
  rw [LK,LK]
  rfl
 have e2:nN (dk0 n)=kX ⟨dk0 n,0,1,0,0,[]⟩:=by
  unfold nN
  rw [if_neg (show ¬((dk0 n).dead=true) by show ¬(false=true);decide),e1]
 have e3:lW 0 (dk0 n).now=0:=acU n
 have e4:nS (tab [])=1:=by rw [Ep];decide
 have e5:jO 1 0 (tab [])=0:=by rw [Ep];decide
 have e6:qm 1 0 (tab []) = [sec 1 0 0 1 (prt (tab []) 0)]:=by
  unfold qm;rw [if_pos e5];unfold secs vw;rw [e4];rfl
 refine⟨((dk0 n).put 0 (sec 1 0 0 1 (prt (tab []) 0))).flush, ?_,rfl⟩
 rw [e2]
 have hc:=xU (s:=⟨dk0 n,0,1,0,0,[]⟩) (d:=((dk0 n).put 0 (sec 1 0 0 1 (prt (tab []) 0))).flush) (e:=0) (by
  simp only [e3,hl,e4]
  rw [show (0:Int)+1=1 from rfl,e5]
  omega) (by
  simp only [e3]
  rw [show (0:Int)+1=1 from rfl,e6]
  show qK (dk0 n) (0*_) _=_
  rw [Nat.zero_mul]
  rfl)
 rw [hc]
 simp only [e3,e4]
 rfl
theorem XG:bC Tryz.prog GS 9 [] 0 [] (Is (bv true)):=by
 have hO:=Em (dk0 8) (JD (by decide) (by decide) (by decide))
 obtain⟨d,e1,e2⟩:=XF (n:=8) (by decide)
 rw [e1]at hO
 obtain⟨now,safe,fuse,ops,dead⟩:=d
 simp only at e2
 subst e2
 refine au Tryz.func9 rfl mixed (by kernel_rfl) ?_
 conv=>whnf
 refine ak [] (by kernel_rfl) (SK 0 (by decide)) (by trivial) ?_
 rintro _ _ _ ⟨rfl,rfl,rfl⟩
 conv=>whnf
 refine ak [] (by kernel_rfl) hO (by trivial) ?_
 rintro _ _ _ ⟨rfl,rfl,rfl⟩
 conv=>whnf
 exact aZ [] rfl
def Dk.arm (d:Dk)(n:Int):Dk:= {d with fuse:=n}
structure CS where
 l:List By
 k:Nat
 i:Nat
section
attribute [local irreducible] best ints en bd
end
section
attribute [local irreducible] best ints en bd
end
section
attribute [local irreducible] best ints en bd iQ dsT
abbrev nx (r:Nat)(x:FV):Nat×AV:=(r,x.up)
abbrev no (aP t:Nat)(x:FV):Nat×dM:=(aP, .rows t 1 [[x]])
abbrev ne (n:Nat)(l:List (Nat×AV))(H:aj):Nat×List (Nat×AV)×aj:=(n,l,H)
end
section
attribute [local irreducible] best ints en bd iQ dsT tN wG jP tK
end
section
attribute [local irreducible] best ints en bd
end
section
attribute [local irreducible] best ints en bd
structure TY where
 ks:Tx
 j:Nat
 e:Int
end
section
attribute [local irreducible] best ints en bd iQ dsT tN wG jP tK
def tr (b:By)(bad:Bool):dM:= .var 145 [bs b,bv bad]
end
section
attribute [local irreducible] best ints en bd iQ dsT tN wG jP tK
structure KB (b:By)(n s:Nat)(body:By)(bad:Bool):Prop where
 sz:body.length≤100000
 full:Lr b n fun c r=>body=rs s c∧bad=false
theorem KB.num {b:By}{n s:Nat}{body:By}{bad:Bool}(h:KB b n s body bad)(f:Ev→Int)(hf : ∀c,(cols c)[s]? = some (ints (c.map f)))(hs : ∀c,Oi c→bZ (c.map f)){l:List Int}{k:Nat}{ok:Bool}
  (hR : ∀l0 r,l0.length=n→bZ l0→body=ints l0++r→ok=true∧l=l0∧body.drop k=r):KB b n (s+1) (body.drop k) (bad|| !ok)∧Lr b n fun c _=>l=c.map f:=by
 have key:Lr b n fun c _=>ok=true∧l=c.map f∧body.drop k=rs (s+1) c∧bad=false:=fun c r hc hn hb=>by
  obtain⟨h1,h2⟩:=h.full c r hc hn hb
  obtain⟨g1,g2,g3⟩:=hR (c.map f) (rs (s+1) c) (by rw [List.length_map,hn]) (hs c hc) (by rw [h1,xQ s c _ (hf c)])
  exact⟨g1,g2,g3,h2⟩
 refine⟨⟨by rw [List.length_drop];have:=h.sz;omega,fun c r hc hn hb=> ?_⟩,fun c r hc hn hb=>(key c r hc hn hb).2.1⟩
 obtain⟨h1,_,h3,h4⟩:=key c r hc hn hb
 exact⟨h3,by rw [h1,h4];rfl⟩
theorem KB.txt {b:By}{n s:Nat}{body:By}{bad:Bool}(h:KB b n s body bad)(f:Ev→By)(hf : ∀c,(cols c)[s]? = some (iQ (c.map f)))(hs : ∀c,Oi c→xP (c.map f)){l:List By}{k:Nat}{ok:Bool}
  (hR : ∀l0 r,l0.length=n→xP l0→body=iQ l0++r→ok=true∧l=l0∧body.drop k=r):KB b n (s+1) (body.drop k) (bad|| !ok)∧Lr b n fun c _=>l=c.map f:=by
 have key:Lr b n fun c _=>ok=true∧l=c.map f∧body.drop k=rs (s+1) c∧bad=false:=fun c r hc hn hb=>by
  obtain⟨h1,h2⟩:=h.full c r hc hn hb
  obtain⟨g1,g2,g3⟩:=hR (c.map f) (rs (s+1) c) (by rw [List.length_map,hn]) (hs c hc) (by rw [h1,xQ s c _ (hf c)])
  exact⟨g1,g2,g3,h2⟩
 refine⟨⟨by rw [List.length_drop];have:=h.sz;omega,fun c r hc hn hb=> ?_⟩,fun c r hc hn hb=>(key c r hc hn hb).2.1⟩
 obtain⟨h1,_,h3,h4⟩:=key c r hc hn hb
 exact⟨h3,by rw [h1,h4];rfl⟩
structure Cs where
 a:Tx
 s:Li
 k:Li
 t:Li
 d:Tx
 nm:Tx
 o:Tx
 v:Li
 r:Li
 w:Li
def Cs.ev (x:Cs)(i:Nat):Ev:=⟨x.a.getD i [],x.s.getD i 0,x.k.getD i 0,x.t.getD i 0,x.d.getD i [],x.nm.getD i [],x.o.getD i [],x.v.getD i 0,x.r.getD i 0,x.w.getD i 0⟩
def Cs.evs (x:Cs)(n:Nat):List Ev:=(List.range n).map x.ev
structure Cs.ok (x:Cs)(n:Nat):Prop where
 a:x.a.length=n∧xP x.a
 s:x.s.length=n∧bZ x.s
 k:x.k.length=n∧bZ x.k
 t:x.t.length=n∧bZ x.t
 d:x.d.length=n∧xP x.d
 nm:x.nm.length=n∧xP x.nm
 o:x.o.length=n∧xP x.o
 v:x.v.length=n∧bZ x.v
 r:x.r.length=n∧bZ x.r
 w:x.w.length=n∧bZ x.w
theorem Cs.XH (x:Cs)(n:Nat):(x.evs n).length=n:=by simp [Cs.evs]
theorem Cs.of (c:List Ev):Cs.evs ⟨c.map (·.client),c.map (·.seq),c.map (·.kind),c.map (·.time),c.map (·.id),c.map (·.name),c.map (·.other),c.map (·.ver),c.map (·.arm),c.map (·.val)⟩ c.length=c:=by
 apply List.ext_getElem
 ·rw [Cs.XH]
 ·intro i h1 h2
  simp [Cs.evs,Cs.ev,List.getD_eq_getElem?_getD,h2]
end
section
attribute [local irreducible] num hsh oM jM fM lg tV tab jY wG sec hG hF hI hN
end
section
attribute [local irreducible] num hsh oM jM fM lg tV sH tab jY wG sec hG hF hI hN
structure RS where
 out:List Ev
 j:Nat
 k:Nat
structure PS where
 g:Int
 h:Nat
 i:Nat
end
section
attribute [local irreducible] num hsh oM jM fM lg tV sH tab jY wG sec hG hF hI hN
theorem oP (l:List Ev)(hl:l.length≤1000000):bC Tryz.prog GS 27 [el l,el l] 0 [] (Is (bv true)):=by
 refine au Tryz.func27 rfl mixed (by kernel_rfl) ?_
 conv=>whnf
 apply ah<;>intro h
 ·exfalso;simp at h
 conv=>whnf
 refine bf Y4 0 [5] (fun i:Nat=> [(5,iv i)]) (fun _=> []) (fun i=>i≤l.length) (fun i=>l.length-i) [] [] 0 (by kernel_rfl) (fun _=>rfl) rfl (Nat.zero_le _) trivial ⟨rfl,trivial⟩ ?_
 intro i hi
 conv=>whnf
 apply ah<;>intro h
 ·have hlt:i<l.length:=by simp at h;omega
  conv=>whnf
  (refine bK abI [] (by kernel_rfl) ?_;conv=>whnf)
  repeat' (first
   | (refine And.intro ?_ ?_<;>(conv=>whnf))
   | (refine bD.mk' i rfl (iT hlt) ?_;conv=>whnf)
   | (refine aT.aB (List.getElem?_eq_getElem hlt) ?_;conv=>whnf))
  refine jR.mk (by kernel_rfl) rfl rfl ?_
  conv=>whnf
  apply ah<;>intro h
  ·exfalso
   simp [kQ]at h
  conv=>whnf
  refine aK.i64 (by omega) ?_
  conv=>whnf
  exact aI (i+1) [] [] rfl (by show l.length -(i+1)<l.length-i;omega) hlt trivial ⟨rfl,trivial⟩
 ·conv=>whnf
  exact aZ [] (by trivial)
end
section
def G7:Tx:= [[97,110,110],[98,111,98],[99,97,116],[100,97,110],[101,118,101],[102,97,121]]
def dY (n:Nat):By:=G7.getD (n%6) []
theorem Yp:bC Tryz.prog GC 128 [] 0 [] (kW 9 1 (G7.map wQ)):=by
 refine au Tryz.func128 rfl mixed (by kernel_rfl) ?_
 conv=>whnf
 exact aU (.own 0) 1 _ [(0, .lab 0)] [] ⟨rfl,rfl,rfl⟩ rfl (by trivial) (by trivial)
theorem Ah:G7.length=6:=rfl
attribute [local irreducible] G7
theorem JE (n:Nat)(hn:n<1000000):bC Tryz.prog GC 94 [iv n] 0 [] (Is (tv (dY n))):=by
 refine au Tryz.func94 rfl mixed (by kernel_rfl) ?_
 conv=>whnf
 (refine ak [] (by kernel_rfl) (Yp) ?_ ?_;(focus trivial))
 rintro _ _ _ ⟨rfl,rfl,rfl⟩
 conv=>whnf
 (refine ak [] (by kernel_rfl) (Yp) ?_ ?_;(focus trivial))
 rintro _ _ _ ⟨rfl,rfl,rfl⟩
 conv=>whnf
 rw [List.length_map,Ah]
 refine ay.mk (by decide) ?_
 conv=>whnf
 have hlt:n%6<G7.length:=by rw [Ah];omega
 refine bD.mk' (n%6) rfl (iT hlt) ?_
 conv=>whnf
 refine aT.aB (List.getElem?_eq_getElem hlt) ?_
 conv=>whnf
 refine aZ [] (congrArg (fun x:By=>Value.string ⟨x.toArray⟩) ?_)
 unfold dY
 rw [List.getD_eq_getElem?_getD,List.getElem?_eq_getElem hlt]
 rfl
end
def JF (L:By)(at_:Nat):dM:= .var 131 [bs L,iv at_]
def jZ (L:By)(at_ n:Nat):Nat:=(L.getD at_ 0).toNat%n
def jg (L:By)(at_:Nat):Nat:=if at_<L.length then at_+1 else at_
theorem iG (L:By)(at_ n:Nat)(h:0<n):jZ L at_ n<n:=Nat.mod_lt _ h
theorem gu {L:By}{at_:Nat}(h:at_≤L.length):jg L at_≤L.length:=by unfold jg;split<;>omega
theorem acV (L:By)(at_ n:Nat)(hn:0<n)(hn2:n≤256)(hL:at_≤100000)(ha:at_≤L.length):bC Tryz.prog GS 93 [.ptr 0 0,iv n] 1 [(0,JF L at_)] (fun a m H=>a=iv (jZ L at_ n)∧m=1∧H = [(0,JF L (jg L at_))]):=by
 refine au Tryz.func93 rfl mixed (by kernel_rfl) ?_
 conv=>whnf
 (refine bK X7 [] (by kernel_rfl) ?_;conv=>whnf)
 apply ah<;>intro h
 ·have hge:L.length≤at_:=by simp at h;omega
  conv=>whnf
  refine aU (iv (jZ L at_ n)) 1 [(0,JF L (jg L at_))] [] [] ⟨rfl,rfl,rfl⟩ rfl ?_ ?_
  ·unfold jg;rw [if_neg (by omega)];trivial
  ·unfold jZ;rw [List.getD_eq_getElem?_getD,List.getElem?_eq_none hge,Option.getD_none,show (0:UInt8).toNat=0 from rfl,Nat.zero_mod];trivial
 have hlt:at_<L.length:=by simp at h;omega
 conv=>whnf
 refine aK.i64 (by omega) ?_
 conv=>whnf
 (refine bK X7 [] (by kernel_rfl) ?_;conv=>whnf)
 repeat' (first
  | (refine And.intro ?_ ?_<;>(conv=>whnf))
  | (refine aK.to (y:=((at_:Nat):Int)) (by rw [show ((at_:Nat):Int)+1-1=((at_:Nat):Int) by omega];exact IntWalk.i64_in _ (by omega)) ?_;conv=>whnf)
  | (refine bD.mk' at_ rfl (iT hlt) ?_;conv=>whnf)
  | (refine aT.aB (List.getElem?_eq_getElem hlt) ?_;conv=>whnf)
  | (refine aK.i64 (by have:=L[at_].toNat_lt;omega) ?_;conv=>whnf)
  | (refine ay.mk (by omega) ?_;conv=>whnf))
 refine aU (iv (jZ L at_ n)) 1 [(0,JF L (jg L at_))] [] [] ⟨rfl,rfl,rfl⟩ rfl ?_ ?_
 ·unfold jg;rw [if_pos hlt];trivial
 ·unfold jZ;rw [List.getD_eq_getElem?_getD,List.getElem?_eq_getElem hlt];exact rfl
theorem sW (L:By)(at_ n:Nat)(hn:0<n)(hn2:n≤256)(hL:L.length≤100000)(ha:at_≤L.length):bC Tryz.prog GS 93 [.ptr 0 0,iv n] 1 [(0,JF L at_)] (fun a m H=>a=iv (jZ L at_ n)∧m=1∧H = [(0,JF L (jg L at_))]):=acV L at_ n hn hn2 (by omega) ha
theorem acW (L:By)(at_:Nat):bC Tryz.prog GS 92 [.ptr 0 0] 1 [(0,JF L at_)] (fun a m H=>a=bv (decide (at_<L.length))∧m=1∧H = [(0,JF L at_)]):=by
 refine au Tryz.func92 rfl mixed (by kernel_rfl) ?_
 conv=>whnf
 (refine bK abN [] (by kernel_rfl) ?_;conv=>whnf)
 refine aU (bv (decide (at_<L.length))) 1 [(0,JF L at_)] [] [] ⟨rfl,rfl,rfl⟩ rfl (by trivial) ?_
 refine congrArg Value.bool ?_
 rw [List.length_map]
 exact decide_eq_decide.2 (by omega)
def gy:Tx:= [[98,108,117,101],[103,114,101,101,110],[102,97,115,116],[115,108,111,119]]
def oQ:Tx:= [[98,117,121],[118,105,115,105,116]]
theorem sZ:bC Tryz.prog GS 95 [] 0 [] (kW 9 1 (gy.map wQ)):=by
 refine au Tryz.func95 rfl mixed (by kernel_rfl) ?_
 conv=>whnf
 exact aU (.own 0) 1 _ [(0, .lab 0)] [] ⟨rfl,rfl,rfl⟩ rfl (by trivial) (by trivial)
theorem SQ:bC Tryz.prog GS 96 [] 0 [] (kW 9 1 (oQ.map wQ)):=by
 refine au Tryz.func96 rfl mixed (by kernel_rfl) ?_
 conv=>whnf
 exact aU (.own 0) 1 _ [(0, .lab 0)] [] ⟨rfl,rfl,rfl⟩ rfl (by trivial) (by trivial)
def vN:Tx:= [[97,112,112],[116,97,98],[119,101,98]]
structure EvP (e:Ev):Prop where
 client:e.client∈vN
 id : ∃k:Nat,k<6∧e.id=dY k
 seq:1≤e.seq∧e.seq≤60
 time:0≤e.time∧e.time≤180
 kinds:(e.kind=1∧(∃k:Nat,k<2∧e.name=gy.getD k [])∧e.other = []∧(1≤e.arm∧e.arm≤3)∧(1≤e.ver∧e.ver≤2)∧e.val=0)∨
  (e.kind=2∧(∃k:Nat,k<2∧e.name=oQ.getD k [])∧e.other = []∧e.ver=0∧e.arm=0∧(-4≤e.val∧e.val≤35))∨
  (e.kind=3∧e.name = []∧(∃k:Nat,k<7∧e.other=dY k)∧e.other≠e.id∧e.ver=0∧e.arm=0∧e.val=0)
structure XI (l:List Ev):Prop where
 len:l.length≤60
 all : ∀e∈l,EvP e
 asc:l.Pairwise fun a b=>a.time≤b.time
structure ES where
 out:List Ev
 a:Nat
 tm:Nat
 sq:List Nat
 last:Int
structure EI (L:By)(x:ES):Prop where
 at_:x.a≤L.length
 P:XI x.out
 tm:x.tm≤3*x.out.length
 le : ∀e∈x.out,e.time≤(x.tm:Int)
 sl:x.sq.length=3
 sb : ∀k∈x.sq,k≤x.out.length
 last : -1≤x.last∧x.last≤2
def enN (n:Nat):List FV:= [iF n]
theorem aK.div {K:Int→Prop}(v k:Nat)(hv:v<1000000)(c:K ((v/k:Nat):Int)):aK .i64 ((v:Int).tdiv (k:Int)) K:=by
 have h:=Nat.div_le_self v k
 refine aK.to (y:=((v/k:Nat):Int)) ?_ c
 rw [show (v:Int).tdiv (k:Int)=((v/k:Nat):Int)from rfl]
 generalize v/k=q at *
 exact IntWalk.i64_in _ (by omega)
theorem pR {a b:Nat}(h:oh ⟨(dY a).toArray⟩ ⟨(dY b).toArray⟩=false):dY a≠dY b:=fun e=>by
 rw [kQ,decide_eq_false_iff_not]at h;exact h e
theorem xY {a b:Nat}(ha:a<6)(hb:b<6)(h:oh ⟨(dY a).toArray⟩ ⟨(dY b).toArray⟩=true):dY (a+1)≠dY b:=by
 have h1:dY a=dY b:=by rw [kQ,decide_eq_true_eq]at h;exact h
 have h2 : ∀a,a<6→∀b,b<6→dY a=dY b→dY (a+1)≠dY b:=by decide
 exact h2 a ha b hb h1
theorem eG (l:List Ev)(e:Ev):l.map iE++ [iE e]=(l++ [e]).map iE:=by rw [List.map_append];rfl
theorem EI.next {L:By}{out:List Ev}{a tm:Nat}{sq:List Nat}{last:Int}(h:EI L ⟨out,a,tm,sq,last⟩)(hl:out.length<60){a' st i k:Nat}(ha:a'≤L.length)(hst:st<4)(hi:i<3)(hk:k≤out.length){e:Ev}(het:e.time=((tm+st:Nat):Int))(he:EvP e):EI L ⟨out++ [e],a',tm+st,sq.set i (k+1),i⟩:=by
 obtain⟨hp,hP,htm,hle,hsl,hsb,hlast⟩:=h
 dsimp only at *
 have hn:(out++ [e]).length=out.length+1:=by rw [List.length_append];rfl
 refine⟨ha,⟨by dsimp only;omega,fun x hx=> ?_,List.pairwise_append.2 ⟨hP.asc,List.pairwise_singleton _ _,fun x hx y hy=> ?_⟩⟩,by dsimp only;omega,fun x hx=> ?_,by dsimp only;rw [List.length_set];exact hsl,fun x hx=> ?_,by dsimp only;omega⟩
 ·rcases List.mem_append.1 hx with h | h
  ·exact hP.all x h
  ·rw [List.mem_singleton]at h;rw [h];exact he
 ·rw [List.mem_singleton]at hy
  have:=hle x hx
  rw [hy];omega
 ·dsimp only at hx ⊢
  rcases List.mem_append.1 hx with h | h
  ·have:=hle x h;omega
  ·rw [List.mem_singleton]at h;rw [h];omega
 ·dsimp only at hx ⊢
  rcases List.mem_or_eq_of_mem_set hx with h | h
  ·have:=hsb x h;omega
  ·omega
def NxC (L:By)(p n v q:Nat):Prop:=v<n∧q≤L.length∧bC Tryz.prog GS 93 [.ptr 0 0,iv n] 1 [(0,JF L p)] (fun a m H=>a=iv v∧m=1∧H = [(0,JF L q)])
end Go.Proofs.YtocckceefcmeaaaGreatDoor.Cl
