/- Joined parts of the proof. The walks of both worlds' Table -/
import Derived.Test.YtnandbihiceihaaGreatDoorPk20
import Derived.Test.YtnandbihiceihaaGreatDoorPk21
import Derived.Test.YtnandbihiceihaaGreatDoorPk22
import Derived.Test.YtnandbihiceihaaGreatDoorPk23
import Derived.Test.YtnandbihiceihaaGreatDoorPk12
import Derived.Test.YtnandbihiceihaaGreatDoorPk17
import Derived.OpenShut
import Derived.Stop.Joined
set_option linter.unusedVariables false
set_option linter.unusedSimpArgs false
set_option maxRecDepth 100000
set_option maxHeartbeats 16000000
namespace Go.Proofs.YtnandbihiceihaaGreatDoor.Cl
open RowKit Vc Ax Ky Go.Proofs.YtnandbihiceihaaGreatDoor.Id Go.Proofs.Tryz
attribute [local irreducible] loadVar storeVar Instr.indexAt Instr.index Instr.sliceAt Instr.makeSlice Instr.lookup Instr.mapUpdate Instr.range Instr.next Instr.entry Instr.makeMap Builtin.append_ Builtin.copy_ Builtin.len_ Builtin.min_ Builtin.max_ Builtin.cap_ Builtin.delete_ Builtin.clear_ convert binOp eqGuard Op.unary Calls
section
structure Rs where
 c:Int
 t:Int
 x:Int
 lo:Int
 hi:Int
 w:Int
def rsA (r:Rs):AV:= .agg [iv r.c,iv r.t,iv r.x,iv r.lo,iv r.hi,iv r.w]
def Fh (m:Mt)(l:List Ev):Int:=if Bh m≠0 then Bh m else if m.kind=4 then 15 else if 512<l.length then 5 else 0
def Nc (s:List Sm)(k:Nat):Nat:=s.countP fun s=>decide (s.x.arm=(k:Int)+1)
def IW (l:List Int):Int:=l.getLastD 4294967296
def ahG (s:List Sm)(m:Mt)(w:List Wg)(level:Int):Rs:=
 ⟨Nc s 0,Nc s 1,Ef s,Fe (Dp s w m.cap (decide (0<m.before))) level,Fg (Dp s w m.cap (decide (0<m.before))) level,IW (uG (s.map (·.x)) w)⟩
def IX (l:List Ev)(mark:Int)(name:By)(m:Mt)(w:List Wg)(level:Int):Rs:=
 if Fh m l≠0 then⟨0,0,0,0,0,0⟩else ahG (EX l name m mark) m w level
theorem aj9 (s:List Sm):Qg (UZ 2) s = [Nc s 0,Nc s 1]:=rfl
theorem aaC {l:List Int}(h:l.length=0):IW l=4294967296:=by rw [aK h];rfl
theorem Ve {l:List Int}(h:0<l.length):l[l.length-1]? = some (IW l):=by
 unfold IW
 rw [List.getLastD_eq_getLast?,List.getLast?_eq_getElem?]
 rw [ah aai]
 rfl
theorem Qs (l:List Ev)(name:By)(m:Mt)(mark:Int):(EX l name m mark).length<=l.length:=by
 unfold EX
 rw [aj]
 refine bG (dJ _ _) ?_
 rw [List.length_zipIdx]
 unfold uY
 have h1:=zD (oM l) name (oq 1 l)
 have h2:=qR 1 l
 omega
theorem ER {l:List Ev}{name:By}{m:Mt}{mark:Int}(hm:Bh m=0) : ∀s∈EX l name m mark,I64 s.before:=by
 intro s hs
 have hc:=(F5 hm).2.1
 unfold EX at hs
 obtain⟨p,_,rfl⟩:=dW.1 hs
 unfold V8 lim I64
 dsimp only
 split<;>omega
theorem Vf {s:List Sm}{i:Nat}(h:i<s.length):((s.take i).map (·.x)).map SG++ [SG s[i].x]=((s.take (i+1)).map (·.x)).map SG:=by
 rw [aG h,aS,aS];rfl
attribute [local irreducible] Bh EX Dp Fe Fg uG IW Ef Nc
def rsB (c t x lo hi w:Int):oI:= .var 56 [iv c,iv t,iv x,iv lo,iv hi,iv w]
theorem Vg (l:List Ev)(mark:Int)(name:By)(m:Mt)(w:List Wg)(level:Int)(hB:EvB l)(z1:m.name.length<=140737488355328)(z2:m.below.length<=140737488355328)(hw:w.length<=100000) :
  mP Tryz.prog GS 13 [el l,iv mark,tv name,Jl m,wgL w,iv level] 0 [] (Is (.og [rsA (IX l mark name m w level),iv (Fh m l)])):=by
 obtain⟨R,hR⟩ : ∃R,R=IX l mark name m w level:=⟨_,rfl⟩
 obtain⟨E,hE⟩ : ∃E,E=Fh m l:=⟨_,rfl⟩
 rw [<-hR, <-hE]
 unfold IX at hR
 rw [<-hE]at hR
 unfold Fh at hE
 refine lJ func13 rfl mixed aag ?_
 conv=>(whnf)
 (refine lM [] aag (ZQ m z1 z2) rfl ?_ ?_;(focus trivial))
 conv=>(whnf)
 apply lH<;>intro h
 ·have h0:Bh m≠0:=aaE
  rw [if_pos h0]at hE
  rw [if_pos aai]at hR
  subst hR
  rw [hE]
  conv=>(whnf)
  exact lQ [] aam
 have h0:Bh m=0:=aaE
 rw [if_neg aai]at hE
 conv=>(whnf)
 apply lH<;>intro h
 ·have h1:m.kind=4:=aaE
  rw [if_pos h1]at hE
  rw [if_pos aai]at hR
  subst hR
  rw [hE]
  conv=>(whnf)
  exact lQ [] aam
 rw [if_neg aaE]at hE
 conv=>(whnf)
 apply lH<;>intro h
 ·have h1:512<l.length:=aaG
  rw [if_pos h1]at hE
  rw [if_pos aai]at hR
  subst hR
  rw [hE]
  conv=>(whnf)
  exact lQ [] aam
 have hl : ¬512<l.length:=aaG
 rw [if_neg hl]at hE
 rw [if_neg aai]at hR
 subst hE
 have hS:=Z4 l name m mark hB z1 z2
 rw [if_pos h0]at hS
 have hsl:=Qs l name m mark
 have hsb:=ER (l:=l) (name:=name) (mark:=mark) h0
 generalize EX l name m mark=S at *
 have hT:=ahp (G:=GS) S 2 aai
 unfold Wq at hT
 rw [aj9]at hT
 have hA:=allA (G:=GS) S w m.cap (decide (0<m.before)) hsb aai hw
 have hal:=Qh S w m.cap (decide (0<m.before))
 have hLo:=ahE (G:=GS) (Dp S w m.cap (decide (0<m.before))) level aai
 have hUp:=ahF (G:=GS) (Dp S w m.cap (decide (0<m.before))) level aai
 have hP:=ahC (G:=GS) (S.map (·.x)) w aeE hw
 unfold ahG at hR
 have hK1:0<(uG (S.map (·.x)) w).length->(uG (S.map (·.x)) w)[(uG (S.map (·.x)) w).length-1]? = some (IW (uG (S.map (·.x)) w)):=Ve
 have hK0:(uG (S.map (·.x)) w).length=0->IW (uG (S.map (·.x)) w)=4294967296:=aaC
 have hbl:(uG (S.map (·.x)) w).length<=1000000:=by
  have:=F7 w (S.map (·.x))
  rw [show (pR w (S.map (·.x))).out=uG (S.map (·.x)) w by rw [uG]]at this
  rw [aj]at this
  omega
 generalize uG (S.map (·.x)) w=path at *
 generalize IW path=K at *
 generalize Dp S w m.cap (decide (0<m.before))=Z at *
 generalize Fe Z level=lo at *
 generalize Fg Z level=hi at *
 generalize Nc S 0=ta at *
 generalize Nc S 1=tb at *
 generalize Ef S=mx at *
 conv=>(whnf)
 refine oD [] aag hS ?_ ?_
 ·trivial
 rintro _ _ _ ⟨rfl,rfl,rfl⟩
 conv=>(whnf)
 refine oD [] aag hT ?_ ?_
 ·trivial
 rintro _ _ _ ⟨rfl,rfl,rfl⟩
 conv=>(whnf)
 refine oD [] aag hA ?_ ?_
 ·trivial
 rintro _ _ _ ⟨rfl,rfl,rfl⟩
 conv=>(whnf)
 skip
 (refine lX aiv [] aag ?_;conv=>(whnf))
 repeat' (first
  | (refine And.intro ?_ ?_<;>(conv=>(whnf)))
  | ((refine lM [] aag (hLo) rfl ?_ ?_;(focus (trivial;done));(conv=>(whnf))))
  | ((refine lM [] aag (hUp) rfl ?_ ?_;(focus (trivial;done));(conv=>(whnf))))
  | (refine mJ.mk' 0 rfl (fE _) ?_;conv=>(whnf))
  | (refine mJ.mk' 1 rfl (iQ (fE _)) ?_;conv=>(whnf))
  | (refine mQ.at rfl ?_;conv=>(whnf)))
 all_goals (subst hR)
 all_goals
  refine mY afb 5 [20,72] (fun i:Nat=> [(20, .own 4),(72,iv i)]) (fun i=> [(4, .rows 99 6 (((S.take i).map (·.x)).map SG)),(3,rsB ta tb mx lo hi 4294967296),(1,rsB 0 0 0 0 0 0)]) (fun i=>i<=S.length) (fun i=>S.length-i) [(4, .nil)] [] 0 aag (fun _=>rfl) rfl (aH _) aam aam ?_
  intro i hi
  conv=>(whnf)
  apply lH<;>intro h
  ·have hlt:i<S.length:=aaG
   conv=>(whnf)
   refine mJ.mk' i rfl (pF hlt) ?_
   conv=>(whnf)
   refine mQ.lU (ah hlt) ?_
   conv=>(whnf)
   refine lW.mk (nG aaL aag) ?_
   conv=>(whnf)
   refine lN.i64 aai ?_
   conv=>(whnf)
   exact lK (i+1) [(4, .lab 7)] [] rfl (by show S.length -(i+1)<S.length-i;omega) hlt ⟨⟨rfl,rfl,Vf hlt⟩,aam⟩ aam
  have hie:i=S.length:=aaG
  subst hie
  rw [aZ]
  conv=>(whnf)
  refine qc [4] aag (hP) aam ?_
  conv=>(whnf)
  apply lH<;>intro h
  ·have hp:0<path.length:=ahK
   conv=>(whnf)
   refine lN.i64 agA ?_
   conv=>(whnf)
   refine mJ.mk' (path.length-1) agA aeE ?_
   conv=>(whnf)
   refine mQ.lU (hK1 hp) ?_
   conv=>(whnf)
   exact lQ [] aam
  ·have hp:path.length=0:=ahr
   rw [hK0 hp]
   conv=>(whnf)
   exact lQ [] aam
theorem Nh (l:List Ev)(mark:Int)(name:By)(m:Mt)(g1 g2:Wg)(level:Int)(hB:EvB l)(hasc:l.Pairwise fun a b=>a.time<=b.time)(hg:g1.ver≠g2.ver)(z1:m.name.length<=140737488355328)(z2:m.below.length<=140737488355328) :
  mP Tryz.prog GS 14 [el l,iv mark,tv name,Jl m,wgL [g1,g2],iv level] 0 [] (Is (.og [rsA (IX l mark name m [g1,g2] level),iv (Fh m l)])):=by
 obtain⟨w,hwd⟩ : ∃w,w = [g1,g2]:=⟨_,rfl⟩
 rw [<-hwd]
 have hw:w.length<=100000:=by rw [hwd];show 2<=100000;omega
 obtain⟨R,hR⟩ : ∃R,R=IX l mark name m w level:=⟨_,rfl⟩
 obtain⟨E,hE⟩ : ∃E,E=Fh m l:=⟨_,rfl⟩
 rw [<-hR, <-hE]
 unfold IX at hR
 rw [<-hE]at hR
 unfold Fh at hE
 refine lJ func14 rfl mixed aag ?_
 conv=>(whnf)
 (refine lM [] aag (ZR m z1 z2) rfl ?_ ?_;(focus trivial))
 conv=>(whnf)
 apply lH<;>intro h
 ·have h0:Bh m≠0:=aaE
  rw [if_pos h0]at hE
  rw [if_pos aai]at hR
  subst hR
  rw [hE]
  conv=>(whnf)
  exact lQ [] aam
 have h0:Bh m=0:=aaE
 rw [if_neg aai]at hE
 conv=>(whnf)
 apply lH<;>intro h
 ·have h1:m.kind=4:=aaE
  rw [if_pos h1]at hE
  rw [if_pos aai]at hR
  subst hR
  rw [hE]
  conv=>(whnf)
  exact lQ [] aam
 rw [if_neg aaE]at hE
 conv=>(whnf)
 apply lH<;>intro h
 ·have h1:512<l.length:=aaG
  rw [if_pos h1]at hE
  rw [if_pos aai]at hR
  subst hR
  rw [hE]
  conv=>(whnf)
  exact lQ [] aam
 have hl : ¬512<l.length:=aaG
 rw [if_neg hl]at hE
 rw [if_neg aai]at hR
 subst hE
 have hS:=Ws l name m mark hB hasc z1 z2
 rw [if_pos h0]at hS
 have hsl:=Qs l name m mark
 have hsb:=ER (l:=l) (name:=name) (mark:=mark) h0
 generalize EX l name m mark=S at *
 have hT:=adR (G:=GS) S 2 aai
 unfold Wq at hT
 rw [aj9]at hT
 have hA:=ajZ (G:=GS) S w m.cap (decide (0<m.before)) hsb aai hw
 have hal:=Qh S w m.cap (decide (0<m.before))
 have hLo:=ad6 (G:=GS) (Dp S w m.cap (decide (0<m.before))) level aai
 have hUp:=ad7 (G:=GS) (Dp S w m.cap (decide (0<m.before))) level aai
 have hP:=(by have h:=ad5 (G:=GS) (S.map (·.x)) g1 g2 hg aeE;rw [<-hwd]at h;exact h)
 unfold ahG at hR
 have hK1:0<(uG (S.map (·.x)) w).length->(uG (S.map (·.x)) w)[(uG (S.map (·.x)) w).length-1]? = some (IW (uG (S.map (·.x)) w)):=Ve
 have hK0:(uG (S.map (·.x)) w).length=0->IW (uG (S.map (·.x)) w)=4294967296:=aaC
 have hbl:(uG (S.map (·.x)) w).length<=1000000:=by
  have:=F7 w (S.map (·.x))
  rw [show (pR w (S.map (·.x))).out=uG (S.map (·.x)) w by rw [uG]]at this
  rw [aj]at this
  omega
 generalize uG (S.map (·.x)) w=path at *
 generalize IW path=K at *
 generalize Dp S w m.cap (decide (0<m.before))=Z at *
 generalize Fe Z level=lo at *
 generalize Fg Z level=hi at *
 generalize Nc S 0=ta at *
 generalize Nc S 1=tb at *
 generalize Ef S=mx at *
 conv=>(whnf)
 refine oD [] aag hS ?_ ?_
 ·trivial
 rintro _ _ _ ⟨rfl,rfl,rfl⟩
 conv=>(whnf)
 refine oD [] aag hT ?_ ?_
 ·trivial
 rintro _ _ _ ⟨rfl,rfl,rfl⟩
 conv=>(whnf)
 refine oD [] aag hA ?_ ?_
 ·trivial
 rintro _ _ _ ⟨rfl,rfl,rfl⟩
 conv=>(whnf)
 skip
 refine mY afc 4 [19,20] (fun i:Nat=> [(19, .own 3),(20,iv i)]) (fun i=> [(3, .rows 99 6 (((S.take i).map (·.x)).map SG)),(2, .rows 3 1 ([ta,tb].map adQ)),(1,rsB 0 0 0 0 0 0)]) (fun i=>i<=S.length) (fun i=>S.length-i) [(3, .nil)] [] 0 aag (fun _=>rfl) rfl (aH _) aam aam ?_
 intro i hi
 conv=>(whnf)
 apply lH<;>intro h
 ·have hlt:i<S.length:=aaG
  conv=>(whnf)
  refine mJ.mk' i rfl (pF hlt) ?_
  conv=>(whnf)
  refine mQ.lU (ah hlt) ?_
  conv=>(whnf)
  refine lW.mk (nG aaL aag) ?_
  conv=>(whnf)
  refine lN.i64 aai ?_
  conv=>(whnf)
  exact lK (i+1) [(3, .lab 5)] [] rfl (by show S.length -(i+1)<S.length-i;omega) hlt ⟨⟨rfl,rfl,Vf hlt⟩,aam⟩ aam
 have hie:i=S.length:=aaG
 subst hie
 rw [aZ]
 (refine lX aiw [] aag ?_;conv=>(whnf))
 repeat' (first
  | (refine And.intro ?_ ?_<;>(conv=>(whnf)))
  | ((refine lM [] aag (hLo) rfl ?_ ?_;(focus (trivial;done));(conv=>(whnf))))
  | ((refine lM [] aag (hUp) rfl ?_ ?_;(focus (trivial;done));(conv=>(whnf))))
  | (refine mJ.mk' 0 rfl (fE _) ?_;conv=>(whnf))
  | (refine mJ.mk' 1 rfl (iQ (fE _)) ?_;conv=>(whnf))
  | (refine mQ.at rfl ?_;conv=>(whnf)))
 all_goals (subst hR)
 all_goals
  conv=>(whnf)
  refine qc [3] aag (hP) aam ?_
  conv=>(whnf)
  apply lH<;>intro h
  ·have hp:0<path.length:=ahK
   conv=>(whnf)
   refine lN.i64 agA ?_
   conv=>(whnf)
   refine mJ.mk' (path.length-1) agA aeE ?_
   conv=>(whnf)
   refine mQ.lU (hK1 hp) ?_
   conv=>(whnf)
   exact lQ [] aam
  ·have hp:path.length=0:=ahr
   rw [hK0 hp]
   conv=>(whnf)
   exact lQ [] aam
end
def Vh (a b:Nat):Wg:=⟨1,1+((a%20:Nat):Int),1+((b%20:Nat):Int)⟩
def wg2 (a b:Nat):Wg:=⟨2,1+((a%20:Nat):Int),1+((b%20:Nat):Int)⟩
theorem aaD (a b c d:Nat)(ha:a<256)(hb:b<256)(hc:c<256)(hd:d<256):mP Tryz.prog GS 11 [Yj a,Yj b,Yj c,Yj d] 0 [] (Is (wgL [Vh a b,wg2 c d])):=by
 have h1 : ∀n:Nat,n%20<20:=fun n=>fO _ aaw
 have ha:=h1 a
 have hb:=h1 b
 have hc:=h1 c
 have hd:=h1 d
 refine lJ func11 rfl mixed aag ?_
 conv=>(whnf)
 repeat' (first
  | (refine And.intro ?_ ?_<;>(conv=>(whnf)))
  | (refine lW.mk aaw ?_;conv=>(whnf))
  | (refine lN.i64 aai ?_;conv=>(whnf))
  | (refine lN.to (y:=1+((a%20:Nat):Int)) (show IntKind.i64.wrap (1+((a%20:Nat):Int))=_ from IntWalk.i64_in _ aai) ?_;conv=>(whnf))
  | (refine lN.to (y:=1+((b%20:Nat):Int)) (show IntKind.i64.wrap (1+((b%20:Nat):Int))=_ from IntWalk.i64_in _ aai) ?_;conv=>(whnf))
  | (refine lN.to (y:=1+((c%20:Nat):Int)) (show IntKind.i64.wrap (1+((c%20:Nat):Int))=_ from IntWalk.i64_in _ aai) ?_;conv=>(whnf))
  | (refine lN.to (y:=1+((d%20:Nat):Int)) (show IntKind.i64.wrap (1+((d%20:Nat):Int))=_ from IntWalk.i64_in _ aai) ?_;conv=>(whnf)))
 exact nI (wgL [Vh a b,wg2 c d]) 0 [] [] [0] ⟨rfl,rfl,rfl⟩ rfl trivial aam
section
attribute [local irreducible] IX Fh
theorem Ti (l m:By)(a b c d:Nat)(mark:Int)(small:Nat)(level:Int)(which bad:Nat)(ha:a<256)(hb:b<256)(hc:c<256)(hd:d<256)(hmk:I64 mark)(hsm:small<256)(hlv:I64 level)(hw:which<256)(hbd:bad<256) :
  mP Tryz.prog GS 4 [bs l,bs m,Yj a,Yj b,Yj c,Yj d,iv mark,Yj small,iv level,Yj which,Yj bad] 0 [] (Is (bv true)):=by
 refine lJ func4 rfl mixed aag ?_
 conv=>(whnf)
 (refine oD [] aag (adz) ?_ ?_;(focus (trivial;done));rintro _ _ _ ⟨rfl,rfl,rfl⟩;(conv=>(whnf)))
 apply lH<;>intro h
 ·exact lQ [] aam
 have hml:l.length<=300:=aaG
 conv=>(whnf)
 (refine oD [] aag (adP l aai) ?_ ?_;(focus trivial))
 rintro _ _ _ ⟨E,hP,rfl,rfl,rfl⟩
 have hlen:=hP.len
 conv=>(whnf)
 (refine oD [] aag (aah m) ?_ ?_;(focus trivial))
 rintro _ _ _ ⟨M,hM,rfl,rfl,rfl⟩
 conv=>(whnf)
 have hB:=hP.bnd
 refine lW.mk aaw ?_
 conv=>(whnf)
 apply lH<;>intro h2
 rotate_left
 ·skip
  have hz1:(M).name.length<=140737488355328:=hM.z1
  have hz2:(M).below.length<=140737488355328:=hM.z2
  conv=>(whnf)
  refine qc [] aag (aaD a b c d ha hb hc hd) aam ?_
  conv=>(whnf)
  refine qc [] aag (zH) aam ?_
  obtain⟨name,hname⟩:=aac which
  conv=>(whnf)
  refine lW.mk aaw ?_
  conv=>(whnf)
  refine mJ.mk' (which%2) rfl (by have:which%2<2:=fO _ aaw;show which%2<4;omega) ?_
  conv=>(whnf)
  refine mQ.lU hname ?_
  conv=>(whnf)
  refine rM 3 ?_
  conv=>(whnf)
  have hT1:=Vg E mark name M [Vh a b,wg2 c d] level hB hz1 hz2 ai7
  have hT2:=Nh E mark name M (Vh a b) (wg2 c d) level hB hP.asc ai8 hz1 hz2
  generalize IX E mark name M [Vh a b,wg2 c d] level=r at *
  generalize Fh M E=e at *
  repeat' (first|(refine lN.i64 aai ?_;conv=>(whnf))|(refine mJ.mk' 0 rfl (fE _) ?_;conv=>(whnf))|(refine mJ.mk' 1 rfl (iQ (fE _)) ?_;conv=>(whnf))|(refine mQ.mk ⟨_,rfl, ?_⟩;conv=>(whnf)))
  refine qc [] aag (hT1) aam ?_
  conv=>(whnf)
  refine qc [] aag (hT2) aam ?_
  conv=>(whnf)
  apply lH<;>intro h9
  ·exfalso;simp at h9
  conv=>(whnf)
  refine yc.mk aag rfl rfl ?_
  conv=>(whnf)
  apply lH<;>intro h9
  ·exfalso;simp [rsA]at h9
  conv=>(whnf)
  refine lN.fr ?_
  conv=>(whnf)
  clear hT1 hT2
  have hT1:=Vg E ((small:Nat):Int) name M [Vh a b,wg2 c d] (1+(which:Int)*3) hB hz1 hz2 ai7
  have hT2:=Nh E ((small:Nat):Int) name M (Vh a b) (wg2 c d) (1+(which:Int)*3) hB hP.asc ai8 hz1 hz2
  generalize IX E ((small:Nat):Int) name M [Vh a b,wg2 c d] (1+(which:Int)*3)=r at *
  generalize Fh M E=e at *
  repeat' (first|(refine lN.i64 aai ?_;conv=>(whnf))|(refine mJ.mk' 0 rfl (fE _) ?_;conv=>(whnf))|(refine mJ.mk' 1 rfl (iQ (fE _)) ?_;conv=>(whnf))|(refine mQ.mk ⟨_,rfl, ?_⟩;conv=>(whnf)))
  refine qc [] aag (hT1) aam ?_
  conv=>(whnf)
  refine qc [] aag (hT2) aam ?_
  conv=>(whnf)
  apply lH<;>intro h9
  ·exfalso;simp at h9
  conv=>(whnf)
  refine yc.mk aag rfl rfl ?_
  conv=>(whnf)
  apply lH<;>intro h9
  ·exfalso;simp [rsA]at h9
  conv=>(whnf)
  refine lN.fr ?_
  conv=>(whnf)
  exact lQ (List.range 40) aam
 ·conv=>(whnf)
  refine lN.i64 aai ?_
  conv=>(whnf)
  refine lW.mk aaw ?_
  refine lN.divN bad 16 aai ?_
  have hz1:({M with window:=((bad/16:Nat):Int)}).name.length<=140737488355328:=hM.z1
  have hz2:({M with window:=((bad/16:Nat):Int)}).below.length<=140737488355328:=hM.z2
  conv=>(whnf)
  refine qc [] aag (aaD a b c d ha hb hc hd) aam ?_
  conv=>(whnf)
  refine qc [] aag (zH) aam ?_
  obtain⟨name,hname⟩:=aac which
  conv=>(whnf)
  refine lW.mk aaw ?_
  conv=>(whnf)
  refine mJ.mk' (which%2) rfl (by have:which%2<2:=fO _ aaw;show which%2<4;omega) ?_
  conv=>(whnf)
  refine mQ.lU hname ?_
  conv=>(whnf)
  refine rM 3 ?_
  conv=>(whnf)
  have hT1:=Vg E mark name {M with window:=((bad/16:Nat):Int)} [Vh a b,wg2 c d] level hB hz1 hz2 ai7
  have hT2:=Nh E mark name {M with window:=((bad/16:Nat):Int)} (Vh a b) (wg2 c d) level hB hP.asc ai8 hz1 hz2
  generalize IX E mark name {M with window:=((bad/16:Nat):Int)} [Vh a b,wg2 c d] level=r at *
  generalize Fh {M with window:=((bad/16:Nat):Int)} E=e at *
  repeat' (first|(refine lN.i64 aai ?_;conv=>(whnf))|(refine mJ.mk' 0 rfl (fE _) ?_;conv=>(whnf))|(refine mJ.mk' 1 rfl (iQ (fE _)) ?_;conv=>(whnf))|(refine mQ.mk ⟨_,rfl, ?_⟩;conv=>(whnf)))
  refine qc [] aag (hT1) aam ?_
  conv=>(whnf)
  refine qc [] aag (hT2) aam ?_
  conv=>(whnf)
  apply lH<;>intro h9
  ·exfalso;simp at h9
  conv=>(whnf)
  refine yc.mk aag rfl rfl ?_
  conv=>(whnf)
  apply lH<;>intro h9
  ·exfalso;simp [rsA]at h9
  conv=>(whnf)
  refine lN.fr ?_
  conv=>(whnf)
  clear hT1 hT2
  have hT1:=Vg E ((small:Nat):Int) name {M with window:=((bad/16:Nat):Int)} [Vh a b,wg2 c d] (1+(which:Int)*3) hB hz1 hz2 ai7
  have hT2:=Nh E ((small:Nat):Int) name {M with window:=((bad/16:Nat):Int)} (Vh a b) (wg2 c d) (1+(which:Int)*3) hB hP.asc ai8 hz1 hz2
  generalize IX E ((small:Nat):Int) name {M with window:=((bad/16:Nat):Int)} [Vh a b,wg2 c d] (1+(which:Int)*3)=r at *
  generalize Fh {M with window:=((bad/16:Nat):Int)} E=e at *
  repeat' (first|(refine lN.i64 aai ?_;conv=>(whnf))|(refine mJ.mk' 0 rfl (fE _) ?_;conv=>(whnf))|(refine mJ.mk' 1 rfl (iQ (fE _)) ?_;conv=>(whnf))|(refine mQ.mk ⟨_,rfl, ?_⟩;conv=>(whnf)))
  refine qc [] aag (hT1) aam ?_
  conv=>(whnf)
  refine qc [] aag (hT2) aam ?_
  conv=>(whnf)
  apply lH<;>intro h9
  ·exfalso;simp at h9
  conv=>(whnf)
  refine yc.mk aag rfl rfl ?_
  conv=>(whnf)
  apply lH<;>intro h9
  ·exfalso;simp [rsA]at h9
  conv=>(whnf)
  refine lN.fr ?_
  conv=>(whnf)
  exact lQ (List.range 40) aam
end
end Go.Proofs.YtnandbihiceihaaGreatDoor.Cl
namespace Go.Proofs.YtnandbihiceihaaGreatDoor.Vc
open RowKit Ax Go.Proofs.Tryz
section
variable {H:Type}{enc:TypeId×Value->H}{w:World}
end
inductive Sh where
 | n (k:IntKind)
 | b
 | s
 | l (qp:Nat) (es:List Sh)
inductive OkV:Sh->FV->Prop
 | n {k:IntKind} {x:Int} (h:(Lit.int k x).wf=true):OkV (.n k) (.v (.int k x))
 | b (x:Bool):OkV .b (.v (.bool x))
 | s (x:ByteArray) (h:x.size<=140737488351232):OkV .s (.v (.string x))
 | l {qp:Nat} {es:List Sh} {rows:List (List FV)} (hn:rows.length<=maxLen) (hb:rows.length*qp<=140737488351232) (h : ∀row∈rows,row.length=es.length) (hr : ∀row∈rows, ∀(j:Nat) e a,es[j]? = some e->row[j]? = some a->OkV e a):OkV (.l qp es) (.lst es.length rows)
def OkR (es:List Sh)(row:List FV):Prop:=row.length=es.length∧∀(j:Nat) e a,es[j]? = some e->row[j]? = some a->OkV e a
theorem OkR.nil:OkR [] []:=⟨rfl,fun j e a h=>by simp at h⟩
theorem OkR.one {e:Sh}{a:FV}(h:OkV e a):OkR [e] [a]:=⟨rfl,fun j e' a' he ha=>by
 match j,he,ha with
 | 0,he,ha=>simp at he ha;subst he;subst ha;exact h⟩
section
variable {H:Type}{enc:TypeId×Value->H}{P:Program}{w:World}
def One (w:World)(es:List Sh)(cs:List Value):Prop:= ∃row,OkR es row∧wI (Here w) w row cs∧∀v∈cs,v.oneCell'=true
theorem One.nil:One w [] []:=⟨[],OkR.nil,⟨rfl,fun j a v h=>by simp at h⟩,fun v h=>by cases h⟩
theorem One.one {e:Sh}{a:FV}{v:Value}(h:OkV e a)(hf:oV (Here w) w a v)(ho:v.oneCell'=true):One w [e] [v]:=
 ⟨[a], .one h,⟨rfl,fun j a' v' ha hv=>by
  match j,ha,hv with
  | 0,ha,hv=>simp at ha hv;subst ha;subst hv;exact hf⟩,fun u hu=>by rw [aW.1 hu];exact ho⟩
end
section
open Go.ChangeShapes
section
variable {H:Type}{enc:TypeId×Value->H}{P:Program}{w:World}
theorem IY {base:Nat}{spare:Nat->Bool}{held:Bool}{t0 t1 t2 t3 t4 t5 t6 t7 t8 t9 t10:TypeId}{args:Array Value}{ds:List (DataW H)}{ps:List MemPlace}(h:DataW.TrodAll enc P w base spare held [t0,t1,t2,t3,t4,t5,t6,t7,t8,t9,t10] args.toList ds ps) :
  ∃v0 v1 v2 v3 v4 v5 v6 v7 v8 v9 v10 d0 d1 d2 d3 d4 d5 d6 d7 d8 d9 d10 p0 p1 p2 p3 p4 p5 p6 p7 p8 p9 p10,args = #[v0,v1,v2,v3,v4,v5,v6,v7,v8,v9,v10]∧ds = [d0,d1,d2,d3,d4,d5,d6,d7,d8,d9,d10]∧ps=p0++p1++p2++p3++p4++p5++p6++p7++p8++p9++p10∧DataW.Trod enc P w base spare held t0 v0 d0 p0∧DataW.Trod enc P w base spare held t1 v1 d1 p1∧DataW.Trod enc P w base spare held t2 v2 d2 p2∧DataW.Trod enc P w base spare held t3 v3 d3 p3∧DataW.Trod enc P w base spare held t4 v4 d4 p4∧DataW.Trod enc P w base spare held t5 v5 d5 p5∧DataW.Trod enc P w base spare held t6 v6 d6 p6∧DataW.Trod enc P w base spare held t7 v7 d7 p7∧DataW.Trod enc P w base spare held t8 v8 d8 p8∧DataW.Trod enc P w base spare held t9 v9 d9 p9∧DataW.Trod enc P w base spare held t10 v10 d10 p10:=by
 obtain⟨v0,w0,d0,e0,p0,q0,hargs,rfl,rfl,h0,r0⟩:=trodAll_cons h
 obtain⟨v1,w1,d1,e1,p1,q1,rfl,rfl,rfl,h1,r1⟩:=trodAll_cons r0
 obtain⟨v2,w2,d2,e2,p2,q2,rfl,rfl,rfl,h2,r2⟩:=trodAll_cons r1
 obtain⟨v3,w3,d3,e3,p3,q3,rfl,rfl,rfl,h3,r3⟩:=trodAll_cons r2
 obtain⟨v4,w4,d4,e4,p4,q4,rfl,rfl,rfl,h4,r4⟩:=trodAll_cons r3
 obtain⟨v5,w5,d5,e5,p5,q5,rfl,rfl,rfl,h5,r5⟩:=trodAll_cons r4
 obtain⟨v6,w6,d6,e6,p6,q6,rfl,rfl,rfl,h6,r6⟩:=trodAll_cons r5
 obtain⟨v7,w7,d7,e7,p7,q7,rfl,rfl,rfl,h7,r7⟩:=trodAll_cons r6
 obtain⟨v8,w8,d8,e8,p8,q8,rfl,rfl,rfl,h8,r8⟩:=trodAll_cons r7
 obtain⟨v9,w9,d9,e9,p9,q9,rfl,rfl,rfl,h9,r9⟩:=trodAll_cons r8
 obtain⟨v10,w10,d10,e10,p10,q10,rfl,rfl,rfl,h10,r10⟩:=trodAll_cons r9
 obtain⟨rfl,rfl,rfl⟩:=trodAll_nil r10
 exact⟨v0,v1,v2,v3,v4,v5,v6,v7,v8,v9,v10,d0,d1,d2,d3,d4,d5,d6,d7,d8,d9,d10,p0,p1,p2,p3,p4,p5,p6,p7,p8,p9,p10,by cases args;simp_all,rfl,by simp,h0,h1,h2,h3,h4,h5,h6,h7,h8,h9,h10⟩
end
end
end Go.Proofs.YtnandbihiceihaaGreatDoor.Vc
