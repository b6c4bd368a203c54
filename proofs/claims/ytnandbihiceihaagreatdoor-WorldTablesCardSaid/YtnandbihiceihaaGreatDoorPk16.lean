/- Joined parts of the proof. The walks of the reference's big and sector, over the first engine, lifted -/
import Derived.Test.YtnandbihiceihaaGreatDoorPk15
import Derived.Test.YtnandbihiceihaaGreatDoorPk13
import Derived.Test.YtnandbihiceihaaGreatDoorPk10
import Derived.Test.YtnandbihiceihaaGreatDoorPk12
set_option linter.unusedVariables false
set_option linter.unusedSimpArgs false
set_option maxRecDepth 100000
set_option maxHeartbeats 16000000
namespace Go.Proofs.YtnandbihiceihaaGreatDoor.Vc
open RowKit Vc Dg Cl Go.Proofs.Tryz
attribute [local irreducible] loadVar storeVar Instr.indexAt Instr.index Instr.sliceAt Instr.makeSlice Instr.lookup Instr.mapUpdate Instr.range Instr.next Instr.entry Instr.makeMap Builtin.append_ Builtin.copy_ Builtin.len_ Builtin.min_ Builtin.max_ Builtin.cap_ Builtin.delete_ Builtin.clear_ convert binOp eqGuard Op.unary Calls
end Go.Proofs.YtnandbihiceihaaGreatDoor.Vc
namespace Go.Proofs.YtnandbihiceihaaGreatDoor.Cl
open RowKit Vc Ax Go.Proofs.Tryz
attribute [local irreducible] loadVar storeVar Instr.indexAt Instr.index Instr.sliceAt Instr.makeSlice Instr.lookup Instr.mapUpdate Instr.range Instr.next Instr.entry Instr.makeMap Builtin.append_ Builtin.copy_ Builtin.len_ Builtin.min_ Builtin.max_ Builtin.cap_ Builtin.delete_ Builtin.clear_ convert binOp eqGuard Op.unary Calls
section
attribute [local irreducible] num hsh
end
structure DX where
 j:Nat
 e:Int
 out:Li
theorem Gd.mono {b:By}{Q Q':Li->By->Prop}(h:Gd b Q)(k : ∀l0 r,Bd l0->l0.length<=512->Q l0 r->Q' l0 r):Gd b Q':=fun l0 r h1 h2 h3=>k l0 r h1 h2 (h l0 r h1 h2 h3)
section
attribute [local irreducible] num hsh
abbrev fnV (f:Nat):AV:= .v (.func (.func f) #[] #[])
end
abbrev dkC (d:Dk):List AV:= [ss d.now,ss d.safe,iv d.fuse,iv d.ops,bv d.dead]
abbrev Ak (d:Dk):AV:= .agg (dkC d)
def agO:List FV:= [.v (.slice none 0 0)]
theorem Ad (G:Glob)(b:By)(h0:b≠ [])(hl:b.length<=1000000):mP Tryz.prog G 110 [bs b] 0 [] (vZ 5 1 (b.map wJ)):=by
 have h0:0<b.length:=List.length_pos_iff.2 h0
 refine lJ func110 rfl mixed aag ?_
 refine⟨fun b hb=> ?_⟩
 rw [hb (pF h0)]
 refine lW.mk (nG aaL aag) ?_
 exact nI (.own 0) 1 _ [(0, .lab 1)] [] ⟨rfl,rfl,rfl⟩ rfl aam aam
def Uy (l:List By)(i:Nat):List (List FV):=(l.take i).map xP++List.replicate (l.length-i) agO
theorem Pn (l:List By):Uy l 0=List.replicate l.length agO:=by simp [Uy]
theorem Uz (l:List By):Uy l l.length=l.map xP:=by simp [Uy]
theorem UA {l:List By}{i:Nat}(h:i<=l.length):(Uy l i).length=l.length:=by simp [Uy];omega
theorem Zh {l:List By}{i:Nat}(h:i<l.length):(Uy l i)[i]? = some agO:=by
 unfold Uy
 rw [dS aev]
 simp only [ln]
 rw [fC aai,iT,gy,if_pos aai]
theorem UC {l:List By}{i:Nat}(h:i<l.length):(Uy l i).set i (xP l[i])=Uy l (i+1):=by
 unfold Uy
 rw [jd _ _ aev]
 simp only [ln]
 rw [fC aai,iT,show l.length-i=(l.length -(i+1))+1 by omega,fK,List.set_cons_zero,aG h,aS,bW]
 rfl
theorem FU (G:Glob)(l:List By)(h64:Ux l)(hl:l.length<=1000):mP Tryz.prog G 213 [ss l] 0 [] (vZ 38 1 (l.map xP)):=by
 refine lJ func213 rfl mixed aag ?_
 refine uT.mk' l.length ahM ahM ⟨by show 24*l.length<=_;omega,by unfold maxLen;omega⟩ ?_
 refine mY ab5 1 [11] (fun i:Nat=> [(11,iv i)]) (fun i=> [(0, .rows 38 1 (Uy l i))]) (fun i=>i<=l.length) (fun i=>l.length-i) [] [] 0 aag (fun _=>rfl) rfl (aH _) ⟨⟨rfl,rfl,(Pn l).symm⟩,trivial⟩ ⟨rfl,trivial⟩ ?_
 intro i hi
 apply lH<;>intro h
 rotate_left
 ·have hie:i=l.length:=aaG
  subst hie
  rw [Uz]
  exact nI (.own 0) 1 _ [(0, .lab 0)] [] ⟨rfl,rfl,rfl⟩ rfl aam aam
 have hlt:i<l.length:=aaG
 have h6:=h64 l[i] (aV hlt)
 refine mJ.mk' i rfl (pF hlt) ?_
 refine mQ.lU (ah hlt) ?_
 refine qc [] aag (Ad G l[i] (fun e=>by rw [e]at h6;cases h6) aai) aam ?_
 refine mJ.mk' i rfl (by rw [UA hi];exact hlt) ?_
 refine mQ.at (Zh hlt) ?_
 refine lN.i64 aai ?_
 exact lK (i+1) [] [] rfl aaF hlt ⟨⟨rfl,rfl,UC hlt⟩,trivial⟩ ⟨rfl,trivial⟩
theorem agP (G:Glob)(b:By):mP Tryz.prog G 275 [bs b] 0 [] (Is (bv (decide (b.length≠64)))):=by
 refine lJ func275 rfl mixed aag ?_
 refine lQ [] (congrArg Value.bool ?_)
 rw [aj]
 by_cases h:b.length=64
 ·simp [h]
 ·simp [h];omega
theorem adl (G:Glob)(l:List By)(h64:Ux l)(hl:l.length<=1000):mP Tryz.prog G 322 [ss l,fnV 275] 0 [] (Is (iv (-1))):=by
 refine lJ func322 rfl mixed aag ?_
 refine Ry aci [8] (fun i:Nat=> [(8,iv i)]) (fun i=>i<=l.length) (fun i=>l.length-i) 0 aag (fun _=>rfl) aag (aH _) aam aam ?_
 intro i hi
 apply lH<;>intro h
 rotate_left
 ·exact lQ [] rfl
 have hlt:i<l.length:=aaG
 have h6:=h64 l[i] (aV hlt)
 have hw:=agP G l[i]
 rw [h6]at hw
 refine mJ.mk' i rfl (pF hlt) ?_
 refine mQ.lU (ah hlt) ?_
 refine lM [] aag hw rfl aam ?_
 refine lN.i64 aai ?_
 exact lK (i+1) [] [] rfl aaF hlt aam ⟨rfl,trivial⟩
theorem Ii (G:Glob)(l:List By)(h64:Ux l)(hl:l.length<=1000):mP Tryz.prog G 276 [ss l,fnV 275] 0 [] (Is (bv false)):=by
 refine lJ func276 rfl mixed aag ?_
 (refine lM [] aag (adl G l h64 hl) rfl ?_ ?_;(focus trivial))
 exact lQ [] rfl
theorem JR (G:Glob)(n:Nat)(h1:n%2=0)(h2:8<=n)(h3:n<=256):mP Tryz.prog G 60 [iv n] 0 [] (Is (bv true)):=by
 refine lJ func60 rfl mixed aag ?_
 conv=>whnf
 have hm:((n:Int)).tmod 2=((n%2:Nat):Int):=rfl
 refine lW.mk aaw ?_
 rw [hm,h1]
 apply lH<;>intro h
 rotate_left
 ·exfalso;simp at h;omega
 exact lQ [] (congrArg Value.bool aev)
theorem Sr (G:Glob)(d:Dk)(h:d.ok):mP Tryz.prog G 208 [Ak d] 0 [] (Is (bv true)):=by
 obtain⟨h1,h2,h3,h4,h5,h6,h7,h8⟩:=h
 have hs:=JR G d.now.length h1 h2 h3
 have hs:mP Tryz.prog G 60 [iv ((d.now.map xP).length:Nat)] 0 [] (Is (bv true)):=by rw [aj];exact hs
 refine lJ func208 rfl mixed aag ?_
 (refine lM [] aag (hs) rfl ?_ ?_;(focus trivial))
 apply lH<;>intro h
 ·exfalso;rw [aj,aj]at h;simp at h;omega
 apply lH<;>intro h
 ·exfalso;simp at h;omega
 apply lH<;>intro h
 ·exfalso;simp at h;omega
 apply lH<;>intro h
 ·exfalso;simp at h;omega
 (refine lM [] aag (Ii G d.now h7 aai) rfl ?_ ?_;(focus trivial))
 (refine lM [] aag (Ii G d.safe h8 aai) rfl ?_ ?_;(focus trivial))
 exact lQ [] rfl
theorem V3 (G:Glob):mP Tryz.prog G 60 [iv 0] 0 [] (Is (bv false)):=by
 refine lJ func60 rfl mixed aag ?_
 refine lW.mk aaw ?_
 exact lQ [] rfl
theorem adn (G:Glob):mP Tryz.prog G 208 [Ak Dk.zero] 0 [] (Is (bv false)):=by
 refine lJ func208 rfl mixed aag ?_
 (refine lM [] aag (V3 G) rfl ?_ ?_;(focus trivial))
 exact lQ [] rfl
def EO (d:Dk):Int:=if d.dead then 40 else 0
theorem Sv (G:Glob)(d:Dk)(h:d.ok):mP Tryz.prog G 140 [Ak d] 0 [] (Is (iv (EO d))):=by
 refine lJ func140 rfl mixed aag ?_
 (refine lM [] aag (Sr G d h) rfl ?_ ?_;(focus trivial))
 apply lH<;>intro h
 ·exact lQ [] (nN (by unfold EO;rw [if_pos h]))
 ·exact lQ [] (nN (by unfold EO;rw [h];rfl))
theorem agQ (G:Glob)(d:Dk)(h:d.ok):mP Tryz.prog G 62 [Ak d,iv 0] 0 [] (fun a n H=>n=0∧H = []∧∃b,a = .og [bs b,iv (EO d)]):=by
 have hr:=Sv G d h
 have hlo:=h.lo
 have h0:0<d.now.length:=aai
 have h6:=h.n64 d.now[0] (aV h0)
 unfold EO at hr ⊢
 refine lJ func62 rfl mixed aag ?_
 (refine lM [] aag (hr) rfl ?_ ?_;(focus trivial))
 conv=>whnf
 cases hd:d.dead with
 | true=>
  simp only [hd,if_true]
  exact nI (.og [bs [],iv 40]) 0 [] [] [] ⟨rfl,rfl,[],rfl⟩ rfl trivial aam
 | false=>
  simp only [hd,aX,if_false]
  apply lH<;>intro h
  ·exfalso;simp at h;rw [h]at h0;exact absurd h0 aaw
  refine mJ.mk' 0 rfl (pF h0) ?_
  refine mQ.lU (ah h0) ?_
  refine qc [] aag (Ad G d.now[0] (fun e=>by rw [e]at h6;cases h6) aai) aam ?_
  refine nI (.og [bs d.now[0],iv 0]) 0 [] [] [1] ⟨rfl,rfl,_,rfl⟩ rfl trivial aam
def CpD (T:Nat)(d:Dk)(a:AV)(n:Nat)(H:lI):Prop:=a = .agg [.own 0, .own 1,iv d.fuse,iv d.ops,bv d.dead]∧n=2∧H = [(0, .rows T 1 (d.now.map xP)),(1, .rows T 1 (d.safe.map xP))]
theorem Po (G:Glob)(d:Dk)(h:d.ok):mP Tryz.prog G 207 [Ak d] 0 [] (CpD 38 d):=by
 have hhi:=h.hi
 have hsf:=h.sf
 refine lJ func207 rfl mixed aag ?_
 (refine lX afY [] aag ?_;conv=>whnf)
 refine qc [] aag (FU G d.now h.n64 aai) aam ?_
 refine qc [] aag (FU G d.safe h.f64 aai) aam ?_
 exact nI (.agg [.own 0, .own 1,iv d.fuse,iv d.ops,bv d.dead]) 2 _ [(0, .lab 2),(1, .lab 3)] [] ⟨rfl,rfl,rfl⟩ rfl aam aam
def dWt (d:Dk)(n:Nat)(b:By):AV:=if d.dead then .og [Ak Dk.zero,iv 40]else if d.fuse=0 then .og [Ak d.dying,iv 40]else .og [Ak (d.put n b),iv 0]
theorem EP {G:Glob}{n n1:Nat}{H1:lI}{a:AV}{K:AV->Nat->lI->Prop}(a':AV)(Z:List Nat)(k:Ax.spine (Ox n H1) fun H0=>K a' n H0)(hwf:Nr n n [] Z (Ox n H1)=true)(hH:Qu H1 [] Z n (Ox n H1))(hc:co H1 [] Z n a' a):G9 G n K a n1 H1:=
 nI a' n _ [] Z (by rw [Ax.pq]at k;exact k) hwf hH hc
theorem UD {G:Glob}{n n1:Nat}{H1:lI}{a:AV}{K:AV->Nat->lI->Prop}(hn:n<=n1)(k:K a n1 H1):G9 G n K a n1 H1:=
 ⟨⟨a,n1,H1,k,hn,fun _ _ _ σ' F' _ _ s r=>⟨σ',F',s,r,fun _ _=>rfl,fun _ h=>h⟩⟩⟩
theorem ado (G:Glob)(d:Dk)(h:d.ok)(n:Nat)(hn:n<d.now.length)(b:By)(hb:b.length=64):mP Tryz.prog G 227 [Ak d,iv n,bs b] 0 [] (Is (dWt d n b)):=by
 have hr:=Sv G d h
 have hC:=Po G d h
 obtain⟨h1,h2,h3,h4,h5,h6,h7,h8⟩:=h
 obtain⟨now,safe,fuse,ops,dead⟩:=d
 unfold EO at hr
 unfold dWt
 unfold CpD at hC
 simp only at *
 refine lJ func227 rfl mixed aag ?_
 (refine lM [] aag (hr) rfl ?_ ?_;(focus trivial))
 cases dead with
 | true=>
  simp only [if_true]
  exact lQ [] aam
 | false=>
  simp only [aX,if_false]at *
  apply lH<;>intro h
  ·exfalso;rw [aj]at h;simp at h;omega
  apply lH<;>intro h
  ·exfalso;rw [aj,hb]at h;simp at h
  (refine nJ aag (lJ func294 rfl mixed aag ?_);(conv=>whnf))
  refine qc [] aag hC aam ?_
  apply lH<;>intro h
  ·have hf:fuse=0:=aaE
   rw [if_pos hf]
   refine EP (.og [Ak (Dk.dying ⟨now,safe,fuse,ops,false⟩),iv 40]) [6,7] ?_ rfl ?_ ?_
   rotate_left
   ·trivial
   ·trivial
   exact lQ [] aam
  have hf:fuse≠0:=aaE
  rw [if_neg hf]
  apply lH<;>intro h
  ·refine lN.i64 aai ?_
   (refine nJ aag (lJ func295 rfl mixed aag ?_);(conv=>whnf))
   (refine lX X6 [] aag ?_;conv=>whnf)
   refine qc [] aag (Ad G b (fun e=>by rw [e]at hb;cases hb) aai) aam ?_
   refine mJ.mk' n rfl (pF hn) ?_
   refine mQ.lU (ah hn) ?_
   refine EP (.og []) [] ?_ rfl ?_ ?_
   rotate_left
   ·trivial
   ·trivial
   refine lN.i64 aai ?_
   refine EP (.og [Ak (Dk.put ⟨now,safe,fuse,ops,false⟩ n b),iv 0]) [6,7] ?_ rfl ?_ ?_
   rotate_left
   ·trivial
   ·exact⟨⟨⟨rfl,rfl,dF.symm⟩,⟨rfl,rfl,rfl⟩,nN (by simp at h;show (fuse-1)=if 0<fuse then fuse-1 else fuse;split<;>omega),rfl,rfl,trivial⟩,rfl,trivial⟩
   exact lQ [] aam
  ·(refine nJ aag (lJ func295 rfl mixed aag ?_);(conv=>whnf))
   (refine lX X6 [] aag ?_;conv=>whnf)
   refine qc [] aag (Ad G b (fun e=>by rw [e]at hb;cases hb) aai) aam ?_
   refine mJ.mk' n rfl (pF hn) ?_
   refine mQ.lU (ah hn) ?_
   refine EP (.og []) [] ?_ rfl ?_ ?_
   rotate_left
   ·trivial
   ·trivial
   refine lN.i64 aai ?_
   refine EP (.og [Ak (Dk.put ⟨now,safe,fuse,ops,false⟩ n b),iv 0]) [6,7] ?_ rfl ?_ ?_
   rotate_left
   ·trivial
   ·exact⟨⟨⟨rfl,rfl,dF.symm⟩,⟨rfl,rfl,rfl⟩,nN (by simp at h;show fuse=if 0<fuse then fuse-1 else fuse;split<;>omega),rfl,rfl,trivial⟩,rfl,trivial⟩
   exact lQ [] aam
def dFl (d:Dk):AV:=if d.dead then .og [Ak Dk.zero,iv 40]else if d.fuse=0 then .og [Ak d.dying,iv 40]else .og [Ak d.flush,iv 0]
theorem adp (G:Glob)(d:Dk)(h:d.ok):mP Tryz.prog G 229 [Ak d] 0 [] (Is (dFl d)):=by
 have hr:=Sv G d h
 have hC:=Po G d h
 obtain⟨h1,h2,h3,h4,h5,h6,h7,h8⟩:=h
 obtain⟨now,safe,fuse,ops,dead⟩:=d
 unfold EO at hr
 unfold dFl
 unfold CpD at hC
 simp only at *
 refine lJ func229 rfl mixed aag ?_
 (refine lM [] aag (hr) rfl ?_ ?_;(focus trivial))
 cases dead with
 | true=>
  simp only [if_true]
  exact lQ [] aam
 | false=>
  simp only [aX,if_false]at *
  (refine nJ aag (lJ func294 rfl mixed aag ?_);(conv=>whnf))
  refine qc [] aag hC aam ?_
  apply lH<;>intro h
  ·have hf:fuse=0:=aaE
   rw [if_pos hf]
   refine EP (.og [Ak (Dk.dying ⟨now,safe,fuse,ops,false⟩),iv 40]) [4,5] ?_ rfl ?_ ?_
   rotate_left
   ·trivial
   ·trivial
   exact lQ [] aam
  have hf:fuse≠0:=aaE
  rw [if_neg hf]
  apply lH<;>intro h
  ·refine lN.i64 aai ?_
   (refine nJ aag (lJ func296 rfl mixed aag ?_);(conv=>whnf))
   refine qc [4] aag (FU G now h7 aai) aam ?_
   refine UD aaw ?_
   refine lN.i64 aai ?_
   refine EP (.og [Ak (Dk.flush ⟨now,safe,fuse,ops,false⟩),iv 0]) [7] ?_ rfl ?_ ?_
   rotate_left
   ·trivial
   ·exact⟨⟨⟨rfl,rfl⟩,⟨rfl,rfl,rfl⟩,nN (by simp at h;show (fuse-1)=if 0<fuse then fuse-1 else fuse;split<;>omega),rfl,rfl,trivial⟩,rfl,trivial⟩
   exact lQ [] aam
  ·(refine nJ aag (lJ func296 rfl mixed aag ?_);(conv=>whnf))
   refine qc [4] aag (FU G now h7 aai) aam ?_
   refine UD aaw ?_
   refine lN.i64 aai ?_
   refine EP (.og [Ak (Dk.flush ⟨now,safe,fuse,ops,false⟩),iv 0]) [7] ?_ rfl ?_ ?_
   rotate_left
   ·trivial
   ·exact⟨⟨⟨rfl,rfl⟩,⟨rfl,rfl,rfl⟩,nN (by simp at h;show fuse=if 0<fuse then fuse-1 else fuse;split<;>omega),rfl,rfl,trivial⟩,rfl,trivial⟩
   exact lQ [] aam
abbrev stC (s:So):List AV:=dkC s.d++ [iv s.gen,iv s.half,iv s.next,iv s.frame,el s.ev]
abbrev stA (s:So):AV:= .agg (stC s)
theorem Pq {l:List By}{i:Nat}(h:i<l.length):(l.take (i+1)).map xP=(l.take i).map xP++ [[.lst 1 (l[i].map wJ)]]:=by
 rw [aG h,aS];rfl
theorem Pv (G:Glob)(l:List By)(h64:Ux l)(hl:l.length<=1000):mP Tryz.prog G 141 [ss l] 0 [] (Is (ss l)):=by
 refine lJ func141 rfl mixed aag ?_
 refine mY abA 1 [3,8] (fun i:Nat=> [(3, .own 0),(8,iv i)]) (fun i=> [(0, .rows 38 1 ((l.take i).map xP))]) (fun i=>i<=l.length) (fun i=>l.length-i) [(0, .nil)] [] 0 aag (fun _=>rfl) rfl (aH _) aam aam ?_
 intro i hi
 apply lH<;>intro h
 rotate_left
 ·have hie:i=l.length:=aaG
  subst hie
  rw [aZ]
  exact lQ [0] aam
 have hlt:i<l.length:=aaG
 have h6:=h64 l[i] (aV hlt)
 refine mJ.mk' i rfl (pF hlt) ?_
 refine mQ.lU (ah hlt) ?_
 refine qc [] aag (Ad G l[i] (fun e=>by rw [e]at h6;cases h6) aai) aam ?_
 refine lW.mk (nG aaL aag) ?_
 refine lN.i64 aai ?_
 exact lK (i+1) [(0, .lab 3)] [] rfl aaF hlt ⟨⟨rfl,rfl,(Pq hlt).symm⟩,trivial⟩ ⟨rfl,rfl,trivial⟩
theorem Ae (G:Glob)(l:List By)(h64:Ux l)(hl:l.length<=1000):mP Tryz.prog G 111 [ss l] 0 [] (Is (ss l)):=by
 refine lJ func111 rfl mixed aag ?_
 refine mY abu 1 [3,8] (fun i:Nat=> [(3, .own 0),(8,iv i)]) (fun i=> [(0, .rows 38 1 ((l.take i).map xP))]) (fun i=>i<=l.length) (fun i=>l.length-i) [(0, .nil)] [] 0 aag (fun _=>rfl) rfl (aH _) aam aam ?_
 intro i hi
 apply lH<;>intro h
 rotate_left
 ·have hie:i=l.length:=aaG
  subst hie
  rw [aZ]
  exact lQ [0] aam
 have hlt:i<l.length:=aaG
 have h6:=h64 l[i] (aV hlt)
 refine mJ.mk' i rfl (pF hlt) ?_
 refine mQ.lU (ah hlt) ?_
 refine qc [] aag (Ad G l[i] (fun e=>by rw [e]at h6;cases h6) aai) aam ?_
 refine lW.mk (nG aaL aag) ?_
 refine lN.i64 aai ?_
 exact lK (i+1) [(0, .lab 3)] [] rfl aaF hlt ⟨⟨rfl,rfl,(Pq hlt).symm⟩,trivial⟩ ⟨rfl,rfl,trivial⟩
theorem Zi (G:Glob)(d:Dk)(h:d.ok):mP Tryz.prog G 64 [Ak d] 0 [] (Is (Ak d)):=by
 have hhi:=h.hi
 have hsf:=h.sf
 refine lJ func64 rfl mixed aag ?_
 (refine lX aiE [] aag ?_;conv=>whnf)
 repeat' (first
  | (refine oD [] aag (Pv G d.now h.n64 aai) ?_ ?_;(focus (trivial;done));rintro _ _ _ ⟨rfl,rfl,rfl⟩;conv=>whnf)
  | (refine oD [] aag (Pv G d.safe h.f64 aai) ?_ ?_;(focus (trivial;done));rintro _ _ _ ⟨rfl,rfl,rfl⟩;conv=>whnf))
 exact lQ [] aam
theorem leftA (G:Glob)(d d':Dk)(h:d'.ok):mP Tryz.prog G 228 [Ak d,Ak d'] 0 [] (Is (Ak d')):=by
 refine lJ func228 rfl mixed aag ?_
 (refine lM [] aag (Sr G d' h) rfl ?_ ?_;(focus trivial))
 exact lQ [] aam
theorem Zj (G:Glob)(d:Dk)(h:d.ok):mP Tryz.prog G 228 [Ak d,Ak Dk.zero] 0 [] (Is (Ak d)):=by
 refine lJ func228 rfl mixed aag ?_
 (refine lM [] aag (adn G) rfl ?_ ?_;(focus trivial))
 refine qc [] aag (Zi G d h) aam ?_
 exact lQ [] aam
structure WS where
 d:Dk
 i:Nat
theorem UE (G:Glob)(d:Dk)(h:d.ok)(at_:Nat)(l:List By)(h64:Ux l)(hat:at_+l.length<=d.now.length):mP Tryz.prog G 147 [Ak d,iv at_,ss l] 0 [] (Is (.og [Ak (Dw d at_ l).1,iv (Dw d at_ l).2])):=by
 have hhi:=h.hi
 refine lJ func147 rfl mixed aag ?_
 refine mY abC 2 [16] (fun x:WS=> [(16,iv x.i)]) (fun x=> [(0, .var 35 (dkC x.d)),(1, .var 35 [.v (.slice none 0 0), .v (.slice none 0 0),iv 0,iv 0,bv false])]) (fun x=>x.i<=l.length∧x.d.ok∧x.d.now.length=d.now.length∧Dw d at_ l=Dw x.d (at_+x.i) (l.drop x.i)) (fun x=>l.length-x.i) [] [] ⟨d,0⟩ aag (fun _=>rfl) rfl ⟨aH _,h,rfl,rfl⟩ aam aam ?_
 rintro⟨d1,i⟩ ⟨hi,hok,hlen,hw⟩
 dsimp only at hi hok hlen hw
 rw [hw]
 apply lH<;>intro h
 ·have hlt:i<l.length:=aaG
  have h6:=h64 l[i] (aV hlt)
  have hstep:Dw d1 (at_+i) (l.drop i)=if d1.dead then(d1,40)else if d1.fuse=0 then(d1.dying,40)else Dw (d1.put (at_+i) l[i]) (at_+i+1) (l.drop (i+1)):=by
   rw [dH hlt];rfl
  have hW:=ado G d1 hok (at_+i) aai l[i] h6
  unfold dWt at hW
  refine mJ.mk' i rfl (pF hlt) ?_
  refine mQ.lU (ah hlt) ?_
  refine lN.to (y:=((at_+i:Nat):Int)) (by dsimp only;rw [IntWalk.i64_in _ aai];omega) ?_
  conv=>whnf
  rcases kM d1.dead with hd|hd
  ·skip
   rw [hd,if_pos rfl]at hW hstep
   rw [hstep]
   refine qc [] aag hW aam ?_
   refine qc [] aag (Zj G d1 hok) aam ?_
   exact lQ [] aam
  ·rw [hd,if_neg aaw]at hW hstep
   by_cases hf:d1.fuse=0
   ·rw [if_pos hf]at hW hstep
    rw [hstep]
    refine qc [] aag hW aam ?_
    refine qc [] aag (leftA G d1 d1.dying hok.dying) aam ?_
    exact lQ [] aam
   ·rw [if_neg hf]at hW hstep
    refine qc [] aag hW aam ?_
    refine lN.i64 aaI ?_
    refine lK ⟨d1.put (at_+i) l[i],i+1⟩ [] [] rfl aaF ⟨hlt,hok.put h6, ?_,hstep⟩ aam ⟨rfl,trivial⟩
    show (d1.now.set (at_+i) l[i]).length=d.now.length
    rw [bJ];exact hlen
 have hie:i=l.length:=aaG
 subst hie
 have hstep:Dw d1 (at_+l.length) (l.drop l.length)=if d1.dead then(d1,40)else if d1.fuse=0 then(d1.dying,40)else(d1.flush,0):=by
  rw [iO];rfl
 have hW:=adp G d1 hok
 unfold dFl at hW
 rw [hstep]
 conv=>whnf
 rcases kM d1.dead with hd|hd
 ·skip
  rw [hd,if_pos rfl]at hW
  simp only [if_pos hd]
  refine qc [] aag hW aam ?_
  refine qc [] aag (Zj G d1 hok) aam ?_
  exact lQ [] aam
 ·rw [hd,if_neg aaw]at hW
  simp only [if_neg (show ¬(d1.dead=true) by rw [hd];decide)]
  by_cases hf:d1.fuse=0
  ·rw [if_pos hf]at hW ⊢
   refine qc [] aag hW aam ?_
   refine qc [] aag (leftA G d1 d1.dying hok.dying) aam ?_
   exact lQ [] aam
  ·rw [if_neg hf]at hW ⊢
   refine qc [] aag hW aam ?_
   refine qc [] aag (leftA G d1 d1.flush hok.flush) aam ?_
   exact lQ [] aam
def z64:By:=List.replicate 64 0
def dk0 (n:Nat):Dk:=⟨List.replicate n z64,List.replicate n z64, -1,0,false⟩
theorem UF (n:Nat):Ux (List.replicate n z64):=fun s hs=>by rw [(List.mem_replicate.1 hs).2];rfl
theorem Sz {n:Nat}(h1:n%2=0)(h2:8<=n)(h3:n<=256):(dk0 n).ok:=by
 refine⟨?_, ?_, ?_,rfl,⟨kG (-1),by show (-1:Int)<=9223372036854775807;decide⟩,⟨kG 0,by show (0:Int)<=4611686018427387904;decide⟩,UF n,UF n⟩<;>simp [dk0]<;>omega
theorem agR:List.replicate 64 [FV.v (Value.int .u8 0)]=z64.map wJ:=rfl
theorem Zk (G:Glob)(n:Nat)(hn:n<=256):mP Tryz.prog G 61 [iv n] 0 [] (vZ 38 1 ((List.replicate n z64).map xP)):=by
 obtain⟨l,hl⟩ : ∃l,l=List.replicate n z64:=⟨_,rfl⟩
 have hln:l.length=n:=by rw [hl,dX]
 rw [<-hl]
 have hz : ∀i (h:i<l.length),xP l[i] = [FV.lst 1 (List.replicate 64 [FV.v (Value.int .u8 0)])]:=fun i h=>by
  subst hl
  rw [List.getElem_replicate,agR];rfl
 refine lJ func61 rfl mixed aag ?_
 refine uT.mk' n rfl rfl ⟨by show 24*n<=_;omega,by unfold maxLen;omega⟩ ?_
 refine mY afu 1 [10] (fun i:Nat=> [(10,iv i)]) (fun i=> [(0, .rows 38 1 (Uy l i))]) (fun i=>i<=l.length) (fun i=>l.length-i) [] [] 0 aag (fun _=>rfl) rfl (aH _) ⟨⟨rfl,rfl,by rw [Pn,hln];rfl⟩,trivial⟩ ⟨rfl,trivial⟩ ?_
 intro i hi
 apply lH<;>intro h
 rotate_left
 ·have hie:i=l.length:=aaG
  subst hie
  rw [Uz]
  exact nI (.own 0) 1 _ [(0, .lab 0)] [] ⟨rfl,rfl,rfl⟩ rfl aam aam
 have hlt:i<l.length:=aaG
 refine mJ.mk' i rfl (by rw [UA hi];exact hlt) ?_
 refine mQ.at (Zh hlt) ?_
 refine lN.i64 aai ?_
 exact lK (i+1) [] [] rfl aaF hlt ⟨⟨rfl,rfl,(congrArg ((Uy l i).set i) (hz i hlt).symm).trans (UC hlt)⟩,trivial⟩ ⟨rfl,trivial⟩
theorem agS (G:Glob)(n:Nat)(h1:n%2=0)(h2:8<=n)(h3:n<=256):mP Tryz.prog G 20 [iv n] 0 [] (Is (.og [Ak (dk0 n),iv 0])):=by
 refine lJ func20 rfl mixed aag ?_
 (refine lM [] aag (JR G n h1 h2 h3) rfl ?_ ?_;(focus trivial))
 refine qc [] aag (Zk G n h3) aam ?_
 refine qc [0] aag (Zk G n h3) aam ?_
 exact lQ [1,2] aam
section
attribute [local irreducible] BA uN Y9
theorem ajo:e0.ok:=by constructor<;>(first|exact⟨by decide,by decide⟩|decide)
theorem ajp:Y8 e0=0:=aag
theorem Zl:(Y9 [e0]).length<=1000:=aF aag
theorem wZ:mP Tryz.prog GS 191 [Uo e0] 0 [] (Is (.v (.int .i64 0))):=by
 have h:=ac9 e0 ajo
 rwa [ajp]at h
def tbK (l:List Ev)(i:Nat):By:=(if l = []then [0]else [2])++if i=0 then []else Y9 l
theorem UG:mP Tryz.prog GS 145 [el []] 0 [] (Is (.og [bs (tbK [] 0),iv 0])):=by
 have hcl:=Zl
 refine yI func145 rfl mixed aag ?_
 conv=>whnf
 repeat' (first|(refine mV aag (wZ) ?_ ?_;(focus (trivial;done));rintro _ _ _ ⟨rfl,rfl,rfl⟩;(conv=>whnf))|(refine mV aag (Zd GS (List.map wX [])) ?_ ?_;(focus (trivial;done));rintro _ _ _ ⟨rfl,rfl,rfl⟩;(conv=>whnf))|(refine lN.fr ?_;conv=>whnf)|(refine lW.mk aaw ?_;conv=>whnf)|(refine rM 9 ?_;conv=>whnf)|(refine nJ aag (lJ acr rfl mixed aag ?_);conv=>whnf)|(refine pO acr ?_;conv=>whnf)|(refine mJ.mk ⟨_,rfl,by decide, ?_⟩;conv=>whnf)|(refine uo.mk ⟨_,_,rfl,rfl,by decide,by decide, ?_⟩;conv=>whnf)|(refine mQ.mk ⟨_,rfl, ?_⟩;conv=>whnf)|(refine uT.mk ⟨_,_,rfl,rfl,by decide,by decide,by decide, ?_⟩;conv=>whnf)|(refine oH.mk fun b hb=> ?_;obtain rfl:=hb aaw;conv=>whnf)|(refine oH.mk fun b hb=> ?_;cases b<;>(conv=>whnf))|(refine yc.mk aag rfl rfl ?_;conv=>whnf))
 refine Bc (Za GS (List.map wX []) aaw) 7 (fun i=> [(5, .var 38 [.own 6]),(6, .rows 5 1 ((tbK [] i).map wJ))]) [(6, .lab 4)] [] rfl aag rfl (fun x hx=> ?_) rfl aam (fun i x hx=> ?_) ?_
 ·obtain⟨j,_,rfl⟩:=dW.1 hx
  rfl
 ·cases hx
 ·exact nI (.og [bs (tbK [] 0),iv 0]) 0 [] [] [6] ⟨rfl,rfl,rfl⟩ rfl trivial aam
theorem adq:mP Tryz.prog GS 145 [el [e0]] 0 [] (Is (.og [bs (tbK [e0] 1),iv 0])):=by
 have hcl:=Zl
 refine yI func145 rfl mixed aag ?_
 conv=>whnf
 repeat' (first|(refine mV aag (wZ) ?_ ?_;(focus (trivial;done));rintro _ _ _ ⟨rfl,rfl,rfl⟩;(conv=>whnf))|(refine mV aag (Zd GS (List.map wX [e0])) ?_ ?_;(focus (trivial;done));rintro _ _ _ ⟨rfl,rfl,rfl⟩;(conv=>whnf))|(refine lN.fr ?_;conv=>whnf)|(refine lW.mk aaw ?_;conv=>whnf)|(refine rM 9 ?_;conv=>whnf)|(refine nJ aag (lJ acr rfl mixed aag ?_);conv=>whnf)|(refine pO acr ?_;conv=>whnf)|(refine mJ.mk ⟨_,rfl,by decide, ?_⟩;conv=>whnf)|(refine uo.mk ⟨_,_,rfl,rfl,by decide,by decide, ?_⟩;conv=>whnf)|(refine mQ.mk ⟨_,rfl, ?_⟩;conv=>whnf)|(refine uT.mk ⟨_,_,rfl,rfl,by decide,by decide,by decide, ?_⟩;conv=>whnf)|(refine oH.mk fun b hb=> ?_;obtain rfl:=hb aaw;conv=>whnf)|(refine oH.mk fun b hb=> ?_;cases b<;>(conv=>whnf))|(refine yc.mk aag rfl rfl ?_;conv=>whnf))
 refine Bc (Za GS (List.map wX [e0]) aaw) 8 (fun i=> [(6, .var 38 [.own 7]),(7, .rows 5 1 ((tbK [e0] i).map wJ))]) [(7, .lab 5)] [] rfl aag rfl (fun x hx=> ?_) rfl aam (fun i x hx=> ?_) ?_
 ·obtain⟨j,_,rfl⟩:=dW.1 hx
  rfl
 ·match i,hx with
  | 0,hx=>
   injection hx with hx
   subst hx
   (refine lX afQ [] aag ?_;conv=>whnf)
   repeat' (first
    | (refine And.intro ?_ ?_<;>(conv=>whnf))
    | ((refine oD [] aag (agI GS) ?_ ?_;(focus trivial));rintro _ _ _ ⟨rfl,rfl,rfl⟩;conv=>whnf)
    | (refine lW.mk (nG (by simp only [aj];show 1+_<=_;omega) aag) ?_;conv=>whnf))
   exact sN [(7, .lab 8)] [] rfl ⟨⟨rfl,rfl,trivial⟩,⟨rfl,rfl,rfl⟩,trivial⟩
  | k+1,hx=>cases hx
 ·exact nI (.og [bs (tbK [e0] 1),iv 0]) 0 [] [] [7] ⟨rfl,rfl,rfl⟩ rfl trivial aam
end
section
attribute [local irreducible] hsh
theorem Zm (G:Glob):mP Tryz.prog G 144 [bs z64] 0 [] (Is (.og [.agg [iv 0,iv 0,iv 0,iv 0],bv false])):=by
 refine lJ func144 rfl mixed aag ?_
 conv=>whnf
 repeat' (first|exact lQ [] aam|(refine lN.fr ?_;conv=>whnf)|(refine lW.mk aaw ?_;conv=>whnf)|(refine rM 9 ?_;conv=>whnf)|(refine nJ aag (lJ acr rfl mixed aag ?_);conv=>whnf)|(refine pO acr ?_;conv=>whnf)|(refine mJ.mk ⟨_,rfl,by decide, ?_⟩;conv=>whnf)|(refine uo.mk ⟨_,_,rfl,rfl,by decide,by decide, ?_⟩;conv=>whnf)|(refine mQ.mk ⟨_,rfl, ?_⟩;conv=>whnf)|(refine uT.mk ⟨_,_,rfl,rfl,by decide,by decide,by decide, ?_⟩;conv=>whnf)|(refine oH.mk fun b hb=> ?_;obtain rfl:=hb aaw;conv=>whnf)|(refine oH.mk fun b hb=> ?_;cases b<;>(conv=>whnf))|(refine yc.mk aag rfl rfl ?_;conv=>whnf)|(refine lX afP [0] aaQ ?_;conv=>whnf))
theorem ajq (G:Glob)(m:Nat)(h0:0<m):mP Tryz.prog G 65 [ss (List.replicate m z64)] 0 [] (Is (.og [iv 0,ss [],bv false])):=by
 have hg:((List.replicate m z64).map xP)[0]? = some (xP z64):=by rw [aJ,gy,if_pos h0];rfl
 have hl:((List.replicate m z64).map xP).length=m:=by rw [aj,dX]
 show mP Tryz.prog G 65 [.lst 1 ((List.replicate m z64).map xP)] 0 [] _
 generalize (List.replicate m z64).map xP=L at *
 refine lJ func65 rfl mixed aag ?_
 conv=>whnf
 repeat' (first|exact lQ [] aam|(refine mV aag (Zm G) ?_ ?_;(focus (trivial;done));rintro _ _ _ ⟨rfl,rfl,rfl⟩;(conv=>whnf))|(refine nJ aag (lJ func142 rfl mixed aag ?_);(conv=>whnf))|(apply lH<;>intro h<;>(first|(exfalso;simp [hl]at h;omega)|(conv=>whnf)))|(refine mJ.mk' 0 rfl (by rw [hl];exact h0) ?_;conv=>whnf)|(refine mQ.at hg ?_;conv=>whnf)|(refine pO acr ?_;conv=>whnf)|(refine lW.mk aaw ?_;conv=>whnf))
def sc0:List By:=I7 1 0 [0]
def so0 (n:Nat):So:=⟨(Dw (dk0 n) 0 sc0).1,1,0,1,1,[]⟩
theorem Zn:Ji 1 0 [0]=0∧sc0.length=1∧Ux sc0:=by
 have h:Ji 1 0 [0]=0:=aag
 have hL:sc0=secs 1 0 [0]:=by unfold sc0 I7;rw [if_pos h];rfl
 refine⟨h, ?_,fun s hs=> ?_⟩
 ·rw [hL,zB];kernel_rfl
 ·rw [hL]at hs;exact O5 hs
theorem adr (n:Nat){l:List By}(h:l.length=1):(Dw (dk0 n) 0 l).2=0:=by
 match l,h with
 | [s],_=>rfl
attribute [local irreducible] I7 Ji sc0 Dw
def sZ (n:Nat):So:=⟨dk0 n,0,1,0,0,[]⟩
theorem Zo:mP Tryz.prog GS 106 [el []] 0 [] (Is (el [])):=by
 refine lJ func106 rfl mixed aag ?_
 refine⟨fun b hb=> ?_⟩
 cases b with
 | true=>
  exact lQ [] aam
 | false=>
  refine lW.mk (aeo aaw) ?_
  exact lQ [1] aam
theorem V4 (m:Nat)(h2:4<=m)(h3:m<=128):mP Tryz.prog GS 67 [stA (sZ (2*m))] 0 [] (Is (.og [stA (so0 (2*m)),iv 0])):=by
 obtain⟨n,hn⟩ : ∃n,n=2*m:=⟨_,rfl⟩
 rw [<-hn]
 have hok:(dk0 n).ok:=Sz aai aai aai
 obtain⟨s0,s1,s2⟩:=Zn
 have hS:=Ih GS 1 0 [0] aaw
 rw [s0,show I7 1 0 [0]=sc0 by unfold sc0;rfl]at hS
 have hL:(dk0 n).now.length=n:=dX ..
 have hW:=UE GS (dk0 n) hok 0 sc0 s2 (by rw [s1,hL];omega)
 rw [adr n s1]at hW
 have hg : ∀i,i<n->((dk0 n).now.map xP)[i]? = some (xP z64):=fun i h=>by
  show ((List.replicate n z64).map xP)[i]? = _
  rw [aJ,gy,if_pos h];rfl
 have hml:((dk0 n).now.map xP).length=n:=by rw [aj,hL]
 have hsl:(sc0.map xP).length=1:=by rw [aj,s1]
 obtain⟨x,hx⟩ : ∃x,sc0.map xP = [x]:=List.length_eq_one_iff.1 hsl
 have hS:mP Tryz.prog GS 146 [iv 1,iv 0,bs [0]] 0 [] (Is (.og [.lst 1 [x],iv 0])):=by rw [<-hx];exact hS
 have hW:mP Tryz.prog GS 147 [Ak (dk0 n),iv ((0:Nat):Int), .lst 1 [x]] 0 [] (Is (.og [Ak (Dw (dk0 n) 0 sc0).1,iv 0])):=by rw [<-hx];exact hW
 unfold so0 sZ
 generalize Dw (dk0 n) 0 sc0=D at *
 generalize dk0 n=d at *
 refine lJ func67 rfl mixed aag ?_
 refine Ry afv [4,21] (fun i:Nat=> [(4,iv 0),(21,iv i)]) (fun i=>i<=n) (fun i=>n-i) 0 aag (fun _=>rfl) aag (aH _) aam aam ?_
 intro i hi
 apply lH<;>intro h
 ·have hlt:i<n:=by simp [hL]at h;omega
  refine mJ.mk' i rfl (by rw [hml];exact hlt) ?_
  refine mQ.at (hg i hlt) ?_
  refine qc [] aag (Zm GS) aam ?_
  refine lN.i64 aai ?_
  exact lK (i+1) [] [] rfl (by show n -(i+1)<n-i;omega) hlt aam aam
 have hie:i=n:=by simp [hL]at h;omega
 subst hie
 refine qc [] aag (UG) aam ?_
 refine lW.mk aaw ?_
 rw [hml]
 refine lN.divN i 2 aai ?_
 refine lN.fr ?_
 refine qc [] aag (hS) aam ?_
 apply lH<;>intro h
 ·exfalso;simp at h;omega
 refine lN.fr ?_
 refine lN.to (y:=((0:Nat):Int)) (by rw [show Int.ofNat 0*_=0 from Int.zero_mul _];rfl) ?_
 refine qc [] aag (hW) aam ?_
 (refine lX aiF [] aag ?_;conv=>whnf)
 repeat' (first|exact lQ [0,1,2,3,4,5,6] aam|(refine mV aag (Zo) ?_ ?_;(focus (trivial;done));rintro _ _ _ ⟨rfl,rfl,rfl⟩;(conv=>whnf))|(refine lN.fr ?_;conv=>whnf)|(refine lW.mk aaw ?_;conv=>whnf)|(refine rM 9 ?_;conv=>whnf)|(refine nJ aag (lJ acr rfl mixed aag ?_);conv=>whnf)|(refine pO acr ?_;conv=>whnf)|(refine mJ.mk ⟨_,rfl,by decide, ?_⟩;conv=>whnf)|(refine uo.mk ⟨_,_,rfl,rfl,by decide,by decide, ?_⟩;conv=>whnf)|(refine mQ.mk ⟨_,rfl, ?_⟩;conv=>whnf)|(refine uT.mk ⟨_,_,rfl,rfl,by decide,by decide,by decide, ?_⟩;conv=>whnf)|(refine oH.mk fun b hb=> ?_;obtain rfl:=hb aaw;conv=>whnf)|(refine oH.mk fun b hb=> ?_;cases b<;>(conv=>whnf))|(refine yc.mk aag rfl rfl ?_;conv=>whnf))
theorem agV (m:Nat)(h2:4<=m)(h3:m<=128):mP Tryz.prog GS 21 [Ak (dk0 (2*m))] 0 [] (Is (.og [stA (so0 (2*m)),iv 0])):=by
 have hok:(dk0 (2*m)).ok:=Sz aai aai aai
 have hR:=agQ GS (dk0 (2*m)) hok
 rw [show EO (dk0 (2*m))=0 from rfl]at hR
 have hC:=V4 m h2 h3
 have hG:=ajq GS m aai
 have hl:((dk0 (2*m)).now.map xP).length=2*m:=by rw [aj];exact dX ..
 have ht:((dk0 (2*m)).now.map xP).take m=(List.replicate m z64).map xP:=by
  show ((List.replicate (2*m) z64).map xP).take m=_
  rw [<-iw,List.take_replicate,fC aai]
 have hd:((dk0 (2*m)).now.map xP).drop m=(List.replicate m z64).map xP:=by
  show ((List.replicate (2*m) z64).map xP).drop m=_
  rw [<-jw,List.drop_replicate,show 2*m-m=m by omega]
 unfold sZ at hC
 generalize so0 (2*m)=s0 at *
 generalize dk0 (2*m)=d at *
 refine lJ func21 rfl mixed aag ?_
 refine oD [] aag hR aam ?_
 rintro _ _ _ ⟨rfl,rfl,b,rfl⟩
 refine lW.mk aaw ?_
 rw [hl]
 refine lN.divN (2*m) 2 aai ?_
 rw [show 2*m/2=m by omega]
 refine uo.mk' 0 m rfl rfl (aH _) (by rw [hl];omega) ?_
 refine qc [] aag hG ⟨⟨rfl,ht⟩,trivial⟩ ?_
 refine uo.mk' m (2*m) rfl (by rw [hl]) aai (by rw [hl];exact au _) ?_
 refine qc [] aag hG ⟨⟨rfl,hd⟩,trivial⟩ ?_
 refine qc [] aag hC aam ?_
 exact lQ [] aam
end
section
open Ky
def MI (e:Ev):List Value:=(wX e).map fun x=>match x with | .v w=>w|_=> .bool false
theorem V5 (e:Ev):wX e=(MI e).map .v:=rfl
theorem Zp (w:World):zO Tryz.prog 277 #[.slice none 0 0, .int .i64 (0:Nat)] w fun v w'=>v = .slice none 0 0∧Below w.heap.size w w':=by
 refine ou func277 rfl mixed aag ?_
 refine RH rfl ?_
 exact qM.mk ⟨rfl,Below.refl _ _⟩
theorem ads (n:Nat)(hl:n<=1000000):mP Tryz.prog GS 277 [.v (.slice none 0 0),iv n] 0 [] (vZ 63 10 []):=by
 have key:=EL (P:=Tryz.prog) (G:=GS) (f:=277) (args:= [.v (.slice none 0 0),iv n]) (E:=63) (sz:=10) (enc:=wX) (c:=MI) V5 (fun _=>rfl) (fun e v hv=>by
  simp only [MI,wX,gW,kS,bI,iL,or_false]at hv
  rcases hv with rfl|rfl|rfl|rfl|rfl|rfl|rfl|rfl|rfl|rfl<;>rfl) (l:= []) (fun w F σ vs hF r=>by
  match vs,r with
  | [u,y],⟨ru,ry,_⟩=>
   rw [ru.nY,ry.nY]
   rcases bM n with rfl|hn
   ·exact(Zp w).mono fun v w' ⟨e,hB⟩=>⟨none,0,e,Own.nil _ _ _ _,hB⟩
   ·exact(Yc n w hn hl).mono fun v w' ⟨oa,c,e,hO,hB⟩=>⟨oa,c,e,hO,hB⟩)
 exact key
def I8 (a b:List Ev):List (List Ev):= [a,b]
theorem UH (a b:List Ev){i:Nat}(h:i<2):([[FV.lst 10 (a.map wX)],[FV.lst 10 (b.map wX)]]:List (List FV))[i]? = some [.lst 10 (((I8 a b).getD i []).map wX)]:=by
 match i,h with
 | 0,_=>rfl
 | 1,_=>rfl
theorem Zq (a b:List Ev){i:Nat}(h:i<2):((I8 a b).take i).flatten.length+((I8 a b).getD i []).length<=a.length+b.length:=by
 match i,h with
 | 0,_=>simp [I8]
 | 1,_=>simp [I8]
theorem Px (a b:List Ev){i:Nat}(h:i<2):((I8 a b).take (i+1)).flatten=((I8 a b).take i).flatten++(I8 a b).getD i []:=by
 match i,h with
 | 0,_=>simp [I8]
 | 1,_=>simp [I8]
attribute [local irreducible] I8
theorem adt (a b:List Ev)(hl:a.length+b.length<=100000):mP Tryz.prog GS 210 [.lst 1 [[.lst 10 (a.map wX)],[.lst 10 (b.map wX)]]] 0 [] (Is (el (a++b))):=by
 have e2:((I8 a b).take 2).flatten=a++b:=by unfold I8;simp
 have e0:((I8 a b).take 0).flatten = []:=rfl
 refine lJ func210 rfl mixed aag ?_
 refine Ry ab3 [3,11] (fun i:Nat=> [(3,iv (((I8 a b).take i).flatten.length:Nat)),(11,iv i)]) (fun i=>i<=2) (fun i=>2-i) 0 aag (fun _=>rfl) aag (aH _) aam ⟨by rw [e0];rfl,rfl,trivial⟩ ?_
 intro i hi
 apply lH<;>intro h
 ·have hlt:i<2:=aaG
  have hle:=Zq a b hlt
  have hsu:=Px a b hlt
  have hx:(((I8 a b).take (i+1)).flatten.length:Int)=(((I8 a b).take i).flatten.length:Int)+(((I8 a b).getD i []).length:Int):=by rw [hsu,ay,Int.natCast_add]
  have hrow:=UH a b hlt
  generalize (I8 a b).getD i []=x at *
  refine mJ.mk' i rfl hlt ?_
  refine mQ.at hrow ?_
  refine lN.to (y:=(((I8 a b).take (i+1)).flatten.length:Int)) (by rw [aj,hx];exact IntWalk.i64_in _ aai) ?_
  refine lN.i64 aai ?_
  exact lK (i+1) [] [] rfl (by show 2 -(i+1)<2-i;omega) hlt aam ⟨rfl,rfl,trivial⟩
 have hie:i=2:=aaG
 subst hie
 rw [e2]
 have hG:=ads (a++b).length (by rw [ay];omega)
 refine qc [] aag hG aam ?_
 refine mY ab4 2 [6,27] (fun i:Nat=> [(6, .own 1),(27,iv i)]) (fun i=> [(1, .rows 63 10 (((I8 a b).take i).flatten.map wX))]) (fun i=>i<=2) (fun i=>2-i) [(1, .lab 0)] [] 0 aag (fun _=>rfl) rfl (aH _) aam aam ?_
 intro i hi
 apply lH<;>intro h
 rotate_left
 ·have hie:i=2:=aaG
  subst hie
  rw [e2]
  exact lQ [1] aam
 have hlt:i<2:=aaG
 have hle:=Zq a b hlt
 have hsu:=Px a b hlt
 have hrow:=UH a b hlt
 generalize (I8 a b).getD i []=x at *
 refine mJ.mk' i rfl hlt ?_
 refine mQ.at hrow ?_
 refine lW.mk (aeo agA) ?_
 refine lN.i64 aai ?_
 exact lK (i+1) [(1, .lab 2)] [] rfl (by show 2 -(i+1)<2-i;omega) hlt ⟨⟨rfl,rfl,by rw [hsu];exact aS.symm⟩,trivial⟩ ⟨rfl,rfl,trivial⟩
end
section
open Ky
theorem Py : ∀ {l:List By} {d:Dk} {at_:Nat},d.dead=false->d.fuse<0->(Dw d at_ l).2=0∧(Dw d at_ l).1.dead=false∧(Dw d at_ l).1.fuse<0:=by
 intro l
 induction l with
 | nil=>
  intro d at_ h h2
  unfold Dw
  rw [h,if_neg aaw,if_neg aai]
  exact⟨rfl,h,by show (if 0<d.fuse then d.fuse-1 else d.fuse)<0;rw [if_neg aai];exact h2⟩
 | cons s r ih=>
  intro d at_ h h2
  unfold Dw
  rw [h,if_neg aaw,if_neg aai]
  exact ih h (by show (if 0<d.fuse then d.fuse-1 else d.fuse)<0;rw [if_neg aai];exact h2)
def Jk:By:=tbK [e0] 1
theorem agW:Ji 1 1 Jk=0∧Ji 1 0 Jk=0∧nS Jk<=15∧Jk.length<=2000:=⟨by kernel_rfl,by kernel_rfl,aF aag,aF aag⟩
def so1 (d:Dk):So:=⟨(Dw d 1 (I7 1 1 Jk)).1,1,0,1+(nS Jk:Nat),2,[e0]⟩
attribute [local irreducible] hsh num Y9 I7 Ji nS Jk
theorem adu (d:Dk)(hd:d.ok)(hl:d.now.length=32):mP Tryz.prog GS 209 [stA ⟨d,1,0,1,1,[]⟩] 0 [] (Is (bv true)):=by
 refine lJ func209 rfl mixed aag ?_
 (refine lM [] aag (Sr GS d hd) rfl ?_ ?_;(focus trivial))
 conv=>whnf
 repeat' (first
  | (refine mV aag (UG) ?_ ?_;(focus (trivial;done));rintro _ _ _ ⟨rfl,rfl,rfl⟩;(conv=>whnf))
  | (refine lW.mk aaw ?_;rw [aj,hl];refine lN.divN 32 2 aai ?_;conv=>whnf)
  | exact lQ [] rfl)
theorem UJ {g f:Int}{b:By}(h:Ji g f b=0):(I7 g f b).length=nS b∧Ux (I7 g f b):=by
 unfold I7;rw [if_pos h]
 exact⟨zB _ _ _,fun s hs=>O5 hs⟩
theorem Zr (d:Dk)(hd:d.ok)(hl:d.now.length=32)(hdd:d.dead=false)(hf:d.fuse<0):mP Tryz.prog GS 135 [stA ⟨d,1,0,1,1,[]⟩,el [e0]] 0 [] (Is (.og [stA (so1 d),iv 0])):=by
 obtain⟨t1,t2,t3,t4⟩:=agW
 have hV:=adu d hd hl
 have hT:mP Tryz.prog GS 145 [el [e0]] 0 [] (Is (.og [bs Jk,iv 0])):=by unfold Jk;exact adq
 have hC:=adt [] [e0] aaw
 have hS1:=Ih GS 1 1 Jk aai
 have hS0:=Ih GS 1 0 Jk aai
 rw [t1]at hS1
 rw [t2]at hS0
 have hW:=UE GS d hd 1 (I7 1 1 Jk) (UJ t1).2 (by rw [(UJ t1).1,hl];omega)
 rw [(Py hdd hf).1]at hW
 have hn1:((I7 1 1 Jk).map xP).length=nS Jk:=by rw [aj,(UJ t1).1]
 have hn0:((I7 1 0 Jk).map xP).length=nS Jk:=by rw [aj,(UJ t2).1]
 unfold so1
 clear t1 t2 t4
 generalize Dw d 1 (I7 1 1 Jk)=W at *
 generalize I7 1 1 Jk=L1 at *
 generalize I7 1 0 Jk=L0 at *
 generalize nS Jk=k at *
 generalize Jk=B at *
 obtain⟨hv,ajr⟩ : ∃hv:Nat,hv=16:=⟨_,rfl⟩
 have hF:mP Tryz.prog GS 211 [iv 1,bs B,iv (hv:Int)] 0 [] (Is (bv true)):=by
  refine lJ func211 rfl mixed aag ?_
  refine qc [] aag (hS0) aam ?_
  refine lQ [] (congrArg Value.bool ?_)
  rw [hn0]
  simp
  omega
 clear hS0 hn0
 refine lJ func135 rfl mixed aag ?_
 (refine lM [] aag (hV) rfl ?_ ?_;(focus trivial))
 conv=>whnf
 repeat' (first|(refine mV aag (hT) ?_ ?_;(focus (trivial;done));rintro _ _ _ ⟨rfl,rfl,rfl⟩;(conv=>whnf))|(refine mV aag (hC) ?_ ?_;(focus (trivial;done));rintro _ _ _ ⟨rfl,rfl,rfl⟩;(conv=>whnf))|(refine lW.mk aaw ?_;rw [aj,hl];refine lN.divN 32 2 aai ?_;rw [show (32/2:Nat)=hv from ajr.symm];conv=>whnf)|(refine mV aag (hF) ?_ ?_;(focus (trivial;done));rintro _ _ _ ⟨rfl,rfl,rfl⟩;(conv=>whnf))|(refine mV aag (hS1) ?_ ?_;(focus (trivial;done));rintro _ _ _ ⟨rfl,rfl,rfl⟩;(conv=>whnf))|(refine lN.to (y:=1+(k:Int)) ?_ ?_;(focus (show IntKind.i64.wrap (1+((List.map xP L1).length:Int))=1+(k:Int);rw [hn1];exact IntWalk.i64_in _ aai));conv=>whnf)|(refine lN.fr ?_;conv=>whnf))
 apply lH<;>intro h
 ·exfalso;simp at h;omega
 refine lN.to (y:=0) (by show IntKind.i64.wrap (0*(hv:Int))=0;rw [Int.zero_mul];rfl) ?_
 clear ajr
 conv=>whnf
 repeat' (first|(refine mV aag (hW) ?_ ?_;(focus (trivial;done));rintro _ _ _ ⟨rfl,rfl,rfl⟩;(conv=>whnf))|(refine lN.to (y:=1+(k:Int)) ?_ ?_;(focus (show IntKind.i64.wrap (1+((List.map xP L1).length:Int))=1+(k:Int);rw [hn1];exact IntWalk.i64_in _ aai));conv=>whnf)|(refine lN.fr ?_;conv=>whnf))
 exact lQ (List.range 40) aam
end
section
open Ky
attribute [local irreducible] BA uN
def cN (i:Nat):By:=if i<10 then [99,UInt8.ofNat (48+i)]else [99,49,UInt8.ofNat (38+i)]
theorem ajs (G:Glob)(i:Nat)(h:i<16):mP Tryz.prog G 18 [iv i] 0 [] (Is (.v (.string ⟨(cN i).tail.toArray⟩))):=by
 have h:i=0∨i=1∨i=2∨i=3∨i=4∨i=5∨i=6∨i=7∨i=8∨i=9∨i=10∨i=11∨i=12∨i=13∨i=14∨i=15:=aai
 refine lJ func18 rfl mixed aag ?_
 conv=>whnf
 rcases h with rfl|rfl|rfl|rfl|rfl|rfl|rfl|rfl|rfl|rfl|rfl|rfl|rfl|rfl|rfl|rfl<;>
 repeat' (first|(refine lQ [] ?_;focus (first|rfl|decide +kernel))|(refine lN.fr ?_;conv=>whnf)|(refine lW.mk aaw ?_;conv=>whnf)|(refine rM 9 ?_;conv=>whnf)|(refine nJ aag (lJ acr rfl mixed aag ?_);conv=>whnf)|(refine pO acr ?_;conv=>whnf)|(refine mJ.mk ⟨_,rfl,by decide, ?_⟩;conv=>whnf)|(refine uo.mk ⟨_,_,rfl,rfl,by decide,by decide, ?_⟩;conv=>whnf)|(refine mQ.mk ⟨_,rfl, ?_⟩;conv=>whnf)|(refine uT.mk ⟨_,_,rfl,rfl,by decide,by decide,by decide, ?_⟩;conv=>whnf)|(refine oH.mk fun b hb=> ?_;obtain rfl:=hb aaw;conv=>whnf)|(refine oH.mk fun b hb=> ?_;cases b<;>(conv=>whnf))|(refine yc.mk aag rfl rfl ?_;conv=>whnf))
theorem Zt {i:Nat}(h:i<16):(⟨#[99]⟩:ByteArray)++⟨(cN i).tail.toArray⟩=⟨(cN i).toArray⟩∧(⟨(cN i).tail.toArray⟩:ByteArray).size<=9∧Uw (cN i)=true:=by
 have h:i=0∨i=1∨i=2∨i=3∨i=4∨i=5∨i=6∨i=7∨i=8∨i=9∨i=10∨i=11∨i=12∨i=13∨i=14∨i=15:=aai
 rcases h with rfl|rfl|rfl|rfl|rfl|rfl|rfl|rfl|rfl|rfl|rfl|rfl|rfl|rfl|rfl|rfl<;>exact⟨rfl,by decide,by decide +kernel⟩
theorem aep {i:Nat}(h:i<16):mP Tryz.prog GS 58 [tv (cN i)] 0 [] (Is (bv true))∧mP Tryz.prog GS 68 [tv (cN i)] 0 [] (Is (bv true)):=by
 have h1:=(Zt h).2.2
 have hs:(⟨(cN i).toArray⟩:ByteArray).size<=140737488355328:=bG (JL h1) aaw
 exact⟨by rw [<-h1];exact H8 _ hs,by rw [<-h1];exact Yp _ hs⟩
abbrev nl:AV:= .v (.slice none 0 0)
abbrev nlF:FV:= .v (.slice none 0 0)
def V6 (s:By)(cap next drop:Int)(held:FV):List FV:= [sF s,iF cap,iF next,iF drop,held]
abbrev obA (r:List FV):AV:= .agg (r.map FV.up)
def obZ:AV:= .agg [tv [],iv 0,iv 0,iv 0,nl]
def SA (cap:Int):Bool:=decide (1<=cap∧cap<=64)
def V7 (b:Int):Bool:=decide (0<=b∧b<=68719476736)
def SB (n:Int):Bool:=decide (n%2=0∧8<=n∧n<=256)
theorem agX {i:Nat}(h:i<16)(cap:Int):mP Tryz.prog GS 17 [tv (cN i),iv cap] 0 [] (Is (if SA cap then .og [obA (V6 (cN i) cap 1 0 nlF),iv 0]else .og [obZ,iv 3])):=by
 have hK:=(aep h).1
 generalize cN i=s at *
 refine lJ func17 rfl mixed aag ?_
 (refine lM [] aag (hK) rfl ?_ ?_;(focus trivial))
 conv=>whnf
 repeat' (first|(apply lH<;>intro h<;>(try simp only [bl]at h)<;>(conv=>whnf)))
 all_goals first
  | (rw [if_neg (by simp [SA];omega)];exact lQ [] aam)
  | (rw [if_pos (by simp [SA];omega)];exact lQ [] aam)
theorem agY (G:Glob)(b:Int):mP Tryz.prog G 19 [iv b] 0 [] (Is (if V7 b then .og [.agg [iv b,iv 0,iv (-1),nl,nl,iv 0,iv 0,iv 0,iv 0,iv 0,iv 0,iv 0],iv 0]else .og [.agg [iv 0,iv 0,iv 0,nl,nl,iv 0,iv 0,iv 0,iv 0,iv 0,iv 0,iv 0],iv 3])):=by
 refine lJ func19 rfl mixed aag ?_
 conv=>whnf
 repeat' (first|(apply lH<;>intro h<;>(try simp only [bl]at h)<;>(conv=>whnf)))
 all_goals first
  | (rw [if_neg (by simp [V7];omega)];exact lQ [] aam)
  | (rw [if_pos (by simp [V7];omega)];exact lQ [] aam)
end
section
open Ky
attribute [local irreducible] cN so0
abbrev stZ:List AV:= [nl,nl,iv 0,iv 0,bv false,iv 0,iv 0,iv 0,iv 0,nl]
def wB (key:Int)(obs:AV)(b h:Int)(st:List AV):List AV:=
 [.v (.int .u64 key),iv 0,obs,nl,iv b,iv 0,iv h,nl,nl,iv 0,iv 0,iv 0,iv 0,iv 0,iv 0,iv 0,nl]++(st++ [bv false,iv 0,nl])
def obL (cap:Int)(i:Nat):List (List FV):=(List.range i).map fun k=>V6 (cN k) cap 1 0 nlF
theorem Zu (cap:Int)(i:Nat):obL cap i++ [V6 (cN i) cap 1 0 nlF]=obL cap (i+1):=by unfold obL;rw [jB,aS];rfl
def wOk (clients cap bound sG:Int):Bool:=decide (1<=clients∧clients<=16)&&(SA cap&&(V7 bound&&SB sG))
def adv (key:Int)(clients cap bound sG:Int):AV:=
 if wOk clients cap bound sG then .og [.agg (wB key (.lst 5 (obL cap clients.toNat)) bound (-1) (stC (so0 sG.toNat))),iv 0]else .og [.agg (wB 0 nl 0 0 stZ),iv 3]
theorem Zv {n:Int}(h:SB n=true) : ∃m:Nat,n=((2*m:Nat):Int)∧4<=m∧m<=128:=by
 have h:=of_decide_eq_true h
 exact⟨(n/2).toNat,by omega,by omega,by omega⟩
theorem agZ (G:Glob)(n:Int):mP Tryz.prog G 60 [iv n] 0 [] (Is (bv (SB n))):=by
 have ht:0<=n->n.tmod 2=n%2:=Int.tmod_eq_emod_of_nonneg
 refine lJ func60 rfl mixed aag ?_
 refine lW.mk aaw ?_
 conv=>whnf
 repeat' (first|(apply lH<;>intro h<;>(try simp only [bl]at h)<;>(conv=>whnf)))
 all_goals
  generalize n.tmod 2=t at *
  refine lQ [] (congrArg Value.bool ?_)
  unfold SB
  rw [jA]
  simp at *
  omega
theorem adw (G:Glob)(n:Int)(hn:SB n=false):mP Tryz.prog G 20 [iv n] 0 [] (Is (.og [.agg [nl,nl,iv 0,iv 0,bv false],iv 3])):=by
 have hS:=agZ G n
 rw [hn]at hS
 refine lJ func20 rfl mixed aag ?_
 (refine lM [] aag (hS) rfl ?_ ?_;(focus trivial))
 exact lQ [] aam
theorem ajt (key:Int)(clients cap bound sG:Int):mP Tryz.prog GS 6 [.v (.int .u64 key),iv clients,iv cap,iv bound,iv sG] 0 [] (Is (adv key clients cap bound sG)):=by
 obtain⟨R,hR⟩ : ∃R,R=adv key clients cap bound sG:=⟨_,rfl⟩
 rw [<-hR]
 unfold adv at hR
 have hw:wOk clients cap bound sG=(decide (1<=clients∧clients<=16)&&(SA cap&&(V7 bound&&SB sG))):=rfl
 refine lJ func6 rfl mixed aag ?_
 conv=>whnf
 by_cases hc:1<=clients∧clients<=16
 rotate_left
 ·rw [hw,decide_eq_false hc,gq,if_neg aaw]at hR
  subst hR
  apply lH<;>intro h
  ·exact lQ [] aam
  conv=>whnf
  show Ku (decide (clients>16)) _ _
  apply lH<;>intro h2
  ·exact lQ [] aam
  ·exfalso;simp at h h2;omega
 rw [hw,decide_eq_true hc,gX]at hR
 obtain⟨n,rfl⟩ : ∃n:Nat,clients=(n:Int):=⟨clients.toNat,by omega⟩
 rw [dK]at hR
 apply lH<;>intro h
 ·exfalso;simp at h;omega
 conv=>whnf
 show Ku (decide ((n:Int)>16)) _ _
 apply lH<;>intro h2
 ·exfalso;simp at h2;omega
 refine mY ais 3 [28] (fun i:Nat=> [(28,iv i)]) (fun i=> [(0, .var 40 (wB 0 nl 0 0 stZ)),(1, .var 40 (wB key (.own 2) 0 0 stZ)),(2, .rows 68 5 (obL cap i))]) (fun i=>i<=n∧(0<i->SA cap=true)) (fun i=>n-i) [(2, .nil)] [] 0 aag (fun _=>rfl) rfl ⟨aH _,fun h=>absurd h (jv 0)⟩ aam aam ?_
 intro i ⟨hi,hcap⟩
 apply lH<;>intro h
 ·have hlt:i<n:=aaG
  have ag0:i<16:=aai
  have hN:=ajs GS i ag0
  have hO:=agX ag0 cap
  obtain⟨e1,e2,_⟩:=Zt ag0
  (refine lM [] aag (hN) rfl ?_ ?_;(focus trivial))
  refine lW.mk (by show (((1+(⟨(cN i).tail.toArray⟩:ByteArray).size:Nat):Int))<=9223372036854775807;omega) ?_
  rw [e1]
  conv=>whnf
  cases hb:SA cap with
  | false=>
   rw [hb]at hO hR
   refine qc [] aag (hO) aam ?_
   conv=>whnf
   rw [gq,if_neg aaw]at hR
   subst hR
   exact lQ [] aam
  | true=>
   rw [hb]at hO
   refine qc [] aag (hO) aam ?_
   refine lW.mk (nG (by unfold obL;simp only [aj,ku,bn,dP];omega) aag) ?_
   refine lN.i64 aai ?_
   exact lK (i+1) [(2, .lab 5)] [] rfl (by show n -(i+1)<n-i;omega) ⟨hlt,fun _=>rfl⟩ ⟨aam,aam,⟨rfl,rfl,Zu cap i⟩,trivial⟩ ⟨rfl,trivial⟩
 have hie:i=n:=aaG
 subst hie
 have hb:=hcap aai
 rw [hb,gX]at hR
 have hK:=agY GS bound
 conv=>whnf
 cases hbd:V7 bound with
 | false=>
  rw [hbd]at hK hR
  rw [gq,if_neg aaw]at hR
  subst hR
  refine qc [] aag (hK) aam ?_
  exact lQ [2] aam
 | true=>
  rw [hbd]at hK hR
  rw [gX]at hR
  refine qc [] aag (hK) aam ?_
  conv=>whnf
  cases hs:SB sG with
  | false=>
   rw [hs,if_neg aaw]at hR
   subst hR
   refine qc [] aag (adw GS sG hs) aam ?_
   exact lQ [2] aam
  | true=>
   rw [hs,if_pos rfl]at hR
   obtain⟨m,rfl,hm1,hm2⟩:=Zv hs
   rw [dK]at hR
   subst hR
   have hD:=agS GS (2*m) aai aai aai
   have hO:=agV m hm1 hm2
   generalize dk0 (2*m)=d at *
   generalize so0 (2*m)=s0 at *
   refine qc [] aag (hD) aam ?_
   refine qc [] aag (hO) aam ?_
   exact lQ [2] aam
end
section
open Ky
attribute [local irreducible] BA uN Y9
theorem NK.hit {M:Int->Option FV}{k:Int}{z:Value}{K:AV->Bool->Prop}(x:FV)(h:M k=some x)(c:K x.val true):NK M k z K:=⟨fun e=>akn,fun y e=>by rw [h]at e;cases e;exact c⟩
theorem ALs.hit {M:ByteArray->Option (List FV)}{k:ByteArray}{z:Value}{K:AV->Bool->Prop}(r:List FV)(h:M k=some r)(c:K (.agg (r.map FV.up)) true):ALs M k z K:=⟨fun e=>akn,fun y e=>by rw [h]at e;cases e;exact c⟩
def dOf:List (Nat×List Nat)->Nat->List Nat
 | [],_=> []
 | p::r,k=>bif Nat.beq p.1 k then p.2 else dOf r k
theorem Ij {P:Program}{G:Glob}{id:Nat}{ops:Array Oper}{K:lV->Nat->lI->Prop}{ρ:lV}{n:Nat}{H:lI}(pl:Nat->Plan)(Ds:List (Nat×List Nat))(hp:uV ops (pl id)=true)(h:aD P G ops.toList (dOf Ds id) (pl id) ρ n H K):zk P G id ops K ρ n H:=lX pl (dOf Ds id) hp h
def c0:By:= [99,48]
abbrev hd0:FV:= .lst 10 []
abbrev hd1:FV:= .lst 10 [wX e0]
def er:Ev:=⟨[],0,1,0,[97,110,110],[98,108,117,101],[],0,1,0⟩
theorem kc0:mP Tryz.prog GS 58 [tv c0] 0 [] (Is (bv true)):=(aep (i:=0) aaw).1
theorem alo:mP Tryz.prog GS 121 [obA (V6 c0 4 1 0 nlF)] 0 [] (Is (bv true)):=by
 refine lJ func121 rfl mixed aag ?_
 conv=>whnf
 repeat' (first|exact lQ [] aam|(refine mV aag (kc0) ?_ ?_;(focus (trivial;done));rintro _ _ _ ⟨rfl,rfl,rfl⟩;(conv=>whnf))|(refine mV aag (wZ) ?_ ?_;(focus (trivial;done));rintro _ _ _ ⟨rfl,rfl,rfl⟩;(conv=>whnf))|(rw [rD];conv=>whnf)|(rw [mW];conv=>whnf)|(refine lN.fr ?_;conv=>whnf)|(refine lW.mk aaw ?_;conv=>whnf)|(refine rM 9 ?_;conv=>whnf)|(refine nJ aag (lJ acr rfl mixed aag ?_);conv=>whnf)|(refine pO acr ?_;conv=>whnf)|(refine mJ.mk ⟨_,rfl,by decide, ?_⟩;conv=>whnf)|(refine uo.mk ⟨_,_,rfl,rfl,by decide,by decide, ?_⟩;conv=>whnf)|(refine mQ.mk ⟨_,rfl, ?_⟩;conv=>whnf)|(refine uT.mk ⟨_,_,rfl,rfl,by decide,by decide,by decide, ?_⟩;conv=>whnf)|(refine oH.mk fun b hb=> ?_;obtain rfl:=hb aaw;conv=>whnf)|(refine oH.mk fun b hb=> ?_;cases b<;>(conv=>whnf))|(refine yc.mk aag rfl rfl ?_;conv=>whnf)|(refine lX XW [] aaQ ?_;conv=>whnf))
theorem aju:mP Tryz.prog GS 121 [obA (V6 c0 4 2 0 hd1)] 0 [] (Is (bv true)):=by
 refine lJ func121 rfl mixed aag ?_
 conv=>whnf
 repeat' (first|(refine mV aag (kc0) ?_ ?_;(focus (trivial;done));rintro _ _ _ ⟨rfl,rfl,rfl⟩;(conv=>whnf))|(refine lN.fr ?_;conv=>whnf)|(refine lW.mk aaw ?_;conv=>whnf)|(refine rM 9 ?_;conv=>whnf)|(refine nJ aag (lJ acr rfl mixed aag ?_);conv=>whnf)|(refine pO acr ?_;conv=>whnf)|(refine mJ.mk ⟨_,rfl,by decide, ?_⟩;conv=>whnf)|(refine uo.mk ⟨_,_,rfl,rfl,by decide,by decide, ?_⟩;conv=>whnf)|(refine mQ.mk ⟨_,rfl, ?_⟩;conv=>whnf)|(refine uT.mk ⟨_,_,rfl,rfl,by decide,by decide,by decide, ?_⟩;conv=>whnf)|(refine oH.mk fun b hb=> ?_;obtain rfl:=hb aaw;conv=>whnf)|(refine oH.mk fun b hb=> ?_;cases b<;>(conv=>whnf))|(refine yc.mk aag rfl rfl ?_;conv=>whnf))
 refine lX (fun _=> .take 0 (.post 1 (pre [2,3,4,5,6,7,8] (pre [9,10,11,12,13,14,15,16,17,18,19,20,21,22,23,24,25,26,27,28,29,30,31,32] .done)))) [] aaQ ?_
 refine TM [] aag wZ aam ?_
 rintro _ _ _ ⟨rfl,rfl,rfl⟩
 refine agD [2,3,4,5,6,7,8] ?_
 refine⟨?_⟩
 refine acZ 53 rfl (fun h=> ?_) (fun h=> ?_)
 ·exfalso
  rw [mW]at h
  cases h
 conv=>whnf
 repeat' (first|exact lQ [] aam|(refine lN.fr ?_;conv=>whnf)|(refine lW.mk aaw ?_;conv=>whnf)|(refine rM 9 ?_;conv=>whnf)|(refine nJ aag (lJ acr rfl mixed aag ?_);conv=>whnf)|(refine pO acr ?_;conv=>whnf)|(refine mJ.mk ⟨_,rfl,by decide, ?_⟩;conv=>whnf)|(refine uo.mk ⟨_,_,rfl,rfl,by decide,by decide, ?_⟩;conv=>whnf)|(refine mQ.mk ⟨_,rfl, ?_⟩;conv=>whnf)|(refine uT.mk ⟨_,_,rfl,rfl,by decide,by decide,by decide, ?_⟩;conv=>whnf)|(refine oH.mk fun b hb=> ?_;obtain rfl:=hb aaw;conv=>whnf)|(refine oH.mk fun b hb=> ?_;cases b<;>(conv=>whnf))|(refine yc.mk aag rfl rfl ?_;conv=>whnf))
theorem alp:mP Tryz.prog GS 121 [obA (V6 c0 4 2 0 hd0)] 0 [] (Is (bv true)):=by
 refine lJ func121 rfl mixed aag ?_
 conv=>whnf
 repeat' (first|exact lQ [] aam|(refine mV aag (kc0) ?_ ?_;(focus (trivial;done));rintro _ _ _ ⟨rfl,rfl,rfl⟩;(conv=>whnf))|(refine mV aag (wZ) ?_ ?_;(focus (trivial;done));rintro _ _ _ ⟨rfl,rfl,rfl⟩;(conv=>whnf))|(rw [rD];conv=>whnf)|(rw [mW];conv=>whnf)|(refine lN.fr ?_;conv=>whnf)|(refine lW.mk aaw ?_;conv=>whnf)|(refine rM 9 ?_;conv=>whnf)|(refine nJ aag (lJ acr rfl mixed aag ?_);conv=>whnf)|(refine pO acr ?_;conv=>whnf)|(refine mJ.mk ⟨_,rfl,by decide, ?_⟩;conv=>whnf)|(refine uo.mk ⟨_,_,rfl,rfl,by decide,by decide, ?_⟩;conv=>whnf)|(refine mQ.mk ⟨_,rfl, ?_⟩;conv=>whnf)|(refine uT.mk ⟨_,_,rfl,rfl,by decide,by decide,by decide, ?_⟩;conv=>whnf)|(refine oH.mk fun b hb=> ?_;obtain rfl:=hb aaw;conv=>whnf)|(refine oH.mk fun b hb=> ?_;cases b<;>(conv=>whnf))|(refine yc.mk aag rfl rfl ?_;conv=>whnf)|(refine lX XW [] aaQ ?_;conv=>whnf))
theorem alq:mP Tryz.prog GS 187 [obA (V6 c0 4 1 0 nlF),Uo er] 0 [] (Is (.og [obA (V6 c0 4 2 0 hd1),iv 1,iv 0])):=by
 refine lJ func187 rfl mixed aag ?_
 conv=>whnf
 repeat' (first|exact lQ (List.range 40) aam|(refine mV aag (alo) ?_ ?_;(focus (trivial;done));rintro _ _ _ ⟨rfl,rfl,rfl⟩;(conv=>whnf))|(refine mV aag (wZ) ?_ ?_;(focus (trivial;done));rintro _ _ _ ⟨rfl,rfl,rfl⟩;(conv=>whnf))|(rw [rD];conv=>whnf)|(rw [mW];conv=>whnf)|(refine lN.fr ?_;conv=>whnf)|(refine lW.mk aaw ?_;conv=>whnf)|(refine rM 9 ?_;conv=>whnf)|(refine nJ aag (lJ acr rfl mixed aag ?_);conv=>whnf)|(refine pO acr ?_;conv=>whnf)|(refine mJ.mk ⟨_,rfl,by decide, ?_⟩;conv=>whnf)|(refine uo.mk ⟨_,_,rfl,rfl,by decide,by decide, ?_⟩;conv=>whnf)|(refine mQ.mk ⟨_,rfl, ?_⟩;conv=>whnf)|(refine uT.mk ⟨_,_,rfl,rfl,by decide,by decide,by decide, ?_⟩;conv=>whnf)|(refine oH.mk fun b hb=> ?_;obtain rfl:=hb aaw;conv=>whnf)|(refine oH.mk fun b hb=> ?_;cases b<;>(conv=>whnf))|(refine yc.mk aag rfl rfl ?_;conv=>whnf)|(refine Ij afW [(5,[1]),(11,[2])] aaQ ?_;conv=>whnf)|(refine Ij af0 [(4,[7])] aaQ ?_;conv=>whnf))
end
section
open Ky
def mcI (k d:Int)(ls:List By):Int:=Dg.Hw k (IntKind.u64.wrap (d+1)) (Dg.frame ls)
theorem alr (G:Glob)(k d:Int)(ls:List By)(h1:ls.length<=1000)(h2:(Dg.frame ls).length<=140737488355328):mP Tryz.prog G 126 [.v (.int .u64 k), .v (.int .u64 d),ss ls] 0 [] (Is (.v (.int .u64 (mcI k d ls)))):=by
 intro w σ F vs st r
 match vs,r with
 | [x,z,y],⟨rx,rz,ry,_⟩=>
  rw [rx.nY,rz.nY]
  cases ry with
  | lst hy=>
   obtain⟨oa,c,us,rfl,hr,hf⟩:=Um hy fun b hb=>(st.oG b hb).1
   refine(Dg.af6 k d oa c us ls w aai h2 hr hf).mono fun v w' ⟨e,hB⟩=> ?_
   subst e
   have hE:Ext 0 σ F w 0 σ F w':=⟨au _,fun _ _=>rfl,fun b hb=>⟨hb,hB.block b (st.oG b hb).1⟩,hB.size⟩
   exact⟨_,0,σ,F,[],⟨rfl,rfl,rfl⟩,⟨Glob.qF st.glob hB.size fun b hb=>hB.block b (aP hb st.glob.1),(y7.qX hB).mono fun _ _ h=>h.elim,fun b hb=>⟨aP (st.oG b hb).1 hB.size, .inl hb⟩,
    (fun mD b h=>by cases h),(fun mD b g h=>by cases h),(fun mD y8 b b' g h=>by cases h),(fun mD b h=>by cases h)⟩,hE, .v _⟩
def WG:By:= [4,99,48,2,2,2,2,0,6,97,110,110,8,98,108,117,101,0,0,2,0]
def FW:Nat:=(mcI 1 100 [WG]).toNat
theorem Zw:mcI 1 100 [WG]=(FW:Int)∧FW<18446744073709551616:=by
 have h:=Pm 1 (IntKind.u64.wrap (100+1)) (Dg.frame [WG])
 unfold FW mcI
 omega
attribute [local irreducible] BA uN FW mcI
theorem aer:mP Tryz.prog GS 126 [uv 1,uv 100,ss [WG]] 0 [] (Is (uv FW)):=by
 have h:=alr GS 1 100 [WG] aaw aaQ
 rwa [Zw.1]at h
def by0:AV:= .agg [tv c0,iv 1,el [e0]]
theorem ajv (b:By)(h:b.length<=1000):mP Tryz.prog GS 125 [bs b,uv FW] 0 [] (Is (bs (b++be 8 FW))):=mP.BD (O9 GS b FW aai Zw.2)
theorem ajw:mP Tryz.prog GS 53 [uv 1,by0] 0 [] (Is (.og [bs (WG++be 8 FW),iv 0])):=by
 have hP:=ajv WG aaw
 generalize be 8 FW=X at *
 refine lJ func53 rfl mixed aag ?_
 conv=>whnf
 repeat' (first|exact lQ (List.range 200) aam|(refine mV aag (aer) ?_ ?_;(focus (trivial;done));rintro _ _ _ ⟨rfl,rfl,rfl⟩;(conv=>whnf))|(refine mV aag (hP) ?_ ?_;(focus (trivial;done));rintro _ _ _ ⟨rfl,rfl,rfl⟩;(conv=>whnf))|(refine mV aag (kc0) ?_ ?_;(focus (trivial;done));rintro _ _ _ ⟨rfl,rfl,rfl⟩;(conv=>whnf))|(refine mV aag (wZ) ?_ ?_;(focus (trivial;done));rintro _ _ _ ⟨rfl,rfl,rfl⟩;(conv=>whnf))|(rw [rD];conv=>whnf)|(rw [mW];conv=>whnf)|(refine lN.fr ?_;conv=>whnf)|(refine lW.mk aaw ?_;conv=>whnf)|(refine rM 9 ?_;conv=>whnf)|(refine nJ aag (lJ acr rfl mixed aag ?_);conv=>whnf)|(refine pO acr ?_;conv=>whnf)|(refine mJ.mk ⟨_,rfl,by decide, ?_⟩;conv=>whnf)|(refine uo.mk ⟨_,_,rfl,rfl,by decide,by decide, ?_⟩;conv=>whnf)|(refine mQ.mk ⟨_,rfl, ?_⟩;conv=>whnf)|(refine uT.mk ⟨_,_,rfl,rfl,by decide,by decide,by decide, ?_⟩;conv=>whnf)|(refine oH.mk fun b hb=> ?_;obtain rfl:=hb aaw;conv=>whnf)|(refine oH.mk fun b hb=> ?_;cases b<;>(conv=>whnf))|(refine yc.mk aag rfl rfl ?_;conv=>whnf)|(refine lX XY [] aaQ ?_;conv=>whnf))
end
section
open Ky
attribute [local irreducible] BA uN FW mcI be
theorem be8 (n:Nat) : ∃x0 x1 x2 x3 x4 x5 x6 x7,be 8 n = [x0,x1,x2,x3,x4,x5,x6,x7]:=by
 have h:(be 8 n).length=8:=uM 8 n
 match be 8 n,h with
 | [x0,x1,x2,x3,x4,x5,x6,x7],_=>exact⟨_,_,_,_,_,_,_,_,rfl⟩
theorem adx:mP Tryz.prog GS 196 [uv 1,bs (WG++be 8 FW)] 0 [] (Is (.og [by0,iv 0])):=by
 have hP:=ajv [] aaw
 obtain⟨x0,x1,x2,x3,x4,x5,x6,x7,hx⟩:=be8 FW
 have hE:=Y7 GS (be 8 FW) ([]++be 8 FW)
 rw [decide_eq_true (show be 8 FW = []++be 8 FW from rfl)]at hE
 rw [hx]at hP hE ⊢
 refine lJ func196 rfl mixed aag ?_
 conv=>whnf
 have h1:((WG++ [x0,x1,x2,x3,x4,x5,x6,x7]).map wJ).take 21=WG.map wJ:=rfl
 have h2:((WG++ [x0,x1,x2,x3,x4,x5,x6,x7]).map wJ).drop 21 = [x0,x1,x2,x3,x4,x5,x6,x7].map wJ:=rfl
 repeat' (first|(refine lN.fr ?_;conv=>whnf)|(refine lW.mk aaw ?_;conv=>whnf)|(refine rM 9 ?_;conv=>whnf)|(refine nJ aag (lJ acr rfl mixed aag ?_);conv=>whnf)|(refine pO acr ?_;conv=>whnf)|(refine mJ.mk ⟨_,rfl,by decide, ?_⟩;conv=>whnf)|(refine uo.mk ⟨_,_,rfl,rfl,by decide,by decide, ?_⟩;conv=>whnf)|(refine mQ.mk ⟨_,rfl, ?_⟩;conv=>whnf)|(refine uT.mk ⟨_,_,rfl,rfl,by decide,by decide,by decide, ?_⟩;conv=>whnf)|(refine oH.mk fun b hb=> ?_;obtain rfl:=hb aaw;conv=>whnf)|(refine oH.mk fun b hb=> ?_;cases b<;>(conv=>whnf))|(refine yc.mk aag rfl rfl ?_;conv=>whnf)|(refine lX X4 [] aaQ ?_;conv=>whnf))
 refine uo.mk' 0 21 rfl rfl aaw (aF rfl) ?_
 simp only [cut]
 rw [h1]
 conv=>whnf
 repeat' (first|(refine lN.fr ?_;conv=>whnf)|(refine lW.mk aaw ?_;conv=>whnf)|(refine rM 9 ?_;conv=>whnf)|(refine nJ aag (lJ acr rfl mixed aag ?_);conv=>whnf)|(refine pO acr ?_;conv=>whnf)|(refine mJ.mk ⟨_,rfl,by decide, ?_⟩;conv=>whnf)|(refine uo.mk ⟨_,_,rfl,rfl,by decide,by decide, ?_⟩;conv=>whnf)|(refine mQ.mk ⟨_,rfl, ?_⟩;conv=>whnf)|(refine uT.mk ⟨_,_,rfl,rfl,by decide,by decide,by decide, ?_⟩;conv=>whnf)|(refine oH.mk fun b hb=> ?_;obtain rfl:=hb aaw;conv=>whnf)|(refine oH.mk fun b hb=> ?_;cases b<;>(conv=>whnf))|(refine yc.mk aag rfl rfl ?_;conv=>whnf))
 refine uo.mk' 21 29 rfl rfl aaw (aF rfl) ?_
 simp only [cut]
 rw [h2]
 conv=>whnf
 repeat' (first|exact lQ (List.range 200) aam|(refine mV aag (aer) ?_ ?_;(focus (trivial;done));rintro _ _ _ ⟨rfl,rfl,rfl⟩;(conv=>whnf))|(refine mV aag (hP) ?_ ?_;(focus (trivial;done));rintro _ _ _ ⟨rfl,rfl,rfl⟩;(conv=>whnf))|(refine mV aag (hE) ?_ ?_;(focus (trivial;done));rintro _ _ _ ⟨rfl,rfl,rfl⟩;(conv=>whnf))|(refine mV aag (kc0) ?_ ?_;(focus (trivial;done));rintro _ _ _ ⟨rfl,rfl,rfl⟩;(conv=>whnf))|(refine mV aag (wZ) ?_ ?_;(focus (trivial;done));rintro _ _ _ ⟨rfl,rfl,rfl⟩;(conv=>whnf))|(rw [rD];conv=>whnf)|(rw [mW];conv=>whnf)|(refine ABy.mk ⟨c0,rfl, ?_⟩;conv=>whnf)|(refine ABy.mk ⟨[97,110,110],rfl, ?_⟩;conv=>whnf)|(refine ABy.mk ⟨[98,108,117,101],rfl, ?_⟩;conv=>whnf)|(refine ABy.mk ⟨[],rfl, ?_⟩;conv=>whnf)|(refine lN.fr ?_;conv=>whnf)|(refine lW.mk aaw ?_;conv=>whnf)|(refine rM 9 ?_;conv=>whnf)|(refine nJ aag (lJ acr rfl mixed aag ?_);conv=>whnf)|(refine pO acr ?_;conv=>whnf)|(refine mJ.mk ⟨_,rfl,by decide, ?_⟩;conv=>whnf)|(refine uo.mk ⟨_,_,rfl,rfl,by decide,by decide, ?_⟩;conv=>whnf)|(refine mQ.mk ⟨_,rfl, ?_⟩;conv=>whnf)|(refine uT.mk ⟨_,_,rfl,rfl,by decide,by decide,by decide, ?_⟩;conv=>whnf)|(refine oH.mk fun b hb=> ?_;obtain rfl:=hb aaw;conv=>whnf)|(refine oH.mk fun b hb=> ?_;cases b<;>(conv=>whnf))|(refine yc.mk aag rfl rfl ?_;conv=>whnf)|(refine lX X4 [] aaQ ?_;conv=>whnf)|(refine lX XY [] aaQ ?_;conv=>whnf))
end
end Go.Proofs.YtnandbihiceihaaGreatDoor.Cl
