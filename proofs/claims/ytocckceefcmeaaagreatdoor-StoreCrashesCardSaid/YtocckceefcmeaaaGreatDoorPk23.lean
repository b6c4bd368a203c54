/- Joined parts of the proof. The law StoreCrashes -/
import Derived.Test.YtocckceefcmeaaaGreatDoorPk22
import Derived.Test.YtocckceefcmeaaaGreatDoorPk11
import Derived.OpenShut
import Derived.Stop.Joined
import Derived.Test.YtocckceefcmeaaaGreatDoorPk21
set_option linter.unusedVariables false
set_option linter.unusedSimpArgs false
set_option maxRecDepth 100000
set_option maxHeartbeats 16000000
namespace Go.Proofs.YtocckceefcmeaaaGreatDoor.Cl
open Go Go.RowKit Go.Proofs Go.Proofs.YtocckceefcmeaaaGreatDoor.Vc Go.Proofs.YtocckceefcmeaaaGreatDoor.Ax Go.Proofs.YtocckceefcmeaaaGreatDoor.Ky
attribute [local irreducible] loadVar storeVar Instr.indexAt Instr.index Instr.sliceAt Instr.makeSlice Instr.lookup Instr.mapUpdate Instr.range Instr.next Instr.entry Instr.makeMap Builtin.append_ Builtin.copy_ Builtin.len_ Builtin.min_ Builtin.max_ Builtin.cap_ Builtin.delete_ Builtin.clear_ convert binOp eqGuard Op.unary Calls
section
attribute [local irreducible] num hsh oV kC gG lg tY rO tab kL wG sec hG hF hI hN OZ iK lV nR
def aeU (x y:List Ev)(a:AV)(n:Nat)(H:ak):Prop:= ∃c:Bool,(x=y→c=true)∧a=bv c∧n=0∧H = []
theorem bP (x y:List Ev)(hl:x.length≤1000000):bD Tryz.prog GS 27 [el x,el y] 0 [] (aeU x y):=by
 by_cases hxy:x=y
 ·subst hxy
  exact bD.mono (TW x hl) fun a n H ⟨h1,h2,h3⟩=>⟨true,fun _=>rfl,h1,h2,h3⟩
 refine au Tryz.func27 rfl mixed (by kernel_rfl) ?_
 conv=>whnf
 apply ah<;>intro h
 ·conv=>whnf
  exact aV (bv false) 0 [] [] [] ⟨false,fun e=>absurd e hxy,rfl,rfl,rfl⟩ rfl trivial (by trivial)
 have hlen:x.length=y.length:=by simp only [List.length_map]at h;simp at h;omega
 conv=>whnf
 refine bg Qq 0 [5] (fun i:Nat=> [(5,iv i)]) (fun _=> []) (fun i=>i≤x.length) (fun i=>x.length-i) [] [] 0 (by kernel_rfl) (fun _=>rfl) rfl (Nat.zero_le _) trivial ⟨rfl,trivial⟩ ?_
 intro i hi
 conv=>whnf
 apply ah<;>intro h
 ·have hlt:i<x.length:=by simp at h;omega
  conv=>whnf
  (refine aP Yz [] (by kernel_rfl) ?_;conv=>whnf)
  repeat' (first
   | (refine And.intro ?_ ?_<;>(conv=>whnf))
   | (refine bC.mk' i rfl (by rw [List.length_map];omega) ?_;conv=>whnf)
   | (refine aS.aA (List.getElem?_eq_getElem (by omega)) ?_;conv=>whnf))
  refine kG.mk (by kernel_rfl) rfl rfl ?_
  conv=>whnf
  apply ah<;>intro h
  ·conv=>whnf
   exact aV (bv false) 0 [] [] [] ⟨false,fun e=>absurd e hxy,rfl,rfl,rfl⟩ rfl trivial (by trivial)
  conv=>whnf
  refine aI.i64 (by omega) ?_
  conv=>whnf
  exact aF (i+1) [] [] rfl (by show x.length -(i+1)<x.length-i;omega) hlt trivial ⟨rfl,trivial⟩
 ·conv=>whnf
  exact aV (bv true) 0 [] [] [] ⟨true,fun _=>rfl,rfl,rfl,rfl⟩ rfl trivial (by trivial)
theorem uz {s:So}{n G:Nat}{after:List Ev}{r:So×Int}(hs:EU n G s)
  (hr:(r.2=0∧EU n (G+1) r.1∧r.1.ev=after)∨(r.2=40∧∃d',r.1=So.jA d'∧d'.ok∧∀M,Mix d'.now d'.safe M→Ii n (G+1) s.ev M∨Ii n (G+1) after M∧Fit n after)) (pick:By) :
  r.1.d.ok∧∃ev',Ii n (G+1) ev' (r.1.d.crash pick).now∧Fit n ev'∧(ev'=s.ev∨ev'=after)∧(r.2=0→ev'=after):=by
 rcases hr with ⟨h1,h2,h3⟩ | ⟨h1,d',h2,h3,h4⟩
 ·refine⟨h2.ok.d,after, ?_,h3▸h2.fit, .inr rfl,fun _=>rfl⟩
  have hM:=(eG h2.ok.d pick).1
  rw [h2.safe]at hM
  rw [hM.self, ←h3]
  exact h2.gd
 ·have e:r.1.d=d':=congrArg So.d h2
  rw [e]
  refine⟨h3, ?_⟩
  rcases h4 _ (eG h3 pick).1 with h | ⟨h,hf⟩
  ·exact⟨s.ev,h,hs.fit, .inl rfl,fun h0=>by omega⟩
  ·exact⟨after,h,hf, .inr rfl,fun h0=>by omega⟩
theorem pU {n G:Nat}{ev:List Ev}{P Q:Prop}{r:So×Int}(h:(r.2=0∧EU n (G+1) r.1∧r.1.ev=ev∧P)∨(r.2=40∧Q∧∃d',r.1=So.jA d'∧d'.ok∧∀M,Mix d'.now d'.safe M→Ii n (G+1) ev M))(pick:By) :
  (r.2=0∨r.2=40)∧r.1.d.ok∧Ii n (G+1) ev (r.1.d.crash pick).now:=by
 rcases h with ⟨h1,h2,h3,_⟩ | ⟨h1,_,d',h2,h3,h4⟩
 ·refine⟨.inl h1,h2.ok.d, ?_⟩
  have hM:=(eG h2.ok.d pick).1
  rw [h2.safe]at hM
  rw [hM.self, ←h3]
  exact h2.gd
 ·have e:r.1.d=d':=congrArg So.d h2
  rw [e]
  exact⟨.inr h1,h3,h4 _ (eG h3 pick).1⟩
structure Cp where
 s:So
 i:Nat
theorem Ik (hrd:Rd)(k:Nat)(hk:k<256)(l:List Ac)(hok : ∀a∈l,a.ok)(hl:l.length≤4611686018427387904):bD Tryz.prog GS 8 [u8v k, .lst 4 (l.map Ub)] 0 [] (Is (bv true)):=by
 refine au Tryz.func8 rfl mixed (by kernel_rfl) ?_
 conv=>whnf
 (refine bf [] (by kernel_rfl) (Ye) rfl ?_ ?_;(focus trivial))
 conv=>whnf
 (refine bf [] (by kernel_rfl) (adw l hl) rfl ?_ ?_;(focus trivial))
 conv=>whnf
 apply ah<;>intro h
 ·conv=>whnf
  exact aX [] rfl
 have hlong:=abE h
 have hP:=fP (dk0 (8+2*k%60)) (J9 (by omega) (by omega) (by omega))
 obtain⟨q,hq⟩ : ∃q,q=iK (dk0 (8+2*k%60)):=⟨_,rfl⟩
 have hF:=OO (by omega) (by omega) (by omega) hq
 rw [←hq]at hP
 clear hq
 obtain⟨⟨d0,aeV,adC,adD,iP,ev0⟩,e0⟩:=q
 obtain⟨h00,hS0,hE0,hf0⟩:=hF
 have h00:e0=0:=h00
 have hE0:ev0 = []:=hE0
 subst h00 hE0
 dsimp only at hP hS0 hf0
 generalize 8+2*k%60=n at hS0
 conv=>whnf
 refine aj [] (by kernel_rfl) (TT k hk) (by trivial) ?_
 rintro _ _ _ ⟨rfl,rfl,rfl⟩
 conv=>whnf
 refine aj [] (by kernel_rfl) hP (by trivial) ?_
 rintro _ _ _ ⟨rfl,rfl,rfl⟩
 conv=>whnf
 refine bg acd 1 [7,8] (fun x:Cp=> [(7,el x.s.ev),(8,iv x.i)]) (fun x=> [(0, .var 43 (jB x.s))]) (fun x=>x.i≤l.length∧EU n (1+4*x.i) x.s∧x.s.ev.length≤12*x.i) (fun x=>l.length-x.i) [] [] ⟨⟨d0,aeV,adC,adD,iP,[]⟩,0⟩ (by kernel_rfl) (fun _=>rfl) rfl ⟨Nat.zero_le _,hS0,Nat.zero_le _⟩ (by trivial) (by trivial) ?_
 rintro⟨s,i⟩ ⟨hi,hs,hel⟩
 dsimp only at hi hs hel
 conv=>whnf
 apply ah<;>intro h
 rotate_left 1
 ·conv=>whnf
  exact aX [] rfl
 have hlt:i<l.length:=by simp only [List.length_map]at h;simp at h;omega
 have hao:=hok _ (List.getElem_mem hlt)
 have hal:=hlong.2 _ (List.getElem_mem hlt)
 have afZ:=hlong.1
 have hfz:=hao.fuse
 have hev:=abr l[i] (by omega) (n:=i) (by omega)
 obtain⟨hv1,hv2,hv3⟩:=hev
 have hE:=abp l[i] (by omega) i (by omega)
 generalize Uc l[i] i=ev at *
 have aeW:((l[i].fuse:Nat):Int).tmod 14=((l[i].fuse%14:Nat):Int):=rfl
 have hm8:((l[i].kind:Nat):Int).tmod 8=((l[i].kind%8:Nat):Int):=rfl
 have hm2:((l[i].kind:Nat):Int).tmod 2=((l[i].kind%2:Nat):Int):=rfl
 have BO:((l[i].fuse:Nat):Int).tdiv 16=((l[i].fuse/16:Nat):Int):=rfl
 have hA:=Dh s.d hs.ok.d (((l[i].fuse:Nat):Int).tmod 14)
 have hs:=hs.arm (f:=max (((l[i].fuse:Nat):Int).tmod 14) (-1)) (by rw [aeW];omega)
 generalize s.d.arm (max (((l[i].fuse:Nat):Int).tmod 14) (-1))=da at *
 conv=>whnf
 refine eu dB [] [(37,47)] 1 [] [(0, .var 43 (jB {s with d:=da}))] (by kernel_rfl) (by kernel_rfl) ?_ ?_
 ·conv=>whnf
  repeat' (first
   | (refine And.intro ?_ ?_<;>(conv=>whnf))
   | (refine bC.mk' i rfl (fQ hlt) ?_;conv=>whnf)
   | (refine aS.aA (List.getElem?_eq_getElem hlt) ?_;conv=>whnf)
   | (refine ay.mk (by decide) ?_;conv=>whnf)
   | (refine aI.i64 (by omega) ?_;conv=>whnf)
   | (refine aj [] (by kernel_rfl) hA ?_ ?_;(focus (trivial;done));rintro _ _ _ ⟨rfl,rfl,rfl⟩;conv=>whnf))
  all_goals (refine jf [] [] ?_ ?_ ?_;(focus rfl);(focus trivial);(focus trivial);done)
 conv=>whnf
 refine eu dB [1,2,3] [(9,9),(48,57)] 1 [(9,el (s.ev++ev))] [(0, .var 43 (jB {s with d:=da}))] (by kernel_rfl) (by kernel_rfl) ?_ ?_
 ·conv=>whnf
  repeat' (first
   | (refine And.intro ?_ ?_<;>(conv=>whnf))
   | (refine bC.mk' i rfl (fQ hlt) ?_;conv=>whnf)
   | (refine aS.aA (List.getElem?_eq_getElem hlt) ?_;conv=>whnf)
   | (refine ay.mk (by decide) ?_;conv=>whnf)
   | (refine aI.i64 (by omega) ?_;conv=>whnf)
   | (refine ay.mk (C9 (by(try dsimp only);simp only [List.length_map,List.length_nil,List.length_append];omega)) ?_;conv=>whnf)
   | (refine aj [] (by kernel_rfl) hE ?_ ?_;(focus (trivial;done));rintro _ _ _ ⟨rfl,rfl,rfl⟩;conv=>whnf))
  refine jf [] [3] ?_ ?_ ?_
  ·rfl
  ·trivial
  ·exact⟨⟨rfl,rfl,AX _ _⟩,trivial⟩
 conv=>whnf
 have hQ:=TP {s with d:=da} hs.ok ev hv1 (by omega)
 obtain⟨q,hq⟩ : ∃q,q=nR {s with d:=da} ev:=⟨_,rfl⟩
 have hF:=KC hs (by omega) ⟨hv1,hv2⟩ (by dsimp only;omega) hq
 rw [←hq]at hQ
 clear hq
 obtain⟨s1,e1⟩:=q
 dsimp only at hQ
 refine eu dB [] [(10,11),(58,68)] 2 [(10, .ptr 1 0),(11,iv e1)] [(0, .var 43 (jB {s with d:=da})),(1, .var 43 (jB s1))] (by kernel_rfl) (by kernel_rfl) ?_ ?_
 ·conv=>whnf
  repeat' (first
   | (refine And.intro ?_ ?_<;>(conv=>whnf))
   | (refine bC.mk' i rfl (fQ hlt) ?_;conv=>whnf)
   | (refine aS.aA (List.getElem?_eq_getElem hlt) ?_;conv=>whnf)
   | (refine ay.mk (by decide) ?_;conv=>whnf)
   | (refine aI.i64 (by omega) ?_;conv=>whnf)
   | (refine aj [] (by kernel_rfl) hE ?_ ?_;(focus (trivial;done));rintro _ _ _ ⟨rfl,rfl,rfl⟩;conv=>whnf)
   | (refine aj [] (by kernel_rfl) hQ ?_ ?_;(focus (trivial;done));rintro _ _ _ ⟨rfl,rfl,rfl⟩;conv=>whnf))
  all_goals (refine jf [(1, .lab 1)] [] ?_ ?_ ?_;(focus rfl);(focus trivial);(focus trivial);done)
 conv=>whnf
 (refine bC.mk' i rfl (fQ hlt) ?_;(conv=>whnf);refine aS.aA (List.getElem?_eq_getElem hlt) ?_;(conv=>whnf))
 refine ay.mk (by decide) ?_
 conv=>whnf
 refine ah (fun h7=> ?_) (fun h7=> ?_)
 ·have hO:=OJ {s with d:=da} hs.ok
  obtain⟨q,hq⟩ : ∃q,q=lV {s with d:=da}:=⟨_,rfl⟩
  have hF:=Ij hs (by omega) hq
  rw [←hq]at hO
  clear hq
  obtain⟨s2,e2⟩:=q
  dsimp only at hO
  conv=>whnf
  refine aj [] (by kernel_rfl) hO (by trivial) ?_
  rintro _ _ _ ⟨rfl,rfl,rfl⟩
  rcases hF with ⟨h0,hs2,hev2,_,_⟩ | ⟨h0,_,hd2⟩
  ·have h0:e2=0:=h0
   subst h0
   have hcut:=uz (after:=s.ev) (r:=(s2,0)) hs (.inl ⟨rfl,hs2,hev2⟩) l[i].pick
   conv=>whnf
   obtain⟨yN,ev',hg5,hft,hcase,h0⟩:=hcut
   try dsimp only at yN hg5 h0 hcase
   have hlen:ev'.length≤12*(i+1):=by
    rcases hcase with h | h
    ·rw [h];omega
    ·rw [h];(try rw [List.length_append]);omega
   have hK:=jU s2.d yN l[i].pick
   obtain⟨_,uD,uF,EW⟩:=eG yN l[i].pick
   have hd5:=yN.crash l[i].pick
   generalize (s2.d).crash l[i].pick=dc at *
   refine eu dB [] [(94,100)] 3 [] [(0, .var 43 (jB {s with d:=da})),(1, .var 43 (jB s2)),(2, .var 40 (yF dc))] (by kernel_rfl) (by kernel_rfl) ?_ ?_
   ·conv=>whnf
    repeat' (first
     | (refine And.intro ?_ ?_<;>(conv=>whnf))
     | (refine bC.mk' i rfl (fQ hlt) ?_;conv=>whnf)
     | (refine aS.aA (List.getElem?_eq_getElem hlt) ?_;conv=>whnf)
     | (refine ay.mk (by decide) ?_;conv=>whnf)
     | (refine aI.i64 (by omega) ?_;conv=>whnf)
     | (refine aj [] (by kernel_rfl) hK ?_ ?_;(focus (trivial;done));rintro _ _ _ ⟨rfl,rfl,rfl⟩;conv=>whnf))
    all_goals (refine jf [] [] ?_ ?_ ?_;(focus rfl);(focus trivial);(focus trivial);done)
   conv=>whnf
   (refine bC.mk' i rfl (fQ hlt) ?_;(conv=>whnf);refine aS.aA (List.getElem?_eq_getElem hlt) ?_;(conv=>whnf))
   refine ay.mk (by decide) ?_
   conv=>whnf
   refine ah (fun h2=> ?_) (fun h2=> ?_)
   ·have hA2:=Dh dc hd5 (((l[i].fuse:Nat):Int).tdiv 16)
    have hda:=hd5.arm (n:=max (((l[i].fuse:Nat):Int).tdiv 16) (-1)) (by rw [BO];omega)
    have hw16:IntKind.u8.wrap (((l[i].fuse:Nat):Int).tdiv 16)=((l[i].fuse:Nat):Int).tdiv 16:=by rw [BO];exact ku (by omega)
    have hO2:=fP (dc.arm (max (((l[i].fuse:Nat):Int).tdiv 16) (-1))) hda
    obtain⟨q,hq⟩ : ∃q,q=iK (dc.arm (max (((l[i].fuse:Nat):Int).tdiv 16) (-1))):=⟨_,rfl⟩
    have hF2:=dM hrd hda uF uD hg5 hft (by omega) hq
    rw [←hq]at hO2
    clear hq
    obtain⟨s5,e5⟩:=q
    obtain⟨Na,hx5,uG⟩:=pU hF2 l[i].pick
    clear hF2
    dsimp only at hO2 Na hx5 uG
    generalize dc.arm (max (((l[i].fuse:Nat):Int).tdiv 16) (-1))=db at *
    conv=>whnf
    refine eu dB [] [(13,14),(108,120)] 4 [(13, .ptr 3 0),(14,iv e5)] [(0, .var 43 (jB {s with d:=da})),(1, .var 43 (jB s2)),(2, .var 40 (yF dc)),(3, .var 43 (jB s5))] (by kernel_rfl) (by kernel_rfl) ?_ ?_
    ·conv=>whnf
     repeat' (first
     | (refine And.intro ?_ ?_<;>(conv=>whnf))
     | (refine bC.mk' i rfl (fQ hlt) ?_;conv=>whnf)
     | (refine aS.aA (List.getElem?_eq_getElem hlt) ?_;conv=>whnf)
     | (refine ay.mk (by decide) ?_;conv=>whnf)
     | (refine aI.in hw16 ?_;conv=>whnf)
     | (refine aI.i64 (by omega) ?_;conv=>whnf)
     | (refine aj [] (by kernel_rfl) hA2 ?_ ?_;(focus (trivial;done));rintro _ _ _ ⟨rfl,rfl,rfl⟩;conv=>whnf)
     | (refine aj [] (by kernel_rfl) hO2 ?_ ?_;(focus (trivial;done));rintro _ _ _ ⟨rfl,rfl,rfl⟩;conv=>whnf))
     all_goals (refine jf [(3, .lab 3)] [] ?_ ?_ ?_;(focus rfl);(focus trivial);(focus trivial);done)
    have hK2:=jU s5.d hx5 l[i].pick
    obtain⟨_,kV,kW,EX⟩:=eG hx5 l[i].pick
    have hd6:=hx5.crash l[i].pick
    generalize s5.d.crash l[i].pick=qB at *
    rcases Na with rfl | rfl
    ·skip
     conv=>whnf
     refine eu dB [] [(127,134)] 4 [] [(0, .var 43 (jB {s with d:=da})),(1, .var 43 (jB s2)),(2, .var 40 (yF qB)),(3, .var 43 (jB s5))] (by kernel_rfl) (by kernel_rfl) ?_ ?_
     ·conv=>whnf
      repeat' (first
       | (refine And.intro ?_ ?_<;>(conv=>whnf))
       | (refine bC.mk' i rfl (fQ hlt) ?_;conv=>whnf)
       | (refine aS.aA (List.getElem?_eq_getElem hlt) ?_;conv=>whnf)
       | (refine ay.mk (by decide) ?_;conv=>whnf)
       | (refine aI.i64 (by omega) ?_;conv=>whnf)
       | (refine aj [] (by kernel_rfl) hK2 ?_ ?_;(focus (trivial;done));rintro _ _ _ ⟨rfl,rfl,rfl⟩;conv=>whnf))
      all_goals (refine jf [] [] ?_ ?_ ?_;(focus rfl);(focus trivial);(focus trivial);done)
     have hO:=fP qB hd6
     obtain⟨q,hq⟩ : ∃q,q=iK qB:=⟨_,rfl⟩
     have hF:=dM hrd hd6 kW kV uG hft (by omega) hq
     rw [←hq]at hO
     clear hq
     obtain⟨⟨d4,gen4,dD,dF,bK,fM⟩,e4⟩:=q
     rcases hF with ⟨hz,hs4,dR,_⟩ | ⟨_,hbad,_⟩
     rotate_left 1
     ·exfalso;omega
     have hz:e4=0:=hz
     have dR:ev'=fM:=dR.symm
     subst hz dR
     dsimp only at hO hs4 hlen
     conv=>whnf
     refine aj [] (by kernel_rfl) hO (by trivial) ?_
     rintro _ _ _ ⟨rfl,rfl,rfl⟩
     conv=>whnf
     (refine aP dB [] (by kernel_rfl) ?_;conv=>whnf)
     refine aj [] (by kernel_rfl) (bP fM s.ev (by omega)) (by trivial) ?_
     rintro _ _ _ ⟨c1,hc1,rfl,rfl,rfl⟩
     conv=>whnf
     refine aj [] (by kernel_rfl) (bP fM s.ev (by omega)) (by trivial) ?_
     rintro _ _ _ ⟨c2,hc2,rfl,rfl,rfl⟩
     have hz2:=hc2 (h0 rfl)
     subst hz2
     conv=>whnf
     (refine aP dB [] (by kernel_rfl) ?_;conv=>whnf)
     refine aI.i64 (by dsimp only;omega) ?_
     conv=>whnf
     exact aF ⟨⟨d4,gen4,dD,dF,bK,fM⟩,i+1⟩ [] [] rfl (by show l.length -(i+1)<l.length-i;omega) ⟨hlt,hs4.mono (by dsimp only;omega),hlen⟩ (by trivial) (by trivial)
    ·skip
     conv=>whnf
     refine eu dB [] [(127,134)] 4 [] [(0, .var 43 (jB {s with d:=da})),(1, .var 43 (jB s2)),(2, .var 40 (yF qB)),(3, .var 43 (jB s5))] (by kernel_rfl) (by kernel_rfl) ?_ ?_
     ·conv=>whnf
      repeat' (first
       | (refine And.intro ?_ ?_<;>(conv=>whnf))
       | (refine bC.mk' i rfl (fQ hlt) ?_;conv=>whnf)
       | (refine aS.aA (List.getElem?_eq_getElem hlt) ?_;conv=>whnf)
       | (refine ay.mk (by decide) ?_;conv=>whnf)
       | (refine aI.i64 (by omega) ?_;conv=>whnf)
       | (refine aj [] (by kernel_rfl) hK2 ?_ ?_;(focus (trivial;done));rintro _ _ _ ⟨rfl,rfl,rfl⟩;conv=>whnf))
      all_goals (refine jf [] [] ?_ ?_ ?_;(focus rfl);(focus trivial);(focus trivial);done)
     have hO:=fP qB hd6
     obtain⟨q,hq⟩ : ∃q,q=iK qB:=⟨_,rfl⟩
     have hF:=dM hrd hd6 kW kV uG hft (by omega) hq
     rw [←hq]at hO
     clear hq
     obtain⟨⟨d4,gen4,dD,dF,bK,fM⟩,e4⟩:=q
     rcases hF with ⟨hz,hs4,dR,_⟩ | ⟨_,hbad,_⟩
     rotate_left 1
     ·exfalso;omega
     have hz:e4=0:=hz
     have dR:ev'=fM:=dR.symm
     subst hz dR
     dsimp only at hO hs4 hlen
     conv=>whnf
     refine aj [] (by kernel_rfl) hO (by trivial) ?_
     rintro _ _ _ ⟨rfl,rfl,rfl⟩
     conv=>whnf
     (refine aP dB [] (by kernel_rfl) ?_;conv=>whnf)
     refine aj [] (by kernel_rfl) (bP fM s.ev (by omega)) (by trivial) ?_
     rintro _ _ _ ⟨c1,hc1,rfl,rfl,rfl⟩
     conv=>whnf
     refine aj [] (by kernel_rfl) (bP fM s.ev (by omega)) (by trivial) ?_
     rintro _ _ _ ⟨c2,hc2,rfl,rfl,rfl⟩
     have hz2:=hc2 (h0 rfl)
     subst hz2
     conv=>whnf
     (refine aP dB [] (by kernel_rfl) ?_;conv=>whnf)
     refine aI.i64 (by dsimp only;omega) ?_
     conv=>whnf
     exact aF ⟨⟨d4,gen4,dD,dF,bK,fM⟩,i+1⟩ [] [] rfl (by show l.length -(i+1)<l.length-i;omega) ⟨hlt,hs4.mono (by dsimp only;omega),hlen⟩ (by trivial) (by trivial)
   ·have hd6:=hd5
    have kW:=uF
    have kV:=uD
    have uG:=hg5
    have EX:=EW
    have hO:=fP dc hd6
    obtain⟨q,hq⟩ : ∃q,q=iK dc:=⟨_,rfl⟩
    have hF:=dM hrd hd6 kW kV uG hft (by omega) hq
    rw [←hq]at hO
    clear hq
    obtain⟨⟨d4,gen4,dD,dF,bK,fM⟩,e4⟩:=q
    rcases hF with ⟨hz,hs4,dR,_⟩ | ⟨_,hbad,_⟩
    rotate_left 1
    ·exfalso;omega
    have hz:e4=0:=hz
    have dR:ev'=fM:=dR.symm
    subst hz dR
    dsimp only at hO hs4 hlen
    conv=>whnf
    refine aj [] (by kernel_rfl) hO (by trivial) ?_
    rintro _ _ _ ⟨rfl,rfl,rfl⟩
    conv=>whnf
    (refine aP dB [] (by kernel_rfl) ?_;conv=>whnf)
    refine aj [] (by kernel_rfl) (bP fM s.ev (by omega)) (by trivial) ?_
    rintro _ _ _ ⟨c1,hc1,rfl,rfl,rfl⟩
    conv=>whnf
    refine aj [] (by kernel_rfl) (bP fM s.ev (by omega)) (by trivial) ?_
    rintro _ _ _ ⟨c2,hc2,rfl,rfl,rfl⟩
    have hz2:=hc2 (h0 rfl)
    subst hz2
    conv=>whnf
    (refine aP dB [] (by kernel_rfl) ?_;conv=>whnf)
    refine aI.i64 (by dsimp only;omega) ?_
    conv=>whnf
    exact aF ⟨⟨d4,gen4,dD,dF,bK,fM⟩,i+1⟩ [] [] rfl (by show l.length -(i+1)<l.length-i;omega) ⟨hlt,hs4.mono (by dsimp only;omega),hlen⟩ (by trivial) (by trivial)
  ·have h0:e2=40:=h0
   subst h0
   obtain⟨d2,hd2,hd3,hd4⟩:=hd2
   have hd2:s2=So.jA d2:=hd2
   subst hd2
   have hcut:=uz (after:=s.ev) (r:=(So.jA d2,40)) hs (.inr ⟨rfl,d2,rfl,hd3,fun M hM=> .inl (hd4 M hM)⟩) l[i].pick
   conv=>whnf
   obtain⟨yN,ev',hg5,hft,hcase,h0⟩:=hcut
   try dsimp only at yN hg5 h0 hcase
   have hlen:ev'.length≤12*(i+1):=by
    rcases hcase with h | h
    ·rw [h];omega
    ·rw [h];(try rw [List.length_append]);omega
   have hK:=jU (So.jA d2).d yN l[i].pick
   obtain⟨_,uD,uF,EW⟩:=eG yN l[i].pick
   have hd5:=yN.crash l[i].pick
   generalize ((So.jA d2).d).crash l[i].pick=dc at *
   refine eu dB [] [(94,100)] 3 [] [(0, .var 43 (jB {s with d:=da})),(1, .var 43 (jB (So.jA d2))),(2, .var 40 (yF dc))] (by kernel_rfl) (by kernel_rfl) ?_ ?_
   ·conv=>whnf
    repeat' (first
     | (refine And.intro ?_ ?_<;>(conv=>whnf))
     | (refine bC.mk' i rfl (fQ hlt) ?_;conv=>whnf)
     | (refine aS.aA (List.getElem?_eq_getElem hlt) ?_;conv=>whnf)
     | (refine ay.mk (by decide) ?_;conv=>whnf)
     | (refine aI.i64 (by omega) ?_;conv=>whnf)
     | (refine aj [] (by kernel_rfl) hK ?_ ?_;(focus (trivial;done));rintro _ _ _ ⟨rfl,rfl,rfl⟩;conv=>whnf))
    all_goals (refine jf [] [] ?_ ?_ ?_;(focus rfl);(focus trivial);(focus trivial);done)
   conv=>whnf
   (refine bC.mk' i rfl (fQ hlt) ?_;(conv=>whnf);refine aS.aA (List.getElem?_eq_getElem hlt) ?_;(conv=>whnf))
   refine ay.mk (by decide) ?_
   conv=>whnf
   refine ah (fun h2=> ?_) (fun h2=> ?_)
   ·have hA2:=Dh dc hd5 (((l[i].fuse:Nat):Int).tdiv 16)
    have hda:=hd5.arm (n:=max (((l[i].fuse:Nat):Int).tdiv 16) (-1)) (by rw [BO];omega)
    have hw16:IntKind.u8.wrap (((l[i].fuse:Nat):Int).tdiv 16)=((l[i].fuse:Nat):Int).tdiv 16:=by rw [BO];exact ku (by omega)
    have hO2:=fP (dc.arm (max (((l[i].fuse:Nat):Int).tdiv 16) (-1))) hda
    obtain⟨q,hq⟩ : ∃q,q=iK (dc.arm (max (((l[i].fuse:Nat):Int).tdiv 16) (-1))):=⟨_,rfl⟩
    have hF2:=dM hrd hda uF uD hg5 hft (by omega) hq
    rw [←hq]at hO2
    clear hq
    obtain⟨s5,e5⟩:=q
    obtain⟨Na,hx5,uG⟩:=pU hF2 l[i].pick
    clear hF2
    dsimp only at hO2 Na hx5 uG
    generalize dc.arm (max (((l[i].fuse:Nat):Int).tdiv 16) (-1))=db at *
    conv=>whnf
    refine eu dB [] [(13,14),(108,120)] 4 [(13, .ptr 3 0),(14,iv e5)] [(0, .var 43 (jB {s with d:=da})),(1, .var 43 (jB (So.jA d2))),(2, .var 40 (yF dc)),(3, .var 43 (jB s5))] (by kernel_rfl) (by kernel_rfl) ?_ ?_
    ·conv=>whnf
     repeat' (first
     | (refine And.intro ?_ ?_<;>(conv=>whnf))
     | (refine bC.mk' i rfl (fQ hlt) ?_;conv=>whnf)
     | (refine aS.aA (List.getElem?_eq_getElem hlt) ?_;conv=>whnf)
     | (refine ay.mk (by decide) ?_;conv=>whnf)
     | (refine aI.in hw16 ?_;conv=>whnf)
     | (refine aI.i64 (by omega) ?_;conv=>whnf)
     | (refine aj [] (by kernel_rfl) hA2 ?_ ?_;(focus (trivial;done));rintro _ _ _ ⟨rfl,rfl,rfl⟩;conv=>whnf)
     | (refine aj [] (by kernel_rfl) hO2 ?_ ?_;(focus (trivial;done));rintro _ _ _ ⟨rfl,rfl,rfl⟩;conv=>whnf))
     all_goals (refine jf [(3, .lab 3)] [] ?_ ?_ ?_;(focus rfl);(focus trivial);(focus trivial);done)
    have hK2:=jU s5.d hx5 l[i].pick
    obtain⟨_,kV,kW,EX⟩:=eG hx5 l[i].pick
    have hd6:=hx5.crash l[i].pick
    generalize s5.d.crash l[i].pick=qB at *
    rcases Na with rfl | rfl
    ·skip
     conv=>whnf
     refine eu dB [] [(127,134)] 4 [] [(0, .var 43 (jB {s with d:=da})),(1, .var 43 (jB (So.jA d2))),(2, .var 40 (yF qB)),(3, .var 43 (jB s5))] (by kernel_rfl) (by kernel_rfl) ?_ ?_
     ·conv=>whnf
      repeat' (first
       | (refine And.intro ?_ ?_<;>(conv=>whnf))
       | (refine bC.mk' i rfl (fQ hlt) ?_;conv=>whnf)
       | (refine aS.aA (List.getElem?_eq_getElem hlt) ?_;conv=>whnf)
       | (refine ay.mk (by decide) ?_;conv=>whnf)
       | (refine aI.i64 (by omega) ?_;conv=>whnf)
       | (refine aj [] (by kernel_rfl) hK2 ?_ ?_;(focus (trivial;done));rintro _ _ _ ⟨rfl,rfl,rfl⟩;conv=>whnf))
      all_goals (refine jf [] [] ?_ ?_ ?_;(focus rfl);(focus trivial);(focus trivial);done)
     have hO:=fP qB hd6
     obtain⟨q,hq⟩ : ∃q,q=iK qB:=⟨_,rfl⟩
     have hF:=dM hrd hd6 kW kV uG hft (by omega) hq
     rw [←hq]at hO
     clear hq
     obtain⟨⟨d4,gen4,dD,dF,bK,fM⟩,e4⟩:=q
     rcases hF with ⟨hz,hs4,dR,_⟩ | ⟨_,hbad,_⟩
     rotate_left 1
     ·exfalso;omega
     have hz:e4=0:=hz
     have dR:ev'=fM:=dR.symm
     subst hz dR
     dsimp only at hO hs4 hlen
     conv=>whnf
     refine aj [] (by kernel_rfl) hO (by trivial) ?_
     rintro _ _ _ ⟨rfl,rfl,rfl⟩
     conv=>whnf
     (refine aP dB [] (by kernel_rfl) ?_;conv=>whnf)
     refine aj [] (by kernel_rfl) (bP fM s.ev (by omega)) (by trivial) ?_
     rintro _ _ _ ⟨c1,hc1,rfl,rfl,rfl⟩
     conv=>whnf
     refine aj [] (by kernel_rfl) (bP fM s.ev (by omega)) (by trivial) ?_
     rintro _ _ _ ⟨c2,hc2,rfl,rfl,rfl⟩
     rcases hcase with hx | hx
     ·have hz1:=hc1 hx
      subst hz1
      conv=>whnf
      (refine aP dB [] (by kernel_rfl) ?_;conv=>whnf)
      refine aI.i64 (by dsimp only;omega) ?_
      conv=>whnf
      exact aF ⟨⟨d4,gen4,dD,dF,bK,fM⟩,i+1⟩ [] [] rfl (by show l.length -(i+1)<l.length-i;omega) ⟨hlt,hs4.mono (by dsimp only;omega),hlen⟩ (by trivial) (by trivial)
     ·have hz2:=hc2 hx
      subst hz2
      cases c1
      ·skip
       conv=>whnf
       (refine aP dB [] (by kernel_rfl) ?_;conv=>whnf)
       refine aI.i64 (by dsimp only;omega) ?_
       conv=>whnf
       exact aF ⟨⟨d4,gen4,dD,dF,bK,fM⟩,i+1⟩ [] [] rfl (by show l.length -(i+1)<l.length-i;omega) ⟨hlt,hs4.mono (by dsimp only;omega),hlen⟩ (by trivial) (by trivial)
      ·skip
       conv=>whnf
       (refine aP dB [] (by kernel_rfl) ?_;conv=>whnf)
       refine aI.i64 (by dsimp only;omega) ?_
       conv=>whnf
       exact aF ⟨⟨d4,gen4,dD,dF,bK,fM⟩,i+1⟩ [] [] rfl (by show l.length -(i+1)<l.length-i;omega) ⟨hlt,hs4.mono (by dsimp only;omega),hlen⟩ (by trivial) (by trivial)
    ·skip
     conv=>whnf
     refine eu dB [] [(127,134)] 4 [] [(0, .var 43 (jB {s with d:=da})),(1, .var 43 (jB (So.jA d2))),(2, .var 40 (yF qB)),(3, .var 43 (jB s5))] (by kernel_rfl) (by kernel_rfl) ?_ ?_
     ·conv=>whnf
      repeat' (first
       | (refine And.intro ?_ ?_<;>(conv=>whnf))
       | (refine bC.mk' i rfl (fQ hlt) ?_;conv=>whnf)
       | (refine aS.aA (List.getElem?_eq_getElem hlt) ?_;conv=>whnf)
       | (refine ay.mk (by decide) ?_;conv=>whnf)
       | (refine aI.i64 (by omega) ?_;conv=>whnf)
       | (refine aj [] (by kernel_rfl) hK2 ?_ ?_;(focus (trivial;done));rintro _ _ _ ⟨rfl,rfl,rfl⟩;conv=>whnf))
      all_goals (refine jf [] [] ?_ ?_ ?_;(focus rfl);(focus trivial);(focus trivial);done)
     have hO:=fP qB hd6
     obtain⟨q,hq⟩ : ∃q,q=iK qB:=⟨_,rfl⟩
     have hF:=dM hrd hd6 kW kV uG hft (by omega) hq
     rw [←hq]at hO
     clear hq
     obtain⟨⟨d4,gen4,dD,dF,bK,fM⟩,e4⟩:=q
     rcases hF with ⟨hz,hs4,dR,_⟩ | ⟨_,hbad,_⟩
     rotate_left 1
     ·exfalso;omega
     have hz:e4=0:=hz
     have dR:ev'=fM:=dR.symm
     subst hz dR
     dsimp only at hO hs4 hlen
     conv=>whnf
     refine aj [] (by kernel_rfl) hO (by trivial) ?_
     rintro _ _ _ ⟨rfl,rfl,rfl⟩
     conv=>whnf
     (refine aP dB [] (by kernel_rfl) ?_;conv=>whnf)
     refine aj [] (by kernel_rfl) (bP fM s.ev (by omega)) (by trivial) ?_
     rintro _ _ _ ⟨c1,hc1,rfl,rfl,rfl⟩
     conv=>whnf
     refine aj [] (by kernel_rfl) (bP fM s.ev (by omega)) (by trivial) ?_
     rintro _ _ _ ⟨c2,hc2,rfl,rfl,rfl⟩
     rcases hcase with hx | hx
     ·have hz1:=hc1 hx
      subst hz1
      conv=>whnf
      (refine aP dB [] (by kernel_rfl) ?_;conv=>whnf)
      refine aI.i64 (by dsimp only;omega) ?_
      conv=>whnf
      exact aF ⟨⟨d4,gen4,dD,dF,bK,fM⟩,i+1⟩ [] [] rfl (by show l.length -(i+1)<l.length-i;omega) ⟨hlt,hs4.mono (by dsimp only;omega),hlen⟩ (by trivial) (by trivial)
     ·have hz2:=hc2 hx
      subst hz2
      cases c1
      ·skip
       conv=>whnf
       (refine aP dB [] (by kernel_rfl) ?_;conv=>whnf)
       refine aI.i64 (by dsimp only;omega) ?_
       conv=>whnf
       exact aF ⟨⟨d4,gen4,dD,dF,bK,fM⟩,i+1⟩ [] [] rfl (by show l.length -(i+1)<l.length-i;omega) ⟨hlt,hs4.mono (by dsimp only;omega),hlen⟩ (by trivial) (by trivial)
      ·skip
       conv=>whnf
       (refine aP dB [] (by kernel_rfl) ?_;conv=>whnf)
       refine aI.i64 (by dsimp only;omega) ?_
       conv=>whnf
       exact aF ⟨⟨d4,gen4,dD,dF,bK,fM⟩,i+1⟩ [] [] rfl (by show l.length -(i+1)<l.length-i;omega) ⟨hlt,hs4.mono (by dsimp only;omega),hlen⟩ (by trivial) (by trivial)
   ·have hd6:=hd5
    have kW:=uF
    have kV:=uD
    have uG:=hg5
    have EX:=EW
    have hO:=fP dc hd6
    obtain⟨q,hq⟩ : ∃q,q=iK dc:=⟨_,rfl⟩
    have hF:=dM hrd hd6 kW kV uG hft (by omega) hq
    rw [←hq]at hO
    clear hq
    obtain⟨⟨d4,gen4,dD,dF,bK,fM⟩,e4⟩:=q
    rcases hF with ⟨hz,hs4,dR,_⟩ | ⟨_,hbad,_⟩
    rotate_left 1
    ·exfalso;omega
    have hz:e4=0:=hz
    have dR:ev'=fM:=dR.symm
    subst hz dR
    dsimp only at hO hs4 hlen
    conv=>whnf
    refine aj [] (by kernel_rfl) hO (by trivial) ?_
    rintro _ _ _ ⟨rfl,rfl,rfl⟩
    conv=>whnf
    (refine aP dB [] (by kernel_rfl) ?_;conv=>whnf)
    refine aj [] (by kernel_rfl) (bP fM s.ev (by omega)) (by trivial) ?_
    rintro _ _ _ ⟨c1,hc1,rfl,rfl,rfl⟩
    conv=>whnf
    refine aj [] (by kernel_rfl) (bP fM s.ev (by omega)) (by trivial) ?_
    rintro _ _ _ ⟨c2,hc2,rfl,rfl,rfl⟩
    rcases hcase with hx | hx
    ·have hz1:=hc1 hx
     subst hz1
     conv=>whnf
     (refine aP dB [] (by kernel_rfl) ?_;conv=>whnf)
     refine aI.i64 (by dsimp only;omega) ?_
     conv=>whnf
     exact aF ⟨⟨d4,gen4,dD,dF,bK,fM⟩,i+1⟩ [] [] rfl (by show l.length -(i+1)<l.length-i;omega) ⟨hlt,hs4.mono (by dsimp only;omega),hlen⟩ (by trivial) (by trivial)
    ·have hz2:=hc2 hx
     subst hz2
     cases c1
     ·skip
      conv=>whnf
      (refine aP dB [] (by kernel_rfl) ?_;conv=>whnf)
      refine aI.i64 (by dsimp only;omega) ?_
      conv=>whnf
      exact aF ⟨⟨d4,gen4,dD,dF,bK,fM⟩,i+1⟩ [] [] rfl (by show l.length -(i+1)<l.length-i;omega) ⟨hlt,hs4.mono (by dsimp only;omega),hlen⟩ (by trivial) (by trivial)
     ·skip
      conv=>whnf
      (refine aP dB [] (by kernel_rfl) ?_;conv=>whnf)
      refine aI.i64 (by dsimp only;omega) ?_
      conv=>whnf
      exact aF ⟨⟨d4,gen4,dD,dF,bK,fM⟩,i+1⟩ [] [] rfl (by show l.length -(i+1)<l.length-i;omega) ⟨hlt,hs4.mono (by dsimp only;omega),hlen⟩ (by trivial) (by trivial)
 ·rcases hF with ⟨h0,hs1,hev1,_⟩ | h0 | ⟨h0,_,hd2⟩
  ·have h0:e1=0:=h0
   subst h0
   have hcut:=uz (after:=s.ev++ev) (r:=(s1,0)) hs (.inl ⟨rfl,hs1,hev1⟩) l[i].pick
   conv=>whnf
   obtain⟨yN,ev',hg5,hft,hcase,h0⟩:=hcut
   try dsimp only at yN hg5 h0 hcase
   have hlen:ev'.length≤12*(i+1):=by
    rcases hcase with h | h
    ·rw [h];omega
    ·rw [h];(try rw [List.length_append]);omega
   have hK:=jU s1.d yN l[i].pick
   obtain⟨_,uD,uF,EW⟩:=eG yN l[i].pick
   have hd5:=yN.crash l[i].pick
   generalize (s1.d).crash l[i].pick=dc at *
   refine eu dB [] [(94,100)] 3 [] [(0, .var 43 (jB {s with d:=da})),(1, .var 43 (jB s1)),(2, .var 40 (yF dc))] (by kernel_rfl) (by kernel_rfl) ?_ ?_
   ·conv=>whnf
    repeat' (first
     | (refine And.intro ?_ ?_<;>(conv=>whnf))
     | (refine bC.mk' i rfl (fQ hlt) ?_;conv=>whnf)
     | (refine aS.aA (List.getElem?_eq_getElem hlt) ?_;conv=>whnf)
     | (refine ay.mk (by decide) ?_;conv=>whnf)
     | (refine aI.i64 (by omega) ?_;conv=>whnf)
     | (refine aj [] (by kernel_rfl) hK ?_ ?_;(focus (trivial;done));rintro _ _ _ ⟨rfl,rfl,rfl⟩;conv=>whnf))
    all_goals (refine jf [] [] ?_ ?_ ?_;(focus rfl);(focus trivial);(focus trivial);done)
   conv=>whnf
   (refine bC.mk' i rfl (fQ hlt) ?_;(conv=>whnf);refine aS.aA (List.getElem?_eq_getElem hlt) ?_;(conv=>whnf))
   refine ay.mk (by decide) ?_
   conv=>whnf
   refine ah (fun h2=> ?_) (fun h2=> ?_)
   ·have hA2:=Dh dc hd5 (((l[i].fuse:Nat):Int).tdiv 16)
    have hda:=hd5.arm (n:=max (((l[i].fuse:Nat):Int).tdiv 16) (-1)) (by rw [BO];omega)
    have hw16:IntKind.u8.wrap (((l[i].fuse:Nat):Int).tdiv 16)=((l[i].fuse:Nat):Int).tdiv 16:=by rw [BO];exact ku (by omega)
    have hO2:=fP (dc.arm (max (((l[i].fuse:Nat):Int).tdiv 16) (-1))) hda
    obtain⟨q,hq⟩ : ∃q,q=iK (dc.arm (max (((l[i].fuse:Nat):Int).tdiv 16) (-1))):=⟨_,rfl⟩
    have hF2:=dM hrd hda uF uD hg5 hft (by omega) hq
    rw [←hq]at hO2
    clear hq
    obtain⟨s5,e5⟩:=q
    obtain⟨Na,hx5,uG⟩:=pU hF2 l[i].pick
    clear hF2
    dsimp only at hO2 Na hx5 uG
    generalize dc.arm (max (((l[i].fuse:Nat):Int).tdiv 16) (-1))=db at *
    conv=>whnf
    refine eu dB [] [(13,14),(108,120)] 4 [(13, .ptr 3 0),(14,iv e5)] [(0, .var 43 (jB {s with d:=da})),(1, .var 43 (jB s1)),(2, .var 40 (yF dc)),(3, .var 43 (jB s5))] (by kernel_rfl) (by kernel_rfl) ?_ ?_
    ·conv=>whnf
     repeat' (first
     | (refine And.intro ?_ ?_<;>(conv=>whnf))
     | (refine bC.mk' i rfl (fQ hlt) ?_;conv=>whnf)
     | (refine aS.aA (List.getElem?_eq_getElem hlt) ?_;conv=>whnf)
     | (refine ay.mk (by decide) ?_;conv=>whnf)
     | (refine aI.in hw16 ?_;conv=>whnf)
     | (refine aI.i64 (by omega) ?_;conv=>whnf)
     | (refine aj [] (by kernel_rfl) hA2 ?_ ?_;(focus (trivial;done));rintro _ _ _ ⟨rfl,rfl,rfl⟩;conv=>whnf)
     | (refine aj [] (by kernel_rfl) hO2 ?_ ?_;(focus (trivial;done));rintro _ _ _ ⟨rfl,rfl,rfl⟩;conv=>whnf))
     all_goals (refine jf [(3, .lab 3)] [] ?_ ?_ ?_;(focus rfl);(focus trivial);(focus trivial);done)
    have hK2:=jU s5.d hx5 l[i].pick
    obtain⟨_,kV,kW,EX⟩:=eG hx5 l[i].pick
    have hd6:=hx5.crash l[i].pick
    generalize s5.d.crash l[i].pick=qB at *
    rcases Na with rfl | rfl
    ·skip
     conv=>whnf
     refine eu dB [] [(127,134)] 4 [] [(0, .var 43 (jB {s with d:=da})),(1, .var 43 (jB s1)),(2, .var 40 (yF qB)),(3, .var 43 (jB s5))] (by kernel_rfl) (by kernel_rfl) ?_ ?_
     ·conv=>whnf
      repeat' (first
       | (refine And.intro ?_ ?_<;>(conv=>whnf))
       | (refine bC.mk' i rfl (fQ hlt) ?_;conv=>whnf)
       | (refine aS.aA (List.getElem?_eq_getElem hlt) ?_;conv=>whnf)
       | (refine ay.mk (by decide) ?_;conv=>whnf)
       | (refine aI.i64 (by omega) ?_;conv=>whnf)
       | (refine aj [] (by kernel_rfl) hK2 ?_ ?_;(focus (trivial;done));rintro _ _ _ ⟨rfl,rfl,rfl⟩;conv=>whnf))
      all_goals (refine jf [] [] ?_ ?_ ?_;(focus rfl);(focus trivial);(focus trivial);done)
     have hO:=fP qB hd6
     obtain⟨q,hq⟩ : ∃q,q=iK qB:=⟨_,rfl⟩
     have hF:=dM hrd hd6 kW kV uG hft (by omega) hq
     rw [←hq]at hO
     clear hq
     obtain⟨⟨d4,gen4,dD,dF,bK,fM⟩,e4⟩:=q
     rcases hF with ⟨hz,hs4,dR,_⟩ | ⟨_,hbad,_⟩
     rotate_left 1
     ·exfalso;omega
     have hz:e4=0:=hz
     have dR:ev'=fM:=dR.symm
     subst hz dR
     dsimp only at hO hs4 hlen
     conv=>whnf
     refine aj [] (by kernel_rfl) hO (by trivial) ?_
     rintro _ _ _ ⟨rfl,rfl,rfl⟩
     conv=>whnf
     (refine aP dB [] (by kernel_rfl) ?_;conv=>whnf)
     refine aj [] (by kernel_rfl) (bP fM s.ev (by omega)) (by trivial) ?_
     rintro _ _ _ ⟨c1,hc1,rfl,rfl,rfl⟩
     conv=>whnf
     refine aj [] (by kernel_rfl) (bP fM (s.ev++ev) (by omega)) (by trivial) ?_
     rintro _ _ _ ⟨c2,hc2,rfl,rfl,rfl⟩
     have hz2:=hc2 (h0 rfl)
     subst hz2
     conv=>whnf
     (refine aP dB [] (by kernel_rfl) ?_;conv=>whnf)
     refine aI.i64 (by dsimp only;omega) ?_
     conv=>whnf
     exact aF ⟨⟨d4,gen4,dD,dF,bK,fM⟩,i+1⟩ [] [] rfl (by show l.length -(i+1)<l.length-i;omega) ⟨hlt,hs4.mono (by dsimp only;omega),hlen⟩ (by trivial) (by trivial)
    ·skip
     conv=>whnf
     refine eu dB [] [(127,134)] 4 [] [(0, .var 43 (jB {s with d:=da})),(1, .var 43 (jB s1)),(2, .var 40 (yF qB)),(3, .var 43 (jB s5))] (by kernel_rfl) (by kernel_rfl) ?_ ?_
     ·conv=>whnf
      repeat' (first
       | (refine And.intro ?_ ?_<;>(conv=>whnf))
       | (refine bC.mk' i rfl (fQ hlt) ?_;conv=>whnf)
       | (refine aS.aA (List.getElem?_eq_getElem hlt) ?_;conv=>whnf)
       | (refine ay.mk (by decide) ?_;conv=>whnf)
       | (refine aI.i64 (by omega) ?_;conv=>whnf)
       | (refine aj [] (by kernel_rfl) hK2 ?_ ?_;(focus (trivial;done));rintro _ _ _ ⟨rfl,rfl,rfl⟩;conv=>whnf))
      all_goals (refine jf [] [] ?_ ?_ ?_;(focus rfl);(focus trivial);(focus trivial);done)
     have hO:=fP qB hd6
     obtain⟨q,hq⟩ : ∃q,q=iK qB:=⟨_,rfl⟩
     have hF:=dM hrd hd6 kW kV uG hft (by omega) hq
     rw [←hq]at hO
     clear hq
     obtain⟨⟨d4,gen4,dD,dF,bK,fM⟩,e4⟩:=q
     rcases hF with ⟨hz,hs4,dR,_⟩ | ⟨_,hbad,_⟩
     rotate_left 1
     ·exfalso;omega
     have hz:e4=0:=hz
     have dR:ev'=fM:=dR.symm
     subst hz dR
     dsimp only at hO hs4 hlen
     conv=>whnf
     refine aj [] (by kernel_rfl) hO (by trivial) ?_
     rintro _ _ _ ⟨rfl,rfl,rfl⟩
     conv=>whnf
     (refine aP dB [] (by kernel_rfl) ?_;conv=>whnf)
     refine aj [] (by kernel_rfl) (bP fM s.ev (by omega)) (by trivial) ?_
     rintro _ _ _ ⟨c1,hc1,rfl,rfl,rfl⟩
     conv=>whnf
     refine aj [] (by kernel_rfl) (bP fM (s.ev++ev) (by omega)) (by trivial) ?_
     rintro _ _ _ ⟨c2,hc2,rfl,rfl,rfl⟩
     have hz2:=hc2 (h0 rfl)
     subst hz2
     conv=>whnf
     (refine aP dB [] (by kernel_rfl) ?_;conv=>whnf)
     refine aI.i64 (by dsimp only;omega) ?_
     conv=>whnf
     exact aF ⟨⟨d4,gen4,dD,dF,bK,fM⟩,i+1⟩ [] [] rfl (by show l.length -(i+1)<l.length-i;omega) ⟨hlt,hs4.mono (by dsimp only;omega),hlen⟩ (by trivial) (by trivial)
   ·have hd6:=hd5
    have kW:=uF
    have kV:=uD
    have uG:=hg5
    have EX:=EW
    have hO:=fP dc hd6
    obtain⟨q,hq⟩ : ∃q,q=iK dc:=⟨_,rfl⟩
    have hF:=dM hrd hd6 kW kV uG hft (by omega) hq
    rw [←hq]at hO
    clear hq
    obtain⟨⟨d4,gen4,dD,dF,bK,fM⟩,e4⟩:=q
    rcases hF with ⟨hz,hs4,dR,_⟩ | ⟨_,hbad,_⟩
    rotate_left 1
    ·exfalso;omega
    have hz:e4=0:=hz
    have dR:ev'=fM:=dR.symm
    subst hz dR
    dsimp only at hO hs4 hlen
    conv=>whnf
    refine aj [] (by kernel_rfl) hO (by trivial) ?_
    rintro _ _ _ ⟨rfl,rfl,rfl⟩
    conv=>whnf
    (refine aP dB [] (by kernel_rfl) ?_;conv=>whnf)
    refine aj [] (by kernel_rfl) (bP fM s.ev (by omega)) (by trivial) ?_
    rintro _ _ _ ⟨c1,hc1,rfl,rfl,rfl⟩
    conv=>whnf
    refine aj [] (by kernel_rfl) (bP fM (s.ev++ev) (by omega)) (by trivial) ?_
    rintro _ _ _ ⟨c2,hc2,rfl,rfl,rfl⟩
    have hz2:=hc2 (h0 rfl)
    subst hz2
    conv=>whnf
    (refine aP dB [] (by kernel_rfl) ?_;conv=>whnf)
    refine aI.i64 (by dsimp only;omega) ?_
    conv=>whnf
    exact aF ⟨⟨d4,gen4,dD,dF,bK,fM⟩,i+1⟩ [] [] rfl (by show l.length -(i+1)<l.length-i;omega) ⟨hlt,hs4.mono (by dsimp only;omega),hlen⟩ (by trivial) (by trivial)
  ·have h0:e1=19:=h0
   subst h0
   have hcut:da.ok∧∃ev',Ii n (1+4*i+1) ev' (da.crash l[i].pick).now∧Fit n ev'∧(ev'=s.ev∨ev'=s.ev++ev)∧((19:Int)=0→ev'=s.ev++ev):=by
    refine⟨hs.ok.d,s.ev, ?_,hs.fit, .inl rfl,fun h=>by cases h⟩
    have hM:=(eG hs.ok.d l[i].pick).1
    rw [hs.safe]at hM
    rw [hM.self]
    exact hs.gd.mono (by omega)
   conv=>whnf
   obtain⟨yN,ev',hg5,hft,hcase,h0⟩:=hcut
   try dsimp only at yN hg5 h0 hcase
   have hlen:ev'.length≤12*(i+1):=by
    rcases hcase with h | h
    ·rw [h];omega
    ·rw [h];(try rw [List.length_append]);omega
   have hK:=jU da yN l[i].pick
   obtain⟨_,uD,uF,EW⟩:=eG yN l[i].pick
   have hd5:=yN.crash l[i].pick
   generalize (da).crash l[i].pick=dc at *
   refine eu dB [] [(94,100)] 3 [] [(0, .var 43 (jB {s with d:=da})),(1, .var 43 (jB s1)),(2, .var 40 (yF dc))] (by kernel_rfl) (by kernel_rfl) ?_ ?_
   ·conv=>whnf
    repeat' (first
     | (refine And.intro ?_ ?_<;>(conv=>whnf))
     | (refine bC.mk' i rfl (fQ hlt) ?_;conv=>whnf)
     | (refine aS.aA (List.getElem?_eq_getElem hlt) ?_;conv=>whnf)
     | (refine ay.mk (by decide) ?_;conv=>whnf)
     | (refine aI.i64 (by omega) ?_;conv=>whnf)
     | (refine aj [] (by kernel_rfl) hK ?_ ?_;(focus (trivial;done));rintro _ _ _ ⟨rfl,rfl,rfl⟩;conv=>whnf))
    all_goals (refine jf [] [] ?_ ?_ ?_;(focus rfl);(focus trivial);(focus trivial);done)
   conv=>whnf
   (refine bC.mk' i rfl (fQ hlt) ?_;(conv=>whnf);refine aS.aA (List.getElem?_eq_getElem hlt) ?_;(conv=>whnf))
   refine ay.mk (by decide) ?_
   conv=>whnf
   refine ah (fun h2=> ?_) (fun h2=> ?_)
   ·have hA2:=Dh dc hd5 (((l[i].fuse:Nat):Int).tdiv 16)
    have hda:=hd5.arm (n:=max (((l[i].fuse:Nat):Int).tdiv 16) (-1)) (by rw [BO];omega)
    have hw16:IntKind.u8.wrap (((l[i].fuse:Nat):Int).tdiv 16)=((l[i].fuse:Nat):Int).tdiv 16:=by rw [BO];exact ku (by omega)
    have hO2:=fP (dc.arm (max (((l[i].fuse:Nat):Int).tdiv 16) (-1))) hda
    obtain⟨q,hq⟩ : ∃q,q=iK (dc.arm (max (((l[i].fuse:Nat):Int).tdiv 16) (-1))):=⟨_,rfl⟩
    have hF2:=dM hrd hda uF uD hg5 hft (by omega) hq
    rw [←hq]at hO2
    clear hq
    obtain⟨s5,e5⟩:=q
    obtain⟨Na,hx5,uG⟩:=pU hF2 l[i].pick
    clear hF2
    dsimp only at hO2 Na hx5 uG
    generalize dc.arm (max (((l[i].fuse:Nat):Int).tdiv 16) (-1))=db at *
    conv=>whnf
    refine eu dB [] [(13,14),(108,120)] 4 [(13, .ptr 3 0),(14,iv e5)] [(0, .var 43 (jB {s with d:=da})),(1, .var 43 (jB s1)),(2, .var 40 (yF dc)),(3, .var 43 (jB s5))] (by kernel_rfl) (by kernel_rfl) ?_ ?_
    ·conv=>whnf
     repeat' (first
     | (refine And.intro ?_ ?_<;>(conv=>whnf))
     | (refine bC.mk' i rfl (fQ hlt) ?_;conv=>whnf)
     | (refine aS.aA (List.getElem?_eq_getElem hlt) ?_;conv=>whnf)
     | (refine ay.mk (by decide) ?_;conv=>whnf)
     | (refine aI.in hw16 ?_;conv=>whnf)
     | (refine aI.i64 (by omega) ?_;conv=>whnf)
     | (refine aj [] (by kernel_rfl) hA2 ?_ ?_;(focus (trivial;done));rintro _ _ _ ⟨rfl,rfl,rfl⟩;conv=>whnf)
     | (refine aj [] (by kernel_rfl) hO2 ?_ ?_;(focus (trivial;done));rintro _ _ _ ⟨rfl,rfl,rfl⟩;conv=>whnf))
     all_goals (refine jf [(3, .lab 3)] [] ?_ ?_ ?_;(focus rfl);(focus trivial);(focus trivial);done)
    have hK2:=jU s5.d hx5 l[i].pick
    obtain⟨_,kV,kW,EX⟩:=eG hx5 l[i].pick
    have hd6:=hx5.crash l[i].pick
    generalize s5.d.crash l[i].pick=qB at *
    rcases Na with rfl | rfl
    ·skip
     conv=>whnf
     refine eu dB [] [(127,134)] 4 [] [(0, .var 43 (jB {s with d:=da})),(1, .var 43 (jB s1)),(2, .var 40 (yF qB)),(3, .var 43 (jB s5))] (by kernel_rfl) (by kernel_rfl) ?_ ?_
     ·conv=>whnf
      repeat' (first
       | (refine And.intro ?_ ?_<;>(conv=>whnf))
       | (refine bC.mk' i rfl (fQ hlt) ?_;conv=>whnf)
       | (refine aS.aA (List.getElem?_eq_getElem hlt) ?_;conv=>whnf)
       | (refine ay.mk (by decide) ?_;conv=>whnf)
       | (refine aI.i64 (by omega) ?_;conv=>whnf)
       | (refine aj [] (by kernel_rfl) hK2 ?_ ?_;(focus (trivial;done));rintro _ _ _ ⟨rfl,rfl,rfl⟩;conv=>whnf))
      all_goals (refine jf [] [] ?_ ?_ ?_;(focus rfl);(focus trivial);(focus trivial);done)
     have hO:=fP qB hd6
     obtain⟨q,hq⟩ : ∃q,q=iK qB:=⟨_,rfl⟩
     have hF:=dM hrd hd6 kW kV uG hft (by omega) hq
     rw [←hq]at hO
     clear hq
     obtain⟨⟨d4,gen4,dD,dF,bK,fM⟩,e4⟩:=q
     rcases hF with ⟨hz,hs4,dR,_⟩ | ⟨_,hbad,_⟩
     rotate_left 1
     ·exfalso;omega
     have hz:e4=0:=hz
     have dR:ev'=fM:=dR.symm
     subst hz dR
     dsimp only at hO hs4 hlen
     conv=>whnf
     refine aj [] (by kernel_rfl) hO (by trivial) ?_
     rintro _ _ _ ⟨rfl,rfl,rfl⟩
     conv=>whnf
     (refine aP dB [] (by kernel_rfl) ?_;conv=>whnf)
     refine aj [] (by kernel_rfl) (bP fM s.ev (by omega)) (by trivial) ?_
     rintro _ _ _ ⟨c1,hc1,rfl,rfl,rfl⟩
     conv=>whnf
     refine aj [] (by kernel_rfl) (bP fM (s.ev++ev) (by omega)) (by trivial) ?_
     rintro _ _ _ ⟨c2,hc2,rfl,rfl,rfl⟩
     rcases hcase with hx | hx
     ·have hz1:=hc1 hx
      subst hz1
      conv=>whnf
      (refine aP dB [] (by kernel_rfl) ?_;conv=>whnf)
      refine aI.i64 (by dsimp only;omega) ?_
      conv=>whnf
      exact aF ⟨⟨d4,gen4,dD,dF,bK,fM⟩,i+1⟩ [] [] rfl (by show l.length -(i+1)<l.length-i;omega) ⟨hlt,hs4.mono (by dsimp only;omega),hlen⟩ (by trivial) (by trivial)
     ·have hz2:=hc2 hx
      subst hz2
      cases c1
      ·skip
       conv=>whnf
       (refine aP dB [] (by kernel_rfl) ?_;conv=>whnf)
       refine aI.i64 (by dsimp only;omega) ?_
       conv=>whnf
       exact aF ⟨⟨d4,gen4,dD,dF,bK,fM⟩,i+1⟩ [] [] rfl (by show l.length -(i+1)<l.length-i;omega) ⟨hlt,hs4.mono (by dsimp only;omega),hlen⟩ (by trivial) (by trivial)
      ·skip
       conv=>whnf
       (refine aP dB [] (by kernel_rfl) ?_;conv=>whnf)
       refine aI.i64 (by dsimp only;omega) ?_
       conv=>whnf
       exact aF ⟨⟨d4,gen4,dD,dF,bK,fM⟩,i+1⟩ [] [] rfl (by show l.length -(i+1)<l.length-i;omega) ⟨hlt,hs4.mono (by dsimp only;omega),hlen⟩ (by trivial) (by trivial)
    ·skip
     conv=>whnf
     refine eu dB [] [(127,134)] 4 [] [(0, .var 43 (jB {s with d:=da})),(1, .var 43 (jB s1)),(2, .var 40 (yF qB)),(3, .var 43 (jB s5))] (by kernel_rfl) (by kernel_rfl) ?_ ?_
     ·conv=>whnf
      repeat' (first
       | (refine And.intro ?_ ?_<;>(conv=>whnf))
       | (refine bC.mk' i rfl (fQ hlt) ?_;conv=>whnf)
       | (refine aS.aA (List.getElem?_eq_getElem hlt) ?_;conv=>whnf)
       | (refine ay.mk (by decide) ?_;conv=>whnf)
       | (refine aI.i64 (by omega) ?_;conv=>whnf)
       | (refine aj [] (by kernel_rfl) hK2 ?_ ?_;(focus (trivial;done));rintro _ _ _ ⟨rfl,rfl,rfl⟩;conv=>whnf))
      all_goals (refine jf [] [] ?_ ?_ ?_;(focus rfl);(focus trivial);(focus trivial);done)
     have hO:=fP qB hd6
     obtain⟨q,hq⟩ : ∃q,q=iK qB:=⟨_,rfl⟩
     have hF:=dM hrd hd6 kW kV uG hft (by omega) hq
     rw [←hq]at hO
     clear hq
     obtain⟨⟨d4,gen4,dD,dF,bK,fM⟩,e4⟩:=q
     rcases hF with ⟨hz,hs4,dR,_⟩ | ⟨_,hbad,_⟩
     rotate_left 1
     ·exfalso;omega
     have hz:e4=0:=hz
     have dR:ev'=fM:=dR.symm
     subst hz dR
     dsimp only at hO hs4 hlen
     conv=>whnf
     refine aj [] (by kernel_rfl) hO (by trivial) ?_
     rintro _ _ _ ⟨rfl,rfl,rfl⟩
     conv=>whnf
     (refine aP dB [] (by kernel_rfl) ?_;conv=>whnf)
     refine aj [] (by kernel_rfl) (bP fM s.ev (by omega)) (by trivial) ?_
     rintro _ _ _ ⟨c1,hc1,rfl,rfl,rfl⟩
     conv=>whnf
     refine aj [] (by kernel_rfl) (bP fM (s.ev++ev) (by omega)) (by trivial) ?_
     rintro _ _ _ ⟨c2,hc2,rfl,rfl,rfl⟩
     rcases hcase with hx | hx
     ·have hz1:=hc1 hx
      subst hz1
      conv=>whnf
      (refine aP dB [] (by kernel_rfl) ?_;conv=>whnf)
      refine aI.i64 (by dsimp only;omega) ?_
      conv=>whnf
      exact aF ⟨⟨d4,gen4,dD,dF,bK,fM⟩,i+1⟩ [] [] rfl (by show l.length -(i+1)<l.length-i;omega) ⟨hlt,hs4.mono (by dsimp only;omega),hlen⟩ (by trivial) (by trivial)
     ·have hz2:=hc2 hx
      subst hz2
      cases c1
      ·skip
       conv=>whnf
       (refine aP dB [] (by kernel_rfl) ?_;conv=>whnf)
       refine aI.i64 (by dsimp only;omega) ?_
       conv=>whnf
       exact aF ⟨⟨d4,gen4,dD,dF,bK,fM⟩,i+1⟩ [] [] rfl (by show l.length -(i+1)<l.length-i;omega) ⟨hlt,hs4.mono (by dsimp only;omega),hlen⟩ (by trivial) (by trivial)
      ·skip
       conv=>whnf
       (refine aP dB [] (by kernel_rfl) ?_;conv=>whnf)
       refine aI.i64 (by dsimp only;omega) ?_
       conv=>whnf
       exact aF ⟨⟨d4,gen4,dD,dF,bK,fM⟩,i+1⟩ [] [] rfl (by show l.length -(i+1)<l.length-i;omega) ⟨hlt,hs4.mono (by dsimp only;omega),hlen⟩ (by trivial) (by trivial)
   ·have hd6:=hd5
    have kW:=uF
    have kV:=uD
    have uG:=hg5
    have EX:=EW
    have hO:=fP dc hd6
    obtain⟨q,hq⟩ : ∃q,q=iK dc:=⟨_,rfl⟩
    have hF:=dM hrd hd6 kW kV uG hft (by omega) hq
    rw [←hq]at hO
    clear hq
    obtain⟨⟨d4,gen4,dD,dF,bK,fM⟩,e4⟩:=q
    rcases hF with ⟨hz,hs4,dR,_⟩ | ⟨_,hbad,_⟩
    rotate_left 1
    ·exfalso;omega
    have hz:e4=0:=hz
    have dR:ev'=fM:=dR.symm
    subst hz dR
    dsimp only at hO hs4 hlen
    conv=>whnf
    refine aj [] (by kernel_rfl) hO (by trivial) ?_
    rintro _ _ _ ⟨rfl,rfl,rfl⟩
    conv=>whnf
    (refine aP dB [] (by kernel_rfl) ?_;conv=>whnf)
    refine aj [] (by kernel_rfl) (bP fM s.ev (by omega)) (by trivial) ?_
    rintro _ _ _ ⟨c1,hc1,rfl,rfl,rfl⟩
    conv=>whnf
    refine aj [] (by kernel_rfl) (bP fM (s.ev++ev) (by omega)) (by trivial) ?_
    rintro _ _ _ ⟨c2,hc2,rfl,rfl,rfl⟩
    rcases hcase with hx | hx
    ·have hz1:=hc1 hx
     subst hz1
     conv=>whnf
     (refine aP dB [] (by kernel_rfl) ?_;conv=>whnf)
     refine aI.i64 (by dsimp only;omega) ?_
     conv=>whnf
     exact aF ⟨⟨d4,gen4,dD,dF,bK,fM⟩,i+1⟩ [] [] rfl (by show l.length -(i+1)<l.length-i;omega) ⟨hlt,hs4.mono (by dsimp only;omega),hlen⟩ (by trivial) (by trivial)
    ·have hz2:=hc2 hx
     subst hz2
     cases c1
     ·skip
      conv=>whnf
      (refine aP dB [] (by kernel_rfl) ?_;conv=>whnf)
      refine aI.i64 (by dsimp only;omega) ?_
      conv=>whnf
      exact aF ⟨⟨d4,gen4,dD,dF,bK,fM⟩,i+1⟩ [] [] rfl (by show l.length -(i+1)<l.length-i;omega) ⟨hlt,hs4.mono (by dsimp only;omega),hlen⟩ (by trivial) (by trivial)
     ·skip
      conv=>whnf
      (refine aP dB [] (by kernel_rfl) ?_;conv=>whnf)
      refine aI.i64 (by dsimp only;omega) ?_
      conv=>whnf
      exact aF ⟨⟨d4,gen4,dD,dF,bK,fM⟩,i+1⟩ [] [] rfl (by show l.length -(i+1)<l.length-i;omega) ⟨hlt,hs4.mono (by dsimp only;omega),hlen⟩ (by trivial) (by trivial)
  ·have h0:e1=40:=h0
   subst h0
   obtain⟨d2,hd2,hd3,hd4⟩:=hd2
   have hd2:s1=So.jA d2:=hd2
   subst hd2
   have hcut:=uz (after:=s.ev++ev) (r:=(So.jA d2,40)) hs (.inr ⟨rfl,d2,rfl,hd3,hd4⟩) l[i].pick
   conv=>whnf
   obtain⟨yN,ev',hg5,hft,hcase,h0⟩:=hcut
   try dsimp only at yN hg5 h0 hcase
   have hlen:ev'.length≤12*(i+1):=by
    rcases hcase with h | h
    ·rw [h];omega
    ·rw [h];(try rw [List.length_append]);omega
   have hK:=jU (So.jA d2).d yN l[i].pick
   obtain⟨_,uD,uF,EW⟩:=eG yN l[i].pick
   have hd5:=yN.crash l[i].pick
   generalize ((So.jA d2).d).crash l[i].pick=dc at *
   refine eu dB [] [(94,100)] 3 [] [(0, .var 43 (jB {s with d:=da})),(1, .var 43 (jB (So.jA d2))),(2, .var 40 (yF dc))] (by kernel_rfl) (by kernel_rfl) ?_ ?_
   ·conv=>whnf
    repeat' (first
     | (refine And.intro ?_ ?_<;>(conv=>whnf))
     | (refine bC.mk' i rfl (fQ hlt) ?_;conv=>whnf)
     | (refine aS.aA (List.getElem?_eq_getElem hlt) ?_;conv=>whnf)
     | (refine ay.mk (by decide) ?_;conv=>whnf)
     | (refine aI.i64 (by omega) ?_;conv=>whnf)
     | (refine aj [] (by kernel_rfl) hK ?_ ?_;(focus (trivial;done));rintro _ _ _ ⟨rfl,rfl,rfl⟩;conv=>whnf))
    all_goals (refine jf [] [] ?_ ?_ ?_;(focus rfl);(focus trivial);(focus trivial);done)
   conv=>whnf
   (refine bC.mk' i rfl (fQ hlt) ?_;(conv=>whnf);refine aS.aA (List.getElem?_eq_getElem hlt) ?_;(conv=>whnf))
   refine ay.mk (by decide) ?_
   conv=>whnf
   refine ah (fun h2=> ?_) (fun h2=> ?_)
   ·have hA2:=Dh dc hd5 (((l[i].fuse:Nat):Int).tdiv 16)
    have hda:=hd5.arm (n:=max (((l[i].fuse:Nat):Int).tdiv 16) (-1)) (by rw [BO];omega)
    have hw16:IntKind.u8.wrap (((l[i].fuse:Nat):Int).tdiv 16)=((l[i].fuse:Nat):Int).tdiv 16:=by rw [BO];exact ku (by omega)
    have hO2:=fP (dc.arm (max (((l[i].fuse:Nat):Int).tdiv 16) (-1))) hda
    obtain⟨q,hq⟩ : ∃q,q=iK (dc.arm (max (((l[i].fuse:Nat):Int).tdiv 16) (-1))):=⟨_,rfl⟩
    have hF2:=dM hrd hda uF uD hg5 hft (by omega) hq
    rw [←hq]at hO2
    clear hq
    obtain⟨s5,e5⟩:=q
    obtain⟨Na,hx5,uG⟩:=pU hF2 l[i].pick
    clear hF2
    dsimp only at hO2 Na hx5 uG
    generalize dc.arm (max (((l[i].fuse:Nat):Int).tdiv 16) (-1))=db at *
    conv=>whnf
    refine eu dB [] [(13,14),(108,120)] 4 [(13, .ptr 3 0),(14,iv e5)] [(0, .var 43 (jB {s with d:=da})),(1, .var 43 (jB (So.jA d2))),(2, .var 40 (yF dc)),(3, .var 43 (jB s5))] (by kernel_rfl) (by kernel_rfl) ?_ ?_
    ·conv=>whnf
     repeat' (first
     | (refine And.intro ?_ ?_<;>(conv=>whnf))
     | (refine bC.mk' i rfl (fQ hlt) ?_;conv=>whnf)
     | (refine aS.aA (List.getElem?_eq_getElem hlt) ?_;conv=>whnf)
     | (refine ay.mk (by decide) ?_;conv=>whnf)
     | (refine aI.in hw16 ?_;conv=>whnf)
     | (refine aI.i64 (by omega) ?_;conv=>whnf)
     | (refine aj [] (by kernel_rfl) hA2 ?_ ?_;(focus (trivial;done));rintro _ _ _ ⟨rfl,rfl,rfl⟩;conv=>whnf)
     | (refine aj [] (by kernel_rfl) hO2 ?_ ?_;(focus (trivial;done));rintro _ _ _ ⟨rfl,rfl,rfl⟩;conv=>whnf))
     all_goals (refine jf [(3, .lab 3)] [] ?_ ?_ ?_;(focus rfl);(focus trivial);(focus trivial);done)
    have hK2:=jU s5.d hx5 l[i].pick
    obtain⟨_,kV,kW,EX⟩:=eG hx5 l[i].pick
    have hd6:=hx5.crash l[i].pick
    generalize s5.d.crash l[i].pick=qB at *
    rcases Na with rfl | rfl
    ·skip
     conv=>whnf
     refine eu dB [] [(127,134)] 4 [] [(0, .var 43 (jB {s with d:=da})),(1, .var 43 (jB (So.jA d2))),(2, .var 40 (yF qB)),(3, .var 43 (jB s5))] (by kernel_rfl) (by kernel_rfl) ?_ ?_
     ·conv=>whnf
      repeat' (first
       | (refine And.intro ?_ ?_<;>(conv=>whnf))
       | (refine bC.mk' i rfl (fQ hlt) ?_;conv=>whnf)
       | (refine aS.aA (List.getElem?_eq_getElem hlt) ?_;conv=>whnf)
       | (refine ay.mk (by decide) ?_;conv=>whnf)
       | (refine aI.i64 (by omega) ?_;conv=>whnf)
       | (refine aj [] (by kernel_rfl) hK2 ?_ ?_;(focus (trivial;done));rintro _ _ _ ⟨rfl,rfl,rfl⟩;conv=>whnf))
      all_goals (refine jf [] [] ?_ ?_ ?_;(focus rfl);(focus trivial);(focus trivial);done)
     have hO:=fP qB hd6
     obtain⟨q,hq⟩ : ∃q,q=iK qB:=⟨_,rfl⟩
     have hF:=dM hrd hd6 kW kV uG hft (by omega) hq
     rw [←hq]at hO
     clear hq
     obtain⟨⟨d4,gen4,dD,dF,bK,fM⟩,e4⟩:=q
     rcases hF with ⟨hz,hs4,dR,_⟩ | ⟨_,hbad,_⟩
     rotate_left 1
     ·exfalso;omega
     have hz:e4=0:=hz
     have dR:ev'=fM:=dR.symm
     subst hz dR
     dsimp only at hO hs4 hlen
     conv=>whnf
     refine aj [] (by kernel_rfl) hO (by trivial) ?_
     rintro _ _ _ ⟨rfl,rfl,rfl⟩
     conv=>whnf
     (refine aP dB [] (by kernel_rfl) ?_;conv=>whnf)
     refine aj [] (by kernel_rfl) (bP fM s.ev (by omega)) (by trivial) ?_
     rintro _ _ _ ⟨c1,hc1,rfl,rfl,rfl⟩
     conv=>whnf
     refine aj [] (by kernel_rfl) (bP fM (s.ev++ev) (by omega)) (by trivial) ?_
     rintro _ _ _ ⟨c2,hc2,rfl,rfl,rfl⟩
     rcases hcase with hx | hx
     ·have hz1:=hc1 hx
      subst hz1
      conv=>whnf
      (refine aP dB [] (by kernel_rfl) ?_;conv=>whnf)
      refine aI.i64 (by dsimp only;omega) ?_
      conv=>whnf
      exact aF ⟨⟨d4,gen4,dD,dF,bK,fM⟩,i+1⟩ [] [] rfl (by show l.length -(i+1)<l.length-i;omega) ⟨hlt,hs4.mono (by dsimp only;omega),hlen⟩ (by trivial) (by trivial)
     ·have hz2:=hc2 hx
      subst hz2
      cases c1
      ·skip
       conv=>whnf
       (refine aP dB [] (by kernel_rfl) ?_;conv=>whnf)
       refine aI.i64 (by dsimp only;omega) ?_
       conv=>whnf
       exact aF ⟨⟨d4,gen4,dD,dF,bK,fM⟩,i+1⟩ [] [] rfl (by show l.length -(i+1)<l.length-i;omega) ⟨hlt,hs4.mono (by dsimp only;omega),hlen⟩ (by trivial) (by trivial)
      ·skip
       conv=>whnf
       (refine aP dB [] (by kernel_rfl) ?_;conv=>whnf)
       refine aI.i64 (by dsimp only;omega) ?_
       conv=>whnf
       exact aF ⟨⟨d4,gen4,dD,dF,bK,fM⟩,i+1⟩ [] [] rfl (by show l.length -(i+1)<l.length-i;omega) ⟨hlt,hs4.mono (by dsimp only;omega),hlen⟩ (by trivial) (by trivial)
    ·skip
     conv=>whnf
     refine eu dB [] [(127,134)] 4 [] [(0, .var 43 (jB {s with d:=da})),(1, .var 43 (jB (So.jA d2))),(2, .var 40 (yF qB)),(3, .var 43 (jB s5))] (by kernel_rfl) (by kernel_rfl) ?_ ?_
     ·conv=>whnf
      repeat' (first
       | (refine And.intro ?_ ?_<;>(conv=>whnf))
       | (refine bC.mk' i rfl (fQ hlt) ?_;conv=>whnf)
       | (refine aS.aA (List.getElem?_eq_getElem hlt) ?_;conv=>whnf)
       | (refine ay.mk (by decide) ?_;conv=>whnf)
       | (refine aI.i64 (by omega) ?_;conv=>whnf)
       | (refine aj [] (by kernel_rfl) hK2 ?_ ?_;(focus (trivial;done));rintro _ _ _ ⟨rfl,rfl,rfl⟩;conv=>whnf))
      all_goals (refine jf [] [] ?_ ?_ ?_;(focus rfl);(focus trivial);(focus trivial);done)
     have hO:=fP qB hd6
     obtain⟨q,hq⟩ : ∃q,q=iK qB:=⟨_,rfl⟩
     have hF:=dM hrd hd6 kW kV uG hft (by omega) hq
     rw [←hq]at hO
     clear hq
     obtain⟨⟨d4,gen4,dD,dF,bK,fM⟩,e4⟩:=q
     rcases hF with ⟨hz,hs4,dR,_⟩ | ⟨_,hbad,_⟩
     rotate_left 1
     ·exfalso;omega
     have hz:e4=0:=hz
     have dR:ev'=fM:=dR.symm
     subst hz dR
     dsimp only at hO hs4 hlen
     conv=>whnf
     refine aj [] (by kernel_rfl) hO (by trivial) ?_
     rintro _ _ _ ⟨rfl,rfl,rfl⟩
     conv=>whnf
     (refine aP dB [] (by kernel_rfl) ?_;conv=>whnf)
     refine aj [] (by kernel_rfl) (bP fM s.ev (by omega)) (by trivial) ?_
     rintro _ _ _ ⟨c1,hc1,rfl,rfl,rfl⟩
     conv=>whnf
     refine aj [] (by kernel_rfl) (bP fM (s.ev++ev) (by omega)) (by trivial) ?_
     rintro _ _ _ ⟨c2,hc2,rfl,rfl,rfl⟩
     rcases hcase with hx | hx
     ·have hz1:=hc1 hx
      subst hz1
      conv=>whnf
      (refine aP dB [] (by kernel_rfl) ?_;conv=>whnf)
      refine aI.i64 (by dsimp only;omega) ?_
      conv=>whnf
      exact aF ⟨⟨d4,gen4,dD,dF,bK,fM⟩,i+1⟩ [] [] rfl (by show l.length -(i+1)<l.length-i;omega) ⟨hlt,hs4.mono (by dsimp only;omega),hlen⟩ (by trivial) (by trivial)
     ·have hz2:=hc2 hx
      subst hz2
      cases c1
      ·skip
       conv=>whnf
       (refine aP dB [] (by kernel_rfl) ?_;conv=>whnf)
       refine aI.i64 (by dsimp only;omega) ?_
       conv=>whnf
       exact aF ⟨⟨d4,gen4,dD,dF,bK,fM⟩,i+1⟩ [] [] rfl (by show l.length -(i+1)<l.length-i;omega) ⟨hlt,hs4.mono (by dsimp only;omega),hlen⟩ (by trivial) (by trivial)
      ·skip
       conv=>whnf
       (refine aP dB [] (by kernel_rfl) ?_;conv=>whnf)
       refine aI.i64 (by dsimp only;omega) ?_
       conv=>whnf
       exact aF ⟨⟨d4,gen4,dD,dF,bK,fM⟩,i+1⟩ [] [] rfl (by show l.length -(i+1)<l.length-i;omega) ⟨hlt,hs4.mono (by dsimp only;omega),hlen⟩ (by trivial) (by trivial)
   ·have hd6:=hd5
    have kW:=uF
    have kV:=uD
    have uG:=hg5
    have EX:=EW
    have hO:=fP dc hd6
    obtain⟨q,hq⟩ : ∃q,q=iK dc:=⟨_,rfl⟩
    have hF:=dM hrd hd6 kW kV uG hft (by omega) hq
    rw [←hq]at hO
    clear hq
    obtain⟨⟨d4,gen4,dD,dF,bK,fM⟩,e4⟩:=q
    rcases hF with ⟨hz,hs4,dR,_⟩ | ⟨_,hbad,_⟩
    rotate_left 1
    ·exfalso;omega
    have hz:e4=0:=hz
    have dR:ev'=fM:=dR.symm
    subst hz dR
    dsimp only at hO hs4 hlen
    conv=>whnf
    refine aj [] (by kernel_rfl) hO (by trivial) ?_
    rintro _ _ _ ⟨rfl,rfl,rfl⟩
    conv=>whnf
    (refine aP dB [] (by kernel_rfl) ?_;conv=>whnf)
    refine aj [] (by kernel_rfl) (bP fM s.ev (by omega)) (by trivial) ?_
    rintro _ _ _ ⟨c1,hc1,rfl,rfl,rfl⟩
    conv=>whnf
    refine aj [] (by kernel_rfl) (bP fM (s.ev++ev) (by omega)) (by trivial) ?_
    rintro _ _ _ ⟨c2,hc2,rfl,rfl,rfl⟩
    rcases hcase with hx | hx
    ·have hz1:=hc1 hx
     subst hz1
     conv=>whnf
     (refine aP dB [] (by kernel_rfl) ?_;conv=>whnf)
     refine aI.i64 (by dsimp only;omega) ?_
     conv=>whnf
     exact aF ⟨⟨d4,gen4,dD,dF,bK,fM⟩,i+1⟩ [] [] rfl (by show l.length -(i+1)<l.length-i;omega) ⟨hlt,hs4.mono (by dsimp only;omega),hlen⟩ (by trivial) (by trivial)
    ·have hz2:=hc2 hx
     subst hz2
     cases c1
     ·skip
      conv=>whnf
      (refine aP dB [] (by kernel_rfl) ?_;conv=>whnf)
      refine aI.i64 (by dsimp only;omega) ?_
      conv=>whnf
      exact aF ⟨⟨d4,gen4,dD,dF,bK,fM⟩,i+1⟩ [] [] rfl (by show l.length -(i+1)<l.length-i;omega) ⟨hlt,hs4.mono (by dsimp only;omega),hlen⟩ (by trivial) (by trivial)
     ·skip
      conv=>whnf
      (refine aP dB [] (by kernel_rfl) ?_;conv=>whnf)
      refine aI.i64 (by dsimp only;omega) ?_
      conv=>whnf
      exact aF ⟨⟨d4,gen4,dD,dF,bK,fM⟩,i+1⟩ [] [] rfl (by show l.length -(i+1)<l.length-i;omega) ⟨hlt,hs4.mono (by dsimp only;omega),hlen⟩ (by trivial) (by trivial)
end
end Go.Proofs.YtocckceefcmeaaaGreatDoor.Cl
namespace Go.Proofs.YtocckceefcmeaaaGreatDoor.Vc
open Go Go.RowKit Go.Proofs.YtocckceefcmeaaaGreatDoor.Ax
section
variable {H:Type}{enc:TypeId×Value→H}{w:World}
theorem Nb {P:Program} : ∀ {ts:List TypeId} {ds:List (DataW H)} {B:Nat},(∀x∈DataW.weightsEach P ts ds,x≤B)→∀(j:Nat) t d,ts[j]? = some t→ds[j]? = some d→∀x∈d.weights P t,x≤B:=by
 intro ts
 induction ts with
 | nil=>intro ds B _ j t d h;simp at h
 | cons t ts ih=>
  intro ds B h j u d h1 h2
  cases ds with
  | nil=>simp at h2
  | cons e ds=>
   simp only [DataW.weightsEach,List.mem_append]at h
   cases j with
   | zero=>
    simp only [List.getElem?_cons_zero,Option.some.injEq]at h1 h2
    subst h1;subst h2
    exact fun x hx=>h x (.inl hx)
   | succ j=>exact ih (fun x hx=>h x (.inr hx)) j u d (by simpa using h1) (by simpa using h2)
theorem Yp {P:Program}{t e:TypeId}{d:DataW H}{ds:List (DataW H)}{len:Nat}(hu:P.underlying t=some (.slice e))(hdl:ds.length=len)(hd:(d = .nil∧len=0)∨∃rest,d = .slice ds rest)(hB : ∀x∈d.weights P t,x≤reachBytes) :
  ∀x∈DataW.weightsAll P e ds,x≤reachBytes:=by
 rcases hd with ⟨_,h0⟩ | ⟨rest,rfl⟩
 ·have:ds = []:=List.eq_nil_of_length_eq_zero (by omega)
  subst this
  intro x hx;simp [DataW.weightsAll]at hx
 ·intro x hx
  refine hB x ?_
  simp only [DataW.weights,hu,List.mem_cons,List.mem_append]
  exact .inr (.inl hx)
end
inductive Sh where
 | n (k:IntKind)
 | b
 | s
 | l (iQ:Nat) (es:List Sh)
inductive OQ:Sh→FV→Prop
 | n {k:IntKind} {x:Int} (h:(Lit.int k x).wf=true):OQ (.n k) (.v (.int k x))
 | b (x:Bool):OQ .b (.v (.bool x))
 | s (x:ByteArray) (h:x.size≤140737488351232):OQ .s (.v (.string x))
 | l {iQ:Nat} {es:List Sh} {rows:List (List FV)} (hn:rows.length≤maxLen) (hb:rows.length*iQ≤140737488351232) (h : ∀row∈rows,row.length=es.length) (hr : ∀row∈rows, ∀(j:Nat) e a,es[j]? = some e→row[j]? = some a→OQ e a):OQ (.l iQ es) (.lst es.length rows)
def BP (es:List Sh)(row:List FV):Prop:=row.length=es.length∧∀(j:Nat) e a,es[j]? = some e→row[j]? = some a→OQ e a
theorem BP.nil:BP [] []:=⟨rfl,fun j e a h=>by simp at h⟩
theorem BP.app {e1 e2:List Sh}{r1 r2:List FV}(h1:BP e1 r1)(h2:BP e2 r2):BP (e1++e2) (r1++r2):=by
 refine⟨by simp [h1.1,h2.1],fun j e a he ha=> ?_⟩
 rw [List.getElem?_append]at he ha
 rw [h1.1]at ha
 split at he
 ·rename_i h;rw [if_pos h]at ha;exact h1.2 j e a he ha
 ·rename_i h;rw [if_neg h]at ha;exact h2.2 _ e a he ha
theorem BP.one {e:Sh}{a:FV}(h:OQ e a):BP [e] [a]:=⟨rfl,fun j e' a' he ha=>by
 match j,he,ha with
 | 0,he,ha=>simp at he ha;subst he;subst ha;exact h⟩
theorem BP.EY {row:List FV}(h:BP [] row):row = []:=List.eq_nil_of_length_eq_zero h.1
theorem BP.cons_inv {e:Sh}{es:List Sh}{row:List FV}(h:BP (e::es) row) : ∃a r,row=a::r∧OQ e a∧BP es r:=by
 cases row with
 | nil=>have:=h.1;simp at this
 | cons a r=>exact⟨a,r,rfl,h.2 0 e a rfl rfl,by have:=h.1;simpa using this,fun j e' a' he ha=>h.2 (j+1) e' a' (by simpa using he) (by simpa using ha)⟩
theorem OQ.Y0 {iQ:Nat}{es:List Sh}{a:FV}(h:OQ (.l iQ es) a) : ∃rows:List (List FV),a = .lst es.length rows∧(rows.length≤maxLen∧rows.length*iQ≤140737488351232)∧∀row∈rows,BP es row:=by
 cases h with
 | l hn hb h hr=>exact⟨_,rfl,⟨hn,hb⟩,fun row hrow=>⟨h row hrow,hr row hrow⟩⟩
def OT (f:TypeId→Option (List Sh))(P:Program):List Field→Nat→Option (List Sh)
 | [],_=>some []
 | x::r,o=>bif Nat.beq x.offset o then
   match f x.type with
   | some es=>bif Nat.beq es.length (P.cellsOf x.type)then
     match OT f P r (o+es.length)with
     | some rs=>some (es++rs)
     | none=>none
    else none
   | none=>none
  else none
def shT (P:Program):Nat→TypeId→Option (List Sh)
 | 0,_=>none
 | n+1,t=>match P.underlying t with
  | some (.int k)=>some [.n k]
  | some .bool=>some [.b]
  | some .string=>some [.s]
  | some (.slice e)=>match shT P n e with
   | some es=>bif Nat.beq es.length (P.cellsOf e)&&Nat.ble 1 es.length then some [.l (P.bytesOf e) es]else none
   | none=>none
  | some (.struct fs)=>match OT (shT P n) P fs.toList 0 with
   | some es=>bif Nat.beq es.length (P.cellsOf t)then some es else none
   | none=>none
  | _=>none
section
variable {H:Type}{enc:TypeId×Value→H}{P:Program}{w:World}
def One (w:World)(es:List Sh)(cs:List Value):Prop:= ∃row,BP es row∧oL (Here w) w row cs∧∀v∈cs,v.oneCell'=true
theorem One.nil:One w [] []:=⟨[],BP.nil,⟨rfl,fun j a v h=>by simp at h⟩,fun v h=>by cases h⟩
theorem One.app {e1 e2:List Sh}{c1 c2:List Value}(h1:One w e1 c1)(h2:One w e2 c2):One w (e1++e2) (c1++c2):=by
 obtain⟨r1,k1,f1,o1⟩:=h1
 obtain⟨r2,k2,f2,o2⟩:=h2
 refine⟨r1++r2,k1.app k2,⟨by simp [f1.1,f2.1],fun j a v ha hv=> ?_⟩,fun v hv=>(List.mem_append.1 hv).elim (o1 v) (o2 v)⟩
 rw [List.getElem?_append]at ha hv
 rw [f1.1]at hv
 split at ha
 ·rename_i h;rw [if_pos h]at hv;exact f1.2 j a v ha hv
 ·rename_i h;rw [if_neg h]at hv;exact f2.2 _ a v ha hv
theorem One.one {e:Sh}{a:FV}{v:Value}(h:OQ e a)(hf:dV (Here w) w a v)(ho:v.oneCell'=true):One w [e] [v]:=
 ⟨[a], .one h,⟨rfl,fun j a' v' ha hv=>by
  match j,ha,hv with
  | 0,ha,hv=>simp at ha hv;subst ha;subst hv;exact hf⟩,fun u hu=>by rw [List.mem_singleton.1 hu];exact ho⟩
theorem Yq {sz:Nat} : ∀(css:List (List Value)) (i j:Nat) (c:List Value) (v:Value),(∀c∈css,c.length=sz)→css[i]? = some c→c[j]? = some v→css.flatten[i*sz+j]? = some v:=by
 intro css
 induction css with
 | nil=>intro i j c v _ h;simp at h
 | cons a r ih=>
  intro i j c v hl hi hj
  have ha:a.length=sz:=hl a (by simp)
  rw [List.flatten_cons,List.getElem?_append]
  cases i with
  | zero=>
   simp only [List.getElem?_cons_zero,Option.some.injEq]at hi
   subst hi
   have:=(List.getElem?_eq_some_iff.1 hj).1
   rw [if_pos (by omega)]
   simpa using hj
  | succ i=>
   rw [if_neg (by rw [ha,Nat.add_mul];omega),ha]
   have:=ih i j c v (fun c hc=>hl c (by simp [hc])) (by simpa using hi) hj
   rw [show (i+1)*sz+j-sz=i*sz+j by rw [Nat.add_mul];omega]
   exact this
theorem KD {f:TypeId→Option (List Sh)}{cs:List Value} : ∀(fs:List Field) (o:Nat) (es:List Sh),OT f P fs o=some es→
  (∀x∈fs, ∀e',f x.type=some e'→e'.length=P.cellsOf x.type→One w e' ((cs.drop x.offset).take (P.cellsOf x.type)))→One w es ((cs.drop o).take es.length):=by
 intro fs
 induction fs with
 | nil=>intro o es h _;injection h with h;subst h;simpa using One.nil
 | cons x r ih=>
  intro o es h hx
  unfold OT at h
  cases ho:Nat.beq x.offset o with
  | false=>rw [ho]at h;cases h
  | true=>
   rw [ho]at h
   simp only [cond_true]at h
   have ho:=Nat.eq_of_beq_eq_true ho
   cases hf:f x.type with
   | none=>rw [hf]at h;cases h
   | some e1=>
    rw [hf]at h
    simp only at h
    cases hl:Nat.beq e1.length (P.cellsOf x.type)with
    | false=>rw [hl]at h;cases h
    | true=>
     rw [hl]at h
     simp only [cond_true]at h
     have hl:=Nat.eq_of_beq_eq_true hl
     cases hr:OT f P r (o+e1.length)with
     | none=>rw [hr]at h;cases h
     | some e2=>
      rw [hr]at h
      simp only [Option.some.injEq]at h
      subst h
      have h1:=hx x (by simp) e1 hf hl
      have h2:=ih (o+e1.length) e2 hr fun y hy=>hx y (by simp [hy])
      rw [ho, ←hl]at h1
      have:=h1.app h2
      rw [List.length_append,List.take_add,List.drop_drop]
      exact this
theorem Ui {es:List Sh}{e:TypeId}(one : ∀cs (d:DataW H),Wj enc P w e cs d→(∀x∈d.weights P e,x≤reachBytes)→One w es cs) :
  ∀(css:List (List Value)) (ds:List (DataW H)),ds.length=css.length→(∀(i:Nat) c d',css[i]? = some c→ds[i]? = some d'→Wj enc P w e c d')→(∀x∈DataW.weightsAll P e ds,x≤reachBytes)→
   ∃rows:List (List FV),rows.length=css.length∧(∀row∈rows,BP es row)∧∀(i:Nat) c row,css[i]? = some c→rows[i]? = some row→oL (Here w) w row c∧∀v∈c,v.oneCell'=true:=by
 intro css
 induction css with
 | nil=>intro ds _ _ _;exact⟨[],rfl,(fun k h=>by cases h),fun i c row h=>by simp at h⟩
 | cons a css ih=>
  intro ds hl h hB
  cases ds with
  | nil=>simp at hl
  | cons d ds=>
   simp only [DataW.weightsAll,List.mem_append]at hB
   obtain⟨row,k1,k2,k3⟩:=one a d (h 0 a d rfl rfl) fun x hx=>hB x (.inl hx)
   obtain⟨rows,h1,h2,h3⟩:=ih ds (by simpa using hl) (fun i c d' hc hd=>h (i+1) c d' (by simpa using hc) (by simpa using hd)) fun x hx=>hB x (.inr hx)
   refine⟨row::rows,by simp [h1],fun y hy=> ?_,fun i c r hc hr=> ?_⟩
   ·rcases List.mem_cons.1 hy with rfl | hy
    ·exact k1
    ·exact h2 y hy
   ·cases i with
    | zero=>simp at hc hr;subst hc;subst hr;exact⟨k2,k3⟩
    | succ i=>exact h3 i c r (by simpa using hc) (by simpa using hr)
theorem rdg : ∀(n:Nat) (t:TypeId) (es:List Sh),shT P n t=some es→∀(cs:List Value) (d:DataW H),Wj enc P w t cs d→(∀x∈d.weights P t,x≤reachBytes)→One w es cs:=by
 intro n
 induction n with
 | zero=>intro t es h;cases h
 | succ n ih=>
  intro t es h cs d hd hB
  unfold shT at h
  cases hu:P.underlying t with
  | none=>rw [hu]at h;cases h
  | some u=>
   rw [hu]at h
   cases u with
   | int k=>
    simp only [Option.some.injEq]at h
    subst h
    obtain⟨x,e,_,hw⟩:=Wn hu hd
    subst e
    exact .one (.n hw) (.v _) rfl
   | bool=>
    simp only [Option.some.injEq]at h
    subst h
    obtain⟨held,fuel,p,hx⟩:=hd
    obtain⟨b,e,_⟩:=DataW.trod_bool hu hx
    subst e
    exact .one (.b b) (.v _) rfl
   | string=>
    simp only [Option.some.injEq]at h
    subst h
    obtain⟨held,fuel,p,hx⟩:=hd
    obtain⟨s,e,hd,_⟩:=DataW.trod_string hu hx
    injection hd with hd
    subst hd
    subst e
    have h1:=hB s.data.toList.length (by simp [DataW.weights])
    have h2:s.data.toList.length=s.size:=by simp
    have h3:reachBytes=140737488351232:=rfl
    exact .one (.s s (by omega)) (.v _) rfl
   | slice e=>
    simp only at h
    cases hs:shT P n e with
    | none=>rw [hs]at h;cases h
    | some ee=>
     rw [hs]at h
     simp only at h
     cases hc:Nat.beq ee.length (P.cellsOf e)&&Nat.ble 1 ee.length with
     | false=>rw [hc]at h;cases h
     | true=>
      rw [hc]at h
      simp only [cond_true,Option.some.injEq]at h
      subst h
      simp only [Bool.and_eq_true]at hc
      have hsz:=Nat.eq_of_beq_eq_true hc.1
      have hpos:=Nat.le_of_ble_eq_true hc.2
      obtain⟨oa,len,cap,css,ds,h1,hlc,hcm,hn,hcl,hr,hall,hdl,hdd,hel⟩:=NY hu hd
      obtain⟨rows,k1,k2,k3⟩:=Ui (fun cs d=>ih e ee hs cs d) css ds (by omega) hel (Yp hu hdl hdd hB)
      subst h1
      have hsz' : ∀c∈css,c.length=ee.length:=fun c hc=>by rw [(hall c hc).1,hsz]
      have cell : ∀i j,i<len→j<ee.length→∃b o row a v,oa=some ⟨b,o,none⟩∧b<w.heap.size∧rows[i]? = some row∧row[j]? = some a∧w.cell? ⟨b,o+(i*ee.length+j),none⟩=some v∧dV (Here w) w a v∧v.oneCell'=true:=by
       intro i j hi hj
       have hic:i<css.length:=by omega
       have hir:i<rows.length:=by omega
       have hci:=List.getElem?_eq_getElem hic
       have hri:=List.getElem?_eq_getElem hir
       have hjc:j<css[i].length:=by rw [hsz' _ (List.getElem_mem hic)];exact hj
       have hjr:j<rows[i].length:=by rw [(k2 _ (List.getElem_mem hir)).1];exact hj
       have hfl:=Yq css i j css[i] css[i][j] hsz' hci (List.getElem?_eq_getElem hjc)
       rcases hr with h0 | ⟨b,o,rfl,hb,hcc⟩
       ·rw [h0]at hfl;simp at hfl
       ·obtain⟨f1,f2⟩:=k3 i css[i] rows[i] hci hri
        exact⟨b,o,rows[i],rows[i][j],css[i][j],rfl,hb,hri,List.getElem?_eq_getElem hjr,hcc _ _ hfl,f1.2 j _ _ (List.getElem?_eq_getElem hjr) (List.getElem?_eq_getElem hjc),f2 _ (List.getElem_mem hjc)⟩
      have hb : ∃b o,(0<len→oa=some ⟨b,o,none⟩∧Here w b):=by
       rcases Nat.eq_zero_or_pos len with h0 | h0
       ·exact⟨0,0,fun h=>by omega⟩
       ·obtain⟨b,o,_,_,_,e,hb,_⟩:=cell 0 0 h0 hpos
        exact⟨b,o,fun _=>⟨e,hb⟩⟩
      obtain⟨b,o,hbo⟩:=hb
      have hbb:rows.length*P.bytesOf e≤140737488351232:=by
       rcases hdd with ⟨_,h0⟩ | ⟨rest,hdd⟩
       ·rw [show rows.length=0 by omega,Nat.zero_mul];exact Nat.zero_le _
       ·subst hdd
        have:=hB ((ds.length+rest.length)*P.bytesOf e) (by simp only [DataW.weights,hu,List.mem_cons,true_or])
        rw [show rows.length=ds.length by omega]
        exact Nat.le_trans (Nat.mul_le_mul_right _ (Nat.le_add_right _ _)) this
      refine .one (a:= .lst ee.length rows) (.l (by omega) hbb (fun row hrow=>(k2 row hrow).1) fun row hrow=>(k2 row hrow).2) ?_ rfl
      refine .lst ee.length rows oa len cap b o (by omega) hlc hn hbo (fun row hrow=>(k2 row hrow).1) (fun i j hi hj=> ?_) fun i j row a v hi hj hv=> ?_
      ·obtain⟨b',o',_,_,v,e,_,_,_,h4,_,h6⟩:=cell i j hi hj
       obtain⟨rfl,rfl⟩:b'=b∧o'=o:=by
        have:=(hbo (by omega)).1
        rw [e]at this;injection this with this;injection this with h1 h2;exact⟨h1,h2⟩
       exact⟨v,h4,h6⟩
      ·have hil:=(List.getElem?_eq_some_iff.1 hi).1
       have hjl:j<ee.length:=by rw [←(k2 row (List.mem_of_getElem? hi)).1];exact(List.getElem?_eq_some_iff.1 hj).1
       obtain⟨b',o',row',a',v',e,_,h2,h3,h4,h5,_⟩:=cell i j (by omega) hjl
       obtain⟨rfl,rfl⟩:b'=b∧o'=o:=by
        have:=(hbo (by omega)).1
        rw [e]at this;injection this with this;injection this with h1 h2;exact⟨h1,h2⟩
       rw [hi]at h2;injection h2 with h2;subst h2
       rw [hj]at h3;injection h3 with h3;subst h3
       rw [hv]at h4;injection h4 with h4;subst h4
       exact h5
   | struct fs=>
    simp only at h
    cases hs:OT (shT P n) P fs.toList 0 with
    | none=>rw [hs]at h;cases h
    | some ee=>
     rw [hs]at h
     simp only at h
     cases hc:Nat.beq ee.length (P.cellsOf t)with
     | false=>rw [hc]at h;cases h
     | true=>
      rw [hc]at h
      simp only [cond_true,Option.some.injEq]at h
      subst h
      have hsz:=Nat.eq_of_beq_eq_true hc
      obtain⟨held,fuel,p,hx⟩:=hd
      obtain⟨xs,m,rfl,hdd,hcl,hxl,hel⟩:=DataW.trod_struct hu hx
      injection hdd with hdd
      subst hdd
      have:=KD (w:=w) (cs:=cs) fs.toList 0 ee hs fun x hx e' he' hle=>by
       obtain⟨i,hi⟩:=List.mem_iff_getElem?.1 hx
       have hi':fs[i]? = some x:=by simpa using hi
       have hil:i<xs.length:=by rw [hxl];exact(Array.getElem?_eq_some_iff.1 hi').1
       have h1:=hel i x hi'
       rw [List.getElem?_eq_getElem hil]at h1
       refine ih x.type e' he' _ xs[i].1 ⟨held,m,xs[i].2,h1⟩ ?_
       have hE : ∀y∈DataW.weightsEach P (fs.toList.map (·.type)) (xs.map (·.1)),y≤reachBytes:=by
        intro y hy
        refine hB y ?_
        simp only [DataW.weights,hu]
        exact hy
       exact Nb hE i x.type xs[i].1 (by rw [List.getElem?_map,hi];rfl) (by rw [List.getElem?_map,List.getElem?_eq_getElem hil];rfl)
      rw [List.drop_zero,List.take_of_length_le (by omega)]at this
      exact this
   | _=>cases h
end
section
open Go.ChangeShapes Go.WideShapes Go.ChangeAt
section
variable {H:Type}{enc:TypeId×Value→H}{P:Program}{w:World}
theorem OU {t e:TypeId}{es:List Sh}{iQ:Nat}{v:Value}{r:Reach}{b0:Nat}{d:DataW H}{p:List MemPlace}(n:Nat)(ht:P.underlying t=some (.slice e))(hs:shT P n t=some [.l iQ es])(hval:Value.okWide P w r b0 t v)
  (h:DataW.Trod enc P w 0 (fun _=>true) true t v d p) (hB : ∀x∈d.weights P t,x≤reachBytes) : ∃rows:List (List FV),(rows.length≤maxLen∧rows.length*iQ≤140737488351232)∧(∀row∈rows,BP es row)∧aZ 0 JB (Here w) w (.lst es.length rows) v:=by
 obtain⟨row,h1,h2,h3⟩:=rdg n t _ hs v.cells.toList d ⟨_,_,_,h.choose_spec⟩ hB
 obtain⟨a,r,rfl,ha,hr⟩:=h1.cons_inv
 obtain rfl:=hr.EY
 obtain⟨rows,rfl,hb,hrows⟩:=ha.Y0
 obtain⟨oa,len,cap,rfl⟩:=okWide_slice ht hval
 refine⟨rows,hb,hrows, ?_⟩
 have:=h2.2 0 _ (.slice oa len cap) rfl (by simp [Value.cells])
 exact this.up
end
end
end Go.Proofs.YtocckceefcmeaaaGreatDoor.Vc
namespace Go.Proofs.YtocckceefcmeaaaGreatDoor.Cl
open Go Go.RowKit Go.Proofs Go.Proofs.YtocckceefcmeaaaGreatDoor.Vc Go.Proofs.YtocckceefcmeaaaGreatDoor.Ax
def adE:List Sh:= [.n .u8, .n .u8, .l 1 [.n .u8], .l 1 [.n .u8]]
theorem Dl {α:Type}{es:List Sh}{enc:α→List FV}{ok:α→Prop}(one : ∀row,BP es row→∃a,row=enc a∧ok a) : ∀rows:List (List FV),(∀row∈rows,BP es row)→∃l:List α,rows=l.map enc∧∀a∈l,ok a:=by
 intro rows
 induction rows with
 | nil=>intro _;exact⟨[],rfl,fun a h=>by cases h⟩
 | cons r rs ih=>
  intro h
  obtain⟨a,e,ha⟩:=one r (h r (by simp))
  obtain⟨l,e2,hl⟩:=ih fun row hrow=>h row (by simp [hrow])
  refine⟨a::l,by rw [e,e2];rfl,fun b hb=> ?_⟩
  rcases List.mem_cons.1 hb with rfl | hb
  ·exact ha
  ·exact hl b hb
theorem EZ {a:FV}(h:OQ (.n .u8) a) : ∃k:Nat,a = .v (.int .u8 k)∧k<256:=by
 cases h with
 | n hw=>obtain⟨k,rfl,hk⟩:=YF hw;exact⟨k,rfl,hk⟩
theorem Nc {a:FV}{b:Nat}(h:OQ (.l b [.n .u8]) a) : ∃l:By,a = .lst 1 (l.map dW):=by
 obtain⟨rows,rfl,_,hr⟩:=h.Y0
 obtain⟨l,rfl,_⟩:=Dl (α:=UInt8) (enc:=dW) (ok:=fun _=>True) (fun row h=>by
  obtain⟨a,r,rfl,ha,h⟩:=h.cons_inv
  obtain rfl:=h.EY
  obtain⟨k,rfl,hk⟩:=EZ ha
  exact⟨UInt8.ofNat k,by unfold dW;rw [toNat_ofNat hk],trivial⟩) rows hr
 exact⟨l,rfl⟩
theorem abH (row:List FV)(h:BP adE row) : ∃a:Ac,row=Ub a∧a.ok:=by
 obtain⟨a0,r,rfl,h0,h⟩:=h.cons_inv
 obtain⟨a1,r,rfl,h1,h⟩:=h.cons_inv
 obtain⟨a2,r,rfl,h2,h⟩:=h.cons_inv
 obtain⟨a3,r,rfl,h3,h⟩:=h.cons_inv
 obtain rfl:=h.EY
 obtain⟨k0,rfl,b0⟩:=EZ h0
 obtain⟨k1,rfl,b1⟩:=EZ h1
 obtain⟨l2,rfl⟩:=Nc h2
 obtain⟨l3,rfl⟩:=Nc h3
 exact⟨⟨k0,k1,l2,l3⟩,rfl,b0,b1⟩
end Go.Proofs.YtocckceefcmeaaaGreatDoor.Cl
