/- Joined parts of the proof. World: concrete runs of the sanity check of the world's laws: the collector -/
import Derived.Test.YtnandbihiceihaaGreatDoorPk16
import Derived.Test.YtnandbihiceihaaGreatDoorPk12
import Derived.Test.YtnandbihiceihaaGreatDoorPk15
import Derived.Test.YtnandbihiceihaaGreatDoorPk3
import Derived.Test.YtnandbihiceihaaGreatDoorPk13
set_option linter.unusedVariables false
set_option linter.unusedSimpArgs false
set_option maxRecDepth 100000
set_option maxHeartbeats 16000000
namespace Go.Proofs.YtnandbihiceihaaGreatDoor.Cl
open RowKit Vc Ax Ky Go.Proofs.Tryz
attribute [local irreducible] loadVar storeVar Instr.indexAt Instr.index Instr.sliceAt Instr.makeSlice Instr.lookup Instr.mapUpdate Instr.range Instr.next Instr.entry Instr.makeMap Builtin.append_ Builtin.copy_ Builtin.len_ Builtin.min_ Builtin.max_ Builtin.cap_ Builtin.delete_ Builtin.clear_ convert binOp eqGuard Op.unary Calls
section
attribute [local irreducible] BA uN FW mcI be
def coC (now high:Int)(seen held:AV)(acc:Int):List AV:= [iv 10,iv now,iv high,seen,held,iv acc,iv 0,iv 0,iv 0,iv 0,iv 0,iv 0]
abbrev coA (now high:Int)(seen held:AV)(acc:Int):AV:= .agg (coC now high seen held acc)
abbrev mxT:Int:=1099511627776
def sn1:AV:= .lst 3 [[sF c0,iF 1, .lst 1 [zx 1]]]
theorem alv:mP Tryz.prog GS 133 [coA 0 (-1) nl nl 0] 0 [] (Is (bv true)):=by
 refine lJ func133 rfl mixed aag ?_
 conv=>whnf
 repeat' (first|exact lQ (List.range 40) aam|(refine mV aag (kc0) ?_ ?_;(focus (trivial;done));rintro _ _ _ ⟨rfl,rfl,rfl⟩;(conv=>whnf))|(refine mV aag (wZ) ?_ ?_;(focus (trivial;done));rintro _ _ _ ⟨rfl,rfl,rfl⟩;(conv=>whnf))|(rw [rD];conv=>whnf)|(rw [mW];conv=>whnf)|(refine ALs.hit _ rfl ?_;conv=>whnf)|(refine lN.fr ?_;conv=>whnf)|(refine lW.mk aaw ?_;conv=>whnf)|(refine rM 9 ?_;conv=>whnf)|(refine nJ aag (lJ acr rfl mixed aag ?_);conv=>whnf)|(refine pO acr ?_;conv=>whnf)|(refine mJ.mk ⟨_,rfl,by decide, ?_⟩;conv=>whnf)|(refine uo.mk ⟨_,_,rfl,rfl,by decide,by decide, ?_⟩;conv=>whnf)|(refine mQ.mk ⟨_,rfl, ?_⟩;conv=>whnf)|(refine uT.mk ⟨_,_,rfl,rfl,by decide,by decide,by decide, ?_⟩;conv=>whnf)|(refine oH.mk fun b hb=> ?_;obtain rfl:=hb aaw;conv=>whnf)|(refine oH.mk fun b hb=> ?_;cases b<;>(conv=>whnf))|(refine yc.mk aag rfl rfl ?_;conv=>whnf)|(refine lX X0 [] aaQ ?_;conv=>whnf))
theorem alx:mP Tryz.prog GS 133 [coA mxT 0 sn1 (el [e0]) 1] 0 [] (Is (bv true)):=by
 refine lJ func133 rfl mixed aag ?_
 conv=>whnf
 repeat' (first|exact lQ (List.range 40) aam|(refine mV aag (kc0) ?_ ?_;(focus (trivial;done));rintro _ _ _ ⟨rfl,rfl,rfl⟩;(conv=>whnf))|(refine mV aag (wZ) ?_ ?_;(focus (trivial;done));rintro _ _ _ ⟨rfl,rfl,rfl⟩;(conv=>whnf))|(rw [rD];conv=>whnf)|(rw [mW];conv=>whnf)|(refine ALs.hit _ rfl ?_;conv=>whnf)|(refine lN.fr ?_;conv=>whnf)|(refine lW.mk aaw ?_;conv=>whnf)|(refine rM 9 ?_;conv=>whnf)|(refine nJ aag (lJ acr rfl mixed aag ?_);conv=>whnf)|(refine pO acr ?_;conv=>whnf)|(refine mJ.mk ⟨_,rfl,by decide, ?_⟩;conv=>whnf)|(refine uo.mk ⟨_,_,rfl,rfl,by decide,by decide, ?_⟩;conv=>whnf)|(refine mQ.mk ⟨_,rfl, ?_⟩;conv=>whnf)|(refine uT.mk ⟨_,_,rfl,rfl,by decide,by decide,by decide, ?_⟩;conv=>whnf)|(refine oH.mk fun b hb=> ?_;obtain rfl:=hb aaw;conv=>whnf)|(refine oH.mk fun b hb=> ?_;cases b<;>(conv=>whnf))|(refine yc.mk aag rfl rfl ?_;conv=>whnf)|(refine lX X0 [] aaQ ?_;conv=>whnf))
theorem ajy:mP Tryz.prog GS 127 [coA 0 (-1) nl nl 0,uv 1,bs (WG++be 8 FW),iv mxT] 0 [] (Is (.og [coA mxT 0 sn1 (el [e0]) 1,li [1],iv 0])):=by
 have hU:=adx
 generalize be 8 FW=X at *
 refine lJ func127 rfl mixed aag ?_
 conv=>whnf
 repeat' (first|exact lQ (List.range 200) aam|(refine mV aag (alv) ?_ ?_;(focus (trivial;done));rintro _ _ _ ⟨rfl,rfl,rfl⟩;(conv=>whnf))|(refine mV aag (hU) ?_ ?_;(focus (trivial;done));rintro _ _ _ ⟨rfl,rfl,rfl⟩;(conv=>whnf))|(rw [rD];conv=>whnf)|(rw [mW];conv=>whnf)|(refine lN.fr ?_;conv=>whnf)|(refine lW.mk aaw ?_;conv=>whnf)|(refine rM 9 ?_;conv=>whnf)|(refine nJ aag (lJ acr rfl mixed aag ?_);conv=>whnf)|(refine pO acr ?_;conv=>whnf)|(refine mJ.mk ⟨_,rfl,by decide, ?_⟩;conv=>whnf)|(refine uo.mk ⟨_,_,rfl,rfl,by decide,by decide, ?_⟩;conv=>whnf)|(refine mQ.mk ⟨_,rfl, ?_⟩;conv=>whnf)|(refine uT.mk ⟨_,_,rfl,rfl,by decide,by decide,by decide, ?_⟩;conv=>whnf)|(refine oH.mk fun b hb=> ?_;obtain rfl:=hb aaw;conv=>whnf)|(refine oH.mk fun b hb=> ?_;cases b<;>(conv=>whnf))|(refine yc.mk aag rfl rfl ?_;conv=>whnf)|(refine lX afN [] aaQ ?_;conv=>whnf)|(refine lX XZ [] aaQ ?_;conv=>whnf)|(refine lX af2 [] aaQ ?_;conv=>whnf)|(refine Ij afX [(6,[14])] aaQ ?_;conv=>whnf))
end
section
attribute [local irreducible] BA uN FW mcI be
theorem ag2:mP Tryz.prog GS 52 [obA (V6 c0 4 2 0 hd1),iv 32] 0 [] (Is (.og [by0,bv true])):=by
 refine lJ func52 rfl mixed aag ?_
 conv=>whnf
 repeat' (first|exact lQ (List.range 40) aam|(refine mV aag (aju) ?_ ?_;(focus (trivial;done));rintro _ _ _ ⟨rfl,rfl,rfl⟩;(conv=>whnf))|(rw [rD];conv=>whnf)|(rw [mW];conv=>whnf)|(refine lN.fr ?_;conv=>whnf)|(refine lW.mk aaw ?_;conv=>whnf)|(refine rM 9 ?_;conv=>whnf)|(refine nJ aag (lJ acr rfl mixed aag ?_);conv=>whnf)|(refine pO acr ?_;conv=>whnf)|(refine mJ.mk ⟨_,rfl,by decide, ?_⟩;conv=>whnf)|(refine uo.mk ⟨_,_,rfl,rfl,by decide,by decide, ?_⟩;conv=>whnf)|(refine mQ.mk ⟨_,rfl, ?_⟩;conv=>whnf)|(refine uT.mk ⟨_,_,rfl,rfl,by decide,by decide,by decide, ?_⟩;conv=>whnf)|(refine oH.mk fun b hb=> ?_;obtain rfl:=hb aaw;conv=>whnf)|(refine oH.mk fun b hb=> ?_;cases b<;>(conv=>whnf))|(refine yc.mk aag rfl rfl ?_;conv=>whnf)|(refine lX aeh [] aaQ ?_;conv=>whnf))
theorem ag3:mP Tryz.prog GS 52 [obA (V6 c0 4 2 0 hd0),iv 32] 0 [] (Is (.og [.agg [tv [],iv 0,nl],bv false])):=by
 refine lJ func52 rfl mixed aag ?_
 conv=>whnf
 repeat' (first|exact lQ (List.range 40) aam|(refine mV aag (alp) ?_ ?_;(focus (trivial;done));rintro _ _ _ ⟨rfl,rfl,rfl⟩;(conv=>whnf))|(rw [rD];conv=>whnf)|(rw [mW];conv=>whnf)|(refine lN.fr ?_;conv=>whnf)|(refine lW.mk aaw ?_;conv=>whnf)|(refine rM 9 ?_;conv=>whnf)|(refine nJ aag (lJ acr rfl mixed aag ?_);conv=>whnf)|(refine pO acr ?_;conv=>whnf)|(refine mJ.mk ⟨_,rfl,by decide, ?_⟩;conv=>whnf)|(refine uo.mk ⟨_,_,rfl,rfl,by decide,by decide, ?_⟩;conv=>whnf)|(refine mQ.mk ⟨_,rfl, ?_⟩;conv=>whnf)|(refine uT.mk ⟨_,_,rfl,rfl,by decide,by decide,by decide, ?_⟩;conv=>whnf)|(refine oH.mk fun b hb=> ?_;obtain rfl:=hb aaw;conv=>whnf)|(refine oH.mk fun b hb=> ?_;cases b<;>(conv=>whnf))|(refine yc.mk aag rfl rfl ?_;conv=>whnf)|(refine lX aeh [] aaQ ?_;conv=>whnf))
theorem aly:mP Tryz.prog GS 55 [obA (V6 c0 4 2 0 hd1),li [1]] 0 [] (Is (.og [obA (V6 c0 4 2 0 hd0),iv 1])):=by
 refine lJ func55 rfl mixed aag ?_
 conv=>whnf
 repeat' (first|exact lQ (List.range 40) aam|(refine mV aag (aju) ?_ ?_;(focus (trivial;done));rintro _ _ _ ⟨rfl,rfl,rfl⟩;(conv=>whnf))|(rw [rD];conv=>whnf)|(rw [mW];conv=>whnf)|(refine lN.fr ?_;conv=>whnf)|(refine lW.mk aaw ?_;conv=>whnf)|(refine rM 9 ?_;conv=>whnf)|(refine nJ aag (lJ acr rfl mixed aag ?_);conv=>whnf)|(refine pO acr ?_;conv=>whnf)|(refine mJ.mk ⟨_,rfl,by decide, ?_⟩;conv=>whnf)|(refine uo.mk ⟨_,_,rfl,rfl,by decide,by decide, ?_⟩;conv=>whnf)|(refine mQ.mk ⟨_,rfl, ?_⟩;conv=>whnf)|(refine uT.mk ⟨_,_,rfl,rfl,by decide,by decide,by decide, ?_⟩;conv=>whnf)|(refine oH.mk fun b hb=> ?_;obtain rfl:=hb aaw;conv=>whnf)|(refine oH.mk fun b hb=> ?_;cases b<;>(conv=>whnf))|(refine yc.mk aag rfl rfl ?_;conv=>whnf)|(refine Ij aiB [(5,[2])] aaQ ?_;conv=>whnf))
theorem ag4:mP Tryz.prog GS 56 [coA mxT 0 sn1 (el [e0]) 1] 0 [] (Is (.og [coA mxT 11 sn1 nl 1,el [e0]])):=by
 refine lJ func56 rfl mixed aag ?_
 conv=>whnf
 repeat' (first|exact lQ (List.range 40) aam|(refine mV aag (alx) ?_ ?_;(focus (trivial;done));rintro _ _ _ ⟨rfl,rfl,rfl⟩;(conv=>whnf))|(rw [rD];conv=>whnf)|(rw [mW];conv=>whnf)|(refine lN.fr ?_;conv=>whnf)|(refine lW.mk aaw ?_;conv=>whnf)|(refine rM 9 ?_;conv=>whnf)|(refine nJ aag (lJ acr rfl mixed aag ?_);conv=>whnf)|(refine pO acr ?_;conv=>whnf)|(refine mJ.mk ⟨_,rfl,by decide, ?_⟩;conv=>whnf)|(refine uo.mk ⟨_,_,rfl,rfl,by decide,by decide, ?_⟩;conv=>whnf)|(refine mQ.mk ⟨_,rfl, ?_⟩;conv=>whnf)|(refine uT.mk ⟨_,_,rfl,rfl,by decide,by decide,by decide, ?_⟩;conv=>whnf)|(refine oH.mk fun b hb=> ?_;obtain rfl:=hb aaw;conv=>whnf)|(refine oH.mk fun b hb=> ?_;cases b<;>(conv=>whnf))|(refine yc.mk aag rfl rfl ?_;conv=>whnf)|(refine lX XZ [] aaQ ?_;conv=>whnf)|(refine lX aiC [] aaQ ?_;conv=>whnf))
end
section
attribute [local irreducible] BA uN FW mcI be
def wW (now:Int)(obs pk:AV)(co:List AV)(rel:AV)(st:List AV):AV:= .agg ([uv 1,iv now,obs,pk]++(co++([rel]++(st++ [bv false,iv 0,nl]))))
def wS (obs:AV)(d:Dk):AV:=wW 0 obs nl (coC 0 (-1) nl nl 0) nl (dkC d++ [iv 1,iv 0,iv 1,iv 1,el []])
abbrev ob1 (next:Int)(held:FV):List (List FV):= [V6 c0 4 next 0 held]
def CpW (next:Int)(held:FV)(d:Dk)(a:AV)(n:Nat)(H:lI):Prop:=a=wS (.own 0) d∧n=1∧H = [(0, .rows 68 5 (ob1 next held))]
def ajz:Plan:=
 let r:Plan:= .take 12 (.take 13 (.one 14 (.take 15 (.take 16 (.one 17 .done)))))
 .take 0 (tk [1,2,3,4,7,8,9] (.two 5 (.two 6 (.one 10 (.one 11 r)) 10 (.one 6 (.one 11 r))) 10 (.one 5 (.one 6 (.one 11 r)))))
theorem ajA (d:Dk)(hd:d.ok):mP Tryz.prog GS 50 [wS (.lst 5 (ob1 1 nlF)) d] 0 [] (CpW 1 nlF d):=by
 have hi:=hd.hi
 have hN:=Ae GS d.now hd.n64 aai
 have hS:=Ae GS d.safe hd.f64 (by have:=hd.sf;omega)
 refine lJ func50 rfl mixed aag ?_
 conv=>whnf
 repeat' (first|exact nI (wS (.own 0) d) 1 [(0, .rows 68 5 (ob1 1 nlF))] [(0, .lab 3)] (List.range' 4 60) ⟨rfl,rfl,rfl⟩ rfl aam aam|(refine mV aag (hN) ?_ ?_;(focus (trivial;done));rintro _ _ _ ⟨rfl,rfl,rfl⟩;(conv=>whnf))|(refine mV aag (hS) ?_ ?_;(focus (trivial;done));rintro _ _ _ ⟨rfl,rfl,rfl⟩;(conv=>whnf))|(refine And.intro ?_ ?_<;>(conv=>whnf))|(refine lN.fr ?_;conv=>whnf)|(refine lW.mk aaw ?_;conv=>whnf)|(refine rM 9 ?_;conv=>whnf)|(refine nJ aag (lJ acr rfl mixed aag ?_);conv=>whnf)|(refine pO acr ?_;conv=>whnf)|(refine mJ.mk ⟨_,rfl,by decide, ?_⟩;conv=>whnf)|(refine uo.mk ⟨_,_,rfl,rfl,by decide,by decide, ?_⟩;conv=>whnf)|(refine mQ.mk ⟨_,rfl, ?_⟩;conv=>whnf)|(refine uT.mk ⟨_,_,rfl,rfl,by decide,by decide,by decide, ?_⟩;conv=>whnf)|(refine oH.mk fun b hb=> ?_;obtain rfl:=hb (aF rfl);conv=>whnf)|(refine oH.mk fun b hb=> ?_;cases b<;>(conv=>whnf))|(refine yc.mk aag rfl rfl ?_;conv=>whnf)|(refine lX (fun _=>ajz) [0] aaQ ?_;conv=>whnf)|(refine lX aeg [] aaQ ?_;conv=>whnf))
theorem ajB (d:Dk)(hd:d.ok):mP Tryz.prog GS 50 [wS (.lst 5 (ob1 2 hd1)) d] 0 [] (CpW 2 hd1 d):=by
 have hi:=hd.hi
 have hN:=Ae GS d.now hd.n64 aai
 have hS:=Ae GS d.safe hd.f64 (by have:=hd.sf;omega)
 refine lJ func50 rfl mixed aag ?_
 conv=>whnf
 repeat' (first|exact nI (wS (.own 0) d) 1 [(0, .rows 68 5 (ob1 2 hd1))] [(0, .lab 3)] (List.range' 4 60) ⟨rfl,rfl,rfl⟩ rfl aam aam|(refine mV aag (hN) ?_ ?_;(focus (trivial;done));rintro _ _ _ ⟨rfl,rfl,rfl⟩;(conv=>whnf))|(refine mV aag (hS) ?_ ?_;(focus (trivial;done));rintro _ _ _ ⟨rfl,rfl,rfl⟩;(conv=>whnf))|(refine And.intro ?_ ?_<;>(conv=>whnf))|(refine lN.fr ?_;conv=>whnf)|(refine lW.mk aaw ?_;conv=>whnf)|(refine rM 9 ?_;conv=>whnf)|(refine nJ aag (lJ acr rfl mixed aag ?_);conv=>whnf)|(refine pO acr ?_;conv=>whnf)|(refine mJ.mk ⟨_,rfl,by decide, ?_⟩;conv=>whnf)|(refine uo.mk ⟨_,_,rfl,rfl,by decide,by decide, ?_⟩;conv=>whnf)|(refine mQ.mk ⟨_,rfl, ?_⟩;conv=>whnf)|(refine uT.mk ⟨_,_,rfl,rfl,by decide,by decide,by decide, ?_⟩;conv=>whnf)|(refine oH.mk fun b hb=> ?_;obtain rfl:=hb (aF rfl);conv=>whnf)|(refine oH.mk fun b hb=> ?_;cases b<;>(conv=>whnf))|(refine yc.mk aag rfl rfl ?_;conv=>whnf)|(refine lX (fun _=>ajz) [0] aaQ ?_;conv=>whnf)|(refine lX aeg [] aaQ ?_;conv=>whnf))
end
section
attribute [local irreducible] BA uN FW mcI be
def alz:AV:= .agg ([iv 1,iv 0,iv 0]++((wX er).map FV.up++ [nl]))
theorem ajC (d:Dk)(hd:d.ok):mP Tryz.prog GS 15 [wS (.lst 5 (ob1 1 nlF)) d,alz] 0 [] (Is (.og [wS (.lst 5 (ob1 2 hd1)) d,bv true])):=by
 have hC:=ajA d hd
 refine lJ func15 rfl mixed aag ?_
 conv=>whnf
 repeat' (first|exact lQ (List.range 100) aam|(refine mV aag (hC) ?_ ?_;(focus (trivial;done));rintro _ _ _ ⟨rfl,rfl,rfl⟩;(conv=>whnf))|(refine mV aag (alq) ?_ ?_;(focus (trivial;done));rintro _ _ _ ⟨rfl,rfl,rfl⟩;(conv=>whnf))|(refine NK.hit _ rfl ?_;conv=>whnf)|(refine And.intro ?_ ?_<;>(conv=>whnf))|(refine lN.fr ?_;conv=>whnf)|(refine lW.mk aaw ?_;conv=>whnf)|(refine rM 9 ?_;conv=>whnf)|(refine nJ aag (lJ acr rfl mixed aag ?_);conv=>whnf)|(refine pO acr ?_;conv=>whnf)|(refine mJ.mk ⟨_,rfl,by decide, ?_⟩;conv=>whnf)|(refine uo.mk ⟨_,_,rfl,rfl,by decide,by decide, ?_⟩;conv=>whnf)|(refine mQ.mk ⟨_,rfl, ?_⟩;conv=>whnf)|(refine uT.mk ⟨_,_,rfl,rfl,by decide,by decide,by decide, ?_⟩;conv=>whnf)|(refine oH.mk fun b hb=> ?_;obtain rfl:=hb (aF rfl);conv=>whnf)|(refine oH.mk fun b hb=> ?_;cases b<;>(conv=>whnf))|(refine yc.mk aag rfl rfl ?_;conv=>whnf)|(refine lX aix [] aaQ ?_;conv=>whnf)|(refine Ij afM [(5,[])] aaQ ?_;conv=>whnf))
def wE (d:Dk):AV:=wW 0 (.lst 5 (ob1 2 hd0)) nl (coC mxT 11 sn1 nl 1) nl (stC (so1 d))
theorem ady (d:Dk)(hd:d.ok)(hl:d.now.length=32)(hdd:d.dead=false)(hf:d.fuse<0):mP Tryz.prog GS 16 [wS (.lst 5 (ob1 2 hd1)) d] 0 [] (Is (wE d)):=by
 have hC:=ajB d hd
 have hP:=ajw
 have hR:=ajy
 have hA:=Zr d hd hl hdd hf
 generalize be 8 FW=X at *
 unfold wE
 generalize so1 d=s1 at *
 refine lJ func16 rfl mixed aag ?_
 conv=>whnf
 repeat' (first|exact lQ (List.range 200) aam|(refine mV aag (hC) ?_ ?_;(focus (trivial;done));rintro _ _ _ ⟨rfl,rfl,rfl⟩;(conv=>whnf))|(refine mV aag (ag2) ?_ ?_;(focus (trivial;done));rintro _ _ _ ⟨rfl,rfl,rfl⟩;(conv=>whnf))|(refine mV aag (ag3) ?_ ?_;(focus (trivial;done));rintro _ _ _ ⟨rfl,rfl,rfl⟩;(conv=>whnf))|(refine mV aag (hP) ?_ ?_;(focus (trivial;done));rintro _ _ _ ⟨rfl,rfl,rfl⟩;(conv=>whnf))|(refine mV aag (hR) ?_ ?_;(focus (trivial;done));rintro _ _ _ ⟨rfl,rfl,rfl⟩;(conv=>whnf))|(refine mV aag (aly) ?_ ?_;(focus (trivial;done));rintro _ _ _ ⟨rfl,rfl,rfl⟩;(conv=>whnf))|(refine mV aag (ag4) ?_ ?_;(focus (trivial;done));rintro _ _ _ ⟨rfl,rfl,rfl⟩;(conv=>whnf))|(refine mV aag (hA) ?_ ?_;(focus (trivial;done));rintro _ _ _ ⟨rfl,rfl,rfl⟩;(conv=>whnf))|(refine And.intro ?_ ?_<;>(conv=>whnf))|(refine lN.fr ?_;conv=>whnf)|(refine lW.mk aaw ?_;conv=>whnf)|(refine rM 9 ?_;conv=>whnf)|(refine nJ aag (lJ acr rfl mixed aag ?_);conv=>whnf)|(refine pO acr ?_;conv=>whnf)|(refine mJ.mk ⟨_,rfl,by decide, ?_⟩;conv=>whnf)|(refine uo.mk ⟨_,_,rfl,rfl,by decide,by decide, ?_⟩;conv=>whnf)|(refine mQ.mk ⟨_,rfl, ?_⟩;conv=>whnf)|(refine uT.mk ⟨_,_,rfl,rfl,by decide,by decide,by decide, ?_⟩;conv=>whnf)|(refine oH.mk fun b hb=> ?_;obtain rfl:=hb (aF rfl);conv=>whnf)|(refine oH.mk fun b hb=> ?_;cases b<;>(conv=>whnf))|(refine yc.mk aag rfl rfl ?_;conv=>whnf)|(refine lX aiA [] aaQ ?_;conv=>whnf)|(refine lX aiy [] aaQ ?_;conv=>whnf)|(refine lX aiD [] aaQ ?_;conv=>whnf))
def dk1:Dk:=(Dw (dk0 32) 0 sc0).1
theorem ag5:dk1.ok∧dk1.now.length=32∧dk1.dead=false∧dk1.fuse<0:=by
 have h:=agM (l:=sc0) (d:=dk0 32) (at_:=0) (Sz aaw aaw aaw) Zn.2.2
 have h2:=Py (l:=sc0) (d:=dk0 32) (at_:=0) rfl aaw
 exact⟨h.1,h.2.1.trans (dX ..),h2.2⟩
theorem alA:mP Tryz.prog GS 6 [uv 1,iv 1,iv 4,iv 10,iv 32] 0 [] (Is (.og [wS (.lst 5 (ob1 1 nlF)) dk1,iv 0])):=by
 have h:=ajt 1 1 4 10 32
 unfold adv at h
 rw [if_pos aaw]at h
 exact h
theorem adz:mP Tryz.prog GS 5 [] 0 [] (Is (bv true)):=by
 have hN:=alA
 obtain⟨h1,h2,h3,h4⟩:=ag5
 generalize dk1=d at *
 have hP:=ajC d h1
 have hS:=ady d h1 h2 h3 h4
 refine lJ func5 rfl mixed aag ?_
 conv=>whnf
 repeat' (first|exact lQ (List.range 40) aam|(refine mV aag (hN) ?_ ?_;(focus (trivial;done));rintro _ _ _ ⟨rfl,rfl,rfl⟩;(conv=>whnf))|(refine mV aag (hP) ?_ ?_;(focus (trivial;done));rintro _ _ _ ⟨rfl,rfl,rfl⟩;(conv=>whnf))|(refine mV aag (hS) ?_ ?_;(focus (trivial;done));rintro _ _ _ ⟨rfl,rfl,rfl⟩;(conv=>whnf))|(refine lN.fr ?_;conv=>whnf)|(refine lW.mk aaw ?_;conv=>whnf)|(refine rM 9 ?_;conv=>whnf)|(refine nJ aag (lJ acr rfl mixed aag ?_);conv=>whnf)|(refine pO acr ?_;conv=>whnf)|(refine mJ.mk ⟨_,rfl,by decide, ?_⟩;conv=>whnf)|(refine uo.mk ⟨_,_,rfl,rfl,by decide,by decide, ?_⟩;conv=>whnf)|(refine mQ.mk ⟨_,rfl, ?_⟩;conv=>whnf)|(refine uT.mk ⟨_,_,rfl,rfl,by decide,by decide,by decide, ?_⟩;conv=>whnf)|(refine oH.mk fun b hb=> ?_;obtain rfl:=hb (aF rfl);conv=>whnf)|(refine oH.mk fun b hb=> ?_;cases b<;>(conv=>whnf))|(refine yc.mk aag rfl rfl ?_;conv=>whnf))
end
section
open Go.Proofs.YtnandbihiceihaaGreatDoor.Id
abbrev ba (s:By):ByteArray:=⟨s.toArray⟩
def ab (s:ByteArray):By:=s.data.toList
theorem wO (s:ByteArray):ba (ab s)=s:=by cases s;rfl
theorem Zx (a b:ByteArray):BA a b=decide (ab a<ab b):=by
 have h:BA (ba (ab a)) (ba (ab b))=decide (ab a<ab b):=rD (ab a) (ab b)
 rw [wO,wO]at h
 exact h
def nlt (a b:ByteArray):Prop:= ¬ab a<ab b
theorem UK (x y:ByteArray)(h:x≠y):(vH x y=x∧uH x y=y∧ab x<ab y)∨(vH x y=y∧uH x y=x∧ab y<ab x):=by
 have he:uN x y=false:=by rw [Ug];simpa using h
 have hn:ab x≠ab y:=fun e=>h (by rw [<-wO x,e,wO])
 unfold vH uH
 cases hl:BA x y with
 | true=>
  rw [Zx]at hl
  exact .inl ⟨by simp,by simp,by simpa using hl⟩
 | false=>
  rw [Zx]at hl
  exact .inr ⟨by simp [he],by simp [he],Uu ahV hn⟩
theorem ag6 {a b c:ByteArray}(h1:nlt a b)(h2:ab c<ab b):nlt a c:=fun h=>h1 (Si h h2)
theorem CX {P:List Lk->Prop}(h0:P [])(h1 : ∀l k,P l->P (l++ [k])) : ∀l,P l:=by
 have : ∀n (l:List Lk),l.length=n->P l:=by
  intro n
  induction n with
  | zero=>intro l hl;rw [aK hl];exact h0
  | succ n ih=>
   intro l hl
   have hne:l≠ []:=fun e=>by simp [e]at hl
   rw [<-iZ hne]
   exact h1 _ _ (ih _ (by simp [hl]))
 exact fun l=>this _ l rfl
theorem UL : ∀(l:List Lk) (x:ByteArray),rt l (rt l x)=rt l x:=by
 refine CX (fun x=>rfl) fun l k ih x=> ?_
 rw [yJ]
 by_cases h:rt l k.a=rt l k.b
 ·rw [OM h];exact ih x
 ·rw [Ui h]
  have hm:rt l (vH (rt l k.a) (rt l k.b))=vH (rt l k.a) (rt l k.b)∧vH (rt l k.a) (rt l k.b)≠uH (rt l k.a) (rt l k.b):=by
   rcases UK _ _ h with ⟨e1,e2,_⟩|⟨e1,e2,_⟩
   ·rw [e1,e2];exact⟨ih _,h⟩
   ·rw [e1,e2];exact⟨ih _,fun e=>h e.symm⟩
  by_cases hx:rt l x=uH (rt l k.a) (rt l k.b)
  ·simp only [if_pos hx,hm.1,if_neg hm.2]
  ·simp only [if_neg hx,ih x,if_neg hx]
theorem Zy (l:List Lk)(x:ByteArray):con l x (rt l x):=(UL l x).symm
theorem Zz : ∀(l:List Lk) (x y:ByteArray),con l x y->nlt y (rt l x):=by
 refine CX (fun x y h=> ?_) fun l k ih x y h=> ?_
 ·rw [Uj]at h;subst h;exact fun h=>FQ _ h
 ·unfold con at h
  rw [yJ]at h ⊢
  by_cases hk:rt l k.a=rt l k.b
  ·rw [OM hk]at h ⊢;exact ih x y h
  ·rw [Ui hk]at h ⊢
   have hlt:ab (vH (rt l k.a) (rt l k.b))<ab (uH (rt l k.a) (rt l k.b)):=by
    rcases UK _ _ hk with ⟨e1,e2,e3⟩|⟨e1,e2,e3⟩<;>rw [e1,e2]<;>exact e3
   have hmin : ∀z,rt l z=uH (rt l k.a) (rt l k.b)->nlt z (vH (rt l k.a) (rt l k.b)):=fun z hz=>by
    have:=ih z z rfl
    rw [hz]at this
    exact ag6 this hlt
   simp only at h ⊢
   by_cases hx:rt l x=uH (rt l k.a) (rt l k.b)
   ·rw [if_pos hx]at h ⊢
    by_cases hy:rt l y=uH (rt l k.a) (rt l k.b)
    ·exact hmin y hy
    ·rw [if_neg hy]at h
     have:=ih y y rfl
     rwa [<-h]at this
   ·rw [if_neg hx]at h ⊢
    by_cases hy:rt l y=uH (rt l k.a) (rt l k.b)
    ·rw [if_pos hy]at h
     rw [h];exact hmin y hy
    ·rw [if_neg hy]at h
     exact ih x y h
def oO (l:List Lk):List ByteArray:=l.flatMap fun k=> [k.a,k.b]
theorem Pz (l:List Lk)(x:ByteArray):x∈oO l↔∃k∈l,x=k.a∨x=k.b:=by unfold oO;simp
theorem UM {l:List Lk}{x y:ByteArray}(hx:x∉oO l)(h:con l x y):y=x:=by
 have:=Bf (fun z=>z=x) l.length l rfl (fun k hk=> ?_) x y h
 ·exact this.1 rfl
 ·have h1:k.a≠x:=fun e=>hx ((Pz l x).2 ⟨k,hk, .inl e.symm⟩)
  have h2:k.b≠x:=fun e=>hx ((Pz l x).2 ⟨k,hk, .inr e.symm⟩)
  exact⟨fun e=>absurd e h1,fun e=>absurd e h2⟩
theorem ag7 {l:List Lk}{x:ByteArray}(hx:x∉oO l):rt l x=x:=UM hx (Zy l x)
theorem ajD {l:List Lk}{x:ByteArray}(hx:x∈oO l):rt l x∈oO l:=by
 by_cases h:rt l x∈oO l
 ·exact h
 ·have:x=rt l x:=UM h (Zy l x).symm
  rw [this]at hx
  exact absurd hx h
def Ik (l:List Lk):List Lk:=l.foldl (fun o k=>if rt o k.a=rt o k.b then o else o++ [k]) []
theorem Il (l:List Lk)(k:Lk):Ik (l++ [k])=if rt (Ik l) k.a=rt (Ik l) k.b then Ik l else Ik l++ [k]:=by unfold Ik;rw [fJ];rfl
theorem SC : ∀l:List Lk,rt (Ik l)=rt l:=by
 refine CX rfl fun l k ih=> ?_
 rw [Il,yJ]
 split
 ·rename_i h
  rw [ih]at h ⊢
  rw [OM h]
 ·rw [yJ,ih]
theorem UN : ∀l:List Lk,(Ik l).length<=l.length:=by
 refine CX (au _) fun l k ih=> ?_
 rw [Il]
 split
 ·simp;omega
 ·simp;omega
end
end Go.Proofs.YtnandbihiceihaaGreatDoor.Cl
namespace Go.Proofs.YtnandbihiceihaaGreatDoor.Id
open RowKit Vc Ky Go.Proofs.Tryz
attribute [local irreducible] loadVar storeVar Instr.indexAt Instr.index Instr.sliceAt Instr.makeSlice Instr.lookup Instr.mapUpdate Instr.range Instr.next Instr.entry Instr.makeMap Builtin.append_ Builtin.copy_ Builtin.len_ Builtin.min_ Builtin.max_ Builtin.cap_ Builtin.delete_ Builtin.clear_ convert binOp eqGuard Op.unary Calls
def lkc (k:Lk):List Value:= [.string k.a, .string k.b, .int .i64 k.t]
theorem UO (k:Lk):(lkc k).length=3:=rfl
def Xg (w:World)(b:Nat)(F:ByteArray->Option ByteArray):Prop:=rX w b fun k=>(F k).map Value.string
def wF (t:Int)(l:List Lk):List Lk:=l.filter fun k=>decide (k.t<=t)
theorem CY (t:Int)(l:List Lk)(k:Lk):wF t (l++ [k])=if k.t<=t then wF t l++ [k]else wF t l:=by
 unfold wF;rw [fQ];by_cases h:k.t<=t<;>simp [h]
theorem FY (t:Int)(l:List Lk):(wF t l).length<=l.length:=dJ _ _
theorem qw (l:List ByteArray) : ∀u∈nD l,u.oneCell'=true:=by
 intro u hu
 simp only [nD,dW]at hu
 obtain⟨x,_,rfl⟩:=hu
 rfl
@[simp] theorem Af (l:List ByteArray):(nD l).length=l.length:=by simp [nD]
def hasB (l:List ByteArray)(x:ByteArray):Bool:=l.any fun y=>uN y x
theorem oP (l:List ByteArray)(x:ByteArray):hasB l x=true↔x∈l:=by
 unfold hasB
 rw [List.any_eq_true]
 constructor
 ·rintro⟨y,hy,e⟩;rw [<-(pX _ _).1 e];exact hy
 ·intro h;exact⟨x,h,(pX _ _).2 rfl⟩
theorem uz (l:List ByteArray)(x:ByteArray):hasB l x=false↔x∉l:=by rw [<-oP];simp
theorem MJ (oa:Option Addr)(c:Nat)(l:List ByteArray)(x:ByteArray)(w:World)(hr:Row w oa (nD l))(hmx:l.length<=1099511627776) :
  zO Tryz.prog 178 #[.slice oa l.length c, .string x] w fun v w'=>v = .bool (hasB l x)∧w'=w:=by
 refine ou func178 rfl mixed aag ?_
 refine su (X:=Nat) abP (fun i=> [(5, .int .i64 i)]) (fun i w'=>i<=l.length∧w'=w∧x∉l.take i) (fun i=>l.length-i) 0 aag
  ?_ ⟨aH _,rfl,by simp⟩ ?_
 ·exact⟨rfl,trivial⟩
 rintro i w1 j ⟨hi,rfl,hp⟩
 refine lH (fun hlt=> ?_) (fun hge=> ?_)
 ·have hlt:i<l.length:=adU
  obtain⟨b,o,rfl,hbl,hc⟩:=hr.at akk
  have hg:=Aa hlt
  conv=>whnf
  (repeat (first|(refine lW.mk aaR ?_;conv=>whnf)|(refine nO.mk rfl ?_;conv=>whnf)|(refine ng.keep rfl ?_;conv=>whnf)|(refine uQ _ rfl rfl rfl aaH ?_;conv=>whnf)|(refine vS _ rfl rfl rfl aaH ?_;conv=>whnf)|(refine uf _ rfl rfl rfl aaH ?_;conv=>whnf)|(refine rG aaP aaH rfl rfl ?_;conv=>whnf)|(refine tN aaP aaH rfl rfl ?_;conv=>whnf)|(refine vP aaP aaH rfl ?_;conv=>whnf)|(refine nH rfl aaP aaH ?_;conv=>whnf)))
  apply lH<;>intro h
  ·have h:l[i]=x:=(pX _ _).1 h
   rw [(oP l x).2 (by rw [<-h];exact aV hlt)]
   exact qM.mk ⟨rfl,rfl⟩
  ·have h:l[i]≠x:=fun e=>by rw [(pX _ _).2 e]at h;cases h
   refine qV.mk ⟨_, ?_,(i+1),rfl, ?_, ?_⟩
   ·show l.length -(i+1)<l.length-i;omega
   ·exact⟨rE (incr aai),trivial⟩
   ·refine⟨hlt,rfl, ?_⟩
    rw [aG hlt]
    simp only [bC,aW,not_or]
    exact⟨hp,fun e=>h e.symm⟩
 ·have hge : ¬i<l.length:=adB
  obtain rfl:i=l.length:=aai
  rw [aZ]at hp
  rw [(uz l x).2 hp]
  exact qM.mk ⟨rfl,rfl⟩
theorem nT {B:Nat}{u v:World}(h:Below B u v):Below B u.drew v:=⟨h.os,h.tape,h.output,h.size,h.block⟩
theorem Own.cap {w:World}{B:Nat}{E:TypeId}{sz:Nat}{oa:Option Addr}{n c:Nat}{xs:List Value}(h:Vc.Own w B E sz oa n c xs):n<=c∧(oa=none->c=0):=by
 rcases h.2 with ⟨h1,h0⟩|⟨g,cap,cur,hv,_,_,h1,_⟩
 ·injection h1 with _ _ e;subst e;exact⟨by omega,fun _=>rfl⟩
 ·injection hv with e1 _ e3;subst e3;exact⟨h1,fun e=>by rw [e]at e1;cases e1⟩
theorem Row.grown {w w':World}{b:Nat}{vs:List Value}{row:Option Nat}(h:Row w (some ⟨b,0,none⟩) vs)(hg:w.grownBy w' row)(hne:some b≠row):Row w' (some ⟨b,0,none⟩) vs:=by
 rcases h with h|⟨b',o,he,hlt,hc⟩
 ·exact .inl h
 ·injection he with he
  injection he with e1 e2
  subst e1;subst e2
  refine .inr ⟨b,0,rfl,aP hlt hg.size,fun j v hj=> ?_⟩
  have:=hc j v hj
  unfold World.cell? at this ⊢
  simp only at this ⊢
  rw [hg.block b hlt hne];exact this
theorem JU (oa:Option Addr)(c:Nat)(l:List ByteArray)(x:ByteArray)(w:World)(hr:Row w oa (nD l))(hc:l.length<=c)(hnil:oa=none->c=0)(hmx:l.length<=1099511627776) :
  zO Tryz.prog 252 #[.slice oa l.length c, .string x] w fun v w'=> ∃pJ c' l',v = .slice pJ l'.length c'∧Row w' pJ (nD l')∧l'.length=l.length+1∧l'.length<=c'∧(pJ=none->c'=0)∧(∀y,y∈l'↔y∈l∨y=x)∧Below w.heap.size w w':=by
 refine ou func252 rfl mixed aag ?_
 refine su (X:=Nat) TW (fun i=> [(5, .int .i64 i)]) (fun i w'=>i<=l.length∧w'=w) (fun i=>l.length-i) 0 aag
  ?_ ⟨aH _,rfl⟩ ?_
 ·exact⟨rfl,trivial⟩
 rintro i w1 j ⟨hi,rfl⟩
 have fin:True:=trivial
 refine lH (fun hlt=> ?_) (fun hge=> ?_)
 ·have hlt:i<l.length:=adU
  obtain⟨b,o,rfl,hbl,hA⟩:=hr.at akk
  have hg:=Aa hlt
  conv=>whnf
  (repeat (first|(refine lW.mk aaR ?_;conv=>whnf)|(refine nO.mk rfl ?_;conv=>whnf)|(refine ng.keep rfl ?_;conv=>whnf)|(refine uQ _ rfl rfl rfl aaH ?_;conv=>whnf)|(refine vS _ rfl rfl rfl aaH ?_;conv=>whnf)|(refine uf _ rfl rfl rfl aaH ?_;conv=>whnf)|(refine rG aaP aaH rfl rfl ?_;conv=>whnf)|(refine tN aaP aaH rfl rfl ?_;conv=>whnf)|(refine vP aaP aaH rfl ?_;conv=>whnf)|(refine nH rfl aaP aaH ?_;conv=>whnf)))
  apply lH<;>intro h
  ·refine qV.mk ⟨_, ?_,(i+1),rfl, ?_, ?_⟩
   ·show l.length -(i+1)<l.length-i;omega
   ·exact⟨rE (incr aai),trivial⟩
   ·exact⟨hlt,rfl⟩
  ·(refine QJ TY aag ?_;conv=>whnf)
   have hci:i<=c:=aai
   have hrT : ∀u,Below w1.heap.size w1 u->Row u _ (nD (l.take i)):=fun u hu=>by
    have:=(hr.below hu).take i
    rwa [show (nD l).take i=nD (l.take i) by simp [nD,iw]]at this
   have hrD : ∀u,Below w1.heap.size w1 u->Row u (loS _ i 1 c) (nD (l.drop i)):=fun u hu=>by
    have:=(hr.below hu).lo' (lo:=i) (sz:=1) (c:=c) akk
    rwa [dZ,show (nD l).drop i=nD (l.drop i) by simp [nD,jw]]at this
   have hBd:Below w1.heap.size w1 w1.drew:=xu (Below.refl _ _)
   refine tK (h:=i) rfl rfl rfl aai hc ?_
   refine nO.mk rfl ?_
   refine nO.mk (fun u _=> ?_) ?_
   ·exact tK (h:=i) rfl rfl rfl aai hc (nO.mk rfl rfl)
   refine vT (lo:=i) rfl rfl rfl aai ?_
   refine nO.mk rfl ?_
   refine nO.mk (fun u _=> ?_) ?_
   ·exact vT (lo:=i) rfl rfl rfl aai (nO.mk rfl rfl)
   conv=>whnf
   have hsz:=hBd.size
   refine⟨?_, ?_⟩
   ·conv=>whnf
    have hB0:Below w1.heap.size w1 (w1.drew.alloc (.cells #[] 9)):=pW hBd (au _) _
    have WC:Vc.Own (w1.drew.alloc (.cells #[] 9)) w1.heap.size 9 1 (some ⟨w1.heap.size,0,none⟩) 0 0 []:=Vc.Own.xE (rU.new w1.drew #[] _) (au _) (au _) (aH _) rfl rfl
    refine ng.keep (nT hB0) ?_
    refine⟨?_, ?_⟩
    ·refine nX (B:=w1.heap.size) (sz:=1) (qp:=16) (m:=i) (n:=0) rfl rfl rfl rfl rfl rfl WC (hrT _ hB0) aev (qw _) hnil aai hB0.size aa5 ?_
     intro o4 c4 w4 PD hB4 _
     rw [aO,dI]at PD
     have ZA:=hB0.trans hB4
     refine ng.keep (nT ZA) ?_
     conv=>whnf
     have Io:=PD.alloc (.cells #[.string x] 9)
     have Rn:=Row.alloc1 w4 [.string x] 9
     have Ip:=pW ZA (au _) (.cells #[.string x] 9)
     refine ng.keep (nT Ip) ?_
     rw [aO]
     refine nX (B:=w1.heap.size) (sz:=1) (qp:=16) (m:=1) (n:=i) rfl rfl rfl rfl rfl rfl Io Rn rfl (fun u hu=>by simp at hu;subst hu;rfl) (fun e=>by cases e) aai Ip.size aa5 ?_
     intro o7 c7 w7 ZB ZC _
     have tJ:=Ip.trans ZC
     refine ng.keep (nT tJ) ?_
     refine nX (B:=w1.heap.size) (sz:=1) (qp:=16) (m:=l.length-i) (n:=i+1) rfl rfl rfl rfl rfl rfl ZB (hrD w7 tJ) abb (qw _) (xC hnil) aai tJ.size aa5 ?_
     intro o9 c9 w9 Iq ZE _
     have zC:=tJ.trans ZE
     refine ng.keep (nT zC) ?_
     conv=>whnf
     obtain⟨l9,Ir⟩ : ∃m,m=l.take i++ [x]++l.drop i:=⟨_,rfl⟩
     have hll:i+1+(l.length-i)=l9.length:=ahO
     have hls:nD (l.take i)++ [Value.string x]++nD (l.drop i)=nD l9:=ahU
     rw [hls,hll]at Iq
     rw [hll]
     have hcap:=Own.cap Iq
     refine qM.mk ⟨o9,c9,l9,rfl,Iq.row,by omega,hcap.1,hcap.2,fun y=> ?_,zC⟩
     rw [Ir]
     simp only [bC,aW]
     constructor
     ·rintro((h|h)|h)
      ·exact .inl (bQ h)
      ·exact .inr h
      ·exact .inl (dM h)
     ·rintro(h|h)
      ·rw [<-cZ i l]at h
       rcases bC.1 h with h|h
       ·exact .inl (.inl h)
       ·exact .inr h
      ·exact .inl (.inr h)
    ·conv=>whnf
     have hO6:=WC.alloc (.cells #[.string x] 9)
     have hR6:=Row.alloc1 (w1.drew.alloc (.cells #[] 9)) [.string x] 9
     have PE:=pW hB0 (au _) (.cells #[.string x] 9)
     refine ng.keep (nT PE) ?_
     refine nX (B:=w1.heap.size) (sz:=1) (qp:=16) (m:=i) (n:=0) rfl rfl rfl rfl rfl rfl hO6 (hrT _ PE) aev (qw _) hnil aai PE.size aa5 ?_
     intro o4 c4 w4 PD hB4 hg4
     rw [aO,dI]at PD
     have Io:=PD
     have Ip:=PE.trans hB4
     have Rn:=Row.grown hR6 hg4 ajE
     refine ng.keep (nT Ip) ?_
     rw [aO]
     refine nX (B:=w1.heap.size) (sz:=1) (qp:=16) (m:=1) (n:=i) rfl rfl rfl rfl rfl rfl Io Rn rfl (fun u hu=>by simp at hu;subst hu;rfl) (fun e=>by cases e) aai Ip.size aa5 ?_
     intro o7 c7 w7 ZB ZC _
     have tJ:=Ip.trans ZC
     refine ng.keep (nT tJ) ?_
     refine nX (B:=w1.heap.size) (sz:=1) (qp:=16) (m:=l.length-i) (n:=i+1) rfl rfl rfl rfl rfl rfl ZB (hrD w7 tJ) abb (qw _) (xC hnil) aai tJ.size aa5 ?_
     intro o9 c9 w9 Iq ZE _
     have zC:=tJ.trans ZE
     refine ng.keep (nT zC) ?_
     conv=>whnf
     obtain⟨l9,Ir⟩ : ∃m,m=l.take i++ [x]++l.drop i:=⟨_,rfl⟩
     have hll:i+1+(l.length-i)=l9.length:=ahO
     have hls:nD (l.take i)++ [Value.string x]++nD (l.drop i)=nD l9:=ahU
     rw [hls,hll]at Iq
     rw [hll]
     have hcap:=Own.cap Iq
     refine qM.mk ⟨o9,c9,l9,rfl,Iq.row,by omega,hcap.1,hcap.2,fun y=> ?_,zC⟩
     rw [Ir]
     simp only [bC,aW]
     constructor
     ·rintro((h|h)|h)
      ·exact .inl (bQ h)
      ·exact .inr h
      ·exact .inl (dM h)
     ·rintro(h|h)
      ·rw [<-cZ i l]at h
       rcases bC.1 h with h|h
       ·exact .inl (.inl h)
       ·exact .inr h
      ·exact .inl (.inr h)
   ·conv=>whnf
    have hR6:=Row.alloc1 w1.drew [.string x] 9
    have PE:=pW hBd (au _) (.cells #[.string x] 9)
    refine ng.keep (nT PE) ?_
    conv=>whnf
    have WC:Vc.Own ((w1.drew.alloc (.cells #[.string x] 9)).alloc (.cells #[] 9)) w1.heap.size 9 1 (some ⟨(w1.drew.alloc (.cells #[.string x] 9)).heap.size,0,none⟩) 0 0 []:=Vc.Own.xE (rU.new _ #[] _) PE.size (au _) (aH _) rfl rfl
    have hB0:=pW PE (au _) (.cells #[] 9)
    have hR0:=hR6.alloc (.cells #[] 9)
    refine ng.keep (nT hB0) ?_
    refine nX (B:=w1.heap.size) (sz:=1) (qp:=16) (m:=i) (n:=0) rfl rfl rfl rfl rfl rfl WC (hrT _ hB0) aev (qw _) hnil aai hB0.size aa5 ?_
    intro o4 c4 w4 PD hB4 hg4
    rw [aO,dI]at PD
    have Io:=PD
    have Ip:=hB0.trans hB4
    have Rn:=Row.grown hR0 hg4 ajE
    refine ng.keep (nT Ip) ?_
    rw [aO]
    refine nX (B:=w1.heap.size) (sz:=1) (qp:=16) (m:=1) (n:=i) rfl rfl rfl rfl rfl rfl Io Rn rfl (fun u hu=>by simp at hu;subst hu;rfl) (fun e=>by cases e) aai Ip.size aa5 ?_
    intro o7 c7 w7 ZB ZC _
    have tJ:=Ip.trans ZC
    refine ng.keep (nT tJ) ?_
    refine nX (B:=w1.heap.size) (sz:=1) (qp:=16) (m:=l.length-i) (n:=i+1) rfl rfl rfl rfl rfl rfl ZB (hrD w7 tJ) abb (qw _) (xC hnil) aai tJ.size aa5 ?_
    intro o9 c9 w9 Iq ZE _
    have zC:=tJ.trans ZE
    refine ng.keep (nT zC) ?_
    conv=>whnf
    obtain⟨l9,Ir⟩ : ∃m,m=l.take i++ [x]++l.drop i:=⟨_,rfl⟩
    have hll:i+1+(l.length-i)=l9.length:=ahO
    have hls:nD (l.take i)++ [Value.string x]++nD (l.drop i)=nD l9:=ahU
    rw [hls,hll]at Iq
    rw [hll]
    have hcap:=Own.cap Iq
    refine qM.mk ⟨o9,c9,l9,rfl,Iq.row,by omega,hcap.1,hcap.2,fun y=> ?_,zC⟩
    rw [Ir]
    simp only [bC,aW]
    constructor
    ·rintro((h|h)|h)
     ·exact .inl (bQ h)
     ·exact .inr h
     ·exact .inl (dM h)
    ·rintro(h|h)
     ·rw [<-cZ i l]at h
      rcases bC.1 h with h|h
      ·exact .inl (.inl h)
      ·exact .inr h
     ·exact .inl (.inr h)
 ·have hge : ¬i<l.length:=adB
  (refine QJ TY aag ?_;conv=>whnf)
  have hci:i<=c:=aai
  have hrT : ∀u,Below w1.heap.size w1 u->Row u _ (nD (l.take i)):=fun u hu=>by
   have:=(hr.below hu).take i
   rwa [show (nD l).take i=nD (l.take i) by simp [nD,iw]]at this
  have hrD : ∀u,Below w1.heap.size w1 u->Row u (loS _ i 1 c) (nD (l.drop i)):=fun u hu=>by
   have:=(hr.below hu).lo' (lo:=i) (sz:=1) (c:=c) akk
   rwa [dZ,show (nD l).drop i=nD (l.drop i) by simp [nD,jw]]at this
  have hBd:Below w1.heap.size w1 w1.drew:=xu (Below.refl _ _)
  refine tK (h:=i) rfl rfl rfl aai hc ?_
  refine nO.mk rfl ?_
  refine nO.mk (fun u _=> ?_) ?_
  ·exact tK (h:=i) rfl rfl rfl aai hc (nO.mk rfl rfl)
  refine vT (lo:=i) rfl rfl rfl aai ?_
  refine nO.mk rfl ?_
  refine nO.mk (fun u _=> ?_) ?_
  ·exact vT (lo:=i) rfl rfl rfl aai (nO.mk rfl rfl)
  conv=>whnf
  have hsz:=hBd.size
  refine⟨?_, ?_⟩
  ·conv=>whnf
   have hB0:Below w1.heap.size w1 (w1.drew.alloc (.cells #[] 9)):=pW hBd (au _) _
   have WC:Vc.Own (w1.drew.alloc (.cells #[] 9)) w1.heap.size 9 1 (some ⟨w1.heap.size,0,none⟩) 0 0 []:=Vc.Own.xE (rU.new w1.drew #[] _) (au _) (au _) (aH _) rfl rfl
   refine ng.keep (nT hB0) ?_
   refine⟨?_, ?_⟩
   ·refine nX (B:=w1.heap.size) (sz:=1) (qp:=16) (m:=i) (n:=0) rfl rfl rfl rfl rfl rfl WC (hrT _ hB0) aev (qw _) hnil aai hB0.size aa5 ?_
    intro o4 c4 w4 PD hB4 _
    rw [aO,dI]at PD
    have ZA:=hB0.trans hB4
    refine ng.keep (nT ZA) ?_
    conv=>whnf
    have Io:=PD.alloc (.cells #[.string x] 9)
    have Rn:=Row.alloc1 w4 [.string x] 9
    have Ip:=pW ZA (au _) (.cells #[.string x] 9)
    refine ng.keep (nT Ip) ?_
    rw [aO]
    refine nX (B:=w1.heap.size) (sz:=1) (qp:=16) (m:=1) (n:=i) rfl rfl rfl rfl rfl rfl Io Rn rfl (fun u hu=>by simp at hu;subst hu;rfl) (fun e=>by cases e) aai Ip.size aa5 ?_
    intro o7 c7 w7 ZB ZC _
    have tJ:=Ip.trans ZC
    refine ng.keep (nT tJ) ?_
    refine nX (B:=w1.heap.size) (sz:=1) (qp:=16) (m:=l.length-i) (n:=i+1) rfl rfl rfl rfl rfl rfl ZB (hrD w7 tJ) abb (qw _) (xC hnil) aai tJ.size aa5 ?_
    intro o9 c9 w9 Iq ZE _
    have zC:=tJ.trans ZE
    refine ng.keep (nT zC) ?_
    conv=>whnf
    obtain⟨l9,Ir⟩ : ∃m,m=l.take i++ [x]++l.drop i:=⟨_,rfl⟩
    have hll:i+1+(l.length-i)=l9.length:=ahO
    have hls:nD (l.take i)++ [Value.string x]++nD (l.drop i)=nD l9:=ahU
    rw [hls,hll]at Iq
    rw [hll]
    have hcap:=Own.cap Iq
    refine qM.mk ⟨o9,c9,l9,rfl,Iq.row,by omega,hcap.1,hcap.2,fun y=> ?_,zC⟩
    rw [Ir]
    simp only [bC,aW]
    constructor
    ·rintro((h|h)|h)
     ·exact .inl (bQ h)
     ·exact .inr h
     ·exact .inl (dM h)
    ·rintro(h|h)
     ·rw [<-cZ i l]at h
      rcases bC.1 h with h|h
      ·exact .inl (.inl h)
      ·exact .inr h
     ·exact .inl (.inr h)
   ·conv=>whnf
    have hO6:=WC.alloc (.cells #[.string x] 9)
    have hR6:=Row.alloc1 (w1.drew.alloc (.cells #[] 9)) [.string x] 9
    have PE:=pW hB0 (au _) (.cells #[.string x] 9)
    refine ng.keep (nT PE) ?_
    refine nX (B:=w1.heap.size) (sz:=1) (qp:=16) (m:=i) (n:=0) rfl rfl rfl rfl rfl rfl hO6 (hrT _ PE) aev (qw _) hnil aai PE.size aa5 ?_
    intro o4 c4 w4 PD hB4 hg4
    rw [aO,dI]at PD
    have Io:=PD
    have Ip:=PE.trans hB4
    have Rn:=Row.grown hR6 hg4 ajE
    refine ng.keep (nT Ip) ?_
    rw [aO]
    refine nX (B:=w1.heap.size) (sz:=1) (qp:=16) (m:=1) (n:=i) rfl rfl rfl rfl rfl rfl Io Rn rfl (fun u hu=>by simp at hu;subst hu;rfl) (fun e=>by cases e) aai Ip.size aa5 ?_
    intro o7 c7 w7 ZB ZC _
    have tJ:=Ip.trans ZC
    refine ng.keep (nT tJ) ?_
    refine nX (B:=w1.heap.size) (sz:=1) (qp:=16) (m:=l.length-i) (n:=i+1) rfl rfl rfl rfl rfl rfl ZB (hrD w7 tJ) abb (qw _) (xC hnil) aai tJ.size aa5 ?_
    intro o9 c9 w9 Iq ZE _
    have zC:=tJ.trans ZE
    refine ng.keep (nT zC) ?_
    conv=>whnf
    obtain⟨l9,Ir⟩ : ∃m,m=l.take i++ [x]++l.drop i:=⟨_,rfl⟩
    have hll:i+1+(l.length-i)=l9.length:=ahO
    have hls:nD (l.take i)++ [Value.string x]++nD (l.drop i)=nD l9:=ahU
    rw [hls,hll]at Iq
    rw [hll]
    have hcap:=Own.cap Iq
    refine qM.mk ⟨o9,c9,l9,rfl,Iq.row,by omega,hcap.1,hcap.2,fun y=> ?_,zC⟩
    rw [Ir]
    simp only [bC,aW]
    constructor
    ·rintro((h|h)|h)
     ·exact .inl (bQ h)
     ·exact .inr h
     ·exact .inl (dM h)
    ·rintro(h|h)
     ·rw [<-cZ i l]at h
      rcases bC.1 h with h|h
      ·exact .inl (.inl h)
      ·exact .inr h
     ·exact .inl (.inr h)
  ·conv=>whnf
   have hR6:=Row.alloc1 w1.drew [.string x] 9
   have PE:=pW hBd (au _) (.cells #[.string x] 9)
   refine ng.keep (nT PE) ?_
   conv=>whnf
   have WC:Vc.Own ((w1.drew.alloc (.cells #[.string x] 9)).alloc (.cells #[] 9)) w1.heap.size 9 1 (some ⟨(w1.drew.alloc (.cells #[.string x] 9)).heap.size,0,none⟩) 0 0 []:=Vc.Own.xE (rU.new _ #[] _) PE.size (au _) (aH _) rfl rfl
   have hB0:=pW PE (au _) (.cells #[] 9)
   have hR0:=hR6.alloc (.cells #[] 9)
   refine ng.keep (nT hB0) ?_
   refine nX (B:=w1.heap.size) (sz:=1) (qp:=16) (m:=i) (n:=0) rfl rfl rfl rfl rfl rfl WC (hrT _ hB0) aev (qw _) hnil aai hB0.size aa5 ?_
   intro o4 c4 w4 PD hB4 hg4
   rw [aO,dI]at PD
   have Io:=PD
   have Ip:=hB0.trans hB4
   have Rn:=Row.grown hR0 hg4 ajE
   refine ng.keep (nT Ip) ?_
   rw [aO]
   refine nX (B:=w1.heap.size) (sz:=1) (qp:=16) (m:=1) (n:=i) rfl rfl rfl rfl rfl rfl Io Rn rfl (fun u hu=>by simp at hu;subst hu;rfl) (fun e=>by cases e) aai Ip.size aa5 ?_
   intro o7 c7 w7 ZB ZC _
   have tJ:=Ip.trans ZC
   refine ng.keep (nT tJ) ?_
   refine nX (B:=w1.heap.size) (sz:=1) (qp:=16) (m:=l.length-i) (n:=i+1) rfl rfl rfl rfl rfl rfl ZB (hrD w7 tJ) abb (qw _) (xC hnil) aai tJ.size aa5 ?_
   intro o9 c9 w9 Iq ZE _
   have zC:=tJ.trans ZE
   refine ng.keep (nT zC) ?_
   conv=>whnf
   obtain⟨l9,Ir⟩ : ∃m,m=l.take i++ [x]++l.drop i:=⟨_,rfl⟩
   have hll:i+1+(l.length-i)=l9.length:=ahO
   have hls:nD (l.take i)++ [Value.string x]++nD (l.drop i)=nD l9:=ahU
   rw [hls,hll]at Iq
   rw [hll]
   have hcap:=Own.cap Iq
   refine qM.mk ⟨o9,c9,l9,rfl,Iq.row,by omega,hcap.1,hcap.2,fun y=> ?_,zC⟩
   rw [Ir]
   simp only [bC,aW]
   constructor
   ·rintro((h|h)|h)
    ·exact .inl (bQ h)
    ·exact .inr h
    ·exact .inl (dM h)
   ·rintro(h|h)
    ·rw [<-cZ i l]at h
     rcases bC.1 h with h|h
     ·exact .inl (.inl h)
     ·exact .inr h
    ·exact .inl (.inr h)
def away (L:List ByteArray):List Lk->Nat
 | []=>0
 | k::l=>(bif hasB L k.a then 0 else 1)+(bif hasB L k.b then 0 else 1)+away L l
theorem adA {L M:List ByteArray}(h : ∀y,y∈L->y∈M)(l:List Lk):away M l<=away L l:=by
 induction l with
 | nil=>exact au _
 | cons k l ih=>
  have e : ∀z,(bif hasB M z then 0 else 1:Nat)<=(bif hasB L z then 0 else 1):=fun z=>by
   cases hL:hasB L z with
   | true=>rw [(oP M z).2 (h z ((oP L z).1 hL))];exact au _
   | false=>cases hasB M z<;>simp
  have:=e k.a
  have:=e k.b
  simp only [away]
  omega
theorem UQ {L M:List ByteArray}(h : ∀y,y∈L->y∈M){s:ByteArray}(hs:s∉L)(hm:s∈M) : ∀(l:List Lk),(∃k∈l,k.a=s∨k.b=s)->away M l<away L l:=by
 intro l
 induction l with
 | nil=>rintro⟨k,hk,_⟩;simp at hk
 | cons k l ih=>
  have e : ∀z,(bif hasB M z then 0 else 1:Nat)<=(bif hasB L z then 0 else 1):=fun z=>by
   cases hL:hasB L z with
   | true=>rw [(oP M z).2 (h z ((oP L z).1 hL))];exact au _
   | false=>cases hasB M z<;>simp
  have e1:(bif hasB M s then 0 else 1:Nat)<(bif hasB L s then 0 else 1):=by
   rw [(oP M s).2 hm,(uz L s).2 hs];decide
  have a1:=e k.a
  have a2:=e k.b
  have a3:=adA h l
  rintro⟨k',hk,hks⟩
  simp only [away]
  rcases bI.1 hk with rfl|hk
  ·rcases hks with hks|hks
   ·rw [hks]at a1 ⊢;omega
   ·rw [hks]at a2 ⊢;omega
  ·have:=ih ⟨k',hk,hks⟩
   omega
theorem SE (oa:Option Addr)(c:Nat)(ls:List Lk)(id:ByteArray)(w:World)(hr:Row w oa (recs lkc ls))(hmx:ls.length<=1000000) :
  zO Tryz.prog 177 #[.slice oa ls.length c, .string id] w fun v w'=> ∃pJ c' L,v = .slice pJ L.length c'∧Row w' pJ (nD L)∧L.length<=4000000∧(∀y,y∈L↔con ls id y)∧Below w.heap.size w w':=by
 refine ou func177 rfl mixed aag ?_
 have hab:away [id] ls<=2*ls.length:=by
  have : ∀(L:List ByteArray) (l:List Lk),away L l<=2*l.length:=fun L l=>by
   induction l with
   | nil=>exact au _
   | cons k l ih=>
    simp only [away,bn]
    have : ∀b:Bool,(bif b then 0 else 1:Nat)<=1:=fun b=>by cases b<;>decide
    have:=this (hasB L k.a)
    have:= ‹∀b:Bool,(bif b then 0 else 1:Nat)<=1› (hasB L k.b)
    omega
  exact this _ _
 refine su (X:=List ByteArray×Option Addr×Nat×Bool) TT (fun x=> [(5, .slice x.2.1 x.1.length x.2.2.1),(6, .bool x.2.2.2)]) (fun x w'=>Below w.heap.size w w'∧Row w' x.2.1 (nD x.1)∧x.1.length<=x.2.2.1∧(x.2.1=none->x.2.2.1=0)∧x.1.length+away x.1 ls<=1+2*ls.length∧id∈x.1∧(∀y,y∈x.1->con ls id y)∧(x.2.2.2=false->∀k∈ls,(k.a∈x.1↔k.b∈x.1))) (fun x=>2*away x.1 ls+(bif x.2.2.2 then 1 else 0)) ([id],some ⟨w.heap.size,0,none⟩,1,true) aag
  ?_ ⟨pW (Below.refl _ _) (au _) _,Row.alloc1 w [.string id] _,au _,(fun e=>by cases e),by simp only [bn,dP];omega,by simp,(fun y hy=>by simp at hy;subst hy;exact rfl),fun e=>by cases e⟩ ?_
 ·exact⟨rfl,rfl,trivial⟩
 rintro⟨L,oo,cc,ag⟩ w1 j ⟨hB1,hL1,hc1,hn1,hlen,hid,hcon,hcl⟩
 simp only at hL1 hc1 hn1 hlen hid hcon hcl ⊢
 conv=>whnf
 cases ag with
 | false=>
  conv=>whnf
  have ahb:=hcl rfl
  refine qM.mk ⟨oo,cc,L,rfl,hL1,by omega,fun y=>⟨hcon y,fun h=> ?_⟩,hB1⟩
  exact(Bf (fun z=>z∈L) _ ls rfl ahb id y h).1 hid
 | true=>
  refine su (X:=Nat×List ByteArray×Option Addr×Nat×Bool) TU (fun x=> [(7, .int .i64 x.1),(5, .slice x.2.2.1 x.2.1.length x.2.2.2.1),(6, .bool x.2.2.2.2)]) (fun x w'=>x.1<=ls.length∧Below w.heap.size w w'∧Row w' x.2.2.1 (nD x.2.1)∧x.2.1.length<=x.2.2.2.1∧(x.2.2.1=none->x.2.2.2.1=0)∧x.2.1.length+away x.2.1 ls<=1+2*ls.length∧id∈x.2.1∧(∀y,y∈x.2.1->con ls id y)∧
    (x.2.2.2.2=false->away x.2.1 ls<=away L ls∧∀k∈ls.take x.1,(k.a∈x.2.1↔k.b∈x.2.1))∧(x.2.2.2.2=true->away x.2.1 ls<away L ls)) (fun x=>ls.length-x.1) (0,L,oo,cc,false) aag
   ?_ ⟨aH _,hB1,hL1,hc1,hn1,hlen,hid,hcon,fun _=>⟨au _,fun k hk=>by simp at hk⟩,fun e=>by cases e⟩ ?_
  ·exact⟨rfl,rfl,rfl,trivial⟩
  clear hB1 hL1 hc1 hn1 hlen hid hcon hcl
  rintro⟨i,M,o2,c2,ag⟩ w2 j2 ⟨hi,hB2,hL2,hc2,hn2,hlen,hid,hcon,hcl,hag⟩
  simp only at hi hL2 hc2 hn2 hlen hid hcon hcl hag ⊢
  refine lH (fun hlt=> ?_) (fun hge=> ?_)
  ·have hlt:i<ls.length:=adU
   obtain⟨b,o,rfl,hbl,hA⟩:=hr.at (by rw [BL UO];omega)
   have hseg:=Gp UO ls i hlt
   have hA2:=hA.below hB2 hbl
   have hkm:ls[i]∈ls:=aV hlt
   have hlk:=OQ _ ls rfl ls[i] hkm
   have htk:=aG hlt
   obtain⟨k,hkk⟩ : ∃k,k=ls[i]:=⟨_,rfl⟩
   rw [<-hkk]at hseg hkm hlk htk
   (refine QJ abO aag ?_;conv=>whnf)
   have hAd:At w2.drew b o (recs lkc ls):=hA2
   have hbd:b<w2.drew.heap.size:=aP hbl hB2.size
   have hMl:M.length<=1099511627776:=aai
   (refine vS _ rfl rfl rfl hlt ?_;(conv=>whnf);refine nO.mk rfl ?_;(conv=>whnf);refine nO.mk (fun u hu=> ?_) ?_;(focus ((conv=>whnf);exact vS _ rfl rfl rfl hlt (nO.mk rfl rfl)));(conv=>whnf))
   (refine nO.mk (fun u _=> ?_) ?_;(focus (conv=>whnf));(conv=>whnf))
   (refine rG (j:=0) hAd hseg rfl rfl ?_;(conv=>whnf);refine nO.mk rfl ?_;(conv=>whnf);refine nO.mk (fun u hu=> ?_) ?_;(focus ((conv=>whnf);exact rG (j:=0) (At.below hAd hu hbd) hseg rfl rfl (nO.mk rfl rfl)));(conv=>whnf))
   (refine vS _ rfl rfl rfl hlt ?_;(conv=>whnf);refine nO.mk rfl ?_;(conv=>whnf);refine nO.mk (fun u hu=> ?_) ?_;(focus ((conv=>whnf);exact vS _ rfl rfl rfl hlt (nO.mk rfl rfl)));(conv=>whnf))
   (refine nO.mk (fun u _=> ?_) ?_;(focus (conv=>whnf));(conv=>whnf))
   (refine rG (j:=1) hAd hseg rfl rfl ?_;(conv=>whnf);refine nO.mk rfl ?_;(conv=>whnf);refine nO.mk (fun u hu=> ?_) ?_;(focus ((conv=>whnf);exact rG (j:=1) (At.below hAd hu hbd) hseg rfl rfl (nO.mk rfl rfl)));(conv=>whnf))
   refine qW aag (MJ o2 c2 M k.a w2.drew hL2 hMl) ?_
   rintro _ w3 ⟨rfl,rfl⟩
   refine ng.keep (Below.refl _ _) ?_
   refine qW aag (MJ o2 c2 M k.b w2.drew hL2 hMl) ?_
   rintro _ w3 ⟨rfl,rfl⟩
   refine ng.keep (Below.refl _ _) ?_
   conv=>whnf
   have hBd:Below w.heap.size w w2.drew:=xu hB2
   have fact : ∀(s:ByteArray) (M':List ByteArray),s∉M->(∀y,y∈M'↔y∈M∨y=s)->M'.length=M.length+1->(k.a=s∨k.b=s)->con ls id s->M'.length+away M' ls<=1+2*ls.length∧id∈M'∧(∀y,y∈M'->con ls id y)∧away M' ls<away L ls:=fun s M' hs hM hl hks hcs=>by
    have h1:=UQ (L:=M) (M:=M') (fun y hy=>(hM y).2 (.inl hy)) hs ((hM s).2 (.inr rfl)) ls ⟨k,hkm,hks⟩
    refine⟨by omega,(hM id).2 (.inl hid),fun y hy=> ?_, ?_⟩
    ·rcases(hM y).1 hy with h|h
     ·exact hcon y h
     ·rw [h];exact hcs
    ·cases ag with
     | true=>have:=hag rfl;omega
     | false=>have:=(hcl rfl).1;omega
   refine lH (fun hab=> ?_) (fun hab=> ?_)
   ·have hab:hasB M k.a=hasB M k.b:=by simpa using hab
    have ahc:k.a∈M↔k.b∈M:=by rw [<-oP, <-oP,hab]
    refine qV.mk ⟨_, ?_,(i+1,M,o2,c2,ag),rfl, ?_, ?_⟩
    ·show ls.length -(i+1)<ls.length-i;omega
    ·exact⟨rE (incr aai),rfl,rfl,trivial⟩
    ·refine⟨hlt,hBd,hL2,hc2,hn2,hlen,hid,hcon,fun e=>⟨(hcl e).1,fun k' hk'=> ?_⟩,hag⟩
     rw [htk]at hk'
     rcases bC.1 hk' with h|h
     ·exact(hcl e).2 k' h
     ·have:k'=k:=aaE
      rw [this];exact ahc
   ·have hab:hasB M k.a≠hasB M k.b:=by intro e;simp [e]at hab
    have hA3:=hAd
    conv=>whnf
    (repeat (first|(refine lW.mk aaR ?_;conv=>whnf)|(refine nO.mk rfl ?_;conv=>whnf)|(refine ng.keep rfl ?_;conv=>whnf)|(refine uQ _ rfl rfl rfl aaH ?_;conv=>whnf)|(refine vS _ rfl rfl rfl aaH ?_;conv=>whnf)|(refine uf _ rfl rfl rfl aaH ?_;conv=>whnf)|(refine rG aaP aaH rfl rfl ?_;conv=>whnf)|(refine tN aaP aaH rfl rfl ?_;conv=>whnf)|(refine vP aaP aaH rfl ?_;conv=>whnf)|(refine nH rfl aaP aaH ?_;conv=>whnf)))
    cases ha:hasB M k.a with
    | true=>
     have hb:hasB M k.b=false:=by cases hb:hasB M k.b with
      | false=>rfl
      | true=>exact absurd (ha.trans hb.symm) hab
     have hcs:con ls id k.b:=(hcon _ ((oP _ _).1 ha)).trans hlk
     conv=>whnf
     (repeat (first|(refine lW.mk aaR ?_;conv=>whnf)|(refine nO.mk rfl ?_;conv=>whnf)|(refine ng.keep rfl ?_;conv=>whnf)|(refine uQ _ rfl rfl rfl aaH ?_;conv=>whnf)|(refine vS _ rfl rfl rfl aaH ?_;conv=>whnf)|(refine uf _ rfl rfl rfl aaH ?_;conv=>whnf)|(refine rG aaP aaH rfl rfl ?_;conv=>whnf)|(refine tN aaP aaH rfl rfl ?_;conv=>whnf)|(refine vP aaP aaH rfl ?_;conv=>whnf)|(refine nH rfl aaP aaH ?_;conv=>whnf)))
     refine qW aag (JU o2 c2 M k.b w2.drew hL2 hc2 hn2 hMl) ?_
     rintro _ w4 ⟨o4,c4,M',rfl,hr4,hl4,hc4,hn4,hm4,hB4⟩
     obtain⟨f1,f2,f3,f4⟩:=fact k.b M' ((uz _ _).1 hb) hm4 hl4 (.inr rfl) hcs
     refine qV.mk ⟨_, ?_,(i+1,M',o4,c4,true),rfl, ?_, ?_⟩
     ·show ls.length -(i+1)<ls.length-i;omega
     ·exact⟨rE (incr aai),rfl,rfl,trivial⟩
     ·exact⟨hlt,hBd.trans (hB4.mono hBd.size),hr4,hc4,hn4,f1,f2,f3,(fun e=>by cases e),fun _=>f4⟩
    | false=>
     have hb:hasB M k.b=true:=by cases hb:hasB M k.b with
      | true=>rfl
      | false=>exact absurd (ha.trans hb.symm) hab
     have hcs:con ls id k.a:=(hcon _ ((oP _ _).1 hb)).trans hlk.symm
     refine qW aag (JU o2 c2 M k.a w2.drew hL2 hc2 hn2 hMl) ?_
     rintro _ w4 ⟨o4,c4,M',rfl,hr4,hl4,hc4,hn4,hm4,hB4⟩
     obtain⟨f1,f2,f3,f4⟩:=fact k.a M' ((uz _ _).1 ha) hm4 hl4 (.inl rfl) hcs
     refine qV.mk ⟨_, ?_,(i+1,M',o4,c4,true),rfl, ?_, ?_⟩
     ·show ls.length -(i+1)<ls.length-i;omega
     ·exact⟨rE (incr aai),rfl,rfl,trivial⟩
     ·exact⟨hlt,hBd.trans (hB4.mono hBd.size),hr4,hc4,hn4,f1,f2,f3,(fun e=>by cases e),fun _=>f4⟩
  ·have hge : ¬i<ls.length:=adB
   obtain rfl:i=ls.length:=aai
   rw [aZ]at hcl
   refine qV.mk ⟨_, ?_,(M,o2,c2,ag),rfl, ?_, ?_⟩
   ·cases ag with
    | true=>have:=hag rfl;simp only [cond_true];omega
    | false=>have:=(hcl rfl).1;simp only [cond_true,cond_false];omega
   ·exact⟨rfl,rfl,trivial⟩
   ·exact⟨hB2,hL2,hc2,hn2,hlen,hid,hcon,fun e=>(hcl e).2⟩
theorem ZF (oa:Option Addr)(c:Nat)(ls:List Lk)(x y:ByteArray)(w:World)(hr:Row w oa (recs lkc ls))(hmx:ls.length<=1000000) :
  zO Tryz.prog 98 #[.slice oa ls.length c, .string x, .string y] w fun v w'=>v = .bool (decide (rt ls x=rt ls y))∧Below w.heap.size w w':=by
 refine ou func98 rfl mixed aag ?_
 refine qW aag (SE oa c ls x w hr hmx) ?_
 rintro _ w1 ⟨o1,c1,L,rfl,hr1,hl1,hL,hB⟩
 refine qW aag (MJ o1 c1 L y w1 hr1 aai) ?_
 rintro _ w2 ⟨rfl,rfl⟩
 refine qM.mk ⟨?_,hB⟩
 show Value.bool _=_
 congr 1
 rw [jA,oP,hL y]
 simp [con]
end Go.Proofs.YtnandbihiceihaaGreatDoor.Id
namespace Go.Proofs.YtnandbihiceihaaGreatDoor.Cl
open Vc Ax Go.Proofs.YtnandbihiceihaaGreatDoor.Id Go.Proofs.Tryz
def lkE (e:Ev):Lk:=⟨ba e.id,ba e.other,e.time⟩
def oq (k:Int)(l:List Ev):List Ev:=l.filter fun e=>decide (e.kind=k)
def oM (l:List Ev):List Lk:=(oq 3 l).map lkE
structure Ex where
 id:By
 client:By
 seq:Int
 time:Int
 arm:Int
 ver:Int
def SG (x:Ex):List FV:= [sF x.id,sF x.client,iF x.seq,iF x.time,iF x.arm,iF x.ver]
abbrev JV (l:List Ex):AV:= .lst 6 (l.map SG)
def exE (e:Ev):Ex:=⟨e.id,e.client,e.seq,e.time,e.arm,e.ver⟩
def yQ (ls:List Lk)(t:Int)(id:By):ByteArray:=rt (wF t ls) (ba id)
def Iu (ls:List Lk)(t:Int)(id:By)(x:Ex):Bool:=decide (x.time<=t)&&decide (yQ ls t x.id=yQ ls t id)
def BF (ls:List Lk)(xs:List Ex)(id:By)(t:Int):Option Nat:=xs.findIdx? (Iu ls t id)
def Ar (ls:List Lk)(xs:List Ex)(id:By)(t:Int):Int:=match BF ls xs id t with|some i=>(i:Int)|none=> -1
theorem Iw {ls:List Lk}{xs:List Ex}{id:By}{t:Int}{i:Nat}(hi:i<xs.length)(h:Iu ls t id xs[i]=true)(hno : ∀j (h1:j<i),Iu ls t id (xs[j]'aai)=false):BF ls xs id t=some i:=by
 unfold BF
 rw [jH]
 exact⟨hi,h,fun j hj=>by simp [hno j hj]⟩
theorem Iy {ls:List Lk}{xs:List Ex}{id:By}{t:Int}(hno : ∀j (h1:j<xs.length),Iu ls t id xs[j]=false):BF ls xs id t=none:=by
 unfold BF
 rw [jY]
 intro x hx
 obtain⟨j,hj,rfl⟩:=jr hx
 exact hno j hj
theorem ML {ls:List Lk}{xs:List Ex}{id:By}{t:Int}{i:Nat}(h:BF ls xs id t=some i) : ∃hi:i<xs.length,Iu ls t id xs[i]=true:=by
 unfold BF at h
 rw [jH]at h
 exact⟨h.1,h.2.1⟩
def CZ (ls:List Lk)(name:By)(o:List Ex)(e:Ev):List Ex:=if e.name=name∧Ar ls o e.id e.time<0 then o++ [exE e]else o
def tY (ls:List Lk)(name:By)(l:List Ev):List Ex:=l.foldl (CZ ls name) []
theorem Ec (ls:List Lk)(name:By)(l:List Ev)(e:Ev):tY ls name (l++ [e])=CZ ls name (tY ls name l) e:=by unfold tY;rw [fJ];rfl
def uY (l:List Ev)(name:By):List Ex:=tY (oM l) name (oq 1 l)
theorem zD (ls:List Lk)(name:By)(l:List Ev):(tY ls name l).length<=l.length:=by
 have : ∀(l:List Ev) (o:List Ex),(l.foldl (CZ ls name) o).length<=o.length+l.length:=by
  intro l
  induction l with
  | nil=>intro o;simp
  | cons e r ih=>
   intro o
   rw [gJ]
   have h1:=ih (CZ ls name o e)
   have h2:(CZ ls name o e).length<=o.length+1:=by unfold CZ;split<;>simp
   simp only [bn]
   omega
 have:=this l []
 simpa [tY]using this
structure Mt where
 kind:Int
 name:By
 below:By
 window:Int
 cap:Int
 least:Int
 before:Int
def mtF (m:Mt):List FV:= [iF m.kind,sF m.name,sF m.below,iF m.window,iF m.cap,iF m.least,iF m.before]
def Jl (m:Mt):AV:= .agg ((mtF m).map FV.up)
def mtW (m:Mt)(e:Ev):Int:=if m.kind=1∨m.kind=4 then e.val else 1
def MN (m:Mt)(l:List Ev):Int:=l.foldl (fun a e=>if e.name=m.name∧m.least<=e.val then a+mtW m e else a) 0
def PG (m:Mt)(l:List Ev):Int:=l.foldl (fun a e=>if m.kind=4∧e.name=m.below then a+e.val else a) 0
def lim (m:Mt)(n:Int):Int:=max 0 (min n m.cap)
structure Sm where
 x:Ex
 value:Int
 below:Int
 before:Int
 mixed:Bool
def UR (s:Sm):List FV:=SG s.x++ [iF s.value,iF s.below,iF s.before, .v (.bool s.mixed)]
abbrev smL (l:List Sm):AV:= .lst 10 (l.map UR)
def uD (ls:List Lk)(xs:List Ex)(w:Int)(k:Nat)(x:Ex)(l:List Ev):List Ev:=l.filter fun e=>decide (BF ls xs e.id e.time=some k)&&decide (e.time<x.time+w)
def yT (ls:List Lk)(xs:List Ex)(name:By)(w:Int)(k:Nat)(x:Ex)(l:List Ev):Bool:=(uD ls xs w k x l).any fun e=>decide (e.name=name)&& !decide (e.arm=x.arm)
def xg (ls:List Lk)(b:Int)(x:Ex)(l:List Ev):List Ev:=l.filter fun e=>decide (x.time-b<=e.time)&&(decide (e.time<x.time)&&decide (yQ ls x.time e.id=yQ ls x.time x.id))
def V8 (l:List Ev)(name:By)(m:Mt)(k:Nat)(x:Ex):Sm:=
 let ls:=oM l
 let xs:=uY l name
 let ins:=uD ls xs m.window k x (oq 2 l)
 ⟨x,lim m (MN m ins),lim m (PG m ins),if m.before=0 then 0 else lim m (MN m (xg ls m.before x (oq 2 l))),yT ls xs name m.window k x (oq 1 l)⟩
def EX (l:List Ev)(name:By)(m:Mt)(mark:Int):List Sm:=((uY l name).zipIdx.filter fun p=>decide (p.1.time+m.window<=mark)).map fun p=>V8 l name m p.2 p.1
attribute [local irreducible] loadVar storeVar Instr.indexAt Instr.index Instr.sliceAt Instr.makeSlice Instr.lookup Instr.mapUpdate Instr.range Instr.next Instr.entry Instr.makeMap Builtin.append_ Builtin.copy_ Builtin.len_ Builtin.min_ Builtin.max_ Builtin.cap_ Builtin.delete_ Builtin.clear_ convert binOp eqGuard Op.unary Calls
section
open Go.RowKit
abbrev sv (s:ByteArray):AV:= .v (.string s)
def UU (k:Lk):List FV:= [.v (.string k.a), .v (.string k.b), .v (.int .i64 k.t)]
abbrev C9 (l:List Lk):AV:= .lst 3 (l.map UU)
def mF (F:ByteArray->Option ByteArray):oI:= .map fun k=>(F k).map Value.string
section
variable {G:Glob}
theorem Iz {F:ByteArray->Option ByteArray}{R:ByteArray->ByteArray}{d:ByteArray->Nat}(hf:Fo F R d)(id:ByteArray):mP Tryz.prog G 244 [.mp 0,sv id] 1 [(0,mF F)] (fun a n H=>a=sv (R id)∧n=1∧H = [(0,mF F)]):=by
 refine lJ func244 rfl mixed aag ?_
 refine mY ab7 1 [1] (fun c:ByteArray=> [(1,sv c)]) (fun _=> [(0,mF F)]) (fun c=>R c=R id) d [] [] id aag (fun _=>rfl) rfl rfl aam aam ?_
 intro c hc
 refine⟨?_⟩
 cases hF:F c with
 | none=>
  have e:R id=c:=by rw [<-hc];exact hf.top c hF
  simp only [hF,jS,iP,iC]
  exact nI (sv (R id)) 1 [(0,mF F)] [] [] ⟨rfl,rfl,rfl⟩ rfl aam ahW
 | some c'=>
  simp only [hF,bD,cO,iY]
  exact lK c' [] [] rfl (hf.step c c' hF).2 ((hf.step c c' hF).1.trans hc) aam aam
theorem ZG {F:ByteArray->Option ByteArray}{R:ByteArray->ByteArray}{d:ByteArray->Nat}(hf:Fo F R d)(x y:ByteArray):mP Tryz.prog G 242 [.mp 0,sv x,sv y] 1 [(0,mF F)] (fun a n H=> ∃F' d',a=bv (!decide (R x=R y))∧n=1∧H = [(0,mF F')]∧Fo F' (jn R x y) d'):=by
 refine lJ func242 rfl mixed aag ?_
 refine vw [0] [] aag (Iz hf x) rfl aam aam rfl ?_
 refine vw [0] [] aag (Iz hf y) rfl aam aam rfl ?_
 apply lH<;>intro h
 ·have h:R x=R y:=(pX _ _).1 h
  exact nI (bv false) 1 [(0,mF F)] [] [] ⟨F,d,by simp [h],rfl,rfl,by rw [OM h];exact hf⟩ rfl aam aam
 ·have h:R x≠R y:=fun e=>by rw [(pX _ _).2 e]at h;cases h
  refine nI (bv true) 1 [(0,mF fun k=>if k=uH (R x) (R y)then some (vH (R x) (R y))else F k)] [] [] ⟨_,_,by simp [h],rfl,rfl,hf.join h⟩ rfl ⟨?_,trivial⟩ aam
  show (fun k'=>if k'=uH (R x) (R y)then some (Value.string (vH (R x) (R y)))else(F k').map Value.string)=fun k=>(if k=uH (R x) (R y)then some (vH (R x) (R y))else F k).map Value.string
  funext k
  split<;>rfl
structure FX where
 i:Nat
 F:ByteArray->Option ByteArray
 d:ByteArray->Nat
theorem alC (ls:List Lk)(hl:ls.length<=1000000):mP Tryz.prog G 243 [C9 ls] 0 [] (fun a n H=> ∃F d,a = .mp 0∧n=1∧H = [(0,mF F)]∧Fo F (rt ls) d):=by
 refine lJ func243 rfl mixed aag ?_
 refine mY ab6 1 [9] (fun x:FX=> [(9,iv x.i)]) (fun x=> [(0,mF x.F)]) (fun x=>x.i<=ls.length∧Fo x.F (rt (ls.take x.i)) x.d) (fun x=>ls.length-x.i) [] [] ⟨0,fun _=>none,fun _=>0⟩ aag (fun _=>rfl) rfl ⟨aH _,Fo.nil⟩ aam aam ?_
 rintro⟨i,F,d⟩ ⟨hi,hf⟩
 change i<=ls.length at hi
 change Fo F (rt (ls.take i)) d at hf
 apply lH<;>intro h
 ·have hlt:i<ls.length:=aaG
  refine mJ.mk' i rfl (pF hlt) ?_
  refine mQ.lU (ah hlt) ?_
  refine mX [0] [] aag (ZG hf ls[i].a ls[i].b) rfl aam aam ?_
  rintro _ _ _ ⟨F',d',rfl,rfl,rfl,hf'⟩
  refine⟨rfl, ?_⟩
  refine lN.i64 aaI ?_
  exact lK ⟨i+1,F',d'⟩ [] [] rfl aej ⟨hlt,by show Fo F' (rt (ls.take (i+1))) d';rw [aG hlt,yJ];exact hf'⟩ aam aam
 ·have hie:i=ls.length:=aaG
  subst hie
  rw [aZ]at hf
  exact nI (.mp 0) 1 [(0,mF F)] [(0, .lab 0)] [] ⟨F,d,rfl,rfl,rfl,hf⟩ rfl aam aam
theorem adC (ls:List Lk)(hl:ls.length<=1000000):mP Tryz.prog G 163 [C9 ls] 0 [] (vZ 240 3 ((Ik ls).map UU)):=by
 refine lJ func163 rfl mixed aag ?_
 refine mY abG 2 [3,10] (fun x:FX=> [(3, .own 1),(10,iv x.i)]) (fun x=> [(1, .rows 240 3 ((Ik (ls.take x.i)).map UU)),(0,mF x.F)]) (fun x=>x.i<=ls.length∧Fo x.F (rt (ls.take x.i)) x.d) (fun x=>ls.length-x.i) [(1, .nil)] [] ⟨0,fun _=>none,fun _=>0⟩ aag (fun _=>rfl) rfl ⟨aH _,Fo.nil⟩ aam aam ?_
 rintro⟨i,F,d⟩ ⟨hi,hf⟩
 change i<=ls.length at hi
 change Fo F (rt (ls.take i)) d at hf
 have hfl:=UN (ls.take i)
 rw [aN]at hfl
 apply lH<;>intro h
 ·have hlt:i<ls.length:=aaG
  have hsn:ls.take (i+1)=ls.take i++ [ls[i]]:=aG hlt
  have hfs:=Il (ls.take i) ls[i]
  rw [<-hsn,SC]at hfs
  refine mJ.mk' i rfl (pF hlt) ?_
  refine mQ.lU (ah hlt) ?_
  refine mX [0] [] aag (ZG hf ls[i].a ls[i].b) rfl aam aam ?_
  rintro _ _ _ ⟨F',d',rfl,rfl,rfl,hf'⟩
  refine⟨rfl, ?_⟩
  have hf2:Fo F' (rt (ls.take (i+1))) d':=by rw [hsn,yJ];exact hf'
  apply lH<;>intro h
  ·rw [if_neg aaE]at hfs
   refine lW.mk (nG aaL aag) ?_
   refine lN.i64 aaI ?_
   refine lK ⟨i+1,F',d'⟩ [(1, .lab 4)] [] rfl aej ⟨hlt,hf2⟩ ⟨⟨rfl,rfl, ?_⟩,aam,trivial⟩ aam
   show _=(Ik (ls.take (i+1))).map UU
   rw [hfs,aS]
   rfl
  ·rw [if_pos aaE]at hfs
   refine lN.i64 aaI ?_
   refine lK ⟨i+1,F',d'⟩ [(1, .lab 1)] [] rfl aej ⟨hlt,hf2⟩ ⟨⟨rfl,rfl, ?_⟩,aam,trivial⟩ aam
   show _=(Ik (ls.take (i+1))).map UU
   rw [hfs]
 ·have hie:i=ls.length:=aaG
  subst hie
  rw [aZ]
  exact nI (.own 0) 1 _ [(0, .lab 1)] [] ⟨rfl,rfl,rfl⟩ rfl aam aam
end
end
end Go.Proofs.YtnandbihiceihaaGreatDoor.Cl
