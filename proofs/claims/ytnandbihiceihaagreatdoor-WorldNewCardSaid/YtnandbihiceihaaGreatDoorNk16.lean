/- Joined parts of the proof. World: concrete runs of the sanity check of the world's laws: the outbox -/
import Derived.Test.YtnandbihiceihaaGreatDoorNk15
import Derived.Test.YtnandbihiceihaaGreatDoorNk13
import Derived.Test.YtnandbihiceihaaGreatDoorNk14
import Derived.Test.YtnandbihiceihaaGreatDoorNk10
import Derived.Test.YtnandbihiceihaaGreatDoorNk12
import Derived.OpenShut
import Derived.Stop.Joined
set_option linter.unusedVariables false
set_option linter.unusedSimpArgs false
set_option maxRecDepth 100000
set_option maxHeartbeats 16000000
namespace Go.Proofs.YtnandbihiceihaaGreatDoor.Cl
open RowKit Vc Ax Ky Go.Proofs.Tryz
attribute [local irreducible] loadVar storeVar Instr.indexAt Instr.index Instr.sliceAt Instr.makeSlice Instr.lookup Instr.mapUpdate Instr.range Instr.next Instr.entry Instr.makeMap Builtin.append_ Builtin.copy_ Builtin.len_ Builtin.min_ Builtin.max_ Builtin.cap_ Builtin.delete_ Builtin.clear_ convert binOp eqGuard Op.unary Calls
section
attribute [local irreducible] xP qU PK
theorem ZE.hit {M:Int->Option FV}{k:Int}{z:Value}{K:AV->Bool->Prop}(x:FV)(h:M k=some x)(c:K x.val true):ZE M k z K:=⟨fun e=>(by rw [h]at e;cases e),fun y e=>by rw [h]at e;cases e;exact c⟩
theorem Ya.hit {M:ByteArray->Option (List FV)}{k:ByteArray}{z:Value}{K:AV->Bool->Prop}(r:List FV)(h:M k=some r)(c:K (.agg (r.map FV.up)) true):Ya M k z K:=⟨fun e=>(by rw [h]at e;cases e),fun y e=>by rw [h]at e;cases e;exact c⟩
def dOf:List (Nat×List Nat)->Nat->List Nat
 | [],_=> []
 | p::r,k=>bif Nat.beq p.1 k then p.2 else dOf r k
theorem BL {P:Program}{G:Glob}{id:Nat}{ops:Array Oper}{K:jM->Nat->jI->Prop}{ρ:jM}{n:Nat}{H:jI}(pl:Nat->Plan)(Ds:List (Nat×List Nat))(hp:rG ops (pl id)=true)(h:aD P G ops.toList (dOf Ds id) (pl id) ρ n H K):vG P G id ops K ρ n H:=kN pl (dOf Ds id) hp h
def c0:By:= [99,48]
abbrev hd0:FV:= .lst 10 []
abbrev hd1:FV:= .lst 10 [EY e0]
def er:Ev:=⟨[],0,1,0,[97,110,110],[98,108,117,101],[],0,1,0⟩
theorem XC:kQ Tryz.prog GS 58 [tv c0] 0 [] (Is (bv true)):=(Qh (i:=0) aah).1
theorem aaV:kQ Tryz.prog GS 121 [L9 (Jp c0 4 1 0 MG)] 0 [] (Is (bv true)):=by
 refine jJ func121 rfl mixed aac ?_
 conv=>whnf
 repeat' (first|exact jW [] aae|(refine jP aac (XC) ?_ ?_;(focus (trivial;done));rintro _ _ _ ⟨rfl,rfl,rfl⟩;(conv=>whnf))|(refine jP aac (rV) ?_ ?_;(focus (trivial;done));rintro _ _ _ ⟨rfl,rfl,rfl⟩;(conv=>whnf))|(rw [oh];conv=>whnf)|(rw [lU];conv=>whnf)|(refine kP.fr ?_;conv=>whnf)|(refine jS.mk aah ?_;conv=>whnf)|(refine mW 9 ?_;conv=>whnf)|(refine kF aac (jJ aaz rfl mixed aac ?_);conv=>whnf)|(refine lD aaz ?_;conv=>whnf)|(refine nG.mk ⟨_,rfl,by decide, ?_⟩;conv=>whnf)|(refine pO.mk ⟨_,_,rfl,rfl,by decide,by decide, ?_⟩;conv=>whnf)|(refine nH.mk ⟨_,rfl, ?_⟩;conv=>whnf)|(refine pW.mk ⟨_,_,rfl,rfl,by decide,by decide,by decide, ?_⟩;conv=>whnf)|(refine kM.mk fun b hb=> ?_;obtain rfl:=hb aah;conv=>whnf)|(refine kM.mk fun b hb=> ?_;cases b<;>(conv=>whnf))|(refine qY.mk aac rfl rfl ?_;conv=>whnf)|(refine kN Oi [] aaq ?_;conv=>whnf))
theorem Zr:kQ Tryz.prog GS 121 [L9 (Jp c0 4 2 0 hd1)] 0 [] (Is (bv true)):=by
 refine jJ func121 rfl mixed aac ?_
 conv=>whnf
 repeat' (first|(refine jP aac (XC) ?_ ?_;(focus (trivial;done));rintro _ _ _ ⟨rfl,rfl,rfl⟩;(conv=>whnf))|(refine kP.fr ?_;conv=>whnf)|(refine jS.mk aah ?_;conv=>whnf)|(refine mW 9 ?_;conv=>whnf)|(refine kF aac (jJ aaz rfl mixed aac ?_);conv=>whnf)|(refine lD aaz ?_;conv=>whnf)|(refine nG.mk ⟨_,rfl,by decide, ?_⟩;conv=>whnf)|(refine pO.mk ⟨_,_,rfl,rfl,by decide,by decide, ?_⟩;conv=>whnf)|(refine nH.mk ⟨_,rfl, ?_⟩;conv=>whnf)|(refine pW.mk ⟨_,_,rfl,rfl,by decide,by decide,by decide, ?_⟩;conv=>whnf)|(refine kM.mk fun b hb=> ?_;obtain rfl:=hb aah;conv=>whnf)|(refine kM.mk fun b hb=> ?_;cases b<;>(conv=>whnf))|(refine qY.mk aac rfl rfl ?_;conv=>whnf))
 refine kN (fun _=> .take 0 (.post 1 (pre [2,3,4,5,6,7,8] (pre [9,10,11,12,13,14,15,16,17,18,19,20,21,22,23,24,25,26,27,28,29,30,31,32] .done)))) [] aaq ?_
 refine JK [] aac rV aae ?_
 rintro _ _ _ ⟨rfl,rfl,rfl⟩
 refine Xd [2,3,4,5,6,7,8] ?_
 refine⟨?_⟩
 refine TN 53 rfl (fun h=> ?_) (fun h=> ?_)
 ·exfalso
  rw [lU]at h
  cases h
 conv=>whnf
 repeat' (first|exact jW [] aae|(refine kP.fr ?_;conv=>whnf)|(refine jS.mk aah ?_;conv=>whnf)|(refine mW 9 ?_;conv=>whnf)|(refine kF aac (jJ aaz rfl mixed aac ?_);conv=>whnf)|(refine lD aaz ?_;conv=>whnf)|(refine nG.mk ⟨_,rfl,by decide, ?_⟩;conv=>whnf)|(refine pO.mk ⟨_,_,rfl,rfl,by decide,by decide, ?_⟩;conv=>whnf)|(refine nH.mk ⟨_,rfl, ?_⟩;conv=>whnf)|(refine pW.mk ⟨_,_,rfl,rfl,by decide,by decide,by decide, ?_⟩;conv=>whnf)|(refine kM.mk fun b hb=> ?_;obtain rfl:=hb aah;conv=>whnf)|(refine kM.mk fun b hb=> ?_;cases b<;>(conv=>whnf))|(refine qY.mk aac rfl rfl ?_;conv=>whnf))
theorem aaW:kQ Tryz.prog GS 121 [L9 (Jp c0 4 2 0 hd0)] 0 [] (Is (bv true)):=by
 refine jJ func121 rfl mixed aac ?_
 conv=>whnf
 repeat' (first|exact jW [] aae|(refine jP aac (XC) ?_ ?_;(focus (trivial;done));rintro _ _ _ ⟨rfl,rfl,rfl⟩;(conv=>whnf))|(refine jP aac (rV) ?_ ?_;(focus (trivial;done));rintro _ _ _ ⟨rfl,rfl,rfl⟩;(conv=>whnf))|(rw [oh];conv=>whnf)|(rw [lU];conv=>whnf)|(refine kP.fr ?_;conv=>whnf)|(refine jS.mk aah ?_;conv=>whnf)|(refine mW 9 ?_;conv=>whnf)|(refine kF aac (jJ aaz rfl mixed aac ?_);conv=>whnf)|(refine lD aaz ?_;conv=>whnf)|(refine nG.mk ⟨_,rfl,by decide, ?_⟩;conv=>whnf)|(refine pO.mk ⟨_,_,rfl,rfl,by decide,by decide, ?_⟩;conv=>whnf)|(refine nH.mk ⟨_,rfl, ?_⟩;conv=>whnf)|(refine pW.mk ⟨_,_,rfl,rfl,by decide,by decide,by decide, ?_⟩;conv=>whnf)|(refine kM.mk fun b hb=> ?_;obtain rfl:=hb aah;conv=>whnf)|(refine kM.mk fun b hb=> ?_;cases b<;>(conv=>whnf))|(refine qY.mk aac rfl rfl ?_;conv=>whnf)|(refine kN Oi [] aaq ?_;conv=>whnf))
theorem aaX:kQ Tryz.prog GS 187 [L9 (Jp c0 4 1 0 MG),evA er] 0 [] (Is (.kZ [L9 (Jp c0 4 2 0 hd1),iv 1,iv 0])):=by
 refine jJ func187 rfl mixed aac ?_
 conv=>whnf
 repeat' (first|exact jW (List.range 40) aae|(refine jP aac (aaV) ?_ ?_;(focus (trivial;done));rintro _ _ _ ⟨rfl,rfl,rfl⟩;(conv=>whnf))|(refine jP aac (rV) ?_ ?_;(focus (trivial;done));rintro _ _ _ ⟨rfl,rfl,rfl⟩;(conv=>whnf))|(rw [oh];conv=>whnf)|(rw [lU];conv=>whnf)|(refine kP.fr ?_;conv=>whnf)|(refine jS.mk aah ?_;conv=>whnf)|(refine mW 9 ?_;conv=>whnf)|(refine kF aac (jJ aaz rfl mixed aac ?_);conv=>whnf)|(refine lD aaz ?_;conv=>whnf)|(refine nG.mk ⟨_,rfl,by decide, ?_⟩;conv=>whnf)|(refine pO.mk ⟨_,_,rfl,rfl,by decide,by decide, ?_⟩;conv=>whnf)|(refine nH.mk ⟨_,rfl, ?_⟩;conv=>whnf)|(refine pW.mk ⟨_,_,rfl,rfl,by decide,by decide,by decide, ?_⟩;conv=>whnf)|(refine kM.mk fun b hb=> ?_;obtain rfl:=hb aah;conv=>whnf)|(refine kM.mk fun b hb=> ?_;cases b<;>(conv=>whnf))|(refine qY.mk aac rfl rfl ?_;conv=>whnf)|(refine BL Wn [(5,[1]),(11,[2])] aaq ?_;conv=>whnf)|(refine BL Wx [(4,[7])] aaq ?_;conv=>whnf))
end
section
def Qs (k d:Int)(ls:List By):Int:=Dg.vg k (IntKind.u64.wrap (d+1)) (Dg.frame ls)
theorem aaY (G:Glob)(k d:Int)(ls:List By)(h1:ls.length<=1000)(h2:(Dg.frame ls).length<=140737488355328):kQ Tryz.prog G 126 [.v (.int .u64 k), .v (.int .u64 d),ss ls] 0 [] (Is (.v (.int .u64 (Qs k d ls)))):=by
 intro w σ F vs st r
 match vs,r with
 | [x,z,y],⟨rx,rz,ry,_⟩=>
  rw [rx.kR,rz.kR]
  cases ry with
  | lst hy=>
   obtain⟨oa,c,us,rfl,hr,hf⟩:=JX hy fun b hb=>(st.lI b hb).1
   refine(Dg.WC k d oa c us ls w aad h2 hr hf).mono fun v w' ⟨e,hB⟩=> ?_
   subst e
   have hE:Ext 0 σ F w 0 σ F w':=⟨ay _,fun _ _=>rfl,fun b hb=>⟨hb,hB.block b (st.lI b hb).1⟩,hB.size⟩
   exact⟨_,0,σ,F,[],⟨rfl,rfl,rfl⟩,⟨Glob.nN st.glob hB.size fun b hb=>hB.block b (aN hb st.glob.1),(uH.nY hB).mono fun _ _ h=>h.elim,fun b hb=>⟨aN (st.lI b hb).1 hB.size, .inl hb⟩,
    (fun jT b h=>by cases h),(fun jT b g h=>by cases h),(fun jT uY b b' g h=>by cases h),(fun jT b h=>by cases h)⟩,hE, .v _⟩
def MH:By:= [4,99,48,2,2,2,2,0,6,97,110,110,8,98,108,117,101,0,0,2,0]
def zM:Nat:=(Qs 1 100 [MH]).toNat
theorem Qi:Qs 1 100 [MH]=(zM:Int)∧zM<18446744073709551616:=by
 have h:=G9 1 (IntKind.u64.wrap (100+1)) (Dg.frame [MH])
 unfold zM Qs
 omega
attribute [local irreducible] xP qU zM Qs
theorem Vj:kQ Tryz.prog GS 126 [uv 1,uv 100,ss [MH]] 0 [] (Is (uv zM)):=by
 have h:=aaY GS 1 100 [MH] aah aaq
 rwa [Qi.1]at h
def by0:AV:= .agg [tv c0,iv 1,el [e0]]
theorem Zt (b:By)(h:b.length<=1000):kQ Tryz.prog GS 125 [bs b,uv zM] 0 [] (Is (bs (b++be 8 zM))):=kQ.EW (G6 GS b zM aad Qi.2)
theorem Zu:kQ Tryz.prog GS 53 [uv 1,by0] 0 [] (Is (.kZ [bs (MH++be 8 zM),iv 0])):=by
 have hP:=Zt MH aah
 generalize be 8 zM=X at *
 refine jJ func53 rfl mixed aac ?_
 conv=>whnf
 repeat' (first|exact jW (List.range 200) aae|(refine jP aac (Vj) ?_ ?_;(focus (trivial;done));rintro _ _ _ ⟨rfl,rfl,rfl⟩;(conv=>whnf))|(refine jP aac (hP) ?_ ?_;(focus (trivial;done));rintro _ _ _ ⟨rfl,rfl,rfl⟩;(conv=>whnf))|(refine jP aac (XC) ?_ ?_;(focus (trivial;done));rintro _ _ _ ⟨rfl,rfl,rfl⟩;(conv=>whnf))|(refine jP aac (rV) ?_ ?_;(focus (trivial;done));rintro _ _ _ ⟨rfl,rfl,rfl⟩;(conv=>whnf))|(rw [oh];conv=>whnf)|(rw [lU];conv=>whnf)|(refine kP.fr ?_;conv=>whnf)|(refine jS.mk aah ?_;conv=>whnf)|(refine mW 9 ?_;conv=>whnf)|(refine kF aac (jJ aaz rfl mixed aac ?_);conv=>whnf)|(refine lD aaz ?_;conv=>whnf)|(refine nG.mk ⟨_,rfl,by decide, ?_⟩;conv=>whnf)|(refine pO.mk ⟨_,_,rfl,rfl,by decide,by decide, ?_⟩;conv=>whnf)|(refine nH.mk ⟨_,rfl, ?_⟩;conv=>whnf)|(refine pW.mk ⟨_,_,rfl,rfl,by decide,by decide,by decide, ?_⟩;conv=>whnf)|(refine kM.mk fun b hb=> ?_;obtain rfl:=hb aah;conv=>whnf)|(refine kM.mk fun b hb=> ?_;cases b<;>(conv=>whnf))|(refine qY.mk aac rfl rfl ?_;conv=>whnf)|(refine kN Oj [] aaq ?_;conv=>whnf))
end
section
attribute [local irreducible] xP qU zM Qs be
theorem be8 (n:Nat) : ∃x0 x1 x2 x3 x4 x5 x6 x7,be 8 n = [x0,x1,x2,x3,x4,x5,x6,x7]:=by
 have h:(be 8 n).length=8:=pI 8 n
 match be 8 n,h with
 | [x0,x1,x2,x3,x4,x5,x6,x7],_=>exact⟨_,_,_,_,_,_,_,_,rfl⟩
theorem UJ:kQ Tryz.prog GS 196 [uv 1,bs (MH++be 8 zM)] 0 [] (Is (.kZ [by0,iv 0])):=by
 have hP:=Zt [] aah
 obtain⟨x0,x1,x2,x3,x4,x5,x6,x7,hx⟩:=be8 zM
 have hE:=PG GS (be 8 zM) ([]++be 8 zM)
 rw [decide_eq_true (show be 8 zM = []++be 8 zM from rfl)]at hE
 rw [hx]at hP hE ⊢
 refine jJ func196 rfl mixed aac ?_
 conv=>whnf
 have h1:((MH++ [x0,x1,x2,x3,x4,x5,x6,x7]).map pR).take 21=MH.map pR:=rfl
 have h2:((MH++ [x0,x1,x2,x3,x4,x5,x6,x7]).map pR).drop 21 = [x0,x1,x2,x3,x4,x5,x6,x7].map pR:=rfl
 repeat' (first|(refine kP.fr ?_;conv=>whnf)|(refine jS.mk aah ?_;conv=>whnf)|(refine mW 9 ?_;conv=>whnf)|(refine kF aac (jJ aaz rfl mixed aac ?_);conv=>whnf)|(refine lD aaz ?_;conv=>whnf)|(refine nG.mk ⟨_,rfl,by decide, ?_⟩;conv=>whnf)|(refine pO.mk ⟨_,_,rfl,rfl,by decide,by decide, ?_⟩;conv=>whnf)|(refine nH.mk ⟨_,rfl, ?_⟩;conv=>whnf)|(refine pW.mk ⟨_,_,rfl,rfl,by decide,by decide,by decide, ?_⟩;conv=>whnf)|(refine kM.mk fun b hb=> ?_;obtain rfl:=hb aah;conv=>whnf)|(refine kM.mk fun b hb=> ?_;cases b<;>(conv=>whnf))|(refine qY.mk aac rfl rfl ?_;conv=>whnf)|(refine kN Oo [] aaq ?_;conv=>whnf))
 refine pO.mk' 0 21 rfl rfl aah (ak rfl) ?_
 simp only [cut]
 rw [h1]
 conv=>whnf
 repeat' (first|(refine kP.fr ?_;conv=>whnf)|(refine jS.mk aah ?_;conv=>whnf)|(refine mW 9 ?_;conv=>whnf)|(refine kF aac (jJ aaz rfl mixed aac ?_);conv=>whnf)|(refine lD aaz ?_;conv=>whnf)|(refine nG.mk ⟨_,rfl,by decide, ?_⟩;conv=>whnf)|(refine pO.mk ⟨_,_,rfl,rfl,by decide,by decide, ?_⟩;conv=>whnf)|(refine nH.mk ⟨_,rfl, ?_⟩;conv=>whnf)|(refine pW.mk ⟨_,_,rfl,rfl,by decide,by decide,by decide, ?_⟩;conv=>whnf)|(refine kM.mk fun b hb=> ?_;obtain rfl:=hb aah;conv=>whnf)|(refine kM.mk fun b hb=> ?_;cases b<;>(conv=>whnf))|(refine qY.mk aac rfl rfl ?_;conv=>whnf))
 refine pO.mk' 21 29 rfl rfl aah (ak rfl) ?_
 simp only [cut]
 rw [h2]
 conv=>whnf
 repeat' (first|exact jW (List.range 200) aae|(refine jP aac (Vj) ?_ ?_;(focus (trivial;done));rintro _ _ _ ⟨rfl,rfl,rfl⟩;(conv=>whnf))|(refine jP aac (hP) ?_ ?_;(focus (trivial;done));rintro _ _ _ ⟨rfl,rfl,rfl⟩;(conv=>whnf))|(refine jP aac (hE) ?_ ?_;(focus (trivial;done));rintro _ _ _ ⟨rfl,rfl,rfl⟩;(conv=>whnf))|(refine jP aac (XC) ?_ ?_;(focus (trivial;done));rintro _ _ _ ⟨rfl,rfl,rfl⟩;(conv=>whnf))|(refine jP aac (rV) ?_ ?_;(focus (trivial;done));rintro _ _ _ ⟨rfl,rfl,rfl⟩;(conv=>whnf))|(rw [oh];conv=>whnf)|(rw [lU];conv=>whnf)|(refine Nl.mk ⟨c0,rfl, ?_⟩;conv=>whnf)|(refine Nl.mk ⟨[97,110,110],rfl, ?_⟩;conv=>whnf)|(refine Nl.mk ⟨[98,108,117,101],rfl, ?_⟩;conv=>whnf)|(refine Nl.mk ⟨[],rfl, ?_⟩;conv=>whnf)|(refine kP.fr ?_;conv=>whnf)|(refine jS.mk aah ?_;conv=>whnf)|(refine mW 9 ?_;conv=>whnf)|(refine kF aac (jJ aaz rfl mixed aac ?_);conv=>whnf)|(refine lD aaz ?_;conv=>whnf)|(refine nG.mk ⟨_,rfl,by decide, ?_⟩;conv=>whnf)|(refine pO.mk ⟨_,_,rfl,rfl,by decide,by decide, ?_⟩;conv=>whnf)|(refine nH.mk ⟨_,rfl, ?_⟩;conv=>whnf)|(refine pW.mk ⟨_,_,rfl,rfl,by decide,by decide,by decide, ?_⟩;conv=>whnf)|(refine kM.mk fun b hb=> ?_;obtain rfl:=hb aah;conv=>whnf)|(refine kM.mk fun b hb=> ?_;cases b<;>(conv=>whnf))|(refine qY.mk aac rfl rfl ?_;conv=>whnf)|(refine kN Oo [] aaq ?_;conv=>whnf)|(refine kN Oj [] aaq ?_;conv=>whnf))
end
section
attribute [local irreducible] xP qU zM Qs be
def coC (now high:Int)(seen held:AV)(acc:Int):List AV:= [iv 10,iv now,iv high,seen,held,iv acc,iv 0,iv 0,iv 0,iv 0,iv 0,iv 0]
abbrev XY (now high:Int)(seen held:AV)(acc:Int):AV:= .agg (coC now high seen held acc)
abbrev XZ:Int:=1099511627776
def Zv:AV:= .lst 3 [[sF c0,iF 1, .lst 1 [enI 1]]]
theorem aa1:kQ Tryz.prog GS 133 [XY 0 (-1) nl nl 0] 0 [] (Is (bv true)):=by
 refine jJ func133 rfl mixed aac ?_
 conv=>whnf
 repeat' (first|exact jW (List.range 40) aae|(refine jP aac (XC) ?_ ?_;(focus (trivial;done));rintro _ _ _ ⟨rfl,rfl,rfl⟩;(conv=>whnf))|(refine jP aac (rV) ?_ ?_;(focus (trivial;done));rintro _ _ _ ⟨rfl,rfl,rfl⟩;(conv=>whnf))|(rw [oh];conv=>whnf)|(rw [lU];conv=>whnf)|(refine Ya.hit _ rfl ?_;conv=>whnf)|(refine kP.fr ?_;conv=>whnf)|(refine jS.mk aah ?_;conv=>whnf)|(refine mW 9 ?_;conv=>whnf)|(refine kF aac (jJ aaz rfl mixed aac ?_);conv=>whnf)|(refine lD aaz ?_;conv=>whnf)|(refine nG.mk ⟨_,rfl,by decide, ?_⟩;conv=>whnf)|(refine pO.mk ⟨_,_,rfl,rfl,by decide,by decide, ?_⟩;conv=>whnf)|(refine nH.mk ⟨_,rfl, ?_⟩;conv=>whnf)|(refine pW.mk ⟨_,_,rfl,rfl,by decide,by decide,by decide, ?_⟩;conv=>whnf)|(refine kM.mk fun b hb=> ?_;obtain rfl:=hb aah;conv=>whnf)|(refine kM.mk fun b hb=> ?_;cases b<;>(conv=>whnf))|(refine qY.mk aac rfl rfl ?_;conv=>whnf)|(refine kN Om [] aaq ?_;conv=>whnf))
theorem aa2:kQ Tryz.prog GS 133 [XY XZ 0 Zv (el [e0]) 1] 0 [] (Is (bv true)):=by
 refine jJ func133 rfl mixed aac ?_
 conv=>whnf
 repeat' (first|exact jW (List.range 40) aae|(refine jP aac (XC) ?_ ?_;(focus (trivial;done));rintro _ _ _ ⟨rfl,rfl,rfl⟩;(conv=>whnf))|(refine jP aac (rV) ?_ ?_;(focus (trivial;done));rintro _ _ _ ⟨rfl,rfl,rfl⟩;(conv=>whnf))|(rw [oh];conv=>whnf)|(rw [lU];conv=>whnf)|(refine Ya.hit _ rfl ?_;conv=>whnf)|(refine kP.fr ?_;conv=>whnf)|(refine jS.mk aah ?_;conv=>whnf)|(refine mW 9 ?_;conv=>whnf)|(refine kF aac (jJ aaz rfl mixed aac ?_);conv=>whnf)|(refine lD aaz ?_;conv=>whnf)|(refine nG.mk ⟨_,rfl,by decide, ?_⟩;conv=>whnf)|(refine pO.mk ⟨_,_,rfl,rfl,by decide,by decide, ?_⟩;conv=>whnf)|(refine nH.mk ⟨_,rfl, ?_⟩;conv=>whnf)|(refine pW.mk ⟨_,_,rfl,rfl,by decide,by decide,by decide, ?_⟩;conv=>whnf)|(refine kM.mk fun b hb=> ?_;obtain rfl:=hb aah;conv=>whnf)|(refine kM.mk fun b hb=> ?_;cases b<;>(conv=>whnf))|(refine qY.mk aac rfl rfl ?_;conv=>whnf)|(refine kN Om [] aaq ?_;conv=>whnf))
theorem Zw:kQ Tryz.prog GS 127 [XY 0 (-1) nl nl 0,uv 1,bs (MH++be 8 zM),iv XZ] 0 [] (Is (.kZ [XY XZ 0 Zv (el [e0]) 1,li [1],iv 0])):=by
 have hU:=UJ
 generalize be 8 zM=X at *
 refine jJ func127 rfl mixed aac ?_
 conv=>whnf
 repeat' (first|exact jW (List.range 200) aae|(refine jP aac (aa1) ?_ ?_;(focus (trivial;done));rintro _ _ _ ⟨rfl,rfl,rfl⟩;(conv=>whnf))|(refine jP aac (hU) ?_ ?_;(focus (trivial;done));rintro _ _ _ ⟨rfl,rfl,rfl⟩;(conv=>whnf))|(rw [oh];conv=>whnf)|(rw [lU];conv=>whnf)|(refine kP.fr ?_;conv=>whnf)|(refine jS.mk aah ?_;conv=>whnf)|(refine mW 9 ?_;conv=>whnf)|(refine kF aac (jJ aaz rfl mixed aac ?_);conv=>whnf)|(refine lD aaz ?_;conv=>whnf)|(refine nG.mk ⟨_,rfl,by decide, ?_⟩;conv=>whnf)|(refine pO.mk ⟨_,_,rfl,rfl,by decide,by decide, ?_⟩;conv=>whnf)|(refine nH.mk ⟨_,rfl, ?_⟩;conv=>whnf)|(refine pW.mk ⟨_,_,rfl,rfl,by decide,by decide,by decide, ?_⟩;conv=>whnf)|(refine kM.mk fun b hb=> ?_;obtain rfl:=hb aah;conv=>whnf)|(refine kM.mk fun b hb=> ?_;cases b<;>(conv=>whnf))|(refine qY.mk aac rfl rfl ?_;conv=>whnf)|(refine kN V7 [] aaq ?_;conv=>whnf)|(refine kN Ol [] aaq ?_;conv=>whnf)|(refine kN Wy [] aaq ?_;conv=>whnf)|(refine BL Wp [(6,[14])] aaq ?_;conv=>whnf))
end
section
attribute [local irreducible] xP qU zM Qs be
theorem XD:kQ Tryz.prog GS 52 [L9 (Jp c0 4 2 0 hd1),iv 32] 0 [] (Is (.kZ [by0,bv true])):=by
 refine jJ func52 rfl mixed aac ?_
 conv=>whnf
 repeat' (first|exact jW (List.range 40) aae|(refine jP aac (Zr) ?_ ?_;(focus (trivial;done));rintro _ _ _ ⟨rfl,rfl,rfl⟩;(conv=>whnf))|(rw [oh];conv=>whnf)|(rw [lU];conv=>whnf)|(refine kP.fr ?_;conv=>whnf)|(refine jS.mk aah ?_;conv=>whnf)|(refine mW 9 ?_;conv=>whnf)|(refine kF aac (jJ aaz rfl mixed aac ?_);conv=>whnf)|(refine lD aaz ?_;conv=>whnf)|(refine nG.mk ⟨_,rfl,by decide, ?_⟩;conv=>whnf)|(refine pO.mk ⟨_,_,rfl,rfl,by decide,by decide, ?_⟩;conv=>whnf)|(refine nH.mk ⟨_,rfl, ?_⟩;conv=>whnf)|(refine pW.mk ⟨_,_,rfl,rfl,by decide,by decide,by decide, ?_⟩;conv=>whnf)|(refine kM.mk fun b hb=> ?_;obtain rfl:=hb aah;conv=>whnf)|(refine kM.mk fun b hb=> ?_;cases b<;>(conv=>whnf))|(refine qY.mk aac rfl rfl ?_;conv=>whnf)|(refine kN U3 [] aaq ?_;conv=>whnf))
theorem XE:kQ Tryz.prog GS 52 [L9 (Jp c0 4 2 0 hd0),iv 32] 0 [] (Is (.kZ [.agg [tv [],iv 0,nl],bv false])):=by
 refine jJ func52 rfl mixed aac ?_
 conv=>whnf
 repeat' (first|exact jW (List.range 40) aae|(refine jP aac (aaW) ?_ ?_;(focus (trivial;done));rintro _ _ _ ⟨rfl,rfl,rfl⟩;(conv=>whnf))|(rw [oh];conv=>whnf)|(rw [lU];conv=>whnf)|(refine kP.fr ?_;conv=>whnf)|(refine jS.mk aah ?_;conv=>whnf)|(refine mW 9 ?_;conv=>whnf)|(refine kF aac (jJ aaz rfl mixed aac ?_);conv=>whnf)|(refine lD aaz ?_;conv=>whnf)|(refine nG.mk ⟨_,rfl,by decide, ?_⟩;conv=>whnf)|(refine pO.mk ⟨_,_,rfl,rfl,by decide,by decide, ?_⟩;conv=>whnf)|(refine nH.mk ⟨_,rfl, ?_⟩;conv=>whnf)|(refine pW.mk ⟨_,_,rfl,rfl,by decide,by decide,by decide, ?_⟩;conv=>whnf)|(refine kM.mk fun b hb=> ?_;obtain rfl:=hb aah;conv=>whnf)|(refine kM.mk fun b hb=> ?_;cases b<;>(conv=>whnf))|(refine qY.mk aac rfl rfl ?_;conv=>whnf)|(refine kN U3 [] aaq ?_;conv=>whnf))
theorem aa3:kQ Tryz.prog GS 55 [L9 (Jp c0 4 2 0 hd1),li [1]] 0 [] (Is (.kZ [L9 (Jp c0 4 2 0 hd0),iv 1])):=by
 refine jJ func55 rfl mixed aac ?_
 conv=>whnf
 repeat' (first|exact jW (List.range 40) aae|(refine jP aac (Zr) ?_ ?_;(focus (trivial;done));rintro _ _ _ ⟨rfl,rfl,rfl⟩;(conv=>whnf))|(rw [oh];conv=>whnf)|(rw [lU];conv=>whnf)|(refine kP.fr ?_;conv=>whnf)|(refine jS.mk aah ?_;conv=>whnf)|(refine mW 9 ?_;conv=>whnf)|(refine kF aac (jJ aaz rfl mixed aac ?_);conv=>whnf)|(refine lD aaz ?_;conv=>whnf)|(refine nG.mk ⟨_,rfl,by decide, ?_⟩;conv=>whnf)|(refine pO.mk ⟨_,_,rfl,rfl,by decide,by decide, ?_⟩;conv=>whnf)|(refine nH.mk ⟨_,rfl, ?_⟩;conv=>whnf)|(refine pW.mk ⟨_,_,rfl,rfl,by decide,by decide,by decide, ?_⟩;conv=>whnf)|(refine kM.mk fun b hb=> ?_;obtain rfl:=hb aah;conv=>whnf)|(refine kM.mk fun b hb=> ?_;cases b<;>(conv=>whnf))|(refine qY.mk aac rfl rfl ?_;conv=>whnf)|(refine BL Yy [(5,[2])] aaq ?_;conv=>whnf))
theorem XF:kQ Tryz.prog GS 56 [XY XZ 0 Zv (el [e0]) 1] 0 [] (Is (.kZ [XY XZ 11 Zv nl 1,el [e0]])):=by
 refine jJ func56 rfl mixed aac ?_
 conv=>whnf
 repeat' (first|exact jW (List.range 40) aae|(refine jP aac (aa2) ?_ ?_;(focus (trivial;done));rintro _ _ _ ⟨rfl,rfl,rfl⟩;(conv=>whnf))|(rw [oh];conv=>whnf)|(rw [lU];conv=>whnf)|(refine kP.fr ?_;conv=>whnf)|(refine jS.mk aah ?_;conv=>whnf)|(refine mW 9 ?_;conv=>whnf)|(refine kF aac (jJ aaz rfl mixed aac ?_);conv=>whnf)|(refine lD aaz ?_;conv=>whnf)|(refine nG.mk ⟨_,rfl,by decide, ?_⟩;conv=>whnf)|(refine pO.mk ⟨_,_,rfl,rfl,by decide,by decide, ?_⟩;conv=>whnf)|(refine nH.mk ⟨_,rfl, ?_⟩;conv=>whnf)|(refine pW.mk ⟨_,_,rfl,rfl,by decide,by decide,by decide, ?_⟩;conv=>whnf)|(refine kM.mk fun b hb=> ?_;obtain rfl:=hb aah;conv=>whnf)|(refine kM.mk fun b hb=> ?_;cases b<;>(conv=>whnf))|(refine qY.mk aac rfl rfl ?_;conv=>whnf)|(refine kN Ol [] aaq ?_;conv=>whnf)|(refine kN Yz [] aaq ?_;conv=>whnf))
end
section
attribute [local irreducible] xP qU zM Qs be
def wW (now:Int)(obs pk:AV)(co:List AV)(rel:AV)(st:List AV):AV:= .agg ([uv 1,iv now,obs,pk]++(co++([rel]++(st++ [bv false,iv 0,nl]))))
def wS (obs:AV)(d:Dk):AV:=wW 0 obs nl (coC 0 (-1) nl nl 0) nl (Zk d++ [iv 1,iv 0,iv 1,iv 1,el []])
abbrev Qu (next:Int)(held:FV):List (List FV):= [Jp c0 4 next 0 held]
def CpW (next:Int)(held:FV)(d:Dk)(a:AV)(n:Nat)(H:jI):Prop:=a=wS (.own 0) d∧n=1∧H = [(0, .rows 68 5 (Qu next held))]
def Zx:Plan:=
 let r:Plan:= .take 12 (.take 13 (.one 14 (.take 15 (.take 16 (.one 17 .done)))))
 .take 0 (tk [1,2,3,4,7,8,9] (.two 5 (.two 6 (.one 10 (.one 11 r)) 10 (.one 6 (.one 11 r))) 10 (.one 5 (.one 6 (.one 11 r)))))
theorem Zy (d:Dk)(hd:d.ok):kQ Tryz.prog GS 50 [wS (.lst 5 (Qu 1 MG)) d] 0 [] (CpW 1 MG d):=by
 have hi:=hd.hi
 have hN:=uU GS d.now hd.n64 aad
 have hS:=uU GS d.safe hd.f64 (by have:=hd.sf;omega)
 refine jJ func50 rfl mixed aac ?_
 conv=>whnf
 repeat' (first|exact sD (wS (.own 0) d) 1 [(0, .rows 68 5 (Qu 1 MG))] [(0, .lab 3)] (List.range' 4 60) ⟨rfl,rfl,rfl⟩ rfl aae aae|(refine jP aac (hN) ?_ ?_;(focus (trivial;done));rintro _ _ _ ⟨rfl,rfl,rfl⟩;(conv=>whnf))|(refine jP aac (hS) ?_ ?_;(focus (trivial;done));rintro _ _ _ ⟨rfl,rfl,rfl⟩;(conv=>whnf))|(refine And.intro ?_ ?_<;>(conv=>whnf))|(refine kP.fr ?_;conv=>whnf)|(refine jS.mk aah ?_;conv=>whnf)|(refine mW 9 ?_;conv=>whnf)|(refine kF aac (jJ aaz rfl mixed aac ?_);conv=>whnf)|(refine lD aaz ?_;conv=>whnf)|(refine nG.mk ⟨_,rfl,by decide, ?_⟩;conv=>whnf)|(refine pO.mk ⟨_,_,rfl,rfl,by decide,by decide, ?_⟩;conv=>whnf)|(refine nH.mk ⟨_,rfl, ?_⟩;conv=>whnf)|(refine pW.mk ⟨_,_,rfl,rfl,by decide,by decide,by decide, ?_⟩;conv=>whnf)|(refine kM.mk fun b hb=> ?_;obtain rfl:=hb (ak rfl);conv=>whnf)|(refine kM.mk fun b hb=> ?_;cases b<;>(conv=>whnf))|(refine qY.mk aac rfl rfl ?_;conv=>whnf)|(refine kN (fun _=>Zx) [0] aaq ?_;conv=>whnf)|(refine kN U2 [] aaq ?_;conv=>whnf))
theorem Zz (d:Dk)(hd:d.ok):kQ Tryz.prog GS 50 [wS (.lst 5 (Qu 2 hd1)) d] 0 [] (CpW 2 hd1 d):=by
 have hi:=hd.hi
 have hN:=uU GS d.now hd.n64 aad
 have hS:=uU GS d.safe hd.f64 (by have:=hd.sf;omega)
 refine jJ func50 rfl mixed aac ?_
 conv=>whnf
 repeat' (first|exact sD (wS (.own 0) d) 1 [(0, .rows 68 5 (Qu 2 hd1))] [(0, .lab 3)] (List.range' 4 60) ⟨rfl,rfl,rfl⟩ rfl aae aae|(refine jP aac (hN) ?_ ?_;(focus (trivial;done));rintro _ _ _ ⟨rfl,rfl,rfl⟩;(conv=>whnf))|(refine jP aac (hS) ?_ ?_;(focus (trivial;done));rintro _ _ _ ⟨rfl,rfl,rfl⟩;(conv=>whnf))|(refine And.intro ?_ ?_<;>(conv=>whnf))|(refine kP.fr ?_;conv=>whnf)|(refine jS.mk aah ?_;conv=>whnf)|(refine mW 9 ?_;conv=>whnf)|(refine kF aac (jJ aaz rfl mixed aac ?_);conv=>whnf)|(refine lD aaz ?_;conv=>whnf)|(refine nG.mk ⟨_,rfl,by decide, ?_⟩;conv=>whnf)|(refine pO.mk ⟨_,_,rfl,rfl,by decide,by decide, ?_⟩;conv=>whnf)|(refine nH.mk ⟨_,rfl, ?_⟩;conv=>whnf)|(refine pW.mk ⟨_,_,rfl,rfl,by decide,by decide,by decide, ?_⟩;conv=>whnf)|(refine kM.mk fun b hb=> ?_;obtain rfl:=hb (ak rfl);conv=>whnf)|(refine kM.mk fun b hb=> ?_;cases b<;>(conv=>whnf))|(refine qY.mk aac rfl rfl ?_;conv=>whnf)|(refine kN (fun _=>Zx) [0] aaq ?_;conv=>whnf)|(refine kN U2 [] aaq ?_;conv=>whnf))
end
section
attribute [local irreducible] xP qU zM Qs be
def aa4:AV:= .agg ([iv 1,iv 0,iv 0]++((EY er).map FV.up++ [nl]))
theorem ZA (d:Dk)(hd:d.ok):kQ Tryz.prog GS 15 [wS (.lst 5 (Qu 1 MG)) d,aa4] 0 [] (Is (.kZ [wS (.lst 5 (Qu 2 hd1)) d,bv true])):=by
 have hC:=Zy d hd
 refine jJ func15 rfl mixed aac ?_
 conv=>whnf
 repeat' (first|exact jW (List.range 100) aae|(refine jP aac (hC) ?_ ?_;(focus (trivial;done));rintro _ _ _ ⟨rfl,rfl,rfl⟩;(conv=>whnf))|(refine jP aac (aaX) ?_ ?_;(focus (trivial;done));rintro _ _ _ ⟨rfl,rfl,rfl⟩;(conv=>whnf))|(refine ZE.hit _ rfl ?_;conv=>whnf)|(refine And.intro ?_ ?_<;>(conv=>whnf))|(refine kP.fr ?_;conv=>whnf)|(refine jS.mk aah ?_;conv=>whnf)|(refine mW 9 ?_;conv=>whnf)|(refine kF aac (jJ aaz rfl mixed aac ?_);conv=>whnf)|(refine lD aaz ?_;conv=>whnf)|(refine nG.mk ⟨_,rfl,by decide, ?_⟩;conv=>whnf)|(refine pO.mk ⟨_,_,rfl,rfl,by decide,by decide, ?_⟩;conv=>whnf)|(refine nH.mk ⟨_,rfl, ?_⟩;conv=>whnf)|(refine pW.mk ⟨_,_,rfl,rfl,by decide,by decide,by decide, ?_⟩;conv=>whnf)|(refine kM.mk fun b hb=> ?_;obtain rfl:=hb (ak rfl);conv=>whnf)|(refine kM.mk fun b hb=> ?_;cases b<;>(conv=>whnf))|(refine qY.mk aac rfl rfl ?_;conv=>whnf)|(refine kN Yu [] aaq ?_;conv=>whnf)|(refine BL V6 [(5,[])] aaq ?_;conv=>whnf))
def wE (d:Dk):AV:=wW 0 (.lst 5 (Qu 2 hd0)) nl (coC XZ 11 Zv nl 1) nl (Vf (ZR d))
theorem UK (d:Dk)(hd:d.ok)(hl:d.now.length=32)(hdd:d.dead=false)(hf:d.fuse<0):kQ Tryz.prog GS 16 [wS (.lst 5 (Qu 2 hd1)) d] 0 [] (Is (wE d)):=by
 have hC:=Zz d hd
 have hP:=Zu
 have hR:=Zw
 have hA:=Qg d hd hl hdd hf
 generalize be 8 zM=X at *
 unfold wE
 generalize ZR d=s1 at *
 refine jJ func16 rfl mixed aac ?_
 conv=>whnf
 repeat' (first|exact jW (List.range 200) aae|(refine jP aac (hC) ?_ ?_;(focus (trivial;done));rintro _ _ _ ⟨rfl,rfl,rfl⟩;(conv=>whnf))|(refine jP aac (XD) ?_ ?_;(focus (trivial;done));rintro _ _ _ ⟨rfl,rfl,rfl⟩;(conv=>whnf))|(refine jP aac (XE) ?_ ?_;(focus (trivial;done));rintro _ _ _ ⟨rfl,rfl,rfl⟩;(conv=>whnf))|(refine jP aac (hP) ?_ ?_;(focus (trivial;done));rintro _ _ _ ⟨rfl,rfl,rfl⟩;(conv=>whnf))|(refine jP aac (hR) ?_ ?_;(focus (trivial;done));rintro _ _ _ ⟨rfl,rfl,rfl⟩;(conv=>whnf))|(refine jP aac (aa3) ?_ ?_;(focus (trivial;done));rintro _ _ _ ⟨rfl,rfl,rfl⟩;(conv=>whnf))|(refine jP aac (XF) ?_ ?_;(focus (trivial;done));rintro _ _ _ ⟨rfl,rfl,rfl⟩;(conv=>whnf))|(refine jP aac (hA) ?_ ?_;(focus (trivial;done));rintro _ _ _ ⟨rfl,rfl,rfl⟩;(conv=>whnf))|(refine And.intro ?_ ?_<;>(conv=>whnf))|(refine kP.fr ?_;conv=>whnf)|(refine jS.mk aah ?_;conv=>whnf)|(refine mW 9 ?_;conv=>whnf)|(refine kF aac (jJ aaz rfl mixed aac ?_);conv=>whnf)|(refine lD aaz ?_;conv=>whnf)|(refine nG.mk ⟨_,rfl,by decide, ?_⟩;conv=>whnf)|(refine pO.mk ⟨_,_,rfl,rfl,by decide,by decide, ?_⟩;conv=>whnf)|(refine nH.mk ⟨_,rfl, ?_⟩;conv=>whnf)|(refine pW.mk ⟨_,_,rfl,rfl,by decide,by decide,by decide, ?_⟩;conv=>whnf)|(refine kM.mk fun b hb=> ?_;obtain rfl:=hb (ak rfl);conv=>whnf)|(refine kM.mk fun b hb=> ?_;cases b<;>(conv=>whnf))|(refine qY.mk aac rfl rfl ?_;conv=>whnf)|(refine kN Yx [] aaq ?_;conv=>whnf)|(refine kN Yv [] aaq ?_;conv=>whnf)|(refine kN YA [] aaq ?_;conv=>whnf))
def dk1:Dk:=(sG (dk0 32) 0 sc0).1
theorem XG:dk1.ok∧dk1.now.length=32∧dk1.dead=false∧dk1.fuse<0:=by
 have h:=PV (l:=sc0) (d:=dk0 32) (at_:=0) (yK aah aah aah) BH.2.2
 have h2:=Hu (l:=sc0) (d:=dk0 32) (at_:=0) rfl aah
 exact⟨h.1,h.2.1.trans (bF ..),h2.2⟩
theorem aa5:kQ Tryz.prog GS 6 [uv 1,iv 1,iv 4,iv 10,iv 32] 0 [] (Is (.kZ [wS (.lst 5 (Qu 1 MG)) dk1,iv 0])):=by
 have h:=KA 1 1 4 10 32
 unfold BJ at h
 rw [if_pos aah]at h
 exact h
theorem UL:kQ Tryz.prog GS 5 [] 0 [] (Is (bv true)):=by
 have hN:=aa5
 obtain⟨h1,h2,h3,h4⟩:=XG
 generalize dk1=d at *
 have hP:=ZA d h1
 have hS:=UK d h1 h2 h3 h4
 refine jJ func5 rfl mixed aac ?_
 conv=>whnf
 repeat' (first|exact jW (List.range 40) aae|(refine jP aac (hN) ?_ ?_;(focus (trivial;done));rintro _ _ _ ⟨rfl,rfl,rfl⟩;(conv=>whnf))|(refine jP aac (hP) ?_ ?_;(focus (trivial;done));rintro _ _ _ ⟨rfl,rfl,rfl⟩;(conv=>whnf))|(refine jP aac (hS) ?_ ?_;(focus (trivial;done));rintro _ _ _ ⟨rfl,rfl,rfl⟩;(conv=>whnf))|(refine kP.fr ?_;conv=>whnf)|(refine jS.mk aah ?_;conv=>whnf)|(refine mW 9 ?_;conv=>whnf)|(refine kF aac (jJ aaz rfl mixed aac ?_);conv=>whnf)|(refine lD aaz ?_;conv=>whnf)|(refine nG.mk ⟨_,rfl,by decide, ?_⟩;conv=>whnf)|(refine pO.mk ⟨_,_,rfl,rfl,by decide,by decide, ?_⟩;conv=>whnf)|(refine nH.mk ⟨_,rfl, ?_⟩;conv=>whnf)|(refine pW.mk ⟨_,_,rfl,rfl,by decide,by decide,by decide, ?_⟩;conv=>whnf)|(refine kM.mk fun b hb=> ?_;obtain rfl:=hb (ak rfl);conv=>whnf)|(refine kM.mk fun b hb=> ?_;cases b<;>(conv=>whnf))|(refine qY.mk aac rfl rfl ?_;conv=>whnf))
end
section
attribute [local irreducible] cN Dx hsh
theorem Qj (n:Int)(hn:CB n=false):kQ Tryz.prog GS 25 [iv n] 0 [] (Is (.kZ [.agg [nl,nl,iv 0,iv 0,bv false],iv 3])):=by
 have ht:0<=n->n.tmod 2=n%2:=jc
 have hn:=of_decide_eq_false hn
 refine jJ func25 rfl mixed aac ?_
 apply jH<;>intro h
 ·exact jW [] aae
 apply jH<;>intro h2
 ·exact jW [] aae
 refine jS.mk aah ?_
 apply jH<;>intro h3
 ·exact jW [] aae
 ·exfalso
  simp at h h2 h3
  have:=ht aad
  omega
theorem Qk:kQ Tryz.prog GS 239 [bs z64] 0 [] (Is (.kZ [iv 0,bv false])):=by
 refine jJ func239 rfl mixed aac ?_
 conv=>whnf
 repeat' (first|exact jW [] aae|(refine kP.fr ?_;conv=>whnf)|(refine jS.mk aah ?_;conv=>whnf)|(refine mW 9 ?_;conv=>whnf)|(refine kF aac (jJ aaz rfl mixed aac ?_);conv=>whnf)|(refine lD aaz ?_;conv=>whnf)|(refine nG.mk ⟨_,rfl,by decide, ?_⟩;conv=>whnf)|(refine pO.mk ⟨_,_,rfl,rfl,by decide,by decide, ?_⟩;conv=>whnf)|(refine nH.mk ⟨_,rfl, ?_⟩;conv=>whnf)|(refine pW.mk ⟨_,_,rfl,rfl,by decide,by decide,by decide, ?_⟩;conv=>whnf)|(refine kM.mk fun b hb=> ?_;obtain rfl:=hb aah;conv=>whnf)|(refine kM.mk fun b hb=> ?_;cases b<;>(conv=>whnf))|(refine qY.mk aac rfl rfl ?_;conv=>whnf)|(refine kN Wu [] aaq ?_;conv=>whnf))
theorem Mc (n:Nat)(hn:n<=256):kQ Tryz.prog GS 153 [qp (dk0 n)] 0 [] (Is (iv 0)):=by
 have hg : ∀i,i<n->((dk0 n).now.map oV)[i]? = some (oV z64):=fun i h=>by
  show ((List.replicate n z64).map oV)[i]? = _
  rw [aI,fG,if_pos h];rfl
 have hml:((dk0 n).now.map oV).length=n:=abe
 generalize dk0 n=d at *
 refine jJ func153 rfl mixed aac ?_
 refine yF Rx [3,4] (fun i:Nat=> [(3,iv 0),(4,iv i)]) (fun i=>i<=n) (fun i=>n-i) 0 aac (fun _=>rfl) aac (aK _) aae aae ?_
 intro i hi
 apply jH<;>intro h
 rotate_left
 ·exact jW [] rfl
 have hlt:i<n:=by rw [hml]at h;simp at h;omega
 refine nG.mk' i rfl (by rw [hml];exact hlt) ?_
 refine nH.at (hg i hlt) ?_
 refine nI [] aac (Qk) aae ?_
 refine kP.i64 aad ?_
 exact oI (i+1) [] [] rfl aa7 hlt aae ⟨rfl,rfl,trivial⟩
theorem Hy (n a e:Nat)(ha:a<e)(he:e<=n):kQ Tryz.prog GS 71 [qp (dk0 n),iv a,iv e] 0 [] (Is (.kZ [iv 0,iv 0,bs [],iv 0,bv false])):=by
 have hg:((dk0 n).now.map oV)[a]? = some (oV z64):=by
  show ((List.replicate n z64).map oV)[a]? = _
  rw [aI,fG,if_pos aad];rfl
 have hml:((dk0 n).now.map oV).length=n:=abe
 generalize dk0 n=d at *
 refine jJ func71 rfl mixed aac ?_
 apply jH<;>intro h
 ·exfalso;simp at h;omega
 refine nG.mk' a rfl (by rw [hml];omega) ?_
 refine nH.at hg ?_
 conv=>whnf
 repeat' (first|exact jW [] aae|(refine kP.fr ?_;conv=>whnf)|(refine jS.mk aah ?_;conv=>whnf)|(refine mW 9 ?_;conv=>whnf)|(refine kF aac (jJ aaz rfl mixed aac ?_);conv=>whnf)|(refine lD aaz ?_;conv=>whnf)|(refine nG.mk ⟨_,rfl,by decide, ?_⟩;conv=>whnf)|(refine pO.mk ⟨_,_,rfl,rfl,by decide,by decide, ?_⟩;conv=>whnf)|(refine nH.mk ⟨_,rfl, ?_⟩;conv=>whnf)|(refine pW.mk ⟨_,_,rfl,rfl,by decide,by decide,by decide, ?_⟩;conv=>whnf)|(refine kM.mk fun b hb=> ?_;obtain rfl:=hb aah;conv=>whnf)|(refine kM.mk fun b hb=> ?_;cases b<;>(conv=>whnf))|(refine qY.mk aac rfl rfl ?_;conv=>whnf))
theorem UM:kQ Tryz.prog GS 238 [el []] 0 [] (Is (.kZ [bs [0],iv 0])):=by
 refine jJ func238 rfl mixed aac ?_
 conv=>whnf
 repeat' (first|exact jW (List.range 20) aae|(refine kP.fr ?_;conv=>whnf)|(refine jS.mk aah ?_;conv=>whnf)|(refine mW 9 ?_;conv=>whnf)|(refine kF aac (jJ aaz rfl mixed aac ?_);conv=>whnf)|(refine lD aaz ?_;conv=>whnf)|(refine nG.mk ⟨_,rfl,by decide, ?_⟩;conv=>whnf)|(refine pO.mk ⟨_,_,rfl,rfl,by decide,by decide, ?_⟩;conv=>whnf)|(refine nH.mk ⟨_,rfl, ?_⟩;conv=>whnf)|(refine pW.mk ⟨_,_,rfl,rfl,by decide,by decide,by decide, ?_⟩;conv=>whnf)|(refine kM.mk fun b hb=> ?_;obtain rfl:=hb aah;conv=>whnf)|(refine kM.mk fun b hb=> ?_;cases b<;>(conv=>whnf))|(refine qY.mk aac rfl rfl ?_;conv=>whnf))
theorem XH (m:Nat)(h2:4<=m)(h3:m<=128):kQ Tryz.prog GS 154 [qp (dk0 (2*m)),iv 1,el []] 0 [] (Is (.kZ [ss sc0,bv true])):=by
 obtain⟨s0,s1,s2⟩:=BH
 have hS:=LW GS 1 0 [0] aah
 rw [s0,show zh 1 0 [0]=sc0 by unfold sc0;rfl]at hS
 have hml:((dk0 (2*m)).now.map oV).length=2*m:=abe
 have hsl:(sc0.map oV).length=1:=by rw [au,s1]
 obtain⟨x,hx⟩ : ∃x,sc0.map oV = [x]:=iI.1 hsl
 have hS:kQ Tryz.prog GS 234 [iv 1,iv 0,bs [0]] 0 [] (Is (.kZ [.lst 1 [x],iv 0])):=by rw [<-hx];exact hS
 show kQ _ _ _ _ _ _ (Is (.kZ [.lst 1 (sc0.map oV),bv true]))
 rw [hx]
 generalize dk0 (2*m)=d at *
 refine jJ func154 rfl mixed aac ?_
 refine nI [] aac (UM) aae ?_
 refine nI [] aac (hS) aae ?_
 (refine kN Wi [] aac ?_;conv=>whnf)
 refine jS.mk aah ?_
 rw [hml]
 refine kP.divN (2*m) 2 aad ?_
 refine jW [] ⟨⟨rfl,rfl⟩,congrArg Value.bool ?_,trivial⟩
 simp
 omega
attribute [local irreducible] zh Bj sc0 sG
theorem Md (m:Nat)(h2:4<=m)(h3:m<=128):kQ Tryz.prog GS 73 [stA (sZ (2*m))] 0 [] (Is (.kZ [stA (Dx (2*m)),iv 0])):=by
 have hW2:=XH m h2 h3
 obtain⟨n,hn⟩ : ∃n,n=2*m:=⟨_,rfl⟩
 rw [<-hn]at hW2 ⊢
 have hok:(dk0 n).ok:=yK aad aad aad
 have hG:=Mc n aad
 obtain⟨s0,s1,s2⟩:=BH
 have hL:(dk0 n).now.length=n:=bF ..
 have hW:=Uz (dk0 n) hok 0 sc0 s2 (by rw [s1,hL];omega)
 rw [Kt n s1]at hW
 have hml:((dk0 n).now.map oV).length=n:=by rw [au,hL]
 have hsl:(sc0.map oV).length=1:=by rw [au,s1]
 obtain⟨x,hx⟩ : ∃x,sc0.map oV = [x]:=iI.1 hsl
 have hW2:kQ Tryz.prog GS 154 [qp (dk0 n),iv 1,el []] 0 [] (Is (.kZ [.lst 1 [x],bv true])):=by rw [<-hx];exact hW2
 have hW:kQ Tryz.prog GS 155 [qp (dk0 n),iv ((0:Nat):Int), .lst 1 [x]] 0 [] (Is (.kZ [qp (sG (dk0 n) 0 sc0).1,iv 0])):=by rw [<-hx];exact hW
 unfold Dx sZ
 generalize sG (dk0 n) 0 sc0=D at *
 generalize dk0 n=d at *
 refine jJ func73 rfl mixed aac ?_
 (refine kN YD [] aac ?_;conv=>whnf)
 refine nI [] aac (hG) aae ?_
 refine kP.fr ?_
 refine nI [] aac (hW2) aae ?_
 refine kP.fr ?_
 refine jS.mk aah ?_
 rw [hml]
 refine kP.divN n 2 aad ?_
 refine kP.to (y:=((0:Nat):Int)) (by rw [show Int.ofNat 0*_=0 from jq _];rfl) ?_
 refine nI [] aac (hW) aae ?_
 exact jW [] aae
theorem XI (m:Nat)(h2:4<=m)(h3:m<=128):kQ Tryz.prog GS 26 [qp (dk0 (2*m))] 0 [] (Is (.kZ [stA (Dx (2*m)),iv 0])):=by
 have hok:(dk0 (2*m)).ok:=yK aad aad aad
 have hR:=Xu (dk0 (2*m)) hok
 rw [show qB (dk0 (2*m))=0 from rfl]at hR
 have hC:=Md m h2 h3
 have hF0:=Hy (2*m) 0 m aad aad
 have hF1:=Hy (2*m) m (2*m) aad aad
 have hml:((dk0 (2*m)).now.map oV).length=2*m:=abe
 unfold sZ at hC
 generalize Dx (2*m)=s0 at *
 generalize dk0 (2*m)=d at *
 refine jJ func26 rfl mixed aac ?_
 refine rQ [] aac hR aae ?_
 rintro _ _ _ ⟨rfl,rfl,b,rfl⟩
 refine mW 3 ?_
 refine jS.mk aah ?_
 rw [hml]
 refine kP.divN (2*m) 2 aad ?_
 rw [show 2*m/2=m by omega]
 refine kP.to (y:=((0:Nat):Int)) (by rw [jq];rfl) ?_
 refine kP.fr ?_
 refine kP.to (y:=(m:Int)) (by rw [show Int.ofNat 1*_=(m:Int)from Int.one_mul _];exact IntWalk.i64_in _ aad) ?_
 refine nI [] aac (hF0) aae ?_
 refine kP.fr ?_
 refine jS.mk aah ?_
 rw [hml]
 refine kP.divN (2*m) 2 aad ?_
 rw [show 2*m/2=m by omega]
 refine kP.to (y:=(m:Int)) (by rw [show Int.ofNat 1*_=(m:Int)from Int.one_mul _];exact IntWalk.i64_in _ aad) ?_
 refine kP.fr ?_
 refine kP.to (y:=((2*m:Nat):Int)) (by rw [show Int.ofNat 2*_=((2*m:Nat):Int) by show 2*(m:Int)=_;omega];exact IntWalk.i64_in _ aad) ?_
 refine nI [] aac (hF1) aae ?_
 refine kP.fr ?_
 refine nI [] aac (hC) aae ?_
 exact jW [] aae
theorem Jr (key:Int)(clients cap bound lX:Int):kQ Tryz.prog GS 7 [.v (.int .u64 key),iv clients,iv cap,iv bound,iv lX] 0 [] (Is (BJ key clients cap bound lX)):=by
 obtain⟨R,hR⟩ : ∃R,R=BJ key clients cap bound lX:=⟨_,rfl⟩
 rw [<-hR]
 unfold BJ at hR
 have hw:ZT clients cap bound lX=(decide (1<=clients∧clients<=16)&&(yL cap&&(BI bound&&CB lX))):=rfl
 refine jJ func7 rfl mixed aac ?_
 conv=>whnf
 by_cases hc:1<=clients∧clients<=16
 rotate_left
 ·rw [hw,decide_eq_false hc,dJ,if_neg aah]at hR
  subst hR
  apply jH<;>intro h
  ·exact jW [] aae
  conv=>whnf
  show BO (decide (clients>16)) _ _
  apply jH<;>intro h2
  ·exact jW [] aae
  ·exfalso;simp at h h2;omega
 rw [hw,decide_eq_true hc,fF]at hR
 obtain⟨n,rfl⟩ : ∃n:Nat,clients=(n:Int):=⟨clients.toNat,by omega⟩
 rw [dA]at hR
 apply jH<;>intro h
 ·exfalso;simp at h;omega
 conv=>whnf
 show BO (decide ((n:Int)>16)) _ _
 apply jH<;>intro h2
 ·exfalso;simp at h2;omega
 refine qm Yr 3 [13] (fun i:Nat=> [(13,iv i)]) (fun i=> [(0, .var 40 (wB 0 nl 0 0 Vh)),(1, .var 40 (wB key (.own 2) 0 0 Vh)),(2, .rows 68 5 (Qr cap i))]) (fun i=>i<=n∧(0<i->yL cap=true)) (fun i=>n-i) [(2, .nil)] [] 0 aac (fun _=>rfl) rfl ⟨aK _,fun h=>absurd h (ig 0)⟩ aae aae ?_
 intro i ⟨hi,hcap⟩
 apply jH<;>intro h
 ·have hlt:i<n:=aap
  have Jq:i<16:=aad
  have hN:=Zq GS i Jq
  have hO:=UF Jq cap
  obtain⟨e1,e2,_⟩:=Jo Jq
  (refine kU [] aac (hN) rfl ?_ ?_;(focus trivial))
  refine jS.mk (by show (((1+(⟨(cN i).tail.toArray⟩:ByteArray).size:Nat):Int))<=9223372036854775807;omega) ?_
  rw [e1]
  conv=>whnf
  cases hb:yL cap with
  | false=>
   rw [hb]at hO hR
   refine nI [] aac (hO) aae ?_
   conv=>whnf
   rw [dJ,if_neg aah]at hR
   subst hR
   exact jW [] aae
  | true=>
   rw [hb]at hO
   refine nI [] aac (hO) aae ?_
   refine jS.mk (og (by unfold Qr;simp only [au,gQ,aZ,dw];omega) aac) ?_
   refine kP.i64 aad ?_
   exact oI (i+1) [(2, .lab 5)] [] rfl aa7 ⟨hlt,fun _=>rfl⟩ ⟨aae,aae,⟨rfl,rfl,Hw cap i⟩,trivial⟩ ⟨rfl,trivial⟩
 have hie:i=n:=aap
 subst hie
 have hb:=hcap aad
 rw [hb,fF]at hR
 have hK:=UG GS bound
 conv=>whnf
 cases hbd:BI bound with
 | false=>
  rw [hbd]at hK hR
  rw [dJ,if_neg aah]at hR
  subst hR
  refine nI [] aac (hK) aae ?_
  exact jW [2] aae
 | true=>
  rw [hbd]at hK hR
  rw [fF]at hR
  refine nI [] aac (hK) aae ?_
  conv=>whnf
  cases hs:CB lX with
  | false=>
   rw [hs,if_neg aah]at hR
   subst hR
   refine nI [] aac (Qj lX hs) aae ?_
   exact jW [2] aae
  | true=>
   rw [hs,if_pos rfl]at hR
   obtain⟨m,rfl,hm1,hm2⟩:=BK hs
   rw [dA]at hR
   subst hR
   have hD:=Vg (2*m) aad aad aad
   have hO:=XI m hm1 hm2
   generalize dk0 (2*m)=d at *
   generalize Dx (2*m)=s0 at *
   refine nI [] aac (hD) aae ?_
   refine nI [] aac (hO) aae ?_
   (refine kN aaj [1] aac ?_;conv=>whnf)
   exact jW [2] aae
end
section
attribute [local irreducible] cN Dx
theorem KC (b h:Int):kQ Tryz.prog GS 28 [.agg [iv b,iv 0,iv h,nl,nl,iv 0,iv 0,iv 0,iv 0,iv 0,iv 0,iv 0], .agg [iv b,iv 0,iv h,nl,nl,iv 0,iv 0,iv 0,iv 0,iv 0,iv 0,iv 0]] 0 [] (Is (bv true)):=by
 refine jJ func28 rfl mixed aac ?_
 conv=>whnf
 repeat' (first|exact jW [] aae|(apply jH<;>intro h<;>(first|(exfalso;simp at h;done)|(conv=>whnf)))|(refine jP aac (uw [] aah) ?_ ?_;(focus (trivial;done));rintro _ _ _ ⟨rfl,rfl,rfl⟩;(conv=>whnf))|(refine kP.fr ?_;conv=>whnf)|(refine jS.mk aah ?_;conv=>whnf)|(refine mW 9 ?_;conv=>whnf)|(refine kF aac (jJ aaz rfl mixed aac ?_);conv=>whnf)|(refine lD aaz ?_;conv=>whnf)|(refine nG.mk ⟨_,rfl,by decide, ?_⟩;conv=>whnf)|(refine pO.mk ⟨_,_,rfl,rfl,by decide,by decide, ?_⟩;conv=>whnf)|(refine nH.mk ⟨_,rfl, ?_⟩;conv=>whnf)|(refine pW.mk ⟨_,_,rfl,rfl,by decide,by decide,by decide, ?_⟩;conv=>whnf)|(refine kM.mk fun b hb=> ?_;obtain rfl:=hb aah;conv=>whnf)|(refine kM.mk fun b hb=> ?_;cases b<;>(conv=>whnf))|(refine qY.mk aac rfl rfl ?_;conv=>whnf))
structure Ob where
 s:By
 cap:Int
 next:Int
 drop:Int
def Ob.row (o:Ob):List FV:=Jp o.s o.cap o.next o.drop MG
theorem UN (o:Ob):kQ Tryz.prog GS 31 [L9 o.row,L9 o.row] 0 [] (Is (bv true)):=by
 refine jJ func31 rfl mixed aac ?_
 conv=>whnf
 repeat' (first|exact jW [] aae|(apply jH<;>intro h<;>(first|(exfalso;simp [lU]at h;done)|(conv=>whnf)))|(refine jP aac (uw [] aah) ?_ ?_;(focus (trivial;done));rintro _ _ _ ⟨rfl,rfl,rfl⟩;(conv=>whnf))|(refine kP.fr ?_;conv=>whnf)|(refine jS.mk aah ?_;conv=>whnf)|(refine mW 9 ?_;conv=>whnf)|(refine kF aac (jJ aaz rfl mixed aac ?_);conv=>whnf)|(refine lD aaz ?_;conv=>whnf)|(refine nG.mk ⟨_,rfl,by decide, ?_⟩;conv=>whnf)|(refine pO.mk ⟨_,_,rfl,rfl,by decide,by decide, ?_⟩;conv=>whnf)|(refine nH.mk ⟨_,rfl, ?_⟩;conv=>whnf)|(refine pW.mk ⟨_,_,rfl,rfl,by decide,by decide,by decide, ?_⟩;conv=>whnf)|(refine kM.mk fun b hb=> ?_;obtain rfl:=hb aah;conv=>whnf)|(refine kM.mk fun b hb=> ?_;cases b<;>(conv=>whnf))|(refine qY.mk aac rfl rfl ?_;conv=>whnf))
theorem KD:kQ Tryz.prog GS 27 [nl,nl] 0 [] (Is (bv true)):=by
 refine jJ func27 rfl mixed aac ?_
 conv=>whnf
 repeat' (first|exact jW (List.range 9) aae|(refine kP.fr ?_;conv=>whnf)|(refine jS.mk aah ?_;conv=>whnf)|(refine mW 9 ?_;conv=>whnf)|(refine kF aac (jJ aaz rfl mixed aac ?_);conv=>whnf)|(refine lD aaz ?_;conv=>whnf)|(refine nG.mk ⟨_,rfl,by decide, ?_⟩;conv=>whnf)|(refine pO.mk ⟨_,_,rfl,rfl,by decide,by decide, ?_⟩;conv=>whnf)|(refine nH.mk ⟨_,rfl, ?_⟩;conv=>whnf)|(refine pW.mk ⟨_,_,rfl,rfl,by decide,by decide,by decide, ?_⟩;conv=>whnf)|(refine kM.mk fun b hb=> ?_;obtain rfl:=hb aah;conv=>whnf)|(refine kM.mk fun b hb=> ?_;cases b<;>(conv=>whnf))|(refine qY.mk aac rfl rfl ?_;conv=>whnf))
theorem Js (key b h:Int):kQ Tryz.prog GS 8 [.agg (wB key nl b h Vh), .agg (wB key nl b h Vh)] 0 [] (Is (bv true)):=by
 have hC:=KC b h
 have hS:=P9 ⟨⟨[],[],0,0,false⟩,0,0,0,0,[]⟩ ⟨by decide,by decide⟩ aah
 have hE:=uw [] aah
 refine jJ func8 rfl mixed aac ?_
 conv=>whnf
 repeat' (first|exact jW (List.range 9) aae|(apply jH<;>intro h<;>(first|(exfalso;simp at h;done)|(exfalso;revert h;decide +kernel)|(conv=>whnf)))|(refine jP aac (KD) ?_ ?_;(focus (trivial;done));rintro _ _ _ ⟨rfl,rfl,rfl⟩;(conv=>whnf))|(refine jP aac (hC) ?_ ?_;(focus (trivial;done));rintro _ _ _ ⟨rfl,rfl,rfl⟩;(conv=>whnf))|(refine jP aac (hS) ?_ ?_;(focus (trivial;done));rintro _ _ _ ⟨rfl,rfl,rfl⟩;(conv=>whnf))|(refine jP aac (hE) ?_ ?_;(focus (trivial;done));rintro _ _ _ ⟨rfl,rfl,rfl⟩;(conv=>whnf))|(refine kP.fr ?_;conv=>whnf)|(refine jS.mk aah ?_;conv=>whnf)|(refine mW 9 ?_;conv=>whnf)|(refine kF aac (jJ aaz rfl mixed aac ?_);conv=>whnf)|(refine lD aaz ?_;conv=>whnf)|(refine nG.mk ⟨_,rfl,by decide, ?_⟩;conv=>whnf)|(refine pO.mk ⟨_,_,rfl,rfl,by decide,by decide, ?_⟩;conv=>whnf)|(refine nH.mk ⟨_,rfl, ?_⟩;conv=>whnf)|(refine pW.mk ⟨_,_,rfl,rfl,by decide,by decide,by decide, ?_⟩;conv=>whnf)|(refine kM.mk fun b hb=> ?_;obtain rfl:=hb aah;conv=>whnf)|(refine kM.mk fun b hb=> ?_;cases b<;>(conv=>whnf))|(refine qY.mk aac rfl rfl ?_;conv=>whnf))
theorem Jt (key:Int)(l:List Ob)(hl:l.length<=1000)(b hi0:Int)(s:So)(hs:s.d.now.length<=1000∧s.d.safe.length<=1000)(he:s.ev.length<=1000000):kQ Tryz.prog GS 8 [.agg (wB key (.lst 5 (l.map Ob.row)) b hi0 (Vf s)), .agg (wB key (.lst 5 (l.map Ob.row)) b hi0 (Vf s))] 0 [] (Is (bv true)):=by
 have hC:=KC b hi0
 have hS:=P9 s hs he
 have hE:=uw [] aah
 refine jJ func8 rfl mixed aac ?_
 conv=>whnf
 repeat' (first|(apply jH<;>intro h<;>(first|(exfalso;simp at h;done)|(exfalso;revert h;decide +kernel)|(conv=>whnf)))|(refine jP aac (KD) ?_ ?_;(focus (trivial;done));rintro _ _ _ ⟨rfl,rfl,rfl⟩;(conv=>whnf))|(refine jP aac (hC) ?_ ?_;(focus (trivial;done));rintro _ _ _ ⟨rfl,rfl,rfl⟩;(conv=>whnf))|(refine jP aac (hS) ?_ ?_;(focus (trivial;done));rintro _ _ _ ⟨rfl,rfl,rfl⟩;(conv=>whnf))|(refine jP aac (hE) ?_ ?_;(focus (trivial;done));rintro _ _ _ ⟨rfl,rfl,rfl⟩;(conv=>whnf)))
 refine qm Yt 2 [5] (fun i:Nat=> [(5,iv i)]) (fun _=> [(0, .var 40 (wB key (.lst 5 (l.map Ob.row)) b hi0 (Vf s))),(1, .var 40 (wB key (.lst 5 (l.map Ob.row)) b hi0 (Vf s)))]) (fun i=>i<=l.length) (fun i=>l.length-i) [] [] 0 aac (fun _=>rfl) rfl (aK _) aae aae ?_
 intro i hi
 apply jH<;>intro h
 ·have hlt:i<l.length:=aap
  have hO:=UN l[i]
  (refine kN aak [] aac ?_;conv=>whnf)
  repeat' (first
   | (refine And.intro ?_ ?_<;>(conv=>whnf))
   | (refine nG.mk' i rfl (EX hlt) ?_;conv=>whnf)
   | (refine nH.pJ (aB hlt) ?_;conv=>whnf)
   | (refine jP aac (hO) ?_ ?_;(focus (trivial;done));rintro _ _ _ ⟨rfl,rfl,rfl⟩;(conv=>whnf)))
  refine kP.i64 aad ?_
  exact oI (i+1) [] [] rfl aaC hlt aae ⟨rfl,trivial⟩
 ·exact jW [0,1] aae
theorem UO (cap:Int)(i:Nat):Qr cap i=((List.range i).map fun k=>Ob.mk (cN k) cap 1 0).map Ob.row:=by unfold Qr;rw [List.map_map];rfl
theorem wH (key cl cp bd sc:Int):(∃(s:So) (L:List Ob),L.length<=1000∧(s.d.now.length<=1000∧s.d.safe.length<=1000)∧s.ev.length<=1000000∧BJ key cl cp bd sc = .kZ [.agg (wB key (.lst 5 (L.map Ob.row)) bd (-1) (Vf s)),iv 0])∨BJ key cl cp bd sc = .kZ [.agg (wB 0 nl 0 0 Vh),iv 3]:=by
 unfold BJ
 split
 ·rename_i h
  left
  unfold ZT at h
  simp only [ah,decide_eq_true_eq]at h
  obtain⟨hc,_,_,hs⟩:=h
  obtain⟨m,rfl,h1,h2⟩:=BK hs
  have hw:=PV (l:=sc0) (d:=dk0 (2*m)) (at_:=0) (yK aad aad aad) BH.2.2
  have hl:(Dx (2*m)).d.now.length=2*m:=by unfold Dx;exact hw.2.1.trans (bF ..)
  have hf:(Dx (2*m)).d.safe.length=2*m:=by unfold Dx at hl ⊢;exact hw.1.sf.trans hl
  refine⟨Dx (2*m),(List.range cl.toNat).map fun k=>Ob.mk (cN k) cp 1 0,by rw [au,gQ];omega,by omega,by unfold Dx;exact aK _, ?_⟩
  rw [dA,UO]
 ·exact .inr rfl
attribute [local irreducible] BJ
theorem UQ (key cl cp bd sc a b c d:Int)(ha : -32768<=a∧a<=32767)(hb : -32768<=b∧b<=32767)(hc : -32768<=c∧c<=32767)(hd : -32768<=d∧d<=32767) :
  kQ Tryz.prog GS 3 [.v (.int .u64 key),iv cl,iv cp,iv bd,iv sc, .v (.int .i16 a), .v (.int .i16 b), .v (.int .i16 c), .v (.int .i16 d)] 0 [] (Is (bv true)):=by
 refine jJ func3 rfl mixed aac ?_
 (refine rQ [] aac (UL) ?_ ?_;(focus (trivial;done));rintro _ _ _ ⟨rfl,rfl,rfl⟩;(conv=>whnf))
 refine mW 3 ?_
 conv=>whnf
 have hN1:=KA key cl cp bd sc
 have H7:=Jr key cl cp bd sc
 rcases wH key cl cp bd sc with ⟨s,L,hL,hs,hv,e⟩|e
 ·rw [e]at hN1 H7
  have hS:=Jt key L hL bd (-1) s hs hv
  clear e hL hs hv
  repeat' (first|exact jW (List.range 100) aae|(refine jP aac (hN1) ?_ ?_;(focus (trivial;done));rintro _ _ _ ⟨rfl,rfl,rfl⟩;(conv=>whnf))|(refine jP aac (H7) ?_ ?_;(focus (trivial;done));rintro _ _ _ ⟨rfl,rfl,rfl⟩;(conv=>whnf))|(refine jP aac (hS) ?_ ?_;(focus (trivial;done));rintro _ _ _ ⟨rfl,rfl,rfl⟩;(conv=>whnf))|(apply jH<;>intro h<;>(first|(exfalso;simp at h;done)|(conv=>whnf)))|(refine kP.i64 ⟨by omega,by omega⟩ ?_;conv=>whnf)|(refine kP.fr ?_;conv=>whnf)|(refine jS.mk aah ?_;conv=>whnf))
  clear hN1 H7 hS
  have hN1:=KA key (a.tmod 20) (b.tmod 80) (c.tmod 100) (d.tmod 300)
  have H7:=Jr key (a.tmod 20) (b.tmod 80) (c.tmod 100) (d.tmod 300)
  rcases wH key (a.tmod 20) (b.tmod 80) (c.tmod 100) (d.tmod 300)with ⟨s,L,hL,hs,hv,e⟩|e
  ·rw [e]at hN1 H7
   have hS:=Jt key L hL (c.tmod 100) (-1) s hs hv
   clear e hL hs hv
   repeat' (first|exact jW (List.range 100) aae|(refine jP aac (hN1) ?_ ?_;(focus (trivial;done));rintro _ _ _ ⟨rfl,rfl,rfl⟩;(conv=>whnf))|(refine jP aac (H7) ?_ ?_;(focus (trivial;done));rintro _ _ _ ⟨rfl,rfl,rfl⟩;(conv=>whnf))|(refine jP aac (hS) ?_ ?_;(focus (trivial;done));rintro _ _ _ ⟨rfl,rfl,rfl⟩;(conv=>whnf))|(apply jH<;>intro h<;>(first|(exfalso;simp at h;done)|(conv=>whnf)))|(refine kP.i64 ⟨by omega,by omega⟩ ?_;conv=>whnf)|(refine kP.fr ?_;conv=>whnf)|(refine jS.mk aah ?_;conv=>whnf))
  ·rw [e]at hN1 H7
   have hS:=Js 0 0 0
   clear e
   repeat' (first|exact jW (List.range 100) aae|(refine jP aac (hN1) ?_ ?_;(focus (trivial;done));rintro _ _ _ ⟨rfl,rfl,rfl⟩;(conv=>whnf))|(refine jP aac (H7) ?_ ?_;(focus (trivial;done));rintro _ _ _ ⟨rfl,rfl,rfl⟩;(conv=>whnf))|(refine jP aac (hS) ?_ ?_;(focus (trivial;done));rintro _ _ _ ⟨rfl,rfl,rfl⟩;(conv=>whnf))|(apply jH<;>intro h<;>(first|(exfalso;simp at h;done)|(conv=>whnf)))|(refine kP.i64 ⟨by omega,by omega⟩ ?_;conv=>whnf)|(refine kP.fr ?_;conv=>whnf)|(refine jS.mk aah ?_;conv=>whnf))
 ·rw [e]at hN1 H7
  have hS:=Js 0 0 0
  clear e
  repeat' (first|exact jW (List.range 100) aae|(refine jP aac (hN1) ?_ ?_;(focus (trivial;done));rintro _ _ _ ⟨rfl,rfl,rfl⟩;(conv=>whnf))|(refine jP aac (H7) ?_ ?_;(focus (trivial;done));rintro _ _ _ ⟨rfl,rfl,rfl⟩;(conv=>whnf))|(refine jP aac (hS) ?_ ?_;(focus (trivial;done));rintro _ _ _ ⟨rfl,rfl,rfl⟩;(conv=>whnf))|(apply jH<;>intro h<;>(first|(exfalso;simp at h;done)|(conv=>whnf)))|(refine kP.i64 ⟨by omega,by omega⟩ ?_;conv=>whnf)|(refine kP.fr ?_;conv=>whnf)|(refine jS.mk aah ?_;conv=>whnf))
  clear hN1 H7 hS
  have hN1:=KA key (a.tmod 20) (b.tmod 80) (c.tmod 100) (d.tmod 300)
  have H7:=Jr key (a.tmod 20) (b.tmod 80) (c.tmod 100) (d.tmod 300)
  rcases wH key (a.tmod 20) (b.tmod 80) (c.tmod 100) (d.tmod 300)with ⟨s,L,hL,hs,hv,e⟩|e
  ·rw [e]at hN1 H7
   have hS:=Jt key L hL (c.tmod 100) (-1) s hs hv
   clear e hL hs hv
   repeat' (first|exact jW (List.range 100) aae|(refine jP aac (hN1) ?_ ?_;(focus (trivial;done));rintro _ _ _ ⟨rfl,rfl,rfl⟩;(conv=>whnf))|(refine jP aac (H7) ?_ ?_;(focus (trivial;done));rintro _ _ _ ⟨rfl,rfl,rfl⟩;(conv=>whnf))|(refine jP aac (hS) ?_ ?_;(focus (trivial;done));rintro _ _ _ ⟨rfl,rfl,rfl⟩;(conv=>whnf))|(apply jH<;>intro h<;>(first|(exfalso;simp at h;done)|(conv=>whnf)))|(refine kP.i64 ⟨by omega,by omega⟩ ?_;conv=>whnf)|(refine kP.fr ?_;conv=>whnf)|(refine jS.mk aah ?_;conv=>whnf))
  ·rw [e]at hN1 H7
   have hS:=Js 0 0 0
   clear e
   repeat' (first|exact jW (List.range 100) aae|(refine jP aac (hN1) ?_ ?_;(focus (trivial;done));rintro _ _ _ ⟨rfl,rfl,rfl⟩;(conv=>whnf))|(refine jP aac (H7) ?_ ?_;(focus (trivial;done));rintro _ _ _ ⟨rfl,rfl,rfl⟩;(conv=>whnf))|(refine jP aac (hS) ?_ ?_;(focus (trivial;done));rintro _ _ _ ⟨rfl,rfl,rfl⟩;(conv=>whnf))|(apply jH<;>intro h<;>(first|(exfalso;simp at h;done)|(conv=>whnf)))|(refine kP.i64 ⟨by omega,by omega⟩ ?_;conv=>whnf)|(refine kP.fr ?_;conv=>whnf)|(refine jS.mk aah ?_;conv=>whnf))
end
end Go.Proofs.YtnandbihiceihaaGreatDoor.Cl
namespace Go.Proofs.YtnandbihiceihaaGreatDoor.Vc
open RowKit Ax Go.Proofs.Tryz
section
variable {H:Type}{enc:TypeId×Value->H}{w:World}
end
inductive Sh where
 | n (k:IntKind)
 | b
 | s
 | l (nV:Nat) (es:List Sh)
inductive Vk:Sh->FV->Prop
 | n {k:IntKind} {x:Int} (h:(Lit.int k x).wf=true):Vk (.n k) (.v (.int k x))
 | b (x:Bool):Vk .b (.v (.bool x))
 | s (x:ByteArray) (h:x.size<=140737488351232):Vk .s (.v (.string x))
 | l {nV:Nat} {es:List Sh} {rows:List (List FV)} (hn:rows.length<=maxLen) (hb:rows.length*nV<=140737488351232) (h : ∀row∈rows,row.length=es.length) (hr : ∀row∈rows, ∀(j:Nat) e a,es[j]? = some e->row[j]? = some a->Vk e a):Vk (.l nV es) (.lst es.length rows)
def X0 (es:List Sh)(row:List FV):Prop:=row.length=es.length∧∀(j:Nat) e a,es[j]? = some e->row[j]? = some a->Vk e a
theorem X0.nil:X0 [] []:=⟨rfl,fun j e a h=>by simp at h⟩
theorem X0.one {e:Sh}{a:FV}(h:Vk e a):X0 [e] [a]:=⟨rfl,fun j e' a' he ha=>by
 match j,he,ha with
 | 0,he,ha=>simp at he ha;subst he;subst ha;exact h⟩
section
variable {H:Type}{enc:TypeId×Value->H}{P:Program}{w:World}
def One (w:World)(es:List Sh)(cs:List Value):Prop:= ∃row,X0 es row∧rE (Here w) w row cs∧∀v∈cs,v.oneCell'=true
theorem One.nil:One w [] []:=⟨[],X0.nil,⟨rfl,fun j a v h=>by simp at h⟩,fun v h=>by cases h⟩
theorem One.one {e:Sh}{a:FV}{v:Value}(h:Vk e a)(hf:lN (Here w) w a v)(ho:v.oneCell'=true):One w [e] [v]:=
 ⟨[a], .one h,⟨rfl,fun j a' v' ha hv=>by
  match j,ha,hv with
  | 0,ha,hv=>simp at ha hv;subst ha;subst hv;exact hf⟩,fun u hu=>by rw [bP.1 hu];exact ho⟩
end
section
open Go.ChangeShapes
section
variable {H:Type}{enc:TypeId×Value->H}{P:Program}{w:World}
theorem EM {base:Nat}{spare:Nat->Bool}{held:Bool}{t0 t1 t2 t3 t4 t5 t6 t7 t8:TypeId}{args:Array Value}{ds:List (DataW H)}{ps:List MemPlace}(h:DataW.TrodAll enc P w base spare held [t0,t1,t2,t3,t4,t5,t6,t7,t8] args.toList ds ps) :
  ∃v0 v1 v2 v3 v4 v5 v6 v7 v8 d0 d1 d2 d3 d4 d5 d6 d7 d8 p0 p1 p2 p3 p4 p5 p6 p7 p8,args = #[v0,v1,v2,v3,v4,v5,v6,v7,v8]∧ds = [d0,d1,d2,d3,d4,d5,d6,d7,d8]∧ps=p0++p1++p2++p3++p4++p5++p6++p7++p8∧DataW.Trod enc P w base spare held t0 v0 d0 p0∧DataW.Trod enc P w base spare held t1 v1 d1 p1∧DataW.Trod enc P w base spare held t2 v2 d2 p2∧DataW.Trod enc P w base spare held t3 v3 d3 p3∧DataW.Trod enc P w base spare held t4 v4 d4 p4∧DataW.Trod enc P w base spare held t5 v5 d5 p5∧DataW.Trod enc P w base spare held t6 v6 d6 p6∧DataW.Trod enc P w base spare held t7 v7 d7 p7∧DataW.Trod enc P w base spare held t8 v8 d8 p8:=by
 obtain⟨v0,w0,d0,e0,p0,q0,hargs,rfl,rfl,h0,r0⟩:=trodAll_cons h
 obtain⟨v1,w1,d1,e1,p1,q1,rfl,rfl,rfl,h1,r1⟩:=trodAll_cons r0
 obtain⟨v2,w2,d2,e2,p2,q2,rfl,rfl,rfl,h2,r2⟩:=trodAll_cons r1
 obtain⟨v3,w3,d3,e3,p3,q3,rfl,rfl,rfl,h3,r3⟩:=trodAll_cons r2
 obtain⟨v4,w4,d4,e4,p4,q4,rfl,rfl,rfl,h4,r4⟩:=trodAll_cons r3
 obtain⟨v5,w5,d5,e5,p5,q5,rfl,rfl,rfl,h5,r5⟩:=trodAll_cons r4
 obtain⟨v6,w6,d6,e6,p6,q6,rfl,rfl,rfl,h6,r6⟩:=trodAll_cons r5
 obtain⟨v7,w7,d7,e7,p7,q7,rfl,rfl,rfl,h7,r7⟩:=trodAll_cons r6
 obtain⟨v8,w8,d8,e8,p8,q8,rfl,rfl,rfl,h8,r8⟩:=trodAll_cons r7
 obtain⟨rfl,rfl,rfl⟩:=trodAll_nil r8
 exact⟨v0,v1,v2,v3,v4,v5,v6,v7,v8,d0,d1,d2,d3,d4,d5,d6,d7,d8,p0,p1,p2,p3,p4,p5,p6,p7,p8,by cases args;simp_all,rfl,by simp,h0,h1,h2,h3,h4,h5,h6,h7,h8⟩
end
end
end Go.Proofs.YtnandbihiceihaaGreatDoor.Vc
