/- Joined parts of the proof. The walks of both Until, and of identity's Members, over abstract values -/
import Derived.Test.YtnandbihiceihaaGreatDoorPk17
import Derived.Test.YtnandbihiceihaaGreatDoorPk12
set_option linter.unusedVariables false
set_option linter.unusedSimpArgs false
set_option maxRecDepth 100000
set_option maxHeartbeats 16000000
namespace Go.Proofs.YtnandbihiceihaaGreatDoor.Cl
open RowKit Vc Ax Go.Proofs.YtnandbihiceihaaGreatDoor.Id Go.Proofs.Tryz
attribute [local irreducible] loadVar storeVar Instr.indexAt Instr.index Instr.sliceAt Instr.makeSlice Instr.lookup Instr.mapUpdate Instr.range Instr.next Instr.entry Instr.makeMap Builtin.append_ Builtin.copy_ Builtin.len_ Builtin.min_ Builtin.max_ Builtin.cap_ Builtin.delete_ Builtin.clear_ convert binOp eqGuard Op.unary Calls
section
variable {G:Glob}
theorem adD (ls:List Lk)(t:Int)(hln:ls.length<=1000000):mP Tryz.prog G 164 [C9 ls,iv t] 0 [] (vZ 240 3 ((wF t ls).map UU)):=by
 refine lJ func164 rfl mixed aag ?_
 refine mY abH 1 [10,5] (fun k:Nat=> [(10,iv k),(5, .own 0)]) (fun k=> [(0, .rows 240 3 ((wF t (ls.take k)).map UU))]) (fun k=>k<=ls.length) (fun k=>ls.length-k) [(0, .nil)] [] 0 aag (fun _=>rfl) rfl (aH _) ⟨rfl,trivial⟩ aam ?_
 rintro k hk
 refine lH (fun hlt=> ?_) (fun hge=> ?_)
 ·have hlt:k<ls.length:=by simpa using hlt
  have hun:(wF t (ls.take k)).length<=ls.length:=by
   have h1:=dJ (fun x:Lk=>decide (x.t<=t)) (ls.take k)
   have h2:wF t (ls.take k)=(ls.take k).filter fun x=>decide (x.t<=t):=rfl
   rw [<-h2,aN]at h1;omega
  conv=>whnf
  (repeat' ((first|refine And.intro ?_ ?_|(apply lH<;>intro h<;>try simp only [bl]at h)|refine rnS ?_|fail)<;>conv=>whnf))
  ·have e:wF t (ls.take (k+1))=wF t (ls.take k)++ [ls[k]]:=by rw [aG hlt,CY,if_pos h]
   refine lK (k+1) [(0, .lab 3)] [] rfl ?_ hlt ?_ aam
   ·show ls.length -(k+1)<ls.length-k;omega
   ·refine⟨⟨rfl,rfl, ?_⟩,trivial⟩
    rw [e,aS];rfl
  ·have e:wF t (ls.take (k+1))=wF t (ls.take k):=by rw [aG hlt,CY,if_neg aai]
   refine lK (k+1) [(0, .lab 0)] [] rfl ?_ hlt ?_ aam
   ·show ls.length -(k+1)<ls.length-k;omega
   ·refine⟨⟨rfl,rfl, ?_⟩,trivial⟩
    rw [e]
 ·have:k=ls.length:=by simp at hge;omega
  subst this
  conv=>whnf
  rw [aZ]
  exact nI (.own 0) 1 _ [(0, .lab 0)] [] ⟨rfl,rfl,rfl⟩ rfl aam aam
theorem MO (ls:List Lk)(t:Int)(hln:ls.length<=1000000):mP Tryz.prog G 96 [C9 ls,iv t] 0 [] (vZ 240 3 ((wF t ls).map UU)):=by
 refine lJ func96 rfl mixed aag ?_
 refine mY afH 1 [6,5] (fun k:Nat=> [(6,iv k),(5, .own 0)]) (fun k=> [(0, .rows 240 3 ((wF t (ls.take k)).map UU))]) (fun k=>k<=ls.length) (fun k=>ls.length-k) [(0, .nil)] [] 0 aag (fun _=>rfl) rfl (aH _) ⟨rfl,trivial⟩ aam ?_
 rintro k hk
 refine lH (fun hlt=> ?_) (fun hge=> ?_)
 ·have hlt:k<ls.length:=by simpa using hlt
  have hun:(wF t (ls.take k)).length<=ls.length:=by
   have h1:=dJ (fun x:Lk=>decide (x.t<=t)) (ls.take k)
   have h2:wF t (ls.take k)=(ls.take k).filter fun x=>decide (x.t<=t):=rfl
   rw [<-h2,aN]at h1;omega
  conv=>whnf
  (repeat' ((first|refine And.intro ?_ ?_|(apply lH<;>intro h<;>try simp only [bl]at h)|refine rnS ?_|fail)<;>conv=>whnf))
  ·have e:wF t (ls.take (k+1))=wF t (ls.take k)++ [ls[k]]:=by rw [aG hlt,CY,if_pos h]
   refine lK (k+1) [(0, .lab 2)] [] rfl ?_ hlt ?_ aam
   ·show ls.length -(k+1)<ls.length-k;omega
   ·refine⟨⟨rfl,rfl, ?_⟩,trivial⟩
    rw [e,aS];rfl
  ·have e:wF t (ls.take (k+1))=wF t (ls.take k):=by rw [aG hlt,CY,if_neg aai]
   refine lK (k+1) [(0, .lab 0)] [] rfl ?_ hlt ?_ aam
   ·show ls.length -(k+1)<ls.length-k;omega
   ·refine⟨⟨rfl,rfl, ?_⟩,trivial⟩
    rw [e]
 ·have:k=ls.length:=by simp at hge;omega
  subst this
  conv=>whnf
  rw [aZ]
  exact nI (.own 0) 1 _ [(0, .lab 0)] [] ⟨rfl,rfl,rfl⟩ rfl aam aam
def sV (R:ByteArray->ByteArray)(id:ByteArray)(l:List ByteArray):Tx:=ab id::(l.filter fun x=>decide (R x=R id)).map ab
theorem JW (R:ByteArray->ByteArray)(id:ByteArray)(l:List ByteArray)(x:ByteArray):sV R id (l++ [x])=if R x=R id then sV R id l++ [ab x]else sV R id l:=by
 unfold sV
 rw [fQ]
 by_cases h:R x=R id
 ·simp [h]
 ·simp [h]
theorem PI (l:List Lk):(oO l).length=2*l.length:=by
 unfold oO
 induction l with
 | nil=>rfl
 | cons k r ih=>rw [jf,ay,ih];simp;omega
theorem UW (l:List Lk) : ∀(i:Nat) (h:i<l.length),(oO l)[2*i]? = some l[i].a∧(oO l)[2*i+1]? = some l[i].b:=by
 induction l with
 | nil=>intro i h;cases h
 | cons k r ih=>
  intro i h
  cases i with
  | zero=>exact⟨rfl,rfl⟩
  | succ i=>
   have:=ih i aaE
   have e:oO (k::r)=k.a::k.b::oO r:=rfl
   rw [e,show 2*(i+1)=2*i+1+1 by omega]
   simpa using this
theorem SH (x:ByteArray):Ie (ab x) = [FV.v (.string x)]:=by
 have:=wO x
 unfold Ie
 rw [show (⟨(ab x).toArray⟩:ByteArray)=x from this]
theorem take_at {α:Type}{l:List α}{n:Nat}{x:α}(h:l[n]? = some x):l.take (n+1)=l.take n++ [x]:=by rw [kH,h];rfl
theorem PK (ls:List Lk)(id:ByteArray)(hl:ls.length<=100000):mP Tryz.prog G 165 [C9 ls,sv id] 0 [] (Is (tl (dsT (sV (rt ls) id (oO ls))))):=by
 refine lJ func165 rfl mixed aag ?_
 (refine oD [] aag (alC ls aai) ?_ ?_;(focus trivial))
 rintro _ _ _ ⟨F,d,rfl,rfl,rfl,hf⟩
 refine vw [0] [] aag (Iz hf id) rfl aam aam rfl ?_
 conv=>whnf
 have hil:=PI ls
 have hlen : ∀k,(sV (rt ls) id ((oO ls).take k)).length<=1+2*ls.length:=fun k=>by
  unfold sV
  have:=dJ (fun x=>decide (rt ls x=rt ls id)) ((oO ls).take k)
  rw [aN]at this
  simp only [ln]
  omega
 refine mY abI 3 [7,21] (fun i:Nat=> [(7, .own 2),(21,iv i)]) (fun i=> [(2, .rows 9 1 ((sV (rt ls) id ((oO ls).take (2*i))).map Ie)),(0,mF F)]) (fun i=>i<=ls.length) (fun i=>ls.length-i) [(2, .lab 1)] [] 0 aag (fun _=>rfl) rfl (aH _) ⟨⟨rfl,rfl, ?_⟩,aam,trivial⟩ aam ?_
 ·show _=(sV (rt ls) id ((oO ls).take 0)).map Ie
  rw [iM]
  show _ = [Ie (ab id)]
  rw [SH]
 intro i hi
 apply lH<;>intro h
 ·have hlt:i<ls.length:=aaG
  have hat:=UW ls i hlt
  refine mJ.mk' i rfl (pF hlt) ?_
  refine mQ.lU (ah hlt) ?_
  conv=>whnf
  generalize ls[i]=k at *
  refine mY abJ 6 [7,31] (fun j:Nat=> [(7, .own 5),(31,iv j)]) (fun j=> [(5, .rows 9 1 ((sV (rt ls) id ((oO ls).take (2*i+j))).map Ie)),(4, .rows 9 1 [[.v (.string k.a)],[.v (.string k.b)]]),(0,mF F)]) (fun j=>j<=2) (fun j=>2-j) [(5, .lab 2)] [] 0 aag (fun _=>rfl) rfl (aH _) ⟨aam,aam,aam,trivial⟩ aam ?_
  intro j hj
  have hj3:j=0∨j=1∨j=2:=aai
  rcases hj3 with rfl|rfl|rfl
  ·conv=>whnf
   have htk:(oO ls).take (2*i+0+1)=(oO ls).take (2*i+0)++ [k.a]:=take_at hat.1
   have hmb:=JW (rt ls) id ((oO ls).take (2*i+0)) k.a
   have hln:=hlen (2*i+0)
   rw [<-htk]at hmb
   refine mJ.mk' 0 rfl (show 0<2 by decide) ?_
   refine mQ.at rfl ?_
   refine vw [0] [] aag (Iz hf k.a) rfl aam aam rfl ?_
   apply lH<;>intro h
   ·rw [if_pos ((pX _ _).1 h)]at hmb
    refine lW.mk (nG aaL aag) ?_
    refine lN.i64 aai ?_
    refine lK (0+1) [(5, .lab 7)] [] rfl ag9 aaw ⟨⟨rfl,rfl, ?_⟩,aam,aam,trivial⟩ aam
    show _=(sV (rt ls) id ((oO ls).take (2*i+0+1))).map Ie
    rw [hmb,aS,List.map_singleton,SH]
   ·rw [if_neg (fun e=>by rw [(pX _ _).2 e]at h;cases h)]at hmb
    refine lN.i64 aai ?_
    refine lK (0+1) [(5, .lab 5)] [] rfl ag9 aaw ⟨⟨rfl,rfl, ?_⟩,aam,aam,trivial⟩ aam
    show _=(sV (rt ls) id ((oO ls).take (2*i+0+1))).map Ie
    rw [hmb]
  ·conv=>whnf
   have htk:(oO ls).take (2*i+1+1)=(oO ls).take (2*i+1)++ [k.b]:=take_at hat.2
   have hmb:=JW (rt ls) id ((oO ls).take (2*i+1)) k.b
   have hln:=hlen (2*i+1)
   rw [<-htk]at hmb
   refine mJ.mk' 1 rfl (show 1<2 by decide) ?_
   refine mQ.at rfl ?_
   refine vw [0] [] aag (Iz hf k.b) rfl aam aam rfl ?_
   apply lH<;>intro h
   ·rw [if_pos ((pX _ _).1 h)]at hmb
    refine lW.mk (nG aaL aag) ?_
    refine lN.i64 aai ?_
    refine lK (1+1) [(5, .lab 7)] [] rfl aha aaw ⟨⟨rfl,rfl, ?_⟩,aam,aam,trivial⟩ aam
    show _=(sV (rt ls) id ((oO ls).take (2*i+1+1))).map Ie
    rw [hmb,aS,List.map_singleton,SH]
   ·rw [if_neg (fun e=>by rw [(pX _ _).2 e]at h;cases h)]at hmb
    refine lN.i64 aai ?_
    refine lK (1+1) [(5, .lab 5)] [] rfl aha aaw ⟨⟨rfl,rfl, ?_⟩,aam,aam,trivial⟩ aam
    show _=(sV (rt ls) id ((oO ls).take (2*i+1+1))).map Ie
    rw [hmb]
  ·refine lN.i64 aai ?_
   exact lK (i+1) [(2, .lab 5)] [] rfl aej hlt ⟨⟨rfl,rfl,by rw [show 2*(i+1)=2*i+2 by omega]⟩,aam,trivial⟩ aam
 ·have hie:i=ls.length:=aaG
  subst hie
  have hL:=hlen (2*ls.length)
  rw [show (oO ls).take (2*ls.length)=oO ls from dR aai]at hL ⊢
  have hne:sV (rt ls) id (oO ls)≠ []:=by simp [sV]
  generalize sV (rt ls) id (oO ls)=L at *
  refine vw [2] [] aag (agF L hne aai) rfl aam aam rfl ?_
  refine vw [2] [] aag (VZ L hne aai) rfl aam aam rfl ?_
  exact nI (tl (dsT L)) 0 [] [] [2] ⟨rfl,rfl,rfl⟩ rfl trivial ⟨rfl,rfl,Y6 _ _⟩
end
theorem zF {k:Int}{l:List Ev}{p:Nat}(h:p<l.length):oq k (l.take (p+1))=if l[p].kind=k then oq k (l.take p)++ [l[p]]else oq k (l.take p):=by
 unfold oq
 rw [aG h,fQ]
 by_cases hc:l[p].kind=k
 ·simp [hc]
 ·simp [hc]
theorem ahd {k:Int}{l:List Ev}{p:Nat}(h:p<l.length)(hc:l[p].kind=k):(oq k l)[(oq k (l.take p)).length]? = some l[p]:=by
 have e:oq k l=oq k (l.take p)++l[p]::oq k (l.drop (p+1)):=by
  have h1:l=l.take p++l[p]::l.drop (p+1):=by rw [<-dH h,cZ]
  have h2:oq k (l.take p++l[p]::l.drop (p+1))=oq k (l.take p)++l[p]::oq k (l.drop (p+1)):=by
   unfold oq
   rw [fQ,List.filter_cons,if_pos (by simp [hc])]
  rwa [<-h1]at h2
 rw [e,dS (au _),iT]
 rfl
theorem ZH (G:Glob)(l:List Ev)(k:Int)(hl:l.length<=1000000):AIt Tryz.prog G 160 [.fp [.lst 10 (l.map wX)] 0, .fp [.v (.int .i64 k)] 0] ((oq k l).map fun e=> [Uo e]):=by
 intro n σ F vs W lp J hG hF hr hst hkp hy h0
 match vs,hr with
 | [v1,v2],⟨r1,r2,_⟩=>
 cases r1 with
 | fp f1=>
 cases r2 with
 | fp f2=>
 cases f1 with
 | fp _ _ b1 o1 hb1 agJ Zb=>
 cases f2 with
 | fp _ _ b2 o2 hb2 agK Zc=>
 obtain⟨x1,hc1,_⟩:=agJ 0 jU
 obtain⟨x2,hc2,_⟩:=agK 0 jU
 have hx1:=Zb 0 _ x1 rfl hc1
 have hx2:=Zc 0 _ x2 rfl hc2
 cases hx2
 obtain⟨oa,c,rfl,hlc,hnc,hrow⟩:=CG (sz:=10) (enc:=wX) (c:=evc) Us (mM.lst (n:=n) (σ:=σ) hx1) hF
 refine EJ func160 rfl aag (aF rfl) rfl aag ?_
 obtain⟨k1,k2,k3⟩:=hkp 0 W h0
 have c1:W.cell? ⟨b1,o1+0,none⟩=some (.slice oa l.length c):=hc1
 refine oZ rfl c1 ?_
 refine su (X:=Nat) abE (fun p=> [(8, .int .i64 p)]) (fun p w'=>p<=l.length∧J (oq k (l.take p)).length w') (fun p=>l.length-p) 0 aag ⟨rfl,trivial⟩ ⟨aH _,h0⟩ ?_
 rintro p w' j ⟨hp,hJ⟩
 obtain⟨m1,m2,m3⟩:=hkp _ w' hJ
 have hx':oV F w' (.lst 10 (l.map wX)) (.slice oa l.length c):=oV.mono (fun b hb=>⟨hb,m3 b hb⟩) hx1
 obtain⟨pJ,c',e',_,_,hrow'⟩:=CG (sz:=10) (enc:=wX) (c:=evc) Us (mM.lst (n:=n) (σ:=σ) hx') (fun b hb=>aP (hF b hb) m1)
 injection e' with e1 e2 e3
 subst e1;subst e3
 have c2:w'.cell? ⟨b2,o2+0,none⟩=some (.int .i64 k):=by rw [qG (m3 b2 hb2)];exact hc2
 apply lH<;>intro h
 ·have hlt:p<l.length:=aaG
  have hsn:=zF (k:=k) hlt
  obtain⟨b,o,rfl,hbl,hc⟩:=hrow'.at (by rw [BL Ur];omega)
  have hseg:=Gp Ur l p hlt
  conv=>whnf
  (repeat (first|(refine lW.mk aaR ?_;conv=>whnf)|(refine nO.mk rfl ?_;conv=>whnf)|(refine ng.keep rfl ?_;conv=>whnf)|(refine uQ _ rfl rfl rfl aaH ?_;conv=>whnf)|(refine vS _ rfl rfl rfl aaH ?_;conv=>whnf)|(refine uf _ rfl rfl rfl aaH ?_;conv=>whnf)|(refine rG aaP aaH rfl rfl ?_;conv=>whnf)|(refine tN aaP aaH rfl rfl ?_;conv=>whnf)|(refine vP aaP aaH rfl ?_;conv=>whnf)|(refine nH rfl aaP aaH ?_;conv=>whnf)))
  refine Xc hc hseg rfl rfl ?_
  refine Vs (rU.new _ _ _) rfl rfl rfl ?_
  intro w3 hO3 hb3
  have hB3:Below w'.heap.size w' w3:=(pW (Below.refl _ _) (au _) _).trans (hO3.below (au _))
  have hJ3:=hst _ _ _ hJ hB3
  obtain⟨_,_,q3⟩:=hkp _ w3 hJ3
  have c3:w3.cell? ⟨b2,o2+0,none⟩=some (.int .i64 k):=by rw [qG (q3 b2 hb2)];exact hc2
  refine nH rfl hb3 rfl ?_
  refine oZ rfl c3 ?_
  refine lH (fun h2=> ?_) (fun h2=> ?_)
  ·have hk:l[p].kind=k:=ae9
   rw [if_pos hk]at hsn
   have hyk:=ahd hlt hk
   refine Vq (l:=evc l[p]) rfl rfl hb3 ?_
   conv=>whnf
   obtain⟨fn,tmps,assign,body,hyr,hR⟩:=hy (oq k (l.take p)).length [Uo l[p]] w3 [.agg (evc l[p]).toArray] (by rw [aJ,hyk];rfl) hJ3 ⟨mZ.agg (zU (evc l[p])),trivial⟩
   refine⟨⟨fn,tmps,assign,body,hyr,RoundIn.mono hR ?_⟩⟩
   rintro e W2 ⟨rfl,hJ2⟩
   refine⟨_,rfl, ?_⟩
   refine qV.mk ⟨_, ?_,(p+1),rfl,⟨?_,trivial⟩,hlt,by rw [hsn,ay];exact hJ2⟩
   ·show l.length -(p+1)<l.length-p;omega
   ·show Value.int .i64 (IntKind.i64.wrap ((p:Int)+1)) = .int .i64 ((p+1:Nat):Int)
    congr 1
    exact IntWalk.i64_in _ aai
  ·have hk : ¬l[p].kind=k:=ae9
   rw [if_neg hk]at hsn
   refine qV.mk ⟨_, ?_,(p+1),rfl,⟨?_,trivial⟩,hlt,by rw [hsn];exact hJ3⟩
   ·show l.length -(p+1)<l.length-p;omega
   ·show Value.int .i64 (IntKind.i64.wrap ((p:Int)+1)) = .int .i64 ((p+1:Nat):Int)
    congr 1
    exact IntWalk.i64_in _ aai
 ·have hpe:p=l.length:=aaG
  subst hpe
  rw [aZ]at hJ
  refine⟨?_⟩
  rw [aj]
  exact hJ
theorem ZI (G:Glob)(l:List Ev)(k:Int):mP Tryz.prog G 81 [el l,iv k] 0 [] (Is (.fn (.func 160) [] [.fp [.lst 10 (l.map wX)] 0, .fp [.v (.int .i64 k)] 0])):=by
 refine lJ func81 rfl mixed aag ?_
 exact Uf [(0,28,[.lst 10 (l.map wX)]),(1,3,[.v (.int .i64 k)])] ⟨rfl,rfl,rfl⟩ (fun p hp=>by
  rcases bI.1 hp with rfl|hp
  ·rfl
  ·rw [aW.1 hp];rfl)
theorem IB {l:List Ev}{i:Nat}{x:List AV}(h:(l.map fun e=> [Uo e])[i]? = some x) : ∃hi:i<l.length,x = [Uo l[i]]:=by
 rw [aJ]at h
 cases hl:l[i]? with
 | none=>rw [hl]at h;cases h
 | some e=>
  obtain⟨hi,rfl⟩:=aB.1 hl
  rw [hl]at h
  injection h with h
  exact⟨hi,h.symm⟩
theorem PL {l:List Ev} : ∀x∈l.map (fun e=> [Uo e]),x.length=1:=fun x hx=>by
 obtain⟨e,_,rfl⟩:=dW.1 hx
 rfl
theorem qR (k:Int)(l:List Ev):(oq k l).length<=l.length:=dJ _ _
section
variable {G:Glob}
theorem ahe (l:List Ev)(hl:l.length<=1000000):mP Tryz.prog G 159 [el l] 0 [] (Is (C9 (oM l))):=by
 refine yI func159 rfl mixed aag ?_
 refine qc [] aag (ZI G l 3) aam ?_
 conv=>whnf
 have hol:=qR 3 l
 refine Bc (ZH G l 3 hl) 2 (fun i=> [(0, .var 175 [.own 1]),(1, .rows 240 3 ((((oq 3 l).take i).map lkE).map UU))]) [(1, .nil)] [] rfl aag rfl (fun x hx=>PL x hx) rfl aam (fun i x hx=> ?_) ?_
 ·obtain⟨hi,rfl⟩:=IB hx
  have hsn:(oq 3 l).take (i+1)=(oq 3 l).take i++ [(oq 3 l)[i]]:=aG hi
  generalize (oq 3 l)[i]=e at *
  refine lW.mk (nG aaL aag) ?_
  refine sN [(1, .lab 4)] [] rfl ⟨aam,⟨rfl,rfl, ?_⟩,trivial⟩
  rw [hsn,aS,aS]
  rfl
 ·rw [aj,aZ]
  exact nI (C9 (oM l)) 0 [] [] [1] ⟨rfl,rfl,rfl⟩ rfl trivial aam
def EY (ls:List Lk)(t:Int):ByteArray->Option Value:=fun id=>if hasB (oO (Ik (wF t ls))) id=true then some (.string (rt (wF t ls) id))else none
def Tm (ls:List Lk)(ts:List Int):Int->Option FV:=fun t=>if t∈ts then some (.fm (EY ls t))else none
def Dc (ls:List Lk):oI:= .var 236 [C9 ls, .mp 1]
theorem ahf (ls:List Lk):Tm ls []=fun _=>none:=by funext t;unfold Tm;simp
theorem SI (ls:List Lk)(t:Int)(ts:List Int):Tm ls (t::t::ts)=Tm ls (t::ts):=by funext k;unfold Tm;simp
theorem ZJ {ls:List Lk}{t:Int}{ts:List Int}(h:t∈ts):Tm ls ts=Tm ls (t::ts):=by
 funext k
 unfold Tm
 by_cases e:k=t
 ·subst e;simp [h]
 ·simp [e]
theorem ajF (l:List Ev)(hl:l.length<=1000000):mP Tryz.prog G 78 [el l] 0 [] (fun a n H=>a = .ptr 0 0∧n=2∧H = [(0,Dc (oM l)),(1, .oU (Tm (oM l) []))]):=by
 refine lJ func78 rfl mixed aag ?_
 refine qc [] aag (ahe l hl) aam ?_
 exact nI (.ptr 0 0) 2 _ [(0, .lab 1),(1, .lab 0)] [] ⟨rfl,rfl,rfl⟩ rfl ⟨aam,(ahf _).symm,trivial⟩ aam
end
structure JX (fr:List Lk)(pos:Nat)(K:ByteArray->Option ByteArray):Prop where
 sound : ∀id v,K id=some v->v=rt fr id∧id∈oO fr
 done : ∀j x,j<pos->(oO fr)[j]? = some x->∃v,K x=some v
theorem JX.nil (fr:List Lk):JX fr 0 fun _=>none:=⟨fun _ _ h=>ajW,fun _ _ h=>absurd h (dQ _)⟩
theorem JX.next {fr:List Lk}{pos:Nat}{K:ByteArray->Option ByteArray}(h:JX fr pos K){x v:ByteArray}(hx:(oO fr)[pos]? = some x)(hv:K x=some v):JX fr (pos+1) K:=⟨h.sound,fun j y hj hy=>by
 rcases eG j pos with h1|h1
 ·exact h.done j y h1 hy
 ·have:j=pos:=aai
  subst this
  rw [hx]at hy
  injection hy with hy
  subst hy
  exact⟨v,hv⟩⟩
theorem JX.put {fr:List Lk}{pos:Nat}{K:ByteArray->Option ByteArray}(h:JX fr pos K){y:ByteArray}(hy:y∈oO fr):JX fr pos fun k=>if k=y then some (rt fr y)else K k:=⟨fun id v hv=>by
  by_cases e:id=y
  ·simp only [if_pos e,aI]at hv
   subst e
   exact⟨hv.symm,hy⟩
  ·simp only [if_neg e]at hv
   exact h.sound id v hv,fun j x hj hx=>by
  by_cases e:x=y
  ·exact⟨_,if_pos e⟩
  ·obtain⟨v,hv⟩:=h.done j x hj hx
   exact⟨v,by simp only [if_neg e];exact hv⟩⟩
theorem JX.fin {ls:List Lk}{t:Int}{K:ByteArray->Option ByteArray}(h:JX (Ik (wF t ls)) (oO (Ik (wF t ls))).length K):(fun k=>(K k).map Value.string)=EY ls t:=by
 funext id
 unfold EY
 cases hK:K id with
 | some v=>
  obtain⟨h1,h2⟩:=h.sound id v hK
  rw [if_pos ((oP _ _).2 h2),h1,SC]
  rfl
 | none=>
  rw [if_neg]
  ·rfl
  ·intro hb
   obtain⟨j,hj⟩:=jk ((oP _ _).1 hb)
   obtain⟨v,hv⟩:=h.done j id (aB.1 hj).1 hj
   rw [hK]at hv
   cases hv
theorem SK {g:Tx}(hs:WE g){z:By}(hz:z∈g)(hle : ∀y∈g, ¬y<z):g[0]? = some z:=by
 cases g with
 | nil=>cases hz
 | cons y r=>
  rcases bI.1 hz with rfl|hz
  ·rfl
  ·exact absurd ((eY.1 hs).1 z hz) (hle y dw)
theorem FZ {fr:List Lk}{x:ByteArray}(hx:x∈oO fr)(y:By):y∈dsT (sV (rt fr) x (oO fr))↔ba y∈oO fr∧rt fr (ba y)=rt fr x:=by
 rw [MF]
 unfold sV
 simp only [bI,dW,fA,decide_eq_true_eq]
 constructor
 ·rintro(rfl|⟨z,⟨h1,h2⟩,rfl⟩)
  ·rw [wO];exact⟨hx,rfl⟩
  ·rw [wO];exact⟨h1,h2⟩
 ·rintro⟨h1,h2⟩
  exact .inr ⟨ba y,⟨h1,h2⟩,rfl⟩
theorem PN {fr:List Lk}{x:ByteArray}(hx:x∈oO fr):(dsT (sV (rt fr) x (oO fr)))[0]? = some (ab (rt fr x)):=by
 refine SK (Y2 _) ((FZ hx _).2 ?_) fun y hy=> ?_
 ·rw [wO];exact⟨ajD hx,UL fr x⟩
 ·have:=((FZ hx y).1 hy).2
  have h:=Zz fr x (ba y) this.symm
  exact h
structure KXj where
 i:Nat
 K:ByteArray->Option ByteArray
theorem ZK (K:ByteArray->Option ByteArray)(y v:ByteArray):(fun k'=>if k'=y then some (Value.string v)else(K k').map Value.string)=fun k=>(if k=y then some v else K k).map Value.string:=by
 funext k
 split<;>rfl
theorem ZL (ls:List Lk)(t:Int)(ts:List Int)(M:ByteArray->Option Value)(hM:M=EY ls t):(fun k'=>if k'=t then some (FV.fm M)else Tm ls ts k')=Tm ls (t::ts):=by
 subst hM
 funext k
 unfold Tm
 by_cases e:k=t
 ·subst e;simp
 ·simp [e]
theorem PO {ls:List Lk}{t:Int}{id:ByteArray}(h:hasB (oO (Ik (wF t ls))) id=false):rt (wF t ls) id=id:=by
 rw [<-SC]
 exact ag7 ((uz _ _).1 h)
section
variable {G:Glob}
theorem Ed (ls:List Lk)(ts:List Int)(t:Int)(id:By)(hl:ls.length<=50000):mP Tryz.prog G 86 [.ptr 0 0,tv id,iv t] 2 [(0,Dc ls),(1, .oU (Tm ls ts))] (fun a n H=>a=sv (yQ ls t id)∧n=2∧H = [(0,Dc ls),(1, .oU (Tm ls (t::ts)))]):=by
 have hul:(wF t ls).length<=ls.length:=FY t ls
 have hfl:(Ik (wF t ls)).length<=ls.length:=bG (UN _) hul
 refine lJ func86 rfl mixed aag ?_
 refine⟨fun hno=> ?_,fun x hx=> ?_⟩
 rotate_left
 ·have ht:t∈ts∧x = .fm (EY ls t):=by
   unfold Tm at hx
   split at hx
   ·rename_i h;injection hx with hx;exact⟨h,hx.symm⟩
   ·cases hx
  obtain⟨ht,rfl⟩:=ht
  refine⟨?_⟩
  cases hb:hasB (oO (Ik (wF t ls))) (ba id)with
  | true=>
   have e:EY ls t (ba id)=some (.string (yQ ls t id)):=if_pos hb
   skip
   rw [e]
   simp only [cO,iY]
   exact nI (sv (yQ ls t id)) 2 [(0,Dc ls),(1, .oU (Tm ls (t::ts)))] [] [] ⟨rfl,rfl,rfl⟩ rfl ⟨aam,(ZJ ht),trivial⟩ aam
  | false=>
   have e:EY ls t (ba id)=none:=if_neg (by rw [hb];exact Bool.false_ne_true)
   have e2:yQ ls t id=ba id:=PO hb
   skip
   rw [e]
   simp only [iP,iC]
   exact nI (sv (yQ ls t id)) 2 [(0,Dc ls),(1, .oU (Tm ls (t::ts)))] [] [] ⟨rfl,rfl,rfl⟩ rfl ⟨aam,(ZJ ht),trivial⟩ (by rw [e2];trivial)
 refine qc [] aag (mP.BD (adD ls t aai)) aam ?_
 refine qc [] aag (mP.BD (adC (wF t ls) aai)) aam ?_
 have hfin : ∀K,JX (Ik (wF t ls)) (oO (Ik (wF t ls))).length K->(fun k=>(K k).map Value.string)=EY ls t:=fun K h=>h.fin
 have hil:=PI (Ik (wF t ls))
 generalize hfr:Ik (wF t ls)=fr at *
 refine mY afy 3 [38] (fun x:KXj=> [(38,iv x.i)]) (fun x=> [(2,mF x.K),(0,Dc ls),(1, .oU (Tm ls ts))]) (fun x=>x.i<=fr.length∧JX fr (2*x.i) x.K) (fun x=>fr.length-x.i) [] [] ⟨0,fun _=>none⟩ aag (fun _=>rfl) rfl ⟨aH _,JX.nil fr⟩ aam aam ?_
 rintro⟨i,K⟩ ⟨hi,hK⟩
 change i<=fr.length at hi
 change JX fr (2*i) K at hK
 apply lH<;>intro h
 rotate_left
 ·have hie:i=fr.length:=aaG
  subst hie
  have hKf:=hfin K (by rw [hil];exact hK)
  subst hfr
  refine⟨?_⟩
  cases hb:hasB (oO (Ik (wF t ls))) (ba id)with
  | true=>
   have e:EY ls t (ba id)=some (.string (yQ ls t id)):=if_pos hb
   (have hM:(fun k=>(K k).map Value.string) (ba id)=EY ls t (ba id):=congrFun hKf (ba id));dsimp only at hM;try dsimp only;rw [hM]
   rw [e]
   simp only [cO,iY]
   exact nI (sv (yQ ls t id)) 2 [(0,Dc ls),(1, .oU (Tm ls (t::ts)))] [] [] ⟨rfl,rfl,rfl⟩ rfl ⟨aam,(ZL ls t ts _ hKf),trivial⟩ aam
  | false=>
   have e:EY ls t (ba id)=none:=if_neg (by rw [hb];exact Bool.false_ne_true)
   have e2:yQ ls t id=ba id:=PO hb
   (have hM:(fun k=>(K k).map Value.string) (ba id)=EY ls t (ba id):=congrFun hKf (ba id));dsimp only at hM;try dsimp only;rw [hM]
   rw [e]
   simp only [iP,iC]
   exact nI (sv (yQ ls t id)) 2 [(0,Dc ls),(1, .oU (Tm ls (t::ts)))] [] [] ⟨rfl,rfl,rfl⟩ rfl ⟨aam,(ZL ls t ts _ hKf),trivial⟩ (by rw [e2];trivial)
 have hlt:i<fr.length:=aaG
 have hat:=UW fr i hlt
 refine mJ.mk' i rfl (pF hlt) ?_
 refine mQ.lU (ah hlt) ?_
 conv=>whnf
 generalize fr[i]=k at *
 refine mY afz 5 [48] (fun x:KXj=> [(48,iv x.i)]) (fun x=> [(4, .rows 9 1 [[.v (.string k.a)],[.v (.string k.b)]]),(2,mF x.K),(0,Dc ls),(1, .oU (Tm ls ts))]) (fun x=>x.i<=2∧JX fr (2*i+x.i) x.K) (fun x=>2-x.i) [] [] ⟨0,K⟩ aag (fun _=>rfl) rfl ⟨aH _,hK⟩ aam aam ?_
 clear hK
 rintro⟨j,K⟩ ⟨hj,hK⟩
 change j<=2 at hj
 change JX fr (2*i+j) K at hK
 have hj3:j=0∨j=1∨j=2:=aai
 rcases hj3 with rfl|rfl|rfl
 ·refine mJ.mk' 0 rfl (show 0<2 by decide) ?_
  refine mQ.at rfl ?_
  refine⟨?_⟩
  have hxm:k.a∈oO fr:=aU hat.1
  cases hKx:K k.a with
  | some v=>
   simp only [hKx,bD,cO,iY]
   refine lN.i64 (by(try dsimp only);omega) ?_
   exact lK ⟨0+1,K⟩ [] [] rfl ag9 ⟨(by decide:0+1<=2),hK.next hat.1 hKx⟩ aam aam
  | none=>
   simp only [hKx,jS,iP,iC]
   conv=>whnf
   have hgm:=FZ hxm
   have hgh:=PN hxm
   have hgl:=FT (sV (rt fr) k.a (oO fr))
   have alD:(sV (rt fr) k.a (oO fr)).length<=1+(oO fr).length:=by
    unfold sV
    have:=dJ (fun x=>decide (rt fr x=rt fr k.a)) (oO fr)
    simp only [ln]
    omega
   have hg5:(dsT (sV (rt fr) k.a (oO fr))).length<=200000:=aai
   refine qc [] aag (PK fr k.a aai) aam ?_
   generalize dsT (sV (rt fr) k.a (oO fr))=g at *
   refine mY XV 5 [64] (fun x:KXj=> [(64,iv x.i)]) (fun x=> [(4, .rows 9 1 [[.v (.string k.a)],[.v (.string k.b)]]),(2,mF x.K),(0,Dc ls),(1, .oU (Tm ls ts))]) (fun x=>x.i<=g.length∧JX fr (2*i+0) x.K∧∀r y,r<x.i->g[r]? = some y->∃v,x.K (ba y)=some v) (fun x=>g.length-x.i) [] [] ⟨0,K⟩ aag (fun _=>rfl) rfl ⟨aH _,hK,fun r y h=>absurd h (dQ r)⟩ aam aam ?_
   clear hK hKx
   rintro⟨q,K⟩ ⟨hq,hK,hr⟩
   change q<=g.length at hq
   change JX fr (2*i+0) K at hK
   change ∀r y,r<q->g[r]? = some y->∃v,K (ba y)=some v at hr
   apply lH<;>intro h
   ·have hlq:q<g.length:=aaG
    have hgq:=ah hlq
    have hyg:=(hgm g[q]).1 (aV hlq)
    generalize g[q]=y at *
    refine mJ.mk' q rfl (pF hlq) ?_
    refine mQ.lU hgq ?_
    refine mJ.mk' 0 rfl aeE ?_
    refine mQ.lU hgh ?_
    refine lN.i64 (by(try dsimp only);omega) ?_
    refine lK ⟨q+1,fun k'=>if k'=ba y then some (rt fr (ba y))else K k'⟩ [] [] rfl (by show g.length -(q+1)<g.length-q;omega) ⟨hlq,hK.put hyg.1,fun r z hr1 hz=> ?_⟩ ⟨aam, ?_,aam,aam,trivial⟩ aam
    ·change r<q+1 at hr1
     show ∃v,(if ba z=ba y then some (rt fr (ba y))else K (ba z))=some v
     by_cases e:ba z=ba y
     ·exact⟨_,if_pos e⟩
     ·rw [if_neg e]
      refine hr r z ?_ hz
      rcases eG r q with h1|h1
      ·exact h1
      ·have:r=q:=aai
       subst this
       rw [hgq]at hz
       injection hz with hz
       exact absurd agC e
    ·rw [hyg.2]
     exact(ZK K (ba y) (ba (ab (rt fr k.a)))).trans (by rw [wO])
   ·have hqe:q=g.length:=aaG
    subst hqe
    obtain⟨r,hr1⟩:=jk ((hgm (ab k.a)).2 (by rw [wO];exact⟨hxm,rfl⟩))
    obtain⟨v,hv⟩:=hr r _ (aB.1 hr1).1 hr1
    rw [wO]at hv
    refine lN.i64 (by(try dsimp only);omega) ?_
    exact lK ⟨0+1,K⟩ [] [] rfl ag9 ⟨(by decide:0+1<=2),hK.next hat.1 hv⟩ aam aam
 ·refine mJ.mk' 1 rfl (show 1<2 by decide) ?_
  refine mQ.at rfl ?_
  refine⟨?_⟩
  have hxm:k.b∈oO fr:=aU hat.2
  cases hKx:K k.b with
  | some v=>
   simp only [hKx,bD,cO,iY]
   refine lN.i64 (by(try dsimp only);omega) ?_
   exact lK ⟨1+1,K⟩ [] [] rfl aha ⟨(by decide:1+1<=2),hK.next hat.2 hKx⟩ aam aam
  | none=>
   simp only [hKx,jS,iP,iC]
   conv=>whnf
   have hgm:=FZ hxm
   have hgh:=PN hxm
   have hgl:=FT (sV (rt fr) k.b (oO fr))
   have alD:(sV (rt fr) k.b (oO fr)).length<=1+(oO fr).length:=by
    unfold sV
    have:=dJ (fun x=>decide (rt fr x=rt fr k.b)) (oO fr)
    simp only [ln]
    omega
   have hg5:(dsT (sV (rt fr) k.b (oO fr))).length<=200000:=aai
   refine qc [] aag (PK fr k.b aai) aam ?_
   generalize dsT (sV (rt fr) k.b (oO fr))=g at *
   refine mY XV 5 [64] (fun x:KXj=> [(64,iv x.i)]) (fun x=> [(4, .rows 9 1 [[.v (.string k.a)],[.v (.string k.b)]]),(2,mF x.K),(0,Dc ls),(1, .oU (Tm ls ts))]) (fun x=>x.i<=g.length∧JX fr (2*i+1) x.K∧∀r y,r<x.i->g[r]? = some y->∃v,x.K (ba y)=some v) (fun x=>g.length-x.i) [] [] ⟨0,K⟩ aag (fun _=>rfl) rfl ⟨aH _,hK,fun r y h=>absurd h (dQ r)⟩ aam aam ?_
   clear hK hKx
   rintro⟨q,K⟩ ⟨hq,hK,hr⟩
   change q<=g.length at hq
   change JX fr (2*i+1) K at hK
   change ∀r y,r<q->g[r]? = some y->∃v,K (ba y)=some v at hr
   apply lH<;>intro h
   ·have hlq:q<g.length:=aaG
    have hgq:=ah hlq
    have hyg:=(hgm g[q]).1 (aV hlq)
    generalize g[q]=y at *
    refine mJ.mk' q rfl (pF hlq) ?_
    refine mQ.lU hgq ?_
    refine mJ.mk' 0 rfl aeE ?_
    refine mQ.lU hgh ?_
    refine lN.i64 (by(try dsimp only);omega) ?_
    refine lK ⟨q+1,fun k'=>if k'=ba y then some (rt fr (ba y))else K k'⟩ [] [] rfl (by show g.length -(q+1)<g.length-q;omega) ⟨hlq,hK.put hyg.1,fun r z hr1 hz=> ?_⟩ ⟨aam, ?_,aam,aam,trivial⟩ aam
    ·change r<q+1 at hr1
     show ∃v,(if ba z=ba y then some (rt fr (ba y))else K (ba z))=some v
     by_cases e:ba z=ba y
     ·exact⟨_,if_pos e⟩
     ·rw [if_neg e]
      refine hr r z ?_ hz
      rcases eG r q with h1|h1
      ·exact h1
      ·have:r=q:=aai
       subst this
       rw [hgq]at hz
       injection hz with hz
       exact absurd agC e
    ·rw [hyg.2]
     exact(ZK K (ba y) (ba (ab (rt fr k.b)))).trans (by rw [wO])
   ·have hqe:q=g.length:=aaG
    subst hqe
    obtain⟨r,hr1⟩:=jk ((hgm (ab k.b)).2 (by rw [wO];exact⟨hxm,rfl⟩))
    obtain⟨v,hv⟩:=hr r _ (aB.1 hr1).1 hr1
    rw [wO]at hv
    refine lN.i64 (by(try dsimp only);omega) ?_
    exact lK ⟨1+1,K⟩ [] [] rfl aha ⟨(by decide:1+1<=2),hK.next hat.2 hv⟩ aam aam
 ·refine lN.i64 (by(try dsimp only);omega) ?_
  exact lK ⟨i+1,K⟩ [] [] rfl (by show fr.length -(i+1)<fr.length-i;omega) ⟨hlt,hK⟩ aam aam
end
def tsN (name:By)(ts:List Int)(e:Ev):List Int:=if e.name=name then e.time::ts else ts
def tsF (name:By)(ts:List Int)(l:List Ev):List Int:=l.foldl (tsN name) ts
theorem ZM (name:By)(ts:List Int)(l:List Ev)(e:Ev):tsF name ts (l++ [e])=tsN name (tsF name ts l) e:=by unfold tsF;rw [fJ];rfl
section
variable {G:Glob}
theorem ZN (ls:List Lk)(ts:List Int)(xs:List Ex)(id:By)(t:Int)(hl:ls.length<=50000)(hx:xs.length<=100000):mP Tryz.prog G 82 [.ptr 0 0,JV xs,tv id,iv t] 2 [(0,Dc ls),(1, .oU (Tm ls ts))] (fun a n H=>a=iv (Ar ls xs id t)∧n=2∧H = [(0,Dc ls),(1, .oU (Tm ls (t::ts)))]):=by
 refine lJ func82 rfl mixed aag ?_
 refine vw [0,1] [] aag (Ed ls ts t id hl) rfl aam aam rfl ?_
 refine mY XU 2 [18] (fun i:Nat=> [(18,iv i)]) (fun i=> [(0,Dc ls),(1, .oU (Tm ls (t::ts)))]) (fun i=>i<=xs.length∧∀j (h:j<xs.length),j<i->Iu ls t id xs[j]=false) (fun i=>xs.length-i) [] [] 0 aag (fun _=>rfl) rfl ⟨aH _,fun j _ h=>absurd h (dQ j)⟩ aam aam ?_
 rintro i ⟨hi,hno⟩
 apply lH<;>intro h
 rotate_left
 ·have hie:i=xs.length:=aaG
  subst hie
  have e:Ar ls xs id t = -1:=ahX
  exact nI (iv (Ar ls xs id t)) 2 _ [] [] ⟨rfl,rfl,rfl⟩ rfl aam ahW
 have hlt:i<xs.length:=aaG
 have hP:Iu ls t id xs[i]=(decide (xs[i].time<=t)&&decide (yQ ls t xs[i].id=yQ ls t id)):=rfl
 have hg:=ah hlt
 have hsome:Iu ls t id xs[i]=true->Ar ls xs id t=(i:Int):=fun h=>ag8
 have hnext:Iu ls t id xs[i]=false->i+1<=xs.length∧∀j (h:j<xs.length),j<i+1->Iu ls t id xs[j]=false:=fun h0=>⟨hlt,fun j h hj=>by
  rcases eG j i with h1|h1
  ·exact hno j h h1
  ·have:j=i:=aai
   subst this
   exact h0⟩
 generalize xs[i]=x at *
 refine mJ.mk' i rfl (pF hlt) ?_
 refine mQ.lU hg ?_
 refine lH (fun h1=> ?_) (fun h1=> ?_)
 rotate_left
 ·refine lN.i64 aai ?_
  exact lK (i+1) [] [] rfl ac4 (hnext (by rw [hP,decide_eq_false aaJ];rfl)) aam aam
 refine vw [0,1] [] aag (Ed ls (t::ts) t x.id hl) rfl aam aam rfl ?_
 rw [SI]
 refine lH (fun h2=> ?_) (fun h2=> ?_)
 ·have h3:=(pX _ _).1 h2
  have e:=hsome (by rw [hP,decide_eq_true aaJ,decide_eq_true h3];rfl)
  exact nI (iv (Ar ls xs id t)) 2 _ [] [] ⟨rfl,rfl,rfl⟩ rfl aam ahW
 ·have h3 : ¬yQ ls t x.id=yQ ls t id:=fun e=>by rw [(pX _ _).2 e]at h2;cases h2
  refine lN.i64 aai ?_
  exact lK (i+1) [] [] rfl ac4 (hnext (by rw [hP,decide_eq_false h3,Bool.and_false])) aam aam
theorem adE (ls:List Lk)(ts:List Int)(xs:List Ex)(id:By)(t:Int)(hl:ls.length<=50000)(hx:xs.length<=100000):mP Tryz.prog G 82 [.ptr 0 0, .own 2,tv id,iv t] 3 [(0,Dc ls),(1, .oU (Tm ls ts)),(2, .rows 99 6 (xs.map SG))] (fun a n H=>a=iv (Ar ls xs id t)∧n=3∧H = [(0,Dc ls),(1, .oU (Tm ls (t::ts))),(2, .rows 99 6 (xs.map SG))]):=by
 refine lJ func82 rfl mixed aag ?_
 refine vw [0,1] [] aag (Ed ls ts t id hl) rfl aam aam rfl ?_
 refine mY XU 3 [18] (fun i:Nat=> [(18,iv i)]) (fun i=> [(0,Dc ls),(1, .oU (Tm ls (t::ts))),(2, .rows 99 6 (xs.map SG))]) (fun i=>i<=xs.length∧∀j (h:j<xs.length),j<i->Iu ls t id xs[j]=false) (fun i=>xs.length-i) [] [] 0 aag (fun _=>rfl) rfl ⟨aH _,fun j _ h=>absurd h (dQ j)⟩ aam aam ?_
 rintro i ⟨hi,hno⟩
 apply lH<;>intro h
 rotate_left
 ·have hie:i=xs.length:=aaG
  subst hie
  have e:Ar ls xs id t = -1:=ahX
  exact nI (iv (Ar ls xs id t)) 3 _ [] [] ⟨rfl,rfl,rfl⟩ rfl aam ahW
 have hlt:i<xs.length:=aaG
 have hP:Iu ls t id xs[i]=(decide (xs[i].time<=t)&&decide (yQ ls t xs[i].id=yQ ls t id)):=rfl
 have hg:=ah hlt
 have hsome:Iu ls t id xs[i]=true->Ar ls xs id t=(i:Int):=fun h=>ag8
 have hnext:Iu ls t id xs[i]=false->i+1<=xs.length∧∀j (h:j<xs.length),j<i+1->Iu ls t id xs[j]=false:=fun h0=>⟨hlt,fun j h hj=>by
  rcases eG j i with h1|h1
  ·exact hno j h h1
  ·have:j=i:=aai
   subst this
   exact h0⟩
 generalize xs[i]=x at *
 refine mJ.mk' i rfl (pF hlt) ?_
 refine mQ.lU hg ?_
 refine lH (fun h1=> ?_) (fun h1=> ?_)
 rotate_left
 ·refine lN.i64 aai ?_
  exact lK (i+1) [] [] rfl ac4 (hnext (by rw [hP,decide_eq_false aaJ];rfl)) aam aam
 refine vw [0,1] [] aag (Ed ls (t::ts) t x.id hl) rfl aam aam rfl ?_
 rw [SI]
 refine lH (fun h2=> ?_) (fun h2=> ?_)
 ·have h3:=(pX _ _).1 h2
  have e:=hsome (by rw [hP,decide_eq_true aaJ,decide_eq_true h3];rfl)
  exact nI (iv (Ar ls xs id t)) 3 _ [] [] ⟨rfl,rfl,rfl⟩ rfl aam ahW
 ·have h3 : ¬yQ ls t x.id=yQ ls t id:=fun e=>by rw [(pX _ _).2 e]at h2;cases h2
  refine lN.i64 aai ?_
  exact lK (i+1) [] [] rfl ac4 (hnext (by rw [hP,decide_eq_false h3,Bool.and_false])) aam aam
theorem adF (ls:List Lk)(ts:List Int)(l:List Ev)(name:By)(hls:ls.length<=50000)(hl:l.length<=50000):mP Tryz.prog G 79 [.ptr 0 0,el l,tv name] 2 [(0,Dc ls),(1, .oU (Tm ls ts))] (fun a n H=>a=JV (tY ls name (oq 1 l))∧n=2∧H = [(0,Dc ls),(1, .oU (Tm ls (tsF name ts (oq 1 l))))]):=by
 refine yI func79 rfl mixed aag ?_
 refine qc [] aag (ZI G l 1) aam ?_
 have hol:=qR 1 l
 refine Bc (ZH G l 1 aai) 6 (fun i=> [(0,Dc ls),(1, .oU (Tm ls (tsF name ts ((oq 1 l).take i)))),(2, .var 146 [.ptr 0 0]),(3, .var 9 [tv name]),(4, .var 97 [.own 5]),(5, .rows 99 6 ((tY ls name ((oq 1 l).take i)).map SG))]) [(5, .nil)] [] rfl aag rfl (fun x hx=>PL x hx) rfl aam (fun i x hx=> ?_) ?_
 ·obtain⟨hi,rfl⟩:=IB hx
  have hsn:(oq 1 l).take (i+1)=(oq 1 l).take i++ [(oq 1 l)[i]]:=aG hi
  have h1:=Ec ls name ((oq 1 l).take i) (oq 1 l)[i]
  have h2:=ZM name ts ((oq 1 l).take i) (oq 1 l)[i]
  have h3:=zD ls name ((oq 1 l).take i)
  rw [aN]at h3
  rw [<-hsn]at h1 h2
  generalize (oq 1 l)[i]=e at *
  generalize tY ls name ((oq 1 l).take i)=o at *
  generalize tsF name ts ((oq 1 l).take i)=ts' at *
  unfold CZ at h1
  unfold tsN at h2
  apply lH<;>intro h
  rotate_left
  ·have hne : ¬e.name=name:=by simpa [mW]using h
   rw [if_neg (fun h=>hne h.1)]at h1
   rw [if_neg hne]at h2
   refine sN [(5, .lab 5)] [] rfl ⟨aam, ?_,aam,aam,aam, ?_,trivial⟩
   ·show Tm ls ts'=Tm ls _;rw [h2]
   ·exact⟨rfl,rfl,by rw [h1]⟩
  have hna:e.name=name:=by simpa [mW]using h
  rw [if_pos hna]at h2
  refine vw [0,1,5] [] aag (adE ls ts' o e.id e.time hls aai) rfl aam aam rfl ?_
  apply lH<;>intro h
  ·rw [if_pos ⟨hna,by simpa using h⟩]at h1
   refine lW.mk (nG aaL aag) ?_
   refine sN [(5, .lab 8)] [] rfl ⟨aam, ?_,aam,aam,aam, ?_,trivial⟩
   ·show Tm ls (e.time::ts')=Tm ls _;rw [h2]
   ·refine⟨rfl,rfl, ?_⟩
    rw [h1,aS]
    rfl
  ·rw [if_neg (fun h'=>by simp at h;omega)]at h1
   refine sN [(5, .lab 5)] [] rfl ⟨aam, ?_,aam,aam,aam, ?_,trivial⟩
   ·show Tm ls (e.time::ts')=Tm ls _;rw [h2]
   ·exact⟨rfl,rfl,by rw [h1]⟩
 ·rw [aj,aZ]
  exact nI (JV (tY ls name (oq 1 l))) 2 _ [] [5] ⟨rfl,rfl,rfl⟩ rfl aam aam
end
section
open Ky
def kyM (s:By):Bool:=xO ⟨s.toArray⟩
def Bh (m:Mt):Int:=
 if ¬(m.kind=1∨m.kind=2∨m.kind=3∨m.kind=4)then 7
 else if kyM m.name=false∨(m.kind=4∧kyM m.below=false)then 6
 else if m.window<1∨68719476736<m.window∨m.cap<1∨1048576<m.cap∨m.least < -1099511627776∨1099511627776<m.least∨m.before<0∨68719476736<m.before then 3
 else if(m.kind≠4∧m.below≠ [])∨(m.kind=3∧m.cap≠1)then 15
 else 0
def WH (s:By)(f:Nat):FV:= .v (.agg #[.string ⟨s.toArray⟩, .func (.func f) #[] #[]])
def KM:Int->Option FV:=fun k=>
 if k=4 then some (WH [114,97,116,105,111] 157)else
 if k=3 then some (WH [115,104,97,114,101] 158)else
 if k=2 then some (WH [99,111,117,110,116] 158)else
 if k=1 then some (WH [115,117,109] 157)else none
section
variable {G:Glob}
theorem Ee:mP Tryz.prog G 77 [] 0 [] (fun a n H=>a = .mp 0∧n=1∧H = [(0, .oU KM)]):=by
 refine lJ func77 rfl mixed aag ?_
 exact nI (.mp 0) 1 [(0, .oU KM)] [(0, .lab 0)] [] ⟨rfl,rfl,rfl⟩ rfl ⟨rfl,trivial⟩ aam
end
def IC:Plan:= .take 1 (.take 2 (.two 0 (.two 3 (tk [4,5,6] (.one 7 (.one 8 (.take 9 .done)))) 7 (.one 3 (tk [4,5,6] (.one 8 (.take 9 .done))))) 7 (.one 0 (.one 3 (tk [4,5,6] (.one 8 (.take 9 .done)))))))
theorem NK.some {M:Int->Option FV}{k:Int}{z:Value}{K:AV->Bool->Prop}{x:FV}(h:M k=Option.some x)(c:K x.val true):NK M k z K:=⟨(fun e=>by rw [h]at e;cases e),fun y e=>by rw [h]at e;injection e with e;subst e;exact c⟩
theorem NK.none {M:Int->Option FV}{k:Int}{z:Value}{K:AV->Bool->Prop}(h:M k=Option.none)(c:K (Np z) false):NK M k z K:=⟨fun _=>c,fun y e=>akn⟩
theorem ZO (k:Int)(name below:By)(window cap least before:Int)(z1:name.length<=140737488355328)(z2:below.length<=140737488355328):mP Tryz.prog GS 36 [.agg [iv k,tv name,tv below,iv window,iv cap,iv least,iv before]] 0 [] (Is (.v (.int .i64 (Bh ⟨k,name,below,window,cap,least,before⟩)))):=by
 have k1:=H8 ⟨name.toArray⟩ ajP
 have k2:=H8 ⟨below.toArray⟩ (by show below.length<=_;omega)
 unfold Bh kyM
 generalize xO ⟨name.toArray⟩=b1 at *
 generalize xO ⟨below.toArray⟩=b2 at *
 clear z1 z2
 by_cases c1:k=1
 ·subst c1
  simp only [true_or,not_true,if_false,show ¬(1:Int)=4 by decide,show ¬(1:Int)=3 by decide,false_and,or_false,ne_eq,not_false_eq_true,true_and]
  refine lJ func36 rfl mixed aag ?_
  refine lX (fun _=>IC) [1,2] aag ?_
  conv=>whnf
  repeat' (first
   | (refine And.intro ?_ ?_<;>(conv=>whnf))
   | (refine oD [] aag Ee ?_ ?_;(focus (trivial;done));rintro _ _ _ ⟨rfl,rfl,rfl⟩;(conv=>whnf))
   | (refine NK.some (x:=WH [115,117,109] 157) rfl ?_;conv=>whnf)
   | ((refine lM [] aag (k1) rfl ?_ ?_;(focus (trivial;done));(conv=>whnf)))
   | ((refine lM [] aag (k2) rfl ?_ ?_;(focus (trivial;done));(conv=>whnf)))
   | (apply lH<;>intro h<;>(first|(exfalso;simp only [*,bY,bT,aX,dB,reduceCtorEq]at *;done)|(conv=>whnf))))
  all_goals (refine lQ [] (nN ?_))
  all_goals (simp only [cond_true,cond_false,mW,dD,dA,decide_eq_true_eq,decide_eq_false_iff_not,beq_iff_eq,bne_iff_ne,beq_eq_false_iff_ne,bne_eq_false_iff_eq,ne_eq,bV,bY,bT,eX,gt_iff_lt,fM]at *)
  all_goals (clear k1 k2)
  all_goals first
   | (simp_all;done)
   | (simp_all;omega)
   | ((repeat' split)<;>first|rfl|(exfalso;simp_all;done)|(exfalso;simp_all;omega))
 by_cases c2:k=2
 ·subst c2
  simp only [true_or,or_true,not_true,if_false,show ¬(2:Int)=4 by decide,show ¬(2:Int)=3 by decide,false_and,or_false,ne_eq,not_false_eq_true,true_and]
  refine lJ func36 rfl mixed aag ?_
  refine lX (fun _=>IC) [1,2] aag ?_
  conv=>whnf
  repeat' (first
   | (refine And.intro ?_ ?_<;>(conv=>whnf))
   | (refine oD [] aag Ee ?_ ?_;(focus (trivial;done));rintro _ _ _ ⟨rfl,rfl,rfl⟩;(conv=>whnf))
   | (refine NK.some (x:=WH [99,111,117,110,116] 158) rfl ?_;conv=>whnf)
   | ((refine lM [] aag (k1) rfl ?_ ?_;(focus (trivial;done));(conv=>whnf)))
   | ((refine lM [] aag (k2) rfl ?_ ?_;(focus (trivial;done));(conv=>whnf)))
   | (apply lH<;>intro h<;>(first|(exfalso;simp only [*,bY,bT,aX,dB,reduceCtorEq]at *;done)|(conv=>whnf))))
  all_goals (refine lQ [] (nN ?_))
  all_goals (simp only [cond_true,cond_false,mW,dD,dA,decide_eq_true_eq,decide_eq_false_iff_not,beq_iff_eq,bne_iff_ne,beq_eq_false_iff_ne,bne_eq_false_iff_eq,ne_eq,bV,bY,bT,eX,gt_iff_lt,fM]at *)
  all_goals (clear k1 k2)
  all_goals first
   | (simp_all;done)
   | (simp_all;omega)
   | ((repeat' split)<;>first|rfl|(exfalso;simp_all;done)|(exfalso;simp_all;omega))
 by_cases c3:k=3
 ·subst c3
  simp only [true_or,or_true,not_true,if_false,show ¬(3:Int)=4 by decide,false_and,or_false,ne_eq,not_false_eq_true,true_and]
  refine lJ func36 rfl mixed aag ?_
  refine lX (fun _=>IC) [1,2] aag ?_
  conv=>whnf
  repeat' (first
   | (refine And.intro ?_ ?_<;>(conv=>whnf))
   | (refine oD [] aag Ee ?_ ?_;(focus (trivial;done));rintro _ _ _ ⟨rfl,rfl,rfl⟩;(conv=>whnf))
   | (refine NK.some (x:=WH [115,104,97,114,101] 158) rfl ?_;conv=>whnf)
   | ((refine lM [] aag (k1) rfl ?_ ?_;(focus (trivial;done));(conv=>whnf)))
   | ((refine lM [] aag (k2) rfl ?_ ?_;(focus (trivial;done));(conv=>whnf)))
   | (apply lH<;>intro h<;>(first|(exfalso;simp only [*,bY,bT,aX,dB,reduceCtorEq]at *;done)|(conv=>whnf))))
  all_goals (refine lQ [] (nN ?_))
  all_goals (simp only [cond_true,cond_false,mW,dD,dA,decide_eq_true_eq,decide_eq_false_iff_not,beq_iff_eq,bne_iff_ne,beq_eq_false_iff_ne,bne_eq_false_iff_eq,ne_eq,bV,bY,bT,eX,gt_iff_lt,fM]at *)
  all_goals (clear k1 k2)
  all_goals first
   | (simp_all;done)
   | (simp_all;omega)
   | ((repeat' split)<;>first|rfl|(exfalso;simp_all;done)|(exfalso;simp_all;omega))
 by_cases c4:k=4
 ·subst c4
  simp only [or_true,not_true,if_false,show ¬(4:Int)=3 by decide,false_and,or_false,ne_eq,true_and,false_or]
  refine lJ func36 rfl mixed aag ?_
  refine lX (fun _=>IC) [1,2] aag ?_
  conv=>whnf
  repeat' (first
   | (refine And.intro ?_ ?_<;>(conv=>whnf))
   | (refine oD [] aag Ee ?_ ?_;(focus (trivial;done));rintro _ _ _ ⟨rfl,rfl,rfl⟩;(conv=>whnf))
   | (refine NK.some (x:=WH [114,97,116,105,111] 157) rfl ?_;conv=>whnf)
   | ((refine lM [] aag (k1) rfl ?_ ?_;(focus (trivial;done));(conv=>whnf)))
   | ((refine lM [] aag (k2) rfl ?_ ?_;(focus (trivial;done));(conv=>whnf)))
   | (apply lH<;>intro h<;>(first|(exfalso;simp only [*,bY,bT,aX,dB,reduceCtorEq]at *;done)|(conv=>whnf))))
  all_goals (refine lQ [] (nN ?_))
  all_goals (simp only [cond_true,cond_false,mW,dD,dA,decide_eq_true_eq,decide_eq_false_iff_not,beq_iff_eq,bne_iff_ne,beq_eq_false_iff_ne,bne_eq_false_iff_eq,ne_eq,bV,bY,bT,eX,gt_iff_lt,fM]at *)
  all_goals (clear k1 k2)
  all_goals first
   | (simp_all;done)
   | (simp_all;omega)
   | ((repeat' split)<;>first|rfl|(exfalso;simp_all;done)|(exfalso;simp_all;omega))
 have hno:KM k=none:=by unfold KM;rw [if_neg c4,if_neg c3,if_neg c2,if_neg c1]
 rw [if_pos (by simp [c1,c2,c3,c4])]
 ·skip
  refine lJ func36 rfl mixed aag ?_
  refine lX (fun _=>IC) [1,2] aag ?_
  conv=>whnf
  repeat' (first
   | (refine And.intro ?_ ?_<;>(conv=>whnf))
   | (refine oD [] aag Ee ?_ ?_;(focus (trivial;done));rintro _ _ _ ⟨rfl,rfl,rfl⟩;(conv=>whnf))
   | (refine NK.none hno ?_;conv=>whnf)
   | ((refine lM [] aag (k1) rfl ?_ ?_;(focus (trivial;done));(conv=>whnf)))
   | ((refine lM [] aag (k2) rfl ?_ ?_;(focus (trivial;done));(conv=>whnf)))
   | (apply lH<;>intro h<;>(first|(exfalso;simp only [*,bY,bT,aX,dB,reduceCtorEq]at *;done)|(conv=>whnf))))
  all_goals (refine lQ [] (nN ?_))
  all_goals (simp only [cond_true,cond_false,mW,dD,dA,decide_eq_true_eq,decide_eq_false_iff_not,beq_iff_eq,bne_iff_ne,beq_eq_false_iff_ne,bne_eq_false_iff_eq,ne_eq,bV,bY,bT,eX,gt_iff_lt,fM]at *)
  all_goals (clear k1 k2)
  all_goals first
   | (simp_all;done)
   | (simp_all;omega)
   | ((repeat' split)<;>first|rfl|(exfalso;simp_all;done)|(exfalso;simp_all;omega))
theorem Jm (n a b:Int):mP Tryz.prog GS 93 [iv n,iv a,iv b] 0 [] (Is (bv (decide (a<=n)&&decide (n<=b)))):=by
 refine lJ func93 rfl mixed aag ?_
 conv=>whnf
 repeat' (apply lH<;>intro h<;>(conv=>whnf))
 all_goals (refine lQ [] (congrArg Value.bool ?_))
 all_goals (simp_all;try omega)
theorem ZP (k:Int)(name below:By)(window cap least before:Int)(z1:name.length<=140737488355328)(z2:below.length<=140737488355328):mP Tryz.prog GS 43 [.agg [iv k,tv name,tv below,iv window,iv cap,iv least,iv before]] 0 [] (Is (.v (.int .i64 (Bh ⟨k,name,below,window,cap,least,before⟩)))):=by
 have k1:=Yp ⟨name.toArray⟩ ajP
 have k2:=Yp ⟨below.toArray⟩ (by show below.length<=_;omega)
 unfold Bh kyM
 generalize xO ⟨name.toArray⟩=b1 at *
 generalize xO ⟨below.toArray⟩=b2 at *
 clear z1 z2
 by_cases c1:k=1
 ·subst c1
  simp only [true_or,not_true,if_false,show ¬(1:Int)=4 by decide,show ¬(1:Int)=3 by decide,false_and,or_false,ne_eq,not_false_eq_true,true_and]
  refine lJ func43 rfl mixed aag ?_
  conv=>whnf
  repeat' (first
   | ((refine lM [] aag (Jm 1 1 4) rfl ?_ ?_;(focus (trivial;done));(conv=>whnf)))
   | ((refine lM [] aag (k1) rfl ?_ ?_;(focus (trivial;done));(conv=>whnf)))
   | ((refine lM [] aag (k2) rfl ?_ ?_;(focus (trivial;done));(conv=>whnf)))
   | ((refine lM [] aag (Jm window 1 68719476736) rfl ?_ ?_;(focus (trivial;done));(conv=>whnf)))
   | ((refine lM [] aag (Jm cap 1 1048576) rfl ?_ ?_;(focus (trivial;done));(conv=>whnf)))
   | ((refine lM [] aag (Jm least (-1099511627776) 1099511627776) rfl ?_ ?_;(focus (trivial;done));(conv=>whnf)))
   | ((refine lM [] aag (Jm before 0 68719476736) rfl ?_ ?_;(focus (trivial;done));(conv=>whnf)))
   | (apply lH<;>intro h<;>(first|(exfalso;simp only [*,bY,bT,aX,dB,reduceCtorEq]at *;done)|(conv=>whnf))))
  all_goals (refine lQ [] (nN ?_))
  all_goals (simp only [cond_true,cond_false,mW,dD,dA,decide_eq_true_eq,decide_eq_false_iff_not,beq_iff_eq,bne_iff_ne,beq_eq_false_iff_ne,bne_eq_false_iff_eq,ne_eq,bV,bY,bT,eX,gt_iff_lt,fM]at *)
  all_goals (clear k1 k2)
  all_goals first
   | (simp_all;done)
   | (simp_all;omega)
   | ((repeat' split)<;>first|rfl|(exfalso;simp_all;done)|(exfalso;simp_all;omega))
 by_cases c2:k=2
 ·subst c2
  simp only [true_or,or_true,not_true,if_false,show ¬(2:Int)=4 by decide,show ¬(2:Int)=3 by decide,false_and,or_false,ne_eq,not_false_eq_true,true_and]
  refine lJ func43 rfl mixed aag ?_
  conv=>whnf
  repeat' (first
   | ((refine lM [] aag (Jm 2 1 4) rfl ?_ ?_;(focus (trivial;done));(conv=>whnf)))
   | ((refine lM [] aag (k1) rfl ?_ ?_;(focus (trivial;done));(conv=>whnf)))
   | ((refine lM [] aag (k2) rfl ?_ ?_;(focus (trivial;done));(conv=>whnf)))
   | ((refine lM [] aag (Jm window 1 68719476736) rfl ?_ ?_;(focus (trivial;done));(conv=>whnf)))
   | ((refine lM [] aag (Jm cap 1 1048576) rfl ?_ ?_;(focus (trivial;done));(conv=>whnf)))
   | ((refine lM [] aag (Jm least (-1099511627776) 1099511627776) rfl ?_ ?_;(focus (trivial;done));(conv=>whnf)))
   | ((refine lM [] aag (Jm before 0 68719476736) rfl ?_ ?_;(focus (trivial;done));(conv=>whnf)))
   | (apply lH<;>intro h<;>(first|(exfalso;simp only [*,bY,bT,aX,dB,reduceCtorEq]at *;done)|(conv=>whnf))))
  all_goals (refine lQ [] (nN ?_))
  all_goals (simp only [cond_true,cond_false,mW,dD,dA,decide_eq_true_eq,decide_eq_false_iff_not,beq_iff_eq,bne_iff_ne,beq_eq_false_iff_ne,bne_eq_false_iff_eq,ne_eq,bV,bY,bT,eX,gt_iff_lt,fM]at *)
  all_goals (clear k1 k2)
  all_goals first
   | (simp_all;done)
   | (simp_all;omega)
   | ((repeat' split)<;>first|rfl|(exfalso;simp_all;done)|(exfalso;simp_all;omega))
 by_cases c3:k=3
 ·subst c3
  simp only [true_or,or_true,not_true,if_false,show ¬(3:Int)=4 by decide,false_and,or_false,ne_eq,not_false_eq_true,true_and]
  refine lJ func43 rfl mixed aag ?_
  conv=>whnf
  repeat' (first
   | ((refine lM [] aag (Jm 3 1 4) rfl ?_ ?_;(focus (trivial;done));(conv=>whnf)))
   | ((refine lM [] aag (k1) rfl ?_ ?_;(focus (trivial;done));(conv=>whnf)))
   | ((refine lM [] aag (k2) rfl ?_ ?_;(focus (trivial;done));(conv=>whnf)))
   | ((refine lM [] aag (Jm window 1 68719476736) rfl ?_ ?_;(focus (trivial;done));(conv=>whnf)))
   | ((refine lM [] aag (Jm cap 1 1048576) rfl ?_ ?_;(focus (trivial;done));(conv=>whnf)))
   | ((refine lM [] aag (Jm least (-1099511627776) 1099511627776) rfl ?_ ?_;(focus (trivial;done));(conv=>whnf)))
   | ((refine lM [] aag (Jm before 0 68719476736) rfl ?_ ?_;(focus (trivial;done));(conv=>whnf)))
   | (apply lH<;>intro h<;>(first|(exfalso;simp only [*,bY,bT,aX,dB,reduceCtorEq]at *;done)|(conv=>whnf))))
  all_goals (refine lQ [] (nN ?_))
  all_goals (simp only [cond_true,cond_false,mW,dD,dA,decide_eq_true_eq,decide_eq_false_iff_not,beq_iff_eq,bne_iff_ne,beq_eq_false_iff_ne,bne_eq_false_iff_eq,ne_eq,bV,bY,bT,eX,gt_iff_lt,fM]at *)
  all_goals (clear k1 k2)
  all_goals first
   | (simp_all;done)
   | (simp_all;omega)
   | ((repeat' split)<;>first|rfl|(exfalso;simp_all;done)|(exfalso;simp_all;omega))
 by_cases c4:k=4
 ·subst c4
  simp only [or_true,not_true,if_false,show ¬(4:Int)=3 by decide,false_and,or_false,ne_eq,true_and,false_or]
  refine lJ func43 rfl mixed aag ?_
  conv=>whnf
  repeat' (first
   | ((refine lM [] aag (Jm 4 1 4) rfl ?_ ?_;(focus (trivial;done));(conv=>whnf)))
   | ((refine lM [] aag (k1) rfl ?_ ?_;(focus (trivial;done));(conv=>whnf)))
   | ((refine lM [] aag (k2) rfl ?_ ?_;(focus (trivial;done));(conv=>whnf)))
   | ((refine lM [] aag (Jm window 1 68719476736) rfl ?_ ?_;(focus (trivial;done));(conv=>whnf)))
   | ((refine lM [] aag (Jm cap 1 1048576) rfl ?_ ?_;(focus (trivial;done));(conv=>whnf)))
   | ((refine lM [] aag (Jm least (-1099511627776) 1099511627776) rfl ?_ ?_;(focus (trivial;done));(conv=>whnf)))
   | ((refine lM [] aag (Jm before 0 68719476736) rfl ?_ ?_;(focus (trivial;done));(conv=>whnf)))
   | (apply lH<;>intro h<;>(first|(exfalso;simp only [*,bY,bT,aX,dB,reduceCtorEq]at *;done)|(conv=>whnf))))
  all_goals (refine lQ [] (nN ?_))
  all_goals (simp only [cond_true,cond_false,mW,dD,dA,decide_eq_true_eq,decide_eq_false_iff_not,beq_iff_eq,bne_iff_ne,beq_eq_false_iff_ne,bne_eq_false_iff_eq,ne_eq,bV,bY,bT,eX,gt_iff_lt,fM]at *)
  all_goals (clear k1 k2)
  all_goals first
   | (simp_all;done)
   | (simp_all;omega)
   | ((repeat' split)<;>first|rfl|(exfalso;simp_all;done)|(exfalso;simp_all;omega))
 rw [if_pos (by simp [c1,c2,c3,c4])]
 have hb:(decide (1<=k)&&decide (k<=4))=false:=by
  rw [Bool.and_eq_false_iff,decide_eq_false_iff_not,decide_eq_false_iff_not];omega
 refine lJ func43 rfl mixed aag ?_
 (refine lM [] aag (Jm k 1 4) rfl ?_ ?_;(focus trivial))
 rw [hb]
 exact lQ [] aam
theorem ZQ (m:Mt)(z1:m.name.length<=140737488355328)(z2:m.below.length<=140737488355328):mP Tryz.prog GS 36 [Jl m] 0 [] (Is (iv (Bh m))):=ZO m.kind m.name m.below m.window m.cap m.least m.before z1 z2
theorem ZR (m:Mt)(z1:m.name.length<=140737488355328)(z2:m.below.length<=140737488355328):mP Tryz.prog GS 43 [Jl m] 0 [] (Is (iv (Bh m))):=ZP m.kind m.name m.below m.window m.cap m.least m.before z1 z2
end
section
open Ky
theorem ahh {n:Nat}(h:n<=100000):n*112<=140737488355328∧n<=maxLen:=⟨by omega,by unfold maxLen;omega⟩
section
variable {G:Glob}
theorem ahi (l:List Ev)(hs:l.length<=10000):mP Tryz.prog G 106 [el l] 0 [] (vZ 63 10 (l.map wX)):=by
 refine lJ func106 rfl mixed aag ?_
 refine⟨fun b hb=> ?_⟩
 cases b with
 | true=>
  have h0:l = []:=by
   cases l with
   | nil=>rfl
   | cons e r=>exact absurd (hb abb) aaw
  subst h0
  exact nI (.own 0) 1 _ [(0, .nil)] [] ⟨rfl,rfl,rfl⟩ rfl aam aam
 | false=>
  refine lW.mk (ahh aaL) ?_
  exact nI (.own 0) 1 _ [(0, .lab 1)] [] ⟨rfl,rfl,rfl⟩ rfl aam aam
theorem ajH (e:Ev)(hk:e.kind=2):mP Tryz.prog G 161 [Uo e] 0 [] (Is (bv false)):=by
 refine lJ func161 rfl mixed aag ?_
 exact lQ [] (congrArg Value.bool ahT)
theorem ajI (e:Ev):mP Tryz.prog G 157 [Uo e] 0 [] (Is (iv e.val)):=by
 refine lJ func157 rfl mixed aag ?_
 exact lQ [] aam
theorem ajJ (e:Ev):mP Tryz.prog G 158 [Uo e] 0 [] (Is (iv 1)):=by
 refine lJ func158 rfl mixed aag ?_
 exact lQ [] aam
def rwE (l:List Ev):oI:= .rows 63 10 (l.map wX)
theorem alF (l:List Ev)(hl:l.length<=100000)(hk : ∀e∈l,e.kind=2):mP Tryz.prog G 203 [.own 0, .v (.func (.func 161) #[] #[])] 1 [(0,rwE l)] (fun a n H=>a=iv (-1)∧n=1∧H = [(0,rwE l)]):=by
 refine lJ func203 rfl mixed aag ?_
 refine mY ab2 1 [8] (fun i:Nat=> [(8,iv i)]) (fun _=> [(0,rwE l)]) (fun i=>i<=l.length) (fun i=>l.length-i) [] [] 0 aag (fun _=>rfl) rfl (aH _) aam aam ?_
 intro i hi
 apply lH<;>intro h
 ·have hlt:i<l.length:=aaG
  refine mJ.mk' i rfl (pF hlt) ?_
  refine mQ.lU (ah hlt) ?_
  (refine lM [] aag (ajH l[i] (hk _ (aV hlt))) rfl ?_ ?_;(focus trivial))
  refine lN.i64 aai ?_
  exact lK (i+1) [] [] rfl aaF hlt aam aam
 ·exact nI (iv (-1)) 1 _ [] [] ⟨rfl,rfl,rfl⟩ rfl aam aam
theorem alG (l:List Ev)(hl:l.length<=100000)(hk : ∀e∈l,e.kind=2):mP Tryz.prog G 129 [.own 0, .v (.func (.func 161) #[] #[])] 1 [(0,rwE l)] (fun a n H=>a = .own 0∧n=1∧H = [(0,rwE l)]):=by
 refine lJ func129 rfl mixed aag ?_
 refine vw [0] [] aag (alF l hl hk) rfl aam aam rfl ?_
 exact nI (.own 0) 1 _ [] [] ⟨rfl,rfl,rfl⟩ rfl aam aam
end
def stV (m:Mt)(a:Int)(e:Ev):Int:=if e.name=m.name∧m.least<=e.val then a+mtW m e else a
def stB (m:Mt)(a:Int)(e:Ev):Int:=if m.kind=4∧e.name=m.below then a+e.val else a
theorem PS {m:Mt}{l:List Ev}{i:Nat}(h:i<l.length):MN m (l.take (i+1))=stV m (MN m (l.take i)) l[i]:=by unfold MN;rw [aG h,fJ];rfl
theorem PU {m:Mt}{l:List Ev}{i:Nat}(h:i<l.length):PG m (l.take (i+1))=stB m (PG m (l.take i)) l[i]:=by unfold PG;rw [aG h,fJ];rfl
structure Df (l:List Ev):Prop where
 len:l.length<=10000
 kind : ∀e∈l,e.kind=2
 val : ∀e∈l, -1000000<=e.val∧e.val<=1000000
theorem ZT {m:Mt}{l:List Ev}(h:Df l) : ∀i,i<=l.length->(-1000000*(i:Int)<=MN m (l.take i)∧MN m (l.take i)<=1000000*(i:Int))∧(-1000000*(i:Int)<=PG m (l.take i)∧PG m (l.take i)<=1000000*(i:Int)):=by
 intro i
 induction i with
 | zero=>intro _;simp [MN,PG]
 | succ i ih=>
  intro hi
  have h1:=ih aai
  have hv:=h.val _ (aV (show i<l.length by omega))
  rw [PS aai,PU aai]
  unfold stV stB mtW
  refine⟨?_, ?_⟩
  ·split
   ·split<;>omega
   ·omega
  ·split<;>omega
def ahj:Plan:= .take 0 (tk [2,3,6] (.one 1 (.one 4 (.take 5 (.one 7 (.take 8 (.take 9 .done)))))))
theorem PV {m:Mt}(h:Bh m=0):m.kind=1∨m.kind=2∨m.kind=3∨m.kind=4:=by
 unfold Bh at h
 by_cases hk:m.kind=1∨m.kind=2∨m.kind=3∨m.kind=4
 ·exact hk
 ·rw [if_pos hk]at h;cases h
def Qv (m:Mt):oI:= .var 48 ((mtF m).map FV.up)
theorem valueA (m:Mt)(l:List Ev)(hm:Bh m=0)(hl:Df l)(z1:m.name.length<=140737488355328)(z2:m.below.length<=140737488355328):mP Tryz.prog GS 85 [Jl m,el l] 0 [] (Is (.og [iv (lim m (MN m l)),iv (lim m (PG m l))])):=by
 have hrg:=ZT (m:=m) hl
 have hlen:=hl.len
 refine lJ func85 rfl mixed aag ?_
 (refine lM [] aag (ZQ m z1 z2) rfl ?_ ?_;(focus trivial))
 rw [hm]
 refine qc [] aag (ahi l hl.len) aam ?_
 refine vw [1] [] aag (alG l aai hl.kind) rfl aam aam rfl ?_
 refine mY afx 2 [7,8,20] (fun i:Nat=> [(7,iv (MN m (l.take i))),(8,iv (PG m (l.take i))),(20,iv i)]) (fun i=> [(0,Qv m),(1,rwE l)]) (fun i=>i<=l.length) (fun i=>l.length-i) [] [] 0 aag (fun _=>rfl) rfl (aH _) aam aam ?_
 intro i hi
 apply lH<;>intro h
 ·have hlt:i<l.length:=aaG
  have hV:=PS (m:=m) hlt
  have hB:=PU (m:=m) hlt
  have hr:=hrg i hi
  have hv:=hl.val _ (aV hlt)
  have hg:=ah hlt
  generalize l[i]=e at *
  generalize MN m (l.take i)=a at *
  generalize PG m (l.take i)=b at *
  unfold stV at hV
  unfold stB at hB
  refine mJ.mk' i rfl (pF hlt) ?_
  refine mQ.lU hg ?_
  refine lH (fun h1=> ?_) (fun h1=> ?_)
  rotate_left
  ·rw [if_neg (fun h'=>by simp [mW]at h1;exact h1 h'.1)]at hV
   refine lH (fun h4=> ?_) (fun h4=> ?_)
   rotate_left
   ·rw [if_neg (fun h'=>by simp at h4;exact h4 h'.1)]at hB
    refine lN.i64 aai ?_
    exact lK (i+1) [] [] rfl aaF hlt aam ⟨nN hV.symm,nN hB.symm,rfl,trivial⟩
   refine lH (fun h5=> ?_) (fun h5=> ?_)
   rotate_left
   ·rw [if_neg (fun h'=>by simp [mW]at h5;exact h5 h'.2)]at hB
    refine lN.i64 aai ?_
    exact lK (i+1) [] [] rfl aaF hlt aam ⟨nN hV.symm,nN hB.symm,rfl,trivial⟩
   rw [if_pos ⟨by simpa using h4,by simpa [mW]using h5⟩]at hB
   refine lN.i64 aai ?_
   refine lN.i64 aai ?_
   exact lK (i+1) [] [] rfl aaF hlt aam ⟨nN hV.symm,nN hB.symm,rfl,trivial⟩
  refine lH (fun h2=> ?_) (fun h2=> ?_)
  rotate_left
  ·rw [if_neg (fun h'=>by simp at h2;omega)]at hV
   refine lH (fun h4=> ?_) (fun h4=> ?_)
   rotate_left
   ·rw [if_neg (fun h'=>by simp at h4;exact h4 h'.1)]at hB
    refine lN.i64 aai ?_
    exact lK (i+1) [] [] rfl aaF hlt aam ⟨nN hV.symm,nN hB.symm,rfl,trivial⟩
   refine lH (fun h5=> ?_) (fun h5=> ?_)
   rotate_left
   ·rw [if_neg (fun h'=>by simp [mW]at h5;exact h5 h'.2)]at hB
    refine lN.i64 aai ?_
    exact lK (i+1) [] [] rfl aaF hlt aam ⟨nN hV.symm,nN hB.symm,rfl,trivial⟩
   rw [if_pos ⟨by simpa using h4,by simpa [mW]using h5⟩]at hB
   refine lN.i64 aai ?_
   refine lN.i64 aai ?_
   exact lK (i+1) [] [] rfl aaF hlt aam ⟨nN hV.symm,nN hB.symm,rfl,trivial⟩
  rw [if_pos ⟨by simpa [mW]using h1,by simpa using h2⟩]at hV
  refine lX (fun _=>ahj) [3] aag ?_
  refine oD [] aag Ee ?_ ?_;(focus (trivial;done));rintro _ _ _ ⟨rfl,rfl,rfl⟩;(conv=>whnf)
  rcases PV hm with hk|hk|hk|hk
  ·have hw:mtW m e=e.val:=if_pos (.inl hk)
   rw [hw]at hV
   refine NK.some (x:=WH [115,117,109] 157) akq ?_
   (refine lM [] aag (ajI e) rfl ?_ ?_;(focus trivial))
   refine lN.i64 aai ?_
   refine lH (fun h4=> ?_) (fun h4=> ?_)
   rotate_left
   ·rw [if_neg (fun h'=>by simp at h4;exact h4 h'.1)]at hB
    refine lN.i64 aai ?_
    exact lK (i+1) [] [] rfl aaF hlt aam ⟨nN hV.symm,nN hB.symm,rfl,trivial⟩
   refine lH (fun h5=> ?_) (fun h5=> ?_)
   rotate_left
   ·rw [if_neg (fun h'=>by simp [mW]at h5;exact h5 h'.2)]at hB
    refine lN.i64 aai ?_
    exact lK (i+1) [] [] rfl aaF hlt aam ⟨nN hV.symm,nN hB.symm,rfl,trivial⟩
   rw [if_pos ⟨by simpa using h4,by simpa [mW]using h5⟩]at hB
   refine lN.i64 aai ?_
   refine lN.i64 aai ?_
   exact lK (i+1) [] [] rfl aaF hlt aam ⟨nN hV.symm,nN hB.symm,rfl,trivial⟩
  ·have hw:mtW m e=1:=if_neg (by rw [hk];decide)
   rw [hw]at hV
   refine NK.some (x:=WH [99,111,117,110,116] 158) akq ?_
   (refine lM [] aag (ajJ e) rfl ?_ ?_;(focus trivial))
   refine lN.i64 aai ?_
   refine lH (fun h4=> ?_) (fun h4=> ?_)
   rotate_left
   ·rw [if_neg (fun h'=>by simp at h4;exact h4 h'.1)]at hB
    refine lN.i64 aai ?_
    exact lK (i+1) [] [] rfl aaF hlt aam ⟨nN hV.symm,nN hB.symm,rfl,trivial⟩
   refine lH (fun h5=> ?_) (fun h5=> ?_)
   rotate_left
   ·rw [if_neg (fun h'=>by simp [mW]at h5;exact h5 h'.2)]at hB
    refine lN.i64 aai ?_
    exact lK (i+1) [] [] rfl aaF hlt aam ⟨nN hV.symm,nN hB.symm,rfl,trivial⟩
   rw [if_pos ⟨by simpa using h4,by simpa [mW]using h5⟩]at hB
   refine lN.i64 aai ?_
   refine lN.i64 aai ?_
   exact lK (i+1) [] [] rfl aaF hlt aam ⟨nN hV.symm,nN hB.symm,rfl,trivial⟩
  ·have hw:mtW m e=1:=if_neg (by rw [hk];decide)
   rw [hw]at hV
   refine NK.some (x:=WH [115,104,97,114,101] 158) akq ?_
   (refine lM [] aag (ajJ e) rfl ?_ ?_;(focus trivial))
   refine lN.i64 aai ?_
   refine lH (fun h4=> ?_) (fun h4=> ?_)
   rotate_left
   ·rw [if_neg (fun h'=>by simp at h4;exact h4 h'.1)]at hB
    refine lN.i64 aai ?_
    exact lK (i+1) [] [] rfl aaF hlt aam ⟨nN hV.symm,nN hB.symm,rfl,trivial⟩
   refine lH (fun h5=> ?_) (fun h5=> ?_)
   rotate_left
   ·rw [if_neg (fun h'=>by simp [mW]at h5;exact h5 h'.2)]at hB
    refine lN.i64 aai ?_
    exact lK (i+1) [] [] rfl aaF hlt aam ⟨nN hV.symm,nN hB.symm,rfl,trivial⟩
   rw [if_pos ⟨by simpa using h4,by simpa [mW]using h5⟩]at hB
   refine lN.i64 aai ?_
   refine lN.i64 aai ?_
   exact lK (i+1) [] [] rfl aaF hlt aam ⟨nN hV.symm,nN hB.symm,rfl,trivial⟩
  ·have hw:mtW m e=e.val:=if_pos (.inr hk)
   rw [hw]at hV
   refine NK.some (x:=WH [114,97,116,105,111] 157) akq ?_
   (refine lM [] aag (ajI e) rfl ?_ ?_;(focus trivial))
   refine lN.i64 aai ?_
   refine lH (fun h4=> ?_) (fun h4=> ?_)
   rotate_left
   ·rw [if_neg (fun h'=>by simp at h4;exact h4 h'.1)]at hB
    refine lN.i64 aai ?_
    exact lK (i+1) [] [] rfl aaF hlt aam ⟨nN hV.symm,nN hB.symm,rfl,trivial⟩
   refine lH (fun h5=> ?_) (fun h5=> ?_)
   rotate_left
   ·rw [if_neg (fun h'=>by simp [mW]at h5;exact h5 h'.2)]at hB
    refine lN.i64 aai ?_
    exact lK (i+1) [] [] rfl aaF hlt aam ⟨nN hV.symm,nN hB.symm,rfl,trivial⟩
   rw [if_pos ⟨by simpa using h4,by simpa [mW]using h5⟩]at hB
   refine lN.i64 aai ?_
   refine lN.i64 aai ?_
   exact lK (i+1) [] [] rfl aaF hlt aam ⟨nN hV.symm,nN hB.symm,rfl,trivial⟩
 ·have hie:i=l.length:=aaG
  subst hie
  rw [aZ]
  (refine nJ aag (lJ func162 rfl mixed aag ?_);(conv=>whnf))
  (refine Hu ?_ rfl ?_;rotate_left 1;(focus trivial);(conv=>whnf))
  (refine nJ aag (lJ func162 rfl mixed aag ?_);(conv=>whnf))
  (refine Hu ?_ rfl ?_;rotate_left 1;(focus trivial);(conv=>whnf))
  exact lQ [] aam
end
end Go.Proofs.YtnandbihiceihaaGreatDoor.Cl
