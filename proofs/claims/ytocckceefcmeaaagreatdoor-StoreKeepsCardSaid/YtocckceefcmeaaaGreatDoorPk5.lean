/- Joined parts of the proof. The soundness of the operations that only read: places, parts, lengths; and of each such operation -/
import Derived.Test.YtocckceefcmeaaaGreatDoorPk4
set_option linter.unusedVariables false
set_option linter.unusedSimpArgs false
set_option maxRecDepth 100000
set_option maxHeartbeats 16000000
namespace Go.Proofs.YtocckceefcmeaaaGreatDoor.Ax
open Go Go.RowKit Go.Proofs.YtocckceefcmeaaaGreatDoor.Vc
section
variable {P:Program}{n:Nat}{σ:Nat→Loc}{F:Nat→Prop}{w:World}{H:aj}{cu:aH}{ρ:aS}{K:AV→Prop}{S:World→Prop}
theorem ni {L:Loc}{g:Nat}(h:L.oa=some ⟨g,0,none⟩):L.b=some g:=by
 unfold Loc.oa at h
 cases hx:L.b with
 | none=>rw [hx]at h;cases h
 | some g'=>rw [hx]at h;simp at h;rw [h]
theorem Dc {aP t sz:Nat}{l:List (List FV)}(hk:look H aP=some (.rows t sz l))(hH:kV n σ F w H)(h0:0<l.length) : ∃g,(σ aP).b=some g∧(σ aP).oa=some ⟨g,0,none⟩:=by
 obtain⟨h1,h2,xs,hO,hR⟩:=hH _ _ hk
 obtain⟨g,cur,hg,_⟩:=hO.blk h0
 exact⟨g,ni hg,hg⟩
theorem O4 {aP sz:Nat}{l:List (List FV)}(hk:look H aP=some (.fz sz l))(hH:kV n σ F w H)(h0:0<l.length) : ∃g,(σ aP).b=some g∧(σ aP).oa=some ⟨g,0,none⟩:=by
 obtain⟨h1,h2,hf,h3⟩:=hH _ _ hk
 obtain⟨row,hrow⟩ : ∃row,l[0]? = some row:=⟨l[0],List.getElem?_eq_getElem h0⟩
 obtain⟨b,o,vs,e,_⟩:=oZ (n:=n) (σ:=σ) hf hrow
 have:=h3 b o e
 subst this
 exact⟨b,ni e,e⟩
theorem o7 {aP t sz:Nat}{l:List (List FV)}(hk:look H aP=some (.rows t sz l))(hH:kV n σ F w H):(σ aP).sz=sz∧(σ aP).n=l.length:=⟨(hH _ _ hk).1,(hH _ _ hk).2.1⟩
theorem uI {aP sz:Nat}{l:List (List FV)}(hk:look H aP=some (.fz sz l))(hH:kV n σ F w H):(σ aP).sz=sz∧(σ aP).n=l.length:=⟨(hH _ _ hk).1,(hH _ _ hk).2.1⟩
theorem uJ {t:TypeId}{x i:AV}{vx vi:Value}(h:qA P H t x i K)(rx:aX n σ F w x vx)(ri:aX n σ F w i vi)(hH:kV n σ F w H):Ans n σ F w K S fun u q Kv=>bM P (Instr.indexAt t vx vi) u (wr q u Kv):=by
 unfold qA at h
 split at h
 ·rename_i ki ix
  rw [ri.dA]
  split at h
  ·rename_i e hu
   split at h
   ·rename_i sz hs
    have YM : ∀ {l:Nat} {m:List (List FV)},aX n σ F w (.own l) vx→(σ l).sz=sz→(σ l).n=m.length→(0<m.length→∃g,(σ l).b=some g∧(σ l).oa=some ⟨g,0,none⟩)→bD ix m.length (fun j=>K (.ep l j 0))→
      Ans n σ F w K S fun u q Kv=>bM P (Instr.indexAt t vx (.int ki ix)) u (wr q u Kv):=by
     intro l m rx e1 e2 h3 h4
     obtain⟨j,ej,hj,hk⟩:=h4.ex
     obtain⟨g,hg,hoa⟩:=h3 (by omega)
     cases rx with
     | iO _ oa hl hn hc=>omega
     | own _ hl=>
      rw [hoa]
      refine⟨_,_,hk, .ep l j 0 g hl hg,fun u q Kv _ hv=>EJ j hu hs ej (by omega) (dJ ?_)⟩
      rw [e1]at hv
      rw [Nat.zero_add]
      exact hv
    have abt : ∀ {l o m:Nat},aX n σ F w (.sub l o m) vx→(σ l).sz=sz→bD ix m (fun j=>K (.ep l (o+j) 0))→
      Ans n σ F w K S fun u q Kv=>bM P (Instr.indexAt t vx (.int ki ix)) u (wr q u Kv):=by
     intro l o m rx e1 h4
     obtain⟨j,ej,hj,hk⟩:=h4.ex
     cases rx with
     | sub _ _ _ oa c hl hkk hc hnil ho=>
      obtain⟨g,hg,hoa⟩:=ho (by omega)
      rw [hoa]
      refine⟨_,_,hk, .ep l (o+j) 0 g hl hg,fun u q Kv _ hv=>EJ j hu hs ej hj (dJ ?_)⟩
      rw [e1]at hv ⊢
      rw [Nat.add_mul]at hv
      exact hv
    split at h
    ·rename_i sz' l
     cases hb:Nat.beq sz sz' with
     | false=>rw [hb]at h;exact h.elim
     | true=>
      rw [hb,cond_true]at h
      have:=Nat.eq_of_beq_eq_true hb
      subst this
      obtain⟨j,ej,hj,hk⟩:=h.ex
      obtain⟨row,hrow,hk⟩:=hk.ex
      cases rx with
      | lst hf=>
       obtain⟨oa,m,c,rfl⟩ : ∃oa m c,vx = .slice oa m c:=by cases hf;exact⟨_,_,_,rfl⟩
       obtain⟨b,o,vs,rfl,hF,hm,_,hfp,_⟩:=oZ (n:=n) (σ:=σ) hf hrow
       exact⟨_,_,hk, .fp hfp,fun u q Kv _ hv=>EJ j hu hs ej (by omega) (dJ hv)⟩
    ·rename_i l
     split at h
     ·rename_i T sz' m hk
      cases hb:Nat.beq sz sz' with
      | false=>rw [hb]at h;exact h.elim
      | true=>
       rw [hb,cond_true]at h
       have:=Nat.eq_of_beq_eq_true hb
       subst this
       exact YM rx (o7 hk hH).1 (o7 hk hH).2 (Dc hk hH) h
     ·rename_i sz' m hk
      cases hb:Nat.beq sz sz' with
      | false=>rw [hb]at h;exact h.elim
      | true=>
       rw [hb,cond_true]at h
       have:=Nat.eq_of_beq_eq_true hb
       subst this
       exact YM rx (uI hk hH).1 (uI hk hH).2 (O4 hk hH) h
     ·rename_i T sz' m h0 hk
      cases hb:Nat.beq sz sz' with
      | false=>rw [hb]at h;exact h.elim
      | true=>
       rw [hb,cond_true]at h
       have:=Nat.eq_of_beq_eq_true hb
       subst this
       obtain⟨q1,q2,xs,hO,_⟩:=hH _ _ hk
       exact YM (m:=m.map fun _=> []) rx q1 (by rw [List.length_map];exact q2) (fun h0=>by
        rw [List.length_map]at h0
        obtain⟨g,cur,hg,_⟩:=hO.blk h0
        exact⟨g,ni hg,hg⟩) (by rw [List.length_map];exact h)
     ·exact h.elim
    ·rename_i l o m
     split at h
     ·rename_i T sz' m' hk
      cases hb:Nat.beq sz sz' with
      | false=>rw [hb]at h;exact h.elim
      | true=>
       rw [hb,cond_true]at h
       have:=Nat.eq_of_beq_eq_true hb
       subst this
       exact abt rx (o7 hk hH).1 h
     ·rename_i sz' m' hk
      cases hb:Nat.beq sz sz' with
      | false=>rw [hb]at h;exact h.elim
      | true=>
       rw [hb,cond_true]at h
       have:=Nat.eq_of_beq_eq_true hb
       subst this
       exact abt rx (uI hk hH).1 h
     ·exact h.elim
    ·exact h.elim
   ·exact h.elim
  ·rename_i m e hu
   split at h
   ·rename_i sz hs
    split at h
    ·obtain⟨j,ej,hj,hk⟩:=h.ex
     cases rx with
     | ptr _ _ b hl hb=>exact⟨_,_,hk, .ptr _ _ b hl hb,fun u q Kv _ hv=>CO j hu hs ej hj (dJ hv)⟩
    ·obtain⟨j,ej,hj,hk⟩:=h.ex
     cases rx with
     | ep _ _ _ b hl hb=>exact⟨_,_,hk, .ep _ _ _ b hl hb,fun u q Kv _ hv=>CO j hu hs ej hj (dJ (by rw [Nat.add_assoc];exact hv))⟩
    ·obtain⟨j,ej,hj,hk⟩:=h.ex
     cases rx with
     | fp hf=>
      cases hf with
      | fp _ _ b off hb hex hrep=>exact⟨_,_,hk, .fp (.fp _ _ b off hb hex hrep),fun u q Kv _ hv=>CO j hu hs ej hj (dJ (by rw [Nat.add_assoc];exact hv))⟩
    ·exact h.elim
   ·exact h.elim
  ·exact h.elim
 ·exact h.elim
theorem BF {u:World}{Kv:Value→World→Prop}{t e:TypeId}{m j sz:Nat}{k:IntKind}{ix:Int}{l:List Value}{v:Value}(hm:ix=j)(hu:P.underlying t=some (.array m e))(hs:szB P e=some sz)(h:j<m)
  (hp:(part e l.toArray (j*sz)).run P u = .ok v u) (hk:Kv v u):bM P (Instr.index t (.agg l.toArray) (.int k ix)) u Kv:=by
 refine dR ?_ hk
 subst hm
 have h1:(0:Int)≤j∧(j:Int)<m:=⟨by omega,by omega⟩
 unfold Instr.index
 simp only [asIntOf,Sem.run_bind,Sem.run_pure,Result.andThen_ok,aO hu]
 simp only [if_pos h1,Sem.run_bind,fQ hs,Result.andThen_ok,Int.toNat_natCast]
 exact hp
theorem Df {t:TypeId}{x i:AV}{vx vi:Value}(h:Il P t x i K)(rx:aX n σ F w x vx)(ri:aX n σ F w i vi):Ans n σ F w K S fun u q Kv=>bM P (Instr.index t vx vi) u (wr q u Kv):=by
 unfold Il at h
 split at h
 ·rename_i ki ix
  rw [ri.dA]
  split at h
  ·rename_i s hu
   rw [rx.dA]
   obtain⟨j,ej,hj,hk⟩:=h.ex
   refine⟨_,_,hk, .v _,fun u q Kv _ hv=>uF j ej hu hj (dJ ?_)⟩
   have e:s.data.toList.getD j 0=s[j]:=by
    rw [List.getD_eq_getElem?_getD,Array.getElem?_toList]
    have:s.data[j]? = some s[j]:=Array.getElem?_eq_getElem hj
    rw [this];rfl
   rw [e]at hv
   exact hv
  ·rename_i m e cs hu
   obtain⟨j,ej,hj,hk⟩:=h.ex
   obtain⟨us,rfl,r⟩:=bI.yD rx
   split at hk
   ·rename_i sz hs
    unfold yG at hk
    split at hk
    ·rename_i k ha _
     split at hk
     ·rename_i a hg
      rw [gW]at hk
      obtain⟨v,h1,h2⟩:=r.Ub hg
      refine⟨_,v,hk,h2,fun u q Kv _ hv=>BF ej hu hs hj ?_ (dJ hv)⟩
      unfold part
      rw [Sem.run_bind,iH ha]
      simp [h1]
     ·exact hk.elim
    ·rename_i k ha hs'
     cases hb:Nat.ble (j*sz+k) cs.length with
     | false=>rw [hb]at hk;exact hk.elim
     | true=>
      rw [hb,cond_true,iW]at hk
      refine⟨_,_,hk,((r.drop (j*sz)).take k).agg,fun u q Kv _ hv=>BF ej hu hs hj ?_ (dJ hv)⟩
      obtain⟨i,hi,hik⟩:=fP hs'
      simp only [part,Sem.run_bind,Sem.run_pure,Result.andThen_ok,iH ha,if_true,sizeOf,iP hi]
      congr 2
      apply Array.ext'
      simp [hik]
    ·exact hk.elim
   ·exact hk.elim
  ·exact h.elim
 ·exact h.elim
theorem IB {t ty:TypeId}{a:AV}{va:Value}(h:YL P H t a K)(ra:aX n σ F w a va)(hH:kV n σ F w H):Ans n σ F w K S fun u q Kv=>uh P q t ty va u Kv:=by
 unfold YL at h
 split at h
 ·rename_i s hu;rw [ra.dA];exact⟨_,_,h, .v _,fun u q Kv _ hv=>by simp only [uh,hu];exact hv⟩
 ·rename_i e sz l hu
  cases ra with
  | lst hf=>cases hf with
   | lst _ _ oa m c b o hn hc hnil ho hsz hex hrep=>exact⟨_,_,h, .v _,fun u q Kv _ hv=>by simp only [uh,hu,hn];exact hv⟩
 ·rename_i e l hu
  cases ra with
  | iO _ oa hl hn hc=>
   split at h
   ·rename_i T sz m hk
    have e:=(o7 hk hH).2
    rw [hn]at e
    exact⟨_,_,h, .v _,fun u q Kv _ hv=>by simp only [uh,hu];rw [←e]at hv;exact hv⟩
   ·rename_i sz m hk
    have e:=(uI hk hH).2
    rw [hn]at e
    exact⟨_,_,h, .v _,fun u q Kv _ hv=>by simp only [uh,hu];rw [←e]at hv;exact hv⟩
   ·exact h.elim
  | own _ hl=>
   split at h
   ·rename_i T sz m hk
    have e:=(o7 hk hH).2
    exact⟨_,_,h, .v _,fun u q Kv _ hv=>by simp only [uh,hu,e];exact hv⟩
   ·rename_i sz m hk
    have e:=(uI hk hH).2
    exact⟨_,_,h, .v _,fun u q Kv _ hv=>by simp only [uh,hu,e];exact hv⟩
   ·exact h.elim
 ·rename_i e l o m hu
  cases ra with
  | sub _ _ _ oa c hl hk hc hnil ho=>exact⟨_,_,h, .v _,fun u q Kv _ hv=>by simp only [uh,hu];exact hv⟩
 ·rename_i e x m c hu;rw [ra.dA];exact⟨_,_,h, .v _,fun u q Kv _ hv=>by simp only [uh,hu];exact hv⟩
 ·rename_i m e hu;exact⟨_,_,h, .v _,fun u q Kv _ hv=>by simp only [uh,hu];exact hv⟩
 ·exact h.elim
def nZ (oa:Option Addr)(i sz m:Nat):Option Addr:=if m=i then oa else oa.map (·.add (i*sz))
theorem oC {u:World}{t E:TypeId}{sz l c:Nat}{oa:Option Addr}{lo hi mx:Option Value}{i j m:Nat}(ht:P.underlying t=some (.slice E))(hs:szB P E=some sz)
  (hlo:(lo=none∧i=0)∨∃k,lo=some (.int k (i:Int))) (hhi:(hi=none∧j=l∧mx=none)∨∃k,hi=some (.int k (j:Int))) (hmx:(mx=none∧m=c)∨∃k,mx=some (.int k (m:Int)))
  (hij:i≤j) (hjm:j≤m) (hmc:m≤c):(Instr.sliceAt t (.slice oa l c) lo hi mx).run P u = .ok (.slice (nZ oa i sz m) (j-i) (m-i)) u:=by
 have h1:(0:Int)≤i∧(i:Int)≤j:=⟨by omega,by omega⟩
 have h2:(0:Int)≤j∧(j:Int)≤m:=⟨by omega,by omega⟩
 have h3:(0:Int)≤m∧(m:Int)≤c:=⟨by omega,by omega⟩
 unfold Instr.sliceAt
 rw [Sem.run_bind,aO ht]
 simp only [Result.andThen_ok]
 unfold Instr.slice
 rw [Sem.run_bind,aO ht]
 rcases hmx with ⟨rfl,rfl⟩ | ⟨km,rfl⟩
 ·rcases hhi with ⟨rfl,rfl,_⟩ | ⟨kh,rfl⟩
  ·rcases hlo with ⟨rfl,rfl⟩ | ⟨kl,rfl⟩<;>simp [Instr.sliceBounds,Instr.sliceBound,asIntOf,hij,hjm,fQ hs,nZ]
  ·rcases hlo with ⟨rfl,rfl⟩ | ⟨kl,rfl⟩<;>simp [Instr.sliceBounds,Instr.sliceBound,asIntOf,hij,hjm,fQ hs,nZ]
 ·rcases hhi with ⟨rfl,rfl,h⟩ | ⟨kh,rfl⟩
  ·cases h
  ·rcases hlo with ⟨rfl,rfl⟩ | ⟨kl,rfl⟩<;>simp [Instr.sliceBounds,Instr.sliceBound,asIntOf,hij,hjm,hmc,fQ hs,nZ]
theorem BG {oa:Option Addr}{i sz m c:Nat}(hmc:m≤c)(hnil:oa=none→c=0)(h:nZ oa i sz m=none):m-i=0:=by
 unfold nZ at h
 split at h
 ·omega
 ·have:=hnil (by simpa using h)
  omega
theorem dN.part {sz m c i j:Nat}{l:List (List FV)}{oa:Option Addr}{n':Nat}(h:dN F w (.lst sz l) (.slice oa n' c))(hij:i≤j)(hjn:j≤l.length)(hjm:j≤m)(hmc:m≤c) :
  dN F w (.lst sz ((l.take j).drop i)) (.slice (nZ oa i sz m) (j-i) (m-i)):=by
 cases h with
 | lst _ _ _ _ _ b o hn hc hnil ho hsz hex hrep=>
  subst hn
  refine .lst sz _ _ _ _ b (o+i*sz) (by simp;omega) (by omega) (BG hmc hnil) (fun hlt=> ?_) (fun row hr=>hsz row (List.mem_of_mem_take (List.mem_of_mem_drop hr))) (fun k x hk hx=> ?_) (fun k x row a v h1 h2 h3=> ?_)
  ·obtain⟨e,hF⟩:=ho (by omega)
   refine⟨?_,hF⟩
   unfold nZ
   rw [if_neg (by omega),e]
   simp [add0]
  ·have:=hex (i+k) x (by omega) hx
   rw [Nat.add_mul]at this
   rw [show o+i*sz+(k*sz+x)=o+(i*sz+k*sz+x) by omega]
   exact this
  ·have h1':l[i+k]? = some row:=by
    rw [List.getElem?_drop,List.getElem?_take]at h1
    split at h1
    ·exact h1
    ·cases h1
   refine hrep (i+k) x row a v h1' h2 ?_
   rw [Nat.add_mul,show o+(i*sz+k*sz+x)=o+i*sz+(k*sz+x) by omega]
   exact h3
theorem Dh {lo:Option AV}{Oh:Option Value}{d:Int}{K:Int→Prop}(h:qV lo d K)(r:(lo=none∧Oh=none)∨∃a v,lo=some a∧Oh=some v∧aX n σ F w a v) :
  ∃x,K x∧((lo=none∧Oh=none∧x=d)∨∃k a,lo=some a∧Oh=some (.int k x)):=by
 unfold qV at h
 split at h
 ·rcases r with ⟨_,e⟩ | ⟨a,v,e,_⟩
  ·exact⟨d,h, .inl ⟨rfl,e,rfl⟩⟩
  ·cases e
 ·rename_i k x
  rcases r with ⟨e,_⟩ | ⟨a,v,e,e2,ra⟩
  ·cases e
  ·injection e with e
   rw [←e]at ra
   rw [ra.dA]at e2
   exact⟨x,h, .inr ⟨k,_,rfl,e2⟩⟩
 ·exact h.elim
theorem YN {mx:Option AV}{O5:Option Value}{b:Int}{m:Nat}{K:Prop}(h:Io mx b m K)(r:(mx=none∧O5=none)∨∃a v,mx=some a∧O5=some v∧aX n σ F w a v) :
  K∧((mx=none∧O5=none)∨∃k z a,mx=some a∧O5=some (.int k z)∧b≤z∧z≤m):=by
 unfold Io at h
 split at h
 ·rcases r with ⟨_,e⟩ | ⟨a,v,e,_⟩
  ·exact⟨h, .inl ⟨rfl,e⟩⟩
  ·cases e
 ·rename_i k z
  rcases r with ⟨e,_⟩ | ⟨a,v,e,e2,ra⟩
  ·cases e
  ·injection e with e
   rw [←e]at ra
   rw [ra.dA]at e2
   exact⟨h.go, .inr ⟨k,z,_,rfl,e2,h.req.1,h.req.2⟩⟩
 ·exact h.elim
abbrev IC (n:Nat)(σ:Nat→Loc)(F:Nat→Prop)(w:World)(a:Option AV)(v:Option Value):Prop:=(a=none∧v=none)∨∃x y,a=some x∧v=some y∧aX n σ F w x y
theorem qW {t E:TypeId}{sz l c:Nat}{oa:Option Addr}{lo hi mx:Option AV}{Oh vhi O5:Option Value}{K:Nat→Nat→Prop}(ht:P.underlying t=some (.slice E))(hs:szB P E=some sz)(hlc:l≤c)
  (h:qV lo 0 fun a=>qV hi (l:Int) fun b=>Io mx b l (kU a b l K)) (r1:IC n σ F w lo Oh) (r2:IC n σ F w hi vhi) (r3:IC n σ F w mx O5) (hmx:mx≠none→hi≠none) :
  ∃i j m,K i j∧i≤j∧j≤l∧j≤m∧m≤c∧(lo=none→i=0)∧(hi=none→j=l)∧(mx=none→m=c)∧∀u,(Instr.sliceAt t (.slice oa l c) Oh vhi O5).run P u = .ok (.slice (nZ oa i sz m) (j-i) (m-i)) u:=by
 obtain⟨x,h,c1⟩:=Dh h r1
 obtain⟨y,h,c2⟩:=Dh h r2
 obtain⟨h,c3⟩:=YN h r3
 obtain⟨i,j,rfl,rfl,hij,hjl,hk⟩:=h.ex
 have d1:(Oh=none∧i=0)∨∃k,Oh=some (.int k (i:Int)):=by
  rcases c1 with ⟨_,e,e2⟩ | ⟨k,a,_,e⟩
  ·exact .inl ⟨e,by omega⟩
  ·exact .inr ⟨k,e⟩
 have e1:lo=none→i=0:=by
  intro e
  rcases c1 with ⟨_,_,e2⟩ | ⟨k,a,e3,_⟩
  ·omega
  ·rw [e]at e3;cases e3
 have e2:hi=none→j=l:=by
  intro e
  rcases c2 with ⟨_,_,e2⟩ | ⟨k,a,e3,_⟩
  ·omega
  ·rw [e]at e3;cases e3
 rcases c3 with ⟨rfl,rfl⟩ | ⟨k3,z,a3,rfl,rfl,hz1,hz2⟩
 ·refine⟨i,j,c,hk,hij,hjl,by omega,Nat.le_refl _,e1,e2,fun _=>rfl,fun u=>oC ht hs d1 ?_ (.inl ⟨rfl,rfl⟩) hij (by omega) (Nat.le_refl _)⟩
  rcases c2 with ⟨_,e,e3⟩ | ⟨k,a,_,e⟩
  ·exact .inl ⟨e,by omega,rfl⟩
  ·exact .inr ⟨k,e⟩
 ·obtain⟨m,rfl⟩ : ∃m:Nat,z=m:=⟨z.toNat,by omega⟩
  refine⟨i,j,m,hk,hij,hjl,by omega,by omega,e1,e2,(fun e=>by cases e),fun u=>oC ht hs d1 ?_ (.inr ⟨k3,rfl⟩) hij (by omega) (by omega)⟩
  rcases c2 with ⟨e,_,_⟩ | ⟨k,a,_,e⟩
  ·exact absurd e (hmx (by simp))
  ·exact .inr ⟨k,e⟩
theorem YO {lo hi:Option AV}{i j:Nat}{l:List (List FV)}(h1:lo=none→i=0)(h2:hi=none→j=l.length):cut lo hi i j l=(l.take j).drop i:=by
 unfold cut
 split
 ·rw [h1 rfl,h2 rfl];simp
 ·rw [h1 rfl];simp
 ·rw [h2 rfl];simp
 ·rfl
theorem JU {aP i j m c:Nat}{oa:Option Addr}{o n':Nat}(hl:aP<n)(ho:o+n'≤(σ aP).n)(hnil:oa=none→c=0)(hoa:0<n'→∃b,(σ aP).b=some b∧oa=some ⟨b,o*(σ aP).sz,none⟩)
  (hij:i≤j) (hjn:j≤n') (hjm:j≤m) (hmc:m≤c):aX n σ F w (.sub aP (o+i) (j-i)) (.slice (nZ oa i (σ aP).sz m) (j-i) (m-i)):=by
 refine .sub aP (o+i) (j-i) _ _ hl (by omega) (by omega) (BG hmc hnil) fun hlt=> ?_
 obtain⟨b,h1,h2⟩:=hoa (by omega)
 refine⟨b,h1, ?_⟩
 unfold nZ
 rw [if_neg (by omega),h2]
 simp [add0,Nat.add_mul]
theorem adB (L:Loc):nZ L.oa 0 L.sz L.c=L.oa:=by
 unfold nZ
 split
 ·rfl
 ·cases L.oa with
  | none=>rfl
  | some a=>simp [Addr.add]
theorem Di {t:TypeId}{x:AV}{lo hi mx:Option AV}{vx:Value}{Oh vhi O5:Option Value}(h:Iq P H t x lo hi mx K)(hmx:mx≠none→hi≠none)(rx:aX n σ F w x vx)(r1:IC n σ F w lo Oh)(r2:IC n σ F w hi vhi)(r3:IC n σ F w mx O5)(hH:kV n σ F w H) :
  Ans n σ F w K S fun u q Kv=>bM P (Instr.sliceAt t vx Oh vhi O5) u (wr q u Kv):=by
 unfold Iq at h
 split at h
 ·rename_i hu
  split at h
  ·rename_i s
   rw [rx.dA]
   obtain⟨a,h,c1⟩:=Dh h r1
   obtain⟨b,h,c2⟩:=Dh h r2
   obtain⟨i,j,rfl,rfl,hij,hjl,hk⟩:=h.ex
   have e3:O5=none:=by
    rcases r3 with ⟨_,e⟩ | ⟨_,_,e,_⟩
    ·exact e
    ·cases e
   subst e3
   refine⟨_,_,hk, .v _,fun u q Kv _ hv=> ?_⟩
   have h1:(0:Int)≤i∧(i:Int)≤j:=⟨by omega,by omega⟩
   have h2:(0:Int)≤j∧(j:Int)≤s.size:=⟨by omega,by omega⟩
   refine dR ?_ (dJ hv)
   unfold Instr.sliceAt
   rw [Sem.run_bind,aO hu]
   simp only [Result.andThen_ok]
   unfold Instr.slice
   rw [Sem.run_bind,aO hu]
   rcases c1 with ⟨_,rfl,e1⟩ | ⟨k1,_,_,rfl⟩
   ·have e1:i=0:=by omega
    subst e1
    rcases c2 with ⟨_,rfl,e2⟩ | ⟨k2,_,_,rfl⟩
    ·have e2:j=s.size:=by omega
     subst e2
     simp [Instr.sliceBounds]
    ·simp [Instr.sliceBounds,Instr.sliceBound,asIntOf,hij,hjl]
   ·rcases c2 with ⟨_,rfl,e2⟩ | ⟨k2,_,_,rfl⟩
    ·have e2:j=s.size:=by omega
     subst e2
     simp [Instr.sliceBounds,Instr.sliceBound,asIntOf,hij]
    ·simp [Instr.sliceBounds,Instr.sliceBound,asIntOf,hij,hjl]
  ·exact h.elim
 ·rename_i e hu
  split at h
  ·rename_i sz hs
   split at h
   ·rename_i sz' l
    cases hb:Nat.beq sz sz' with
    | false=>rw [hb]at h;exact h.elim
    | true=>
     rw [hb,cond_true]at h
     have:=Nat.eq_of_beq_eq_true hb
     subst this
     cases rx with
     | lst hf=>
      obtain⟨oa,n',c,rfl,hn,hc⟩ : ∃oa m c,vx = .slice oa m c∧m=l.length∧m≤c:=by cases hf with | lst _ _ oa m c b o hn hc hnil ho hsz hex hrep=>exact⟨oa,m,c,rfl,hn,hc⟩
      subst hn
      obtain⟨i,j,m,hk,hij,hjl,hjm,hmc,e1,e2,e3,hr⟩:=qW (oa:=oa) hu hs hc h r1 r2 r3 hmx
      rw [YO e1 e2]at hk
      exact⟨_,_,hk, .lst (hf.part hij hjl hjm hmc),fun u q Kv _ hv=>dR (hr u) (dJ hv)⟩
   ·rename_i l
    split at h
    ·rename_i m' hm
     have hsn:(σ l).sz=sz∧(σ l).n=m'∧m'≤(σ l).c∧((σ l).oa=none→(σ l).c=0)∧(0<m'→∃b,(σ l).b=some b∧(σ l).oa=some ⟨b,0,none⟩):=by
      unfold TW at hm
      split at hm
      ·rename_i T sz' mm hk
       cases hb:Nat.beq sz sz' with
       | false=>rw [hb]at hm;cases hm
       | true=>
        rw [hb,cond_true]at hm
        injection hm with hm
        have:=Nat.eq_of_beq_eq_true hb
        subst this;subst hm
        obtain⟨q1,q2,xs,hO,hR⟩:=hH _ _ hk
        refine⟨q1,q2, ?_, ?_,Dc hk hH⟩
        ·rcases hO.2 with ⟨hv,h0⟩ | ⟨g,cap,cur,hv,_,_,hle,_⟩
         ·omega
         ·injection hv with _ _ ec;omega
        ·intro en
         rcases hO.2 with ⟨hv,h0⟩ | ⟨g,cap,cur,hv,_,_,hle,_⟩
         ·injection hv with _ _ ec
         ·injection hv with eo _ _;rw [en]at eo;cases eo
      ·rename_i sz' mm hk
       cases hb:Nat.beq sz sz' with
       | false=>rw [hb]at hm;cases hm
       | true=>
        rw [hb,cond_true]at hm
        injection hm with hm
        have:=Nat.eq_of_beq_eq_true hb
        subst this;subst hm
        obtain⟨q1,q2,hf,_⟩:=hH _ _ hk
        refine⟨q1,q2, ?_, ?_,O4 hk hH⟩
        ·cases hf with | lst _ _ _ _ _ b o hn hc hnil ho hsz hex hrep=>omega
        ·cases hf with | lst _ _ _ _ _ b o hn hc hnil ho hsz hex hrep=>exact hnil
      ·cases hm
     obtain⟨q1,q2,q3,q4,q5⟩:=hsn
     cases rx with
     | iO _ oa hl hn hc=>
      rw [hn]at q2
      subst q2
      obtain⟨i,j,m,hk,hij,hjl,hjm,hmc,e1,e2,e3,hr⟩:=qW (oa:=oa) (l:=0) (c:=0) hu hs (Nat.le_refl _) h r1 r2 r3 hmx
      have z1:i=0:=by omega
      have z2:j=0:=by omega
      have z3:m=0:=by omega
      subst z1;subst z2;subst z3
      have hv0:Value.slice (nZ oa 0 sz 0) (0-0) (0-0) = .slice oa 0 0:=by unfold nZ;rw [if_pos rfl]
      rw [hv0]at hr
      unfold Ip at hk
      split at hk
      ·exact⟨_,_,hk, .iO l oa hl hn hc,fun u q Kv _ hv=>dR (hr u) (dJ hv)⟩
      ·exact⟨_,_,hk, .sub l 0 _ oa 0 hl (by omega) (by omega) (fun _=>rfl) (fun h=>absurd h (by omega)),fun u q Kv _ hv=>dR (hr u) (dJ hv)⟩
     | own _ hl=>
      rw [q2]
      obtain⟨i,j,m,hk,hij,hjl,hjm,hmc,e1,e2,e3,hr⟩:=qW (oa:=(σ l).oa) hu hs q3 h r1 r2 r3 hmx
      have hsub:aX n σ F w (.sub l i (j-i)) (.slice (nZ (σ l).oa i sz m) (j-i) (m-i)):=by
       have:=JU (n:=n) (σ:=σ) (F:=F) (w:=w) (n':=m') (o:=0) (i:=i) (j:=j) (m:=m) (c:=(σ l).c) (oa:=(σ l).oa) hl (by omega) q4 (fun h0=>by obtain⟨b,x1,x2⟩:=q5 h0;exact⟨b,x1,by rw [x2,Nat.zero_mul]⟩) hij hjl hjm hmc
       rw [Nat.zero_add,q1]at this
       exact this
      unfold Ip at hk
      split at hk
      ·have:=e1 rfl;subst this
       have:=e2 rfl;subst this
       have:=e3 rfl;subst this
       refine⟨_,_,hk, .own l hl,fun u q Kv _ hv=>dR (hr u) (dJ ?_)⟩
       rw [←q1,adB,Nat.sub_zero,Nat.sub_zero, ←q2]
       exact hv
      ·exact⟨_,_,hk,hsub,fun u q Kv _ hv=>dR (hr u) (dJ hv)⟩
    ·exact h.elim
   ·rename_i l o n'
    split at h
    ·rename_i m' hm
     have q1:(σ l).sz=sz:=by
      unfold TW at hm
      split at hm
      ·rename_i T sz' mm hk
       cases hb:Nat.beq sz sz' with
       | false=>rw [hb]at hm;cases hm
       | true=>rw [Nat.eq_of_beq_eq_true hb];exact(hH _ _ hk).1
      ·rename_i sz' mm hk
       cases hb:Nat.beq sz sz' with
       | false=>rw [hb]at hm;cases hm
       | true=>rw [Nat.eq_of_beq_eq_true hb];exact(hH _ _ hk).1
      ·cases hm
     cases rx with
     | sub _ _ _ oa c hl hkk hc hnil ho=>
      obtain⟨i,j,m,hk,hij,hjl,hjm,hmc,e1,e2,e3,hr⟩:=qW (oa:=oa) hu hs hc h r1 r2 r3 hmx
      have:=JU (n:=n) (σ:=σ) (F:=F) (w:=w) (n':=n') (o:=o) (i:=i) (j:=j) (m:=m) (c:=c) (oa:=oa) hl hkk hnil ho hij hjl hjm hmc
      rw [q1]at this
      exact⟨_,_,hk,this,fun u q Kv _ hv=>dR (hr u) (dJ hv)⟩
    ·exact h.elim
   ·rw [rx.dA]
    obtain⟨i,j,m,hk,hij,hjl,hjm,hmc,e1,e2,e3,hr⟩:=qW (oa:=none) (l:=0) (c:=0) (K:=fun _ _=>K (.v (.slice none 0 0))) hu hs (Nat.le_refl _) h r1 r2 r3 hmx
    have z1:i=0:=by omega
    have z2:j=0:=by omega
    have z3:m=0:=by omega
    subst z1;subst z2;subst z3
    exact⟨_,_,hk, .v _,fun u q Kv _ hv=>dR (hr u) (dJ hv)⟩
   ·exact h.elim
  ·exact h.elim
 ·exact h.elim
theorem wY {op:BinOp}{b:Bool}(h:pX op b K) : ∃c,(op = .eql∧c=b∨op = .neq∧c = !b)∧K (.v (.bool c)):=by
 unfold pX at h
 split at h
 ·exact⟨_, .inl ⟨rfl,rfl⟩,h⟩
 ·exact⟨_, .inr ⟨rfl,rfl⟩,h⟩
 ·exact h.elim
theorem wZ {op:BinOp}{t:TypeId}{x y:Operand}{va vb:Value}{b c:Bool}(u:World)(hc:op = .eql∧c=b∨op = .neq∧c = !b)(hg : ∀o:BinOp,o = .eql∨o = .neq→(eqGuard o t x y va vb).run P u = .ok () u)
  (hb1:binOp .eql t va vb=(do pure (.bool (←Op.equal t va vb)))) (hb2:binOp .neq t va vb=(do pure (.bool (!(←Op.equal t va vb))))) (he:(Op.equal t va vb).run P u = .ok b u) :
  (do eqGuard op t x y va vb;binOp op t va vb:Sem Value).run P u = .ok (.bool c) u:=by
 rcases hc with ⟨rfl,rfl⟩ | ⟨rfl,rfl⟩
 ·rw [Sem.run_bind,hg _ (.inl rfl),Result.andThen_ok,hb1,Sem.run_bind,he];rfl
 ·rw [Sem.run_bind,hg _ (.inr rfl),Result.andThen_ok,hb2,Sem.run_bind,he];rfl
theorem qX (t:TypeId)(va vb:Value) : ∃d,Op.equal t va vb=Op.equalIn (d+1) t va vb:=by
 obtain⟨d,hd⟩ : ∃d,Op.maxDepth=d+1:=⟨Op.maxDepth-1,by decide⟩
 exact⟨d,by unfold Op.equal;rw [hd]⟩
theorem EX {u:World}{t e:TypeId}{oa:Option Addr}{k c:Nat}(hu:P.underlying t=some (.slice e)):(Op.equal t (.slice oa k c) (.slice none 0 0)).run P u = .ok oa.isNone u:=by
 obtain⟨d,hd⟩:=qX t (.slice oa k c) (.slice none 0 0)
 rw [hd]
 unfold Op.equalIn
 rw [Sem.run_bind,aO hu]
 cases oa<;>rfl
theorem MO {u:World}{t e:TypeId}{oa:Option Addr}(hu:P.underlying t=some (.pointer e)):(Op.equal t (.pointer oa) (.pointer none)).run P u = .ok oa.isNone u:=by
 obtain⟨d,hd⟩:=qX t (.pointer oa) (.pointer none)
 rw [hd]
 unfold Op.equalIn
 rw [Sem.run_bind,aO hu]
 cases oa<;>rfl
theorem MP {u:World}{t k e:TypeId}{oa:Option Nat}(hu:P.underlying t=some (.map k e)):(Op.equal t (.map oa) (.map none)).run P u = .ok oa.isNone u:=by
 obtain⟨d,hd⟩:=qX t (.map oa) (.map none)
 rw [hd]
 unfold Op.equalIn
 rw [Sem.run_bind,aO hu]
 cases oa<;>rfl
theorem O6 {a:AV}{va:Value}{k:Nat}(h:YH H a=some k)(ra:aX n σ F w a va)(hH:kV n σ F w H) : ∃oa m c,va = .slice oa m c∧(0<k→oa.isNone=false):=by
 unfold YH at h
 split at h
 ·injection h with h
  subst h
  cases ra with
  | lst hf=>cases hf with
   | lst _ _ oa m c b o hn hc hnil ho hsz hex hrep=>exact⟨oa,m,c,rfl,fun h0=>by rw [(ho (by omega)).1];rfl⟩
 ·split at h
  ·rename_i l T sz m hk
   injection h with h
   subst h
   cases ra with
   | own _ hl=>exact⟨_,_,_,rfl,fun h0=>by obtain⟨g,_,e⟩:=Dc hk hH h0;rw [e];rfl⟩
   | iO _ oa hl hn hc=>exact⟨_,_,_,rfl,fun h0=>by have:=(o7 hk hH).2;omega⟩
  ·rename_i l sz m hk
   injection h with h
   subst h
   cases ra with
   | own _ hl=>exact⟨_,_,_,rfl,fun h0=>by obtain⟨g,_,e⟩:=O4 hk hH h0;rw [e];rfl⟩
   | iO _ oa hl hn hc=>exact⟨_,_,_,rfl,fun h0=>by have:=(uI hk hH).2;omega⟩
  ·cases h
 ·injection h with h
  subst h
  cases ra with
  | sub _ _ _ oa c hl hk hc hnil ho=>exact⟨_,_,_,rfl,fun h0=>by obtain⟨b,_,e⟩:=ho h0;rw [e];rfl⟩
 ·cases h
theorem xg {t:TypeId}{x y:Operand}{va vb:Value}(u:World)(h:(∀l,va≠ .agg l)∧va≠ .nilIface)(o:BinOp)(_:o = .eql∨o = .neq):(eqGuard o t x y va vb).run P u = .ok () u:=by
 unfold eqGuard
 cases o<;>cases va<;>first | rfl | exact(h.1 _ rfl).elim | exact(h.2 rfl).elim | (cases vb<;>rfl)
theorem IE {op:BinOp}{t:TypeId}{x y:Operand}{a b:AV}{va vb:Value}(h:YI P H op t a b K)(ra:aX n σ F w a va)(rb:aX n σ F w b vb)(hH:kV n σ F w H) :
  Ans n σ F w K S fun u q Kv=>tZ P q op t x y va vb u Kv:=by
 unfold YI at h
 split at h
 ·rename_i e hu
  rw [rb.dA]
  have fin : ∀ {oa:Option Addr} {m c:Nat},va = .slice oa m c→pX op oa.isNone K→Ans n σ F w K S fun u q Kv=>tZ P q op t x y va (.slice none 0 0) u Kv:=by
   intro oa m c ev hk
   subst ev
   obtain⟨cc,hc,hk⟩:=wY hk
   exact⟨_,_,hk, .v _,fun u q Kv _ hv=>dR (wZ u hc (xg u ⟨(fun l e=>by cases e),(fun e=>by cases e)⟩) rfl rfl (EX hu)) (dJ hv)⟩
  split at h
  ·exact fin ra.dA h
  ·split at h
   ·rename_i k hk
    obtain⟨oa,m,c,ev,hz⟩:=O6 hk ra hH
    exact fin ev (h.ex _ hz)
   ·exact h.elim
 ·rename_i e hu
  rw [rb.dA]
  have fin : ∀ {oa:Option Addr},va = .pointer oa→pX op oa.isNone K→Ans n σ F w K S fun u q Kv=>tZ P q op t x y va (.pointer none) u Kv:=by
   intro oa ev hk
   subst ev
   obtain⟨cc,hc,hk⟩:=wY hk
   exact⟨_,_,hk, .v _,fun u q Kv _ hv=>dR (wZ u hc (xg u ⟨(fun l e=>by cases e),(fun e=>by cases e)⟩) rfl rfl (MO hu)) (dJ hv)⟩
  split at h
  ·exact fin ra.dA h
  ·cases hp:abr a with
   | false=>rw [hp]at h;exact h.elim
   | true=>
    rw [hp,cond_true]at h
    have : ∃p,va = .pointer (some p):=by
     cases ra with
     | ptr l o b hl hb=>exact⟨_,rfl⟩
     | ep l i o b hl hb=>exact⟨_,rfl⟩
     | fp hf=>cases hf;exact⟨_,rfl⟩
     | _=>cases hp
    obtain⟨p,ev⟩:=this
    exact fin ev h
 ·rename_i e1 e2 hu
  rw [rb.dA]
  have fin : ∀ {oa:Option Nat},va = .map oa→pX op oa.isNone K→Ans n σ F w K S fun u q Kv=>tZ P q op t x y va (.map none) u Kv:=by
   intro oa ev hk
   subst ev
   obtain⟨cc,hc,hk⟩:=wY hk
   exact⟨_,_,hk, .v _,fun u q Kv _ hv=>dR (wZ u hc (xg u ⟨(fun l e=>by cases e),(fun e=>by cases e)⟩) rfl rfl (MP hu)) (dJ hv)⟩
  split at h
  ·exact fin ra.dA h
  ·cases ra with | mp _ b hl hb=>exact fin rfl h
  ·cases ra with | fm hf=>cases hf with | fm _ b _ _=>exact fin rfl h
  ·exact h.elim
 ·rename_i e1 e2 e3 hu
  rw [rb.dA]
  have fin : ∀ {bb:Bool},((∀l,va≠ .agg l)∧va≠ .nilIface)→binOp .eql t va .nilFunc=(do pure (.bool (←Op.equal t va .nilFunc)))→binOp .neq t va .nilFunc=(do pure (.bool (!(←Op.equal t va .nilFunc))))→(∀u,(Op.equal t va .nilFunc).run P u = .ok bb u)→(∀u q Kv,bM P (do eqGuard op t x y va .nilFunc;binOp op t va .nilFunc) u (wr q u Kv)→tZ P q op t x y va .nilFunc u Kv)→pX op bb K→Ans n σ F w K S fun u q Kv=>tZ P q op t x y va .nilFunc u Kv:=by
   intro bb h1 h2 h3 h4 h5 hk
   obtain⟨cc,hc,hk⟩:=wY hk
   exact⟨_,_,hk, .v _,fun u q Kv _ hv=>h5 u q Kv (dR (wZ u hc (xg u h1) h2 h3 (h4 u)) (dJ hv))⟩
  have XY : ∀(u:World) (f:Fn) (p r:Array Value),(Op.equal t (.func f p r) .nilFunc).run P u = .ok false u:=fun u f p r=>by
   obtain⟨d,hd⟩:=qX t (.func f p r) .nilFunc
   rw [hd]
   unfold Op.equalIn
   rw [Sem.run_bind,aO hu]
   rfl
  split at h
  ·cases ra with
   | fn f xs ys us vs hx hy rx ry=>exact fin ⟨(fun l e=>by cases e),(fun e=>by cases e)⟩ rfl rfl (fun u=>XY u _ _ _) (fun u q Kv h=>h) h
  ·have ev:=ra.dA
   subst ev
   exact fin ⟨(fun l e=>by cases e),(fun e=>by cases e)⟩ rfl rfl (fun u=>XY u _ _ _) (fun u q Kv h=>h) h
  ·have ev:=ra.dA
   subst ev
   refine fin ⟨(fun l e=>by cases e),(fun e=>by cases e)⟩ rfl rfl (fun u=> ?_) (fun u q Kv h=>h) h
   obtain⟨d,hd⟩:=qX t .nilFunc .nilFunc
   rw [hd]
   unfold Op.equalIn
   rw [Sem.run_bind,aO hu]
   rfl
  ·exact h.elim
 ·exact h.elim
theorem IG {op:BinOp}{t:TypeId}{x y:Operand}{a b:AV}{va vb:Value}(h:YJ P H op t a b K)(ra:aX n σ F w a va)(rb:aX n σ F w b vb)(hH:kV n σ F w H) :
  Ans n σ F w K S fun u q Kv=>tZ P q op t x y va vb u Kv:=by
 unfold YJ at h
 split at h
 ·rename_i k m k' n'
  rw [ra.dA,rb.dA]
  split at h
  ·obtain⟨a,v,h1,h2,h3⟩:=qC (n:=n) (σ:=σ) (F:=F) (w:=w) (S:=S) h;exact⟨a,v,h1,h2,h3⟩
  ·obtain⟨a,v,h1,h2,h3⟩:=qC (n:=n) (σ:=σ) (F:=F) (w:=w) (S:=S) h;exact⟨a,v,h1,h2,h3⟩
  ·rename_i op' h1 h2
   cases hk:decide (k=k')with
   | false=>rw [hk]at h;exact h.elim
   | true=>
    rw [hk,cond_true]at h
    obtain⟨a,v,g1,g2,g3⟩:=qC (n:=n) (σ:=σ) (F:=F) (w:=w) (S:=S) h
    refine⟨a,v,g1,g2,fun u q Kv hs hv=> ?_⟩
    have:=g3 u q Kv hs hv
    cases op<;>first | exact(h1 rfl).elim | exact(h2 rfl).elim | (simp only [tZ,hk,cond_true];exact this)
 ·rw [ra.dA,rb.dA]
  obtain⟨a,v,g1,g2,g3⟩:=Iz (n:=n) (σ:=σ) (F:=F) (w:=w) (S:=S) h
  exact⟨a,v,g1,g2,g3⟩
 ·rename_i m n'
  rw [ra.dA,rb.dA]
  split at h
  ·split at h
   ·rename_i hu
    exact⟨_,_,h, .v _,fun u q Kv _ hv=>by simp only [tZ,hu];exact hv⟩
   ·exact h.elim
  ·split at h
   ·rename_i hu
    exact⟨_,_,h, .v _,fun u q Kv _ hv=>by simp only [tZ,hu];exact hv⟩
   ·exact h.elim
  ·exact h.elim
 ·rename_i xs ys
  obtain⟨us',rfl,rx⟩:=bI.yD ra
  obtain⟨vs',rfl,ry⟩:=bI.yD rb
  split at h
  ·rename_i us vs hus hvs
   have e1:=yI hus rx
   have e2:=yI hvs ry
   subst e1;subst e2
   split at h
   ·rename_i b hb
    split at h
    ·exact⟨_,_,h.go, .v _,fun u q Kv _ hv=>YD h.g h.p h.u hb (dJ hv)⟩
    ·exact⟨_,_,h.go, .v _,fun u q Kv _ hv=>YC h.g h.p h.u hb (dJ hv)⟩
    ·exact h.elim
   ·exact h.elim
  ·exact h.elim
 ·exact IE h ra rb hH
theorem Dj {b:Builtin}{ts:List TypeId}{ty:TypeId}{as:List AV}{vs:List Value}(h:Ir P H b ts as K)(r:bI n σ F w as vs)(hH:kV n σ F w H):Ans n σ F w K S fun u q Kv=>uj P q b ts ty vs u Kv:=by
 unfold Ir at h
 split at h
 ·rename_i t a
  obtain⟨v,rfl,ra⟩ : ∃v,vs = [v]∧aX n σ F w a v:=by
   match vs,r with
   | [v],r=>exact⟨v,rfl,r.1⟩
  obtain⟨a',v',h1,h2,h3⟩:=IB (S:=S) (ty:=ty) h ra hH
  exact⟨a',v',h1,h2,h3⟩
 all_goals first
  | exact h.elim
  | (
   obtain⟨v1,v2,rfl,r1,r2⟩ : ∃v1 v2,vs = [v1,v2]∧aX n σ F w _ v1∧aX n σ F w _ v2:=by
    match vs,r with
    | [v1,v2],r=>exact⟨v1,v2,rfl,r.1,r.2.1⟩
   have e1:=r1.dA
   have e2:=r2.dA
   subst e1;subst e2
   refine⟨_,_,h, .v _,fun u q Kv _ hv=> ?_⟩
   exact hv)
theorem II (hr : ∀s,aX n σ F w (cu s) (ρ s))(x:Option Operand):IC n σ F w (x.map (dI cu)) (x.map (fE ρ)):=by
 cases x with
 | none=>exact .inl ⟨rfl,rfl⟩
 | some x=>exact .inr ⟨_,_,rfl,rfl,bF hr x⟩
theorem YP (x:FV)(v:Value)(h:dN F w x v):aX n σ F w x.val v:=by
 cases x with
 | v y=>cases h;exact jA _
 | _=>exact h.up
theorem AB {Hr:aj}{t:TypeId}{m k:AV}{ok:Bool}{vm vk:Value}(h:CW P Hr t m k ok K)(rm:aX n σ F w m vm)(rk:aX n σ F w k vk)(Ud:kV n σ F w Hr)(hS : ∀u,S u→jG σ F Hr w u) :
  Ans n σ F w K S fun u q Kv=>bM P (Instr.lookup t vm vk ok) u (wr q u Kv):=by
 unfold CW at h
 split at h
 ·rename_i l s
  rw [rk.dA]
  cases rm with
  | mp _ b hl hb=>
   split at h
   ·rename_i kt et M hu hk
    split at h
    ·rename_i z hkt hz
     obtain⟨g,hg,hM⟩:=Ud _ _ hk
     rw [hb]at hg
     injection hg with hg
     subst hg
     cases ok with
     | true=>
      refine⟨_, .tuple #[(M s).getD z, .bool (M s).isSome],h.ex, ?_,fun u q Kv hu' hv=>yC hu hkt hz (hM.heap ((hS u hu').h l _ b hk rfl (.inl hb))) (dJ hv)⟩
      exact bI.bG (as:= [Hf ((M s).getD z), .v (.bool (M s).isSome)]) (vs:= [(M s).getD z, .bool (M s).isSome]) ⟨jA _, .v _,trivial⟩
     | false=>
      exact⟨_,_,h.ex,jA _,fun u q Kv hu' hv=>uD hu hkt hz (hM.heap ((hS u hu').h l _ b hk rfl (.inl hb))) (dJ hv)⟩
    ·exact h.elim
   ·rename_i kt et M hu hk
    split at h
    ·rename_i z hkt hz
     obtain⟨g,hg,hf⟩:=Ud _ _ hk
     rw [hb]at hg
     injection hg with hg
     subst hg
     cases hf with
     | fm _ _ hF hM=>
      cases ok with
      | true=>
       refine⟨_, .tuple #[(M s).getD z, .bool (M s).isSome],h.ex, ?_,fun u q Kv hu' hv=>yC hu hkt hz (hM.heap ((hS u hu').f b hF)) (dJ hv)⟩
       exact bI.bG (as:= [Hf ((M s).getD z), .v (.bool (M s).isSome)]) (vs:= [(M s).getD z, .bool (M s).isSome]) ⟨jA _, .v _,trivial⟩
      | false=>
       exact⟨_,_,h.ex,jA _,fun u q Kv hu' hv=>uD hu hkt hz (hM.heap ((hS u hu').f b hF)) (dJ hv)⟩
    ·exact h.elim
   ·exact h.elim
 ·rename_i M s
  rw [rk.dA]
  split at h
  ·rename_i kt et hu
   split at h
   ·rename_i z hkt hz
    cases rm with
    | fm hf=>cases hf with
     | fm _ b hF hM=>
      cases ok with
      | true=>
       refine⟨_, .tuple #[(M s).getD z, .bool (M s).isSome],h.ex, ?_,fun u q Kv hu' hv=>yC hu hkt hz (hM.heap ((hS u hu').f b hF)) (dJ hv)⟩
       exact bI.bG (as:= [Hf ((M s).getD z), .v (.bool (M s).isSome)]) (vs:= [(M s).getD z, .bool (M s).isSome]) ⟨jA _, .v _,trivial⟩
      | false=>
       exact⟨_,_,h.ex,jA _,fun u q Kv hu' hv=>uD hu hkt hz (hM.heap ((hS u hu').f b hF)) (dJ hv)⟩
   ·exact h.elim
  ·exact h.elim
 ·rename_i l i
  rw [rk.dA]
  cases rm with
  | mp _ b hl hb=>
   split at h
   ·rename_i kt et M hu hk
    split at h
    ·rename_i z hkt hz
     obtain⟨g,hg,V,hM,hV⟩:=Ud _ _ hk
     rw [hb]at hg
     injection hg with hg
     subst hg
     have XZ:=hV i
     have key : ∃a b,(match ok with | true=>K (.bG [a, .v (.bool b)]) | false=>K a)∧aX n σ F w a ((V i).getD z)∧b=(V i).isSome:=by
      cases hMi:M i with
      | none=>
       rw [hMi]at XZ
       cases hVv:V i with
       | none=>exact⟨_,_,h.no hMi,jA _,rfl⟩
       | some v=>rw [hVv]at XZ;exact XZ.elim
      | some x=>
       rw [hMi]at XZ
       cases hVv:V i with
       | none=>rw [hVv]at XZ;exact XZ.elim
       | some v=>rw [hVv]at XZ;exact⟨_,_,h.yes x hMi,YP x v XZ,rfl⟩
     obtain⟨a,bb,hK,ha,rfl⟩:=key
     cases ok with
     | true=>
      refine⟨_, .tuple #[(V i).getD z, .bool (V i).isSome],hK, ?_,fun u q Kv hu' hv=>OQ hu hkt hz (hM.heap ((hS u hu').h l _ b hk rfl (.inl hb))) (dJ hv)⟩
      exact bI.bG (as:= [a, .v (.bool (V i).isSome)]) (vs:= [(V i).getD z, .bool (V i).isSome]) ⟨ha, .v _,trivial⟩
     | false=>
      exact⟨_,_,hK,ha,fun u q Kv hu' hv=>MF hu hkt hz (hM.heap ((hS u hu').h l _ b hk rfl (.inl hb))) (dJ hv)⟩
    ·exact h.elim
   ·exact h.elim
 ·exact h.elim
def lN (o:Oper):Bool:=match o.op with | .slice _ _ _ hi mx=> !mx.isSome||hi.isSome | _=>true
theorem yK {Hr:aj}{o:Oper}(h:aQ P Hr H o cu K)(hi:lN o=true)(Ud:kV n σ F w Hr)(hH:kV n σ F w H)(hr : ∀s,aX n σ F w (cu s) (ρ s)):Ans n σ F w K (jG σ F Hr w) fun u q Kv=>Am P q o ρ u Kv:=by
 unfold aQ at h
 unfold Am
 cases ho:o.op<;>simp only [ho]at h ⊢ <;>try exact h.elim
 case move x=>rw [gW]at h;exact⟨_,_,h,bF hr x,fun u q Kv _ hv=>by simp only [force_eq];exact hv⟩
 case assign x=>rw [gW]at h;exact⟨_,_,h,bF hr x,fun u q Kv _ hv=>by simp only [force_eq];exact hv⟩
 case pick c a b=>
  have rc:=bF hr c
  have ra:=bF hr a
  have rb:=bF hr b
  split at h
  ·rename_i t hc
   rw [hc]at rc
   rw [rc.dA]
   split at h
   ·rename_i x y ha hb
    rw [ha]at ra;rw [hb]at rb
    rw [ra.dA,rb.dA]
    exact⟨_,_,h, .v _,fun u q Kv _ hv=>hv⟩
   ·cases t with
    | true=>
     refine⟨_,_,h,ra,fun u q Kv _ hv=> ?_⟩
     dsimp only
     split
     ·rename_i x y e1 e2;rw [e1]at hv;exact hv
     ·exact hv
    | false=>
     refine⟨_,_,h,rb,fun u q Kv _ hv=> ?_⟩
     dsimp only
     split
     ·rename_i x y e1 e2;rw [e2]at hv;exact hv
     ·exact hv
  ·exact h.elim
 case build t parts=>
  rw [iW]at h
  obtain⟨a,v,h1,h2,h3⟩:=C9 (S:=jG σ F Hr w) h (Bv hr parts.toList)
  exact⟨a,v,h1,h2,fun u q Kv hu hv=>by simp only [bY];exact h3 u q Kv hu hv⟩
 case load t a=>
  obtain⟨p,hp,a',v,h1,h2,h3⟩:=vX h (bF hr a) Ud
  rw [hp]
  exact⟨a',v,h1,h2,h3⟩
 case nilCheck x=>
  have rx:=bF hr x
  split at h
  ·rename_i l o' hx
   rw [hx]at rx
   have : ∃p,fE ρ x = .pointer (some p):=by generalize fE ρ x=z at rx;cases rx;exact⟨_,rfl⟩
   obtain⟨p,hp⟩:=this
   rw [hp]at rx ⊢
   exact⟨_,_,h,rx,fun u q Kv _ hv=>hv⟩
  ·rename_i l i o' hx
   rw [hx]at rx
   have : ∃p,fE ρ x = .pointer (some p):=by generalize fE ρ x=z at rx;cases rx;exact⟨_,rfl⟩
   obtain⟨p,hp⟩:=this
   rw [hp]at rx ⊢
   exact⟨_,_,h,rx,fun u q Kv _ hv=>hv⟩
  ·rename_i cs o' hx
   rw [hx]at rx
   have : ∃p,fE ρ x = .pointer (some p):=by generalize fE ρ x=z at rx;cases rx with | fp hf=>cases hf;exact⟨_,rfl⟩
   obtain⟨p,hp⟩:=this
   rw [hp]at rx ⊢
   exact⟨_,_,h,rx,fun u q Kv _ hv=>hv⟩
  ·exact h.elim
 case binOp op t x y yt=>
  rw [gW,gW]at h
  exact IG h (bF hr x) (bF hr y) hH
 case unOp op t x=>
  rw [gW]at h
  exact ML h (bF hr x)
 case convert src dst x=>
  rw [gW]at h
  exact EW h (bF hr x) Ud (fun u hu=>hu)
 case lookup t m k ok=>
  rw [gW,gW]at h
  obtain⟨a,v,h1,h2,h3⟩:=AB (S:=jG σ F Hr w) h (bF hr m) (bF hr k) Ud (fun u hu=>hu)
  exact⟨a,v,h1,h2,fun u q Kv hu hv=>by simp only [force_eq];exact h3 u q Kv hu hv⟩
 case makeFunc fn first captured=>
  rw [iW,iW]at h
  have r1:=kL hr first.toList
  have r2:=kL hr captured.toList
  exact⟨_,_,h, .fn fn _ _ _ _ r1.len r2.len r1.at r2.at,fun u q Kv _ hv=>by simp only [lq,bY];exact hv⟩
 case slice t x lo hi' mx=>
  simp only [gW,YF]at h
  have hm:mx.map (dI cu)≠none→hi'.map (dI cu)≠none:=by
   intro e e2
   simp only [lN,ho]at hi
   cases mx with
   | none=>exact e rfl
   | some m=>cases hi' with
    | none=>simp at hi
    | some y=>cases e2
  obtain⟨a,v,h1,h2,h3⟩:=Di (S:=jG σ F Hr w) h hm (bF hr x) (II hr lo) (II hr hi') (II hr mx) hH
  exact⟨a,v,h1,h2,fun u q Kv hu hv=>by simp only [force_eq,tY];exact h3 u q Kv hu hv⟩
 case fieldAddr t x f=>
  have rx:=bF hr x
  unfold yE at h
  split at h
  ·rename_i d l o' hd hx
   rw [hx]at rx
   generalize fE ρ x=z at rx ⊢
   cases rx with
   | ptr _ _ b hl hb=>exact⟨_,_,h, .ptr _ _ b hl hb,fun u q Kv _ hv=>qE hd _ u Kv (by rw [add0];exact hv)⟩
  ·rename_i d l i o' hd hx
   rw [hx]at rx
   generalize fE ρ x=z at rx ⊢
   cases rx with
   | ep _ _ _ b hl hb=>exact⟨_,_,h, .ep _ _ _ b hl hb,fun u q Kv _ hv=>qE hd _ u Kv (by rw [add0,Nat.add_assoc];exact hv)⟩
  ·rename_i d cs o' hd hx
   rw [hx]at rx
   generalize fE ρ x=z at rx ⊢
   cases rx with
   | fp hf=>cases hf with
    | fp _ _ b off hb hex hrep=>exact⟨_,_,h, .fp (.fp _ _ b off hb hex hrep),fun u q Kv _ hv=>qE hd _ u Kv (by rw [add0,Nat.add_assoc];exact hv)⟩
  ·exact h.elim
 case field t x f=>
  have rx:=bF hr x
  split at h
  ·rename_i cs hx
   rw [hx]at rx
   obtain⟨us,e,r⟩:=bI.yD rx
   rw [e]
   exact CZ h r
  ·exact h.elim
 case indexAddr t x i=>
  rw [gW,gW]at h
  obtain⟨a,v,h1,h2,h3⟩:=uJ (S:=jG σ F Hr w) h (bF hr x) (bF hr i) hH
  exact⟨a,v,h1,h2,fun u q Kv hu hv=>by simp only [force_eq];exact h3 u q Kv hu hv⟩
 case index t x i=>
  rw [gW,gW]at h
  obtain⟨a,v,h1,h2,h3⟩:=Df (S:=jG σ F Hr w) h (bF hr x) (bF hr i)
  exact⟨a,v,h1,h2,fun u q Kv hu hv=>by simp only [force_eq];exact h3 u q Kv hu hv⟩
 case extract t i=>
  have rt:=bF hr t
  split at h
  ·rename_i vs hx
   rw [hx]at rt
   split at h
   ·rename_i a ha
    rw [gW]at h
    generalize fE ρ t=z at rt ⊢
    cases rt with
    | bG _ us hl rx=>
     have r:bI n σ F w vs us:= .of hl rx
     obtain⟨v,h1,h2⟩:=r.Ub ha
     exact⟨_,v,h,h2,fun u q Kv _ hv=>by simp only [h1];exact hv⟩
   ·exact h.elim
  ·exact h.elim
 case call c=>
  obtain⟨callee,args,ats⟩:=c
  cases callee with
  | builtin b=>
   simp only at h
   rw [iW]at h
   obtain⟨a,v,h1,h2,h3⟩:=Dj (S:=jG σ F Hr w) (ty:=o.type) h (kL hr args.toList) hH
   exact⟨a,v,h1,h2,fun u q Kv hu hv=>by simp only [yc,lq,bY];exact h3 u q Kv hu hv⟩
  | _=>exact h.elim
end
def ny (σ:Nat→Loc)(n:Nat)(L:Loc):Nat→Loc:=fun k=>if k=n then L else σ k
theorem bT (σ:Nat→Loc)(n:Nat)(L:Loc):ny σ n L n=L:=if_pos rfl
theorem dD {σ:Nat→Loc}{n k:Nat}{L:Loc}(h:k≠n):ny σ n L k=σ k:=if_neg h
theorem aV {H:aj}{n k:Nat}{b:dM} : look ((n,b)::H) k=if n=k then some b else look H k:=by
 simp only [look]
 by_cases h:n=k
 ·subst h;rw [Nat.beq_refl,cond_true,if_pos rfl]
 ·have:Nat.beq n k=false:=by
   cases hb:Nat.beq n k with
   | false=>rfl
   | true=>exact absurd (Nat.eq_of_beq_eq_true hb) h
  rw [this,cond_false,if_neg h]
theorem dw {H:aj}{aP k:Nat}{b b':dM}(h:look H aP=some b):look (setH H aP b') k=if k=aP then some b' else look H k:=by
 induction H with
 | nil=>cases h
 | cons p r ih=>
  obtain⟨x,bx⟩:=p
  rw [aV]at h
  by_cases hx:x=aP
  ·subst hx
   have e:setH ((x,bx)::r) x b'=(x,b')::r:=by simp only [setH,Nat.beq_refl,cond_true]
   rw [e,aV,aV]
   by_cases hk:x=k
   ·rw [if_pos hk,if_pos hk.symm]
   ·rw [if_neg hk,if_neg (fun e=>hk e.symm),if_neg hk]
  ·rw [if_neg hx]at h
   have hb:Nat.beq x aP=false:=by
    cases hb:Nat.beq x aP with
    | false=>rfl
    | true=>exact absurd (Nat.eq_of_beq_eq_true hb) hx
   have e:setH ((x,bx)::r) aP b'=(x,bx)::setH r aP b':=by simp only [setH,hb,cond_false]
   rw [e,aV,aV,ih h]
   by_cases hk:x=k
   ·subst hk;rw [if_pos rfl,if_neg hx,if_pos rfl]
   ·rw [if_neg hk,if_neg hk]
theorem gX {H:aj}{aP k:Nat}{b:dM}(h:look (Iu H aP) k=some b):k≠aP∧look H k=some b:=by
 induction H with
 | nil=>cases h
 | cons p r ih=>
  obtain⟨x,bx⟩:=p
  by_cases hx:x=aP
  ·subst hx
   have e:Iu ((x,bx)::r) x=Iu r x:=by simp only [Iu,Nat.beq_refl,cond_true]
   rw [e]at h
   obtain⟨h1,h2⟩:=ih h
   refine⟨h1, ?_⟩
   rw [aV,if_neg (fun e=>h1 e.symm)]
   exact h2
  ·have hb:Nat.beq x aP=false:=by
    cases hb:Nat.beq x aP with
    | false=>rfl
    | true=>exact absurd (Nat.eq_of_beq_eq_true hb) hx
   have e:Iu ((x,bx)::r) aP=(x,bx)::Iu r aP:=by simp only [Iu,hb,cond_false]
   rw [e,aV]at h
   by_cases hk:x=k
   ·subst hk
    rw [if_pos rfl]at h
    exact⟨hx,by rw [aV,if_pos rfl];exact h⟩
   ·rw [if_neg hk]at h
    obtain⟨h1,h2⟩:=ih h
    exact⟨h1,by rw [aV,if_neg hk];exact h2⟩
def EY (G:Glob)(w₀:World)(aJ aN:Nat→Prop)(n:Nat)(σ:Nat→Loc)(F:Nat→Prop)(w:World)(K:AV→Nat→aj→Prop)(v:Value)(w':World):Prop:=
 ∃a n' σ' F' H',K a n' H'∧St G w₀ aJ aN n' σ' F' H' w'∧Ext n σ F w n' σ' F' w'∧aX n' σ' F' w' a v
section
variable {P:Program}{G:Glob}{w₀:World}{aJ aN:Nat→Prop}{n:Nat}{σ:Nat→Loc}{F:Nat→Prop}{H:aj}{w:World}
theorem St.hrep (st:St G w₀ aJ aN n σ F H w):kV n σ F w H:=st.blk
theorem St.more (st:St G w₀ aJ aN n σ F H w){w':World}(hB:pV (fun _=>False) w w')(X:Nat→Prop)(hX : ∀g,X g→w.heap.size≤g∧g<w'.heap.size) :
  St G w₀ aJ aN n σ (fun b=>F b∨X b) H w'∧Ext n σ F w n σ (fun b=>F b∨X b) w':=by
 have hE:Ext n σ F w n σ (fun b=>F b∨X b) w':=⟨Nat.le_refl _,fun _ _=>rfl,fun b hb=>⟨.inl hb,hB.block b (st.dG b hb).1 id⟩,hB.size⟩
 have hnb:=st.glob.1
 have hw0:=st.fJ.size
 have bk : ∀ {aP b g},look H aP=some b→b.own=true→gZ w' (σ aP) b g→gZ w (σ aP) b g:=fun h hm hg=>hg.back fun k hk=>hB.block k (st.mu _ _ k h hm (.inl hk)).2.2.1 id
 refine⟨⟨Glob.fJ st.glob hB.size fun b hb=>hB.block b (by omega) id,st.fJ.trans hB (fun _ h=>h.elim),fun b hb=> ?_,st.lab,fun aP b g' h hm hg=> ?_,fun aP pW b b' g' h h' hm hm' hg hg'=>st.inj aP pW b b' g' h h' hm hm' (bk h hm hg) (bk h' hm' hg'),fun aP b h=>(st.blk aP b h).mono hE fun hk k hx=>hB.block k (st.mu _ _ k h hk hx).2.2.1 id⟩,hE⟩
 ·rcases hb with hb | hb
  ·exact⟨Nat.lt_of_lt_of_le (st.dG b hb).1 hB.size,(st.dG b hb).2⟩
  ·have:=hX b hb
   exact⟨this.2, .inr (.inl (by omega))⟩
 ·have hg:=bk h hm hg
  obtain⟨q1,q2,q3,q4⟩:=st.mu aP b g' h hm hg
  exact⟨fun hf=>hf.elim q1 fun e=>by have:=(hX g' e).1;omega,q2,Nat.lt_of_lt_of_le q3 hB.size,q4⟩
theorem St.new (st:St G w₀ aJ aN n σ F H w){w':World}(hB:pV (fun _=>False) w w')(L:Loc)(hL : ∀g,L.b=some g→w.heap.size≤g∧g<w'.heap.size)(blk:dM)(hblk:jT (n+1) (ny σ n L) F w' L blk)(hfl:blk.flat=true:=by rfl) :
  St G w₀ aJ aN (n+1) (ny σ n L) F ((n,blk)::H) w'∧Ext n σ F w (n+1) (ny σ n L) F w':=by
 have hE:Ext n σ F w (n+1) (ny σ n L) F w':=⟨by omega,fun k hk=>dD (by omega),fun b hb=>⟨hb,hB.block b (st.dG b hb).1 id⟩,hB.size⟩
 have hnb:=st.glob.1
 have hw0:=st.fJ.size
 have bk : ∀ {aP b g},look H aP=some b→b.own=true→gZ w' (σ aP) b g→gZ w (σ aP) b g:=fun h hm hg=>hg.back fun k hk=>hB.block k (st.mu _ _ k h hm (.inl hk)).2.2.1 id
 refine⟨⟨Glob.fJ st.glob hB.size fun b hb=>hB.block b (by omega) id,st.fJ.trans hB (fun _ h=>h.elim),fun b hb=>⟨Nat.lt_of_lt_of_le (st.dG b hb).1 hB.size,(st.dG b hb).2⟩,fun aP b h=> ?_,fun aP b g h hm hg=> ?_,fun aP pW b b' g h h' hm hm' hg hg'=> ?_,fun aP b h=> ?_⟩,hE⟩
 ·rw [aV]at h
  split at h
  ·omega
  ·have:=st.lab aP b h;omega
 ·rw [aV]at h
  split at h
  ·rename_i e
   subst e
   injection h with h
   subst h
   rw [bT]at hg
   obtain⟨h1,h2⟩:=hL g (hg.flat hfl)
   exact⟨fun hf=>by have:=(st.dG g hf).1;omega,by omega,h2, .inr (by omega)⟩
  ·have hl:=st.lab aP b h
   rw [dD (by omega)]at hg
   have hg:=bk h hm hg
   obtain⟨h1,h2,h3,h4⟩:=st.mu aP b g h hm hg
   exact⟨h1,h2,Nat.lt_of_lt_of_le h3 hB.size,h4⟩
 ·rw [aV]at h h'
  split at h
  ·rename_i e
   split at h'
   ·rename_i e';omega
   ·have hl:=st.lab pW b' h'
    injection h with h
    subst h
    rw [←e,bT]at hg
    rw [dD (by omega)]at hg'
    have:=(hL g (hg.flat hfl)).1
    have:=(st.mu pW b' g h' hm' (bk h' hm' hg')).2.2.1
    omega
  ·have hl:=st.lab aP b h
   rw [dD (by omega)]at hg
   split at h'
   ·rename_i e'
    injection h' with h'
    subst h'
    rw [←e',bT]at hg'
    have:=(hL g (hg'.flat hfl)).1
    have:=(st.mu aP b g h hm (bk h hm hg)).2.2.1
    omega
   ·have hl':=st.lab pW b' h'
    rw [dD (by omega)]at hg'
    exact st.inj aP pW b b' g h h' hm hm' (bk h hm hg) (bk h' hm' hg')
 ·rw [aV]at h
  split at h
  ·rename_i e
   subst e
   injection h with h
   subst h
   rw [bT]
   exact hblk
  ·have hl:=st.lab aP b h
   rw [dD (by omega)]
   exact(st.blk aP b h).mono hE fun hm g hg=>hB.block g (st.mu aP b g h hm hg).2.2.1 id
theorem St.write (st:St G w₀ aJ aN n σ F H w){w':World}{aP g:Nat}{blk:dM}(hk:look H aP=some blk)(hm:blk.own=true)(hg:(σ aP).b=some g)(hO:Only g w w')(blk':dM)(hblk:jT n σ F w (σ aP) blk→Ext n σ F w n σ F w'→jT n σ F w' (σ aP) blk')(hfl : ∀g',gZ w' (σ aP) blk' g'→gZ w (σ aP) blk g':=by exact fun _ h=> .inl (h.flat rfl)) :
  St G w₀ aJ aN n σ F (setH H aP blk') w'∧Ext n σ F w n σ F w':=by
 obtain⟨m1,m2,m3,m4⟩:=st.mu aP blk g hk hm (.inl hg)
 have bk : ∀ {k b g'},k≠aP→look H k=some b→b.own=true→gZ w' (σ k) b g'→gZ w (σ k) b g':=fun hne h hm' hg'=>hg'.back fun x hx=>hO.block x fun e=>by
  subst e
  exact hne (st.inj _ aP _ blk x h hk hm' hm (.inl hx) (.inl hg))
 have hE:Ext n σ F w n σ F w':=⟨Nat.le_refl _,fun _ _=>rfl,fun b hb=>⟨hb,hO.block b fun e=>m1 (e▸hb)⟩,Nat.le_of_eq hO.size.symm⟩
 refine⟨⟨Glob.fJ st.glob (Nat.le_of_eq hO.size.symm) fun b hb=>hO.block b (by omega),st.fJ.trans (pV.YE hO) (fun b hb=>by subst hb;exact m4),fun b hb=>⟨by rw [hO.size];exact(st.dG b hb).1,(st.dG b hb).2⟩,fun k b h=> ?_,fun k b g' h hm' hg'=> ?_,fun k k' b b' g' h h' hm1 hm2 hg1 hg2=> ?_,fun k b h=> ?_⟩,hE⟩
 ·rw [dw hk]at h
  split at h
  ·rename_i e;subst e;exact st.lab _ _ hk
  ·exact st.lab k b h
 ·rw [dw hk]at h
  rw [hO.size]
  split at h
  ·rename_i e;subst e;injection h with h;subst h;exact st.mu _ _ g' hk hm (hfl g' hg')
  ·rename_i e;exact st.mu k b g' h hm' (bk e h hm' hg')
 ·rw [dw hk]at h h'
  have e1 : ∃c,look H k=some c∧c.own=true∧gZ w (σ k) c g':=by
   split at h
   ·rename_i e;subst e;injection h with h;subst h;exact⟨_,hk,hm,hfl g' hg1⟩
   ·rename_i e;exact⟨_,h,hm1,bk e h hm1 hg1⟩
  have e2 : ∃c,look H k'=some c∧c.own=true∧gZ w (σ k') c g':=by
   split at h'
   ·rename_i e;subst e;injection h' with h';subst h';exact⟨_,hk,hm,hfl g' hg2⟩
   ·rename_i e;exact⟨_,h',hm2,bk e h' hm2 hg2⟩
  obtain⟨c1,x1,y1,z1⟩:=e1
  obtain⟨c2,x2,y2,z2⟩:=e2
  exact st.inj k k' c1 c2 g' x1 x2 y1 y2 z1 z2
 ·rw [dw hk]at h
  split at h
  ·rename_i e
   subst e
   injection h with h
   subst h
   exact hblk (st.blk _ _ hk) hE
  ·rename_i e
   refine(st.blk k b h).mono hE fun hm' g' hg'=>hO.block g' fun e2=> ?_
   subst e2
   exact e (st.inj k aP b blk g' h hk hm' hm hg' (.inl hg))
theorem St.drop (st:St G w₀ aJ aN n σ F H w)(aP:Nat):St G w₀ aJ aN n σ F (Iu H aP) w:=
 ⟨st.glob,st.fJ,st.dG,fun k b h=>st.lab k b (gX h).2,fun k b g h=>st.mu k b g (gX h).2,fun k k' b b' g h h'=>st.inj k k' b b' g (gX h).2 (gX h').2,fun k b h=>st.blk k b (gX h).2⟩
theorem jv {L:Loc}{F':Nat→Prop}{t sz:Nat}{l:List (List FV)}(h:jT n σ F w L (.rows t sz l))(hF : ∀b,F b→F' b)(hg : ∀g,L.b=some g→F' g):jT n σ F' w L (.fz sz l):=by
 obtain⟨h1,h2,xs,hO,hR⟩:=h
 have hm : ∀b,F b→F' b∧w.heap[b]? = w.heap[b]? :=fun b hb=>⟨hF b hb,rfl⟩
 refine⟨h1,h2, ?_, ?_⟩
 ·rw [h2]
  have hc:l.length≤L.c∧(L.oa=none→L.c=0):=by
   rcases hO.2 with ⟨hv,h0⟩ | ⟨g,cap,cur,hv,_,_,hle,_⟩
   ·injection hv with _ _ ec;exact⟨by omega,fun _=>ec⟩
   ·injection hv with eo _ ec;exact⟨by omega,fun en=>by rw [en]at eo;cases eo⟩
  rcases Nat.eq_zero_or_pos l.length with h0 | h0
  ·have hl:l = []:=List.eq_nil_of_length_eq_zero h0
   subst hl
   exact .lst sz [] _ _ _ 0 0 rfl hc.1 hc.2 (fun h=>absurd h (Nat.lt_irrefl 0)) (by simp) (fun i j hi=>absurd hi (Nat.not_lt_zero i)) (fun i j row a v hi=>by simp at hi)
  ·obtain⟨g,cur,hoa,_,hB,hle,_,hcl,htk⟩:=hO.blk h0
   have hcell : ∀k,k<l.length*sz→w.cell? ⟨g,0+k,none⟩=xs[k]? :=fun k hk=>by
    rw [Nat.zero_add,hB.cell, ←htk,List.getElem?_take,if_pos hk]
   have hlt : ∀i j,i<l.length→j<sz→i*sz+j<l.length*sz:=fun i j hi hj=>by
    have:(i+1)*sz≤l.length*sz:=Nat.mul_le_mul_right _ hi
    rw [Nat.add_mul,Nat.one_mul]at this;omega
   refine .lst sz l _ _ _ g 0 rfl hc.1 hc.2 (fun _=>⟨hoa,hg g (ni hoa)⟩) hR.1 (fun i j hi hj=> ?_) (fun i j row a v hi hj hv=> ?_)
   ·have hk:=hlt i j hi hj
    rw [hcell _ hk]
    have hxl:=hR.2.1
    exact⟨xs[i*sz+j],List.getElem?_eq_getElem (by omega),hR.2.2.1 _ (List.getElem_mem _)⟩
   ·have hil:=(List.getElem?_eq_some_iff.1 hi).1
    have hjl:=(List.getElem?_eq_some_iff.1 hj).1
    rw [hR.1 row (List.mem_of_getElem? hi)]at hjl
    rw [hcell _ (hlt i j hil hjl)]at hv
    exact(hR.2.2.2 i j row a v hi hj hv).mono hm
 ·intro b o e
  unfold Loc.oa at e
  cases hb:L.b with
  | none=>rw [hb]at e;cases e
  | some g=>rw [hb]at e;simp only [Option.map_some,Option.some.injEq]at e;injection e with _ e;exact e.symm
theorem St.freeze (st:St G w₀ aJ aN n σ F H w){aP t sz:Nat}{l:List (List FV)}(hk:look H aP=some (.rows t sz l)) :
  St G w₀ aJ aN n σ (fun b=>F b∨(σ aP).b=some b) (setH H aP (.fz sz l)) w∧Ext n σ F w n σ (fun b=>F b∨(σ aP).b=some b) w:=by
 have hE:Ext n σ F w n σ (fun b=>F b∨(σ aP).b=some b) w:=⟨Nat.le_refl _,fun _ _=>rfl,fun b hb=>⟨.inl hb,rfl⟩,Nat.le_refl _⟩
 refine⟨⟨st.glob,st.fJ,fun b hb=> ?_,fun k b h=> ?_,fun k b g' h hm' hg'=> ?_,fun k k' b b' g' h h' hm1 hm2 hg1 hg2=> ?_,fun k b h=> ?_⟩,hE⟩
 ·rcases hb with hb | hb
  ·exact st.dG b hb
  ·obtain⟨_,_,h3,h4⟩:=st.mu aP _ b hk rfl (.inl hb)
   exact⟨h3,h4.elim (fun h=> .inr (.inr h)) fun h=> .inr (.inl h)⟩
 ·rw [dw hk]at h
  split at h
  ·rename_i e;subst e;exact st.lab _ _ hk
  ·exact st.lab k b h
 ·rw [dw hk]at h
  split at h
  ·injection h with h;subst h;cases hm'
  ·rename_i e
   obtain⟨h1,h2⟩:=st.mu k b g' h hm' hg'
   refine⟨fun hf=>hf.elim h1 fun hf=>e (st.inj k aP b _ g' h hk hm' rfl hg' (.inl hf)),h2⟩
 ·rw [dw hk]at h h'
  split at h
  ·injection h with h;subst h;cases hm1
  ·split at h'
   ·injection h' with h';subst h';cases hm2
   ·exact st.inj k k' b b' g' h h' hm1 hm2 hg1 hg2
 ·rw [dw hk]at h
  split at h
  ·rename_i e
   subst e
   injection h with h
   subst h
   exact jv (st.blk _ _ hk) (fun b hb=> .inl hb) fun g hg=> .inr hg
  ·exact(st.blk k b h).mono hE fun _ _ _=>rfl
theorem St.Ue (st:St G w₀ aJ aN n σ F H w){aP:Nat}{M:ByteArray→Option Value}(hk:look H aP=some (.map M)) :
  St G w₀ aJ aN n σ (fun b=>F b∨(σ aP).b=some b) (setH H aP (.MI M)) w∧Ext n σ F w n σ (fun b=>F b∨(σ aP).b=some b) w:=by
 have hE:Ext n σ F w n σ (fun b=>F b∨(σ aP).b=some b) w:=⟨Nat.le_refl _,fun _ _=>rfl,fun b hb=>⟨.inl hb,rfl⟩,Nat.le_refl _⟩
 refine⟨⟨st.glob,st.fJ,fun b hb=> ?_,fun k b h=> ?_,fun k b g' h hm' hg'=> ?_,fun k k' b b' g' h h' hm1 hm2 hg1 hg2=> ?_,fun k b h=> ?_⟩,hE⟩
 ·rcases hb with hb | hb
  ·exact st.dG b hb
  ·obtain⟨_,_,h3,h4⟩:=st.mu aP _ b hk rfl (.inl hb)
   exact⟨h3,h4.elim (fun h=> .inr (.inr h)) fun h=> .inr (.inl h)⟩
 ·rw [dw hk]at h
  split at h
  ·rename_i e;subst e;exact st.lab _ _ hk
  ·exact st.lab k b h
 ·rw [dw hk]at h
  split at h
  ·injection h with h;subst h;cases hm'
  ·rename_i e
   obtain⟨h1,h2⟩:=st.mu k b g' h hm' hg'
   refine⟨fun hf=>hf.elim h1 fun hf=>e (st.inj k aP b _ g' h hk hm' rfl hg' (.inl hf)),h2⟩
 ·rw [dw hk]at h h'
  split at h
  ·injection h with h;subst h;cases hm1
  ·split at h'
   ·injection h' with h';subst h';cases hm2
   ·exact st.inj k k' b b' g' h h' hm1 hm2 hg1 hg2
 ·rw [dw hk]at h
  split at h
  ·rename_i e
   subst e
   injection h with h
   subst h
   obtain⟨g,hg,hM⟩:=st.blk _ _ hk
   exact⟨g,hg, .fm M g (.inr hg) hM⟩
  ·exact(st.blk k b h).mono hE fun _ _ _=>rfl
def nU (F:Nat→Prop)(w:World)(xs:List FV)(vs:List Value):Prop:=vs.length=xs.length∧∀(j:Nat) a v,xs[j]? = some a→vs[j]? = some v→dN F w a v
theorem nU.mono {F F':Nat→Prop}{w w':World}(h : ∀b,F b→F' b∧w'.heap[b]? = w.heap[b]?){xs:List FV}{vs:List Value}(r:nU F w xs vs):nU F' w' xs vs:=⟨r.1,fun j a v h1 h2=>(r.2 j a v h1 h2).mono h⟩
theorem nU.cons {x:FV}{v:Value}{xs:List FV}{vs:List Value}(h:dN F w x v)(r:nU F w xs vs):nU F w (x::xs) (v::vs):=⟨by simp [r.1],fun j a u h1 h2=>by
 cases j with
 | zero=>simp only [List.getElem?_cons_zero,Option.some.injEq]at h1 h2;rw [←h1, ←h2];exact h
 | succ j=>exact r.2 j a u (by simpa using h1) (by simpa using h2)⟩
theorem o8 (sz:Nat)(oa:Option Addr):dN F w (.lst sz []) (.slice oa 0 0):=
 .lst sz [] oa 0 0 0 0 rfl (Nat.le_refl _) (fun _=>rfl) (fun h=>absurd h (Nat.lt_irrefl 0)) (by simp) (fun i j hi=>absurd hi (Nat.not_lt_zero i)) (fun i j row a v hi=>by simp at hi)
theorem EZ {a:AV}{v:Value}{K:FV→aj→Prop}(h:dn H a K)(st:St G w₀ aJ aN n σ F H w)(ra:aX n σ F w a v) :
  ∃x H' F',K x H'∧St G w₀ aJ aN n σ F' H' w∧Ext n σ F w n σ F' w∧dN F' w x v:=by
 unfold dn at h
 split at h
 ·rw [ra.dA];exact⟨_,_,F,h,st, .refl _ _ _ _, .v _⟩
 ·cases ra with | lst hf=>exact⟨_,_,F,h,st, .refl _ _ _ _,hf⟩
 ·cases ra with | fp hf=>exact⟨_,_,F,h,st, .refl _ _ _ _,hf⟩
 ·split at h
  ·rename_i t sz m hk
   obtain⟨s1,e1⟩:=st.freeze hk
   have hb:=s1.blk _ (.fz sz m) (by rw [dw hk,if_pos rfl])
   cases ra with
   | iO _ oa hl hn hc=>
    have e:=hb.2.1
    rw [hn]at e
    have:m = []:=List.eq_nil_of_length_eq_zero e.symm
    subst this
    exact⟨_,_,_,h,s1,e1,o8 sz oa⟩
   | own _ hl=>exact⟨_,_,_,h,s1,e1,hb.2.2.1⟩
  ·rename_i sz m hk
   have hb:=st.blk _ _ hk
   cases ra with
   | iO _ oa hl hn hc=>
    have e:=hb.2.1
    rw [hn]at e
    have:m = []:=List.eq_nil_of_length_eq_zero e.symm
    subst this
    exact⟨_,_,F,h,st, .refl _ _ _ _,o8 sz oa⟩
   | own _ hl=>exact⟨_,_,F,h,st, .refl _ _ _ _,hb.2.2.1⟩
  ·exact h.elim
 ·cases ra with | fm hf=>exact⟨_,_,F,h,st, .refl _ _ _ _,hf⟩
 ·split at h
  ·rename_i M hk
   obtain⟨s1,e1⟩:=st.Ue hk
   obtain⟨g,hg,hf⟩:=s1.blk _ (.MI M) (by rw [dw hk,if_pos rfl])
   cases ra with
   | mp _ b hl hb=>
    rw [hb]at hg
    injection hg with hg
    subst hg
    exact⟨_,_,_,h,s1,e1,hf⟩
  ·rename_i M hk
   obtain⟨g,hg,hf⟩:=st.blk _ _ hk
   cases ra with
   | mp _ b hl hb=>
    rw [hb]at hg
    injection hg with hg
    subst hg
    exact⟨_,_,F,h,st, .refl _ _ _ _,hf⟩
  ·exact h.elim
 ·exact h.elim
theorem BH : ∀ {as:List AV} {vs:List Value} {H:aj} {F:Nat→Prop} {K:List FV→aj→Prop},dnL H as K→St G w₀ aJ aN n σ F H w→bI n σ F w as vs→
  ∃xs H' F',K xs H'∧St G w₀ aJ aN n σ F' H' w∧Ext n σ F w n σ F' w∧nU F' w xs vs:=by
 intro as
 induction as with
 | nil=>intro vs H F K h st r;cases vs with
  | nil=>exact⟨[],H,F,h,st, .refl _ _ _ _,rfl,fun j a v h1=>by simp at h1⟩
  | cons _ _=>exact r.elim
 | cons a as ih=>intro vs H F K h st r;cases vs with
  | nil=>exact r.elim
  | cons v vs=>
   obtain⟨x,H1,F1,h1,s1,e1,r1⟩:=EZ h st r.1
   obtain⟨xs,H2,F2,h2,s2,e2,r2⟩:=ih h1 s1 (r.2.mono e1)
   exact⟨x::xs,H2,F2,h2,s2,e1.trans e2, .cons (r1.mono e2.f) r2⟩
theorem fA.nil (sz:Nat):fA F w sz [] []:=⟨by simp,by simp,by simp,fun i j row a v h=>by simp at h⟩
theorem fA.cons {sz:Nat}{row:List FV}{l:List (List FV)}{vs xs:List Value}(hr:nU F w row vs)(hl:vs.length=sz)(h1 : ∀v∈vs,v.oneCell'=true)(r:fA F w sz l xs):fA F w sz (row::l) (vs++xs):=by
 refine⟨fun x hx=> ?_,by rw [List.length_append,r.2.1,hl,List.length_cons,Nat.add_mul];omega,fun v hv=> ?_,fun i j row' a v hi hj hv=> ?_⟩
 ·rcases List.mem_cons.1 hx with rfl | hx
  ·rw [←hr.1];exact hl
  ·exact r.1 x hx
 ·rcases List.mem_append.1 hv with hv | hv
  ·exact h1 v hv
  ·exact r.2.2.1 v hv
 ·cases i with
  | zero=>
   simp only [List.getElem?_cons_zero,Option.some.injEq]at hi
   subst hi
   have hjl:=(List.getElem?_eq_some_iff.1 hj).1
   rw [Nat.zero_mul,Nat.zero_add,List.getElem?_append_left (by rw [hr.1];exact hjl)]at hv
   exact hr.2 j a v hj hv
  | succ i=>
   have hi':l[i]? = some row':=by simpa using hi
   rw [List.getElem?_append_right (by rw [hl,Nat.add_mul];omega),hl]at hv
   rw [show (i+1)*sz+j-sz=i*sz+j by rw [Nat.add_mul];omega]at hv
   exact r.2.2.2 i j row' a v hi' hj hv
theorem yL : ∀ {as:List AV} {vs:List Value},all1 as=true→bI n σ F w as vs→∀v∈vs,v.oneCell'=true:=by
 intro as
 induction as with
 | nil=>intro vs _ r v hv;cases vs with
  | nil=>cases hv
  | cons _ _=>exact r.elim
 | cons a as ih=>intro vs h r v hv;cases vs with
  | nil=>exact r.elim
  | cons u vs=>
   simp only [all1,Bool.and_eq_true]at h
   rcases List.mem_cons.1 hv with rfl | hv
   ·have hc:=h.1
    have ra:=r.1
    have key : ∀ {a:AV} {v:Value},cell1 a=true→aX n σ F w a v→v.oneCell'=true:=fun {a v} hc ra=>by
     cases ra with
     | v x=>exact hc
     | top x=>cases hc
     | agg _ _ _ _=>cases hc
     | bG _ _ _ _=>cases hc
     | lst hf=>cases hf;rfl
     | fp hf=>cases hf;rfl
     | fm hf=>cases hf;rfl
     | _=>rfl
    exact key hc ra
   ·exact ih h.2 r.2 v hv
theorem qG {a:AV}{v:Value}(r:aX n σ F w a v)(h:all1 (cellsOf a)=true):bI n σ F w (cellsOf a) v.cells.toList:=
 Bz r fun e=>by rw [e]at h;simp [cellsOf,all1,cell1]at h
theorem AL {sz:Nat} : ∀ {ks:List Nat} {as:List AV} {us:List Value} {i:Nat} {H:aj} {F:Nat→Prop} {K:List (List FV)→aj→Prop},wX H sz i (ks.zip as) K→ks.length=as.length→St G w₀ aJ aN n σ F H w→bI n σ F w as us→
  ∃l H' F',K l H'∧St G w₀ aJ aN n σ F' H' w∧Ext n σ F w n σ F' w∧l.length=as.length∧ks=List.range' i as.length∧(∀u∈us,u.cells.toList.length=sz)∧fA F' w sz l (us.flatMap fun u=>u.cells.toList):=by
 intro ks
 induction ks with
 | nil=>
  intro as us i H F K h hl st r
  cases as with
  | cons _ _=>simp at hl
  | nil=>cases us with
   | cons _ _=>exact r.elim
   | nil=>exact⟨[],H,F,h,st, .refl _ _ _ _,rfl,rfl,by simp,fA.nil sz⟩
 | cons k ks ih=>
  intro as us i H F K h hl st r
  cases as with
  | nil=>simp at hl
  | cons a as=>cases us with
   | nil=>exact r.elim
   | cons u us=>
    simp only [List.zip_cons_cons,wX]at h
    cases hb:(Nat.beq i k&&Nat.beq (cellsOf a).length sz&&all1 (cellsOf a))with
    | false=>rw [hb]at h;exact h.elim
    | true=>
     rw [hb,cond_true]at h
     simp only [Bool.and_eq_true]at hb
     have e1:=Nat.eq_of_beq_eq_true hb.1.1
     have e2:=Nat.eq_of_beq_eq_true hb.1.2
     subst e1
     have rc:=qG r.1 hb.2
     obtain⟨x,H1,F1,h1,s1,x1,r1⟩:=BH h st rc
     obtain⟨l,H2,F2,h2,s2,x2,l2,k2,c2,r2⟩:=ih h1 (by simpa using hl) s1 (r.2.mono x1)
     refine⟨x::l,H2,F2,h2,s2,x1.trans x2,by simp [l2],by rw [k2];rfl, ?_, ?_⟩
     ·intro v hv
      rcases List.mem_cons.1 hv with rfl | hv
      ·rw [rc.len];exact e2
      ·exact c2 v hv
     ·rw [List.flatMap_cons]
      exact .cons (r1.mono x2.f) (by rw [rc.len];exact e2) (yL hb.2 rc) r2
theorem O7 (z:List Value)(sz:Nat)(hz:z.length=sz) : ∀(us:List Value) (i:Nat) (pre:List Value),pre.length=i*sz→(∀u∈us,u.cells.toList.length=sz)→
  nR (fun j=>some (j*sz,sz)) (pre++(List.replicate us.length z).flatten) ((List.range' i us.length).zip us)=some (pre++us.flatMap fun u=>u.cells.toList):=by
 intro us
 induction us with
 | nil=>intro i pre _ _;simp [nR]
 | cons u us ih=>
  intro i pre hp hc
  have hu:=hc u (by simp)
  simp only [List.length_cons,List.range'_succ,List.zip_cons_cons,nR,List.replicate_succ,List.flatten_cons]
  have hlen:(pre++(z++(List.replicate us.length z).flatten)).length=i*sz+sz+(List.replicate us.length z).flatten.length:=by simp [hp,hz];omega
  have c1:(Nat.beq u.cells.toList.length sz&&Nat.ble (i*sz+u.cells.toList.length) (pre++(z++(List.replicate us.length z).flatten)).length)=true:=by
   rw [hu,hlen]
   simp only [Nat.beq_refl,Bool.true_and]
   exact Nat.ble_eq_true_of_le (by omega)
  rw [c1,cond_true, ←hp, ←List.append_assoc,EL pre u.cells.toList z _ (by omega)]
  have:=ih (i+1) (pre++u.cells.toList) (by rw [List.length_append,hp,hu,Nat.add_mul,Nat.one_mul]) (fun v hv=>hc v (by simp [hv]))
  rw [this,List.flatMap_cons,List.append_assoc]
theorem qY {t:TypeId}{m:Nat}{ks:List Nat}{as:List AV}{us:List Value}{K:AV→Nat→aj→Prop}(h:oz P t m (ks.zip as) n H K)(hl:ks.length=as.length)(st:St G w₀ aJ aN n σ F H w)(r:bI n σ F w as us) :
  jE P t m (ks.zip us) w (EY G w₀ aJ aN n σ F w K):=by
 unfold oz at h
 unfold jE
 split at h
 ·rename_i e hu
  split at h
  ·rename_i i hi
   split at h
   ·rename_i z hz
    cases hb:(Nat.beq z.cells.toList.length i.size&&Nat.ble 1 i.size&&Nat.ble (m*i.size) 16777216&&Nat.beq (ks.zip as).length m&&Nat.ble m maxLen)with
    | false=>rw [hb]at h;exact h.elim
    | true=>
     rw [hb,cond_true]at h
     simp only [Bool.and_eq_true]at hb
     obtain⟨⟨⟨⟨b1,b2⟩,b3⟩,b4⟩,b5⟩:=hb
     have e4:=Nat.eq_of_beq_eq_true b4
     rw [List.length_zip,hl,Nat.min_self]at e4
     subst e4
     have hzl:=Nat.eq_of_beq_eq_true b1
     obtain⟨l,H1,F1,h1,s1,x1,l1,k1,c1,r1⟩:=AL h hl st r
     have hul:=r.len
     have hf:=O7 z.cells.toList i.size hzl us 0 [] (by simp) c1
     simp only [List.nil_append]at hf
     simp only [hu,hi,hz,b1,b2,b3,Bool.and_self,cond_true]
     rw [k1, ←hul,hf]
     simp only [bY]
     obtain⟨s2,x2⟩:=s1.new (w':=w.alloc (.cells (us.flatMap fun u=>u.cells.toList).toArray e)) (pV.ji (kK (Below.refl _ _) (Nat.le_refl _) _))
      ⟨some w.heap.size,l.length,l.length,i.size⟩ (fun g hg=>by injection hg with hg;subst hg;exact⟨Nat.le_refl _,by simp⟩) (.rows e i.size l)
      ⟨rfl,rfl,_,Own.vU (jf.new w _ e) (Nat.zero_le _) (Nat.le_refl _) (by rw [l1];exact Nat.le_of_ble_eq_true b5) (by simpa using r1.2.1) (by rw [←r1.2.1];exact List.take_length),r1.mono fun b hb=>⟨hb,heap_alloc_old w _ b (s1.dG b hb).1⟩⟩
     refine⟨_,_,_,_,_,h1,s2,x1.trans x2, ?_⟩
     have:=aX.own (n:=n+1) (σ:=ny σ n ⟨some w.heap.size,l.length,l.length,i.size⟩) (F:=F1) (w:=w.alloc (.cells (us.flatMap fun u=>u.cells.toList).toArray e)) n (by omega)
     rw [bT]at this
     rw [hul, ←l1]
     exact this
   ·exact h.elim
  ·exact h.elim
 ·exact h.elim
end
end Go.Proofs.YtocckceefcmeaaaGreatDoor.Ax
