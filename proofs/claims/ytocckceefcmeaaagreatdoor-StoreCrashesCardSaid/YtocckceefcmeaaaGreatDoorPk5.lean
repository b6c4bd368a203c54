/- Joined parts of the proof. The soundness of the operations that only read: places, parts, lengths; and of each such operation -/
import Derived.Test.YtocckceefcmeaaaGreatDoorPk4
set_option linter.unusedVariables false
set_option linter.unusedSimpArgs false
set_option maxRecDepth 100000
set_option maxHeartbeats 16000000
namespace Go.Proofs.YtocckceefcmeaaaGreatDoor.Ax
open Go Go.RowKit Go.Proofs.YtocckceefcmeaaaGreatDoor.Vc
section
variable {P:Program}{n:Nat}{σ:Nat→Loc}{F:Nat→Prop}{w:World}{H:ak}{cZ:aJ}{ρ:aU}{K:AV→Prop}{S:World→Prop}
theorem oh {L:Loc}{g:Nat}(h:L.oa=some ⟨g,0,none⟩):L.b=some g:=by
 unfold Loc.oa at h
 cases hx:L.b with
 | none=>rw [hx]at h;cases h
 | some g'=>rw [hx]at h;simp at h;rw [h]
theorem DJ {aT t sz:Nat}{l:List (List FV)}(hk:look H aT=some (.rows t sz l))(hH:lU n σ F w H)(h0:0<l.length) : ∃g,(σ aT).b=some g∧(σ aT).oa=some ⟨g,0,none⟩:=by
 obtain⟨h1,h2,xs,hO,hR⟩:=hH _ _ hk
 obtain⟨g,cur,hg,_⟩:=hO.blk h0
 exact⟨g,oh hg,hg⟩
theorem PW {aT sz:Nat}{l:List (List FV)}(hk:look H aT=some (.fz sz l))(hH:lU n σ F w H)(h0:0<l.length) : ∃g,(σ aT).b=some g∧(σ aT).oa=some ⟨g,0,none⟩:=by
 obtain⟨h1,h2,hf,h3⟩:=hH _ _ hk
 obtain⟨row,hrow⟩ : ∃row,l[0]? = some row:=⟨l[0],List.getElem?_eq_getElem h0⟩
 obtain⟨b,o,vs,e,_⟩:=pY (n:=n) (σ:=σ) hf hrow
 have:=h3 b o e
 subst this
 exact⟨b,oh e,e⟩
theorem qc {aT t sz:Nat}{l:List (List FV)}(hk:look H aT=some (.rows t sz l))(hH:lU n σ F w H):(σ aT).sz=sz∧(σ aT).n=l.length:=⟨(hH _ _ hk).1,(hH _ _ hk).2.1⟩
theorem vI {aT sz:Nat}{l:List (List FV)}(hk:look H aT=some (.fz sz l))(hH:lU n σ F w H):(σ aT).sz=sz∧(σ aT).n=l.length:=⟨(hH _ _ hk).1,(hH _ _ hk).2.1⟩
theorem vJ {t:TypeId}{x i:AV}{vx vi:Value}(h:qW P H t x i K)(rx:aZ n σ F w x vx)(ri:aZ n σ F w i vi)(hH:lU n σ F w H):Ans n σ F w K S fun u q Kv=>bQ P (Instr.indexAt t vx vi) u (wr q u Kv):=by
 unfold qW at h
 split at h
 ·rename_i ki ix
  rw [ri.dH]
  split at h
  ·rename_i e hu
   split at h
   ·rename_i sz hs
    have Zi : ∀ {l:Nat} {m:List (List FV)},aZ n σ F w (.own l) vx→(σ l).sz=sz→(σ l).n=m.length→(0<m.length→∃g,(σ l).b=some g∧(σ l).oa=some ⟨g,0,none⟩)→bC ix m.length (fun j=>K (.ep l j 0))→
      Ans n σ F w K S fun u q Kv=>bQ P (Instr.indexAt t vx (.int ki ix)) u (wr q u Kv):=by
     intro l m rx e1 e2 h3 h4
     obtain⟨j,ej,hj,hk⟩:=h4.ex
     obtain⟨g,hg,hoa⟩:=h3 (by omega)
     cases rx with
     | je _ oa hl hn hc=>omega
     | own _ hl=>
      rw [hoa]
      refine⟨_,_,hk, .ep l j 0 g hl hg,fun u q Kv _ hv=>Fj j hu hs ej (by omega) (dP ?_)⟩
      rw [e1]at hv
      rw [Nat.zero_add]
      exact hv
    have abY : ∀ {l o m:Nat},aZ n σ F w (.sub l o m) vx→(σ l).sz=sz→bC ix m (fun j=>K (.ep l (o+j) 0))→
      Ans n σ F w K S fun u q Kv=>bQ P (Instr.indexAt t vx (.int ki ix)) u (wr q u Kv):=by
     intro l o m rx e1 h4
     obtain⟨j,ej,hj,hk⟩:=h4.ex
     cases rx with
     | sub _ _ _ oa c hl hkk hc hnil ho=>
      obtain⟨g,hg,hoa⟩:=ho (by omega)
      rw [hoa]
      refine⟨_,_,hk, .ep l (o+j) 0 g hl hg,fun u q Kv _ hv=>Fj j hu hs ej hj (dP ?_)⟩
      rw [e1]at hv ⊢
      rw [Nat.add_mul]at hv
      exact hv
    split at h
    ·rename_i sz' l
     cases hb:Nat.beq sz sz' with
     | false=>rw [hb]at h;exact h.elim
     | true=>
      rw [hb,cond_true]at h
      have:=Nat.eq_of_beq_eq_true hb
      subst this
      obtain⟨j,ej,hj,hk⟩:=h.ex
      obtain⟨row,hrow,hk⟩:=hk.ex
      cases rx with
      | lst hf=>
       obtain⟨oa,m,c,rfl⟩ : ∃oa m c,vx = .slice oa m c:=by cases hf;exact⟨_,_,_,rfl⟩
       obtain⟨b,o,vs,rfl,hF,hm,_,hfp,_⟩:=pY (n:=n) (σ:=σ) hf hrow
       exact⟨_,_,hk, .fp hfp,fun u q Kv _ hv=>Fj j hu hs ej (by omega) (dP hv)⟩
    ·rename_i l
     split at h
     ·rename_i T sz' m hk
      cases hb:Nat.beq sz sz' with
      | false=>rw [hb]at h;exact h.elim
      | true=>
       rw [hb,cond_true]at h
       have:=Nat.eq_of_beq_eq_true hb
       subst this
       exact Zi rx (qc hk hH).1 (qc hk hH).2 (DJ hk hH) h
     ·rename_i sz' m hk
      cases hb:Nat.beq sz sz' with
      | false=>rw [hb]at h;exact h.elim
      | true=>
       rw [hb,cond_true]at h
       have:=Nat.eq_of_beq_eq_true hb
       subst this
       exact Zi rx (vI hk hH).1 (vI hk hH).2 (PW hk hH) h
     ·rename_i T sz' m h0 hk
      cases hb:Nat.beq sz sz' with
      | false=>rw [hb]at h;exact h.elim
      | true=>
       rw [hb,cond_true]at h
       have:=Nat.eq_of_beq_eq_true hb
       subst this
       obtain⟨q1,q2,xs,hO,_⟩:=hH _ _ hk
       exact Zi (m:=m.map fun _=> []) rx q1 (by rw [List.length_map];exact q2) (fun h0=>by
        rw [List.length_map]at h0
        obtain⟨g,cur,hg,_⟩:=hO.blk h0
        exact⟨g,oh hg,hg⟩) (by rw [List.length_map];exact h)
     ·exact h.elim
    ·rename_i l o m
     split at h
     ·rename_i T sz' m' hk
      cases hb:Nat.beq sz sz' with
      | false=>rw [hb]at h;exact h.elim
      | true=>
       rw [hb,cond_true]at h
       have:=Nat.eq_of_beq_eq_true hb
       subst this
       exact abY rx (qc hk hH).1 h
     ·rename_i sz' m' hk
      cases hb:Nat.beq sz sz' with
      | false=>rw [hb]at h;exact h.elim
      | true=>
       rw [hb,cond_true]at h
       have:=Nat.eq_of_beq_eq_true hb
       subst this
       exact abY rx (vI hk hH).1 h
     ·exact h.elim
    ·exact h.elim
   ·exact h.elim
  ·rename_i m e hu
   split at h
   ·rename_i sz hs
    split at h
    ·obtain⟨j,ej,hj,hk⟩:=h.ex
     cases rx with
     | ptr _ _ b hl hb=>exact⟨_,_,hk, .ptr _ _ b hl hb,fun u q Kv _ hv=>Du j hu hs ej hj (dP hv)⟩
    ·obtain⟨j,ej,hj,hk⟩:=h.ex
     cases rx with
     | ep _ _ _ b hl hb=>exact⟨_,_,hk, .ep _ _ _ b hl hb,fun u q Kv _ hv=>Du j hu hs ej hj (dP (by rw [Nat.add_assoc];exact hv))⟩
    ·obtain⟨j,ej,hj,hk⟩:=h.ex
     cases rx with
     | fp hf=>
      cases hf with
      | fp _ _ b off hb hex hrep=>exact⟨_,_,hk, .fp (.fp _ _ b off hb hex hrep),fun u q Kv _ hv=>Du j hu hs ej hj (dP (by rw [Nat.add_assoc];exact hv))⟩
    ·exact h.elim
   ·exact h.elim
  ·exact h.elim
 ·exact h.elim
theorem Cj {u:World}{Kv:Value→World→Prop}{t e:TypeId}{m j sz:Nat}{k:IntKind}{ix:Int}{l:List Value}{v:Value}(hm:ix=j)(hu:P.underlying t=some (.array m e))(hs:szB P e=some sz)(h:j<m)
  (hp:(part e l.toArray (j*sz)).run P u = .ok v u) (hk:Kv v u):bQ P (Instr.index t (.agg l.toArray) (.int k ix)) u Kv:=by
 refine dZ ?_ hk
 subst hm
 have h1:(0:Int)≤j∧(j:Int)<m:=⟨by omega,by omega⟩
 unfold Instr.index
 simp only [asIntOf,Sem.run_bind,Sem.run_pure,Result.andThen_ok,aO hu]
 simp only [if_pos h1,Sem.run_bind,gU hs,Result.andThen_ok,Int.toNat_natCast]
 exact hp
theorem DK {t:TypeId}{x i:AV}{vx vi:Value}(h:I5 P t x i K)(rx:aZ n σ F w x vx)(ri:aZ n σ F w i vi):Ans n σ F w K S fun u q Kv=>bQ P (Instr.index t vx vi) u (wr q u Kv):=by
 unfold I5 at h
 split at h
 ·rename_i ki ix
  rw [ri.dH]
  split at h
  ·rename_i s hu
   rw [rx.dH]
   obtain⟨j,ej,hj,hk⟩:=h.ex
   refine⟨_,_,hk, .v _,fun u q Kv _ hv=>vF j ej hu hj (dP ?_)⟩
   have e:s.data.toList.getD j 0=s[j]:=by
    rw [List.getD_eq_getElem?_getD,Array.getElem?_toList]
    have:s.data[j]? = some s[j]:=Array.getElem?_eq_getElem hj
    rw [this];rfl
   rw [e]at hv
   exact hv
  ·rename_i m e cs hu
   obtain⟨j,ej,hj,hk⟩:=h.ex
   obtain⟨us,rfl,r⟩:=bJ.y5 rx
   split at hk
   ·rename_i sz hs
    unfold y9 at hk
    split at hk
    ·rename_i k ha _
     split at hk
     ·rename_i a hg
      rw [iH]at hk
      obtain⟨v,h1,h2⟩:=r.UJ hg
      refine⟨_,v,hk,h2,fun u q Kv _ hv=>Cj ej hu hs hj ?_ (dP hv)⟩
      unfold part
      rw [Sem.run_bind,iV ha]
      simp [h1]
     ·exact hk.elim
    ·rename_i k ha hs'
     cases hb:Nat.ble (j*sz+k) cs.length with
     | false=>rw [hb]at hk;exact hk.elim
     | true=>
      rw [hb,cond_true,jo]at hk
      refine⟨_,_,hk,((r.drop (j*sz)).take k).agg,fun u q Kv _ hv=>Cj ej hu hs hj ?_ (dP hv)⟩
      obtain⟨i,hi,hik⟩:=gQ hs'
      simp only [part,Sem.run_bind,Sem.run_pure,Result.andThen_ok,iV ha,if_true,sizeOf,jh hi]
      congr 2
      apply Array.ext'
      simp [hik]
    ·exact hk.elim
   ·exact hk.elim
  ·exact h.elim
 ·exact h.elim
theorem Jf {t ty:TypeId}{a:AV}{va:Value}(h:Zh P H t a K)(ra:aZ n σ F w a va)(hH:lU n σ F w H):Ans n σ F w K S fun u q Kv=>uS P q t ty va u Kv:=by
 unfold Zh at h
 split at h
 ·rename_i s hu;rw [ra.dH];exact⟨_,_,h, .v _,fun u q Kv _ hv=>by simp only [uS,hu];exact hv⟩
 ·rename_i e sz l hu
  cases ra with
  | lst hf=>cases hf with
   | lst _ _ oa m c b o hn hc hnil ho hsz hex hrep=>exact⟨_,_,h, .v _,fun u q Kv _ hv=>by simp only [uS,hu,hn];exact hv⟩
 ·rename_i e l hu
  cases ra with
  | je _ oa hl hn hc=>
   split at h
   ·rename_i T sz m hk
    have e:=(qc hk hH).2
    rw [hn]at e
    exact⟨_,_,h, .v _,fun u q Kv _ hv=>by simp only [uS,hu];rw [←e]at hv;exact hv⟩
   ·rename_i sz m hk
    have e:=(vI hk hH).2
    rw [hn]at e
    exact⟨_,_,h, .v _,fun u q Kv _ hv=>by simp only [uS,hu];rw [←e]at hv;exact hv⟩
   ·exact h.elim
  | own _ hl=>
   split at h
   ·rename_i T sz m hk
    have e:=(qc hk hH).2
    exact⟨_,_,h, .v _,fun u q Kv _ hv=>by simp only [uS,hu,e];exact hv⟩
   ·rename_i sz m hk
    have e:=(vI hk hH).2
    exact⟨_,_,h, .v _,fun u q Kv _ hv=>by simp only [uS,hu,e];exact hv⟩
   ·exact h.elim
 ·rename_i e l o m hu
  cases ra with
  | sub _ _ _ oa c hl hk hc hnil ho=>exact⟨_,_,h, .v _,fun u q Kv _ hv=>by simp only [uS,hu];exact hv⟩
 ·rename_i e x m c hu;rw [ra.dH];exact⟨_,_,h, .v _,fun u q Kv _ hv=>by simp only [uS,hu];exact hv⟩
 ·rename_i m e hu;exact⟨_,_,h, .v _,fun u q Kv _ hv=>by simp only [uS,hu];exact hv⟩
 ·exact h.elim
def oP (oa:Option Addr)(i sz m:Nat):Option Addr:=if m=i then oa else oa.map (·.add (i*sz))
theorem o8 {u:World}{t E:TypeId}{sz l c:Nat}{oa:Option Addr}{lo hi mx:Option Value}{i j m:Nat}(ht:P.underlying t=some (.slice E))(hs:szB P E=some sz)
  (hlo:(lo=none∧i=0)∨∃k,lo=some (.int k (i:Int))) (hhi:(hi=none∧j=l∧mx=none)∨∃k,hi=some (.int k (j:Int))) (hmx:(mx=none∧m=c)∨∃k,mx=some (.int k (m:Int)))
  (hij:i≤j) (hjm:j≤m) (hmc:m≤c):(Instr.sliceAt t (.slice oa l c) lo hi mx).run P u = .ok (.slice (oP oa i sz m) (j-i) (m-i)) u:=by
 have h1:(0:Int)≤i∧(i:Int)≤j:=⟨by omega,by omega⟩
 have h2:(0:Int)≤j∧(j:Int)≤m:=⟨by omega,by omega⟩
 have h3:(0:Int)≤m∧(m:Int)≤c:=⟨by omega,by omega⟩
 unfold Instr.sliceAt
 rw [Sem.run_bind,aO ht]
 simp only [Result.andThen_ok]
 unfold Instr.slice
 rw [Sem.run_bind,aO ht]
 rcases hmx with ⟨rfl,rfl⟩ | ⟨km,rfl⟩
 ·rcases hhi with ⟨rfl,rfl,_⟩ | ⟨kh,rfl⟩
  ·rcases hlo with ⟨rfl,rfl⟩ | ⟨kl,rfl⟩<;>simp [Instr.sliceBounds,Instr.sliceBound,asIntOf,hij,hjm,gU hs,oP]
  ·rcases hlo with ⟨rfl,rfl⟩ | ⟨kl,rfl⟩<;>simp [Instr.sliceBounds,Instr.sliceBound,asIntOf,hij,hjm,gU hs,oP]
 ·rcases hhi with ⟨rfl,rfl,h⟩ | ⟨kh,rfl⟩
  ·cases h
  ·rcases hlo with ⟨rfl,rfl⟩ | ⟨kl,rfl⟩<;>simp [Instr.sliceBounds,Instr.sliceBound,asIntOf,hij,hjm,hmc,gU hs,oP]
theorem Cm {oa:Option Addr}{i sz m c:Nat}(hmc:m≤c)(hnil:oa=none→c=0)(h:oP oa i sz m=none):m-i=0:=by
 unfold oP at h
 split at h
 ·omega
 ·have:=hnil (by simpa using h)
  omega
theorem dV.part {sz m c i j:Nat}{l:List (List FV)}{oa:Option Addr}{n':Nat}(h:dV F w (.lst sz l) (.slice oa n' c))(hij:i≤j)(hjn:j≤l.length)(hjm:j≤m)(hmc:m≤c) :
  dV F w (.lst sz ((l.take j).drop i)) (.slice (oP oa i sz m) (j-i) (m-i)):=by
 cases h with
 | lst _ _ _ _ _ b o hn hc hnil ho hsz hex hrep=>
  subst hn
  refine .lst sz _ _ _ _ b (o+i*sz) (by simp;omega) (by omega) (Cm hmc hnil) (fun hlt=> ?_) (fun row hr=>hsz row (List.mem_of_mem_take (List.mem_of_mem_drop hr))) (fun k x hk hx=> ?_) (fun k x row a v h1 h2 h3=> ?_)
  ·obtain⟨e,hF⟩:=ho (by omega)
   refine⟨?_,hF⟩
   unfold oP
   rw [if_neg (by omega),e]
   simp [add0]
  ·have:=hex (i+k) x (by omega) hx
   rw [Nat.add_mul]at this
   rw [show o+i*sz+(k*sz+x)=o+(i*sz+k*sz+x) by omega]
   exact this
  ·have h1':l[i+k]? = some row:=by
    rw [List.getElem?_drop,List.getElem?_take]at h1
    split at h1
    ·exact h1
    ·cases h1
   refine hrep (i+k) x row a v h1' h2 ?_
   rw [Nat.add_mul,show o+(i*sz+k*sz+x)=o+i*sz+(k*sz+x) by omega]
   exact h3
theorem DL {lo:Option AV}{OV:Option Value}{d:Int}{K:Int→Prop}(h:rY lo d K)(r:(lo=none∧OV=none)∨∃a v,lo=some a∧OV=some v∧aZ n σ F w a v) :
  ∃x,K x∧((lo=none∧OV=none∧x=d)∨∃k a,lo=some a∧OV=some (.int k x)):=by
 unfold rY at h
 split at h
 ·rcases r with ⟨_,e⟩ | ⟨a,v,e,_⟩
  ·exact⟨d,h, .inl ⟨rfl,e,rfl⟩⟩
  ·cases e
 ·rename_i k x
  rcases r with ⟨e,_⟩ | ⟨a,v,e,e2,ra⟩
  ·cases e
  ·injection e with e
   rw [←e]at ra
   rw [ra.dH]at e2
   exact⟨x,h, .inr ⟨k,_,rfl,e2⟩⟩
 ·exact h.elim
theorem Zj {mx:Option AV}{PX:Option Value}{b:Int}{m:Nat}{K:Prop}(h:I7 mx b m K)(r:(mx=none∧PX=none)∨∃a v,mx=some a∧PX=some v∧aZ n σ F w a v) :
  K∧((mx=none∧PX=none)∨∃k z a,mx=some a∧PX=some (.int k z)∧b≤z∧z≤m):=by
 unfold I7 at h
 split at h
 ·rcases r with ⟨_,e⟩ | ⟨a,v,e,_⟩
  ·exact⟨h, .inl ⟨rfl,e⟩⟩
  ·cases e
 ·rename_i k z
  rcases r with ⟨e,_⟩ | ⟨a,v,e,e2,ra⟩
  ·cases e
  ·injection e with e
   rw [←e]at ra
   rw [ra.dH]at e2
   exact⟨h.go, .inr ⟨k,z,_,rfl,e2,h.req.1,h.req.2⟩⟩
 ·exact h.elim
abbrev Jg (n:Nat)(σ:Nat→Loc)(F:Nat→Prop)(w:World)(a:Option AV)(v:Option Value):Prop:=(a=none∧v=none)∨∃x y,a=some x∧v=some y∧aZ n σ F w x y
theorem rZ {t E:TypeId}{sz l c:Nat}{oa:Option Addr}{lo hi mx:Option AV}{OV vhi PX:Option Value}{K:Nat→Nat→Prop}(ht:P.underlying t=some (.slice E))(hs:szB P E=some sz)(hlc:l≤c)
  (h:rY lo 0 fun a=>rY hi (l:Int) fun b=>I7 mx b l (lT a b l K)) (r1:Jg n σ F w lo OV) (r2:Jg n σ F w hi vhi) (r3:Jg n σ F w mx PX) (hmx:mx≠none→hi≠none) :
  ∃i j m,K i j∧i≤j∧j≤l∧j≤m∧m≤c∧(lo=none→i=0)∧(hi=none→j=l)∧(mx=none→m=c)∧∀u,(Instr.sliceAt t (.slice oa l c) OV vhi PX).run P u = .ok (.slice (oP oa i sz m) (j-i) (m-i)) u:=by
 obtain⟨x,h,c1⟩:=DL h r1
 obtain⟨y,h,c2⟩:=DL h r2
 obtain⟨h,c3⟩:=Zj h r3
 obtain⟨i,j,rfl,rfl,hij,hjl,hk⟩:=h.ex
 have d1:(OV=none∧i=0)∨∃k,OV=some (.int k (i:Int)):=by
  rcases c1 with ⟨_,e,e2⟩ | ⟨k,a,_,e⟩
  ·exact .inl ⟨e,by omega⟩
  ·exact .inr ⟨k,e⟩
 have e1:lo=none→i=0:=by
  intro e
  rcases c1 with ⟨_,_,e2⟩ | ⟨k,a,e3,_⟩
  ·omega
  ·rw [e]at e3;cases e3
 have e2:hi=none→j=l:=by
  intro e
  rcases c2 with ⟨_,_,e2⟩ | ⟨k,a,e3,_⟩
  ·omega
  ·rw [e]at e3;cases e3
 rcases c3 with ⟨rfl,rfl⟩ | ⟨k3,z,a3,rfl,rfl,hz1,hz2⟩
 ·refine⟨i,j,c,hk,hij,hjl,by omega,Nat.le_refl _,e1,e2,fun _=>rfl,fun u=>o8 ht hs d1 ?_ (.inl ⟨rfl,rfl⟩) hij (by omega) (Nat.le_refl _)⟩
  rcases c2 with ⟨_,e,e3⟩ | ⟨k,a,_,e⟩
  ·exact .inl ⟨e,by omega,rfl⟩
  ·exact .inr ⟨k,e⟩
 ·obtain⟨m,rfl⟩ : ∃m:Nat,z=m:=⟨z.toNat,by omega⟩
  refine⟨i,j,m,hk,hij,hjl,by omega,by omega,e1,e2,(fun e=>by cases e),fun u=>o8 ht hs d1 ?_ (.inr ⟨k3,rfl⟩) hij (by omega) (by omega)⟩
  rcases c2 with ⟨e,_,_⟩ | ⟨k,a,_,e⟩
  ·exact absurd e (hmx (by simp))
  ·exact .inr ⟨k,e⟩
theorem Zk {lo hi:Option AV}{i j:Nat}{l:List (List FV)}(h1:lo=none→i=0)(h2:hi=none→j=l.length):cut lo hi i j l=(l.take j).drop i:=by
 unfold cut
 split
 ·rw [h1 rfl,h2 rfl];simp
 ·rw [h1 rfl];simp
 ·rw [h2 rfl];simp
 ·rfl
theorem KJ {aT i j m c:Nat}{oa:Option Addr}{o n':Nat}(hl:aT<n)(ho:o+n'≤(σ aT).n)(hnil:oa=none→c=0)(hoa:0<n'→∃b,(σ aT).b=some b∧oa=some ⟨b,o*(σ aT).sz,none⟩)
  (hij:i≤j) (hjn:j≤n') (hjm:j≤m) (hmc:m≤c):aZ n σ F w (.sub aT (o+i) (j-i)) (.slice (oP oa i (σ aT).sz m) (j-i) (m-i)):=by
 refine .sub aT (o+i) (j-i) _ _ hl (by omega) (by omega) (Cm hmc hnil) fun hlt=> ?_
 obtain⟨b,h1,h2⟩:=hoa (by omega)
 refine⟨b,h1, ?_⟩
 unfold oP
 rw [if_neg (by omega),h2]
 simp [add0,Nat.add_mul]
theorem ad4 (L:Loc):oP L.oa 0 L.sz L.c=L.oa:=by
 unfold oP
 split
 ·rfl
 ·cases L.oa with
  | none=>rfl
  | some a=>simp [Addr.add]
theorem DN {t:TypeId}{x:AV}{lo hi mx:Option AV}{vx:Value}{OV vhi PX:Option Value}(h:I9 P H t x lo hi mx K)(hmx:mx≠none→hi≠none)(rx:aZ n σ F w x vx)(r1:Jg n σ F w lo OV)(r2:Jg n σ F w hi vhi)(r3:Jg n σ F w mx PX)(hH:lU n σ F w H) :
  Ans n σ F w K S fun u q Kv=>bQ P (Instr.sliceAt t vx OV vhi PX) u (wr q u Kv):=by
 unfold I9 at h
 split at h
 ·rename_i hu
  split at h
  ·rename_i s
   rw [rx.dH]
   obtain⟨a,h,c1⟩:=DL h r1
   obtain⟨b,h,c2⟩:=DL h r2
   obtain⟨i,j,rfl,rfl,hij,hjl,hk⟩:=h.ex
   have e3:PX=none:=by
    rcases r3 with ⟨_,e⟩ | ⟨_,_,e,_⟩
    ·exact e
    ·cases e
   subst e3
   refine⟨_,_,hk, .v _,fun u q Kv _ hv=> ?_⟩
   have h1:(0:Int)≤i∧(i:Int)≤j:=⟨by omega,by omega⟩
   have h2:(0:Int)≤j∧(j:Int)≤s.size:=⟨by omega,by omega⟩
   refine dZ ?_ (dP hv)
   unfold Instr.sliceAt
   rw [Sem.run_bind,aO hu]
   simp only [Result.andThen_ok]
   unfold Instr.slice
   rw [Sem.run_bind,aO hu]
   rcases c1 with ⟨_,rfl,e1⟩ | ⟨k1,_,_,rfl⟩
   ·have e1:i=0:=by omega
    subst e1
    rcases c2 with ⟨_,rfl,e2⟩ | ⟨k2,_,_,rfl⟩
    ·have e2:j=s.size:=by omega
     subst e2
     simp [Instr.sliceBounds]
    ·simp [Instr.sliceBounds,Instr.sliceBound,asIntOf,hij,hjl]
   ·rcases c2 with ⟨_,rfl,e2⟩ | ⟨k2,_,_,rfl⟩
    ·have e2:j=s.size:=by omega
     subst e2
     simp [Instr.sliceBounds,Instr.sliceBound,asIntOf,hij]
    ·simp [Instr.sliceBounds,Instr.sliceBound,asIntOf,hij,hjl]
  ·exact h.elim
 ·rename_i e hu
  split at h
  ·rename_i sz hs
   split at h
   ·rename_i sz' l
    cases hb:Nat.beq sz sz' with
    | false=>rw [hb]at h;exact h.elim
    | true=>
     rw [hb,cond_true]at h
     have:=Nat.eq_of_beq_eq_true hb
     subst this
     cases rx with
     | lst hf=>
      obtain⟨oa,n',c,rfl,hn,hc⟩ : ∃oa m c,vx = .slice oa m c∧m=l.length∧m≤c:=by cases hf with | lst _ _ oa m c b o hn hc hnil ho hsz hex hrep=>exact⟨oa,m,c,rfl,hn,hc⟩
      subst hn
      obtain⟨i,j,m,hk,hij,hjl,hjm,hmc,e1,e2,e3,hr⟩:=rZ (oa:=oa) hu hs hc h r1 r2 r3 hmx
      rw [Zk e1 e2]at hk
      exact⟨_,_,hk, .lst (hf.part hij hjl hjm hmc),fun u q Kv _ hv=>dZ (hr u) (dP hv)⟩
   ·rename_i l
    split at h
    ·rename_i m' hm
     have hsn:(σ l).sz=sz∧(σ l).n=m'∧m'≤(σ l).c∧((σ l).oa=none→(σ l).c=0)∧(0<m'→∃b,(σ l).b=some b∧(σ l).oa=some ⟨b,0,none⟩):=by
      unfold UG at hm
      split at hm
      ·rename_i T sz' mm hk
       cases hb:Nat.beq sz sz' with
       | false=>rw [hb]at hm;cases hm
       | true=>
        rw [hb,cond_true]at hm
        injection hm with hm
        have:=Nat.eq_of_beq_eq_true hb
        subst this;subst hm
        obtain⟨q1,q2,xs,hO,hR⟩:=hH _ _ hk
        refine⟨q1,q2, ?_, ?_,DJ hk hH⟩
        ·rcases hO.2 with ⟨hv,h0⟩ | ⟨g,cap,cur,hv,_,_,hle,_⟩
         ·omega
         ·injection hv with _ _ ec;omega
        ·intro en
         rcases hO.2 with ⟨hv,h0⟩ | ⟨g,cap,cur,hv,_,_,hle,_⟩
         ·injection hv with _ _ ec
         ·injection hv with eo _ _;rw [en]at eo;cases eo
      ·rename_i sz' mm hk
       cases hb:Nat.beq sz sz' with
       | false=>rw [hb]at hm;cases hm
       | true=>
        rw [hb,cond_true]at hm
        injection hm with hm
        have:=Nat.eq_of_beq_eq_true hb
        subst this;subst hm
        obtain⟨q1,q2,hf,_⟩:=hH _ _ hk
        refine⟨q1,q2, ?_, ?_,PW hk hH⟩
        ·cases hf with | lst _ _ _ _ _ b o hn hc hnil ho hsz hex hrep=>omega
        ·cases hf with | lst _ _ _ _ _ b o hn hc hnil ho hsz hex hrep=>exact hnil
      ·cases hm
     obtain⟨q1,q2,q3,q4,q5⟩:=hsn
     cases rx with
     | je _ oa hl hn hc=>
      rw [hn]at q2
      subst q2
      obtain⟨i,j,m,hk,hij,hjl,hjm,hmc,e1,e2,e3,hr⟩:=rZ (oa:=oa) (l:=0) (c:=0) hu hs (Nat.le_refl _) h r1 r2 r3 hmx
      have z1:i=0:=by omega
      have z2:j=0:=by omega
      have z3:m=0:=by omega
      subst z1;subst z2;subst z3
      have hv0:Value.slice (oP oa 0 sz 0) (0-0) (0-0) = .slice oa 0 0:=by unfold oP;rw [if_pos rfl]
      rw [hv0]at hr
      unfold I8 at hk
      split at hk
      ·exact⟨_,_,hk, .je l oa hl hn hc,fun u q Kv _ hv=>dZ (hr u) (dP hv)⟩
      ·exact⟨_,_,hk, .sub l 0 _ oa 0 hl (by omega) (by omega) (fun _=>rfl) (fun h=>absurd h (by omega)),fun u q Kv _ hv=>dZ (hr u) (dP hv)⟩
     | own _ hl=>
      rw [q2]
      obtain⟨i,j,m,hk,hij,hjl,hjm,hmc,e1,e2,e3,hr⟩:=rZ (oa:=(σ l).oa) hu hs q3 h r1 r2 r3 hmx
      have hsub:aZ n σ F w (.sub l i (j-i)) (.slice (oP (σ l).oa i sz m) (j-i) (m-i)):=by
       have:=KJ (n:=n) (σ:=σ) (F:=F) (w:=w) (n':=m') (o:=0) (i:=i) (j:=j) (m:=m) (c:=(σ l).c) (oa:=(σ l).oa) hl (by omega) q4 (fun h0=>by obtain⟨b,x1,x2⟩:=q5 h0;exact⟨b,x1,by rw [x2,Nat.zero_mul]⟩) hij hjl hjm hmc
       rw [Nat.zero_add,q1]at this
       exact this
      unfold I8 at hk
      split at hk
      ·have:=e1 rfl;subst this
       have:=e2 rfl;subst this
       have:=e3 rfl;subst this
       refine⟨_,_,hk, .own l hl,fun u q Kv _ hv=>dZ (hr u) (dP ?_)⟩
       rw [←q1,ad4,Nat.sub_zero,Nat.sub_zero, ←q2]
       exact hv
      ·exact⟨_,_,hk,hsub,fun u q Kv _ hv=>dZ (hr u) (dP hv)⟩
    ·exact h.elim
   ·rename_i l o n'
    split at h
    ·rename_i m' hm
     have q1:(σ l).sz=sz:=by
      unfold UG at hm
      split at hm
      ·rename_i T sz' mm hk
       cases hb:Nat.beq sz sz' with
       | false=>rw [hb]at hm;cases hm
       | true=>rw [Nat.eq_of_beq_eq_true hb];exact(hH _ _ hk).1
      ·rename_i sz' mm hk
       cases hb:Nat.beq sz sz' with
       | false=>rw [hb]at hm;cases hm
       | true=>rw [Nat.eq_of_beq_eq_true hb];exact(hH _ _ hk).1
      ·cases hm
     cases rx with
     | sub _ _ _ oa c hl hkk hc hnil ho=>
      obtain⟨i,j,m,hk,hij,hjl,hjm,hmc,e1,e2,e3,hr⟩:=rZ (oa:=oa) hu hs hc h r1 r2 r3 hmx
      have:=KJ (n:=n) (σ:=σ) (F:=F) (w:=w) (n':=n') (o:=o) (i:=i) (j:=j) (m:=m) (c:=c) (oa:=oa) hl hkk hnil ho hij hjl hjm hmc
      rw [q1]at this
      exact⟨_,_,hk,this,fun u q Kv _ hv=>dZ (hr u) (dP hv)⟩
    ·exact h.elim
   ·rw [rx.dH]
    obtain⟨i,j,m,hk,hij,hjl,hjm,hmc,e1,e2,e3,hr⟩:=rZ (oa:=none) (l:=0) (c:=0) (K:=fun _ _=>K (.v (.slice none 0 0))) hu hs (Nat.le_refl _) h r1 r2 r3 hmx
    have z1:i=0:=by omega
    have z2:j=0:=by omega
    have z3:m=0:=by omega
    subst z1;subst z2;subst z3
    exact⟨_,_,hk, .v _,fun u q Kv _ hv=>dZ (hr u) (dP hv)⟩
   ·exact h.elim
  ·exact h.elim
 ·exact h.elim
theorem xU {op:BinOp}{b:Bool}(h:qG op b K) : ∃c,(op = .eql∧c=b∨op = .neq∧c = !b)∧K (.v (.bool c)):=by
 unfold qG at h
 split at h
 ·exact⟨_, .inl ⟨rfl,rfl⟩,h⟩
 ·exact⟨_, .inr ⟨rfl,rfl⟩,h⟩
 ·exact h.elim
theorem xW {op:BinOp}{t:TypeId}{x y:Operand}{va vb:Value}{b c:Bool}(u:World)(hc:op = .eql∧c=b∨op = .neq∧c = !b)(hg : ∀o:BinOp,o = .eql∨o = .neq→(eqGuard o t x y va vb).run P u = .ok () u)
  (hb1:binOp .eql t va vb=(do pure (.bool (←Op.equal t va vb)))) (hb2:binOp .neq t va vb=(do pure (.bool (!(←Op.equal t va vb))))) (he:(Op.equal t va vb).run P u = .ok b u) :
  (do eqGuard op t x y va vb;binOp op t va vb:Sem Value).run P u = .ok (.bool c) u:=by
 rcases hc with ⟨rfl,rfl⟩ | ⟨rfl,rfl⟩
 ·rw [Sem.run_bind,hg _ (.inl rfl),Result.andThen_ok,hb1,Sem.run_bind,he];rfl
 ·rw [Sem.run_bind,hg _ (.inr rfl),Result.andThen_ok,hb2,Sem.run_bind,he];rfl
theorem su (t:TypeId)(va vb:Value) : ∃d,Op.equal t va vb=Op.equalIn (d+1) t va vb:=by
 obtain⟨d,hd⟩ : ∃d,Op.maxDepth=d+1:=⟨Op.maxDepth-1,by decide⟩
 exact⟨d,by unfold Op.equal;rw [hd]⟩
theorem FM {u:World}{t e:TypeId}{oa:Option Addr}{k c:Nat}(hu:P.underlying t=some (.slice e)):(Op.equal t (.slice oa k c) (.slice none 0 0)).run P u = .ok oa.isNone u:=by
 obtain⟨d,hd⟩:=su t (.slice oa k c) (.slice none 0 0)
 rw [hd]
 unfold Op.equalIn
 rw [Sem.run_bind,aO hu]
 cases oa<;>rfl
theorem NG {u:World}{t e:TypeId}{oa:Option Addr}(hu:P.underlying t=some (.pointer e)):(Op.equal t (.pointer oa) (.pointer none)).run P u = .ok oa.isNone u:=by
 obtain⟨d,hd⟩:=su t (.pointer oa) (.pointer none)
 rw [hd]
 unfold Op.equalIn
 rw [Sem.run_bind,aO hu]
 cases oa<;>rfl
theorem NH {u:World}{t k e:TypeId}{oa:Option Nat}(hu:P.underlying t=some (.map k e)):(Op.equal t (.map oa) (.map none)).run P u = .ok oa.isNone u:=by
 obtain⟨d,hd⟩:=su t (.map oa) (.map none)
 rw [hd]
 unfold Op.equalIn
 rw [Sem.run_bind,aO hu]
 cases oa<;>rfl
theorem PY {a:AV}{va:Value}{k:Nat}(h:Zd H a=some k)(ra:aZ n σ F w a va)(hH:lU n σ F w H) : ∃oa m c,va = .slice oa m c∧(0<k→oa.isNone=false):=by
 unfold Zd at h
 split at h
 ·injection h with h
  subst h
  cases ra with
  | lst hf=>cases hf with
   | lst _ _ oa m c b o hn hc hnil ho hsz hex hrep=>exact⟨oa,m,c,rfl,fun h0=>by rw [(ho (by omega)).1];rfl⟩
 ·split at h
  ·rename_i l T sz m hk
   injection h with h
   subst h
   cases ra with
   | own _ hl=>exact⟨_,_,_,rfl,fun h0=>by obtain⟨g,_,e⟩:=DJ hk hH h0;rw [e];rfl⟩
   | je _ oa hl hn hc=>exact⟨_,_,_,rfl,fun h0=>by have:=(qc hk hH).2;omega⟩
  ·rename_i l sz m hk
   injection h with h
   subst h
   cases ra with
   | own _ hl=>exact⟨_,_,_,rfl,fun h0=>by obtain⟨g,_,e⟩:=PW hk hH h0;rw [e];rfl⟩
   | je _ oa hl hn hc=>exact⟨_,_,_,rfl,fun h0=>by have:=(vI hk hH).2;omega⟩
  ·cases h
 ·injection h with h
  subst h
  cases ra with
  | sub _ _ _ oa c hl hk hc hnil ho=>exact⟨_,_,_,rfl,fun h0=>by obtain⟨b,_,e⟩:=ho h0;rw [e];rfl⟩
 ·cases h
theorem xX {t:TypeId}{x y:Operand}{va vb:Value}(u:World)(h:(∀l,va≠ .agg l)∧va≠ .nilIface)(o:BinOp)(_:o = .eql∨o = .neq):(eqGuard o t x y va vb).run P u = .ok () u:=by
 unfold eqGuard
 cases o<;>cases va<;>first | rfl | exact(h.1 _ rfl).elim | exact(h.2 rfl).elim | (cases vb<;>rfl)
theorem Jh {op:BinOp}{t:TypeId}{x y:Operand}{a b:AV}{va vb:Value}(h:Ze P H op t a b K)(ra:aZ n σ F w a va)(rb:aZ n σ F w b vb)(hH:lU n σ F w H) :
  Ans n σ F w K S fun u q Kv=>uO P q op t x y va vb u Kv:=by
 unfold Ze at h
 split at h
 ·rename_i e hu
  rw [rb.dH]
  have fin : ∀ {oa:Option Addr} {m c:Nat},va = .slice oa m c→qG op oa.isNone K→Ans n σ F w K S fun u q Kv=>uO P q op t x y va (.slice none 0 0) u Kv:=by
   intro oa m c ev hk
   subst ev
   obtain⟨cc,hc,hk⟩:=xU hk
   exact⟨_,_,hk, .v _,fun u q Kv _ hv=>dZ (xW u hc (xX u ⟨(fun l e=>by cases e),(fun e=>by cases e)⟩) rfl rfl (FM hu)) (dP hv)⟩
  split at h
  ·exact fin ra.dH h
  ·split at h
   ·rename_i k hk
    obtain⟨oa,m,c,ev,hz⟩:=PY hk ra hH
    exact fin ev (h.ex _ hz)
   ·exact h.elim
 ·rename_i e hu
  rw [rb.dH]
  have fin : ∀ {oa:Option Addr},va = .pointer oa→qG op oa.isNone K→Ans n σ F w K S fun u q Kv=>uO P q op t x y va (.pointer none) u Kv:=by
   intro oa ev hk
   subst ev
   obtain⟨cc,hc,hk⟩:=xU hk
   exact⟨_,_,hk, .v _,fun u q Kv _ hv=>dZ (xW u hc (xX u ⟨(fun l e=>by cases e),(fun e=>by cases e)⟩) rfl rfl (NG hu)) (dP hv)⟩
  split at h
  ·exact fin ra.dH h
  ·cases hp:abX a with
   | false=>rw [hp]at h;exact h.elim
   | true=>
    rw [hp,cond_true]at h
    have : ∃p,va = .pointer (some p):=by
     cases ra with
     | ptr l o b hl hb=>exact⟨_,rfl⟩
     | ep l i o b hl hb=>exact⟨_,rfl⟩
     | fp hf=>cases hf;exact⟨_,rfl⟩
     | _=>cases hp
    obtain⟨p,ev⟩:=this
    exact fin ev h
 ·rename_i e1 e2 hu
  rw [rb.dH]
  have fin : ∀ {oa:Option Nat},va = .map oa→qG op oa.isNone K→Ans n σ F w K S fun u q Kv=>uO P q op t x y va (.map none) u Kv:=by
   intro oa ev hk
   subst ev
   obtain⟨cc,hc,hk⟩:=xU hk
   exact⟨_,_,hk, .v _,fun u q Kv _ hv=>dZ (xW u hc (xX u ⟨(fun l e=>by cases e),(fun e=>by cases e)⟩) rfl rfl (NH hu)) (dP hv)⟩
  split at h
  ·exact fin ra.dH h
  ·cases ra with | mp _ b hl hb=>exact fin rfl h
  ·cases ra with | fm hf=>cases hf with | fm _ b _ _=>exact fin rfl h
  ·exact h.elim
 ·rename_i e1 e2 e3 hu
  rw [rb.dH]
  have fin : ∀ {bb:Bool},((∀l,va≠ .agg l)∧va≠ .nilIface)→binOp .eql t va .nilFunc=(do pure (.bool (←Op.equal t va .nilFunc)))→binOp .neq t va .nilFunc=(do pure (.bool (!(←Op.equal t va .nilFunc))))→(∀u,(Op.equal t va .nilFunc).run P u = .ok bb u)→(∀u q Kv,bQ P (do eqGuard op t x y va .nilFunc;binOp op t va .nilFunc) u (wr q u Kv)→uO P q op t x y va .nilFunc u Kv)→qG op bb K→Ans n σ F w K S fun u q Kv=>uO P q op t x y va .nilFunc u Kv:=by
   intro bb h1 h2 h3 h4 h5 hk
   obtain⟨cc,hc,hk⟩:=xU hk
   exact⟨_,_,hk, .v _,fun u q Kv _ hv=>h5 u q Kv (dZ (xW u hc (xX u h1) h2 h3 (h4 u)) (dP hv))⟩
  have Yu : ∀(u:World) (f:Fn) (p r:Array Value),(Op.equal t (.func f p r) .nilFunc).run P u = .ok false u:=fun u f p r=>by
   obtain⟨d,hd⟩:=su t (.func f p r) .nilFunc
   rw [hd]
   unfold Op.equalIn
   rw [Sem.run_bind,aO hu]
   rfl
  split at h
  ·cases ra with
   | fn f xs ys us vs hx hy rx ry=>exact fin ⟨(fun l e=>by cases e),(fun e=>by cases e)⟩ rfl rfl (fun u=>Yu u _ _ _) (fun u q Kv h=>h) h
  ·have ev:=ra.dH
   subst ev
   exact fin ⟨(fun l e=>by cases e),(fun e=>by cases e)⟩ rfl rfl (fun u=>Yu u _ _ _) (fun u q Kv h=>h) h
  ·have ev:=ra.dH
   subst ev
   refine fin ⟨(fun l e=>by cases e),(fun e=>by cases e)⟩ rfl rfl (fun u=> ?_) (fun u q Kv h=>h) h
   obtain⟨d,hd⟩:=su t .nilFunc .nilFunc
   rw [hd]
   unfold Op.equalIn
   rw [Sem.run_bind,aO hu]
   rfl
  ·exact h.elim
 ·exact h.elim
theorem Ji {op:BinOp}{t:TypeId}{x y:Operand}{a b:AV}{va vb:Value}(h:Zf P H op t a b K)(ra:aZ n σ F w a va)(rb:aZ n σ F w b vb)(hH:lU n σ F w H) :
  Ans n σ F w K S fun u q Kv=>uO P q op t x y va vb u Kv:=by
 unfold Zf at h
 split at h
 ·rename_i k m k' n'
  rw [ra.dH,rb.dH]
  split at h
  ·obtain⟨a,v,h1,h2,h3⟩:=qY (n:=n) (σ:=σ) (F:=F) (w:=w) (S:=S) h;exact⟨a,v,h1,h2,h3⟩
  ·obtain⟨a,v,h1,h2,h3⟩:=qY (n:=n) (σ:=σ) (F:=F) (w:=w) (S:=S) h;exact⟨a,v,h1,h2,h3⟩
  ·rename_i op' h1 h2
   cases hk:decide (k=k')with
   | false=>rw [hk]at h;exact h.elim
   | true=>
    rw [hk,cond_true]at h
    obtain⟨a,v,g1,g2,g3⟩:=qY (n:=n) (σ:=σ) (F:=F) (w:=w) (S:=S) h
    refine⟨a,v,g1,g2,fun u q Kv hs hv=> ?_⟩
    have:=g3 u q Kv hs hv
    cases op<;>first | exact(h1 rfl).elim | exact(h2 rfl).elim | (simp only [uO,hk,cond_true];exact this)
 ·rw [ra.dH,rb.dH]
  obtain⟨a,v,g1,g2,g3⟩:=Je (n:=n) (σ:=σ) (F:=F) (w:=w) (S:=S) h
  exact⟨a,v,g1,g2,g3⟩
 ·rename_i m n'
  rw [ra.dH,rb.dH]
  split at h
  ·split at h
   ·rename_i hu
    exact⟨_,_,h, .v _,fun u q Kv _ hv=>by simp only [uO,hu];exact hv⟩
   ·exact h.elim
  ·split at h
   ·rename_i hu
    exact⟨_,_,h, .v _,fun u q Kv _ hv=>by simp only [uO,hu];exact hv⟩
   ·exact h.elim
  ·exact h.elim
 ·rename_i xs ys
  obtain⟨us',rfl,rx⟩:=bJ.y5 ra
  obtain⟨vs',rfl,ry⟩:=bJ.y5 rb
  split at h
  ·rename_i us vs hus hvs
   have e1:=zh hus rx
   have e2:=zh hvs ry
   subst e1;subst e2
   split at h
   ·rename_i b hb
    split at h
    ·exact⟨_,_,h.go, .v _,fun u q Kv _ hv=>Y9 h.g h.p h.u hb (dP hv)⟩
    ·exact⟨_,_,h.go, .v _,fun u q Kv _ hv=>Y8 h.g h.p h.u hb (dP hv)⟩
    ·exact h.elim
   ·exact h.elim
  ·exact h.elim
 ·exact Jh h ra rb hH
theorem DR {b:Builtin}{ts:List TypeId}{ty:TypeId}{as:List AV}{vs:List Value}(h:Ja P H b ts as K)(r:bJ n σ F w as vs)(hH:lU n σ F w H):Ans n σ F w K S fun u q Kv=>uT P q b ts ty vs u Kv:=by
 unfold Ja at h
 split at h
 ·rename_i t a
  obtain⟨v,rfl,ra⟩ : ∃v,vs = [v]∧aZ n σ F w a v:=by
   match vs,r with
   | [v],r=>exact⟨v,rfl,r.1⟩
  obtain⟨a',v',h1,h2,h3⟩:=Jf (S:=S) (ty:=ty) h ra hH
  exact⟨a',v',h1,h2,h3⟩
 all_goals first
  | exact h.elim
  | (
   obtain⟨v1,v2,rfl,r1,r2⟩ : ∃v1 v2,vs = [v1,v2]∧aZ n σ F w _ v1∧aZ n σ F w _ v2:=by
    match vs,r with
    | [v1,v2],r=>exact⟨v1,v2,rfl,r.1,r.2.1⟩
   have e1:=r1.dH
   have e2:=r2.dH
   subst e1;subst e2
   refine⟨_,_,h, .v _,fun u q Kv _ hv=> ?_⟩
   exact hv)
theorem Jj (hr : ∀s,aZ n σ F w (cZ s) (ρ s))(x:Option Operand):Jg n σ F w (x.map (dO cZ)) (x.map (gu ρ)):=by
 cases x with
 | none=>exact .inl ⟨rfl,rfl⟩
 | some x=>exact .inr ⟨_,_,rfl,rfl,bG hr x⟩
theorem Zl (x:FV)(v:Value)(h:dV F w x v):aZ n σ F w x.val v:=by
 cases x with
 | v y=>cases h;exact jQ _
 | _=>exact h.up
theorem BA {Hr:ak}{t:TypeId}{m k:AV}{ok:Bool}{vm vk:Value}(h:Dy P Hr t m k ok K)(rm:aZ n σ F w m vm)(rk:aZ n σ F w k vk)(UL:lU n σ F w Hr)(hS : ∀u,S u→jX σ F Hr w u) :
  Ans n σ F w K S fun u q Kv=>bQ P (Instr.lookup t vm vk ok) u (wr q u Kv):=by
 unfold Dy at h
 split at h
 ·rename_i l s
  rw [rk.dH]
  cases rm with
  | mp _ b hl hb=>
   split at h
   ·rename_i kt et M hu hk
    split at h
    ·rename_i z hkt hz
     obtain⟨g,hg,hM⟩:=UL _ _ hk
     rw [hb]at hg
     injection hg with hg
     subst hg
     cases ok with
     | true=>
      refine⟨_, .tuple #[(M s).getD z, .bool (M s).isSome],h.ex, ?_,fun u q Kv hu' hv=>yZ hu hkt hz (hM.heap ((hS u hu').h l _ b hk rfl (.inl hb))) (dP hv)⟩
      exact bJ.bH (as:= [Io ((M s).getD z), .v (.bool (M s).isSome)]) (vs:= [(M s).getD z, .bool (M s).isSome]) ⟨jQ _, .v _,trivial⟩
     | false=>
      exact⟨_,_,h.ex,jQ _,fun u q Kv hu' hv=>vw hu hkt hz (hM.heap ((hS u hu').h l _ b hk rfl (.inl hb))) (dP hv)⟩
    ·exact h.elim
   ·rename_i kt et M hu hk
    split at h
    ·rename_i z hkt hz
     obtain⟨g,hg,hf⟩:=UL _ _ hk
     rw [hb]at hg
     injection hg with hg
     subst hg
     cases hf with
     | fm _ _ hF hM=>
      cases ok with
      | true=>
       refine⟨_, .tuple #[(M s).getD z, .bool (M s).isSome],h.ex, ?_,fun u q Kv hu' hv=>yZ hu hkt hz (hM.heap ((hS u hu').f b hF)) (dP hv)⟩
       exact bJ.bH (as:= [Io ((M s).getD z), .v (.bool (M s).isSome)]) (vs:= [(M s).getD z, .bool (M s).isSome]) ⟨jQ _, .v _,trivial⟩
      | false=>
       exact⟨_,_,h.ex,jQ _,fun u q Kv hu' hv=>vw hu hkt hz (hM.heap ((hS u hu').f b hF)) (dP hv)⟩
    ·exact h.elim
   ·exact h.elim
 ·rename_i M s
  rw [rk.dH]
  split at h
  ·rename_i kt et hu
   split at h
   ·rename_i z hkt hz
    cases rm with
    | fm hf=>cases hf with
     | fm _ b hF hM=>
      cases ok with
      | true=>
       refine⟨_, .tuple #[(M s).getD z, .bool (M s).isSome],h.ex, ?_,fun u q Kv hu' hv=>yZ hu hkt hz (hM.heap ((hS u hu').f b hF)) (dP hv)⟩
       exact bJ.bH (as:= [Io ((M s).getD z), .v (.bool (M s).isSome)]) (vs:= [(M s).getD z, .bool (M s).isSome]) ⟨jQ _, .v _,trivial⟩
      | false=>
       exact⟨_,_,h.ex,jQ _,fun u q Kv hu' hv=>vw hu hkt hz (hM.heap ((hS u hu').f b hF)) (dP hv)⟩
   ·exact h.elim
  ·exact h.elim
 ·rename_i l i
  rw [rk.dH]
  cases rm with
  | mp _ b hl hb=>
   split at h
   ·rename_i kt et M hu hk
    split at h
    ·rename_i z hkt hz
     obtain⟨g,hg,V,hM,hV⟩:=UL _ _ hk
     rw [hb]at hg
     injection hg with hg
     subst hg
     have Yv:=hV i
     have key : ∃a b,(match ok with | true=>K (.bH [a, .v (.bool b)]) | false=>K a)∧aZ n σ F w a ((V i).getD z)∧b=(V i).isSome:=by
      cases hMi:M i with
      | none=>
       rw [hMi]at Yv
       cases hVv:V i with
       | none=>exact⟨_,_,h.no hMi,jQ _,rfl⟩
       | some v=>rw [hVv]at Yv;exact Yv.elim
      | some x=>
       rw [hMi]at Yv
       cases hVv:V i with
       | none=>rw [hVv]at Yv;exact Yv.elim
       | some v=>rw [hVv]at Yv;exact⟨_,_,h.yes x hMi,Zl x v Yv,rfl⟩
     obtain⟨a,bb,hK,ha,rfl⟩:=key
     cases ok with
     | true=>
      refine⟨_, .tuple #[(V i).getD z, .bool (V i).isSome],hK, ?_,fun u q Kv hu' hv=>PE hu hkt hz (hM.heap ((hS u hu').h l _ b hk rfl (.inl hb))) (dP hv)⟩
      exact bJ.bH (as:= [a, .v (.bool (V i).isSome)]) (vs:= [(V i).getD z, .bool (V i).isSome]) ⟨ha, .v _,trivial⟩
     | false=>
      exact⟨_,_,hK,ha,fun u q Kv hu' hv=>Nv hu hkt hz (hM.heap ((hS u hu').h l _ b hk rfl (.inl hb))) (dP hv)⟩
    ·exact h.elim
   ·exact h.elim
 ·exact h.elim
def mV (o:Oper):Bool:=match o.op with | .slice _ _ _ hi mx=> !mx.isSome||hi.isSome | _=>true
theorem zk {Hr:ak}{o:Oper}(h:aQ P Hr H o cZ K)(hi:mV o=true)(UL:lU n σ F w Hr)(hH:lU n σ F w H)(hr : ∀s,aZ n σ F w (cZ s) (ρ s)):Ans n σ F w K (jX σ F Hr w) fun u q Kv=>Bg P q o ρ u Kv:=by
 unfold aQ at h
 unfold Bg
 cases ho:o.op<;>simp only [ho]at h ⊢ <;>try exact h.elim
 case move x=>rw [iH]at h;exact⟨_,_,h,bG hr x,fun u q Kv _ hv=>by simp only [force_eq];exact hv⟩
 case assign x=>rw [iH]at h;exact⟨_,_,h,bG hr x,fun u q Kv _ hv=>by simp only [force_eq];exact hv⟩
 case pick c a b=>
  have rc:=bG hr c
  have ra:=bG hr a
  have rb:=bG hr b
  split at h
  ·rename_i t hc
   rw [hc]at rc
   rw [rc.dH]
   split at h
   ·rename_i x y ha hb
    rw [ha]at ra;rw [hb]at rb
    rw [ra.dH,rb.dH]
    exact⟨_,_,h, .v _,fun u q Kv _ hv=>hv⟩
   ·cases t with
    | true=>
     refine⟨_,_,h,ra,fun u q Kv _ hv=> ?_⟩
     dsimp only
     split
     ·rename_i x y e1 e2;rw [e1]at hv;exact hv
     ·exact hv
    | false=>
     refine⟨_,_,h,rb,fun u q Kv _ hv=> ?_⟩
     dsimp only
     split
     ·rename_i x y e1 e2;rw [e2]at hv;exact hv
     ·exact hv
  ·exact h.elim
 case build t parts=>
  rw [jo]at h
  obtain⟨a,v,h1,h2,h3⟩:=DI (S:=jX σ F Hr w) h (Cb hr parts.toList)
  exact⟨a,v,h1,h2,fun u q Kv hu hv=>by simp only [cu];exact h3 u q Kv hu hv⟩
 case load t a=>
  obtain⟨p,hp,a',v,h1,h2,h3⟩:=wW h (bG hr a) UL
  rw [hp]
  exact⟨a',v,h1,h2,h3⟩
 case nilCheck x=>
  have rx:=bG hr x
  split at h
  ·rename_i l o' hx
   rw [hx]at rx
   have : ∃p,gu ρ x = .pointer (some p):=by generalize gu ρ x=z at rx;cases rx;exact⟨_,rfl⟩
   obtain⟨p,hp⟩:=this
   rw [hp]at rx ⊢
   exact⟨_,_,h,rx,fun u q Kv _ hv=>hv⟩
  ·rename_i l i o' hx
   rw [hx]at rx
   have : ∃p,gu ρ x = .pointer (some p):=by generalize gu ρ x=z at rx;cases rx;exact⟨_,rfl⟩
   obtain⟨p,hp⟩:=this
   rw [hp]at rx ⊢
   exact⟨_,_,h,rx,fun u q Kv _ hv=>hv⟩
  ·rename_i cs o' hx
   rw [hx]at rx
   have : ∃p,gu ρ x = .pointer (some p):=by generalize gu ρ x=z at rx;cases rx with | fp hf=>cases hf;exact⟨_,rfl⟩
   obtain⟨p,hp⟩:=this
   rw [hp]at rx ⊢
   exact⟨_,_,h,rx,fun u q Kv _ hv=>hv⟩
  ·exact h.elim
 case binOp op t x y yt=>
  rw [iH,iH]at h
  exact Ji h (bG hr x) (bG hr y) hH
 case unOp op t x=>
  rw [iH]at h
  exact NC h (bG hr x)
 case convert src dst x=>
  rw [iH]at h
  exact FK h (bG hr x) UL (fun u hu=>hu)
 case lookup t m k ok=>
  rw [iH,iH]at h
  obtain⟨a,v,h1,h2,h3⟩:=BA (S:=jX σ F Hr w) h (bG hr m) (bG hr k) UL (fun u hu=>hu)
  exact⟨a,v,h1,h2,fun u q Kv hu hv=>by simp only [force_eq];exact h3 u q Kv hu hv⟩
 case makeFunc fn first captured=>
  rw [jo,jo]at h
  have r1:=lH hr first.toList
  have r2:=lH hr captured.toList
  exact⟨_,_,h, .fn fn _ _ _ _ r1.len r2.len r1.at r2.at,fun u q Kv _ hv=>by simp only [lY,cu];exact hv⟩
 case slice t x lo hi' mx=>
  simp only [iH,Zb]at h
  have hm:mx.map (dO cZ)≠none→hi'.map (dO cZ)≠none:=by
   intro e e2
   simp only [mV,ho]at hi
   cases mx with
   | none=>exact e rfl
   | some m=>cases hi' with
    | none=>simp at hi
    | some y=>cases e2
  obtain⟨a,v,h1,h2,h3⟩:=DN (S:=jX σ F Hr w) h hm (bG hr x) (Jj hr lo) (Jj hr hi') (Jj hr mx) hH
  exact⟨a,v,h1,h2,fun u q Kv hu hv=>by simp only [force_eq,uN];exact h3 u q Kv hu hv⟩
 case fieldAddr t x f=>
  have rx:=bG hr x
  unfold y7 at h
  split at h
  ·rename_i d l o' hd hx
   rw [hx]at rx
   generalize gu ρ x=z at rx ⊢
   cases rx with
   | ptr _ _ b hl hb=>exact⟨_,_,h, .ptr _ _ b hl hb,fun u q Kv _ hv=>qZ hd _ u Kv (by rw [add0];exact hv)⟩
  ·rename_i d l i o' hd hx
   rw [hx]at rx
   generalize gu ρ x=z at rx ⊢
   cases rx with
   | ep _ _ _ b hl hb=>exact⟨_,_,h, .ep _ _ _ b hl hb,fun u q Kv _ hv=>qZ hd _ u Kv (by rw [add0,Nat.add_assoc];exact hv)⟩
  ·rename_i d cs o' hd hx
   rw [hx]at rx
   generalize gu ρ x=z at rx ⊢
   cases rx with
   | fp hf=>cases hf with
    | fp _ _ b off hb hex hrep=>exact⟨_,_,h, .fp (.fp _ _ b off hb hex hrep),fun u q Kv _ hv=>qZ hd _ u Kv (by rw [add0,Nat.add_assoc];exact hv)⟩
  ·exact h.elim
 case field t x f=>
  have rx:=bG hr x
  split at h
  ·rename_i cs hx
   rw [hx]at rx
   obtain⟨us,e,r⟩:=bJ.y5 rx
   rw [e]
   exact DF h r
  ·exact h.elim
 case indexAddr t x i=>
  rw [iH,iH]at h
  obtain⟨a,v,h1,h2,h3⟩:=vJ (S:=jX σ F Hr w) h (bG hr x) (bG hr i) hH
  exact⟨a,v,h1,h2,fun u q Kv hu hv=>by simp only [force_eq];exact h3 u q Kv hu hv⟩
 case index t x i=>
  rw [iH,iH]at h
  obtain⟨a,v,h1,h2,h3⟩:=DK (S:=jX σ F Hr w) h (bG hr x) (bG hr i)
  exact⟨a,v,h1,h2,fun u q Kv hu hv=>by simp only [force_eq];exact h3 u q Kv hu hv⟩
 case extract t i=>
  have rt:=bG hr t
  split at h
  ·rename_i vs hx
   rw [hx]at rt
   split at h
   ·rename_i a ha
    rw [iH]at h
    generalize gu ρ t=z at rt ⊢
    cases rt with
    | bH _ us hl rx=>
     have r:bJ n σ F w vs us:= .of hl rx
     obtain⟨v,h1,h2⟩:=r.UJ ha
     exact⟨_,v,h,h2,fun u q Kv _ hv=>by simp only [h1];exact hv⟩
   ·exact h.elim
  ·exact h.elim
 case call c=>
  obtain⟨callee,args,ats⟩:=c
  cases callee with
  | builtin b=>
   simp only at h
   rw [jo]at h
   obtain⟨a,v,h1,h2,h3⟩:=DR (S:=jX σ F Hr w) (ty:=o.type) h (lH hr args.toList) hH
   exact⟨a,v,h1,h2,fun u q Kv hu hv=>by simp only [yP,lY,cu];exact h3 u q Kv hu hv⟩
  | _=>exact h.elim
end
def oq (σ:Nat→Loc)(n:Nat)(L:Loc):Nat→Loc:=fun k=>if k=n then L else σ k
theorem bV (σ:Nat→Loc)(n:Nat)(L:Loc):oq σ n L n=L:=if_pos rfl
theorem dJ {σ:Nat→Loc}{n k:Nat}{L:Loc}(h:k≠n):oq σ n L k=σ k:=if_neg h
theorem aW {H:ak}{n k:Nat}{b:dU} : look ((n,b)::H) k=if n=k then some b else look H k:=by
 simp only [look]
 by_cases h:n=k
 ·subst h;rw [Nat.beq_refl,cond_true,if_pos rfl]
 ·have:Nat.beq n k=false:=by
   cases hb:Nat.beq n k with
   | false=>rfl
   | true=>exact absurd (Nat.eq_of_beq_eq_true hb) h
  rw [this,cond_false,if_neg h]
theorem dG {H:ak}{aT k:Nat}{b b':dU}(h:look H aT=some b):look (setH H aT b') k=if k=aT then some b' else look H k:=by
 induction H with
 | nil=>cases h
 | cons p r ih=>
  obtain⟨x,bx⟩:=p
  rw [aW]at h
  by_cases hx:x=aT
  ·subst hx
   have e:setH ((x,bx)::r) x b'=(x,b')::r:=by simp only [setH,Nat.beq_refl,cond_true]
   rw [e,aW,aW]
   by_cases hk:x=k
   ·rw [if_pos hk,if_pos hk.symm]
   ·rw [if_neg hk,if_neg (fun e=>hk e.symm),if_neg hk]
  ·rw [if_neg hx]at h
   have hb:Nat.beq x aT=false:=by
    cases hb:Nat.beq x aT with
    | false=>rfl
    | true=>exact absurd (Nat.eq_of_beq_eq_true hb) hx
   have e:setH ((x,bx)::r) aT b'=(x,bx)::setH r aT b':=by simp only [setH,hb,cond_false]
   rw [e,aW,aW,ih h]
   by_cases hk:x=k
   ·subst hk;rw [if_pos rfl,if_neg hx,if_pos rfl]
   ·rw [if_neg hk,if_neg hk]
theorem iI {H:ak}{aT k:Nat}{b:dU}(h:look (Jb H aT) k=some b):k≠aT∧look H k=some b:=by
 induction H with
 | nil=>cases h
 | cons p r ih=>
  obtain⟨x,bx⟩:=p
  by_cases hx:x=aT
  ·subst hx
   have e:Jb ((x,bx)::r) x=Jb r x:=by simp only [Jb,Nat.beq_refl,cond_true]
   rw [e]at h
   obtain⟨h1,h2⟩:=ih h
   refine⟨h1, ?_⟩
   rw [aW,if_neg (fun e=>h1 e.symm)]
   exact h2
  ·have hb:Nat.beq x aT=false:=by
    cases hb:Nat.beq x aT with
    | false=>rfl
    | true=>exact absurd (Nat.eq_of_beq_eq_true hb) hx
   have e:Jb ((x,bx)::r) aT=(x,bx)::Jb r aT:=by simp only [Jb,hb,cond_false]
   rw [e,aW]at h
   by_cases hk:x=k
   ·subst hk
    rw [if_pos rfl]at h
    exact⟨hx,by rw [aW,if_pos rfl];exact h⟩
   ·rw [if_neg hk]at h
    obtain⟨h1,h2⟩:=ih h
    exact⟨h1,by rw [aW,if_neg hk];exact h2⟩
def FN (G:Glob)(w₀:World)(aK aN:Nat→Prop)(n:Nat)(σ:Nat→Loc)(F:Nat→Prop)(w:World)(K:AV→Nat→ak→Prop)(v:Value)(w':World):Prop:=
 ∃a n' σ' F' H',K a n' H'∧St G w₀ aK aN n' σ' F' H' w'∧Ext n σ F w n' σ' F' w'∧aZ n' σ' F' w' a v
section
variable {P:Program}{G:Glob}{w₀:World}{aK aN:Nat→Prop}{n:Nat}{σ:Nat→Loc}{F:Nat→Prop}{H:ak}{w:World}
theorem St.hrep (st:St G w₀ aK aN n σ F H w):lU n σ F w H:=st.blk
theorem St.more (st:St G w₀ aK aN n σ F H w){w':World}(hB:qE (fun _=>False) w w')(X:Nat→Prop)(hX : ∀g,X g→w.heap.size≤g∧g<w'.heap.size) :
  St G w₀ aK aN n σ (fun b=>F b∨X b) H w'∧Ext n σ F w n σ (fun b=>F b∨X b) w':=by
 have hE:Ext n σ F w n σ (fun b=>F b∨X b) w':=⟨Nat.le_refl _,fun _ _=>rfl,fun b hb=>⟨.inl hb,hB.block b (st.dL b hb).1 id⟩,hB.size⟩
 have hnb:=st.glob.1
 have hw0:=st.gI.size
 have bk : ∀ {aT b g},look H aT=some b→b.own=true→iL w' (σ aT) b g→iL w (σ aT) b g:=fun h hm hg=>hg.back fun k hk=>hB.block k (st.mu _ _ k h hm (.inl hk)).2.2.1 id
 refine⟨⟨Glob.gI st.glob hB.size fun b hb=>hB.block b (by omega) id,st.gI.trans hB (fun _ h=>h.elim),fun b hb=> ?_,st.lab,fun aT b g' h hm hg=> ?_,fun aT qF b b' g' h h' hm hm' hg hg'=>st.inj aT qF b b' g' h h' hm hm' (bk h hm hg) (bk h' hm' hg'),fun aT b h=>(st.blk aT b h).mono hE fun hk k hx=>hB.block k (st.mu _ _ k h hk hx).2.2.1 id⟩,hE⟩
 ·rcases hb with hb | hb
  ·exact⟨Nat.lt_of_lt_of_le (st.dL b hb).1 hB.size,(st.dL b hb).2⟩
  ·have:=hX b hb
   exact⟨this.2, .inr (.inl (by omega))⟩
 ·have hg:=bk h hm hg
  obtain⟨q1,q2,q3,q4⟩:=st.mu aT b g' h hm hg
  exact⟨fun hf=>hf.elim q1 fun e=>by have:=(hX g' e).1;omega,q2,Nat.lt_of_lt_of_le q3 hB.size,q4⟩
theorem St.new (st:St G w₀ aK aN n σ F H w){w':World}(hB:qE (fun _=>False) w w')(L:Loc)(hL : ∀g,L.b=some g→w.heap.size≤g∧g<w'.heap.size)(blk:dU)(hblk:kP (n+1) (oq σ n L) F w' L blk)(hfl:blk.flat=true:=by rfl) :
  St G w₀ aK aN (n+1) (oq σ n L) F ((n,blk)::H) w'∧Ext n σ F w (n+1) (oq σ n L) F w':=by
 have hE:Ext n σ F w (n+1) (oq σ n L) F w':=⟨by omega,fun k hk=>dJ (by omega),fun b hb=>⟨hb,hB.block b (st.dL b hb).1 id⟩,hB.size⟩
 have hnb:=st.glob.1
 have hw0:=st.gI.size
 have bk : ∀ {aT b g},look H aT=some b→b.own=true→iL w' (σ aT) b g→iL w (σ aT) b g:=fun h hm hg=>hg.back fun k hk=>hB.block k (st.mu _ _ k h hm (.inl hk)).2.2.1 id
 refine⟨⟨Glob.gI st.glob hB.size fun b hb=>hB.block b (by omega) id,st.gI.trans hB (fun _ h=>h.elim),fun b hb=>⟨Nat.lt_of_lt_of_le (st.dL b hb).1 hB.size,(st.dL b hb).2⟩,fun aT b h=> ?_,fun aT b g h hm hg=> ?_,fun aT qF b b' g h h' hm hm' hg hg'=> ?_,fun aT b h=> ?_⟩,hE⟩
 ·rw [aW]at h
  split at h
  ·omega
  ·have:=st.lab aT b h;omega
 ·rw [aW]at h
  split at h
  ·rename_i e
   subst e
   injection h with h
   subst h
   rw [bV]at hg
   obtain⟨h1,h2⟩:=hL g (hg.flat hfl)
   exact⟨fun hf=>by have:=(st.dL g hf).1;omega,by omega,h2, .inr (by omega)⟩
  ·have hl:=st.lab aT b h
   rw [dJ (by omega)]at hg
   have hg:=bk h hm hg
   obtain⟨h1,h2,h3,h4⟩:=st.mu aT b g h hm hg
   exact⟨h1,h2,Nat.lt_of_lt_of_le h3 hB.size,h4⟩
 ·rw [aW]at h h'
  split at h
  ·rename_i e
   split at h'
   ·rename_i e';omega
   ·have hl:=st.lab qF b' h'
    injection h with h
    subst h
    rw [←e,bV]at hg
    rw [dJ (by omega)]at hg'
    have:=(hL g (hg.flat hfl)).1
    have:=(st.mu qF b' g h' hm' (bk h' hm' hg')).2.2.1
    omega
  ·have hl:=st.lab aT b h
   rw [dJ (by omega)]at hg
   split at h'
   ·rename_i e'
    injection h' with h'
    subst h'
    rw [←e',bV]at hg'
    have:=(hL g (hg'.flat hfl)).1
    have:=(st.mu aT b g h hm (bk h hm hg)).2.2.1
    omega
   ·have hl':=st.lab qF b' h'
    rw [dJ (by omega)]at hg'
    exact st.inj aT qF b b' g h h' hm hm' (bk h hm hg) (bk h' hm' hg')
 ·rw [aW]at h
  split at h
  ·rename_i e
   subst e
   injection h with h
   subst h
   rw [bV]
   exact hblk
  ·have hl:=st.lab aT b h
   rw [dJ (by omega)]
   exact(st.blk aT b h).mono hE fun hm g hg=>hB.block g (st.mu aT b g h hm hg).2.2.1 id
theorem St.write (st:St G w₀ aK aN n σ F H w){w':World}{aT g:Nat}{blk:dU}(hk:look H aT=some blk)(hm:blk.own=true)(hg:(σ aT).b=some g)(hO:Only g w w')(blk':dU)(hblk:kP n σ F w (σ aT) blk→Ext n σ F w n σ F w'→kP n σ F w' (σ aT) blk')(hfl : ∀g',iL w' (σ aT) blk' g'→iL w (σ aT) blk g':=by exact fun _ h=> .inl (h.flat rfl)) :
  St G w₀ aK aN n σ F (setH H aT blk') w'∧Ext n σ F w n σ F w':=by
 obtain⟨m1,m2,m3,m4⟩:=st.mu aT blk g hk hm (.inl hg)
 have bk : ∀ {k b g'},k≠aT→look H k=some b→b.own=true→iL w' (σ k) b g'→iL w (σ k) b g':=fun hne h hm' hg'=>hg'.back fun x hx=>hO.block x fun e=>by
  subst e
  exact hne (st.inj _ aT _ blk x h hk hm' hm (.inl hx) (.inl hg))
 have hE:Ext n σ F w n σ F w':=⟨Nat.le_refl _,fun _ _=>rfl,fun b hb=>⟨hb,hO.block b fun e=>m1 (e▸hb)⟩,Nat.le_of_eq hO.size.symm⟩
 refine⟨⟨Glob.gI st.glob (Nat.le_of_eq hO.size.symm) fun b hb=>hO.block b (by omega),st.gI.trans (qE.Za hO) (fun b hb=>by subst hb;exact m4),fun b hb=>⟨by rw [hO.size];exact(st.dL b hb).1,(st.dL b hb).2⟩,fun k b h=> ?_,fun k b g' h hm' hg'=> ?_,fun k k' b b' g' h h' hm1 hm2 hg1 hg2=> ?_,fun k b h=> ?_⟩,hE⟩
 ·rw [dG hk]at h
  split at h
  ·rename_i e;subst e;exact st.lab _ _ hk
  ·exact st.lab k b h
 ·rw [dG hk]at h
  rw [hO.size]
  split at h
  ·rename_i e;subst e;injection h with h;subst h;exact st.mu _ _ g' hk hm (hfl g' hg')
  ·rename_i e;exact st.mu k b g' h hm' (bk e h hm' hg')
 ·rw [dG hk]at h h'
  have e1 : ∃c,look H k=some c∧c.own=true∧iL w (σ k) c g':=by
   split at h
   ·rename_i e;subst e;injection h with h;subst h;exact⟨_,hk,hm,hfl g' hg1⟩
   ·rename_i e;exact⟨_,h,hm1,bk e h hm1 hg1⟩
  have e2 : ∃c,look H k'=some c∧c.own=true∧iL w (σ k') c g':=by
   split at h'
   ·rename_i e;subst e;injection h' with h';subst h';exact⟨_,hk,hm,hfl g' hg2⟩
   ·rename_i e;exact⟨_,h',hm2,bk e h' hm2 hg2⟩
  obtain⟨c1,x1,y1,z1⟩:=e1
  obtain⟨c2,x2,y2,z2⟩:=e2
  exact st.inj k k' c1 c2 g' x1 x2 y1 y2 z1 z2
 ·rw [dG hk]at h
  split at h
  ·rename_i e
   subst e
   injection h with h
   subst h
   exact hblk (st.blk _ _ hk) hE
  ·rename_i e
   refine(st.blk k b h).mono hE fun hm' g' hg'=>hO.block g' fun e2=> ?_
   subst e2
   exact e (st.inj k aT b blk g' h hk hm' hm hg' (.inl hg))
theorem St.drop (st:St G w₀ aK aN n σ F H w)(aT:Nat):St G w₀ aK aN n σ F (Jb H aT) w:=
 ⟨st.glob,st.gI,st.dL,fun k b h=>st.lab k b (iI h).2,fun k b g h=>st.mu k b g (iI h).2,fun k k' b b' g h h'=>st.inj k k' b b' g (iI h).2 (iI h').2,fun k b h=>st.blk k b (iI h).2⟩
theorem jM {L:Loc}{F':Nat→Prop}{t sz:Nat}{l:List (List FV)}(h:kP n σ F w L (.rows t sz l))(hF : ∀b,F b→F' b)(hg : ∀g,L.b=some g→F' g):kP n σ F' w L (.fz sz l):=by
 obtain⟨h1,h2,xs,hO,hR⟩:=h
 have hm : ∀b,F b→F' b∧w.heap[b]? = w.heap[b]? :=fun b hb=>⟨hF b hb,rfl⟩
 refine⟨h1,h2, ?_, ?_⟩
 ·rw [h2]
  have hc:l.length≤L.c∧(L.oa=none→L.c=0):=by
   rcases hO.2 with ⟨hv,h0⟩ | ⟨g,cap,cur,hv,_,_,hle,_⟩
   ·injection hv with _ _ ec;exact⟨by omega,fun _=>ec⟩
   ·injection hv with eo _ ec;exact⟨by omega,fun en=>by rw [en]at eo;cases eo⟩
  rcases Nat.eq_zero_or_pos l.length with h0 | h0
  ·have hl:l = []:=List.eq_nil_of_length_eq_zero h0
   subst hl
   exact .lst sz [] _ _ _ 0 0 rfl hc.1 hc.2 (fun h=>absurd h (Nat.lt_irrefl 0)) (by simp) (fun i j hi=>absurd hi (Nat.not_lt_zero i)) (fun i j row a v hi=>by simp at hi)
  ·obtain⟨g,cur,hoa,_,hB,hle,_,hcl,htk⟩:=hO.blk h0
   have hcell : ∀k,k<l.length*sz→w.cell? ⟨g,0+k,none⟩=xs[k]? :=fun k hk=>by
    rw [Nat.zero_add,hB.cell, ←htk,List.getElem?_take,if_pos hk]
   have hlt : ∀i j,i<l.length→j<sz→i*sz+j<l.length*sz:=fun i j hi hj=>by
    have:(i+1)*sz≤l.length*sz:=Nat.mul_le_mul_right _ hi
    rw [Nat.add_mul,Nat.one_mul]at this;omega
   refine .lst sz l _ _ _ g 0 rfl hc.1 hc.2 (fun _=>⟨hoa,hg g (oh hoa)⟩) hR.1 (fun i j hi hj=> ?_) (fun i j row a v hi hj hv=> ?_)
   ·have hk:=hlt i j hi hj
    rw [hcell _ hk]
    have hxl:=hR.2.1
    exact⟨xs[i*sz+j],List.getElem?_eq_getElem (by omega),hR.2.2.1 _ (List.getElem_mem _)⟩
   ·have hil:=(List.getElem?_eq_some_iff.1 hi).1
    have hjl:=(List.getElem?_eq_some_iff.1 hj).1
    rw [hR.1 row (List.mem_of_getElem? hi)]at hjl
    rw [hcell _ (hlt i j hil hjl)]at hv
    exact(hR.2.2.2 i j row a v hi hj hv).mono hm
 ·intro b o e
  unfold Loc.oa at e
  cases hb:L.b with
  | none=>rw [hb]at e;cases e
  | some g=>rw [hb]at e;simp only [Option.map_some,Option.some.injEq]at e;injection e with _ e;exact e.symm
theorem St.freeze (st:St G w₀ aK aN n σ F H w){aT t sz:Nat}{l:List (List FV)}(hk:look H aT=some (.rows t sz l)) :
  St G w₀ aK aN n σ (fun b=>F b∨(σ aT).b=some b) (setH H aT (.fz sz l)) w∧Ext n σ F w n σ (fun b=>F b∨(σ aT).b=some b) w:=by
 have hE:Ext n σ F w n σ (fun b=>F b∨(σ aT).b=some b) w:=⟨Nat.le_refl _,fun _ _=>rfl,fun b hb=>⟨.inl hb,rfl⟩,Nat.le_refl _⟩
 refine⟨⟨st.glob,st.gI,fun b hb=> ?_,fun k b h=> ?_,fun k b g' h hm' hg'=> ?_,fun k k' b b' g' h h' hm1 hm2 hg1 hg2=> ?_,fun k b h=> ?_⟩,hE⟩
 ·rcases hb with hb | hb
  ·exact st.dL b hb
  ·obtain⟨_,_,h3,h4⟩:=st.mu aT _ b hk rfl (.inl hb)
   exact⟨h3,h4.elim (fun h=> .inr (.inr h)) fun h=> .inr (.inl h)⟩
 ·rw [dG hk]at h
  split at h
  ·rename_i e;subst e;exact st.lab _ _ hk
  ·exact st.lab k b h
 ·rw [dG hk]at h
  split at h
  ·injection h with h;subst h;cases hm'
  ·rename_i e
   obtain⟨h1,h2⟩:=st.mu k b g' h hm' hg'
   refine⟨fun hf=>hf.elim h1 fun hf=>e (st.inj k aT b _ g' h hk hm' rfl hg' (.inl hf)),h2⟩
 ·rw [dG hk]at h h'
  split at h
  ·injection h with h;subst h;cases hm1
  ·split at h'
   ·injection h' with h';subst h';cases hm2
   ·exact st.inj k k' b b' g' h h' hm1 hm2 hg1 hg2
 ·rw [dG hk]at h
  split at h
  ·rename_i e
   subst e
   injection h with h
   subst h
   exact jM (st.blk _ _ hk) (fun b hb=> .inl hb) fun g hg=> .inr hg
  ·exact(st.blk k b h).mono hE fun _ _ _=>rfl
theorem St.UM (st:St G w₀ aK aN n σ F H w){aT:Nat}{M:ByteArray→Option Value}(hk:look H aT=some (.map M)) :
  St G w₀ aK aN n σ (fun b=>F b∨(σ aT).b=some b) (setH H aT (.Nz M)) w∧Ext n σ F w n σ (fun b=>F b∨(σ aT).b=some b) w:=by
 have hE:Ext n σ F w n σ (fun b=>F b∨(σ aT).b=some b) w:=⟨Nat.le_refl _,fun _ _=>rfl,fun b hb=>⟨.inl hb,rfl⟩,Nat.le_refl _⟩
 refine⟨⟨st.glob,st.gI,fun b hb=> ?_,fun k b h=> ?_,fun k b g' h hm' hg'=> ?_,fun k k' b b' g' h h' hm1 hm2 hg1 hg2=> ?_,fun k b h=> ?_⟩,hE⟩
 ·rcases hb with hb | hb
  ·exact st.dL b hb
  ·obtain⟨_,_,h3,h4⟩:=st.mu aT _ b hk rfl (.inl hb)
   exact⟨h3,h4.elim (fun h=> .inr (.inr h)) fun h=> .inr (.inl h)⟩
 ·rw [dG hk]at h
  split at h
  ·rename_i e;subst e;exact st.lab _ _ hk
  ·exact st.lab k b h
 ·rw [dG hk]at h
  split at h
  ·injection h with h;subst h;cases hm'
  ·rename_i e
   obtain⟨h1,h2⟩:=st.mu k b g' h hm' hg'
   refine⟨fun hf=>hf.elim h1 fun hf=>e (st.inj k aT b _ g' h hk hm' rfl hg' (.inl hf)),h2⟩
 ·rw [dG hk]at h h'
  split at h
  ·injection h with h;subst h;cases hm1
  ·split at h'
   ·injection h' with h';subst h';cases hm2
   ·exact st.inj k k' b b' g' h h' hm1 hm2 hg1 hg2
 ·rw [dG hk]at h
  split at h
  ·rename_i e
   subst e
   injection h with h
   subst h
   obtain⟨g,hg,hM⟩:=st.blk _ _ hk
   exact⟨g,hg, .fm M g (.inr hg) hM⟩
  ·exact(st.blk k b h).mono hE fun _ _ _=>rfl
def oL (F:Nat→Prop)(w:World)(xs:List FV)(vs:List Value):Prop:=vs.length=xs.length∧∀(j:Nat) a v,xs[j]? = some a→vs[j]? = some v→dV F w a v
theorem oL.mono {F F':Nat→Prop}{w w':World}(h : ∀b,F b→F' b∧w'.heap[b]? = w.heap[b]?){xs:List FV}{vs:List Value}(r:oL F w xs vs):oL F' w' xs vs:=⟨r.1,fun j a v h1 h2=>(r.2 j a v h1 h2).mono h⟩
theorem oL.cons {x:FV}{v:Value}{xs:List FV}{vs:List Value}(h:dV F w x v)(r:oL F w xs vs):oL F w (x::xs) (v::vs):=⟨by simp [r.1],fun j a u h1 h2=>by
 cases j with
 | zero=>simp only [List.getElem?_cons_zero,Option.some.injEq]at h1 h2;rw [←h1, ←h2];exact h
 | succ j=>exact r.2 j a u (by simpa using h1) (by simpa using h2)⟩
theorem qg (sz:Nat)(oa:Option Addr):dV F w (.lst sz []) (.slice oa 0 0):=
 .lst sz [] oa 0 0 0 0 rfl (Nat.le_refl _) (fun _=>rfl) (fun h=>absurd h (Nat.lt_irrefl 0)) (by simp) (fun i j hi=>absurd hi (Nat.not_lt_zero i)) (fun i j row a v hi=>by simp at hi)
theorem FP {a:AV}{v:Value}{K:FV→ak→Prop}(h:dn H a K)(st:St G w₀ aK aN n σ F H w)(ra:aZ n σ F w a v) :
  ∃x H' F',K x H'∧St G w₀ aK aN n σ F' H' w∧Ext n σ F w n σ F' w∧dV F' w x v:=by
 unfold dn at h
 split at h
 ·rw [ra.dH];exact⟨_,_,F,h,st, .refl _ _ _ _, .v _⟩
 ·cases ra with | lst hf=>exact⟨_,_,F,h,st, .refl _ _ _ _,hf⟩
 ·cases ra with | fp hf=>exact⟨_,_,F,h,st, .refl _ _ _ _,hf⟩
 ·split at h
  ·rename_i t sz m hk
   obtain⟨s1,e1⟩:=st.freeze hk
   have hb:=s1.blk _ (.fz sz m) (by rw [dG hk,if_pos rfl])
   cases ra with
   | je _ oa hl hn hc=>
    have e:=hb.2.1
    rw [hn]at e
    have:m = []:=List.eq_nil_of_length_eq_zero e.symm
    subst this
    exact⟨_,_,_,h,s1,e1,qg sz oa⟩
   | own _ hl=>exact⟨_,_,_,h,s1,e1,hb.2.2.1⟩
  ·rename_i sz m hk
   have hb:=st.blk _ _ hk
   cases ra with
   | je _ oa hl hn hc=>
    have e:=hb.2.1
    rw [hn]at e
    have:m = []:=List.eq_nil_of_length_eq_zero e.symm
    subst this
    exact⟨_,_,F,h,st, .refl _ _ _ _,qg sz oa⟩
   | own _ hl=>exact⟨_,_,F,h,st, .refl _ _ _ _,hb.2.2.1⟩
  ·exact h.elim
 ·cases ra with | fm hf=>exact⟨_,_,F,h,st, .refl _ _ _ _,hf⟩
 ·split at h
  ·rename_i M hk
   obtain⟨s1,e1⟩:=st.UM hk
   obtain⟨g,hg,hf⟩:=s1.blk _ (.Nz M) (by rw [dG hk,if_pos rfl])
   cases ra with
   | mp _ b hl hb=>
    rw [hb]at hg
    injection hg with hg
    subst hg
    exact⟨_,_,_,h,s1,e1,hf⟩
  ·rename_i M hk
   obtain⟨g,hg,hf⟩:=st.blk _ _ hk
   cases ra with
   | mp _ b hl hb=>
    rw [hb]at hg
    injection hg with hg
    subst hg
    exact⟨_,_,F,h,st, .refl _ _ _ _,hf⟩
  ·exact h.elim
 ·exact h.elim
theorem CB : ∀ {as:List AV} {vs:List Value} {H:ak} {F:Nat→Prop} {K:List FV→ak→Prop},dnL H as K→St G w₀ aK aN n σ F H w→bJ n σ F w as vs→
  ∃xs H' F',K xs H'∧St G w₀ aK aN n σ F' H' w∧Ext n σ F w n σ F' w∧oL F' w xs vs:=by
 intro as
 induction as with
 | nil=>intro vs H F K h st r;cases vs with
  | nil=>exact⟨[],H,F,h,st, .refl _ _ _ _,rfl,fun j a v h1=>by simp at h1⟩
  | cons _ _=>exact r.elim
 | cons a as ih=>intro vs H F K h st r;cases vs with
  | nil=>exact r.elim
  | cons v vs=>
   obtain⟨x,H1,F1,h1,s1,e1,r1⟩:=FP h st r.1
   obtain⟨xs,H2,F2,h2,s2,e2,r2⟩:=ih h1 s1 (r.2.mono e1)
   exact⟨x::xs,H2,F2,h2,s2,e1.trans e2, .cons (r1.mono e2.f) r2⟩
theorem fU.nil (sz:Nat):fU F w sz [] []:=⟨by simp,by simp,by simp,fun i j row a v h=>by simp at h⟩
theorem fU.cons {sz:Nat}{row:List FV}{l:List (List FV)}{vs xs:List Value}(hr:oL F w row vs)(hl:vs.length=sz)(h1 : ∀v∈vs,v.oneCell'=true)(r:fU F w sz l xs):fU F w sz (row::l) (vs++xs):=by
 refine⟨fun x hx=> ?_,by rw [List.length_append,r.2.1,hl,List.length_cons,Nat.add_mul];omega,fun v hv=> ?_,fun i j row' a v hi hj hv=> ?_⟩
 ·rcases List.mem_cons.1 hx with rfl | hx
  ·rw [←hr.1];exact hl
  ·exact r.1 x hx
 ·rcases List.mem_append.1 hv with hv | hv
  ·exact h1 v hv
  ·exact r.2.2.1 v hv
 ·cases i with
  | zero=>
   simp only [List.getElem?_cons_zero,Option.some.injEq]at hi
   subst hi
   have hjl:=(List.getElem?_eq_some_iff.1 hj).1
   rw [Nat.zero_mul,Nat.zero_add,List.getElem?_append_left (by rw [hr.1];exact hjl)]at hv
   exact hr.2 j a v hj hv
  | succ i=>
   have hi':l[i]? = some row':=by simpa using hi
   rw [List.getElem?_append_right (by rw [hl,Nat.add_mul];omega),hl]at hv
   rw [show (i+1)*sz+j-sz=i*sz+j by rw [Nat.add_mul];omega]at hv
   exact r.2.2.2 i j row' a v hi' hj hv
theorem zl : ∀ {as:List AV} {vs:List Value},all1 as=true→bJ n σ F w as vs→∀v∈vs,v.oneCell'=true:=by
 intro as
 induction as with
 | nil=>intro vs _ r v hv;cases vs with
  | nil=>cases hv
  | cons _ _=>exact r.elim
 | cons a as ih=>intro vs h r v hv;cases vs with
  | nil=>exact r.elim
  | cons u vs=>
   simp only [all1,Bool.and_eq_true]at h
   rcases List.mem_cons.1 hv with rfl | hv
   ·have hc:=h.1
    have ra:=r.1
    have key : ∀ {a:AV} {v:Value},cell1 a=true→aZ n σ F w a v→v.oneCell'=true:=fun {a v} hc ra=>by
     cases ra with
     | v x=>exact hc
     | top x=>cases hc
     | agg _ _ _ _=>cases hc
     | bH _ _ _ _=>cases hc
     | lst hf=>cases hf;rfl
     | fp hf=>cases hf;rfl
     | fm hf=>cases hf;rfl
     | _=>rfl
    exact key hc ra
   ·exact ih h.2 r.2 v hv
theorem rD {a:AV}{v:Value}(r:aZ n σ F w a v)(h:all1 (cellsOf a)=true):bJ n σ F w (cellsOf a) v.cells.toList:=
 Cc r fun e=>by rw [e]at h;simp [cellsOf,all1,cell1]at h
theorem BD {sz:Nat} : ∀ {ks:List Nat} {as:List AV} {us:List Value} {i:Nat} {H:ak} {F:Nat→Prop} {K:List (List FV)→ak→Prop},xR H sz i (ks.zip as) K→ks.length=as.length→St G w₀ aK aN n σ F H w→bJ n σ F w as us→
  ∃l H' F',K l H'∧St G w₀ aK aN n σ F' H' w∧Ext n σ F w n σ F' w∧l.length=as.length∧ks=List.range' i as.length∧(∀u∈us,u.cells.toList.length=sz)∧fU F' w sz l (us.flatMap fun u=>u.cells.toList):=by
 intro ks
 induction ks with
 | nil=>
  intro as us i H F K h hl st r
  cases as with
  | cons _ _=>simp at hl
  | nil=>cases us with
   | cons _ _=>exact r.elim
   | nil=>exact⟨[],H,F,h,st, .refl _ _ _ _,rfl,rfl,by simp,fU.nil sz⟩
 | cons k ks ih=>
  intro as us i H F K h hl st r
  cases as with
  | nil=>simp at hl
  | cons a as=>cases us with
   | nil=>exact r.elim
   | cons u us=>
    simp only [List.zip_cons_cons,xR]at h
    cases hb:(Nat.beq i k&&Nat.beq (cellsOf a).length sz&&all1 (cellsOf a))with
    | false=>rw [hb]at h;exact h.elim
    | true=>
     rw [hb,cond_true]at h
     simp only [Bool.and_eq_true]at hb
     have e1:=Nat.eq_of_beq_eq_true hb.1.1
     have e2:=Nat.eq_of_beq_eq_true hb.1.2
     subst e1
     have rc:=rD r.1 hb.2
     obtain⟨x,H1,F1,h1,s1,x1,r1⟩:=CB h st rc
     obtain⟨l,H2,F2,h2,s2,x2,l2,k2,c2,r2⟩:=ih h1 (by simpa using hl) s1 (r.2.mono x1)
     refine⟨x::l,H2,F2,h2,s2,x1.trans x2,by simp [l2],by rw [k2];rfl, ?_, ?_⟩
     ·intro v hv
      rcases List.mem_cons.1 hv with rfl | hv
      ·rw [rc.len];exact e2
      ·exact c2 v hv
     ·rw [List.flatMap_cons]
      exact .cons (r1.mono x2.f) (by rw [rc.len];exact e2) (zl hb.2 rc) r2
theorem PZ (z:List Value)(sz:Nat)(hz:z.length=sz) : ∀(us:List Value) (i:Nat) (pre:List Value),pre.length=i*sz→(∀u∈us,u.cells.toList.length=sz)→
  oJ (fun j=>some (j*sz,sz)) (pre++(List.replicate us.length z).flatten) ((List.range' i us.length).zip us)=some (pre++us.flatMap fun u=>u.cells.toList):=by
 intro us
 induction us with
 | nil=>intro i pre _ _;simp [oJ]
 | cons u us ih=>
  intro i pre hp hc
  have hu:=hc u (by simp)
  simp only [List.length_cons,List.range'_succ,List.zip_cons_cons,oJ,List.replicate_succ,List.flatten_cons]
  have hlen:(pre++(z++(List.replicate us.length z).flatten)).length=i*sz+sz+(List.replicate us.length z).flatten.length:=by simp [hp,hz];omega
  have c1:(Nat.beq u.cells.toList.length sz&&Nat.ble (i*sz+u.cells.toList.length) (pre++(z++(List.replicate us.length z).flatten)).length)=true:=by
   rw [hu,hlen]
   simp only [Nat.beq_refl,Bool.true_and]
   exact Nat.ble_eq_true_of_le (by omega)
  rw [c1,cond_true, ←hp, ←List.append_assoc,Fq pre u.cells.toList z _ (by omega)]
  have:=ih (i+1) (pre++u.cells.toList) (by rw [List.length_append,hp,hu,Nat.add_mul,Nat.one_mul]) (fun v hv=>hc v (by simp [hv]))
  rw [this,List.flatMap_cons,List.append_assoc]
theorem sD {t:TypeId}{m:Nat}{ks:List Nat}{as:List AV}{us:List Value}{K:AV→Nat→ak→Prop}(h:o7 P t m (ks.zip as) n H K)(hl:ks.length=as.length)(st:St G w₀ aK aN n σ F H w)(r:bJ n σ F w as us) :
  jV P t m (ks.zip us) w (FN G w₀ aK aN n σ F w K):=by
 unfold o7 at h
 unfold jV
 split at h
 ·rename_i e hu
  split at h
  ·rename_i i hi
   split at h
   ·rename_i z hz
    cases hb:(Nat.beq z.cells.toList.length i.size&&Nat.ble 1 i.size&&Nat.ble (m*i.size) 16777216&&Nat.beq (ks.zip as).length m&&Nat.ble m maxLen)with
    | false=>rw [hb]at h;exact h.elim
    | true=>
     rw [hb,cond_true]at h
     simp only [Bool.and_eq_true]at hb
     obtain⟨⟨⟨⟨b1,b2⟩,b3⟩,b4⟩,b5⟩:=hb
     have e4:=Nat.eq_of_beq_eq_true b4
     rw [List.length_zip,hl,Nat.min_self]at e4
     subst e4
     have hzl:=Nat.eq_of_beq_eq_true b1
     obtain⟨l,H1,F1,h1,s1,x1,l1,k1,c1,r1⟩:=BD h hl st r
     have hul:=r.len
     have hf:=PZ z.cells.toList i.size hzl us 0 [] (by simp) c1
     simp only [List.nil_append]at hf
     simp only [hu,hi,hz,b1,b2,b3,Bool.and_self,cond_true]
     rw [k1, ←hul,hf]
     simp only [cu]
     obtain⟨s2,x2⟩:=s1.new (w':=w.alloc (.cells (us.flatMap fun u=>u.cells.toList).toArray e)) (qE.jF (lG (Below.refl _ _) (Nat.le_refl _) _))
      ⟨some w.heap.size,l.length,l.length,i.size⟩ (fun g hg=>by injection hg with hg;subst hg;exact⟨Nat.le_refl _,by simp⟩) (.rows e i.size l)
      ⟨rfl,rfl,_,Own.wS (jC.new w _ e) (Nat.zero_le _) (Nat.le_refl _) (by rw [l1];exact Nat.le_of_ble_eq_true b5) (by simpa using r1.2.1) (by rw [←r1.2.1];exact List.take_length),r1.mono fun b hb=>⟨hb,heap_alloc_old w _ b (s1.dL b hb).1⟩⟩
     refine⟨_,_,_,_,_,h1,s2,x1.trans x2, ?_⟩
     have:=aZ.own (n:=n+1) (σ:=oq σ n ⟨some w.heap.size,l.length,l.length,i.size⟩) (F:=F1) (w:=w.alloc (.cells (us.flatMap fun u=>u.cells.toList).toArray e)) n (by omega)
     rw [bV]at this
     rw [hul, ←l1]
     exact this
   ·exact h.elim
  ·exact h.elim
 ·exact h.elim
end
end Go.Proofs.YtocckceefcmeaaaGreatDoor.Ax
