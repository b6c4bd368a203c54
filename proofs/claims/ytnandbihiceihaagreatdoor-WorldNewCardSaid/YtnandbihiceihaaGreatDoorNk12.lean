/- Joined parts of the proof. Plain encodings that the walks of several chapters share -/
import Derived.Test.YtnandbihiceihaaGreatDoorNk11
import Derived.Test.YtnandbihiceihaaGreatDoorNk10
import Derived.Test.YtnandbihiceihaaGreatDoorProg
import Derived.Test.YtnandbihiceihaaGreatDoorNk9
import Derived.Sort.Grow
import Derived.Test.YtnandbihiceihaaGreatDoorNk2
import Derived.ProofKit
import Derived.Test.YtnandbihiceihaaGreatDoorNk1
import Derived.MapKept
import Derived.Laws.Strings
import Derived.Test.YtnandbihiceihaaGreatDoorNk3
import Derived.OpenShut
import Derived.Test.YtnandbihiceihaaGreatDoorRows
import Derived.LaidMore
import Derived.Stop.Joined
set_option linter.unusedVariables false
set_option linter.unusedSimpArgs false
set_option maxRecDepth 100000
set_option maxHeartbeats 16000000
namespace Go.Proofs.YtnandbihiceihaaGreatDoor.Cl
open RowKit Vc Ax Go.Proofs.Tryz
abbrev By:=List UInt8
abbrev Tx:=List By
def I64 (n:Int):Prop:= -9223372036854775808<=n∧n<=9223372036854775807
theorem uQ {n:Nat}(h:n<=9223372036854775807):I64 (n:Int):=by unfold I64;omega
theorem toNat_ofNat {u:Nat}(h:u<256):(UInt8.ofNat u).toNat=u:=by
 simp [UInt8.toNat_ofNat',bW h]
abbrev Li:=List Int
def wC (l:Li):Prop:= ∀x∈l,I64 x
theorem mixed:Tryz.prog.follows .mixedOrders=true:=aac
def GC:Glob:=⟨0,fun _=>none,fun _=>none⟩
abbrev iv (n:Int):AV:= .v (.int .i64 n)
abbrev bv (b:Bool):AV:= .v (.bool b)
abbrev uv (n:Nat):AV:= .v (.int .u64 (n:Int))
def enI (x:Int):List FV:= [.v (.int .i64 x)]
abbrev bs (b:By):AV:= .lst 1 (b.map pR)
abbrev li (l:Li):AV:= .lst 1 (l.map enI)
theorem kP.to {k:IntKind}{x y:Int}{K:Int->Prop}(h:k.wrap x=y)(c:K y):kP k x K:=⟨by rw [h];exact c⟩
theorem Nl.of {s:By}{K:ByteArray->Prop}(c:K ⟨s.toArray⟩):Nl (s.map pR) K:=⟨⟨s,rfl,c⟩⟩
theorem lU (a b:By):qU ⟨a.toArray⟩ ⟨b.toArray⟩=decide (a=b):=by
 rw [Yo]
 by_cases h:a=b
 ·subst h;simp
 ·rw [decide_eq_false h]
  refine decide_eq_false fun e=>h ?_
  injection e with e
  simpa using congrArg Array.toList e
end Go.Proofs.YtnandbihiceihaaGreatDoor.Cl
namespace Go.Proofs.YtnandbihiceihaaGreatDoor.Ax
open RowKit Vc Go.Proofs.Tryz
variable {P:Program}{G:Glob}
def Here (w:World)(b:Nat):Prop:=b<w.heap.size
def SY:Nat->Loc:=fun _=>⟨none,0,0,0⟩
theorem Jd {f:FuncId}{args:List AV}{x:Value}(h:kQ P G f args 0 [] (Is (.v x)))(w:World)(hG:G.holds w)(vs:List Value)(r:kD 0 SY (Here w) w args vs):uD P f vs.toArray w fun v w'=>v=x∧Below w.heap.size w w':=by
 have st:St G w (qX w SY []) (Here w) 0 SY (Here w) [] w:=⟨hG,uH.refl _ _,fun b hb=>⟨hb, .inl hb⟩,(fun jT b h=>by cases h),(fun jT b g h=>by cases h),(fun jT uY b b' g h=>by cases h),(fun jT b h=>by cases h)⟩
 refine(h w SY (Here w) vs st r).mono fun v w' ⟨a,n',σ',F',H',⟨ha,_,_⟩,s,_,ra⟩=> ?_
 subst ha
 refine⟨ra.kR,s.nN.os,s.nN.tape,s.nN.output,s.nN.size,fun k hk=>s.nN.block k hk fun⟨_,_,hm,_⟩=>by cases hm⟩
theorem WJ {α:Type}{c:α->List Value}{k:Nat}(hk : ∀a,(c a).length=k){l:List α}{i j:Nat}{a:α}{v:Value}(hi:l[i]? = some a)(hj:(c a)[j]? = some v):(recs c l)[i*k+j]? = some v:=by
 obtain⟨h,rfl⟩:=aF.1 hi
 exact Nb hk l i h j v hj
section
section
variable {P:Program}{G:Glob}
theorem OI {α:Type}(enc:α->Value) : ∀zs:List α,recs (fun a=> [enc a]) zs=zs.map enc:=by
 intro zs
 unfold recs
 induction zs with
 | nil=>rfl
 | cons a r ih=>simp only [fJ,gK,ih];rfl
end
end
end Go.Proofs.YtnandbihiceihaaGreatDoor.Ax
namespace Go.Proofs.YtnandbihiceihaaGreatDoor.Vc
open RowKit Go.ChangeShapes Go.WideShapes Go.ChangeAt Go.Proofs.Tryz
section
variable {H:Type}{enc:TypeId×Value->H}{P:Program}{w:World}{t:TypeId}{cs:List Value}
theorem Ci {W W':World}(hl:laidOutB P=true)(hb:Below W.heap.size W W') : ∀(ts:List TypeId) (vs:List Value) (ds:List (DataW H)) (ps:List MemPlace),
  (ts.all fun t=>P.readableRec t&&Nat.blt t P.types.size)=true->(∀x∈ps,x.block<W.heap.size)->DataW.TrodAll enc P W 0 (fun _=>true) true ts vs ds ps->
  DataW.TrodAll enc P W' 0 (fun b=>decide (b<W.heap.size)) true ts vs ds ps:=by
 intro ts
 induction ts with
 | nil=>intro vs ds ps _ _ h;cases vs<;>cases ds<;>simp_all [DataW.TrodAll]
 | cons t ts ih=>
  intro vs ds ps hrd hlt h
  obtain⟨v,vs',d,ds',p,q,rfl,rfl,rfl,h1,h2⟩:=trodAll_cons h
  simp only [List.all_cons,ah]at hrd
  refine⟨p,q,Below.trod hl hrd.1.1 (ak hrd.1.2) h1 hb (fun x hx=>hlt x abr),ih _ _ _ hrd.2 (fun x hx=>hlt x abr) h2,rfl⟩
end
theorem OJ {H:Type}{enc:TypeId×Value->H}{P:Program}{fn:Func}{s:ChangeSpec}{tb:TypeId}(hl:laidOutB P=true)
  (hrd:(fn.params.toList.all fun t=>P.readableRec t&&Nat.blt t P.types.size)=true) (hres:fn.resultTypes = #[tb]) (hb:P.underlying tb=some .bool) (hv:s.vars = [])
  (hfn : ∀ds:List (DataW H),ds.length=fn.params.size->s.fn H ds = {results:= [.lit (.bool true)],args:=ds})
  {W W':World} {args:Array Value} {ds gs:List (DataW H)} {before:List MemPlace} (hW:DataW.Whole enc P fn.params.toList s.vars false W args.toList ds gs before) (hB:Below W.heap.size W W') :
  s.post enc P fn false true false false W args (.bool true) W':=by
 have hlt : ∀x∈before,x.block<W.heap.size:=fun x hx=>hW.lt x hx
 have hW':=hW
 obtain⟨p,q,hA,hV,rfl,_,_⟩:=hW'
 rw [hv]at hV
 obtain⟨rfl,rfl⟩:=trodVars_none hV
 have hlen:ds.length=fn.params.size:=by
  have : ∀(ts:List TypeId) (vs:List Value) (ds:List (DataW H)) (ps:List MemPlace),DataW.TrodAll enc P W 0 (fun _=>true) true ts vs ds ps->ds.length=ts.length:=by
   intro ts
   induction ts with
   | nil=>intro vs ds ps h;cases vs<;>cases ds<;>simp_all [DataW.TrodAll]
   | cons t ts ih=>
    intro vs ds ps h
    obtain⟨v,vs',d,ds',p,q,rfl,rfl,rfl,_,h2⟩:=trodAll_cons h
    simp [ih _ _ _ h2]
  rw [this _ _ _ _ hA];simp
 have hspec:=hfn ds hlen
 refine⟨ds,[],p++ [],[],p,[],hW, ?_, ?_, ?_,World.keptBut_mono (fun x hx=>⟨hx, .inr (.inl (by simpa using hx))⟩) (hB.frame (· ∈p++ [])),(fun h=>by cases h)⟩
 ·rw [fM,hspec,hres]
  exact⟨[],[],⟨1,by unfold DataW.trod;simp [hb,Value.cells]⟩,rfl,rfl⟩
 ·rw [fM,hspec]
  exact Ci hl hB _ _ _ _ hrd (fun x hx=>hlt x abr) hA
 ·rw [fM,hspec,hv]
  rfl
end Go.Proofs.YtnandbihiceihaaGreatDoor.Vc
namespace Go.Proofs.YtnandbihiceihaaGreatDoor.Id
open Vc Go.Proofs.Tryz
theorem S9 (a b:ByteArray):qU a b=true↔a=b:=by
 unfold qU
 rw [<-MapKept.bytes_beq a b]
 have:(a==b)=(a.toList==b.toList):=by
  rw [Go.ByteArray.toList_eq,Go.ByteArray.toList_eq]
  obtain⟨⟨x⟩⟩:=a
  obtain⟨⟨y⟩⟩:=b
  show ((⟨x⟩:Array UInt8)==⟨y⟩)=(x==y)
  simp
 rw [this]
theorem Tc (a b:ByteArray):qU a b=decide (a=b):=by
 rw [jr,S9];simp
theorem Td (x y:ByteArray)(h:x≠y):(y8 x y=y∧y7 x y=x)∨(y8 x y=x∧y7 x y=y):=by
 have he:qU x y=false:=by rw [Tc];simpa using h
 unfold y8 y7
 cases hl:xP x y with
 | true=>left;simp
 | false=>right;simp [he]
structure Lk where
 a:ByteArray
 b:ByteArray
 t:Int
 deriving DecidableEq
def jn (f:ByteArray->ByteArray)(x y:ByteArray):ByteArray->ByteArray:=
 if f x=f y then f else fun z=>if f z=y8 (f x) (f y)then y7 (f x) (f y)else f z
def rtF (f:ByteArray->ByteArray):List Lk->ByteArray->ByteArray
 | []=>f
 | k::l=>rtF (jn f k.a k.b) l
def rt (l:List Lk):ByteArray->ByteArray:=rtF (fun z=>z) l
theorem YJ {f:ByteArray->ByteArray}{x y:ByteArray}(h:f x≠f y):jn f x y=fun z=>if f z=y8 (f x) (f y)then y7 (f x) (f y)else f z:=if_neg h
structure Fo (F:ByteArray->Option ByteArray)(R:ByteArray->ByteArray)(d:ByteArray->Nat):Prop where
 top : ∀k,F k=none->R k=k
 step : ∀k k',F k=some k'->R k'=R k∧d k'<d k
theorem Fo.nil:Fo (fun _=>none) (fun z=>z) (fun _=>0):=⟨fun _ _=>rfl,fun k k' h=>by cases h⟩
theorem Fo.root {F:ByteArray->Option ByteArray}{R:ByteArray->ByteArray}{d:ByteArray->Nat}(h:Fo F R d) : ∀(n:Nat) (k:ByteArray),d k=n->F (R k)=none:=by
 intro n
 induction n using Nat.strongRecOn with
 | _ n ih=>
  intro k hk
  cases hF:F k with
  | none=>rw [h.top k hF];exact hF
  | some k'=>
   obtain⟨h1,h2⟩:=h.step k k' hF
   rw [<-h1]
   exact ih (d k') aad k' rfl
theorem Fo.rr {F:ByteArray->Option ByteArray}{R:ByteArray->ByteArray}{d:ByteArray->Nat}(h:Fo F R d)(k:ByteArray):R (R k)=R k:=h.top _ (h.root _ k rfl)
theorem Fo.join {F:ByteArray->Option ByteArray}{R:ByteArray->ByteArray}{d:ByteArray->Nat}(h:Fo F R d){x y:ByteArray}(hne:R x≠R y) :
  Fo (fun k=>if k=y8 (R x) (R y)then some (y7 (R x) (R y))else F k) (jn R x y) (fun k=>if R k=y8 (R x) (R y)then d k+d (y7 (R x) (R y))+1 else d k):=by
 rw [YJ hne]
 obtain⟨m,hm⟩ : ∃m,m=y8 (R x) (R y):=⟨_,rfl⟩
 obtain⟨n,hn⟩ : ∃n,n=y7 (R x) (R y):=⟨_,rfl⟩
 rw [<-hm, <-hn]
 have hmn:m≠n∧R m=m∧R n=n:=by
  rcases Td (R x) (R y) hne with ⟨e1,e2⟩|⟨e1,e2⟩
  ·rw [hm,hn,e1,e2];exact⟨fun e=>hne e.symm,h.rr y,h.rr x⟩
  ·rw [hm,hn,e1,e2];exact⟨hne,h.rr x,h.rr y⟩
 obtain⟨h1,h2,h3⟩:=hmn
 refine⟨fun k hk=> ?_,fun k k' hk=> ?_⟩
 ·by_cases e:k=m
  ·rw [if_pos e]at hk;cases hk
  ·rw [if_neg e]at hk
   have:=h.top k hk
   show (if R k=m then n else R k)=k
   rw [this,if_neg e]
 ·show (if R k'=m then n else R k')=(if R k=m then n else R k)∧(if R k'=m then d k'+d n+1 else d k')<(if R k=m then d k+d n+1 else d k)
  by_cases e:k=m
  ·rw [if_pos e]at hk
   injection hk with hk
   subst hk;subst e
   rw [h2,h3,if_pos rfl,if_pos rfl,if_neg fun x=>h1 x.symm,if_neg fun x=>h1 x.symm]
   exact⟨rfl,by omega⟩
  ·rw [if_neg e]at hk
   obtain⟨a,b⟩:=h.step k k' hk
   rw [a]
   refine⟨rfl, ?_⟩
   split<;>omega
end Go.Proofs.YtnandbihiceihaaGreatDoor.Id
namespace Go.Proofs.YtnandbihiceihaaGreatDoor.Ky
open RowKit Vc Go.Proofs.YtnandbihiceihaaGreatDoor.Id Go.Proofs.Tryz
attribute [local irreducible] loadVar storeVar Instr.indexAt Instr.index Instr.sliceAt Instr.makeSlice Instr.lookup Instr.mapUpdate Instr.range Instr.next Instr.entry Instr.makeMap Builtin.append_ Builtin.copy_ Builtin.len_ Builtin.min_ Builtin.max_ Builtin.cap_ Builtin.delete_ Builtin.clear_ convert binOp eqGuard Op.unary Calls
section
theorem mixed:Tryz.prog.follows .mixedOrders=true:=aac
def okB (i c:Nat):Bool:=(decide (97<=c)&&decide (c<=122))||(!decide (i=0)&&((decide (48<=c)&&decide (c<=57))||decide (c=45)||decide (c=95)))
theorem EG (i c:Nat):okB i c=true↔(97<=c∧c<=122)∨(i≠0∧((48<=c∧c<=57)∨c=45∨c=95)):=by
 simp [okB,or_assoc]
theorem EH (i c:Nat):okB i c=false↔¬((97<=c∧c<=122)∨(i≠0∧((48<=c∧c<=57)∨c=45∨c=95))):=by
 rw [<-EG];simp
def oZ:Nat->List UInt8->Bool
 | _,[]=>true
 | i,c::l=>okB i c.toNat&&oZ (i+1) l
theorem Bd (l:List UInt8)(i:Nat)(h:i<l.length):oZ i (l.drop i)=(okB i l[i].toNat&&oZ (i+1) (l.drop (i+1))):=by
 rw [cZ h];rfl
theorem zC (s:ByteArray)(w:World)(hs:s.size<=140737488355328) :
  uD Tryz.prog 148 #[.string s] w fun v w'=>v = .bool (oZ 0 (qV s)&&decide (1<=s.size))∧w'=w:=by
 refine kL func148 rfl mixed aac ?_
 have hl:=DK s
 refine oG (X:=Nat) Rw (fun i=> [(3, .int .i64 i)]) (fun i w'=>i<=s.size∧w'=w∧oZ 0 (qV s)=oZ i ((qV s).drop i)) (fun i=>s.size-i) 0 aac
  ?_ ⟨aK _,rfl,rfl⟩ ?_
 ·exact⟨rfl,trivial⟩
 rintro i w1 j ⟨hi,rfl,hp⟩
 refine jH (fun hlt=> ?_) (fun hge=> ?_)
 ·have hlt:i<s.size:=aaH
  have hst:=Bd (qV s) i aad
  have hc:(qV s)[i]'aad=s[i]:=by simp;rfl
  rw [hc]at hst
  have hcb:s[i].toNat<256:=s[i].toNat_lt
  obtain⟨c,hcc⟩ : ∃c,c=s[i].toNat:=⟨_,rfl⟩
  rw [hst]at hp
  rw [hp]
  have hno:=EH i c
  have hyes:=EG i c
  rw [<-hcc]at hcb ⊢ hp
  refine yc i rfl rfl hlt ?_
  rw [<-hcc]
  conv=>whnf
  clear hst hc hp
  have e0:okB i c=false->(okB i c&&oZ (i+1) ((qV s).drop (i+1))&&decide (1<=s.size))=false:=fun h=>by rw [h];rfl
  have e1:okB i c=true->(okB i c&&oZ (i+1) ((qV s).drop (i+1)))=oZ (i+1) ((qV s).drop (i+1)):=fun h=>by rw [h];rfl
  (repeat' (apply jH<;>intro h;all_goals (conv=>whnf)))
  all_goals first
   | exact nP.mk ⟨congrArg Value.bool (e0 (hno.2 (by(try simp only [cond_true,cond_false,dR,dV,decide_eq_true_eq,decide_eq_false_iff_not,beq_iff_eq,bne_iff_ne,beq_eq_false_iff_ne,bne_eq_false_iff_eq,ne_eq,dB,eu,dO,aS,dW]at *)<;>omega))).symm,rfl⟩
   | exact nU.mk ⟨_,(show s.size -(i+1)<s.size-i by omega),i+1,rfl,⟨mX (incr aad),trivial⟩,hlt,rfl,e1 (hyes.2 (by(try simp only [cond_true,cond_false,dR,dV,decide_eq_true_eq,decide_eq_false_iff_not,beq_iff_eq,bne_iff_ne,beq_eq_false_iff_ne,bne_eq_false_iff_eq,ne_eq,dB,eu,dO,aS,dW]at *)<;>omega))⟩
 ·have hge : ¬i<s.size:=aaE
  obtain rfl:i=s.size:=aad
  rw [gG aad]at hp
  have hp2:oZ 0 (qV s)=true:=hp
  rw [hp2]
  exact nP.mk ⟨by show Value.bool _=_;simp;omega,rfl⟩
def resv:List ByteArray:= [⟨#[97,110,100]⟩,⟨#[97,114,109,115]⟩,⟨#[97,116,116,114,105,98,117,116,101]⟩,⟨#[98,111,111,108]⟩,⟨#[99,108,97,105,109,115]⟩,⟨#[99,111,110,116,97,105,110,115]⟩,⟨#[99,111,111,108]⟩,⟨#[99,111,111,108,105,110,103]⟩,⟨#[100,101,102,97,117,108,116]⟩,⟨#[100,114,97,102,116]⟩,⟨#[101,110,100,115]⟩,⟨#[101,120,99,108,117,100,101]⟩,⟨#[101,120,105,115,116,115]⟩,⟨#[101,120,112,101,114,105,109,101,110,116]⟩,⟨#[102,97,108,115,101]⟩,⟨#[102,108,97,103]⟩,⟨#[104,111,108,100,111,117,116]⟩,⟨#[105,110]⟩,⟨#[105,110,99,108,117,100,101]⟩,⟨#[105,115]⟩,⟨#[108,97,121,101,114]⟩,⟨#[108,105,115,116]⟩,⟨#[109,101,109,98,101,114]⟩,⟨#[110,101,101,100,115]⟩,⟨#[110,111,116]⟩,⟨#[110,117,109,98,101,114]⟩,⟨#[111,102,102]⟩,⟨#[111,110]⟩,⟨#[111,114]⟩,⟨#[114,117,108,101]⟩,⟨#[114,117,110,110,105,110,103]⟩,⟨#[115,97,108,116]⟩,⟨#[115,101,103,109,101,110,116]⟩,⟨#[115,101,114,118,101]⟩,⟨#[115,101,116,116,105,110,103,115]⟩,⟨#[115,112,108,105,116]⟩,⟨#[115,116,97,114,116,115]⟩,⟨#[115,116,111,112,112,101,100]⟩,⟨#[116,97,114,103,101,116]⟩,⟨#[116,101,120,116]⟩,⟨#[116,111]⟩,⟨#[116,114,117,101]⟩,⟨#[117,110,116,105,108]⟩,⟨#[118,97,114,105,97,116,105,111,110,115]⟩,⟨#[118,101,114,115,105,111,110]⟩,⟨#[119,104,101,110]⟩]
def wF (s:ByteArray):Bool:=decide (1<=s.size)&&decide (s.size<=32)&&oZ 0 (qV s)&& !(resv.any fun r=>qU r s)
theorem Gx (l:List ByteArray)(f:ByteArray->Bool)(i:Nat)(h:i<l.length):(l.drop i).any f=(f l[i]||(l.drop (i+1)).any f):=by
 rw [cZ h];rfl
def rJ (l:List ByteArray):List Value:=l.map .string
theorem Dn {l:List ByteArray}{j:Nat}(h:j<l.length):(rJ l)[j]? = some (.string l[j]):=by simp [rJ,h]
theorem Gy (w:World):uD Tryz.prog 149 #[] w fun v w'=>v = .slice (some ⟨w.heap.size,0,none⟩) 46 46∧At w' w.heap.size 0 (rJ resv)∧w.heap.size<w'.heap.size∧Below w.heap.size w w':=by
 refine kL func149 rfl mixed aac ?_
 refine nP.mk ⟨rfl, ?_,by simp,nR (Below.refl _ _) (ay _) _⟩
 exact(oH.new w _ _).at
theorem um:resv.length=46:=rfl
attribute [local irreducible] resv
theorem Tf (s:ByteArray)(w:World)(hs:s.size<=140737488355328) :
  uD Tryz.prog 68 #[.string s] w fun v w'=>v = .bool (wF s)∧Below w.heap.size w w':=by
 refine kL func68 rfl mixed aac ?_
 have hk:wF s=(decide (1<=s.size)&&decide (s.size<=32)&&oZ 0 (qV s)&& !(resv.any fun r=>qU r s)):=rfl
 obtain⟨kb,hkb⟩ : ∃b,b=wF s:=⟨_,rfl⟩
 rw [<-hkb]at hk ⊢
 refine lW aac (zC s w hs) ?_
 rintro _ w1 ⟨rfl,rfl⟩
 obtain⟨wb,hwb⟩ : ∃b,b=oZ 0 (qV s):=⟨_,rfl⟩
 rw [<-hwb]at hk ⊢
 refine jH (fun h1=> ?_) (fun h1=> ?_)
 ·have:kb=false:=by rw [hk];cases wb<;>simp_all
  subst this
  exact nP.mk ⟨rfl,Below.refl _ _⟩
 have h1:wb=true∧1<=s.size:=by cases wb<;>simp_all
 refine jH (fun h2=> ?_) (fun h2=> ?_)
 ·have h2 : ¬s.size<=32:=by have:(s.size:Int)>32:=of_decide_eq_true h2;omega
  have:kb=false:=by rw [hk];simp [h2]
  subst this
  exact nP.mk ⟨rfl,Below.refl _ _⟩
 have h2:s.size<=32:=by have : ¬(s.size:Int)>32:=of_decide_eq_false h2;omega
 have hk2:kb = !(resv.any fun r=>qU r s):=by rw [hk,h1.1];simp [h1.2,h2]
 refine lW aac (Gy w1) ?_
 rintro _ w2 ⟨rfl,hA,hlt2,hB⟩
 clear hk
 refine oG (X:=Nat) V5 (fun i=> [(4, .int .i64 i)]) (fun i w'=>i<=46∧w'=w2∧(resv.any fun r=>qU r s)=(resv.drop i).any fun r=>qU r s) (fun i=>46-i) 0 aac
  ?_ ⟨aK _,rfl,rfl⟩ ?_
 ·exact⟨rfl,trivial⟩
 rintro i w3 j ⟨hi,rfl,hp⟩
 refine jH (fun hlt=> ?_) (fun hge=> ?_)
 ·have hlt:i<46:=aaH
  have hil:i<resv.length:=by rw [um];exact hlt
  rw [Gx _ _ i hil]at hp
  have hg:=Dn hil
  conv=>whnf
  (repeat (first|(refine jS.mk aam ?_;conv=>whnf)|(refine kY.mk rfl ?_;conv=>whnf)|(refine kT.keep rfl ?_;conv=>whnf)|(refine zn _ rfl rfl rfl aal ?_;conv=>whnf)|(refine Nc _ rfl rfl rfl aal ?_;conv=>whnf)|(refine wO _ rfl rfl rfl aal ?_;conv=>whnf)|(refine Fp aaR aal rfl rfl ?_;conv=>whnf)|(refine CV aaR aal rfl rfl ?_;conv=>whnf)|(refine Fj aaR aal rfl ?_;conv=>whnf)|(refine jZ rfl aaR aal ?_;conv=>whnf)))
  apply jH<;>intro h
  ·have:kb=false:=by rw [hk2,hp,h];rfl
   subst this
   exact nP.mk ⟨rfl,hB⟩
  ·rw [h,iM]at hp
   refine nU.mk ⟨_, ?_,(i+1),rfl, ?_, ?_⟩
   ·show 46 -(i+1)<46-i;omega
   ·exact⟨mX (incr aad),trivial⟩
   ·exact⟨hlt,rfl,hp⟩
 ·have hge : ¬i<46:=aaE
  obtain rfl:i=46:=aad
  rw [gG (by rw [um];exact ay _)]at hp
  have:kb=true:=by rw [hk2,hp];rfl
  subst this
  exact nP.mk ⟨rfl,hB⟩
end
section
def BM (c:Nat):Int:=if(9<=c∧c<=13)∨c=32 then 1 else 0
def Asc (w:World):Prop:=0<w.heap.size∧∀c,c<256->w.cell? ⟨0,c,none⟩=some (.int .u8 (BM c))
theorem Asc.below {w w':World}(h:Asc w)(hB:Below w.heap.size w w'):Asc w':=⟨aN h.1 hB.size,fun c hc=>by rw [hB.cell (p:=⟨0,c,none⟩) h.1];exact h.2 c hc⟩
theorem Ti {P:Program}{w:World}{K:Value->World->Prop}{k:IntKind}{n:Int}(c:K (.int k (kJ .xor k (if k.signed then -1 else k.max) n)) w):kG P (Op.unary .xor (.int k n)) w K:=by
 refine lJ ?_ c
 simp [Op.unary,Op.intBits,kJ]
theorem Gz {P:Program}{w:World}{K:Value->World->Prop}{t:TypeId}{s:ByteArray}{kl:IntKind}{lo:Int}(a:Nat)(ha:lo=a)(hu:P.underlying t=some .string)(h:a<=s.size)
  (c:K (.string (s.extract a s.size)) w):kG P (Instr.sliceAt t (.string s) (some (.int kl lo)) none none) w K:=by
 refine lJ ?_ c
 subst ha
 unfold Instr.sliceAt
 rw [Sem.run_bind,jR hu]
 simp only [Result.andThen_ok]
 unfold Instr.slice
 rw [Sem.run_bind,jR hu]
 have h1:(0:Int)<=a∧(a:Int)<=s.size:=⟨by omega,by omega⟩
 simp [Instr.sliceBounds,Instr.sliceBound,asIntOf,h1,h]
theorem zD {P:Program}{w:World}{K:Value->World->Prop}{t e:TypeId}{n b:Nat}{k:IntKind}{ix:Int}(m:Nat)(hm:ix=m)(hu:P.underlying t=some (.array n e))(hs:szB P e=some 1)(h:m<n)
  (hk:K (.pointer (some ⟨b,m,none⟩)) w):kG P (Instr.indexAt t (.pointer (some ⟨b,0,none⟩)) (.int k ix)) w K:=
 wO m hu hs hm h (by rw [aJ];exact hk)
def c1 (l:List UInt8):Nat->Int×Int×Int
 | 0=>(0,1,0)
 | i+1=>(IntKind.i64.wrap ((c1 l i).1+kJ .and .i64 (c1 l i).2.1 (kJ .xor .i64 (-1) (IntKind.i64.wrap (BM (l.getD i 0).toNat)))),IntKind.i64.wrap (BM (l.getD i 0).toNat),kJ .or .u8 (c1 l i).2.2 ((l.getD i 0).toNat:Nat))
theorem Tj (l:List UInt8)(i:Nat):c1 l (i+1)=(IntKind.i64.wrap ((c1 l i).1+kJ .and .i64 (c1 l i).2.1 (kJ .xor .i64 (-1) (IntKind.i64.wrap (BM (l.getD i 0).toNat)))),IntKind.i64.wrap (BM (l.getD i 0).toNat),kJ .or .u8 (c1 l i).2.2 ((l.getD i 0).toNat:Nat)):=rfl
def wl (s:ByteArray):Nat->List ByteArray×Nat
 | 0=>([],0)
 | i+1=>if BM ((qV s).getD i 0).toNat=0 then wl s i else((wl s i).1++ [s.extract (wl s i).2 i],i+1)
theorem zF (s:ByteArray)(i:Nat):wl s (i+1)=if BM ((qV s).getD i 0).toNat=0 then wl s i else((wl s i).1++ [s.extract (wl s i).2 i],i+1):=rfl
theorem YK (s:ByteArray)(i:Nat):(wl s i).2<=i:=by
 induction i with
 | zero=>exact ay _
 | succ i ih=>rw [zF];split;exact Nat.le_succ_of_le ih;exact ay _
theorem Tm (s:ByteArray)(i:Nat) : ∀d,(wl s i).1.length<=(wl s (i+d)).1.length:=by
 intro d
 induction d with
 | zero=>exact ay _
 | succ d ih=>rw [<-dS,zF];split;exact ih;simp only [aG,aZ,dw];omega
structure YL (s:ByteArray):Prop where
 size:s.size<=1000000
 first:0<s.size->BM ((qV s).getD 0 0).toNat=0
 next : ∀i,i<s.size->BM ((qV s).getD i 0).toNat≠0->i+1<s.size∧BM ((qV s).getD (i+1) 0).toNat=0
 plain : ¬(c1 (qV s) s.size).2.2≥128
 count:(c1 (qV s) s.size).1=((wl s s.size).1.length+1:Nat)
 some:0<s.size
 ends:(wl s s.size).2<s.size
theorem WL (c:Nat):BM c=0∨BM c=1:=by unfold BM;split;exact .inr rfl;exact .inl rfl
attribute [local irreducible] c1 wl BM
theorem LM (s:ByteArray)(w:World)(hs:YL s)(hA:Asc w) :
  uD Tryz.prog 138 #[.string s] w fun v w'=> ∃b,v = .slice (some ⟨b,0,none⟩) ((wl s s.size).1.length+1) ((wl s s.size).1.length+1)∧At w' b 0 (rJ ((wl s s.size).1++ [s.extract (wl s s.size).2 s.size]))∧b<w'.heap.size∧Below w.heap.size w w':=by
 refine kL func138 rfl mixed aac ?_
 have hl:=DK s
 have hsz:=hs.size
 have hby : ∀i (h:i<s.size),(qV s).getD i 0=s[i]:=fun i h=>by
  rw [aV,aB (by rw [hl];exact h)];simp;rfl
 refine oG (X:=Nat) Rk (fun i=> [(6, .int .i64 i),(3, .int .i64 (c1 (qV s) i).1),(4, .int .i64 (c1 (qV s) i).2.1),(5, .int .u8 (c1 (qV s) i).2.2)]) (fun i w'=>i<=s.size∧w'=w) (fun i=>s.size-i) 0 aac
  ?_ ⟨aK _,rfl⟩ ?_
 ·exact⟨rfl,by unfold c1;rfl,by unfold c1;rfl,by unfold c1;rfl,trivial⟩
 rintro i w1 j ⟨hi,rfl⟩
 refine jH (fun hlt=> ?_) (fun hge=> ?_)
 ·have hlt:i<s.size:=aaH
  have hcb:s[i].toNat<256:=s[i].toNat_lt
  have hcell:=hA.2 s[i].toNat hcb
  have hsc:=Tj (qV s) i
  rw [hby i hlt]at hsc
  refine yc i rfl rfl hlt ?_
  refine zD s[i].toNat rfl rfl rfl hcb ?_
  refine lH rfl hcell ?_
  refine Ti ?_
  refine nU.mk ⟨_, ?_,(i+1),rfl, ?_, ?_⟩
  ·show s.size -(i+1)<s.size-i;omega
  ·exact⟨mX (incr aad),mX (by rw [hsc];rfl),mX (by rw [hsc]),mX (by rw [hsc]),trivial⟩
  ·exact⟨hlt,rfl⟩
 have hge : ¬i<s.size:=aaE
 obtain rfl:i=s.size:=aad
 have hpl:=hs.plain
 have hcn:=hs.count
 refine KE (by simpa using hpl) ?_
 rw [hcn]
 have hW:(wl s s.size).1.length<=s.size:=by
  have : ∀i,(wl s i).1.length<=i:=fun i=>by
   induction i with
   | zero=>unfold wl;exact ay _
   | succ i ih=>rw [zF];split;exact Nat.le_succ_of_le ih;simp only [aG,aZ,dw];omega
  exact this _
 obtain⟨N,hN⟩ : ∃N,N=(wl s s.size).1.length+1:=⟨_,rfl⟩
 rw [<-hN]
 refine QC (n:=N) (nV:=16) (sz:=1) (zs:= [.string ⟨#[]⟩]) rfl rfl rfl rfl rfl rfl rfl rfl aad aaQ ?_
 intro w2 hw2 hb2
 rw [QD]at hb2
 have hB2:Below w1.heap.size w1 w2:=by rw [hw2];exact nR (Below.refl _ _) (ay _) _
 clear hw2
 conv=>whnf
 have hAs : ∀w',Below w1.heap.size w1 w'->∀c,c<256->w'.cell? ⟨0,c,none⟩=some (.int .u8 (BM c)):=fun w' hB c hc=>(hA.below hB).2 c hc
 have ZM:=hs.some
 have h0:=hs.first ZM
 rw [hby 0 ZM]at h0
 refine oG (X:=Unit) Rl (fun _=> [(12, .int .i64 ((0:Nat):Int))]) (fun _ w'=>w'=w2) (fun _=>0) () aac ?_ rfl ?_
 ·exact⟨rfl,trivial⟩
 rintro _ w3 j3 rfl
 refine zN (by simpa using ZM) ?_
 refine yc 0 rfl rfl ZM ?_
 refine zD s[0].toNat rfl rfl rfl s[0].toNat_lt ?_
 refine lH rfl (hAs _ hB2 _ s[0].toNat_lt) ?_
 rw [h0]
 refine oG (X:=Nat×List Value) Rn (fun x=> [(12, .int .i64 x.1),(10, .int .i64 ((wl s x.1).1.length:Nat)),(11, .int .i64 ((wl s x.1).2:Nat))]) (fun x w'=>x.1<=s.size∧Below w1.heap.size w1 w'∧oH w' w1.heap.size x.2 9∧x.2.length=N∧∃t,x.2=rJ (wl s x.1).1++t) (fun x=>s.size-x.1) (0,List.replicate N (.string ⟨#[]⟩)) aac
  ?_ ⟨aK _,hB2,hb2,by simp,_,by unfold wl;rfl⟩ ?_
 ·exact⟨rfl,by unfold wl;rfl,by unfold wl;rfl,trivial⟩
 clear hb2 hB2
 rintro⟨i,cs⟩ w4 j4 ⟨hi,hB4,hb4,hcl,t,hct⟩
 simp only at hi hb4 hcl hct ⊢
 have hws:=zF s i
 have hle:=YK s i
 refine jH (fun hlt=> ?_) (fun hge=> ?_)
 ·have hlt:i<s.size:=aaH
  rw [hby i hlt]at hws
  have hcb:s[i].toNat<256:=s[i].toNat_lt
  refine yc i rfl rfl hlt ?_
  refine zD s[i].toNat rfl rfl rfl hcb ?_
  refine lH rfl (hAs _ hB4 _ hcb) ?_
  conv=>whnf
  rcases WL s[i].toNat with h1|h1
  ·rw [h1]
   rw [if_pos h1]at hws
   refine nU.mk ⟨_, ?_,(i+1,cs),rfl, ?_, ?_⟩
   ·show s.size -(i+1)<s.size-i;omega
   ·exact⟨mX (incr aad),by show _=Value.int .i64 ((wl s (i+1)).1.length:Nat);rw [hws];rfl,by show _=Value.int .i64 ((wl s (i+1)).2:Nat);rw [hws];rfl,trivial⟩
   ·exact⟨hlt,hB4,hb4,hcl,t,by rw [hws];exact hct⟩
  ·rw [h1]
   rw [if_neg (by rw [h1];decide)]at hws
   obtain⟨hn1,hn2⟩:=hs.next i hlt (by rw [hby i hlt,h1];decide)
   rw [hby (i+1) hn1]at hn2
   have hm:=Tm s (i+1) (s.size -(i+1))
   rw [show i+1+(s.size -(i+1))=s.size by omega,hws]at hm
   simp only [aG,aZ,dw]at hm
   obtain⟨m,hmm⟩ : ∃m,m=(wl s i).1.length:=⟨_,rfl⟩
   rw [<-hmm]at hm ⊢
   have hmN:m<N:=aad
   refine KP (wl s i).2 i rfl rfl rfl hle aad ?_
   refine zn m rfl rfl rfl hmN ?_
   refine x9 hb4 rfl rfl (by rw [hcl];omega) ?_
   intro w5 WM hb5
   rw [aJ]at hb5
   have U4:=hB4.trans (WM.below (ay _))
   have hset : ∃t',cs.set m (.string (s.extract (wl s i).2 i))=rJ (wl s (i+1)).1++t':=by
    rw [hct,hws]
    have hml:(rJ (wl s i).1).length=m:=by rw [hmm];simp [rJ]
    rw [iK _ _ aad,hml,gY]
    cases t with
    | nil=>rw [hct,fM,hml]at hcl;omega
    | cons v t=>exact⟨t,by simp [rJ]⟩
   clear hb4 WM
   conv=>whnf
   have e1:IntKind.i64.wrap ((i:Int)+1)=((i+1:Nat):Int):=incr aad
   have e2:IntKind.i64.wrap ((m:Int)+1)=((m+1:Nat):Int):=incr aad
   refine oG (X:=Unit) Ro (fun _=> [(12, .int .i64 ((i+1:Nat):Int))]) (fun _ w'=>w'=w5) (fun _=>0) () aac ?_ rfl ?_
   ·exact⟨mX e1,trivial⟩
   rintro _ w6 j6 rfl
   refine zN (by simp only [decide_eq_true_eq];omega) ?_
   refine yc (i+1) rfl rfl hn1 ?_
   refine zD s[i+1].toNat rfl rfl rfl s[i+1].toNat_lt ?_
   refine lH rfl (hAs _ U4 _ s[i+1].toNat_lt) ?_
   rw [hn2]
   conv=>whnf
   obtain⟨t',ht'⟩:=hset
   refine nU.mk ⟨_, ?_,(i+1,cs.set m (.string (s.extract (wl s i).2 i))),rfl, ?_, ?_⟩
   ·show s.size -(i+1)<s.size-i;omega
   ·refine⟨rfl, ?_, ?_,trivial⟩
    ·show Value.int .i64 (IntKind.i64.wrap ((m:Int)+1))=Value.int .i64 ((wl s (i+1)).1.length:Nat)
     rw [e2,hws,aG, <-hmm];rfl
    ·show _=Value.int .i64 ((wl s (i+1)).2:Nat)
     rw [hws];rfl
   ·exact⟨hlt,U4,hb5,by show (cs.set m _).length=N;rw [bC];exact hcl,t',ht'⟩
 have hge : ¬i<s.size:=aaE
 obtain rfl:i=s.size:=aad
 have hend:=hs.ends
 obtain⟨m,hmm⟩ : ∃m,m=(wl s s.size).1.length:=⟨_,rfl⟩
 rw [<-hmm]
 have hmN:m<N:=aad
 refine zN (by simp only [decide_eq_true_eq];omega) ?_
 refine Gz (wl s s.size).2 rfl rfl hle ?_
 refine zn m rfl rfl rfl hmN ?_
 refine x9 hb4 rfl rfl (by rw [hcl];omega) ?_
 intro w5 WM hb5
 rw [aJ]at hb5
 have hfin:cs.set m (.string (s.extract (wl s s.size).2 s.size))=rJ ((wl s s.size).1++ [s.extract (wl s s.size).2 s.size]):=by
  have hml:(rJ (wl s s.size).1).length=m:=by rw [hmm];simp [rJ]
  rw [hct]at hcl ⊢
  rw [iK _ _ aad,hml,gY]
  rw [aG,hml]at hcl
  match t,hcl with
  | [v],_=>simp [rJ]
  | [],h=>simp at h;omega
  | _::_::_,h=>simp at h;omega
 rw [hfin]at hb5
 exact nP.mk ⟨w1.heap.size,by rw [hN];rfl,hb5.at,hb5.lt,hB4.trans (WM.below (ay _))⟩
end
section
def okW (s:ByteArray):Bool:=
 decide (s.size<=1000000)&&decide (0<s.size)&&decide (BM ((qV s).getD 0 0).toNat=0)&&
 ((List.range s.size).all fun i=>decide (BM ((qV s).getD i 0).toNat=0)||(decide (i+1<s.size)&&decide (BM ((qV s).getD (i+1) 0).toNat=0)))&&
 decide (¬(c1 (qV s) s.size).2.2≥128)&&decide ((c1 (qV s) s.size).1=((wl s s.size).1.length+1:Nat))&&decide ((wl s s.size).2<s.size)&&
 (((wl s s.size).1++ [s.extract (wl s s.size).2 s.size]).map qV==resv.map qV)
theorem Tn {a b:ByteArray}(h:qV a=qV b):a=b:=by
 obtain⟨⟨x⟩⟩:=a
 obtain⟨⟨y⟩⟩:=b
 have:x=y:=h
 rw [this]
theorem GH : ∀(l m:List ByteArray),l.map qV=m.map qV->l=m:=by
 intro l
 induction l with
 | nil=>intro m h;cases m with
  | nil=>rfl
  | cons _ _=>simp at h
 | cons a l ih=>intro m h;cases m with
  | nil=>simp at h
  | cons b m=>
   rw [fJ,fJ]at h
   injection h with h1 h2
   rw [Tn h1,ih m h2]
theorem OL {s:ByteArray}(h:okW s=true):YL s∧(wl s s.size).1++ [s.extract (wl s s.size).2 s.size]=resv:=by
 unfold okW at h
 simp only [ah,decide_eq_true_eq]at h
 obtain⟨⟨⟨⟨⟨⟨⟨h1,h2⟩,h3⟩,h4⟩,h5⟩,h6⟩,h7⟩,h8⟩:=h
 refine⟨⟨h1,fun _=>h3,fun i hi hne=> ?_,h5,h6,h2,h7⟩,GH _ _ (by simpa using h8)⟩
 have:=bf.1 h4 i (by simpa using hi)
 simp only [iQ,ah,decide_eq_true_eq]at this
 rcases this with h|h
 ·exact absurd h hne
 ·exact h
theorem GK (s:ByteArray)(w:World)(hs:okW s=true)(hA:Asc w) :
  uD Tryz.prog 138 #[.string s] w fun v w'=> ∃b,v = .slice (some ⟨b,0,none⟩) 46 46∧At w' b 0 (rJ resv)∧b<w'.heap.size∧Below w.heap.size w w':=by
 obtain⟨hn,hr⟩:=OL hs
 refine(LM s w hn hA).mono ?_
 rintro _ w' ⟨b,rfl,hat,hb⟩
 have hl:(wl s s.size).1.length+1=46:=by
  have:=congrArg List.length hr
  rw [um]at this
  simpa using this
 rw [hr]at hat
 exact⟨b,by rw [hl],hat,hb⟩
attribute [local irreducible] resv okW
theorem Tq (s:ByteArray)(w:World)(hA:Asc w)(hs:s.size<=140737488355328) :
  uD Tryz.prog 58 #[.string s] w fun v w'=>v = .bool (wF s)∧Below w.heap.size w w':=by
 refine kL func58 rfl mixed aac ?_
 have hk:wF s=(decide (1<=s.size)&&decide (s.size<=32)&&oZ 0 (qV s)&& !(resv.any fun r=>qU r s)):=rfl
 obtain⟨kb,hkb⟩ : ∃b,b=wF s:=⟨_,rfl⟩
 rw [<-hkb]at hk ⊢
 have hl:=DK s
 refine jH (fun h1=> ?_) (fun h1=> ?_)
 ·have h1 : ¬1<=s.size:=by have:(s.size:Int)<1:=of_decide_eq_true h1;omega
  have:kb=false:=by rw [hk];simp [h1]
  subst this
  exact nP.mk ⟨rfl,Below.refl _ _⟩
 have h1:1<=s.size:=by have : ¬(s.size:Int)<1:=of_decide_eq_false h1;omega
 refine jH (fun h2=> ?_) (fun h2=> ?_)
 ·have h2 : ¬s.size<=32:=by have:(s.size:Int)>32:=of_decide_eq_true h2;omega
  have:kb=false:=by rw [hk];simp [h2]
  subst this
  exact nP.mk ⟨rfl,Below.refl _ _⟩
 have h2:s.size<=32:=by have : ¬(s.size:Int)>32:=of_decide_eq_false h2;omega
 have hk2:kb=(oZ 0 (qV s)&& !(resv.any fun r=>qU r s)):=by rw [hk];simp [h1,h2]
 clear hk
 refine KQ rfl ?_
 intro w1 hB1 hI1
 refine oG (X:=Nat) VY (fun _=> []) (fun i w'=>i<=s.size∧Below w.heap.size w w'∧Ql w' w.heap.size s i∧oZ 0 (qV s)=oZ i ((qV s).drop i)) (fun i=>s.size-i) 0 aac
  ?_ ⟨aK _,hB1,hI1,rfl⟩ ?_
 ·exact trivial
 rintro i w2 j ⟨hi,hB2,hI2,hp⟩
 clear hI1 hB1
 conv=>whnf
 by_cases hlt:i<s.size
 ·have hst:=Bd (qV s) i aad
  have hc:(qV s)[i]'aad=s[i]:=by simp;rfl
  rw [hc]at hst
  have hcb:s[i].toNat<256:=s[i].toNat_lt
  rw [hst]at hp
  refine QF hI2 hlt (fun hpl w3 hO3 hI3=> ?_) (fun hnp w3 c q hO3 _ hc2=> ?_)
  ·obtain⟨c,hcc⟩ : ∃c,c=s[i].toNat:=⟨_,rfl⟩
   have hno:=EH i c
   have hyes:=EG i c
   rw [<-hcc]at hp hpl ⊢
   have hB3:=hB2.trans (hO3.below (ay _))
   have e0:okB i c=false->kb=false:=fun h=>by rw [hk2,hp,h];rfl
   have e1:okB i c=true->oZ 0 (qV s)=oZ (i+1) ((qV s).drop (i+1)):=fun h=>by rw [hp,h];rfl
   clear hst hc hcb hI2 hO3 hp
   conv=>whnf
   (repeat' (apply jH<;>intro h;all_goals (conv=>whnf)))
   all_goals first
    | exact nP.mk ⟨congrArg Value.bool (e0 (hno.2 (by(try simp only [cond_true,cond_false,dR,dV,decide_eq_true_eq,decide_eq_false_iff_not,beq_iff_eq,bne_iff_ne,beq_eq_false_iff_ne,bne_eq_false_iff_eq,ne_eq,dB,eu,dO,aS,dW]at *)<;>omega))).symm,hB3⟩
    | exact nU.mk ⟨_,(show s.size -(i+1)<s.size-i by omega),i+1,rfl,trivial,hlt,hB3,hI3,e1 (hyes.2 (by(try simp only [cond_true,cond_false,dR,dV,decide_eq_true_eq,decide_eq_false_iff_not,beq_iff_eq,bne_iff_ne,beq_eq_false_iff_ne,bne_eq_false_iff_eq,ne_eq,dB,eu,dO,aS,dW]at *)<;>omega))⟩
  ·have hB3:=hB2.trans (hO3.below (ay _))
   have e0:kb=false:=by
    have:okB i s[i].toNat=false:=(EH i _).2 aad
    rw [hk2,hp,this];rfl
   clear hst hc hcb hI2 hO3 hp
   subst e0
   conv=>whnf
   (repeat' (apply jH<;>intro h;all_goals (conv=>whnf)))
   all_goals first
    | exact nP.mk ⟨rfl,hB3⟩
    | (exfalso;clear hk2;exact(by(try simp only [cond_true,cond_false,dR,dV,decide_eq_true_eq,decide_eq_false_iff_not,beq_iff_eq,bne_iff_ne,beq_eq_false_iff_ne,bne_eq_false_iff_eq,ne_eq,dB,eu,dO,aS,dW]at *)<;>omega))
 ·obtain rfl:i=s.size:=aad
  rw [gG aad]at hp
  have hp2:oZ 0 (qV s)=true:=hp
  have hk3:kb = !(resv.any fun r=>qU r s):=by rw [hk2,hp2];rfl
  refine Iq hI2 (ay _) ?_
  refine lW aac (GK _ w2 aac (hA.below hB2)) ?_
  rintro _ w3 ⟨b,rfl,hA3,hb3,hB3⟩
  have LP:=hB2.trans (hB3.mono hB2.size)
  clear hB3 hI2 hk2
  refine oG (X:=Nat) VZ (fun i=> [(52, .int .i64 i)]) (fun i w'=>i<=46∧w'=w3∧(resv.any fun r=>qU r s)=(resv.drop i).any fun r=>qU r s) (fun i=>46-i) 0 aac
   ?_ ⟨aK _,rfl,rfl⟩ ?_
  ·exact⟨rfl,trivial⟩
  rintro i w4 j ⟨hi,rfl,hp⟩
  refine jH (fun hlt=> ?_) (fun hge=> ?_)
  ·have hlt:i<46:=aaH
   have hil:i<resv.length:=by rw [um];exact hlt
   rw [Gx _ _ i hil]at hp
   have hg:=Dn hil
   conv=>whnf
   (repeat (first|(refine jS.mk aam ?_;conv=>whnf)|(refine kY.mk rfl ?_;conv=>whnf)|(refine kT.keep rfl ?_;conv=>whnf)|(refine zn _ rfl rfl rfl aal ?_;conv=>whnf)|(refine Nc _ rfl rfl rfl aal ?_;conv=>whnf)|(refine wO _ rfl rfl rfl aal ?_;conv=>whnf)|(refine Fp aaR aal rfl rfl ?_;conv=>whnf)|(refine CV aaR aal rfl rfl ?_;conv=>whnf)|(refine Fj aaR aal rfl ?_;conv=>whnf)|(refine jZ rfl aaR aal ?_;conv=>whnf)))
   apply jH<;>intro h
   ·have:kb=false:=by rw [hk3,hp,h];rfl
    subst this
    exact nP.mk ⟨rfl,LP⟩
   ·rw [h,iM]at hp
    refine nU.mk ⟨_, ?_,(i+1),rfl, ?_, ?_⟩
    ·show 46 -(i+1)<46-i;omega
    ·exact⟨mX (incr aad),trivial⟩
    ·exact⟨hlt,rfl,hp⟩
  ·have hge : ¬i<46:=aaE
   obtain rfl:i=46:=aad
   rw [gG (by rw [um];exact ay _)]at hp
   have:kb=true:=by rw [hk3,hp];rfl
   subst this
   exact nP.mk ⟨rfl,LP⟩
end
end Go.Proofs.YtnandbihiceihaaGreatDoor.Ky
namespace Go.Proofs.YtnandbihiceihaaGreatDoor.Cl
open RowKit Vc Ax Ky Go.Proofs.YtnandbihiceihaaGreatDoor.Id Go.Proofs.Tryz
def ZN:List Value:=(List.range 256).map fun c=> .int .u8 (BM c)
def GS:Glob:=⟨0+1,fun g=>if g=0 then some ZN else none,fun _=>none⟩
theorem WO {w:World}(h:GS.holds w):Asc w:=by
 refine⟨aN (gu _) h.1,fun c hc=> ?_⟩
 have:=(h.2.1 0 ZN (by simp [GS])).2 c (.int .u8 (BM c)) (by unfold ZN;rw [aI,gq hc];rfl)
 exact this
theorem GL (s:ByteArray)(h:s.size<=140737488355328):kQ Tryz.prog GS 58 [.v (.string s)] 0 [] (Is (.v (.bool (wF s)))):=AU (l:= [.string s]) fun w hG=>Tq s w (WO hG) h
theorem YM (s:ByteArray)(h:s.size<=140737488355328):kQ Tryz.prog GS 68 [.v (.string s)] 0 [] (Is (.v (.bool (wF s)))):=AU (l:= [.string s]) fun w hG=>Tf s w h
theorem Dp {s:ByteArray}(h:wF s=true):s.size<=32:=by
 unfold wF at h
 simp only [ah,decide_eq_true_eq]at h
 omega
section
variable {P:Program}{H:Type}{enc:TypeId×Value->H}{w:World}
theorem zY {n:Int}(h:(Lit.int .i64 n).wf=true):I64 n:=by
 have : -9223372036854775808<=n∧n<=9223372036854775807:=by simpa [Lit.wf,IntKind.min,IntKind.max,IntKind.signed,IntKind.bits]using h
 exact this
theorem EI {n:Int}(h:(Lit.int .i16 n).wf=true) : -32768<=n∧n<=32767:=by
 simpa [Lit.wf,IntKind.min,IntKind.max,IntKind.signed,IntKind.bits]using h
end
theorem aaw:Tryz.prog.globalNamed "strings.asciiSpace" = some 0:=aac
theorem aax:(Tryz.prog.globals[0]?).map (·.type)=some 289:=aac
theorem aay:(Rows.laid_strings_asciiSpace:DataW Unit) = .agg ((List.range 256).map fun c=> .lit (.int .u8 (BM c))):=aac
theorem GN {P:Program}{w:World}{n:String}{d:DataW Unit} : ∀ {l:List (String×DataW Unit)} {ps:List MemPlace},DataW.LaidVars P w l ps->(n,d)∈l->∃g t cs fuel p,P.globalNamed n=some g∧(P.globals[g]?).map (·.type)=some t∧w.var? P n=some cs∧DataW.trod (fun _=>()) P w 0 (fun _=>true) false fuel t cs.toList=some (d,p)
 | [],_,_,h=>by cases h
 | x::r,ps,h0,h=>by
  obtain⟨g,t,cs,fuel,p,q,h1,h2,h3,h4,h5,_⟩:=h0
  rcases bG.1 h with h|h
  ·subst h
   exact⟨g,t,cs,fuel,p,h1,h2,h3,h4⟩
  ·exact GN h5 h
theorem YN {W:World}{l:List (String×DataW Unit)}(h:laidMetH Tryz.prog l W)(hp:(l.all fun x=>x.2.handleName?.isNone)=true:=by kernel_rfl)(hm:l.getLast? = some ("strings.asciiSpace",Rows.laid_strings_asciiSpace):=by rfl):GS.holds W:=by
 rw [MakeChecks.laidMetH_plain _ _ _ hp]at h
 obtain⟨ps,h,_,_⟩:=h
 obtain⟨g0,t0,cs0,f0,p0,hg0,ht0,hv0,hd0⟩:=GN h (List.mem_of_getLast? hm)
 obtain rfl:=iR (aaw.symm.trans hg0)
 obtain rfl:=iR (aax.symm.trans ht0)
 rw [aay]at hd0
 obtain⟨xs,m,rfl,hd,hcl,hxl,hel⟩:=DataW.trod_array (e:=5) (n:=256) rfl hd0
 injection hd with hd _
 injection hd with hd
 have key : ∀i,i<256->W.cell? ⟨0,i,none⟩=some (.int .u8 (BM i)):=fun i hi=>by
  have h1:=hel i hi
  have hx:xs[i]? = some xs[i]:=aB aad
  rw [hx]at h1
  obtain⟨k,e,f,_⟩:=DataW.trod_int (t:=5) (k:= .u8) rfl h1
  have hf:(xs.map (·.1))[i]? = some (.lit (.int .u8 k)):=by rw [aI,hx,f];rfl
  rw [<-hd,aI,gq hi]at hf
  simp only [bn,aA,DataW.lit.injEq,Lit.int.injEq,true_and]at hf
  rw [World.var?_cell hg0 hv0 i, <-aT]
  have e1:Tryz.prog.cellsOf 5=1:=aac
  rw [e1,dG]at e
  have:(cs0.toList.drop i)[0]? = some (.int .u8 k):=by
   cases hdr:cs0.toList.drop i with
   | nil=>rw [hdr]at e;cases e
   | cons a r=>rw [hdr]at e;injection e with e;rw [e];rfl
  rw [bT,bU]at this
  rw [this,hf]
 have hsz:0<W.heap.size:=World.block_lt_of_cell? W _ (key 0 aah)
 refine⟨hsz,fun g cs hg=> ?_,fun _ _ h=>by cases h⟩
 simp only [GS]at hg
 split at hg
 ·rename_i e
  injection hg with hg
  subst e;subst hg
  refine⟨gu _,fun j v hj=> ?_⟩
  unfold ZN at hj
  rw [aI]at hj
  rcases gB j 256 with h1|h1
  ·rw [gq h1]at hj
   simp only [bn,aA]at hj
   rw [key j h1,hj]
  ·rw [fA abg]at hj
   cases hj
 ·cases hg
def zu (n:Int):Nat:=if n<0 then(-2*n-1).toNat else(2*n).toNat
def zz (u:Nat):Int:=if u%2=1 then -((u/2:Nat):Int)-1 else((u/2:Nat):Int)
theorem YO (n:Int):zz (zu n)=n:=by
 unfold zz zu
 by_cases h:n<0
 ·rw [if_pos h];split<;>omega
 ·rw [if_neg h];split<;>omega
theorem YP (u:Nat):zu (zz u)=u:=by
 unfold zz zu
 split<;>split<;>omega
theorem OM {n:Int}(h:I64 n):zu n<18446744073709551616:=by
 unfold zu I64 at *
 split<;>omega
theorem WQ {u:Nat}(h:u<18446744073709551616):I64 (zz u):=by
 unfold zz I64
 split<;>omega
def grp:Nat->Nat->By
 | 0,u=> [UInt8.ofNat u]
 | f+1,u=>if u<128 then [UInt8.ofNat u]else UInt8.ofNat (128+u%128)::grp f (u/128)
def num (n:Int):By:=grp 9 (zu n)
inductive RN where
 | bad (e:Int)
 | ok (n:Int) (k:Nat)
def GR:By->Nat->Nat->RN
 | [],_,_=> .bad 16
 | c::r,i,u=>if i=9∧1<c.toNat then .bad 3 else if 128<=c.toNat then GR r (i+1) (u+c.toNat%128*128^i)else if c.toNat=0∧0<i then .bad 1 else .ok (zz (u+c.toNat%128*128^i)) (i+1)
theorem WR (f u:Nat):grp f u≠ []:=by
 cases f with
 | zero=>simp [grp]
 | succ f=>unfold grp;split<;>simp
theorem Tt (f u:Nat):0<(grp f u).length:=by
 have:=WR f u
 cases h:grp f u with
 | nil=>exact absurd h this
 | cons a r=>simp
theorem Tv (f u:Nat):(grp f u).length<=f+1:=by
 induction f generalizing u with
 | zero=>simp [grp]
 | succ f ih=>
  unfold grp
  split
  ·simp
  ·have:=ih (u/128);simp;omega
theorem wG (i:Nat):128^(i+1)=128*128^i:=by rw [iY,fQ]
theorem WT (r:By) : ∀(f u i acc:Nat),i+f=9->u<2*128^f->(i=0∨u≠0)->GR (grp f u++r) i acc = .ok (zz (acc+u*128^i)) (i+(grp f u).length):=by
 intro f
 induction f with
 | zero=>
  intro u i acc hi hu h0
  have hu2:u<2:=by simpa using hu
  simp only [grp,fE,dD,GR]
  rw [toNat_ofNat aad]
  rw [if_neg aad,if_neg aad,if_neg aad,bW (by omega:u<128)]
  simp
 | succ f ih=>
  intro u i acc hi hu h0
  unfold grp
  by_cases h:u<128
  ·rw [if_pos h]
   simp only [fE,dD,GR]
   rw [toNat_ofNat aad]
   rw [if_neg aad,if_neg aad,if_neg aad,bW h]
   simp
  ·rw [if_neg h]
   have hm:u%128<128:=Nat.mod_lt _ aah
   simp only [fE,GR]
   rw [toNat_ofNat aad]
   rw [if_neg aad,if_pos aad]
   rw [wG]at hu
   rw [ih (u/128) (i+1) _ aad aad aad]
   have e1:(128+u%128)%128=u%128:=aad
   have e2:u%128*128^i+u/128*128^(i+1)=u*128^i:=by
    rw [wG, <-Nat.mul_assoc, <-aX]
    have:u%128+u/128*128=u:=aad
    rw [this]
   rw [e1,dS,e2]
   simp only [aZ]
   congr 1
   omega
theorem WU (n:Int)(hn:I64 n)(r:By):GR (num n++r) 0 0 = .ok n (num n).length:=by
 unfold num
 rw [WT r 9 (zu n) 0 0 rfl (by have:=OM hn;omega) (.inl rfl)]
 simp [YO]
theorem Tz : ∀(b:By) (i acc:Nat) (n:Int) (k:Nat),i<=9->GR b i acc = .ok n k->∃u,u<2*128^(9-i)∧b.take (k-i)=grp (9-i) u∧n=zz (acc+u*128^i)∧i<k∧k-i<=b.length∧(i=0∨u≠0):=by
 intro b
 induction b with
 | nil=>intro i acc n k _ h;cases h
 | cons c r ih=>
  intro i acc n k hi h
  simp only [GR]at h
  have hc:c.toNat<256:=c.toNat_lt
  have ec:UInt8.ofNat c.toNat=c:=aaA
  split at h
  ·cases h
  rename_i h9
  split at h
  ·rename_i h128
   have hi9:i≠9:=fun e=>h9 ⟨e,by omega⟩
   obtain⟨u,h1,h2,h3,h4,h5,h6⟩:=ih (i+1) _ n k aad h
   obtain⟨f,hf⟩ : ∃f,9-i=f+1:=⟨8-i,by omega⟩
   have hf':9 -(i+1)=f:=aad
   rw [hf']at h1 h2
   have hu:u≠0:=h6.resolve_left aad
   refine⟨c.toNat-128+128*u, ?_, ?_, ?_,by omega,by simp only [aZ];omega, .inr aad⟩
   ·rw [hf,wG];omega
   ·rw [hf]
    have ek:k-i=(k -(i+1))+1:=aad
    rw [ek,List.take_succ_cons,h2]
    unfold grp
    rw [if_neg aad]
    have e1:128+(c.toNat-128+128*u)%128=c.toNat:=aad
    have e2:(c.toNat-128+128*u)/128=u:=aad
    rw [e1,e2,ec]
    cases f<;>rfl
   ·rw [h3]
    have e1:c.toNat%128=c.toNat-128:=aad
    rw [e1,wG,aX,dS]
    congr 2
    rw [<-Nat.mul_assoc,fQ u 128]
  ·rename_i h128
   split at h
   ·cases h
   ·rename_i h0
    injection h with e1 e2
    subst e2
    have hc1:c.toNat<128:=aad
    refine⟨c.toNat, ?_, ?_, ?_,by omega,by simp,by omega⟩
    ·rcases gB i 9 with hl|hl
     ·obtain⟨f,hf⟩ : ∃f,9-i=f+1:=⟨8-i,by omega⟩
      rw [hf,wG]
      have:0<128^f:=Nat.pow_pos aah
      omega
     ·have:i=9:=aad
      subst this
      have : ¬1<c.toNat:=fun h=>h9 ⟨rfl,h⟩
      simp;omega
    ·have e3:i+1-i=1:=aad
     rw [e3]
     simp only [List.take_succ_cons,jB]
     cases hf:9-i with
     | zero=>simp [grp]
     | succ f=>unfold grp;rw [if_pos hc1,ec]
    ·rw [<-e1,bW hc1]
theorem LQ {b:By}{n:Int}{k:Nat}(h:GR b 0 0 = .ok n k):b=num n++b.drop k∧k=(num n).length∧I64 n∧0<k∧k<=b.length:=by
 obtain⟨u,h1,h2,h3,h4,h5,_⟩:=Tz b 0 0 n k aad h
 have e:n=zz u:=by simpa using h3
 have hg:num n=grp 9 u:=by unfold num;rw [e,YP]
 simp only [iW]at h2 h5
 refine⟨by rw [hg, <-h2,fC], ?_, ?_,h4,h5⟩
 ·rw [hg, <-h2,aU];omega
 ·rw [e];exact WQ (by simp only [iW]at h1;omega)
theorem zG (n:Int):0<(num n).length∧(num n).length<=10:=⟨Tt _ _,Tv _ _⟩
def qA (b:By)(e:Int):Int×Nat×Int:=
 if e=0 then(match GR b 0 0 with
  | .bad e'=>(0,0,e')
  | .ok n k=>(n,k,0))else(0,0,e)
theorem TA : ∀ {b:By} {i u:Nat} {e:Int},GR b i u = .bad e->e=16∨e=3∨e=1:=by
 intro b
 induction b with
 | nil=>intro i u e h;injection h with h;exact .inl h.symm
 | cons c r ih=>
  intro i u e h
  simp only [GR]at h
  split at h
  ·injection h with h;exact .inr (.inl h.symm)
  ·split at h
   ·exact ih h
   ·split at h
    ·injection h with h;exact .inr (.inr h.symm)
    ·cases h
theorem EJ {n:Int}(hn:I64 n)(r:By):qA (num n++r) 0=(n,(num n).length,0):=by
 unfold qA
 rw [if_pos rfl,WU n hn r]
theorem WV (b:By)(e:Int):I64 (qA b e).1∧(qA b e).2.1<=b.length∧((qA b e).2.2=0->e=0∧b=num (qA b e).1++b.drop (qA b e).2.1∧(qA b e).2.1=(num (qA b e).1).length)∧((qA b e).2.2≠0->(qA b e).1=0∧(qA b e).2.1=0):=by
 have z:I64 0:=by unfold I64;omega
 unfold qA
 by_cases h:e=0
 ·rw [if_pos h]
  cases hr:GR b 0 0 with
  | bad e'=>exact⟨z,aK _,fun h=>by have:=TA hr;simp only at h;omega,fun _=>⟨rfl,rfl⟩⟩
  | ok n k=>
   have:=LQ hr
   exact⟨this.2.2.1,this.2.2.2.2,fun _=>⟨h,this.1,this.2.1⟩,fun h=>absurd rfl h⟩
 ·rw [if_neg h]
  exact⟨z,aK _,fun h'=>absurd h' h,fun _=>⟨rfl,rfl⟩⟩
def zH (b:By)(e most em:Int):Int×Nat×Int:=
 let t:=qA b e
 let e1:=if t.2.2=0 then(if t.1<0 then 3 else if most<t.1 then em else 0)else t.2.2
 (if e1=0 then t.1 else 0,t.2.1,e1)
theorem OO {n:Nat}(h:n<18446744073709551616):IntKind.u64.wrap (n:Int)=n:=by
 have e:IntKind.u64.bits=64:=rfl
 have s:IntKind.u64.signed=false:=rfl
 simp only [IntKind.wrap,e,s,dJ,aS,if_false]
 omega
theorem JU {n:Nat}(h:n<256):IntKind.u8.wrap (n:Int)=n:=by
 have e:IntKind.u8.bits=8:=rfl
 have s:IntKind.u8.signed=false:=rfl
 simp only [IntKind.wrap,e,s,dJ,aS,if_false]
 omega
theorem yH (k n:Nat):BitVec.ofInt k (n:Int)=BitVec.ofNat k n:=by
 apply jy
 simp
theorem OQ (a b:Nat)(ha:a<18446744073709551616)(hb:b<18446744073709551616):kJ .and .u64 a b=((a &&& b:Nat):Int):=by
 have e:IntKind.u64.bits=64:=rfl
 have h:=Nat.and_lt_two_pow (n:=64) a hb
 simp only [kJ,e,yH,BitVec.toNat_and,iC]
 rw [bW ha,bW hb,OO h]
theorem Bf (a b:Nat)(ha:a<18446744073709551616)(hb:b<18446744073709551616):kJ .xor .u64 a b=((a ^^^ b:Nat):Int):=by
 have e:IntKind.u64.bits=64:=rfl
 have h:=Nat.xor_lt_two_pow (n:=64) ha hb
 simp only [kJ,e,yH,BitVec.toNat_xor,iC]
 rw [bW ha,bW hb,OO h]
theorem OT (a b:Nat)(ha:a<256)(hb:b<256):kJ .or .u8 a b=((a ||| b:Nat):Int):=by
 have e:IntKind.u8.bits=8:=rfl
 have h:=Nat.or_lt_two_pow (n:=8) ha hb
 simp only [kJ,e,yH,BitVec.toNat_or,iC]
 rw [bW ha,bW hb,JU h]
theorem WW (a:Nat):a &&& 127=a%128:=Nat.and_two_pow_sub_one_eq_mod a 7
theorem Je {a:Nat}(k c:Nat)(ha:a<2^k):a ||| c*2^k=a+c*2^k:=by
 rw [Nat.or_comm,fQ, <-Nat.two_pow_add_eq_or_of_lt ha,Nat.add_comm]
theorem U6 {a:Nat}(h:a<256):a ||| 128=128+a%128:=by
 have e:a ||| 128=(a%128) ||| 1*2^7 ||| (a/128)*2^7:=by
  have h1:a=a%128 ||| (a/128)*2^7:=by rw [Je 7 _ aad];omega
  have h2:a ||| 128=(a%128 ||| (a/128)*2^7) ||| 128:=by rw [<-h1]
  rw [h2,jF,jF,Nat.or_comm (a/128*2^7)]
 rw [e,Je 7 1 aad]
 have:a/128=0∨a/128=1:=aad
 rcases this with h0|h0
 ·rw [h0];simp;omega
 ·rw [h0]
  have e2:a%128+1*2^7=a%128 ||| 1*2^7:=(Je 7 1 aad).symm
  rw [e2,jF,Nat.or_self, <-e2];omega
theorem GU {a:Nat}(h:a<18446744073709551616):a ^^^ 18446744073709551615=18446744073709551615-a:=by
 have h1:(BitVec.ofNat 64 a ^^^ BitVec.allOnes 64).toNat=(~~~ (BitVec.ofNat 64 a)).toNat:=by rw [BitVec.xor_allOnes]
 simp only [BitVec.toNat_xor,BitVec.toNat_not,iC,BitVec.toNat_allOnes]at h1
 have e:(2:Nat)^64=18446744073709551616:=aah
 rw [e,bW h]at h1
 omega
theorem TB (n:Int)(h:I64 n):kJ .xor .u64 (IntKind.u64.wrap (IntKind.u64.wrap n*2)) (IntKind.u64.wrap (n.fdiv 9223372036854775808))=(zu n:Int):=by
 have e:IntKind.u64.bits=64:=rfl
 have s:IntKind.u64.signed=false:=rfl
 unfold I64 at h
 unfold zu
 by_cases hn:n<0
 ·rw [if_pos hn]
  have e1:IntKind.u64.wrap (IntKind.u64.wrap n*2)=((18446744073709551616 -(-2*n).toNat:Nat):Int):=by
   simp only [IntKind.wrap,e,s,dJ,aS,if_false];omega
  have e2:n.fdiv 9223372036854775808 = -1:=by rw [Int.fdiv_eq_ediv];simp;omega
  have e3:IntKind.u64.wrap (-1)=((18446744073709551615:Nat):Int):=aah
  rw [e1,e2,e3,Bf _ _ aad aad,GU aad]
  omega
 ·rw [if_neg hn]
  have e1:IntKind.u64.wrap (IntKind.u64.wrap n*2)=(((2*n).toNat:Nat):Int):=by
   simp only [IntKind.wrap,e,s,dJ,aS,if_false];omega
  have e2:n.fdiv 9223372036854775808=0:=by rw [Int.fdiv_eq_ediv];simp;omega
  have e3:IntKind.u64.wrap 0=((0:Nat):Int):=aah
  rw [e1,e2,e3,Bf _ _ aad aad,Nat.xor_zero]
theorem OU {u:Nat} : kJ .or .u8 (IntKind.u8.wrap (u:Int)) 128=((UInt8.ofNat (128+u%128)).toNat:Int):=by
 have e:IntKind.u8.wrap (u:Int)=((u%256:Nat):Int):=by
  have e:IntKind.u8.bits=8:=rfl
  have s:IntKind.u8.signed=false:=rfl
  simp only [IntKind.wrap,e,s,dJ,aS,if_false]
  omega
 have e2:(128:Int)=((128:Nat):Int):=rfl
 rw [e,e2,OT _ _ aad aad,U6 aad,toNat_ofNat aad]
 congr 1
 omega
theorem Dq {u:Nat}(h:u<128):IntKind.u8.wrap (u:Int)=((UInt8.ofNat u).toNat:Int):=by
 rw [JU aad,toNat_ofNat aad]
theorem YQ (u:Nat):Int.fdiv (u:Int) 128=((u/128:Nat):Int):=by rw [gW _ aah];rfl
def YR (n:Int):Int:=Go.IntKind.i64.wrap n
def b1 (l:Li):By:=l.flatMap num
def rl:Li->List (Int×Nat)
 | []=> []
 | x::r=>match rl r with
  | []=> [(x,1)]
  | p::t=>if x=p.1 then(x,p.2+1)::t else(x,1)::p::t
def enP (p:Int×Nat):By:=num p.1++num p.2
def b2 (l:Li):By:=(rl l).flatMap enP
def st:Int->Li->By
 | _,[]=> []
 | p,x::r=>num (YR (x-p))++st x r
def b3 (l:Li):By:=st 0 l
def ins (d:Li)(x:Int):Li:=
 match d with
 | []=> [x]
 | y::r=>if y<x then y::ins r x else if y=x then y::r else x::y::r
def ds (l:Li):Li:=l.foldl ins []
def idx:Li->Int->Nat
 | [],_=>0
 | y::r,x=>if y=x then 0 else idx r x+1
def b4 (l:Li):By:=num (ds l).length++b1 (ds l)++l.flatMap fun x=>num (idx (ds l) x)
def wid:Nat->Nat->Nat
 | 0,_=>0
 | f+1,u=>if u=0 then 0 else wid f (u/2)+1
def dif (lo x:Int):Nat:=(x-lo).toNat
def OV (lo:Int)(w:Nat)(l:Li)(p:Nat):Bool:=(dif lo (l.getD (p/w) 0)).testBit (p%w)
def Qp (bit:Nat->Bool)(p j:Nat):Nat->Nat
 | 0=>0
 | t+1=>Qp bit p j t+(if 8*j+t<p∧bit (8*j+t)=true then 2^t else 0)
def pk (bit:Nat->Bool)(n p:Nat):By:=(List.range n).map fun j=>UInt8.ofNat (Qp bit p j 8)
def lo (l:Li):Int:=(ds l).headD 0
def hi (l:Li):Int:=(ds l).getLastD 0
def wd (l:Li):Nat:=wid 64 (dif (lo l) (hi l))
def YS (n w:Nat):Nat:=(n*w+7)/8
def b5 (l:Li):By:=num (lo l)++num (wd l)++pk (OV (lo l) (wd l) l) (YS l.length (wd l)) (l.length*wd l)
def bd:Nat->Li->By
 | 1,l=>b1 l
 | 2,l=>b2 l
 | 3,l=>b3 l
 | 4,l=>b4 l
 | _,l=>b5 l
def en (k:Nat)(l:Li):By:=num k++num l.length++bd k l
def sh (a b:By):By:=if b.length<a.length then b else a
def best (l:Li):Nat->By
 | 0=>en 1 l
 | k+1=>sh (best l k) (en (k+2) l)
def ints (l:Li):By:=if l = []then num 1++num 0 else best l 4
example:ints [7,7,7,7] = [4,8,14,8]:=aah
example:ints [] = [2,0]:=aah
theorem YT {x:Int}{r:Li} : ∃k t,rl (x::r)=(x,k+1)::t:=by
 simp only [rl]
 split
 ·exact⟨0,[],rfl⟩
 ·rename_i p t _
  split
  ·exact⟨p.2,t,rfl⟩
  ·exact⟨0,p::t,rfl⟩
theorem WX (x:Int)(m:Nat)(r:Li)(h:r.head? ≠some x):rl (List.replicate (m+1) x++r)=(x,m+1)::rl r:=by
 induction m with
 | zero=>
  simp only [List.replicate,fE,dD,rl]
  cases r with
  | nil=>rfl
  | cons y r=>
   obtain⟨k,t,e⟩:=YT (x:=y) (r:=r)
   rw [e]
   have hne:x≠y:=fun e=>h (by rw [e];rfl)
   simp only [hne,if_false]
 | succ m ih=>
  rw [dQ,fE]
  simp only [rl]
  rw [ih]
  simp
def SS (d:Li):Prop:=d.Pairwise (· < ·)
theorem JV (d:Li)(x y:Int):y∈ins d x↔y∈d∨y=x:=by
 induction d with
 | nil=>simp [ins]
 | cons z r ih=>
  unfold ins
  split
  ·simp only [bG,ih,or_assoc]
  ·split
   ·rename_i e;subst e;simp only [bG];constructor
    ·intro h;exact .inl h
    ·rintro(h|rfl)
     ·exact h
     ·exact .inl rfl
   ·simp only [bG];constructor
    ·rintro(h|h|h)
     ·exact .inr h
     ·exact .inl (.inl h)
     ·exact .inl (.inr h)
    ·rintro((h|h)|h)
     ·exact .inr (.inl h)
     ·exact .inr (.inr h)
     ·exact .inl h
theorem WY {d:Li}{x:Int}(h:SS d):SS (ins d x):=by
 induction d with
 | nil=>simp [ins,SS]
 | cons z r ih=>
  have h1:=dX.1 h
  unfold ins
  split
  ·rename_i hz
   refine dX.2 ⟨fun a ha=> ?_,ih h1.2⟩
   rcases(JV r x a).1 ha with h2|h2
   ·exact h1.1 a h2
   ·omega
  ·split
   ·exact h
   ·refine dX.2 ⟨fun a ha=> ?_,h⟩
    rcases bG.1 ha with h2|h2
    ·omega
    ·have:=h1.1 a h2;omega
theorem JW (l:Li) : ∀d,SS d->SS (l.foldl ins d)∧∀y,y∈l.foldl ins d↔y∈d∨y∈l:=by
 induction l with
 | nil=>intro d h;simp [h]
 | cons x r ih=>
  intro d h
  have:=ih (ins d x) (WY h)
  refine⟨this.1,fun y=> ?_⟩
  rw [iP,this.2 y,JV,bG,or_assoc]
theorem U7 (l:Li):SS (ds l):=(JW l [] List.Pairwise.nil).1
theorem Bg (l:Li)(y:Int):y∈ds l↔y∈l:=by rw [ds,(JW l [] List.Pairwise.nil).2 y];simp
theorem TD (d:Li)(x:Int):(ins d x).length<=d.length+1:=by
 induction d with
 | nil=>simp [ins]
 | cons y r ih=>
  unfold ins
  split
  ·simp only [aZ];omega
  ·split<;>simp
theorem OW (l:Li):(ds l).length<=l.length:=by
 have : ∀(l d:Li),(l.foldl ins d).length<=d.length+l.length:=by
  intro l
  induction l with
  | nil=>intro d;simp
  | cons x r ih=>intro d;have h1:=ih (ins d x);have h2:=TD d x;simp only [iP,aZ];omega
 have:=this l []
 simpa [ds]using this
theorem WZ {d:Li}{x:Int}(h:x∈d):idx d x<d.length∧d[idx d x]? = some x:=by
 induction d with
 | nil=>cases h
 | cons y r ih=>
  unfold idx
  by_cases e:y=x
  ·rw [if_pos e];simp [e]
  ·rw [if_neg e]
   have:=ih (by rcases bG.1 h with h|h;exact absurd h.symm e;exact h)
   simp only [aZ,dL]
   exact⟨by omega,this.2⟩
theorem lo_le {l:Li}{x:Int}(h:x∈l):lo l<=x∧lo l∈l:=by
 have hm:=(Bg l x).2 h
 have hs:=U7 l
 have hb:=fun y=>(Bg l y)
 unfold lo
 cases hd:ds l with
 | nil=>rw [hd]at hm;cases hm
 | cons y r=>
  rw [hd]at hm hs
  have h1:=dX.1 hs
  refine⟨?_,(hb y).1 (by rw [hd];exact dN)⟩
  show y<=x
  rcases bG.1 hm with e|e
  ·omega
  ·have:=h1.1 x e;omega
theorem TF {d:Li}(hs:SS d){x:Int}(h:x∈d):x<=d.getLastD 0∧d.getLastD 0∈d:=by
 induction d generalizing x with
 | nil=>cases h
 | cons y r ih=>
  have h1:=dX.1 hs
  cases r with
  | nil=>simp at h ⊢;omega
  | cons z s=>
   have e:(y::z::s).getLastD 0=(z::s).getLastD 0:=by simp [List.getLastD]
   rw [e]
   have hz:=ih h1.2 (x:=z) dN
   rcases bG.1 h with h2|h2
   ·have:=h1.1 z dN
    exact⟨by omega,dY _ hz.2⟩
   ·have:=ih h1.2 h2
    exact⟨this.1,dY _ this.2⟩
theorem YU {l:Li}{x:Int}(h:x∈l):x<=hi l∧hi l∈l:=by
 have:=TF (U7 l) ((Bg l x).2 h)
 exact⟨this.1,(Bg l _).1 this.2⟩
theorem OX : ∀(f u:Nat),u<2^f->u<2^wid f u∧wid f u<=f:=by
 intro f
 induction f with
 | zero=>intro u h;simp [wid]at h ⊢;omega
 | succ f ih=>
  intro u h
  unfold wid
  split
  ·simp [*]
  ·have:=ih (u/2) (by rw [iY]at h;omega)
   refine⟨?_,by omega⟩
   rw [iY]
   omega
theorem OY (bit:Nat->Bool)(p j:Nat) : ∀t,Qp bit p j t<2^t:=by
 intro t
 induction t with
 | zero=>simp [Qp]
 | succ t ih=>unfold Qp;rw [iY];split<;>omega
theorem TG (bit:Nat->Bool)(p j:Nat) : ∀t s,s<t->(Qp bit p j t).testBit s=(decide (8*j+s<p)&&bit (8*j+s)):=by
 intro t
 induction t with
 | zero=>intro s h;omega
 | succ t ih=>
  intro s hs
  unfold Qp
  have hl:=OY bit p j t
  have key : ∀c:Nat,c<=1->(Qp bit p j t+c*2^t).testBit s=if s<t then(Qp bit p j t).testBit s else decide (c=1):=by
   intro c hc
   rw [Nat.add_comm,fQ,Nat.testBit_two_pow_mul_add c hl]
   split
   ·rfl
   ·have:s-t=0:=aad
    rw [this]
    have:c=0∨c=1:=aad
    rcases this with rfl|rfl<;>rfl
  by_cases hb:8*j+t<p∧bit (8*j+t)=true
  ·rw [if_pos hb]
   have:=key 1 (ay _)
   rw [cu]at this
   rw [this]
   split
   ·exact ih s aal
   ·have e:s=t:=aad
    subst e
    simp [hb.1,hb.2]
  ·rw [if_neg hb]
   have:=key 0 (aK _)
   rw [eG]at this
   rw [this]
   split
   ·exact ih s aal
   ·have e:s=t:=aad
    subst e
    by_cases h1:8*j+s<p
    ·have:bit (8*j+s)=false:=by
      cases hbb:bit (8*j+s)with
      | false=>rfl
      | true=>exact absurd ⟨h1,hbb⟩ hb
     simp [this]
    ·simp [h1]
theorem pk_len (bit:Nat->Bool)(n p:Nat):(pk bit n p).length=n:=by simp [pk]
theorem W9 (n:Int):YR n=(n+9223372036854775808)%18446744073709551616-9223372036854775808:=by
 have e:Go.IntKind.i64.bits=64:=rfl
 have s:Go.IntKind.i64.signed=true:=rfl
 simp only [YR,Go.IntKind.wrap,e,s,fF,decide_eq_true_eq]
 split<;>omega
theorem Xa {n:Int}(h:I64 n):YR n=n:=by rw [W9];unfold I64 at h;omega
def Pr (b:By)(n:Nat)(body:Li->By)(Q:Li->By->Prop):Prop:= ∀l0 r,wC l0->l0.length=n->b=body l0++r->Q l0 r
theorem Pr.mono {b:By}{n:Nat}{body:Li->By}{Q Q':Li->By->Prop}(h:Pr b n body Q)(k : ∀l0 r,wC l0->l0.length=n->Q l0 r->Q' l0 r):Pr b n body Q':=
 fun l0 r h1 h2 h3=>k l0 r h1 h2 (h l0 r h1 h2 h3)
theorem Pr.start (b:By)(n:Nat)(body:Li->By):Pr b n body fun l0 r=>b=body l0++r:=fun _ _ _ _ h=>h
theorem XQ {y:Int}{z b:By}{e:Int}(hy:I64 y)(he:e=0)(h:b=num y++z):(qA b e).1=y∧(qA b e).2.2=0∧b.drop (qA b e).2.1=z:=by
 subst he;subst h
 rw [EJ hy]
 exact⟨rfl,rfl,List.drop_left⟩
theorem wC.at {l:Li}{i:Nat}{x:Int}(h:wC l)(e:l[i]? = some x):I64 x:=h x (aO e)
theorem wC.nil:wC []:=fun _ h=>absurd h aaA
def Q1 (b':By)(out:Li)(e:Int)(l0:Li)(r:By):Prop:=e=0∧∃rest,l0=out++rest∧b'=b1 rest++r
theorem Q1.start {b:By}{l0:Li}{r:By}(h:b=b1 l0++r):Q1 b [] 0 l0 r:=⟨rfl,l0,rfl,h⟩
theorem Q1.step {b':By}{out:Li}{e:Int}{l0:Li}{r:By}(ha:wC l0)(hlt:out.length<l0.length)(h:Q1 b' out e l0 r) :
  Q1 (b'.drop (qA b' e).2.1) (out++ [(qA b' e).1]) (qA b' e).2.2 l0 r:=by
 obtain⟨he,rest,h1,h2⟩:=h
 cases rest with
 | nil=>rw [h1]at hlt;simp at hlt
 | cons y rest=>
  have hy:I64 y:=ha y (by rw [h1];simp)
  have:=XQ (b:=b') (z:=b1 rest++r) hy he (by rw [h2];simp [b1])
  rw [this.1,this.2.1,this.2.2]
  exact⟨rfl,rest,by rw [h1];simp,rfl⟩
theorem Q1.fin {b':By}{out:Li}{e:Int}{l0:Li}{r:By}(hlen:e=0->out.length=l0.length)(h:Q1 b' out e l0 r):e=0∧out=l0∧b'=r:=by
 obtain⟨he,rest,h1,h2⟩:=h
 have:=hlen he
 have hr:rest = []:=by
  rw [h1,aG]at this
  exact aH aad
 subst hr
 exact⟨he,by rw [h1];simp,by rw [h2];simp [b1]⟩
theorem OZ (l:Li)(h:l≠ []) : ∃y m t,l=List.replicate (m+1) y++t∧rl l=(y,m+1)::rl t:=by
 induction l with
 | nil=>exact absurd rfl h
 | cons x r ih=>
  by_cases hr:r = []
  ·subst hr;exact⟨x,0,[],rfl,rfl⟩
  ·obtain⟨y,m,t,h1,h2⟩:=ih hr
   by_cases e:x=y
   ·subst e
    refine⟨x,m+1,t, ?_, ?_⟩
    ·rw [h1,dQ (n:=m+1)];rfl
    ·simp only [rl,h2];simp
   ·refine⟨x,0,r,rfl, ?_⟩
    simp only [rl,h2]
    rw [if_neg e]
def Q2 (b':By)(out:Li)(e:Int)(l0:Li)(r:By):Prop:=e=0∧∃rest,l0=out++rest∧b'=b2 rest++r
theorem Q2.start {b:By}{l0:Li}{r:By}(h:b=b2 l0++r):Q2 b [] 0 l0 r:=⟨rfl,l0,rfl,h⟩
theorem Q2.step {b':By}{out:Li}{e:Int}{l0:Li}{r:By}(ha:wC l0)(hl:l0.length<=9223372036854775807)(hlt:out.length<l0.length)(h:Q2 b' out e l0 r) :
  ∃m:Nat,(qA (b'.drop (qA b' e).2.1) (qA b' e).2.2).2.2=0∧(qA (b'.drop (qA b' e).2.1) (qA b' e).2.2).1=((m+1:Nat):Int)∧m+1+out.length<=l0.length∧
   Q2 ((b'.drop (qA b' e).2.1).drop (qA (b'.drop (qA b' e).2.1) (qA b' e).2.2).2.1) (out++List.replicate (m+1) (qA b' e).1) 0 l0 r:=by
 obtain⟨he,rest,h1,h2⟩:=h
 have hne:rest≠ []:=by rintro rfl;rw [h1]at hlt;simp at hlt
 obtain⟨y,m,t,h3,h4⟩:=OZ rest hne
 have hy:I64 y:=ha y (by rw [h1,h3];simp)
 have hlen:m+1+out.length<=l0.length:=by rw [h1,h3];simp;omega
 have r1:=XQ (b:=b') (z:=num ((m+1:Nat):Int)++(b2 t++r)) hy he (by rw [h2,b2,h4];simp [enP,b2])
 rw [r1.1,r1.2.1,r1.2.2]
 have r2:=XQ (e:=0) (uQ (by omega:m+1<=9223372036854775807)) rfl (rfl:num ((m+1:Nat):Int)++(b2 t++r)=_)
 refine⟨m,r2.2.1,r2.1,hlen, ?_⟩
 rw [r2.2.2]
 exact⟨rfl,t,by rw [h1,h3];simp,rfl⟩
theorem Q2.fin {b':By}{out:Li}{e:Int}{l0:Li}{r:By}(hlen:out.length=l0.length)(h:Q2 b' out e l0 r):out=l0∧b'=r:=by
 obtain⟨_,rest,h1,h2⟩:=h
 have hr:rest = []:=by
  rw [h1,aG]at hlen
  exact aH aad
 subst hr
 exact⟨by rw [h1];simp,by rw [h2];simp [b2,rl]⟩
def ixs (d l:Li):By:=l.flatMap fun x=>num (idx d x)
def Q4k (k:Int)(b':By)(keys:Li)(e:Int)(l0:Li)(r:By):Prop:=k=(ds l0).length∧Q1 b' keys e (ds l0) (ixs (ds l0) l0++r)
theorem Q4k.start {b:By}{n:Nat}(hn:n<=512){most em:Int}(hm:(n:Int)<=most):Pr b n b4 fun l0 r=>(zH b 0 most em).2.2=0∧Q4k (zH b 0 most em).1 (b.drop (zH b 0 most em).2.1) [] (zH b 0 most em).2.2 l0 r:=fun l0 r _ hl h=>by
 have hd:=OW l0
 have r1:=XQ (b:=b) (z:=b1 (ds l0)++(ixs (ds l0) l0++r)) (e:=0) (uQ (by omega:(ds l0).length<=9223372036854775807)) rfl (by rw [h];simp [b4,ixs])
 have e1:(zH b 0 most em).2.2=0:=by
  simp only [zH]
  rw [r1.1,r1.2.1,if_pos rfl,if_neg aad,if_neg aad]
 have e2:(zH b 0 most em).1=(ds l0).length:=by
  have:(zH b 0 most em).1=if(zH b 0 most em).2.2=0 then(qA b 0).1 else 0:=rfl
  rw [this,if_pos e1,r1.1]
 have e3:(zH b 0 most em).2.1=(qA b 0).2.1:=rfl
 refine⟨e1, ?_⟩
 rw [e2,e1,e3,r1.2.2]
 exact⟨rfl,Q1.start rfl⟩
def Q4 (keys:Li)(b':By)(out:Li)(e:Int)(l0:Li)(r:By):Prop:=keys=ds l0∧e=0∧∃rest,l0=out++rest∧b'=ixs (ds l0) rest++r
theorem Q4.start {k:Int}{b':By}{keys:Li}{e:Int}{l0:Li}{r:By}(hlen:e=0->(keys.length:Int)=k)(h:Q4k k b' keys e l0 r):Q4 keys b' [] e l0 r:=by
 obtain⟨h1,h2⟩:=h
 have:=h2.fin fun he=>by have:=hlen he;omega
 exact⟨this.2.1,this.1,l0,rfl,this.2.2⟩
theorem Q4.step {keys:Li}{b':By}{out:Li}{e:Int}{l0:Li}{r:By}(hl:l0.length<=512)(hlt:out.length<l0.length)(h:Q4 keys b' out e l0 r) :
  ∃(i:Nat) (x:Int),(qA b' e).2.2=0∧(qA b' e).1=(i:Int)∧keys[i]? = some x∧Q4 keys (b'.drop (qA b' e).2.1) (out++ [x]) 0 l0 r:=by
 obtain⟨hk,he,rest,h1,h2⟩:=h
 cases rest with
 | nil=>rw [h1]at hlt;simp at hlt
 | cons y rest=>
  have hm:y∈ds l0:=(Bg l0 y).2 (by rw [h1];simp)
  have hi:=WZ hm
  have hd:=OW l0
  have r1:=XQ (b:=b') (z:=ixs (ds l0) rest++r) (uQ (by omega:idx (ds l0) y<=9223372036854775807)) he (by rw [h2];simp [ixs])
  refine⟨idx (ds l0) y,y,r1.2.1,r1.1,by rw [hk];exact hi.2,hk,rfl,rest,by rw [h1];simp,r1.2.2⟩
theorem Q4.fin {keys:Li}{b':By}{out:Li}{e:Int}{l0:Li}{r:By}(hlen:out.length=l0.length)(h:Q4 keys b' out e l0 r):out=l0∧b'=r:=by
 obtain⟨_,_,rest,h1,h2⟩:=h
 have hr:rest = []:=by
  rw [h1,aG]at hlen
  exact aH aad
 subst hr
 exact⟨by rw [h1];simp,by rw [h2];simp [ixs]⟩
def Q5 (least:Int)(w:Nat)(b':By)(l0:Li)(r:By):Prop:=least=lo l0∧w=wd l0∧b'=pk (OV (lo l0) (wd l0) l0) (YS l0.length (wd l0)) (l0.length*wd l0)++r
theorem Xb {l:Li}(h:wC l){x:Int}(hx:x∈l):dif (lo l) x<2^wd l:=by
 have h1:=lo_le hx
 have h2:=YU hx
 have h3:=h _ h1.2
 have h4:=h _ h2.2
 unfold I64 at h3 h4
 have h5:=(OX 64 (dif (lo l) (hi l)) (by unfold dif;omega)).1
 refine Nat.lt_of_le_of_lt ?_ h5
 unfold dif;omega
theorem Q5.bit {least:Int}{w:Nat}{b':By}{l0:Li}{r:By}(h:Q5 least w b' l0 r){i k:Nat}(hi:i<l0.length)(hk:k<w) :
  ∃c,b'[(i*w+k)/8]? = some c∧c.toNat.testBit ((i*w+k)%8)=(dif least (l0.getD i 0)).testBit k:=by
 obtain⟨h1,h2,h3⟩:=h
 subst h2
 have hw:0<wd l0:=aad
 have hat:i*wd l0+k<l0.length*wd l0:=by
  have:=aP (wd l0) (show i+1<=l0.length from hi)
  rw [aX,cu]at this;omega
 have h8:(i*wd l0+k)/8<YS l0.length (wd l0):=by unfold YS;omega
 refine⟨UInt8.ofNat (Qp (OV (lo l0) (wd l0) l0) (l0.length*wd l0) ((i*wd l0+k)/8) 8),by rw [h3,cO (by rw [pk_len];exact h8)];simp only [pk,aI,gq h8,bn], ?_⟩
 have hlt:=OY (OV (lo l0) (wd l0) l0) (l0.length*wd l0) ((i*wd l0+k)/8) 8
 rw [toNat_ofNat aad,TG _ _ _ _ _ aad]
 have e:8*((i*wd l0+k)/8)+(i*wd l0+k)%8=i*wd l0+k:=aad
 rw [e,decide_eq_true hat,fF,h1]
 unfold OV
 have e1:(i*wd l0+k)/wd l0=i:=by rw [fQ,Nat.mul_add_div hw,Nat.div_eq_of_lt hk,bU]
 have e2:(i*wd l0+k)%wd l0=k:=by rw [fQ,Nat.mul_add_mod,bW hk]
 rw [e1,e2]
theorem Q5.val {least:Int}{w:Nat}{b':By}{l0:Li}{r:By}(h:Q5 least w b' l0 r)(ha:wC l0){i:Nat}{x:Int}(hx:l0[i]? = some x):YR (least+(dif least (l0.getD i 0)%2^w:Nat))=x:=by
 obtain⟨h1,h2,_⟩:=h
 have hm:=aO hx
 have e:l0.getD i 0=x:=by rw [aV,hx];rfl
 have h3:=Xb ha hm
 have h4:=lo_le hm
 rw [e,h1,h2,bW h3]
 have:lo l0+(dif (lo l0) x:Nat)=x:=by unfold dif;omega
 rw [this]
 exact Xa (ha x hm)
theorem Q5.size {least:Int}{w:Nat}{b':By}{l0:Li}{r:By}(h:Q5 least w b' l0 r):YS l0.length w<=b'.length:=by
 obtain⟨_,h2,h3⟩:=h
 rw [h3,h2,aG,pk_len];omega
attribute [local irreducible] loadVar storeVar Instr.indexAt Instr.index Instr.sliceAt Instr.makeSlice Instr.lookup Instr.mapUpdate Instr.range Instr.next Instr.entry Instr.makeMap Builtin.append_ Builtin.copy_ Builtin.len_ Builtin.min_ Builtin.max_ Builtin.cap_ Builtin.delete_ Builtin.clear_ convert binOp eqGuard Op.unary Calls
def oV (b:By):List FV:= [.lst 1 (b.map pR)]
abbrev ss (l:List By):AV:= .lst 1 (l.map oV)
theorem yI {F:Nat->Prop}{w:World}{b:By}{v:Value}(h:lN F w (.lst 1 (b.map pR)) v)(hF : ∀b,F b->b<w.heap.size) :
  ∃oa c,v = .slice oa b.length c∧b.length<=c∧(oa=none->c=0)∧Row w oa (kV b):=by
 obtain⟨oa,m,c,news,rfl,hm,hc,hn,hr,h1,h2,h3,h4⟩:=uN h hF
 rw [au]at hm h2
 subst hm
 refine⟨oa,c,rfl,hc,hn, ?_⟩
 have e:news=kV b:=by
  refine List.ext_getElem? fun i=> ?_
  by_cases hi:i<b.length
  ·have hl:i<news.length:=aad
   have hx:=h4 i 0 (pR b[i]) _ news[i] (by rw [aI,aB hi];rfl) rfl (by rw [dG,bU];exact aB hl)
   rw [aB hl]
   generalize news[i]=x at hx
   cases hx
   simp [kV,hi]
  ·rw [fA aad,fA (by simp [kV];omega)]
 rw [<-e];exact hr
theorem JX {F:Nat->Prop}{w:World}{ls:List By}{v:Value}(h:lN F w (.lst 1 (ls.map oV)) v)(hF : ∀b,F b->b<w.heap.size) :
  ∃oa c vs,v = .slice oa ls.length c∧Row w oa vs∧Dg.Qo w vs ls:=by
 obtain⟨oa,m,c,news,rfl,hm,hc,hn,hr,h1,h2,h3,h4⟩:=uN h hF
 rw [au]at hm h2
 subst hm
 refine⟨oa,c,news,rfl,hr,by omega,fun i hi=> ?_⟩
 have hl:i<news.length:=aad
 have hx:=h4 i 0 (oV ls[i]) _ news[i] (by rw [aI,aB hi];rfl) rfl (by rw [dG,bU];exact aB hl)
 obtain⟨lV,c',e,q1,q2,q3⟩:=yI hx hF
 exact⟨lV,c',by rw [aB hl,e],q1,q2,q3⟩
def hsh (d:Int)(ls:List By):Int:=Dg.vg d 0 (Dg.frame ls)
theorem O1 {P:Program}{G:Glob}{f:FuncId}{d:Int}{ls:List By}(h : ∀(oa:Option Addr) (c:Nat) (vs:List Value) (w:World),Row w oa vs->Dg.Qo w vs ls->uD P f #[.int .u64 d, .slice oa ls.length c] w fun v w'=>v = .int .u64 (Dg.vg d 0 (Dg.frame ls))∧Below w.heap.size w w') :
  kQ P G f [.v (.int .u64 d),ss ls] 0 [] (Is (.v (.int .u64 (hsh d ls)))):=by
 intro w σ F vs st r
 match vs,r with
 | [x,y],⟨rx,ry,_⟩=>
  rw [rx.kR]
  cases ry with
  | lst hy=>
   obtain⟨oa,c,us,rfl,hr,hf⟩:=JX hy fun b hb=>(st.lI b hb).1
   refine(h oa c us w hr hf).mono fun v w' ⟨e,hB⟩=> ?_
   subst e
   have hE:Ext 0 σ F w 0 σ F w':=⟨ay _,fun _ _=>rfl,fun b hb=>⟨hb,hB.block b (st.lI b hb).1⟩,hB.size⟩
   exact⟨_,0,σ,F,[],⟨rfl,rfl,rfl⟩,⟨Glob.nN st.glob hB.size fun b hb=>hB.block b (aN hb st.glob.1),(uH.nY hB).mono fun _ _ h=>h.elim,fun b hb=>⟨aN (st.lI b hb).1 hB.size, .inl hb⟩,
    (fun jT b h=>by cases h),(fun jT b g h=>by cases h),(fun jT uY b b' g h=>by cases h),(fun jT b h=>by cases h)⟩,hE, .v _⟩
theorem YV (G:Glob)(d:Int)(ls:List By)(h1:ls.length<=1000)(h2:(Dg.frame ls).length<=140737488355328):kQ Tryz.prog G 289 [.v (.int .u64 d),ss ls] 0 [] (Is (.v (.int .u64 (hsh d ls)))):=
 O1 fun oa c vs w hr hf=>Dg.SG d oa c vs ls w aad h2 hr hf
end Go.Proofs.YtnandbihiceihaaGreatDoor.Cl
