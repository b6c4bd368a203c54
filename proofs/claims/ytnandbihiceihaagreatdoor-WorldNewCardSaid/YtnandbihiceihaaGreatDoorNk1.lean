/- Joined parts of the proof. A verification-condition reckoner for the model's code: the frame as a function of slots, one rule an operation; its sou -/
import Derived.Calls
import Derived.Orders
import Derived.OrdersHeld
import Derived.Below
import Derived.Laws.Sem
import Derived.Laws.World
import Derived.Laws.IdiomStrings
import Derived.Laws.Tables
import Derived.Laws.Small
set_option linter.unusedVariables false
set_option linter.unusedSimpArgs false
set_option maxRecDepth 100000
set_option maxHeartbeats 16000000
namespace Go.Proofs.YtnandbihiceihaaGreatDoor
theorem aac{p:Prop}(h:p:=by kernel_rfl):p:=h
theorem aad{p:Prop}(h:p:=by omega):p:=h
theorem aae{p:Prop}(h:p:=by trivial):p:=h
theorem aah{p:Prop}(h:p:=by decide):p:=h
theorem aal{p:Prop}(h:p:=by assumption):p:=h
theorem aam{p:Prop}(h:p:=by first|decide|omega):p:=h
theorem aao{p:Prop}(h:p:=by unfold execOp;simp only [ho];exact pq hr):p:=h
theorem aap{p:Prop}(h:p:=by simp at h;omega):p:=h
theorem aaq{p:Prop}(h:p:=by decide +kernel):p:=h
theorem aau{p:Prop}(h:p:=by simp only [Plan.depth]at hfu;omega):p:=h
theorem aaz{p:Prop}(h:p:=by rfl):p:=h
theorem aaA{p:Prop}(h:p:=by simp):p:=h
theorem aaB{p:Prop}(h:p:=by rw [IntWalk.i64_in _ (by omega)];omega):p:=h
theorem aaC{p:Prop}(h:p:=by show l.length -(i+1)<l.length-i;omega):p:=h
theorem aaE{p:Prop}(h:p:=by have:=of_decide_eq_false hge;omega):p:=h
theorem aaH{p:Prop}(h:p:=by have:=of_decide_eq_true hlt;omega):p:=h
theorem aaI{p:Prop}(h:p:=by rw [<-hz2]at hzl;simpa using hzl):p:=h
theorem aaM{p:Prop}(h:p:=by clear k;first|omega|(simp only [ln]at *;omega)):p:=h
theorem aaP{p:Prop}(h:p:=by rw [IntWalk.i64_in _ (by simp only;omega)];simp only;omega):p:=h
theorem aaQ{p:Prop}(h:p:=by unfold maxLen;omega):p:=h
theorem aaR{p:Prop}(h:p:=by with_reducible assumption):p:=h
theorem aaT{p:Prop}(h:p:=by simp;omega):p:=h
theorem aaU{p:Prop}(h:p:=by simpa using h):p:=h
theorem aaZ{p:Prop}(h:p:=by simp only [maxLen]at hlen;omega):p:=h
theorem aa0{p:Prop}(h:p:=by simp only [ln];omega):p:=h
theorem aa6{p:Prop}(h:p:=by simp [MapKept.IsKey]):p:=h
theorem aa7{p:Prop}(h:p:=by show n -(i+1)<n-i;omega):p:=h
theorem aa8{p:Prop}(h:p:=by cases e<;>first|exact hq|exact hq.elim):p:=h
theorem aa9{p:Prop}(h:p:=by rw [hrd]at e;cases e):p:=h
theorem abb{p:Prop}(h:p:=by rw [hrd];simp):p:=h
theorem abd{p:Prop}(h:p:=by simp [IntKind.bits];omega):p:=h
theorem abe{p:Prop}(h:p:=by rw [au];exact bF ..):p:=h
theorem abf{p:Prop}(h:p:=by simp only;omega):p:=h
theorem abg{p:Prop}(h:p:=by simpa using h1):p:=h
theorem abh{p:Prop}(h:p:=by simp [hk]):p:=h
theorem abj{p:Prop}(h:p:=by rw [h]at hr;cases hr):p:=h
theorem abk{p:Prop}(h:p:=by rw [hr];simp):p:=h
theorem abl{p:Prop}(h:p:=by rw [hr]at e;cases e):p:=h
theorem abm{p:Prop}(h:p:=by unfold maxLen at hn;omega):p:=h
theorem abn{p:Prop}(h:p:=by rw [kH]):p:=h
theorem abo{p:Prop}(h:p:=by rw [e.s l hl];exact hb):p:=h
theorem abp{p:Prop}(h:p:=by simpa using hrd):p:=h
theorem abq{p:Prop}(h:p:=by rw [hs l hl];exact hb):p:=h
theorem abr{p:Prop}(h:p:=by simp [hx]):p:=h
theorem abt{p:Prop}(h:p:=by simp [yL];omega):p:=h
theorem abu{p:Prop}(h:p:=by simp [BI];omega):p:=h
theorem abv{p:Prop}(h:p:=by rw [aJ];exact hbytes):p:=h
theorem abw{p:Prop}(h:p:=by simpa using hl):p:=h
theorem abx{p:Prop}(h:p:=by simpa using h2):p:=h
theorem aby{p:Prop}(h:p:=by rw [aU];omega):p:=h
theorem abz{p:Prop}(h:p:=by rw [aJ];exact hlen):p:=h
theorem abA{p:Prop}(h:p:=by simpa [hi]using hz):p:=h
end Go.Proofs.YtnandbihiceihaaGreatDoor
namespace Go.Proofs.YtnandbihiceihaaGreatDoor
abbrev ah:=@Bool.and_eq_true
abbrev aj:=@Nat.eq_of_beq_eq_true
abbrev ak:=@Nat.le_of_ble_eq_true
abbrev au:=@List.length_map
abbrev ay:=@Nat.le_refl
abbrev aA:=@Option.some.injEq
abbrev aB:=@List.getElem?_eq_getElem
abbrev aF:=@List.getElem?_eq_some_iff
abbrev aG:=@List.length_append
abbrev aH:=@List.eq_nil_of_length_eq_zero
abbrev aI:=@List.getElem?_map
abbrev aJ:=@Nat.zero_add
abbrev aK:=@Nat.zero_le
abbrev aN:=@Nat.lt_of_lt_of_le
abbrev aO:=@List.mem_of_getElem?
abbrev aP:=@Nat.mul_le_mul_right
abbrev aS:=@Bool.false_eq_true
abbrev aT:=@Array.getElem?_toList
abbrev aU:=@List.length_take
abbrev aV:=@List.getD_eq_getElem?_getD
abbrev aW:=@List.getElem?_take
abbrev aX:=@Nat.add_mul
abbrev aZ:=@List.length_cons
abbrev bf:=@List.all_eq_true
abbrev bg:=@List.append_assoc
abbrev bn:=@Option.map_some
abbrev bC:=@List.length_set
abbrev bD:=@List.length_drop
abbrev bF:=@List.length_replicate
abbrev bG:=@List.mem_cons
abbrev bH:=@Nat.eq_zero_or_pos
abbrev bI:=@List.mem_iff_getElem?
abbrev bJ:=@List.getElem?_cons_zero
abbrev bK:=@List.map_append
abbrev bM:=@Array.getElem?_eq_some_iff
abbrev bP:=@List.mem_singleton
abbrev bQ:=@List.getElem_mem
abbrev bT:=@List.getElem?_drop
abbrev bU:=@Nat.add_zero
abbrev bV:=@List.getElem?_set_self
abbrev bW:=@Nat.mod_eq_of_lt
abbrev bY:=@List.getElem?_append_right
abbrev bZ:=@Nat.le_trans
abbrev cu:=@Nat.one_mul
abbrev cO:=@List.getElem?_append_left
abbrev cZ:=@List.drop_eq_getElem_cons
abbrev dh:=@Option.bind_some
abbrev dw:=@List.length_nil
abbrev dA:=@Int.toNat_natCast
abbrev dB:=@Bool.not_eq_eq_eq_not
abbrev dD:=@List.nil_append
abbrev dF:=@Prod.mk.injEq
abbrev dG:=@Nat.mul_one
abbrev dH:=@List.mem_map
abbrev dI:=@List.take_of_length_le
abbrev dJ:=@Bool.false_and
abbrev dK:=@List.take_succ_eq_append_getElem
abbrev dL:=@List.getElem?_cons_succ
abbrev dM:=@List.mem_of_mem_take
abbrev dN:=@List.mem_cons_self
abbrev dO:=@Bool.not_false
abbrev dP:=@Array.getElem?_eq_none
abbrev dQ:=@List.replicate_succ
abbrev dR:=@Bool.not_eq_true'
abbrev dS:=@Nat.add_assoc
abbrev dU:=@List.mem_append
abbrev dV:=@Bool.not_eq_false'
abbrev dW:=@Bool.true_eq_false
abbrev dX:=@List.pairwise_cons
abbrev dY:=@List.mem_cons_of_mem
abbrev dZ:=@Array.getD_eq_getD_getElem?
abbrev eu:=@Bool.not_true
abbrev eG:=@Nat.zero_mul
abbrev eP:=@Array.toList_push
abbrev eU:=@Nat.min_eq_left
abbrev eX:=@Array.getElem?_setIfInBounds_ne
abbrev eY:=@List.mem_or_eq_of_mem_set
abbrev fA:=@List.getElem?_eq_none
abbrev fC:=@List.take_append_drop
abbrev fD:=@List.take_length
abbrev fE:=@List.cons_append
abbrev fF:=@Bool.true_and
abbrev fG:=@List.getElem?_replicate
abbrev fJ:=@List.map_cons
abbrev fK:=@Classical.byContradiction
abbrev fM:=@List.append_nil
abbrev fO:=@Nat.not_lt_zero
abbrev fP:=@Array.toArray_toList
abbrev fQ:=@Nat.mul_comm
abbrev fU:=@Nat.beq_refl
abbrev fV:=@List.getElem?_set_ne
abbrev fZ:=@List.mem_of_mem_drop
abbrev gq:=@List.getElem?_range
abbrev gu:=@Nat.lt_succ_self
abbrev gy:=@List.zip_cons_cons
abbrev gB:=@Nat.lt_or_ge
abbrev gG:=@List.drop_of_length_le
abbrev gI:=@List.range_succ
abbrev gJ:=@Array.getElem?_append
abbrev gK:=@List.flatten_cons
abbrev gQ:=@List.length_range
abbrev gU:=@Array.ext'
abbrev gV:=@List.range_eq_range'
abbrev gW:=@Int.fdiv_eq_ediv_of_nonneg
abbrev gX:=@List.not_mem_nil
abbrev gY:=@Nat.sub_self
abbrev gZ:=@Array.mapM_eq_mapM_toList
abbrev ig:=@Nat.lt_irrefl
abbrev iq:=@Bool.eq_false_or_eq_true
abbrev iw:=@List.drop_left'
abbrev iy:=@Int.not_lt
abbrev iC:=@BitVec.toNat_ofNat
abbrev iD:=@Nat.le_of_eq
abbrev iE:=@List.getElem?_set
abbrev iG:=@List.flatMap_cons
abbrev iH:=@List.drop_zero
abbrev iI:=@List.length_eq_one_iff
abbrev iJ:=@Array.getElem?_modify
abbrev iK:=@List.set_append_right
abbrev iL:=@List.range'_succ
abbrev iM:=@Bool.false_or
abbrev iO:=@List.replicate_succ'
abbrev iP:=@List.foldl_cons
abbrev iQ:=@Bool.or_eq_true
abbrev iR:=@Option.some.inj
abbrev iT:=@List.take_left'
abbrev iU:=@List.map_congr_left
abbrev iV:=@List.map_nil
abbrev iW:=@Nat.sub_zero
abbrev iY:=@Nat.pow_succ
abbrev iZ:=@List.getElem_range
abbrev jc:=@Int.tmod_eq_emod_of_nonneg
abbrev jd:=@Array.getElem?_eq_getElem
abbrev je:=@Nat.mul_pos
abbrev jf:=@Nat.lt_trichotomy
abbrev jg:=@Decidable.not_not
abbrev jh:=@Array.setIfInBounds_comm
abbrev ji:=@Array.getElem?_replicate
abbrev jk:=@Nat.le_of_not_lt
abbrev jl:=@List.foldlM_cons
abbrev jm:=@Option.getD_some
abbrev jo:=@Nat.le_of_lt
abbrev jq:=@Int.zero_mul
abbrev jr:=@Bool.eq_iff_iff
abbrev jv:=@Nat.ble_eq_true_of_le
abbrev jw:=@List.getElem?_toArray
abbrev jy:=@BitVec.eq_of_toNat_eq
abbrev jA:=@List.mem_range
abbrev jB:=@List.take_zero
abbrev jC:=@List.take_take
abbrev jD:=@List.drop_take
abbrev jE:=@Ne.symm
abbrev jF:=@Nat.or_assoc
abbrev jG:=@List.map_set
end Go.Proofs.YtnandbihiceihaaGreatDoor
namespace Go.Proofs.YtnandbihiceihaaGreatDoor.Vc
open Go.RowKit
abbrev jU:=Nat->Value
def upd (ρ:jU)(d:Nat)(v:Value):jU:=fun n=>bif Nat.beq n d then v else ρ n
def lG (ρ:jU)(d:Option Nat)(v:Value):jU:=match d with|some d=>upd ρ d v|none=>ρ
def mQ (ρ:jU)(x:Operand):Value:=
 match x with
 | .tmp t=>ρ t
 | .const v=>v
 | .global g=> .pointer (some ⟨g,0,none⟩)
 | .func f=> .func (.func f) #[] #[]
structure Fits (N:Nat)(ds:List Deferred)(ρ:jU)(a:Act):Prop where
 size:a.tmps.size=N
 get : ∀t,a.tmps.getD t undef=ρ t
 defers:a.defers=ds
theorem Fits.eval {N:Nat}{ds:List Deferred}{ρ:jU}{a:Act}(h:Fits N ds ρ a):a.eval=mQ ρ:=by
 funext x
 cases x with
 | tmp t=>exact h.get t
 | _=>rfl
theorem Fits.put {N:Nat}{ds:List Deferred}{ρ:jU}{a:Act}(h:Fits N ds ρ a)(d:Option Nat)(v:Value)(hd : ∀t,d=some t->t<N) :
  Fits N ds (lG ρ d v) (a.put d v):=by
 cases d with
 | none=>exact h
 | some t=>
  refine⟨by simp [Act.put,h.size],fun s=> ?_,by simp [Act.put,h.defers]⟩
  have ht:t<a.tmps.size:=by rw [h.size];exact hd t rfl
  by_cases hs:s=t
  ·subst hs
   simp [Act.put,lG,upd,ht]
  ·have hb:Nat.beq s t=false:=by
    cases hb:Nat.beq s t with
    | false=>rfl
    | true=>exact absurd (aj hb) hs
   have h1:=h.get s
   have hst:t≠s:=fun e=>hs e.symm
   simp only [Act.put,lG,upd,hb,cond_false]
   rw [<-h1]
   simp [eX hst]
structure kG (P:Program)(s:Sem Value)(w:World)(K:Value->World->Prop):Prop where
 ex : ∃v w',s.run P w = .ok v w'∧K v w'
structure rD (P:Program)(s:Sem Unit)(w:World)(K:World->Prop):Prop where
 ex : ∃u w',s.run P w = .ok u w'∧K w'
def callable (P:Program)(f:FuncId):Bool:=
 match P.funcs[f]? with
 | some fn=> !(fn.name== "runtime.NumGoroutine")&&fn.body.isSome
 | none=>false
structure MI (P:Program)(f:FuncId)(args:Array Value)(w:World)(K:Value->World->Prop):Prop where
 un:(callable P f=true∧Calls P f args w fun e w'=> ∃v,e = .returned v∧K v w')∨∃v,(callFunc f args).run P w = .ok (.value v) w∧K v w
structure jS (p k:Prop):Prop where
 req:p
 go:k
structure kY (p k:Prop):Prop where
 req:p
 go:k
def wr (q:Bool)(w:World)(K:Value->World->Prop):Value->World->Prop:=
 match q with
 | true=>fun v w'=>kY (w'=w) (K v w')
 | false=>K
def BO (b:Bool)(t e:Prop):Prop:=match b with|true=>t|false=>e
theorem jH {b:Bool}{t e:Prop}(ht:b=true->t)(he:b=false->e):BO b t e:=by
 cases b
 ·exact he rfl
 ·exact ht rfl
theorem zN {b:Bool}{t e:Prop}(hb:b=true)(ht:t):BO b t e:=by subst hb;exact ht
theorem KE {b:Bool}{t e:Prop}(hb:b=false)(ht:e):BO b t e:=by subst hb;exact ht
def force (v:Value)(k:Value->Prop):Prop:=
 match v with
 | .bool b=>k (.bool b)
 | .int q n=>k (.int q n)
 | .float q n=>k (.float q n)
 | .complex q a b=>k (.complex q a b)
 | .string s=>k (.string s)
 | .pointer a=>k (.pointer a)
 | .slice a n c=>k (.slice a n c)
 | .map r=>k (.map r)
 | .chan r=>k (.chan r)
 | .func f a b=>k (.func f a b)
 | .nilFunc=>k .nilFunc
 | .iface t v=>k (.iface t v)
 | .nilIface=>k .nilIface
 | .agg cs=>k (.agg cs)
 | .tuple vs=>k (.tuple vs)
theorem force_eq (v:Value)(k:Value->Prop):force v k=k v:=by cases v<;>rfl
def rM (l:List Value)(k:List Value->Prop):Prop:=
 match l with
 | []=>k []
 | x::r=>force x fun x'=>rM r fun r'=>k (x'::r')
theorem kK (l:List Value) : ∀k:List Value->Prop,rM l k=k l:=by
 induction l with
 | nil=>intro k;rfl
 | cons x r ih=>intro k;simp only [rM,force_eq,ih]
def vI (v:Option Value)(k:Option Value->Prop):Prop:=
 match v with
 | some v=>force v fun v'=>k (some v')
 | none=>k none
theorem xO (v:Option Value)(k:Option Value->Prop):vI v k=k v:=by cases v<;>simp [vI,force_eq]
def kJ (op:BinOp)(k:IntKind)(a b:Int):Int:=
 match op with
 | .and=>k.wrap (BitVec.ofInt k.bits a &&& BitVec.ofInt k.bits b).toNat
 | .or=>k.wrap (BitVec.ofInt k.bits a ||| BitVec.ofInt k.bits b).toNat
 | .xor=>k.wrap (BitVec.ofInt k.bits a ^^^ BitVec.ofInt k.bits b).toNat
 | _=>k.wrap (BitVec.ofInt k.bits a &&& ~~~(BitVec.ofInt k.bits b)).toNat
def H8 (op:BinOp)(k:IntKind)(a b:Int)(w:World)(K:Value->World->Prop):Prop:=
 match op with
 | .add=>K (.int k (k.wrap (a+b))) w
 | .sub=>K (.int k (k.wrap (a-b))) w
 | .mul=>K (.int k (k.wrap (a*b))) w
 | .quo=>jS (b≠0) (K (.int k (k.wrap (a.tdiv b))) w)
 | .rem=>jS (b≠0) (K (.int k (a.tmod b)) w)
 | .and=>K (.int k (kJ .and k a b)) w
 | .or=>K (.int k (kJ .or k a b)) w
 | .xor=>K (.int k (kJ .xor k a b)) w
 | .andNot=>K (.int k (kJ .andNot k a b)) w
 | .shl=>jS (0<=b) (K (.int k (k.wrap (a*2^min b.toNat k.bits))) w)
 | .shr=>jS (0<=b) (K (.int k (a.fdiv (2^min b.toNat k.bits))) w)
 | .eql=>K (.bool (a==b)) w
 | .neq=>K (.bool (a != b)) w
 | .lss=>K (.bool (decide (a<b))) w
 | .leq=>K (.bool (decide (a<=b))) w
 | .gtr=>K (.bool (decide (a>b))) w
 | .geq=>K (.bool (decide (a≥b))) w
def qU (a b:ByteArray):Bool:=a.toList==b.toList
def xP (a b:ByteArray):Bool:=Op.bytesLess a.toList b.toList
def y7 (a b:ByteArray):ByteArray:=bif xP a b||qU a b then a else b
def y8 (a b:ByteArray):ByteArray:=bif !xP a b then a else b
def Qv (op:BinOp)(a b:ByteArray)(w:World)(K:Value->World->Prop):Prop:=
 match op with
 | .add=>jS (((a.size+b.size:Nat):Int)<=IntKind.i64.max) (K (.string (a++b)) w)
 | .eql=>K (.bool (qU a b)) w
 | .neq=>K (.bool (!qU a b)) w
 | .lss=>K (.bool (xP a b)) w
 | .leq=>K (.bool (xP a b||qU a b)) w
 | .gtr=>K (.bool (!(xP a b||qU a b))) w
 | .geq=>K (.bool (!xP a b)) w
 | _=>False
def xQ (P:Program)(q:Bool)(op:BinOp)(t:TypeId)(x y:Operand)(a b:Value)(w:World)(K:Value->World->Prop):Prop:=
 match a,b with
 | .int k m, .int k' n=>(match op with
  | .shl=>H8 .shl k m n w K
  | .shr=>H8 .shr k m n w K
  | op=>bif decide (k=k')then H8 op k m n w K else False)
 | .string m, .string n=>Qv op m n w K
 | .bool m, .bool n=>(match op with
  | .eql=>(match P.underlying t with|some .bool=>K (.bool (m==n)) w|_=>False)
  | .neq=>(match P.underlying t with|some .bool=>K (.bool (!(m==n))) w|_=>False)
  | _=>False)
 | a,b=>kG P (do eqGuard op t x y a b;binOp op t a b) w (wr q w K)
def ZB (P:Program)(q:Bool)(op:UnOp)(a:Value)(w:World)(K:Value->World->Prop):Prop:=
 match op,a with
 | .not, .bool b=>K (.bool (!b)) w
 | .neg, .int k n=>K (.int k (k.wrap (0-n))) w
 | op,a=>kG P (Op.unary op a) w (wr q w K)
def vw (P:Program)(q:Bool)(src dst:TypeId)(a:Value)(w:World)(K:Value->World->Prop):Prop:=
 match P.underlying src,P.underlying dst,a with
 | some _,some (.int k), .int _ n=>K (.int k (k.wrap n)) w
 | some (.string),some .string, .string s=>K (.string s) w
 | _,_,a=>kG P (convert src dst a) w (wr q w K)
def tJ (P:Program)(t:TypeId):Option Bool:=
 match P.underlying t with
 | some (.struct _)=>some true
 | some (.array _ _)=>some true
 | some _=>some false
 | none=>none
def xR (P:Program)(t:TypeId)(cs:Array Value)(f:Nat)(w:World)(K:Value->World->Prop):Prop:=
 match P.underlying t with
 | some (.struct fs)=>(match fs.toList[f]? with
  | some fd=>(match tJ P fd.type,P.info? fd.type with
   | some true,some i=>rM ((cs.toList.drop fd.offset).take i.size) fun l=>K (.agg l.toArray) w
   | some false,some _=>(match cs.toList[fd.offset]? with
    | some v=>K v w
    | none=>False)
   | _,_=>False)
  | none=>False)
 | _=>False
def qI (P:Program)(t:TypeId)(a:Addr)(f:Nat)(w:World)(K:Value->World->Prop):Prop:=
 match P.underlying t with
 | some (.struct fs)=>(match fs.toList[f]? with
  | some fd=>(match P.info? fd.type with
   | some i=>bif Nat.beq i.size 0 then False else K (.pointer (some (a.add fd.offset))) w
   | none=>False)
  | none=>False)
 | _=>False
def qw (cells:List Value)(off:Nat)(vs:List Value):List Value:=
 match vs with
 | []=>cells
 | c::r=>qw (cells.set off c) (off+1) r
def tu (place:Nat->Option (Nat×Nat))(cells:List Value)(parts:List (Nat×Value)):Option (List Value):=
 match parts with
 | []=>some cells
 | (i,v)::rest=>(match place i with
  | none=>none
  | some (off,size)=>bif Nat.beq v.cells.toList.length size&&Nat.ble (off+v.cells.toList.length) cells.length then tu place (qw cells off v.cells.toList) rest else none)
def uy (P:Program)(fs:List Field):Option (List (Nat×Nat)):=
 match fs with
 | []=>some []
 | f::r=>(match P.info? f.type,uy P r with
  | some i,some l=>some ((f.offset,i.size)::l)
  | _,_=>none)
def xU (P:Program)(t:TypeId)(parts:List (Nat×Value))(w:World)(K:Value->World->Prop):Prop:=
 match (P.info? t).bind (·.zero),P.underlying t with
 | some z,some (.struct fs)=>(match uy P fs.toList with
  | some pl=>(match tu (fun i=>pl[i]?) z.cells.toList parts with
   | some l=>rM l fun l=>K (.agg l.toArray) w
   | none=>False)
  | none=>False)
 | some z,some (.array _ e)=>(match P.info? e with
  | some i=>(match tu (fun j=>some (j*i.size,i.size)) z.cells.toList parts with
   | some l=>rM l fun l=>K (.agg l.toArray) w
   | none=>False)
  | none=>False)
 | _,_=>False
def pY (P:Program)(t:TypeId)(n:Nat)(parts:List (Nat×Value))(w:World)(K:Value->World->Prop):Prop:=
 match P.underlying t with
 | some (.slice e)=>(match P.info? e with
  | some i=>(match i.zero with
   | some z=>bif Nat.beq z.cells.toList.length i.size&&Nat.ble 1 i.size&&Nat.ble (n*i.size) 16777216 then
     (match tu (fun j=>some (j*i.size,i.size)) (List.replicate n z.cells.toList).flatten parts with
     | some l=>rM l fun l=>K (.slice (some ⟨w.heap.size,0,none⟩) n n) (w.alloc (.cells l.toArray e))
     | none=>False)else False
   | none=>False)
  | none=>False)
 | _=>False
def qJ (ρ:jU)(xs:List Operand)(k:List Value->Prop):Prop:=rM (xs.map (mQ ρ)) k
def xW (P:Program)(q:Bool)(t ty:TypeId)(a:Value)(w:World)(K:Value->World->Prop):Prop:=
 match P.underlying t,a with
 | some .string, .string s=>K (.int .i64 s.size) w
 | some (.slice _), .slice _ n _=>K (.int .i64 n) w
 | some (.array n _),_=>K (.int .i64 n) w
 | _,a=>kG P (Builtin.len_ #[t] ty #[a]) w (wr q w K)
def vJ (P:Program)(q:Bool)(b:Builtin)(ts:List TypeId)(ty:TypeId)(args:List Value)(w:World)(K:Value->World->Prop):Prop:=
 match b,ts,args with
 | .len,[t],[a]=>xW P q t ty a w K
 | .min,_,[.int k x, .int _ y]=>K (.int k (min x y)) w
 | .max,_,[.int k x, .int _ y]=>K (.int k (max x y)) w
 | .min,_,[.string x, .string y]=>K (.string (y7 x y)) w
 | .max,_,[.string x, .string y]=>K (.string (y8 x y)) w
 | .append,ts,args=>kG P (Builtin.append_ ts.toArray ty args.toArray) w (wr q w K)
 | .copy,ts,args=>kG P (Builtin.copy_ ts.toArray ty args.toArray) w (wr q w K)
 | .min,ts,args=>kG P (Builtin.min_ ts.toArray ty args.toArray) w (wr q w K)
 | .max,ts,args=>kG P (Builtin.max_ ts.toArray ty args.toArray) w (wr q w K)
 | .len,ts,args=>kG P (Builtin.len_ ts.toArray ty args.toArray) w (wr q w K)
 | .cap,ts,args=>kG P (Builtin.cap_ ts.toArray ty args.toArray) w (wr q w K)
 | .delete,ts,args=>kG P (Builtin.delete_ ts.toArray ty args.toArray) w (wr q w K)
 | .clear,ts,args=>kG P (Builtin.clear_ ts.toArray ty args.toArray) w (wr q w K)
 | _,_,_=>False
def yM (P:Program)(q:Bool)(ρ:jU)(c:Call)(ty:TypeId)(w:World)(K:Value->World->Prop):Prop:=
 match c.callee with
 | .builtin b=>qJ ρ c.args.toList fun args=>vJ P q b c.argTypes.toList ty args w K
 | .value f=>(match mQ ρ f with
  | .func (.func g) first captured=>qJ ρ c.args.toList fun args=>MI P g ((first++args.toArray)++captured) w K
  | _=>False)
 | .invoke _ _=>False
def zO (P:Program)(q:Bool)(o:Oper)(ρ:jU)(w:World)(K:Value->World->Prop):Prop:=
 match o.op with
 | .move x=>force (mQ ρ x) fun v=>K v w
 | .assign x=>force (mQ ρ x) fun v=>K v w
 | .pick c a b=>(match mQ ρ c with
  | .bool t=>(match mQ ρ a,mQ ρ b with
   | .bool x, .bool y=>K (.bool (bif t then x else y)) w
   | _,_=>BO t (K (mQ ρ a) w) (K (mQ ρ b) w))
  | _=>False)
 | .alloc elem=>(match (P.info? elem).bind (·.zero)with
  | some (.agg cs)=>K (.pointer (some ⟨w.heap.size,0,none⟩)) (w.alloc (.cells cs elem))
  | some z=>K (.pointer (some ⟨w.heap.size,0,none⟩)) (w.alloc (.cells z.cells elem))
  | none=>False)
 | .box elem x=>force (mQ ρ x) fun v=>(match v with
  | .agg cs=>K (.pointer (some ⟨w.heap.size,0,none⟩)) (w.alloc (.cells cs elem))
  | v=>K (.pointer (some ⟨w.heap.size,0,none⟩)) (w.alloc (.cells v.cells elem)))
 | .build t parts=>rM (parts.toList.map fun p=>mQ ρ p.2) fun vs=>xU P t ((parts.toList.map (·.1)).zip vs) w K
 | .buildSlice t n parts=>rM (parts.toList.map fun p=>mQ ρ p.2) fun vs=>pY P t n ((parts.toList.map (·.1)).zip vs) w K
 | .load t a=>(match mQ ρ a with
  | .pointer (some a)=>kG P (loadVar t a) w (wr q w K)
  | _=>False)
 | .store t a x=>(match mQ ρ a with
  | .pointer (some a)=>force (mQ ρ x) fun v=>rD P (storeVar t a v) w fun w'=>K undef w'
  | _=>False)
 | .nilCheck x=>(match mQ ρ x with
  | .pointer (some a)=>K (.pointer (some a)) w
  | _=>False)
 | .binOp op t x y _=>xQ P q op t x y (mQ ρ x) (mQ ρ y) w K
 | .unOp op _ x=>ZB P q op (mQ ρ x) w K
 | .convert src dst x=>vw P q src dst (mQ ρ x) w K
 | .makeFunc fn first captured=>qJ ρ first.toList fun a=>qJ ρ captured.toList fun b=>K (.func fn a.toArray b.toArray) w
 | .makeMap t r=>vI (r.map (mQ ρ)) fun r=>kG P (Instr.makeMap t r) w (wr q w K)
 | .makeSlice t l c=>force (mQ ρ l) fun l=>force (mQ ρ c) fun c=>kG P (Instr.makeSlice t l c) w (wr q w K)
 | .slice t x lo hi mx=>force (mQ ρ x) fun x=>vI (lo.map (mQ ρ)) fun lo=>vI (hi.map (mQ ρ)) fun hi=>vI (mx.map (mQ ρ)) fun mx=>
   kG P (Instr.sliceAt t x lo hi mx) w (wr q w K)
 | .fieldAddr s x f=>(match mQ ρ x with
  | .pointer (some a)=>qI P s a f w K
  | _=>False)
 | .field t x f=>(match mQ ρ x with
  | .agg cs=>xR P t cs f w K
  | _=>False)
 | .indexAddr t x i=>force (mQ ρ x) fun x=>force (mQ ρ i) fun i=>kG P (Instr.indexAt t x i) w (wr q w K)
 | .index t x i=>force (mQ ρ x) fun x=>force (mQ ρ i) fun i=>kG P (Instr.index t x i) w (wr q w K)
 | .lookup t x i ok=>force (mQ ρ x) fun x=>force (mQ ρ i) fun i=>kG P (Instr.lookup t x i ok) w (wr q w K)
 | .mapUpdate t m k x=>force (mQ ρ m) fun m=>force (mQ ρ k) fun k=>force (mQ ρ x) fun x=>rD P (Instr.mapUpdate t m k x) w fun w'=>K undef w'
 | .insert t m k x=>force (mQ ρ m) fun m=>force (mQ ρ k) fun k=>force (mQ ρ x) fun x=>rD P (Instr.mapUpdate t m k x) w fun w'=>K undef w'
 | .range t x=>force (mQ ρ x) fun x=>kG P (Instr.range t x) w (wr q w K)
 | .next it s=>force (mQ ρ it) fun it=>kG P (Instr.next it s o.type) w (wr q w K)
 | .entry it=>force (mQ ρ it) fun it=>kG P (Instr.entry it) w (wr q w K)
 | .extract t i=>(match mQ ρ t with
  | .tuple vs=>(match vs.toList[i]? with
   | some v=>K v w
   | none=>False)
  | _=>False)
 | .call c=>yM P q ρ c o.type w K
 | _=>False
theorem Oper.X3 {P:Program}{o:Oper}{a:Act}{w:World}{next:Act->World->Prop}{Q:Exit->Act->World->Prop}{v:Value}{w':World}
  (h:(execOp a.eval o).run P w = .ok (.value v) w') (k:next (a.put o.dst v) w'):o.wp P a w next Q:=by
 unfold Oper.wp;rw [h];exact k
theorem Oper.H9 {P:Program}{o:Oper}{a:Act}{w:World}{next:Act->World->Prop}{Q:Exit->Act->World->Prop}{w':World}
  (h:(execOp a.eval o).run P w = .ok .skip w') (k:next (a.put o.dst undef) w'):o.wp P a w next Q:=by
 unfold Oper.wp;rw [h];exact k
def lS (o:Oper):Bool:=
 match o.op with
 | .move _ | .assign _ | .pick _ _ _ | .nilCheck _ | .binOp _ _ _ _ _ | .unOp _ _ _ | .convert _ _ _ | .fieldAddr _ _ _ | .field _ _ _
 | .indexAddr _ _ _ | .index _ _ _ | .slice _ _ _ _ _ | .lookup _ _ _ _ | .extract _ _ | .makeFunc _ _ _ | .load _ _ | .build _ _=>true
 | .call c=>(match c.callee with
  | .builtin .len=>true
  | .builtin .min=>true
  | .builtin .max=>true
  | .builtin .cap=>true
  | _=>false)
 | _=>false
def wK (o:Oper):Bool:=
 match o.op with
 | .move _ | .assign _ | .extract _ _ | .makeFunc _ _ _ | .nilCheck _=>true
 | _=>false
def Did (P:Program)(q:Bool)(o:Oper)(ρ:jU)(w:World)(K:Value->World->Prop):Prop:=
 (∃v w',(execOp (mQ ρ) o).run P w = .ok (.value v) w'∧K v w'∧(q=true->lS o=true->w'=w))∨
 (∃w',(execOp (mQ ρ) o).run P w = .ok .skip w'∧K undef w'∧lS o=false)∨
 (∃f args,(execOp (mQ ρ) o).run P w = .ok (.enter f args) w∧lS o=false∧Calls P f args w fun e w'=> ∃v,e = .returned v∧K v w')
theorem Did.wp {P:Program}{q:Bool}{o:Oper}{ρ:jU}{a:Act}{w:World}{K:Value->World->Prop}{next:Act->World->Prop}{Q:Exit->Act->World->Prop}
  (he:a.eval=mQ ρ) (h:Did P q o ρ w K) (hk : ∀v w',K v w'->next (a.put o.dst v) w'):o.wp P a w next Q:=by
 rcases h with ⟨v,w',hr,k,_⟩|⟨w',hr,k,_⟩|⟨f,args,hr,_,hc⟩
 ·exact Oper.X3 (he▸hr) (hk _ _ k)
 ·exact Oper.H9 (he▸hr) (hk _ _ k)
 ·unfold Oper.wp
  rw [he,hr]
  exact hc.mono fun e w' ⟨v,hv,k⟩=>by subst hv;exact hk _ _ k
theorem Did.quiet {P:Program}{o:Oper}{ρ:jU}{w:World}{K:Value->World->Prop}(hq:lS o=true)(h:Did P true o ρ w K) :
  ∃v,(execOp (mQ ρ) o).run P w = .ok (.value v) w∧K v w:=by
 rcases h with ⟨v,w',hr,k,he⟩|⟨w',hr,k,he⟩|⟨f,args,hr,he,hc⟩
 ·have:=he rfl hq
  subst this
  exact⟨v,hr,k⟩
 ·rw [hq]at he;cases he
 ·rw [hq]at he;cases he
theorem jR {P:Program}{t:TypeId}{d:TypeDesc}{w:World}(h:P.underlying t=some d):(underlying t).run P w = .ok d w:=by
 unfold underlying
 simp [h]
theorem oK {P:Program}{t:TypeId}{i:TypeInfo}{w:World}(h:P.info? t=some i):(typeInfo t).run P w = .ok i w:=by
 unfold typeInfo
 simp [h]
theorem ku {P:Program}{o:Oper}{ρ:jU}{w:World}{K:Value->World->Prop}{q:Bool}{v:Value}{w':World}
  (h:(execOp (mQ ρ) o).run P w = .ok (.value v) w') (k:K v w') (hq:q=true->lS o=true->w'=w):Did P q o ρ w K:= .inl ⟨v,w',h,k,hq⟩
theorem X4 {q:Bool}{w w':World}{K:Value->World->Prop}{v:Value}(h:wr q w K v w'):K v w':=by
 cases q with
 | false=>exact h
 | true=>exact h.go
theorem kG.un {P:Program}{s:Sem Value}{q:Bool}{w:World}{K:Value->World->Prop}(h:kG P s w (wr q w K)) :
  ∃v w',s.run P w = .ok v w'∧K v w'∧(q=true->w'=w):=
 let ⟨v,w',hr,hk⟩:=h.ex
 ⟨v,w',hr,X4 hk,fun e=>by subst e;exact hk.req⟩
theorem kG.same {P:Program}{s:Sem Value}{w:World}{K:Value->World->Prop}(h:kG P s w (wr true w K)) :
  ∃v,s.run P w = .ok v w∧K v w:=
 let ⟨v,w',hr,hk⟩:=h.ex
 ⟨v,by have:=hk.req;subst this;exact⟨hr,hk.go⟩⟩
theorem rD.un {P:Program}{s:Sem Unit}{w:World}{K:World->Prop}(h:rD P s w K) : ∃u w',s.run P w = .ok u w'∧K w':=h.ex
theorem pq {P:Program}{s:Sem Value}{w w':World}{v:Value}(h:s.run P w = .ok v w') :
  (do pure (Next.value (<-s)):Sem Next).run P w = .ok (.value v) w':=by
 simp [h]
theorem MJ {P:Program}{s:Sem Unit}{w w':World}{u:Unit}(h:s.run P w = .ok u w') :
  (do s;pure Next.skip:Sem Next).run P w = .ok .skip w':=by
 simp [h]
theorem ML {P:Program}{op:BinOp}{t:TypeId}{x y:Operand}{k:IntKind}{m n:Int}{w:World}{K:Value->World->Prop}
  (h:H8 op k m n w K) : ∃v,(do eqGuard op t x y (.int k m) (.int k n);binOp op t (.int k m) (.int k n):Sem Value).run P w = .ok v w∧K v w:=by
 have hg:(eqGuard op t x y (.int k m) (.int k n)).run P w = .ok () w:=by
  cases op<;>simp [eqGuard]
 cases op<;>simp only [H8]at h
 case add=>exact⟨_,by rw [Sem.run_bind,hg];simp [binOp,Op.intArith],h⟩
 case sub=>exact⟨_,by rw [Sem.run_bind,hg];simp [binOp,Op.intArith],h⟩
 case mul=>exact⟨_,by rw [Sem.run_bind,hg];simp [binOp,Op.intArith],h⟩
 case quo=>exact⟨_,by rw [Sem.run_bind,hg];simp [binOp,Op.intDiv,h.req],h.go⟩
 case rem=>exact⟨_,by rw [Sem.run_bind,hg];simp [binOp,Op.intDiv,h.req],h.go⟩
 case and=>exact⟨_,by rw [Sem.run_bind,hg];simp [binOp,Op.intBits,kJ],h⟩
 case or=>exact⟨_,by rw [Sem.run_bind,hg];simp [binOp,Op.intBits,kJ],h⟩
 case xor=>exact⟨_,by rw [Sem.run_bind,hg];simp [binOp,Op.intBits,kJ],h⟩
 case andNot=>exact⟨_,by rw [Sem.run_bind,hg];simp [binOp,Op.intBits,kJ],h⟩
 case shl=>exact⟨_,by rw [Sem.run_bind,hg];simp [binOp,Op.shift,iy.2 h.req],h.go⟩
 case shr=>exact⟨_,by rw [Sem.run_bind,hg];simp [binOp,Op.shift,iy.2 h.req],h.go⟩
 case eql=>exact⟨_,by rw [Sem.run_bind,hg];simp [binOp,Op.intCmp],h⟩
 case neq=>exact⟨_,by rw [Sem.run_bind,hg];simp [binOp,Op.intCmp],h⟩
 case lss=>exact⟨_,by rw [Sem.run_bind,hg];simp [binOp,Op.intCmp],h⟩
 case leq=>exact⟨_,by rw [Sem.run_bind,hg];simp [binOp,Op.intCmp],h⟩
 case gtr=>exact⟨_,by rw [Sem.run_bind,hg];simp [binOp,Op.intCmp],h⟩
 case geq=>exact⟨_,by rw [Sem.run_bind,hg];simp [binOp,Op.intCmp],h⟩
theorem zQ {P:Program}{op:BinOp}{t:TypeId}{x y:Operand}{k k':IntKind}{m n:Int}{w:World}{K:Value->World->Prop}
  (ho:op = .shl∨op = .shr) (h:H8 op k m n w K) : ∃v,(do eqGuard op t x y (.int k m) (.int k' n);binOp op t (.int k m) (.int k' n):Sem Value).run P w = .ok v w∧K v w:=by
 rcases ho with rfl|rfl
 ·exact⟨_,by simp [eqGuard,binOp,Op.shift,iy.2 h.req],h.go⟩
 ·exact⟨_,by simp [eqGuard,binOp,Op.shift,iy.2 h.req],h.go⟩
theorem MN {P:Program}{op:BinOp}{t:TypeId}{x y:Operand}{m n:ByteArray}{w:World}{K:Value->World->Prop}
  (h:Qv op m n w K) : ∃v,(do eqGuard op t x y (.string m) (.string n);binOp op t (.string m) (.string n):Sem Value).run P w = .ok v w∧K v w:=by
 have hg:(eqGuard op t x y (.string m) (.string n)).run P w = .ok () w:=by
  cases op<;>simp [eqGuard]
 cases op<;>simp only [Qv]at h
 case add=>exact⟨_,by rw [Sem.run_bind,hg];simp only [Result.andThen_ok,binOp,Op.stringOp,if_neg (iy.2 h.req)];rfl,h.go⟩
 case eql=>exact⟨_,by rw [Sem.run_bind,hg];rfl,h⟩
 case neq=>exact⟨_,by rw [Sem.run_bind,hg];rfl,h⟩
 case lss=>exact⟨_,by rw [Sem.run_bind,hg];rfl,h⟩
 case leq=>exact⟨_,by rw [Sem.run_bind,hg];rfl,h⟩
 case gtr=>exact⟨_,by rw [Sem.run_bind,hg];rfl,h⟩
 case geq=>exact⟨_,by rw [Sem.run_bind,hg];rfl,h⟩
 all_goals exact h.elim
theorem zS {P:Program}{t:TypeId}{m n:Bool}{w:World}(hu:P.underlying t=some .bool) :
  (Op.equal t (.bool m) (.bool n)).run P w = .ok (m==n) w:=by
 obtain⟨d,hd⟩ : ∃d,Op.maxDepth=d+1:=⟨Op.maxDepth-1,by decide⟩
 unfold Op.equal
 rw [hd]
 unfold Op.equalIn
 rw [Sem.run_bind,jR hu]
 rfl
theorem MO {P:Program}{q:Bool}{op:BinOp}{t:TypeId}{x y:Operand}{a b:Value}{w:World}{K:Value->World->Prop}
  (h:xQ P q op t x y a b w K) : ∃v w',(do eqGuard op t x y a b;binOp op t a b:Sem Value).run P w = .ok v w'∧K v w'∧(q=true->w'=w):=by
 unfold xQ at h
 split at h
 ·rename_i k m k' n
  split at h
  ·obtain⟨v,hr,hk⟩:=zQ (P:=P) (t:=t) (x:=x) (y:=y) (k':=k') (.inl rfl) h;exact⟨v,w,hr,hk,fun _=>rfl⟩
  ·obtain⟨v,hr,hk⟩:=zQ (P:=P) (t:=t) (x:=x) (y:=y) (k':=k') (.inr rfl) h;exact⟨v,w,hr,hk,fun _=>rfl⟩
  ·by_cases hkk:k=k'
   ·subst hkk
    simp only [decide_true,cond_true]at h
    obtain⟨v,hr,hk⟩:=ML (P:=P) (t:=t) (x:=x) (y:=y) h;exact⟨v,w,hr,hk,fun _=>rfl⟩
   ·simp [hkk]at h
 ·obtain⟨v,hr,hk⟩:=MN (P:=P) (t:=t) (x:=x) (y:=y) h;exact⟨v,w,hr,hk,fun _=>rfl⟩
 ·rename_i m n
  split at h
  ·split at h
   ·rename_i hu
    exact⟨_,w,by rw [Sem.run_bind];simp only [eqGuard,binOp,zS hu,Sem.run_bind,Result.andThen_ok];rfl,h,fun _=>rfl⟩
   ·cases h
  ·split at h
   ·rename_i hu
    exact⟨_,w,by rw [Sem.run_bind];simp only [eqGuard,binOp,zS hu,Sem.run_bind,Result.andThen_ok];rfl,h,fun _=>rfl⟩
   ·cases h
  ·cases h
 ·exact h.un
theorem Qw {P:Program}{q:Bool}{op:UnOp}{a:Value}{w:World}{K:Value->World->Prop}(h:ZB P q op a w K) :
  ∃v w',(Op.unary op a).run P w = .ok v w'∧K v w'∧(q=true->w'=w):=by
 unfold ZB at h
 split at h
 ·exact⟨_,w,by simp [Op.unary],h,fun _=>rfl⟩
 ·exact⟨_,w,by simp [Op.unary,Op.intArith],h,fun _=>rfl⟩
 ·exact h.un
theorem KF {P:Program}{q:Bool}{src dst:TypeId}{a:Value}{w:World}{K:Value->World->Prop}(h:vw P q src dst a w K) :
  ∃v w',(convert src dst a).run P w = .ok v w'∧K v w'∧(q=true->w'=w):=by
 unfold vw at h
 split at h
 ·rename_i d k q n h1 h2
  refine⟨_,w, ?_,h,fun _=>rfl⟩
  unfold convert
  rw [Sem.run_bind,jR h1,Result.andThen_ok,Sem.run_bind,jR h2,Result.andThen_ok]
  cases d<;>rfl
 ·rename_i s h1 h2
  refine⟨_,w, ?_,h,fun _=>rfl⟩
  unfold convert
  rw [Sem.run_bind,jR h1,Result.andThen_ok,Sem.run_bind,jR h2,Result.andThen_ok]
  rfl
 ·exact h.un
theorem ou {P:Program}{t:TypeId}{b:Bool}{w:World}(h:tJ P t=some b):(isAgg t).run P w = .ok b w:=by
 unfold tJ at h
 unfold isAgg
 split at h
 ·rename_i hu;rw [Sem.run_bind,jR hu];simp at h;subst h;rfl
 ·rename_i hu;rw [Sem.run_bind,jR hu];simp at h;subst h;rfl
 ·rename_i d h1 h2 hu
  rw [Sem.run_bind,jR hu]
  simp at h
  subst h
  cases d<;>first|rfl|exact(h1 _ rfl).elim|exact(h2 _ _ rfl).elim
 ·cases h
theorem Ia {P:Program}{t:TypeId}{cs:Array Value}{f:Nat}{w:World}{K:Value->World->Prop}(h:xR P t cs f w K) :
  ∃v,(Instr.field t (.agg cs) f).run P w = .ok v w∧K v w:=by
 unfold xR at h
 split at h
 ·rename_i fs hu
  split at h
  ·rename_i fd hf
   have hf':fs[f]? = some fd:=by rw [<-hf];simp
   unfold Instr.field
   rw [Sem.run_bind,jR hu,Result.andThen_ok]
   simp only [hf']
   split at h
   ·rename_i i ha hi
    rw [kK]at h
    refine⟨_, ?_,h⟩
    simp only [Sem.run_bind,asAgg,Sem.run_pure,Result.andThen_ok,part,ou ha,if_true,sizeOf,oK hi]
    congr 2
    apply gU
    simp
   ·rename_i i ha hi
    split at h
    ·rename_i v hv
     refine⟨v, ?_,h⟩
     have hv':cs[fd.offset]? = some v:=by rw [<-hv];simp
     simp only [Sem.run_bind,asAgg,Sem.run_pure,Result.andThen_ok,part,ou ha]
     simp [hv']
    ·cases h
   ·cases h
  ·cases h
 ·cases h
theorem zT {P:Program}{t:TypeId}{a:Addr}{f:Nat}{w:World}{K:Value->World->Prop}(h:qI P t a f w K) :
  ∃v,(Instr.fieldAt t (.pointer (some a)) f).run P w = .ok v w∧K v w:=by
 unfold qI at h
 split at h
 ·rename_i fs hu
  split at h
  ·rename_i fd hf
   have hf':fs[f]? = some fd:=by rw [<-hf];simp
   split at h
   ·rename_i i hi
    cases hz:Nat.beq i.size 0 with
    | true=>simp [hz]at h
    | false=>
     simp only [hz,cond_false]at h
     refine⟨_, ?_,h⟩
     have hne:i.size≠0:=fun e=>by simp [e]at hz
     unfold Instr.fieldAt
     rw [Sem.run_bind,jR hu,Result.andThen_ok]
     simp only [hf']
     simp [Instr.sureAddr,fieldPlace,sizeOf,oK hi,hne]
   ·cases h
  ·cases h
 ·cases h
theorem MP {P:Program}{q:Bool}{t ty:TypeId}{a:Value}{w:World}{K:Value->World->Prop}(h:xW P q t ty a w K) :
  ∃v w',(Builtin.len_ #[t] ty #[a]).run P w = .ok v w'∧K v w'∧(q=true->w'=w):=by
 unfold xW at h
 split at h
 ·rename_i hu;exact⟨_,w,by simp [Builtin.len_,jR hu,goInt],h,fun _=>rfl⟩
 ·rename_i hu;exact⟨_,w,by simp [Builtin.len_,jR hu,goInt],h,fun _=>rfl⟩
 ·rename_i hu;exact⟨_,w,by simp [Builtin.len_,jR hu,goInt],h,fun _=>rfl⟩
 ·exact h.un
theorem KG {P:Program}{w:World}(x y:ByteArray):(Builtin.min2 (.string x) (.string y)).run P w = .ok (.string (y7 x y)) w:=by
 have e:Builtin.min2 (.string x) (.string y)=(do pure (.string (if <-asBool (<-Op.stringOp .leq x y)then x else y))):=rfl
 rw [e]
 have e2:(Op.stringOp .leq x y).run P w = .ok (.bool (xP x y||qU x y)) w:=rfl
 rw [Sem.run_bind,e2,Result.andThen_ok]
 unfold y7
 cases (xP x y||qU x y)<;>rfl
theorem KH {P:Program}{w:World}(x y:ByteArray):(Builtin.max2 (.string x) (.string y)).run P w = .ok (.string (y8 x y)) w:=by
 have e:Builtin.max2 (.string x) (.string y)=(do pure (.string (if <-asBool (<-Op.stringOp .geq x y)then x else y))):=rfl
 rw [e]
 have e2:(Op.stringOp .geq x y).run P w = .ok (.bool (!xP x y)) w:=rfl
 rw [Sem.run_bind,e2,Result.andThen_ok]
 unfold y8
 cases xP x y<;>rfl
theorem Dy (x y:Int):(if y<x then y else x)=min x y:=aad
theorem Vl (x y:Int):(if y>x then y else x)=max x y:=aad
def MQ (b:Builtin):Bool:=match b with | .len=>true | .min=>true | .max=>true | .cap=>true|_=>false
theorem Ib {P:Program}{q:Bool}{b:Builtin}{ts:List TypeId}{ty:TypeId}{args:List Value}{cb:Array Bool}{w:World}{K:Value->World->Prop}
  (h:vJ P q b ts ty args w K) : ∃v w',(builtin b ts.toArray ty cb args.toArray).run P w = .ok (.value v) w'∧K v w'∧(q=true->(MQ b=true)->w'=w):=by
 unfold vJ at h
 split at h
 ·obtain⟨v,w',hr,hk,hq⟩:=MP h;exact⟨v,w',by simp [builtin,hr],hk,fun e _=>hq e⟩
 ·rename_i k x k' y
  exact⟨_,w,by simp only [builtin,Sem.run_bind,run_min_int2,Result.andThen_ok];rw [Dy];rfl,h,fun _ _=>rfl⟩
 ·rename_i k x k' y
  exact⟨_,w,by simp only [builtin,Sem.run_bind,run_max_int2,Result.andThen_ok];rw [Vl];rfl,h,fun _ _=>rfl⟩
 ·rename_i x y
  refine⟨_,w, ?_,h,fun _ _=>rfl⟩
  simp [builtin,Builtin.min_,KG]
 ·rename_i x y
  refine⟨_,w, ?_,h,fun _ _=>rfl⟩
  simp [builtin,Builtin.max_,KH]
 ·obtain⟨v,w',hr,hk,hq⟩:=h.un;exact⟨v,w',by simp [builtin,hr],hk,fun e _=>hq e⟩
 ·obtain⟨v,w',hr,hk,hq⟩:=h.un;exact⟨v,w',by simp [builtin,hr],hk,fun e _=>hq e⟩
 ·obtain⟨v,w',hr,hk,hq⟩:=h.un;exact⟨v,w',by simp [builtin,hr],hk,fun e _=>hq e⟩
 ·obtain⟨v,w',hr,hk,hq⟩:=h.un;exact⟨v,w',by simp [builtin,hr],hk,fun e _=>hq e⟩
 ·obtain⟨v,w',hr,hk,hq⟩:=h.un;exact⟨v,w',by simp [builtin,hr],hk,fun e _=>hq e⟩
 ·obtain⟨v,w',hr,hk,hq⟩:=h.un;exact⟨v,w',by simp [builtin,hr],hk,fun e _=>hq e⟩
 ·obtain⟨v,w',hr,hk,hq⟩:=h.un;exact⟨v,w',by simp [builtin,hr],hk,fun e _=>hq e⟩
 ·obtain⟨v,w',hr,hk,hq⟩:=h.un;exact⟨v,w',by simp [builtin,hr],hk,fun e _=>hq e⟩
 ·cases h
theorem wL {P:Program}{f:FuncId}{args:Array Value}{w:World}(h:callable P f=true) :
  (callFunc f args).run P w = .ok (.enter f args) w:=by
 unfold callable at h
 split at h
 ·rename_i fn hf
  simp only [ah,dR,beq_eq_false_iff_ne,ne_eq]at h
  have hb:fn.body≠none:=by intro e;simp [e]at h
  simp [callFunc,hf,h.1,hb]
 ·cases h
theorem tN (ρ:jU)(xs:Array Operand):xs.map (mQ ρ)=(xs.toList.map (mQ ρ)).toArray:=by
 apply gU
 simp
theorem KI {P:Program}{q:Bool}{o:Oper}{ρ:jU}{c:Call}{w:World}{K:Value->World->Prop}(ho:o.op = .call c)
  (h:yM P q ρ c o.type w K):Did P q o ρ w K:=by
 obtain⟨callee,args,ats⟩:=c
 unfold yM at h
 cases callee with
 | builtin b=>
  simp only [qJ,kK]at h
  obtain⟨v,w',hr,hk,hq⟩:=Ib (cb:=args.map fun | .const _=>true|_=>false) h
  refine ku ?_ hk (fun e e'=>hq e (by simp only [lS,ho]at e';cases b<;>first|rfl|exact e'))
  unfold execOp
  simp only [ho,resolve,invoke,Sem.run_bind,Sem.run_pure,Result.andThen_ok]
  rw [tN]
  have:ats.toList.toArray=ats:=aaA
  rw [this]at hr
  exact hr
 | value f=>
  simp only at h
  split at h
  ·rename_i g first captured hf
   simp only [qJ,kK]at h
   rcases h.un with ⟨h1,h2⟩|⟨v,h1,h2⟩
   ·refine .inr (.inr ⟨g,_, ?_,by simp [lS,ho],h2⟩)
    unfold execOp
    simp only [ho,resolve,Deferred.ofValue,invoke,Sem.run_bind,Sem.run_pure,Result.andThen_ok,hf]
    rw [tN,wL h1]
   ·refine ku ?_ h2 (fun _ _=>rfl)
    unfold execOp
    simp only [ho,resolve,Deferred.ofValue,invoke,Sem.run_bind,Sem.run_pure,Result.andThen_ok,hf]
    rw [tN,h1]
  ·cases h
 | invoke r m=>exact h.elim
theorem Ic (off:Nat) : ∀(vs:List Value) (j:Nat) (cs:Array Value),
  (vs.zipIdx j).foldl (fun cs (p:Value×Nat)=>cs.setIfInBounds (off+p.2) p.1) cs=(qw cs.toList (off+j) vs).toArray:=by
 intro vs
 induction vs with
 | nil=>intro j cs;simp [qw]
 | cons v r ih=>
  intro j cs
  simp only [List.zipIdx_cons,iP,qw]
  rw [ih]
  congr 2
  simp
theorem fill_eq (place:Nat->Option (Nat×Nat)) : ∀(parts:List (Nat×Value)) (cs l:List Value),
  tu place cs parts=some l->Instr.fill place cs.toArray parts=some l.toArray:=by
 intro parts
 induction parts with
 | nil=>intro cs l h;simp only [tu,aA]at h;subst h;rfl
 | cons p r ih=>
  obtain⟨i,v⟩:=p
  intro cs l h
  simp only [tu]at h
  simp only [Instr.fill]
  cases hp:place i with
  | none=>simp [hp]at h
  | some os=>
   obtain⟨off,size⟩:=os
   simp only [hp]at h
   cases hc:(Nat.beq v.cells.toList.length size&&Nat.ble (off+v.cells.toList.length) cs.length)with
   | false=>rw [hc]at h;cases h
   | true=>
    rw [hc,cond_true]at h
    simp only [ah]at hc
    have h1:=aj hc.1
    have h2:=ak hc.2
    simp only [Array.length_toList]at h1 h2
    have hcond:(decide (v.cells.size≠size)||decide (off+v.cells.size>cs.toArray.size))=false:=by
     simp [h1]
     omega
    simp only [hcond,aS,if_false]
    have hf:=Ic off v.cells.toList 0 cs.toArray
    simp only [bU]at hf
    rw [<-ih _ _ h]
    congr 1
    rw [<-Array.foldl_toList]
    simp only [Array.toList_zipIdx]
    exact hf
theorem KJ {P:Program} : ∀(fs:List Field) (pl:List (Nat×Nat)),uy P fs=some pl->
  fs.mapM (fun f=>(P.info? f.type).map fun i=>(f.offset,i.size))=some pl:=by
 intro fs
 induction fs with
 | nil=>intro pl h;simp only [uy,aA]at h;subst h;rfl
 | cons f r ih=>
  intro pl h
  simp only [uy]at h
  split at h
  ·rename_i i l hi hl
   simp only [aA]at h
   subst h
   simp [hi,ih _ hl]
  ·cases h
theorem tV {P:Program}{t:TypeId}{z:Value}{w:World}(h:(P.info? t).bind (·.zero)=some z):(zeroValue t).run P w = .ok z w:=by
 cases hi:P.info? t with
 | none=>simp [hi]at h
 | some i=>
  simp only [hi,dh]at h
  simp [zeroValue,oK hi,h]
theorem Ie {P:Program}{t:TypeId}{parts:List (Nat×Value)}{w:World}{K:Value->World->Prop}(h:xU P t parts w K) :
  ∃v,(Instr.build t parts.toArray).run P w = .ok v w∧K v w:=by
 unfold xU at h
 split at h
 ·rename_i z fs hz hu
  split at h
  ·rename_i pl hpl
   split at h
   ·rename_i l hl
    rw [kK]at h
    refine⟨_, ?_,h⟩
    refine run_build w t _ _ ?_
    have hf:=fill_eq _ _ _ _ hl
    cases hi:P.info? t with
    | none=>simp [hi]at hz
    | some i=>
     simp only [hi,dh]at hz
     unfold Program.built
     simp only [hi,hu,hz,KJ _ _ hpl]
     simpa using hf
   ·cases h
  ·cases h
 ·rename_i z n e hz hu
  split at h
  ·rename_i i hi
   split at h
   ·rename_i l hl
    rw [kK]at h
    refine⟨_, ?_,h⟩
    have hf:=fill_eq _ _ _ _ hl
    unfold Instr.build
    rw [Sem.run_bind,tV hz,Result.andThen_ok,Sem.run_bind,jR hu,Result.andThen_ok]
    simp only [sizeOf,Sem.run_bind,oK hi,Result.andThen_ok,Sem.run_pure]
    simp only [fP]at hf
    simp [hf]
   ·cases h
  ·cases h
 ·cases h
theorem EZ (l:List Value)(s:Nat)(hl:l.length=s)(hs:1<=s) : ∀n:Nat,
  (List.range (n*s)).map (fun k=>l[k%s]!)=(List.replicate n l).flatten
 | 0=>by simp
 | n+1=>by
  rw [aX,cu,List.range_add,bK,EZ l s hl hs n,iO,List.flatten_append]
  congr 1
  simp only [List.map_map,gK,List.flatten_nil,fM]
  apply List.ext_getElem
  ·simp [hl]
  ·intro i h1 h2
   simp only [au,gQ]at h1
   simp only [List.getElem_map,iZ,Function.comp]
   have:(n*s+i)%s=i:=by rw [fQ,Nat.mul_add_mod,bW h1]
   rw [this]
   simp [h2]
theorem uz (z:Array Value)(n s:Nat)(hl:z.size=s)(hs:1<=s) :
  (Array.range (n*s)).map (fun k=>z[k%z.size]!)=(List.replicate n z.toList).flatten.toArray:=by
 rw [<-EZ z.toList s abw hs n]
 apply gU
 subst hl
 simp only [Array.toList_map,Array.toList_range]
 refine iU fun k hk=> ?_
 have hlt:k%z.size<z.size:=Nat.mod_lt _ aad
 simp [hlt]
theorem y9 {P:Program}{t:TypeId}{n:Nat}{parts:List (Nat×Value)}{w:World}{K:Value->World->Prop}(h:pY P t n parts w K) :
  ∃v w',(Instr.buildSlice t n parts.toArray).run P w = .ok v w'∧K v w':=by
 unfold pY at h
 split at h
 ·rename_i e hu
  split at h
  ·rename_i i hi
   split at h
   ·rename_i z hz
    cases hc:(Nat.beq z.cells.toList.length i.size&&Nat.ble 1 i.size&&Nat.ble (n*i.size) 16777216)with
    | false=>rw [hc]at h;exact h.elim
    | true=>
     rw [hc,cond_true]at h
     simp only [ah]at hc
     have h1:=aj hc.1.1
     have h2:=ak hc.1.2
     have h3:=ak hc.2
     split at h
     ·rename_i l hl
      rw [kK]at h
      refine⟨_,_, ?_,h⟩
      have hf:=fill_eq _ _ _ _ hl
      rw [<-uz z.cells n i.size abg h2]at hf
      have hle : ¬(n*i.size>2^24):=by simpa using h3
      unfold Instr.buildSlice
      rw [Sem.run_bind,jR hu,Result.andThen_ok]
      simp only [sizeOf,Sem.run_bind,oK hi,Result.andThen_ok,Sem.run_pure,if_neg hle]
      by_cases h0:n*i.size=0
      ·have hn:n=0:=(Nat.mul_eq_zero.1 h0).resolve_right aad
       subst hn
       simp only [eG,if_true,Sem.run_bind,Sem.run_pure,Result.andThen_ok]
       simp only [eG]at hf
       have e:(Array.range 0).map (fun x=>(#[]:Array Value)[x%(#[]:Array Value).size]!)=(Array.range 0).map (fun x=>z.cells[x%z.cells.size]!):=aaA
       rw [e,hf]
       simp [newRow]
      ·simp only [if_neg h0,zeroValue,oK hi,Sem.run_bind,Result.andThen_ok,hz,Sem.run_pure,hf]
       simp [newRow]
     ·cases h
   ·cases h
  ·cases h
 ·cases h
theorem CJ (ρ:jU)(parts:Array (Nat×Operand)) :
  ((parts.toList.map (·.1)).zip (parts.toList.map fun p=>mQ ρ p.2)).toArray=parts.map fun(i,x)=>(i,mQ ρ x):=by
 apply gU
 simp only [Array.toList_map]
 induction parts.toList with
 | nil=>rfl
 | cons p r ih=>simp only [fJ,gy,ih]
theorem oM {P:Program}{q:Bool}{o:Oper}{ρ:jU}{w:World}{K:Value->World->Prop}(h:zO P q o ρ w K):Did P q o ρ w K:=by
 unfold zO at h
 cases ho:o.op<;>simp only [ho]at h
 case move x=>rw [force_eq]at h;exact ku (by unfold execOp;simp [ho]) h (fun _ _=>rfl)
 case assign x=>rw [force_eq]at h;exact ku (by unfold execOp;simp [ho]) h (fun _ _=>rfl)
 case pick c a b=>
  split at h
  ·rename_i t hc
   split at h
   ·rename_i x y ha hb
    refine ku ?_ h (fun _ _=>rfl)
    unfold execOp
    cases t<;>simp [ho,hc,asBool,ha,hb]
   ·cases t with
    | true=>exact ku (by unfold execOp;simp [ho,hc,asBool]) (show K (mQ ρ a) w from h) (fun _ _=>rfl)
    | false=>exact ku (by unfold execOp;simp [ho,hc,asBool]) (show K (mQ ρ b) w from h) (fun _ _=>rfl)
  ·cases h
 case alloc elem=>
  have go : ∀z,(P.info? elem).bind (·.zero)=some z->K (.pointer (some ⟨w.heap.size,0,none⟩)) (w.alloc (.cells z.cells elem))->Did P q o ρ w K:=fun z hz h=>by
   cases hi:P.info? elem with
   | none=>simp [hi]at hz
   | some i=>
    simp only [hi,dh]at hz
    refine ku ?_ h (fun _ e=>by simp [lS,ho]at e)
    unfold execOp
    simp [ho,Instr.alloc,zeroValue,oK hi,hz,newVar,newRow]
  split at h
  ·rename_i cs hz;exact go _ hz h
  ·rename_i z _ hz;exact go _ hz h
  ·cases h
 case box elem x=>
  rw [force_eq]at h
  have h':K (.pointer (some ⟨w.heap.size,0,none⟩)) (w.alloc (.cells (mQ ρ x).cells elem)):=by
   split at h
   ·rename_i cs hx;rw [hx];exact h
   ·exact h
  refine ku ?_ h' (fun _ e=>by simp [lS,ho]at e)
  unfold execOp
  simp [ho,Instr.box,newVar,newRow]
 case build t parts=>
  rw [kK]at h
  obtain⟨v,hr,hk⟩:=Ie h
  rw [CJ]at hr
  exact ku aao hk (fun _ _=>rfl)
 case buildSlice t n parts=>
  rw [kK]at h
  obtain⟨v,w',hr,hk⟩:=y9 h
  rw [CJ]at hr
  exact ku aao hk (fun _ e=>by simp [lS,ho]at e)
 case load t a=>
  split at h
  ·rename_i p hp
   obtain⟨v,w',hr,hk,hq⟩:=h.un
   refine ku (w':=w') (v:=v) ?_ hk (fun e _=>hq e)
   unfold execOp
   simp only [ho]
   exact pq (by simp only [Instr.loadAt,hp,Instr.sureAddr,Sem.run_bind,Sem.run_pure,Result.andThen_ok];exact hr)
  ·cases h
 case store t a x=>
  split at h
  ·rename_i p hp
   rw [force_eq]at h
   obtain⟨u,w',hr,hk⟩:=h.un
   refine .inr (.inl ⟨w', ?_,hk,by simp [lS,ho]⟩)
   unfold execOp
   simp only [ho]
   exact MJ (u:=u) (by simp only [Instr.storeAt,hp,Instr.sureAddr,Sem.run_bind,Sem.run_pure,Result.andThen_ok];exact hr)
  ·cases h
 case nilCheck x=>
  split at h
  ·rename_i p hp
   exact ku (by unfold execOp;simp only [ho,hp];rfl) h (fun _ _=>rfl)
  ·cases h
 case binOp op t x y yt=>
  obtain⟨v,w',hr,hk,hq⟩:=MO h
  exact ku aao hk (fun e _=>hq e)
 case unOp op t x=>
  obtain⟨v,w',hr,hk,hq⟩:=Qw h
  exact ku aao hk (fun e _=>hq e)
 case convert src dst x=>
  obtain⟨v,w',hr,hk,hq⟩:=KF h
  exact ku aao hk (fun e _=>hq e)
 case makeFunc fn first captured=>
  simp only [qJ,kK]at h
  refine ku ?_ h (fun _ _=>rfl)
  unfold execOp
  simp [ho,Instr.makeFunc,tN]
 case makeMap t r=>
  rw [xO]at h
  obtain⟨v,w',hr,hk,hq⟩:=h.un
  exact ku aao hk (fun e _=>hq e)
 case makeSlice t l c=>
  simp only [force_eq]at h
  obtain⟨v,w',hr,hk,hq⟩:=h.un
  exact ku aao hk (fun e _=>hq e)
 case slice t x lo hi mx=>
  simp only [force_eq,xO]at h
  obtain⟨v,w',hr,hk,hq⟩:=h.un
  exact ku aao hk (fun e _=>hq e)
 case fieldAddr s x f=>
  split at h
  ·rename_i p hp
   obtain⟨v,hr,hk⟩:=zT h
   exact ku (by unfold execOp;simp only [ho,hp];exact pq hr) hk (fun _ _=>rfl)
  ·cases h
 case field t x f=>
  split at h
  ·rename_i cs hc
   obtain⟨v,hr,hk⟩:=Ia h
   exact ku (by unfold execOp;simp only [ho,hc];exact pq hr) hk (fun _ _=>rfl)
  ·cases h
 case indexAddr t x i=>
  simp only [force_eq]at h
  obtain⟨v,w',hr,hk,hq⟩:=h.un
  exact ku aao hk (fun e _=>hq e)
 case index t x i=>
  simp only [force_eq]at h
  obtain⟨v,w',hr,hk,hq⟩:=h.un
  exact ku aao hk (fun e _=>hq e)
 case lookup t x i ok=>
  simp only [force_eq]at h
  obtain⟨v,w',hr,hk,hq⟩:=h.un
  exact ku aao hk (fun e _=>hq e)
 case mapUpdate t m k x=>
  simp only [force_eq]at h
  obtain⟨u,w',hr,hk⟩:=h.un
  exact .inr (.inl ⟨w',by unfold execOp;simp only [ho];exact MJ (u:=u) hr,hk,by simp [lS,ho]⟩)
 case insert t m k x=>
  simp only [force_eq]at h
  obtain⟨u,w',hr,hk⟩:=h.un
  exact .inr (.inl ⟨w',by unfold execOp;simp only [ho];exact MJ (u:=u) hr,hk,by simp [lS,ho]⟩)
 case range t x=>
  simp only [force_eq]at h
  obtain⟨v,w',hr,hk,hq⟩:=h.un
  exact ku aao hk (fun e _=>hq e)
 case next it s=>
  simp only [force_eq]at h
  obtain⟨v,w',hr,hk,hq⟩:=h.un
  exact ku aao hk (fun e _=>hq e)
 case entry it=>
  simp only [force_eq]at h
  obtain⟨v,w',hr,hk,hq⟩:=h.un
  exact ku aao hk (fun e _=>hq e)
 case extract t i=>
  split at h
  ·rename_i vs hv
   split at h
   ·rename_i v hi
    have hi':vs[i]? = some v:=by rw [<-hi];simp
    exact ku (by unfold execOp;simp only [ho,hv];exact pq (by simp [Instr.extract,hi'])) h (fun _ _=>rfl)
   ·cases h
  ·cases h
 case call c=>exact KI ho h
 all_goals exact h.elim
def vK (all:List Oper)(g:Nat):Option Nat:=match all[g]? with|some o=>o.dst|none=>none
def qx (P:Program)(q:Bool)(all:List Oper)(o:Oper)(ρ:jU)(w:World)(K:jU->Value->World->Prop)(oz:jU->Prop):Prop:=
 match o.guard with
 | none=>zO P q o ρ w fun v w'=>K ρ v w'
 | some (g,want)=>(match vK all g with
  | some s=>(match ρ s with
   | .bool t=>BO t
     (bif want then zO P q o (upd ρ s (.bool true)) w fun v w'=>K (upd ρ s (.bool true)) v w' else oz (upd ρ s (.bool true)))
     (bif want then oz (upd ρ s (.bool false))else zO P q o (upd ρ s (.bool false)) w fun v w'=>K (upd ρ s (.bool false)) v w')
   | _=>oz ρ)
  | none=>oz ρ)
def MR (P:Program)(all:List Oper)(l:List Oper)(ρ:jU)(w:World)(K:jU->World->Prop):Prop:=
 match l with
 | []=>K ρ w
 | o::rest=>qx P false all o ρ w (fun ρ' v w'=>MR P all rest (lG ρ' o.dst v) w' K) fun ρ'=>MR P all rest (lG ρ' o.dst undef) w K
theorem E5 {ρ:jU}{s:Nat}{v:Value}(h:ρ s=v):upd ρ s v=ρ:=by
 funext n
 unfold upd
 cases hb:Nat.beq n s with
 | false=>rfl
 | true=>rw [aj hb];exact h.symm
theorem vM {N:Nat}{ds:List Deferred}{ρ:jU}{a:Act}{ops:Array Oper}(hf:Fits N ds ρ a)(g:Nat) :
  yielded ops a.tmps g=(match vK ops.toList g with|some s=>(match ρ s with | .bool b=>some b|_=>none)|none=>none):=by
 unfold yielded vK
 rw [<-aT]
 cases ops.toList[g]? with
 | none=>rfl
 | some o=>
  simp only [dh]
  cases hd:o.dst with
  | none=>rfl
  | some s=>
   simp only [dh]
   have h1:=hf.get s
   by_cases hs:s<a.tmps.size
   ·simp only [Array.getD,hs,dif_pos]at h1
    rw [jd hs]
    have h2:a.tmps[s]=ρ s:=h1
    rw [h2]
    cases ρ s<;>rfl
   ·simp only [Array.getD,hs,dif_neg,not_false_eq_true]at h1
    rw [dP (jk hs), <-h1]
    rfl
theorem sH {P:Program}{q:Bool}{N:Nat}{ds:List Deferred}{ρ:jU}{a:Act}{ops:Array Oper}{o:Oper}{w:World}{K:jU->Value->World->Prop}{oz:jU->Prop}
  (hf:Fits N ds ρ a) (h:qx P q ops.toList o ρ w K oz) :
  (Region.wanted o (yielded ops a.tmps)=true∧zO P q o ρ w fun v w'=>K ρ v w')∨
  (Region.wanted o (yielded ops a.tmps)=false∧oz ρ):=by
 unfold qx at h
 unfold Region.wanted
 split at h
 ·rename_i hg;rw [hg];exact .inl ⟨rfl,h⟩
 ·rename_i g want hg
  rw [hg]
  simp only [vM hf g]
  split at h
  ·rename_i s hs
   cases hv:ρ s with
   | bool t=>
    have hu:upd ρ s (.bool t)=ρ:=E5 hv
    rw [hv]at h
    cases t<;>cases want<;>simp only [BO,cond_true,cond_false]at h<;>rw [hu]at h
    ·exact .inl ⟨rfl,h⟩
    ·exact .inr ⟨rfl,h⟩
    ·exact .inr ⟨rfl,h⟩
    ·exact .inl ⟨rfl,h⟩
   | _=>rw [hv]at h;exact .inr ⟨rfl,h⟩
  ·exact .inr ⟨rfl,h⟩
def nM (N:Nat)(W:Nat->Bool)(o:Oper):Bool:=match o.dst with|some d=>Nat.blt d N&&W d|none=>true
def Same (W:Nat->Bool)(ρ ρ':jU):Prop:= ∀n,W n=false->ρ' n=ρ n
theorem kX {N:Nat}{W:Nat->Bool}{o:Oper}(h:nM N W o=true) : ∀t,o.dst=some t->t<N:=by
 intro t ht
 simp only [nM,ht,ah]at h
 exact ak h.1
theorem Same.lG {W:Nat->Bool}{N:Nat}{o:Oper}{jK ρ:jU}{v:Value}(h:Same W jK ρ)(ho:nM N W o=true):Same W jK (lG ρ o.dst v):=by
 intro n hn
 cases hd:o.dst with
 | none=>exact h n hn
 | some d=>
  simp only [Vc.lG,upd]
  cases hb:Nat.beq n d with
  | false=>exact h n hn
  | true=>
   have:=aj hb
   subst this
   simp only [nM,hd,ah]at ho
   rw [hn]at ho
   exact absurd ho.2 aaA
theorem Ig {P:Program}{N:Nat}{ds:List Deferred}{W:Nat->Bool}{ops:Array Oper}{Q:Exit->Act->World->Prop}{K:jU->World->Prop}{jK:jU}
  (hK : ∀ρ' a' w',Fits N ds ρ' a'->Same W jK ρ'->K ρ' w'->Q .normal a' w') :
  ∀(l:List Oper) (k:Nat) (ρ:jU) (a:Act) (w:World),(∀j,l[j]? = ops.toList[k+j]?)->(∀o∈l,nM N W o=true)->Fits N ds ρ a->Same W jK ρ->
   MR P ops.toList l ρ w K->wpOps P ops Q (List.range' k l.length) a w:=by
 intro l
 induction l with
 | nil=>intro k ρ a w _ _ hf hs h;exact hK _ _ _ hf hs h
 | cons o rest ih=>
  intro k ρ a w hl hok hf hs h
  have ho:ops[k]? = some o:=by
   have:=hl 0
   simp only [bJ,bU]at this
   rw [<-aT];exact this.symm
  have ho1:nM N W o=true:=hok o aaA
  have step : ∀(v:Value) (w':World),MR P ops.toList rest (lG ρ o.dst v) w' K->wpOps P ops Q (List.range' (k+1) rest.length) (a.put o.dst v) w':=fun v w' hv=>
   ih (k+1) _ _ _ (fun j=>by have:=hl (j+1);simp only [dL]at this;rw [this];congr 1;omega) (fun o' ho'=>hok o' (by simp [ho']))
    (hf.put o.dst v (kX ho1)) (hs.lG ho1) hv
  simp only [aZ,iL]
  simp only [wpOps,ho]
  rcases sH hf h with ⟨hw,hv⟩|⟨hw,hv⟩
  ·simp only [hw,if_true]
   exact .inl ((oM hv).wp hf.eval fun v w' hk=>step v w' hk)
  ·simp only [hw,aS,if_false]
   exact step undef w hv
inductive Plan where
 | done
 | take (i:Nat) (p:Plan)
 | one (i:Nat) (p:Plan)
 | two (i:Nat) (p:Plan) (j:Nat) (r:Plan)
 | three (i:Nat) (p:Plan) (j:Nat) (r:Plan) (k:Nat) (q:Plan)
 | sink (i:Nat)
 | post (i:Nat) (p:Plan)
def X5 (pure:Bool)(S:World->Prop)(P:Program)(o:Oper)(ρ:jU)(v:Value)(k:Prop):Prop:=
 match pure with
 | true=>k
 | false=>kY (∀w',S w'->zO P true o ρ w' fun v' _=>v'=v) k
structure kT (S:World->Prop)(w:World)(k:(World->Prop)->Prop):Prop where
 ex : ∃S':World->Prop,(∀u,S' u->S u)∧S' w∧k S'
theorem kT.keep {S:World->Prop}{w:World}{k:(World->Prop)->Prop}(h:S w)(hk:k S):kT S w k:=⟨S,fun _ h=>h,h,hk⟩
theorem kT.below {jL w:World}{k:(World->Prop)->Prop}(h:Below jL.heap.size jL w)(hk:k fun u=>Below w.heap.size w u):kT (fun u=>Below jL.heap.size jL u) w k:=
 ⟨fun u=>Below w.heap.size w u,fun _ hu=>h.trans (hu.mono h.size),Below.refl _ _,hk⟩
def vD (P:Program)(all:List Oper)(yN:Bool)(p:Plan)(S:World->Prop)(ρ:jU)(w:World)(K:jU->World->Prop):Prop:=
 match p with
 | .done=>K ρ w
 | .take i p=>(match all[i]? with
  | some o=>qx P true all o ρ w (fun ρ' v w'=>X5 (yN||wK o) S P o ρ' v (vD P all yN p S (lG ρ' o.dst v) w' K)) fun ρ'=>vD P all yN p S (lG ρ' o.dst undef) w K
  | none=>False)
 | .one i p=>(match all[i]? with
  | some o=>qx P false all o ρ w (fun ρ' v w'=>kT S w' fun S'=>vD P all yN p S' (lG ρ' o.dst v) w' K) fun ρ'=>vD P all yN p S (lG ρ' o.dst undef) w K
  | none=>False)
 | .two i p j r=>(match all[i]?,all[j]? with
  | some o,some o'=>
   (qx P false all o ρ w (fun ρ' v w'=>kT S w' fun S'=>vD P all yN p S' (lG ρ' o.dst v) w' K) fun ρ'=>vD P all yN p S (lG ρ' o.dst undef) w K)∧
   (qx P false all o' ρ w (fun ρ' v w'=>kT S w' fun S'=>vD P all yN r S' (lG ρ' o'.dst v) w' K) fun ρ'=>vD P all yN r S (lG ρ' o'.dst undef) w K)
  | _,_=>False)
 | .three i p j r k q=>(match all[i]?,all[j]?,all[k]? with
  | some o,some o',some o''=>
   (qx P false all o ρ w (fun ρ' v w'=>kT S w' fun S'=>vD P all yN p S' (lG ρ' o.dst v) w' K) fun ρ'=>vD P all yN p S (lG ρ' o.dst undef) w K)∧
   (qx P false all o' ρ w (fun ρ' v w'=>kT S w' fun S'=>vD P all yN r S' (lG ρ' o'.dst v) w' K) fun ρ'=>vD P all yN r S (lG ρ' o'.dst undef) w K)∧
   (qx P false all o'' ρ w (fun ρ' v w'=>kT S w' fun S'=>vD P all yN q S' (lG ρ' o''.dst v) w' K) fun ρ'=>vD P all yN q S (lG ρ' o''.dst undef) w K)
  | _,_,_=>False)
 | .sink i=>(match all[i]? with
  | some o=>qx P false all o ρ w (fun ρ' v w'=>K (lG ρ' o.dst v) w') fun ρ'=>K (lG ρ' o.dst undef) w
  | none=>False)
 | .post _ _=>False
inductive Jv (ops:Array Oper)(i:Nat):Nat->Prop
 | one {o:Oper} {e:Edge} (h:ops[i]? = some o) (he:e∈o.after) (hb:Region.binds .any e=true):Jv ops i e.on
 | more {j:Nat} {o:Oper} {e:Edge} (ha:Jv ops i j) (h:ops[j]? = some o) (he:e∈o.after) (hb:Region.binds .any e=true):Jv ops i e.on
def zU (ops:Array Oper)(i:Nat):List Nat:=
 match ops[i]? with
 | some o=>(o.after.toList.filter fun e=>Region.binds .any e).map (·.on)
 | none=> []
def Ih (l m:List Nat):List Nat:=m.foldl (fun acc x=>if acc.contains x then acc else x::acc) l
def Vm (ops:Array Oper):Nat->List Nat->List Nat
 | 0,l=>l
 | n+1,l=>Vm ops n (l.foldl (fun acc j=>Ih acc (zU ops j)) l)
theorem CO {ops:Array Oper}{i k:Nat}(h:k∈zU ops i) : ∃o e,ops[i]? = some o∧e∈o.after∧Region.binds .any e=true∧e.on=k:=by
 unfold zU at h
 split at h
 ·rename_i o ho
  simp only [dH,List.mem_filter]at h
  obtain⟨e,⟨he,hb⟩,hk⟩:=h
  exact⟨o,e,ho,by simpa using he,hb,hk⟩
 ·cases h
theorem Ii {k:Nat} : ∀(m l:List Nat),k∈Ih l m->k∈l∨k∈m:=by
 intro m
 induction m with
 | nil=>intro l h;exact .inl h
 | cons x r ih=>
  intro l h
  rcases ih _ h with h|h
  ·simp only at h
   split at h
   ·exact .inl h
   ·rcases bG.1 h with rfl|h
    ·exact .inr aaA
    ·exact .inl h
  ·exact .inr (by simp [h])
theorem mem_grow {ops:Array Oper}{k:Nat} : ∀(m l:List Nat),k∈m.foldl (fun acc j=>Ih acc (zU ops j)) l->k∈l∨∃j∈m,k∈zU ops j:=by
 intro m
 induction m with
 | nil=>intro l h;exact .inl h
 | cons x r ih=>
  intro l h
  rcases ih _ h with h|⟨j,hj,hk⟩
  ·rcases Ii _ _ h with h|h
   ·exact .inl h
   ·exact .inr ⟨x,by simp,h⟩
  ·exact .inr ⟨j,by simp [hj],hk⟩
theorem MS {ops:Array Oper}{i k:Nat} : ∀(n:Nat) (l:List Nat),(∀x∈l,Jv ops i x)->k∈Vm ops n l->Jv ops i k:=by
 intro n
 induction n with
 | zero=>intro l h hk;exact h k hk
 | succ n ih=>
  intro l h hk
  refine ih _ (fun x hx=> ?_) hk
  rcases mem_grow _ _ hx with hx|⟨j,hj,hx⟩
  ·exact h x hx
  ·obtain⟨o,e,ho,he,hb,rfl⟩:=CO hx
   exact .more (h j hj) ho he hb
def sinkAt (ops:Array Oper)(i:Nat):Bool:=
 (List.range ops.size).all fun j=>j==i||(Vm ops ops.size (zU ops i)).contains j
theorem Ij {ops:Array Oper}{i j:Nat}(h:sinkAt ops i=true)(hj:j<ops.size)(hne:j≠i):Jv ops i j:=by
 simp only [sinkAt,bf,jA,iQ,beq_iff_eq]at h
 rcases h j hj with e|e
 ·exact absurd e hne
 ·refine MS ops.size (zU ops i) (fun x hx=> ?_) (by simpa using e)
  obtain⟨o,e,ho,he,hb,rfl⟩:=CO hx
  exact .one ho he hb
def Down (ops:Array Oper)(listed:Array Bool):Prop:=
 ∀j o,ops[j]? = some o->listed.getD j false=true->∀e∈o.after,Region.binds .any e=true->listed.getD e.on false=true
theorem Down.set {ops:Array Oper}{listed:Array Bool}{i:Nat}(h:Down ops listed)(hi:i∈Region.ready .any ops listed):Down ops (listed.setIfInBounds i true):=by
 intro j o ho hl e he hb
 by_cases hji:i=j
 ·subst hji
  obtain⟨_,o',ho',hall⟩:=mem_ready.1 hi
  rw [ho]at ho'
  injection ho' with ho'
  subst ho'
  exact getD_set_true (hall e he hb)
 ·rw [getD_set_ne false hji]at hl
  exact getD_set_true (h j o ho hl e he hb)
theorem Down.anc {ops:Array Oper}{listed:Array Bool}{i k:Nat}(h:Down ops listed)(hi:i∈Region.ready .any ops listed)(ha:Jv ops i k):listed.getD k false=true:=by
 induction ha with
 | one ho he hb=>
  obtain⟨_,o',ho',hall⟩:=mem_ready.1 hi
  rw [ho]at ho'
  injection ho' with ho'
  subst ho'
  exact hall _ he hb
 | more ha ho he hb ih=>exact h _ _ ho ih _ he hb
def lM (ops:Array Oper):Plan->Array Bool->Bool
 | .done,listed=>(Region.ready .any ops listed).isEmpty
 | .take i p,listed=>(match ops[i]? with|some o=>lS o|none=>false)&&(Region.ready .any ops listed).contains i&&Region.free .any ops listed i&&lM ops p (listed.setIfInBounds i true)
 | .one i p,listed=>(Region.ready .any ops listed== [i])&&lM ops p (listed.setIfInBounds i true)
 | .two i p j r,listed=>(Region.ready .any ops listed== [i,j])&&lM ops p (listed.setIfInBounds i true)&&lM ops r (listed.setIfInBounds j true)
 | .three i p j r k q,listed=>(Region.ready .any ops listed== [i,j,k])&&lM ops p (listed.setIfInBounds i true)&&lM ops r (listed.setIfInBounds j true)&&lM ops q (listed.setIfInBounds k true)
 | .sink i,listed=>(Region.ready .any ops listed== [i])&&sinkAt ops i&&(Region.ready .any ops (listed.setIfInBounds i true)).isEmpty
 | .post i p,listed=>(Region.ready .any ops listed== [i])&&lM ops p (listed.setIfInBounds i true)
def Plan.depth:Plan->Nat
 | .done=>0
 | .take _ p=>p.depth+1
 | .one _ p=>p.depth+1
 | .two _ p _ r=>max p.depth r.depth+1
 | .three _ p _ r _ q=>max (max p.depth r.depth) q.depth+1
 | .sink _=>1
 | .post _ p=>p.depth+1
def rO (ops:Array Oper)(p:Plan):Bool:=Region.noSelect ops&&Nat.ble p.depth ops.size&&lM ops p (Array.replicate ops.size false)
section
variable {P:Program}{ops:Array Oper}{Q:Exit->Act->World->Prop}{S:World->Prop}
def sJ (P:Program)(ops:Array Oper)(Q:Exit->Act->World->Prop)(S:World->Prop):Nat->Array Bool->Act->World->Prop
 | 0,listed,a,w=>Region.ready .any ops listed = []∧Q .normal a w
 | fuel+1,listed,a,w=>
  (Region.ready .any ops listed = []->Q .normal a w)∧
  ∀i∈Region.ready .any ops listed,wpOp P ops Q i (fun a' w'=>(sinkAt ops i=true∨S w')∧sJ P ops Q S fuel (listed.setIfInBounds i true) a' w') a w
theorem vN : ∀(fuel:Nat) (listed:Array Bool) (a:Act) (w:World),sJ P ops Q S fuel listed a w->wpAny P .any ops Q fuel listed a w
 | 0,_,_,_,h=>h
 | fuel+1,_,_,_,h=>⟨h.1,fun i hi=>wpOp_mono (fun a' w' h'=>vN fuel _ a' w' h'.2) (h.2 i hi)⟩
theorem nX {S':World->Prop}(h : ∀u,S' u->S u) : ∀(fuel:Nat) (listed:Array Bool) (a:Act) (w:World),sJ P ops Q S' fuel listed a w->sJ P ops Q S fuel listed a w
 | 0,_,_,_,hh=>hh
 | fuel+1,_,_,_,hh=>⟨hh.1,fun i hi=>wpOp_mono (fun a' w' h'=>⟨h'.1.imp id (h w'),nX h fuel _ a' w' h'.2⟩) (hh.2 i hi)⟩
theorem Dz {i:Nat}{oi:Oper}{v:Value}(hi:ops[i]? = some oi)(hsel : ∀(j:Nat) (o:Oper) cs b,ops[j]? = some o->o.op≠ .select cs b)
  (hQ : ∀c a w,Q (.panic c) (a.put oi.dst v) w->Q (.panic c) a w) :
  ∀(fuel:Nat) (listed:Array Bool) (a:Act) (w:World),
   (∀j oj,ops[j]? = some oj->j≠i->listed.getD j true=false->(∀e∈oj.after,Region.binds .any e=true->e.on≠i)->oi.apart ops oj=true)->
   Down ops listed->i∈Region.ready .any ops listed->YieldsIf P ops S oi v a->S w->
   sJ P ops Q S fuel (listed.setIfInBounds i true) (a.put oi.dst v) w->sJ P ops Q S (fuel+1) listed a w:=by
 intro fuel
 induction fuel with
 | zero=>
  intro listed a w _ _ hr hy hS H
  refine⟨fun h=>abj,fun j hj=> ?_⟩
  by_cases hji:j=i
  ·subst hji;exact hy.wpOp hi hS ⟨.inr hS,H⟩
  ·have:=ready_mono hj hji
   rw [H.1]at this
   cases this
 | succ fuel ih=>
  intro listed a w hfree hdown hr hy hS H
  refine⟨fun h=>abj,fun j hj=> ?_⟩
  by_cases hji:j=i
  ·subst hji;exact hy.wpOp hi hS ⟨.inr hS,H⟩
  ·have h1:=H.2 j (ready_mono hj hji)
   obtain⟨hjun,oj,hoj,hall⟩:=mem_ready.1 hj
   have hnot : ∀e∈oj.after,Region.binds .any e=true->e.on≠i:=fun e he hb heq=>by
    have h1:=hall e he hb
    have h0:=(mem_ready.1 hr).1
    rw [heq]at h1
    rcases gB i listed.size with h'|h'
    ·simp [h']at h0 h1;rw [h0]at h1;cases h1
    ·simp [dP h']at h1
   have h2:=wpOp_putIf hoj (hfree j oj hoj hji hjun hnot) (fun cs b=>hsel i oi cs b hi) (fun cs b=>hsel j oj cs b hoj) hQ hy h1
   have hfree' : ∀k ok,ops[k]? = some ok->k≠i->(listed.setIfInBounds j true).getD k true=false->
     (∀e∈ok.after,Region.binds .any e=true->e.on≠i)->oi.apart ops ok=true:=fun k ok hk hki hun hno=>by
    refine hfree k ok hk hki ?_ hno
    by_cases hjk:j=k
    ·subst hjk;exact hjun
    ·rw [getD_set_ne true hjk]at hun;exact hun
   have ZU:i∈Region.ready .any ops (listed.setIfInBounds j true):=ready_mono hr (jE hji)
   have hilt:i<ops.size:=(bM.1 hi).1
   have hns:sinkAt ops j=true->False:=fun hsk=>by
    have h1:=hdown.anc hj (Ij hsk hilt (jE hji))
    have h0:=(mem_ready.1 hr).1
    rcases gB i listed.size with h'|h'
    ·simp [h']at h0 h1;rw [h0]at h1;cases h1
    ·simp [dP h']at h1
   refine wpOp_mono (fun a' w' h3=> ?_) h2
   have hSw:S w':=h3.2.1.resolve_left hns
   refine⟨.inr hSw,ih (listed.setIfInBounds j true) a' w' hfree' (hdown.set hj) ZU h3.1 hSw ?_⟩
   rw [jh _ _ hji]
   exact h3.2.2
end
end Go.Proofs.YtnandbihiceihaaGreatDoor.Vc
