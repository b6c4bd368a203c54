/- Joined parts of the proof. A verification-condition reckoner for the model's code: the frame as a function of slots, one rule an operation; its sou -/
import Derived.Calls
import Derived.Orders
import Derived.OrdersHeld
import Derived.Below
import Derived.Laws.Sem
import Derived.Laws.World
import Derived.Laws.IdiomStrings
import Derived.Laws.Tables
import Derived.Laws.Small
import Derived.Laws.AppendOwn
import Derived.Laws.OwnMore
import Derived.Laws.MakeOwn
import Derived.IntWalk
import Derived.Laws.BytesArg
import Derived.Laws.Strings
import Derived.Laws.StructEq
import Derived.MapKept
import Derived.Carry
set_option linter.unusedVariables false
set_option linter.unusedSimpArgs false
set_option maxRecDepth 100000
set_option maxHeartbeats 16000000
namespace Go.Proofs.YtocckceefcmeaaaGreatDoor
abbrev ah:=@List.length_map
abbrev aj:=@List.getElem?_eq_getElem
abbrev ak:=@List.length_append
abbrev au:=@Bool.and_eq_true
abbrev ay:=@Nat.le_refl
abbrev aA:=@Nat.eq_of_beq_eq_true
abbrev aB:=@Nat.zero_le
abbrev aF:=@List.eq_nil_of_length_eq_zero
abbrev aG:=@List.getElem?_eq_some_iff
abbrev aH:=@List.take_succ_eq_append_getElem
abbrev aI:=@Option.some.injEq
abbrev aJ:=@List.map_append
abbrev aK:=@List.length_take
abbrev aN:=@Nat.le_of_ble_eq_true
abbrev aO:=@List.append_assoc
abbrev aP:=@List.getElem?_map
abbrev aS:=@Nat.zero_add
abbrev aT:=@List.mem_of_getElem?
abbrev aU:=@Nat.mul_le_mul_right
abbrev aV:=@Nat.lt_of_lt_of_le
abbrev aW:=@List.getD_eq_getElem?_getD
abbrev aX:=@List.length_drop
abbrev aZ:=@Bool.false_eq_true
abbrev bf:=@Array.getElem?_toList
abbrev bg:=@List.length_cons
abbrev bn:=@List.take_length
abbrev bC:=@List.length_set
abbrev bD:=@List.getElem_mem
abbrev bF:=@List.mem_cons
abbrev bG:=@List.mem_singleton
abbrev bH:=@List.getElem?_take
abbrev bI:=@List.nil_append
abbrev bJ:=@List.mem_cons_self
abbrev bK:=@Nat.add_mul
abbrev bM:=@Option.map_some
abbrev bP:=@Nat.eq_zero_or_pos
abbrev bQ:=@List.all_eq_true
abbrev bT:=@List.map_drop
abbrev bU:=@Nat.mod_eq_of_lt
abbrev bV:=@List.append_cancel_left
abbrev bW:=@List.mem_iff_getElem?
abbrev bY:=@List.getElem?_cons_zero
abbrev bZ:=@List.append_nil
abbrev cu:=@List.mem_append
abbrev cO:=@Array.getElem?_eq_some_iff
abbrev cZ:=@List.getElem?_drop
abbrev dh:=@List.mem_cons_of_mem
abbrev dw:=@Nat.pow_le_pow_right
abbrev dA:=@Nat.one_mul
abbrev dB:=@List.getElem?_append_right
abbrev dD:=@List.getElem?_set_self
abbrev dF:=@List.getElem?_append_left
abbrev dG:=@Nat.min_eq_left
abbrev dH:=@Nat.add_zero
abbrev dI:=@List.getElem?_cons_succ
abbrev dJ:=@Nat.lt_or_ge
abbrev dK:=@Int.toNat_natCast
abbrev dL:=@List.length_replicate
abbrev dM:=@List.drop_eq_getElem_cons
abbrev dN:=@Nat.le_trans
abbrev dO:=@List.pairwise_cons
abbrev dP:=@List.map_set
abbrev dQ:=@List.length_nil
abbrev dR:=@List.mem_map
abbrev dS:=@BitVec.toNat_ofNat
abbrev dU:=@Bool.not_eq_eq_eq_not
abbrev dV:=@List.length_pos_iff
abbrev dW:=@Nat.mul_one
abbrev dX:=@Classical.byContradiction
abbrev dY:=@Nat.zero_mul
abbrev dZ:=@List.take_of_length_le
abbrev eu:=@List.drop_left'
abbrev eG:=@List.take_left'
abbrev eP:=@Option.bind_some
abbrev eU:=@List.replicate_succ
abbrev eX:=@List.getElem?_eq_none
abbrev eY:=@List.take_append_drop
abbrev fA:=@List.mem_of_mem_take
abbrev fC:=@Bool.not_false
abbrev fD:=@Int.fdiv_eq_ediv_of_nonneg
abbrev fE:=@Bool.false_and
abbrev fF:=@List.foldl_cons
abbrev fG:=@Nat.add_assoc
abbrev fJ:=@Prod.mk.injEq
abbrev fK:=@List.map_take
abbrev fM:=@Array.getElem?_eq_none
abbrev fO:=@List.pairwise_iff_getElem
abbrev fP:=@List.getElem?_range
abbrev fQ:=@Bool.not_eq_true'
abbrev fU:=@Nat.mul_comm
abbrev fZ:=@Bool.not_eq_false'
abbrev gq:=@Bool.true_eq_false
abbrev gu:=@Array.getD_eq_getD_getElem?
abbrev gy:=@List.map_cons
abbrev gB:=@Bool.not_true
abbrev gG:=@Array.toList_push
abbrev gI:=@List.flatMap_cons
abbrev gJ:=@Nat.sub_self
abbrev gK:=@List.drop_zero
abbrev gQ:=@Nat.not_lt_zero
abbrev gU:=@Array.getElem?_setIfInBounds_ne
abbrev gV:=@List.mem_or_eq_of_mem_set
abbrev gW:=@List.cons_append
abbrev gX:=@List.map_replicate
abbrev gY:=@Nat.pow_succ
abbrev gZ:=@List.getElem?_set_ne
abbrev ig:=@List.mem_of_mem_drop
abbrev iq:=@List.flatten_cons
abbrev iw:=@Int.natCast_mul
abbrev iy:=@List.take_succ_cons
abbrev iC:=@Nat.beq_refl
abbrev iD:=@Option.getD_some
abbrev iE:=@Array.getElem?_modify
abbrev iG:=@List.set_append_right
abbrev iH:=@Int.natCast_add
abbrev iI:=@Array.toArray_toList
abbrev iJ:=@Nat.mod_lt
abbrev iK:=@Bool.true_and
abbrev iL:=@List.flatMap_append
abbrev iM:=@List.getElem_of_mem
abbrev iO:=@List.take_zero
abbrev iP:=@List.take_left
abbrev iQ:=@Int.le_refl
abbrev iR:=@List.zip_cons_cons
abbrev iT:=@List.drop_eq_nil_of_le
abbrev iU:=@List.range_succ
abbrev iV:=@Nat.lt_irrefl
abbrev iW:=@Array.getElem?_append
abbrev iY:=@Nat.lt_trichotomy
abbrev iZ:=@List.getElem_take
abbrev jc:=@Array.ext'
abbrev jd:=@List.range_eq_range'
abbrev je:=@Nat.sub_zero
abbrev jf:=@List.drop_length
abbrev jg:=@Array.mapM_eq_mapM_toList
abbrev jh:=@List.map_congr_left
abbrev ji:=@Bool.eq_false_or_eq_true
abbrev jk:=@Bool.or_eq_true
abbrev jl:=@Int.not_lt
abbrev jm:=@List.getElem_range
abbrev jo:=@Nat.add_sub_cancel_left
abbrev jq:=@Nat.le_of_eq
abbrev jr:=@List.getElem?_set
abbrev jv:=@List.ext_getElem?
abbrev jw:=@List.drop_take
abbrev jy:=@Nat.le_of_lt
abbrev jA:=@List.drop_of_length_le
abbrev jB:=@Nat.or_lt_two_pow
abbrev jC:=@Nat.mul_le_mul
abbrev jD:=@List.replicate_append_replicate
abbrev jE:=@BitVec.eq_of_toNat_eq
abbrev jF:=@Classical.choose_spec
abbrev jG:=@List.ext_getElem
abbrev jH:=@List.range'_succ
abbrev jI:=@List.not_mem_nil
abbrev jJ:=@Nat.lt_succ_self
abbrev jK:=@Nat.and_two_pow_sub_one_eq_mod
abbrev jL:=@List.replicate_succ'
abbrev jM:=@Nat.mul_pos
abbrev jO:=@Option.some.inj
abbrev jP:=@Nat.mul_le_mul_left
abbrev jQ:=@List.map_nil
abbrev jR:=@BitVec.toNat_ofInt
abbrev jS:=@Nat.add_sub_cancel
abbrev jT:=@List.drop_drop
abbrev jU:=@Array.getElem?_eq_getElem
abbrev jV:=@Decidable.not_not
abbrev jW:=@List.foldl_append
abbrev jX:=@Array.setIfInBounds_comm
abbrev jY:=@Bool.false_or
abbrev jZ:=@Array.getElem?_replicate
abbrev ku:=@List.getElem?_take_of_lt
abbrev kC:=@List.eq_of_mem_replicate
abbrev kD:=@List.getElem_map
abbrev kE:=@Nat.le_of_not_lt
abbrev kF:=@List.getElem?_replicate
abbrev kG:=@BitVec.toNat_xor
abbrev kH:=@List.flatMap_nil
abbrev kJ:=@List.pairwise_mergeSort
abbrev kK:=@List.pairwise_singleton
abbrev kL:=@List.getElem_cons_zero
abbrev kM:=@List.getElem_cons_succ
abbrev kN:=@List.flatMap_singleton
abbrev kP:=@Nat.mul_add_mod
abbrev kQ:=@BitVec.toNat_or
abbrev kR:=@Nat.div_le_self
abbrev kS:=@Nat.ble_eq_true_of_le
abbrev kT:=@Nat.div_lt_iff_lt_mul
abbrev kU:=@List.getElem?_toArray
abbrev kV:=@List.length_mergeSort
abbrev kW:=@List.mem_range
abbrev kX:=@List.take_take
abbrev kY:=@List.drop_left
abbrev kZ:=@Ne.symm
abbrev lq:=@List.map_map
abbrev lu:=@Nat.add_comm
abbrev lC:=@Nat.or_assoc
end Go.Proofs.YtocckceefcmeaaaGreatDoor
namespace Go.Proofs.YtocckceefcmeaaaGreatDoor.Vc
open Go.RowKit
abbrev lY:=Nat->Value
def upd (ρ:lY)(d:Nat)(v:Value):lY:=fun n=>bif Nat.beq n d then v else ρ n
def oD (ρ:lY)(d:Option Nat)(v:Value):lY:=match d with|some d=>upd ρ d v|none=>ρ
def pU (ρ:lY)(x:Operand):Value:=
 match x with
 | .tmp t=>ρ t
 | .const v=>v
 | .global g=> .pointer (some ⟨g,0,none⟩)
 | .func f=> .func (.func f) #[] #[]
structure Fits (N:Nat)(ds:List Deferred)(ρ:lY)(a:Act):Prop where
 size:a.tmps.size=N
 get : ∀t,a.tmps.getD t undef=ρ t
 defers:a.defers=ds
theorem Fits.eval {N:Nat}{ds:List Deferred}{ρ:lY}{a:Act}(h:Fits N ds ρ a):a.eval=pU ρ:=by
 funext x
 cases x with
 | tmp t=>exact h.get t
 | _=>rfl
theorem Fits.put {N:Nat}{ds:List Deferred}{ρ:lY}{a:Act}(h:Fits N ds ρ a)(d:Option Nat)(v:Value)(hd : ∀t,d=some t->t<N) :
  Fits N ds (oD ρ d v) (a.put d v):=by
 cases d with
 | none=>exact h
 | some t=>
  refine⟨by simp [Act.put,h.size],fun s=> ?_,by simp [Act.put,h.defers]⟩
  have ht:t<a.tmps.size:=by rw [h.size];exact hd t rfl
  by_cases hs:s=t
  ·subst hs
   simp [Act.put,oD,upd,ht]
  ·have hb:Nat.beq s t=false:=by
    cases hb:Nat.beq s t with
    | false=>rfl
    | true=>exact absurd (aA hb) hs
   have h1:=h.get s
   have hst:t≠s:=fun e=>hs e.symm
   simp only [Act.put,oD,upd,hb,cond_false]
   rw [<-h1]
   simp [gU hst]
structure nJ (P:Program)(s:Sem Value)(w:World)(K:Value->World->Prop):Prop where
 ex : ∃v w',s.run P w = .ok v w'∧K v w'
structure vw (P:Program)(s:Sem Unit)(w:World)(K:World->Prop):Prop where
 ex : ∃u w',s.run P w = .ok u w'∧K w'
def callable (P:Program)(f:FuncId):Bool:=
 match P.funcs[f]? with
 | some fn=> !(fn.name== "runtime.NumGoroutine")&&fn.body.isSome
 | none=>false
structure SQ (P:Program)(f:FuncId)(args:Array Value)(w:World)(K:Value->World->Prop):Prop where
 ok:callable P f=true
 runs:Calls P f args w fun e w'=> ∃v,e = .returned v∧K v w'
structure lG (p k:Prop):Prop where
 req:p
 go:k
structure og (p k:Prop):Prop where
 req:p
 go:k
def wr (q:Bool)(w:World)(K:Value->World->Prop):Value->World->Prop:=
 match q with
 | true=>fun v w'=>og (w'=w) (K v w')
 | false=>K
def Io (b:Bool)(t e:Prop):Prop:=match b with|true=>t|false=>e
theorem lD {b:Bool}{t e:Prop}(ht:b=true->t)(he:b=false->e):Io b t e:=by
 cases b
 ·exact he rfl
 ·exact ht rfl
theorem Ef {b:Bool}{t e:Prop}(hb:b=true)(ht:t):Io b t e:=by subst hb;exact ht
theorem QF {b:Bool}{t e:Prop}(hb:b=false)(ht:e):Io b t e:=by subst hb;exact ht
def force (v:Value)(k:Value->Prop):Prop:=
 match v with
 | .bool b=>k (.bool b)
 | .int q n=>k (.int q n)
 | .float q n=>k (.float q n)
 | .complex q a b=>k (.complex q a b)
 | .string s=>k (.string s)
 | .pointer a=>k (.pointer a)
 | .slice a n c=>k (.slice a n c)
 | .map r=>k (.map r)
 | .chan r=>k (.chan r)
 | .func f a b=>k (.func f a b)
 | .nilFunc=>k .nilFunc
 | .iface t v=>k (.iface t v)
 | .nilIface=>k .nilIface
 | .agg cs=>k (.agg cs)
 | .tuple vs=>k (.tuple vs)
theorem force_eq (v:Value)(k:Value->Prop):force v k=k v:=by cases v<;>rfl
def vO (l:List Value)(k:List Value->Prop):Prop:=
 match l with
 | []=>k []
 | x::r=>force x fun x'=>vO r fun r'=>k (x'::r')
theorem nO (l:List Value) : ∀k:List Value->Prop,vO l k=k l:=by
 induction l with
 | nil=>intro k;rfl
 | cons x r ih=>intro k;simp only [vO,force_eq,ih]
def AZ (v:Option Value)(k:Option Value->Prop):Prop:=
 match v with
 | some v=>force v fun v'=>k (some v')
 | none=>k none
theorem A8 (v:Option Value)(k:Option Value->Prop):AZ v k=k v:=by cases v<;>simp [AZ,force_eq]
def mD (op:BinOp)(k:IntKind)(a b:Int):Int:=
 match op with
 | .and=>k.wrap (BitVec.ofInt k.bits a &&& BitVec.ofInt k.bits b).toNat
 | .or=>k.wrap (BitVec.ofInt k.bits a ||| BitVec.ofInt k.bits b).toNat
 | .xor=>k.wrap (BitVec.ofInt k.bits a ^^^ BitVec.ofInt k.bits b).toNat
 | _=>k.wrap (BitVec.ofInt k.bits a &&& ~~~(BitVec.ofInt k.bits b)).toNat
def Ns (op:BinOp)(k:IntKind)(a b:Int)(w:World)(K:Value->World->Prop):Prop:=
 match op with
 | .add=>K (.int k (k.wrap (a+b))) w
 | .sub=>K (.int k (k.wrap (a-b))) w
 | .mul=>K (.int k (k.wrap (a*b))) w
 | .quo=>lG (b≠0) (K (.int k (k.wrap (a.tdiv b))) w)
 | .rem=>lG (b≠0) (K (.int k (a.tmod b)) w)
 | .and=>K (.int k (mD .and k a b)) w
 | .or=>K (.int k (mD .or k a b)) w
 | .xor=>K (.int k (mD .xor k a b)) w
 | .andNot=>K (.int k (mD .andNot k a b)) w
 | .shl=>lG (0<=b) (K (.int k (k.wrap (a*2^min b.toNat k.bits))) w)
 | .shr=>lG (0<=b) (K (.int k (a.fdiv (2^min b.toNat k.bits))) w)
 | .eql=>K (.bool (a==b)) w
 | .neq=>K (.bool (a != b)) w
 | .lss=>K (.bool (decide (a<b))) w
 | .leq=>K (.bool (decide (a<=b))) w
 | .gtr=>K (.bool (decide (a>b))) w
 | .geq=>K (.bool (decide (a≥b))) w
def wP (a b:ByteArray):Bool:=a.toList==b.toList
def J4 (a b:ByteArray):Bool:=Op.bytesLess a.toList b.toList
def Dn (a b:ByteArray):ByteArray:=bif J4 a b||wP a b then a else b
def Dp (a b:ByteArray):ByteArray:=bif !J4 a b then a else b
def Xg (op:BinOp)(a b:ByteArray)(w:World)(K:Value->World->Prop):Prop:=
 match op with
 | .add=>lG (((a.size+b.size:Nat):Int)<=IntKind.i64.max) (K (.string (a++b)) w)
 | .eql=>K (.bool (wP a b)) w
 | .neq=>K (.bool (!wP a b)) w
 | .lss=>K (.bool (J4 a b)) w
 | .leq=>K (.bool (J4 a b||wP a b)) w
 | .gtr=>K (.bool (!(J4 a b||wP a b))) w
 | .geq=>K (.bool (!J4 a b)) w
 | _=>False
def Ba (P:Program)(q:Bool)(op:BinOp)(t:TypeId)(x y:Operand)(a b:Value)(w:World)(K:Value->World->Prop):Prop:=
 match a,b with
 | .int k m, .int k' n=>(match op with
  | .shl=>Ns .shl k m n w K
  | .shr=>Ns .shr k m n w K
  | op=>bif decide (k=k')then Ns op k m n w K else False)
 | .string m, .string n=>Xg op m n w K
 | .bool m, .bool n=>(match op with
  | .eql=>(match P.underlying t with|some .bool=>K (.bool (m==n)) w|_=>False)
  | .neq=>(match P.underlying t with|some .bool=>K (.bool (!(m==n))) w|_=>False)
  | _=>False)
 | a,b=>nJ P (do eqGuard op t x y a b;binOp op t a b) w (wr q w K)
def vUn (P:Program)(q:Bool)(op:UnOp)(a:Value)(w:World)(K:Value->World->Prop):Prop:=
 match op,a with
 | .not, .bool b=>K (.bool (!b)) w
 | .neg, .int k n=>K (.int k (k.wrap (0-n))) w
 | op,a=>nJ P (Op.unary op a) w (wr q w K)
def yR (P:Program)(q:Bool)(src dst:TypeId)(a:Value)(w:World)(K:Value->World->Prop):Prop:=
 match P.underlying src,P.underlying dst,a with
 | some _,some (.int k), .int _ n=>K (.int k (k.wrap n)) w
 | some (.string),some .string, .string s=>K (.string s) w
 | _,_,a=>nJ P (convert src dst a) w (wr q w K)
def xH (P:Program)(t:TypeId):Option Bool:=
 match P.underlying t with
 | some (.struct _)=>some true
 | some (.array _ _)=>some true
 | some _=>some false
 | none=>none
def Bc (P:Program)(t:TypeId)(cs:Array Value)(f:Nat)(w:World)(K:Value->World->Prop):Prop:=
 match P.underlying t with
 | some (.struct fs)=>(match fs.toList[f]? with
  | some fd=>(match xH P fd.type,P.info? fd.type with
   | some true,some i=>vO ((cs.toList.drop fd.offset).take i.size) fun l=>K (.agg l.toArray) w
   | some false,some _=>(match cs.toList[fd.offset]? with
    | some v=>K v w
    | none=>False)
   | _,_=>False)
  | none=>False)
 | _=>False
def uM (P:Program)(t:TypeId)(a:Addr)(f:Nat)(w:World)(K:Value->World->Prop):Prop:=
 match P.underlying t with
 | some (.struct fs)=>(match fs.toList[f]? with
  | some fd=>(match P.info? fd.type with
   | some i=>bif Nat.beq i.size 0 then False else K (.pointer (some (a.add fd.offset))) w
   | none=>False)
  | none=>False)
 | _=>False
def tZ (cells:List Value)(off:Nat)(vs:List Value):List Value:=
 match vs with
 | []=>cells
 | c::r=>tZ (cells.set off c) (off+1) r
def xC (place:Nat->Option (Nat×Nat))(cells:List Value)(parts:List (Nat×Value)):Option (List Value):=
 match parts with
 | []=>some cells
 | (i,v)::rest=>(match place i with
  | none=>none
  | some (off,size)=>bif Nat.beq v.cells.toList.length size&&Nat.ble (off+v.cells.toList.length) cells.length then xC place (tZ cells off v.cells.toList) rest else none)
def x9 (P:Program)(fs:List Field):Option (List (Nat×Nat)):=
 match fs with
 | []=>some []
 | f::r=>(match P.info? f.type,x9 P r with
  | some i,some l=>some ((f.offset,i.size)::l)
  | _,_=>none)
def Bd (P:Program)(t:TypeId)(parts:List (Nat×Value))(w:World)(K:Value->World->Prop):Prop:=
 match (P.info? t).bind (·.zero),P.underlying t with
 | some z,some (.struct fs)=>(match x9 P fs.toList with
  | some pl=>(match xC (fun i=>pl[i]?) z.cells.toList parts with
   | some l=>vO l fun l=>K (.agg l.toArray) w
   | none=>False)
  | none=>False)
 | some z,some (.array _ e)=>(match P.info? e with
  | some i=>(match xC (fun j=>some (j*i.size,i.size)) z.cells.toList parts with
   | some l=>vO l fun l=>K (.agg l.toArray) w
   | none=>False)
  | none=>False)
 | _,_=>False
def tC (P:Program)(t:TypeId)(n:Nat)(parts:List (Nat×Value))(w:World)(K:Value->World->Prop):Prop:=
 match P.underlying t with
 | some (.slice e)=>(match P.info? e with
  | some i=>(match i.zero with
   | some z=>bif Nat.beq z.cells.toList.length i.size&&Nat.ble 1 i.size&&Nat.ble (n*i.size) 16777216 then
     (match xC (fun j=>some (j*i.size,i.size)) (List.replicate n z.cells.toList).flatten parts with
     | some l=>vO l fun l=>K (.slice (some ⟨w.heap.size,0,none⟩) n n) (w.alloc (.cells l.toArray e))
     | none=>False)else False
   | none=>False)
  | none=>False)
 | _=>False
def vF (ρ:lY)(xs:List Operand)(k:List Value->Prop):Prop:=vO (xs.map (pU ρ)) k
def Bf (P:Program)(q:Bool)(t ty:TypeId)(a:Value)(w:World)(K:Value->World->Prop):Prop:=
 match P.underlying t,a with
 | some .string, .string s=>K (.int .i64 s.size) w
 | some (.slice _), .slice _ n _=>K (.int .i64 n) w
 | some (.array n _),_=>K (.int .i64 n) w
 | _,a=>nJ P (Builtin.len_ #[t] ty #[a]) w (wr q w K)
def Bg (P:Program)(q:Bool)(b:Builtin)(ts:List TypeId)(ty:TypeId)(args:List Value)(w:World)(K:Value->World->Prop):Prop:=
 match b,ts,args with
 | .len,[t],[a]=>Bf P q t ty a w K
 | .min,_,[.int k x, .int _ y]=>K (.int k (min x y)) w
 | .max,_,[.int k x, .int _ y]=>K (.int k (max x y)) w
 | .min,_,[.string x, .string y]=>K (.string (Dn x y)) w
 | .max,_,[.string x, .string y]=>K (.string (Dp x y)) w
 | .append,ts,args=>nJ P (Builtin.append_ ts.toArray ty args.toArray) w (wr q w K)
 | .copy,ts,args=>nJ P (Builtin.copy_ ts.toArray ty args.toArray) w (wr q w K)
 | .min,ts,args=>nJ P (Builtin.min_ ts.toArray ty args.toArray) w (wr q w K)
 | .max,ts,args=>nJ P (Builtin.max_ ts.toArray ty args.toArray) w (wr q w K)
 | .len,ts,args=>nJ P (Builtin.len_ ts.toArray ty args.toArray) w (wr q w K)
 | .cap,ts,args=>nJ P (Builtin.cap_ ts.toArray ty args.toArray) w (wr q w K)
 | .delete,ts,args=>nJ P (Builtin.delete_ ts.toArray ty args.toArray) w (wr q w K)
 | .clear,ts,args=>nJ P (Builtin.clear_ ts.toArray ty args.toArray) w (wr q w K)
 | _,_,_=>False
def Eh (P:Program)(q:Bool)(ρ:lY)(c:Call)(ty:TypeId)(w:World)(K:Value->World->Prop):Prop:=
 match c.callee with
 | .builtin b=>vF ρ c.args.toList fun args=>Bg P q b c.argTypes.toList ty args w K
 | .value f=>(match pU ρ f with
  | .func (.func g) first captured=>vF ρ c.args.toList fun args=>SQ P g ((first++args.toArray)++captured) w K
  | _=>False)
 | .invoke _ _=>False
def Gp (P:Program)(q:Bool)(o:Oper)(ρ:lY)(w:World)(K:Value->World->Prop):Prop:=
 match o.op with
 | .move x=>force (pU ρ x) fun v=>K v w
 | .assign x=>force (pU ρ x) fun v=>K v w
 | .pick c a b=>(match pU ρ c with
  | .bool t=>(match pU ρ a,pU ρ b with
   | .bool x, .bool y=>K (.bool (bif t then x else y)) w
   | _,_=>Io t (K (pU ρ a) w) (K (pU ρ b) w))
  | _=>False)
 | .alloc elem=>(match (P.info? elem).bind (·.zero)with
  | some (.agg cs)=>K (.pointer (some ⟨w.heap.size,0,none⟩)) (w.alloc (.cells cs elem))
  | some z=>K (.pointer (some ⟨w.heap.size,0,none⟩)) (w.alloc (.cells z.cells elem))
  | none=>False)
 | .box elem x=>force (pU ρ x) fun v=>(match v with
  | .agg cs=>K (.pointer (some ⟨w.heap.size,0,none⟩)) (w.alloc (.cells cs elem))
  | v=>K (.pointer (some ⟨w.heap.size,0,none⟩)) (w.alloc (.cells v.cells elem)))
 | .build t parts=>vO (parts.toList.map fun p=>pU ρ p.2) fun vs=>Bd P t ((parts.toList.map (·.1)).zip vs) w K
 | .buildSlice t n parts=>vO (parts.toList.map fun p=>pU ρ p.2) fun vs=>tC P t n ((parts.toList.map (·.1)).zip vs) w K
 | .load t a=>(match pU ρ a with
  | .pointer (some a)=>nJ P (loadVar t a) w (wr q w K)
  | _=>False)
 | .store t a x=>(match pU ρ a with
  | .pointer (some a)=>force (pU ρ x) fun v=>vw P (storeVar t a v) w fun w'=>K undef w'
  | _=>False)
 | .nilCheck x=>(match pU ρ x with
  | .pointer (some a)=>K (.pointer (some a)) w
  | _=>False)
 | .binOp op t x y _=>Ba P q op t x y (pU ρ x) (pU ρ y) w K
 | .unOp op _ x=>vUn P q op (pU ρ x) w K
 | .convert src dst x=>yR P q src dst (pU ρ x) w K
 | .makeFunc fn first captured=>vF ρ first.toList fun a=>vF ρ captured.toList fun b=>K (.func fn a.toArray b.toArray) w
 | .makeMap t r=>AZ (r.map (pU ρ)) fun r=>nJ P (Instr.makeMap t r) w (wr q w K)
 | .makeSlice t l c=>force (pU ρ l) fun l=>force (pU ρ c) fun c=>nJ P (Instr.makeSlice t l c) w (wr q w K)
 | .slice t x lo hi mx=>force (pU ρ x) fun x=>AZ (lo.map (pU ρ)) fun lo=>AZ (hi.map (pU ρ)) fun hi=>AZ (mx.map (pU ρ)) fun mx=>
   nJ P (Instr.sliceAt t x lo hi mx) w (wr q w K)
 | .fieldAddr s x f=>(match pU ρ x with
  | .pointer (some a)=>uM P s a f w K
  | _=>False)
 | .field t x f=>(match pU ρ x with
  | .agg cs=>Bc P t cs f w K
  | _=>False)
 | .indexAddr t x i=>force (pU ρ x) fun x=>force (pU ρ i) fun i=>nJ P (Instr.indexAt t x i) w (wr q w K)
 | .index t x i=>force (pU ρ x) fun x=>force (pU ρ i) fun i=>nJ P (Instr.index t x i) w (wr q w K)
 | .lookup t x i ok=>force (pU ρ x) fun x=>force (pU ρ i) fun i=>nJ P (Instr.lookup t x i ok) w (wr q w K)
 | .mapUpdate t m k x=>force (pU ρ m) fun m=>force (pU ρ k) fun k=>force (pU ρ x) fun x=>vw P (Instr.mapUpdate t m k x) w fun w'=>K undef w'
 | .insert t m k x=>force (pU ρ m) fun m=>force (pU ρ k) fun k=>force (pU ρ x) fun x=>vw P (Instr.mapUpdate t m k x) w fun w'=>K undef w'
 | .range t x=>force (pU ρ x) fun x=>nJ P (Instr.range t x) w (wr q w K)
 | .next it s=>force (pU ρ it) fun it=>nJ P (Instr.next it s o.type) w (wr q w K)
 | .entry it=>force (pU ρ it) fun it=>nJ P (Instr.entry it) w (wr q w K)
 | .extract t i=>(match pU ρ t with
  | .tuple vs=>(match vs.toList[i]? with
   | some v=>K v w
   | none=>False)
  | _=>False)
 | .call c=>Eh P q ρ c o.type w K
 | _=>False
theorem Oper.adO {P:Program}{o:Oper}{a:Act}{w:World}{next:Act->World->Prop}{Q:Exit->Act->World->Prop}{v:Value}{w':World}
  (h:(execOp a.eval o).run P w = .ok (.value v) w') (k:next (a.put o.dst v) w'):o.wp P a w next Q:=by
 unfold Oper.wp;rw [h];exact k
theorem Oper.Nu {P:Program}{o:Oper}{a:Act}{w:World}{next:Act->World->Prop}{Q:Exit->Act->World->Prop}{w':World}
  (h:(execOp a.eval o).run P w = .ok .skip w') (k:next (a.put o.dst undef) w'):o.wp P a w next Q:=by
 unfold Oper.wp;rw [h];exact k
def oO (o:Oper):Bool:=
 match o.op with
 | .move _ | .assign _ | .pick _ _ _ | .nilCheck _ | .binOp _ _ _ _ _ | .unOp _ _ _ | .convert _ _ _ | .fieldAddr _ _ _ | .field _ _ _
 | .indexAddr _ _ _ | .index _ _ _ | .slice _ _ _ _ _ | .lookup _ _ _ _ | .extract _ _ | .makeFunc _ _ _ | .load _ _ | .build _ _=>true
 | .call c=>(match c.callee with
  | .builtin .len=>true
  | .builtin .min=>true
  | .builtin .max=>true
  | .builtin .cap=>true
  | _=>false)
 | _=>false
def zK (o:Oper):Bool:=
 match o.op with
 | .move _ | .assign _ | .extract _ _ | .makeFunc _ _ _ | .nilCheck _=>true
 | _=>false
def Did (P:Program)(q:Bool)(o:Oper)(ρ:lY)(w:World)(K:Value->World->Prop):Prop:=
 (∃v w',(execOp (pU ρ) o).run P w = .ok (.value v) w'∧K v w'∧(q=true->oO o=true->w'=w))∨
 (∃w',(execOp (pU ρ) o).run P w = .ok .skip w'∧K undef w'∧oO o=false)∨
 (∃f args,(execOp (pU ρ) o).run P w = .ok (.enter f args) w∧oO o=false∧Calls P f args w fun e w'=> ∃v,e = .returned v∧K v w')
theorem Did.wp {P:Program}{q:Bool}{o:Oper}{ρ:lY}{a:Act}{w:World}{K:Value->World->Prop}{next:Act->World->Prop}{Q:Exit->Act->World->Prop}
  (he:a.eval=pU ρ) (h:Did P q o ρ w K) (hk : ∀v w',K v w'->next (a.put o.dst v) w'):o.wp P a w next Q:=by
 rcases h with ⟨v,w',hr,k,_⟩|⟨w',hr,k,_⟩|⟨f,args,hr,_,hc⟩
 ·exact Oper.adO (he▸hr) (hk _ _ k)
 ·exact Oper.Nu (he▸hr) (hk _ _ k)
 ·unfold Oper.wp
  rw [he,hr]
  exact hc.mono fun e w' ⟨v,hv,k⟩=>by subst hv;exact hk _ _ k
theorem Did.quiet {P:Program}{o:Oper}{ρ:lY}{w:World}{K:Value->World->Prop}(hq:oO o=true)(h:Did P true o ρ w K) :
  ∃v,(execOp (pU ρ) o).run P w = .ok (.value v) w∧K v w:=by
 rcases h with ⟨v,w',hr,k,he⟩|⟨w',hr,k,he⟩|⟨f,args,hr,he,hc⟩
 ·have:=he rfl hq
  subst this
  exact⟨v,hr,k⟩
 ·rw [hq]at he;cases he
 ·rw [hq]at he;cases he
theorem lT {P:Program}{t:TypeId}{d:TypeDesc}{w:World}(h:P.underlying t=some d):(underlying t).run P w = .ok d w:=by
 unfold underlying
 simp [h]
theorem qY {P:Program}{t:TypeId}{i:TypeInfo}{w:World}(h:P.info? t=some i):(typeInfo t).run P w = .ok i w:=by
 unfold typeInfo
 simp [h]
theorem mZ {P:Program}{o:Oper}{ρ:lY}{w:World}{K:Value->World->Prop}{q:Bool}{v:Value}{w':World}
  (h:(execOp (pU ρ) o).run P w = .ok (.value v) w') (k:K v w') (hq:q=true->oO o=true->w'=w):Did P q o ρ w K:= .inl ⟨v,w',h,k,hq⟩
theorem adP {q:Bool}{w w':World}{K:Value->World->Prop}{v:Value}(h:wr q w K v w'):K v w':=by
 cases q with
 | false=>exact h
 | true=>exact h.go
theorem nJ.un {P:Program}{s:Sem Value}{q:Bool}{w:World}{K:Value->World->Prop}(h:nJ P s w (wr q w K)) :
  ∃v w',s.run P w = .ok v w'∧K v w'∧(q=true->w'=w):=
 let ⟨v,w',hr,hk⟩:=h.ex
 ⟨v,w',hr,adP hk,fun e=>by subst e;exact hk.req⟩
theorem nJ.same {P:Program}{s:Sem Value}{w:World}{K:Value->World->Prop}(h:nJ P s w (wr true w K)) :
  ∃v,s.run P w = .ok v w∧K v w:=
 let ⟨v,w',hr,hk⟩:=h.ex
 ⟨v,by have:=hk.req;subst this;exact⟨hr,hk.go⟩⟩
theorem vw.un {P:Program}{s:Sem Unit}{w:World}{K:World->Prop}(h:vw P s w K) : ∃u w',s.run P w = .ok u w'∧K w':=h.ex
theorem rU {P:Program}{s:Sem Value}{w w':World}{v:Value}(h:s.run P w = .ok v w') :
  (do pure (Next.value (<-s)):Sem Next).run P w = .ok (.value v) w':=by
 simp [h]
theorem SV {P:Program}{s:Sem Unit}{w w':World}{u:Unit}(h:s.run P w = .ok u w') :
  (do s;pure Next.skip:Sem Next).run P w = .ok .skip w':=by
 simp [h]
theorem SY {P:Program}{op:BinOp}{t:TypeId}{x y:Operand}{k:IntKind}{m n:Int}{w:World}{K:Value->World->Prop}
  (h:Ns op k m n w K) : ∃v,(do eqGuard op t x y (.int k m) (.int k n);binOp op t (.int k m) (.int k n):Sem Value).run P w = .ok v w∧K v w:=by
 have hg:(eqGuard op t x y (.int k m) (.int k n)).run P w = .ok () w:=by
  cases op<;>simp [eqGuard]
 cases op<;>simp only [Ns]at h
 case add=>exact⟨_,by rw [Sem.run_bind,hg];simp [binOp,Op.intArith],h⟩
 case sub=>exact⟨_,by rw [Sem.run_bind,hg];simp [binOp,Op.intArith],h⟩
 case mul=>exact⟨_,by rw [Sem.run_bind,hg];simp [binOp,Op.intArith],h⟩
 case quo=>exact⟨_,by rw [Sem.run_bind,hg];simp [binOp,Op.intDiv,h.req],h.go⟩
 case rem=>exact⟨_,by rw [Sem.run_bind,hg];simp [binOp,Op.intDiv,h.req],h.go⟩
 case and=>exact⟨_,by rw [Sem.run_bind,hg];simp [binOp,Op.intBits,mD],h⟩
 case or=>exact⟨_,by rw [Sem.run_bind,hg];simp [binOp,Op.intBits,mD],h⟩
 case xor=>exact⟨_,by rw [Sem.run_bind,hg];simp [binOp,Op.intBits,mD],h⟩
 case andNot=>exact⟨_,by rw [Sem.run_bind,hg];simp [binOp,Op.intBits,mD],h⟩
 case shl=>exact⟨_,by rw [Sem.run_bind,hg];simp [binOp,Op.shift,jl.2 h.req],h.go⟩
 case shr=>exact⟨_,by rw [Sem.run_bind,hg];simp [binOp,Op.shift,jl.2 h.req],h.go⟩
 case eql=>exact⟨_,by rw [Sem.run_bind,hg];simp [binOp,Op.intCmp],h⟩
 case neq=>exact⟨_,by rw [Sem.run_bind,hg];simp [binOp,Op.intCmp],h⟩
 case lss=>exact⟨_,by rw [Sem.run_bind,hg];simp [binOp,Op.intCmp],h⟩
 case leq=>exact⟨_,by rw [Sem.run_bind,hg];simp [binOp,Op.intCmp],h⟩
 case gtr=>exact⟨_,by rw [Sem.run_bind,hg];simp [binOp,Op.intCmp],h⟩
 case geq=>exact⟨_,by rw [Sem.run_bind,hg];simp [binOp,Op.intCmp],h⟩
theorem Ei {P:Program}{op:BinOp}{t:TypeId}{x y:Operand}{k k':IntKind}{m n:Int}{w:World}{K:Value->World->Prop}
  (ho:op = .shl∨op = .shr) (h:Ns op k m n w K) : ∃v,(do eqGuard op t x y (.int k m) (.int k' n);binOp op t (.int k m) (.int k' n):Sem Value).run P w = .ok v w∧K v w:=by
 rcases ho with rfl|rfl
 ·exact⟨_,by simp [eqGuard,binOp,Op.shift,jl.2 h.req],h.go⟩
 ·exact⟨_,by simp [eqGuard,binOp,Op.shift,jl.2 h.req],h.go⟩
theorem S9 {P:Program}{op:BinOp}{t:TypeId}{x y:Operand}{m n:ByteArray}{w:World}{K:Value->World->Prop}
  (h:Xg op m n w K) : ∃v,(do eqGuard op t x y (.string m) (.string n);binOp op t (.string m) (.string n):Sem Value).run P w = .ok v w∧K v w:=by
 have hg:(eqGuard op t x y (.string m) (.string n)).run P w = .ok () w:=by
  cases op<;>simp [eqGuard]
 cases op<;>simp only [Xg]at h
 case add=>exact⟨_,by rw [Sem.run_bind,hg];simp only [Result.andThen_ok,binOp,Op.stringOp,if_neg (jl.2 h.req)];rfl,h.go⟩
 case eql=>exact⟨_,by rw [Sem.run_bind,hg];rfl,h⟩
 case neq=>exact⟨_,by rw [Sem.run_bind,hg];rfl,h⟩
 case lss=>exact⟨_,by rw [Sem.run_bind,hg];rfl,h⟩
 case leq=>exact⟨_,by rw [Sem.run_bind,hg];rfl,h⟩
 case gtr=>exact⟨_,by rw [Sem.run_bind,hg];rfl,h⟩
 case geq=>exact⟨_,by rw [Sem.run_bind,hg];rfl,h⟩
 all_goals exact h.elim
theorem Ej {P:Program}{t:TypeId}{m n:Bool}{w:World}(hu:P.underlying t=some .bool) :
  (Op.equal t (.bool m) (.bool n)).run P w = .ok (m==n) w:=by
 obtain⟨d,hd⟩ : ∃d,Op.maxDepth=d+1:=⟨Op.maxDepth-1,by decide⟩
 unfold Op.equal
 rw [hd]
 unfold Op.equalIn
 rw [Sem.run_bind,lT hu]
 rfl
theorem Tc {P:Program}{q:Bool}{op:BinOp}{t:TypeId}{x y:Operand}{a b:Value}{w:World}{K:Value->World->Prop}
  (h:Ba P q op t x y a b w K) : ∃v w',(do eqGuard op t x y a b;binOp op t a b:Sem Value).run P w = .ok v w'∧K v w'∧(q=true->w'=w):=by
 unfold Ba at h
 split at h
 ·rename_i k m k' n
  split at h
  ·obtain⟨v,hr,hk⟩:=Ei (P:=P) (t:=t) (x:=x) (y:=y) (k':=k') (.inl rfl) h;exact⟨v,w,hr,hk,fun _=>rfl⟩
  ·obtain⟨v,hr,hk⟩:=Ei (P:=P) (t:=t) (x:=x) (y:=y) (k':=k') (.inr rfl) h;exact⟨v,w,hr,hk,fun _=>rfl⟩
  ·by_cases hkk:k=k'
   ·subst hkk
    simp only [decide_true,cond_true]at h
    obtain⟨v,hr,hk⟩:=SY (P:=P) (t:=t) (x:=x) (y:=y) h;exact⟨v,w,hr,hk,fun _=>rfl⟩
   ·simp [hkk]at h
 ·obtain⟨v,hr,hk⟩:=S9 (P:=P) (t:=t) (x:=x) (y:=y) h;exact⟨v,w,hr,hk,fun _=>rfl⟩
 ·rename_i m n
  split at h
  ·split at h
   ·rename_i hu
    exact⟨_,w,by rw [Sem.run_bind];simp only [eqGuard,binOp,Ej hu,Sem.run_bind,Result.andThen_ok];rfl,h,fun _=>rfl⟩
   ·cases h
  ·split at h
   ·rename_i hu
    exact⟨_,w,by rw [Sem.run_bind];simp only [eqGuard,binOp,Ej hu,Sem.run_bind,Result.andThen_ok];rfl,h,fun _=>rfl⟩
   ·cases h
  ·cases h
 ·exact h.un
theorem Xh {P:Program}{q:Bool}{op:UnOp}{a:Value}{w:World}{K:Value->World->Prop}(h:vUn P q op a w K) :
  ∃v w',(Op.unary op a).run P w = .ok v w'∧K v w'∧(q=true->w'=w):=by
 unfold vUn at h
 split at h
 ·exact⟨_,w,by simp [Op.unary],h,fun _=>rfl⟩
 ·exact⟨_,w,by simp [Op.unary,Op.intArith],h,fun _=>rfl⟩
 ·exact h.un
theorem QG {P:Program}{q:Bool}{src dst:TypeId}{a:Value}{w:World}{K:Value->World->Prop}(h:yR P q src dst a w K) :
  ∃v w',(convert src dst a).run P w = .ok v w'∧K v w'∧(q=true->w'=w):=by
 unfold yR at h
 split at h
 ·rename_i d k q n h1 h2
  refine⟨_,w, ?_,h,fun _=>rfl⟩
  unfold convert
  rw [Sem.run_bind,lT h1,Result.andThen_ok,Sem.run_bind,lT h2,Result.andThen_ok]
  cases d<;>rfl
 ·rename_i s h1 h2
  refine⟨_,w, ?_,h,fun _=>rfl⟩
  unfold convert
  rw [Sem.run_bind,lT h1,Result.andThen_ok,Sem.run_bind,lT h2,Result.andThen_ok]
  rfl
 ·exact h.un
theorem qM {P:Program}{t:TypeId}{b:Bool}{w:World}(h:xH P t=some b):(isAgg t).run P w = .ok b w:=by
 unfold xH at h
 unfold isAgg
 split at h
 ·rename_i hu;rw [Sem.run_bind,lT hu];simp at h;subst h;rfl
 ·rename_i hu;rw [Sem.run_bind,lT hu];simp at h;subst h;rfl
 ·rename_i d h1 h2 hu
  rw [Sem.run_bind,lT hu]
  simp at h
  subst h
  cases d<;>first|rfl|exact(h1 _ rfl).elim|exact(h2 _ _ rfl).elim
 ·cases h
theorem Nv {P:Program}{t:TypeId}{cs:Array Value}{f:Nat}{w:World}{K:Value->World->Prop}(h:Bc P t cs f w K) :
  ∃v,(Instr.field t (.agg cs) f).run P w = .ok v w∧K v w:=by
 unfold Bc at h
 split at h
 ·rename_i fs hu
  split at h
  ·rename_i fd hf
   have hf':fs[f]? = some fd:=by rw [<-hf];simp
   unfold Instr.field
   rw [Sem.run_bind,lT hu,Result.andThen_ok]
   simp only [hf']
   split at h
   ·rename_i i ha hi
    rw [nO]at h
    refine⟨_, ?_,h⟩
    simp only [Sem.run_bind,asAgg,Sem.run_pure,Result.andThen_ok,part,qM ha,if_true,sizeOf,qY hi]
    congr 2
    apply jc
    simp
   ·rename_i i ha hi
    split at h
    ·rename_i v hv
     refine⟨v, ?_,h⟩
     have hv':cs[fd.offset]? = some v:=by rw [<-hv];simp
     simp only [Sem.run_bind,asAgg,Sem.run_pure,Result.andThen_ok,part,qM ha]
     simp [hv']
    ·cases h
   ·cases h
  ·cases h
 ·cases h
theorem Em {P:Program}{t:TypeId}{a:Addr}{f:Nat}{w:World}{K:Value->World->Prop}(h:uM P t a f w K) :
  ∃v,(Instr.fieldAt t (.pointer (some a)) f).run P w = .ok v w∧K v w:=by
 unfold uM at h
 split at h
 ·rename_i fs hu
  split at h
  ·rename_i fd hf
   have hf':fs[f]? = some fd:=by rw [<-hf];simp
   split at h
   ·rename_i i hi
    cases hz:Nat.beq i.size 0 with
    | true=>simp [hz]at h
    | false=>
     simp only [hz,cond_false]at h
     refine⟨_, ?_,h⟩
     have hne:i.size≠0:=fun e=>by simp [e]at hz
     unfold Instr.fieldAt
     rw [Sem.run_bind,lT hu,Result.andThen_ok]
     simp only [hf']
     simp [Instr.sureAddr,fieldPlace,sizeOf,qY hi,hne]
   ·cases h
  ·cases h
 ·cases h
theorem Td {P:Program}{q:Bool}{t ty:TypeId}{a:Value}{w:World}{K:Value->World->Prop}(h:Bf P q t ty a w K) :
  ∃v w',(Builtin.len_ #[t] ty #[a]).run P w = .ok v w'∧K v w'∧(q=true->w'=w):=by
 unfold Bf at h
 split at h
 ·rename_i hu;exact⟨_,w,by simp [Builtin.len_,lT hu,goInt],h,fun _=>rfl⟩
 ·rename_i hu;exact⟨_,w,by simp [Builtin.len_,lT hu,goInt],h,fun _=>rfl⟩
 ·rename_i hu;exact⟨_,w,by simp [Builtin.len_,lT hu,goInt],h,fun _=>rfl⟩
 ·exact h.un
theorem QH {P:Program}{w:World}(x y:ByteArray):(Builtin.min2 (.string x) (.string y)).run P w = .ok (.string (Dn x y)) w:=by
 have e:Builtin.min2 (.string x) (.string y)=(do pure (.string (if <-asBool (<-Op.stringOp .leq x y)then x else y))):=rfl
 rw [e]
 have e2:(Op.stringOp .leq x y).run P w = .ok (.bool (J4 x y||wP x y)) w:=rfl
 rw [Sem.run_bind,e2,Result.andThen_ok]
 unfold Dn
 cases (J4 x y||wP x y)<;>rfl
theorem QI {P:Program}{w:World}(x y:ByteArray):(Builtin.max2 (.string x) (.string y)).run P w = .ok (.string (Dp x y)) w:=by
 have e:Builtin.max2 (.string x) (.string y)=(do pure (.string (if <-asBool (<-Op.stringOp .geq x y)then x else y))):=rfl
 rw [e]
 have e2:(Op.stringOp .geq x y).run P w = .ok (.bool (!J4 x y)) w:=rfl
 rw [Sem.run_bind,e2,Result.andThen_ok]
 unfold Dp
 cases J4 x y<;>rfl
theorem aa5 (x y:Int):(if y<x then y else x)=min x y:=by omega
theorem aa6 (x y:Int):(if y>x then y else x)=max x y:=by omega
def Tf (b:Builtin):Bool:=match b with | .len=>true | .min=>true | .max=>true | .cap=>true|_=>false
theorem Nw {P:Program}{q:Bool}{b:Builtin}{ts:List TypeId}{ty:TypeId}{args:List Value}{cb:Array Bool}{w:World}{K:Value->World->Prop}
  (h:Bg P q b ts ty args w K) : ∃v w',(builtin b ts.toArray ty cb args.toArray).run P w = .ok (.value v) w'∧K v w'∧(q=true->(Tf b=true)->w'=w):=by
 unfold Bg at h
 split at h
 ·obtain⟨v,w',hr,hk,hq⟩:=Td h;exact⟨v,w',by simp [builtin,hr],hk,fun e _=>hq e⟩
 ·rename_i k x k' y
  exact⟨_,w,by simp only [builtin,Sem.run_bind,run_min_int2,Result.andThen_ok];rw [aa5];rfl,h,fun _ _=>rfl⟩
 ·rename_i k x k' y
  exact⟨_,w,by simp only [builtin,Sem.run_bind,run_max_int2,Result.andThen_ok];rw [aa6];rfl,h,fun _ _=>rfl⟩
 ·rename_i x y
  refine⟨_,w, ?_,h,fun _ _=>rfl⟩
  simp [builtin,Builtin.min_,QH]
 ·rename_i x y
  refine⟨_,w, ?_,h,fun _ _=>rfl⟩
  simp [builtin,Builtin.max_,QI]
 ·obtain⟨v,w',hr,hk,hq⟩:=h.un;exact⟨v,w',by simp [builtin,hr],hk,fun e _=>hq e⟩
 ·obtain⟨v,w',hr,hk,hq⟩:=h.un;exact⟨v,w',by simp [builtin,hr],hk,fun e _=>hq e⟩
 ·obtain⟨v,w',hr,hk,hq⟩:=h.un;exact⟨v,w',by simp [builtin,hr],hk,fun e _=>hq e⟩
 ·obtain⟨v,w',hr,hk,hq⟩:=h.un;exact⟨v,w',by simp [builtin,hr],hk,fun e _=>hq e⟩
 ·obtain⟨v,w',hr,hk,hq⟩:=h.un;exact⟨v,w',by simp [builtin,hr],hk,fun e _=>hq e⟩
 ·obtain⟨v,w',hr,hk,hq⟩:=h.un;exact⟨v,w',by simp [builtin,hr],hk,fun e _=>hq e⟩
 ·obtain⟨v,w',hr,hk,hq⟩:=h.un;exact⟨v,w',by simp [builtin,hr],hk,fun e _=>hq e⟩
 ·obtain⟨v,w',hr,hk,hq⟩:=h.un;exact⟨v,w',by simp [builtin,hr],hk,fun e _=>hq e⟩
 ·cases h
theorem zL {P:Program}{f:FuncId}{args:Array Value}{w:World}(h:callable P f=true) :
  (callFunc f args).run P w = .ok (.enter f args) w:=by
 unfold callable at h
 split at h
 ·rename_i fn hf
  simp only [au,fQ,beq_eq_false_iff_ne,ne_eq]at h
  have hb:fn.body≠none:=by intro e;simp [e]at h
  simp [callFunc,hf,h.1,hb]
 ·cases h
theorem zM (ρ:lY)(xs:Array Operand):xs.map (pU ρ)=(xs.toList.map (pU ρ)).toArray:=by
 apply jc
 simp
theorem QJ {P:Program}{q:Bool}{o:Oper}{ρ:lY}{c:Call}{w:World}{K:Value->World->Prop}(ho:o.op = .call c)
  (h:Eh P q ρ c o.type w K):Did P q o ρ w K:=by
 obtain⟨callee,args,ats⟩:=c
 unfold Eh at h
 cases callee with
 | builtin b=>
  simp only [vF,nO]at h
  obtain⟨v,w',hr,hk,hq⟩:=Nw (cb:=args.map fun | .const _=>true|_=>false) h
  refine mZ ?_ hk (fun e e'=>hq e (by simp only [oO,ho]at e';cases b<;>first|rfl|exact e'))
  unfold execOp
  simp only [ho,resolve,invoke,Sem.run_bind,Sem.run_pure,Result.andThen_ok]
  rw [zM]
  have:ats.toList.toArray=ats:=by simp
  rw [this]at hr
  exact hr
 | value f=>
  simp only at h
  split at h
  ·rename_i g first captured hf
   simp only [vF,nO]at h
   refine .inr (.inr ⟨g,_, ?_,by simp [oO,ho],h.runs⟩)
   unfold execOp
   simp only [ho,resolve,Deferred.ofValue,invoke,Sem.run_bind,Sem.run_pure,Result.andThen_ok,hf]
   rw [zM,zL h.ok]
  ·cases h
 | invoke r m=>exact h.elim
theorem Ny (off:Nat) : ∀(vs:List Value) (j:Nat) (cs:Array Value),
  (vs.zipIdx j).foldl (fun cs (p:Value×Nat)=>cs.setIfInBounds (off+p.2) p.1) cs=(tZ cs.toList (off+j) vs).toArray:=by
 intro vs
 induction vs with
 | nil=>intro j cs;simp [tZ]
 | cons v r ih=>
  intro j cs
  simp only [List.zipIdx_cons,fF,tZ]
  rw [ih]
  congr 2
  simp
theorem fill_eq (place:Nat->Option (Nat×Nat)) : ∀(parts:List (Nat×Value)) (cs l:List Value),
  xC place cs parts=some l->Instr.fill place cs.toArray parts=some l.toArray:=by
 intro parts
 induction parts with
 | nil=>intro cs l h;simp only [xC,aI]at h;subst h;rfl
 | cons p r ih=>
  obtain⟨i,v⟩:=p
  intro cs l h
  simp only [xC]at h
  simp only [Instr.fill]
  cases hp:place i with
  | none=>simp [hp]at h
  | some os=>
   obtain⟨off,size⟩:=os
   simp only [hp]at h
   cases hc:(Nat.beq v.cells.toList.length size&&Nat.ble (off+v.cells.toList.length) cs.length)with
   | false=>rw [hc]at h;cases h
   | true=>
    rw [hc,cond_true]at h
    simp only [au]at hc
    have h1:=aA hc.1
    have h2:=aN hc.2
    simp only [Array.length_toList]at h1 h2
    have hcond:(decide (v.cells.size≠size)||decide (off+v.cells.size>cs.toArray.size))=false:=by
     simp [h1]
     omega
    simp only [hcond,aZ,if_false]
    have hf:=Ny off v.cells.toList 0 cs.toArray
    simp only [dH]at hf
    rw [<-ih _ _ h]
    congr 1
    rw [<-Array.foldl_toList]
    simp only [Array.toList_zipIdx]
    exact hf
theorem QK {P:Program} : ∀(fs:List Field) (pl:List (Nat×Nat)),x9 P fs=some pl->
  fs.mapM (fun f=>(P.info? f.type).map fun i=>(f.offset,i.size))=some pl:=by
 intro fs
 induction fs with
 | nil=>intro pl h;simp only [x9,aI]at h;subst h;rfl
 | cons f r ih=>
  intro pl h
  simp only [x9]at h
  split at h
  ·rename_i i l hi hl
   simp only [aI]at h
   subst h
   simp [hi,ih _ hl]
  ·cases h
theorem xK {P:Program}{t:TypeId}{z:Value}{w:World}(h:(P.info? t).bind (·.zero)=some z):(zeroValue t).run P w = .ok z w:=by
 cases hi:P.info? t with
 | none=>simp [hi]at h
 | some i=>
  simp only [hi,eP]at h
  simp [zeroValue,qY hi,h]
theorem Nz {P:Program}{t:TypeId}{parts:List (Nat×Value)}{w:World}{K:Value->World->Prop}(h:Bd P t parts w K) :
  ∃v,(Instr.build t parts.toArray).run P w = .ok v w∧K v w:=by
 unfold Bd at h
 split at h
 ·rename_i z fs hz hu
  split at h
  ·rename_i pl hpl
   split at h
   ·rename_i l hl
    rw [nO]at h
    refine⟨_, ?_,h⟩
    refine run_build w t _ _ ?_
    have hf:=fill_eq _ _ _ _ hl
    cases hi:P.info? t with
    | none=>simp [hi]at hz
    | some i=>
     simp only [hi,eP]at hz
     unfold Program.built
     simp only [hi,hu,hz,QK _ _ hpl]
     simpa using hf
   ·cases h
  ·cases h
 ·rename_i z n e hz hu
  split at h
  ·rename_i i hi
   split at h
   ·rename_i l hl
    rw [nO]at h
    refine⟨_, ?_,h⟩
    have hf:=fill_eq _ _ _ _ hl
    unfold Instr.build
    rw [Sem.run_bind,xK hz,Result.andThen_ok,Sem.run_bind,lT hu,Result.andThen_ok]
    simp only [sizeOf,Sem.run_bind,qY hi,Result.andThen_ok,Sem.run_pure]
    simp only [iI]at hf
    simp [hf]
   ·cases h
  ·cases h
 ·cases h
theorem J5 (l:List Value)(s:Nat)(hl:l.length=s)(hs:1<=s) : ∀n:Nat,
  (List.range (n*s)).map (fun k=>l[k%s]!)=(List.replicate n l).flatten
 | 0=>by simp
 | n+1=>by
  rw [bK,dA,List.range_add,aJ,J5 l s hl hs n,jL,List.flatten_append]
  congr 1
  simp only [lq,iq,List.flatten_nil,bZ]
  apply jG
  ·simp [hl]
  ·intro i h1 h2
   simp only [ah,List.length_range]at h1
   simp only [kD,jm,Function.comp]
   have:(n*s+i)%s=i:=by rw [fU,kP,bU h1]
   rw [this]
   simp [h2]
theorem Bh (z:Array Value)(n s:Nat)(hl:z.size=s)(hs:1<=s) :
  (Array.range (n*s)).map (fun k=>z[k%z.size]!)=(List.replicate n z.toList).flatten.toArray:=by
 rw [<-J5 z.toList s (by simpa using hl) hs n]
 apply jc
 subst hl
 simp only [Array.toList_map,Array.toList_range]
 refine jh fun k hk=> ?_
 have hlt:k%z.size<z.size:=iJ _ (by omega)
 simp [hlt]
theorem Dq {P:Program}{t:TypeId}{n:Nat}{parts:List (Nat×Value)}{w:World}{K:Value->World->Prop}(h:tC P t n parts w K) :
  ∃v w',(Instr.buildSlice t n parts.toArray).run P w = .ok v w'∧K v w':=by
 unfold tC at h
 split at h
 ·rename_i e hu
  split at h
  ·rename_i i hi
   split at h
   ·rename_i z hz
    cases hc:(Nat.beq z.cells.toList.length i.size&&Nat.ble 1 i.size&&Nat.ble (n*i.size) 16777216)with
    | false=>rw [hc]at h;exact h.elim
    | true=>
     rw [hc,cond_true]at h
     simp only [au]at hc
     have h1:=aA hc.1.1
     have h2:=aN hc.1.2
     have h3:=aN hc.2
     split at h
     ·rename_i l hl
      rw [nO]at h
      refine⟨_,_, ?_,h⟩
      have hf:=fill_eq _ _ _ _ hl
      rw [<-Bh z.cells n i.size (by simpa using h1) h2]at hf
      have hle : ¬(n*i.size>2^24):=by simpa using h3
      unfold Instr.buildSlice
      rw [Sem.run_bind,lT hu,Result.andThen_ok]
      simp only [sizeOf,Sem.run_bind,qY hi,Result.andThen_ok,Sem.run_pure,if_neg hle]
      by_cases h0:n*i.size=0
      ·have hn:n=0:=(Nat.mul_eq_zero.1 h0).resolve_right (by omega)
       subst hn
       simp only [dY,if_true,Sem.run_bind,Sem.run_pure,Result.andThen_ok]
       simp only [dY]at hf
       have e:(Array.range 0).map (fun x=>(#[]:Array Value)[x%(#[]:Array Value).size]!)=(Array.range 0).map (fun x=>z.cells[x%z.cells.size]!):=by simp
       rw [e,hf]
       simp [newRow]
      ·simp only [if_neg h0,zeroValue,qY hi,Sem.run_bind,Result.andThen_ok,hz,Sem.run_pure,hf]
       simp [newRow]
     ·cases h
   ·cases h
  ·cases h
 ·cases h
theorem G5 (ρ:lY)(parts:Array (Nat×Operand)) :
  ((parts.toList.map (·.1)).zip (parts.toList.map fun p=>pU ρ p.2)).toArray=parts.map fun(i,x)=>(i,pU ρ x):=by
 apply jc
 simp only [Array.toList_map]
 induction parts.toList with
 | nil=>rfl
 | cons p r ih=>simp only [gy,iR,ih]
theorem rC {P:Program}{q:Bool}{o:Oper}{ρ:lY}{w:World}{K:Value->World->Prop}(h:Gp P q o ρ w K):Did P q o ρ w K:=by
 unfold Gp at h
 cases ho:o.op<;>simp only [ho]at h
 case move x=>rw [force_eq]at h;exact mZ (by unfold execOp;simp [ho]) h (fun _ _=>rfl)
 case assign x=>rw [force_eq]at h;exact mZ (by unfold execOp;simp [ho]) h (fun _ _=>rfl)
 case pick c a b=>
  split at h
  ·rename_i t hc
   split at h
   ·rename_i x y ha hb
    refine mZ ?_ h (fun _ _=>rfl)
    unfold execOp
    cases t<;>simp [ho,hc,asBool,ha,hb]
   ·cases t with
    | true=>exact mZ (by unfold execOp;simp [ho,hc,asBool]) (show K (pU ρ a) w from h) (fun _ _=>rfl)
    | false=>exact mZ (by unfold execOp;simp [ho,hc,asBool]) (show K (pU ρ b) w from h) (fun _ _=>rfl)
  ·cases h
 case alloc elem=>
  have go : ∀z,(P.info? elem).bind (·.zero)=some z->K (.pointer (some ⟨w.heap.size,0,none⟩)) (w.alloc (.cells z.cells elem))->Did P q o ρ w K:=fun z hz h=>by
   cases hi:P.info? elem with
   | none=>simp [hi]at hz
   | some i=>
    simp only [hi,eP]at hz
    refine mZ ?_ h (fun _ e=>by simp [oO,ho]at e)
    unfold execOp
    simp [ho,Instr.alloc,zeroValue,qY hi,hz,newVar,newRow]
  split at h
  ·rename_i cs hz;exact go _ hz h
  ·rename_i z _ hz;exact go _ hz h
  ·cases h
 case box elem x=>
  rw [force_eq]at h
  have h':K (.pointer (some ⟨w.heap.size,0,none⟩)) (w.alloc (.cells (pU ρ x).cells elem)):=by
   split at h
   ·rename_i cs hx;rw [hx];exact h
   ·exact h
  refine mZ ?_ h' (fun _ e=>by simp [oO,ho]at e)
  unfold execOp
  simp [ho,Instr.box,newVar,newRow]
 case build t parts=>
  rw [nO]at h
  obtain⟨v,hr,hk⟩:=Nz h
  rw [G5]at hr
  exact mZ (by unfold execOp;simp only [ho];exact rU hr) hk (fun _ _=>rfl)
 case buildSlice t n parts=>
  rw [nO]at h
  obtain⟨v,w',hr,hk⟩:=Dq h
  rw [G5]at hr
  exact mZ (by unfold execOp;simp only [ho];exact rU hr) hk (fun _ e=>by simp [oO,ho]at e)
 case load t a=>
  split at h
  ·rename_i p hp
   obtain⟨v,w',hr,hk,hq⟩:=h.un
   refine mZ (w':=w') (v:=v) ?_ hk (fun e _=>hq e)
   unfold execOp
   simp only [ho]
   exact rU (by simp only [Instr.loadAt,hp,Instr.sureAddr,Sem.run_bind,Sem.run_pure,Result.andThen_ok];exact hr)
  ·cases h
 case store t a x=>
  split at h
  ·rename_i p hp
   rw [force_eq]at h
   obtain⟨u,w',hr,hk⟩:=h.un
   refine .inr (.inl ⟨w', ?_,hk,by simp [oO,ho]⟩)
   unfold execOp
   simp only [ho]
   exact SV (u:=u) (by simp only [Instr.storeAt,hp,Instr.sureAddr,Sem.run_bind,Sem.run_pure,Result.andThen_ok];exact hr)
  ·cases h
 case nilCheck x=>
  split at h
  ·rename_i p hp
   exact mZ (by unfold execOp;simp only [ho,hp];rfl) h (fun _ _=>rfl)
  ·cases h
 case binOp op t x y yt=>
  obtain⟨v,w',hr,hk,hq⟩:=Tc h
  exact mZ (by unfold execOp;simp only [ho];exact rU hr) hk (fun e _=>hq e)
 case unOp op t x=>
  obtain⟨v,w',hr,hk,hq⟩:=Xh h
  exact mZ (by unfold execOp;simp only [ho];exact rU hr) hk (fun e _=>hq e)
 case convert src dst x=>
  obtain⟨v,w',hr,hk,hq⟩:=QG h
  exact mZ (by unfold execOp;simp only [ho];exact rU hr) hk (fun e _=>hq e)
 case makeFunc fn first captured=>
  simp only [vF,nO]at h
  refine mZ ?_ h (fun _ _=>rfl)
  unfold execOp
  simp [ho,Instr.makeFunc,zM]
 case makeMap t r=>
  rw [A8]at h
  obtain⟨v,w',hr,hk,hq⟩:=h.un
  exact mZ (by unfold execOp;simp only [ho];exact rU hr) hk (fun e _=>hq e)
 case makeSlice t l c=>
  simp only [force_eq]at h
  obtain⟨v,w',hr,hk,hq⟩:=h.un
  exact mZ (by unfold execOp;simp only [ho];exact rU hr) hk (fun e _=>hq e)
 case slice t x lo hi mx=>
  simp only [force_eq,A8]at h
  obtain⟨v,w',hr,hk,hq⟩:=h.un
  exact mZ (by unfold execOp;simp only [ho];exact rU hr) hk (fun e _=>hq e)
 case fieldAddr s x f=>
  split at h
  ·rename_i p hp
   obtain⟨v,hr,hk⟩:=Em h
   exact mZ (by unfold execOp;simp only [ho,hp];exact rU hr) hk (fun _ _=>rfl)
  ·cases h
 case field t x f=>
  split at h
  ·rename_i cs hc
   obtain⟨v,hr,hk⟩:=Nv h
   exact mZ (by unfold execOp;simp only [ho,hc];exact rU hr) hk (fun _ _=>rfl)
  ·cases h
 case indexAddr t x i=>
  simp only [force_eq]at h
  obtain⟨v,w',hr,hk,hq⟩:=h.un
  exact mZ (by unfold execOp;simp only [ho];exact rU hr) hk (fun e _=>hq e)
 case index t x i=>
  simp only [force_eq]at h
  obtain⟨v,w',hr,hk,hq⟩:=h.un
  exact mZ (by unfold execOp;simp only [ho];exact rU hr) hk (fun e _=>hq e)
 case lookup t x i ok=>
  simp only [force_eq]at h
  obtain⟨v,w',hr,hk,hq⟩:=h.un
  exact mZ (by unfold execOp;simp only [ho];exact rU hr) hk (fun e _=>hq e)
 case mapUpdate t m k x=>
  simp only [force_eq]at h
  obtain⟨u,w',hr,hk⟩:=h.un
  exact .inr (.inl ⟨w',by unfold execOp;simp only [ho];exact SV (u:=u) hr,hk,by simp [oO,ho]⟩)
 case insert t m k x=>
  simp only [force_eq]at h
  obtain⟨u,w',hr,hk⟩:=h.un
  exact .inr (.inl ⟨w',by unfold execOp;simp only [ho];exact SV (u:=u) hr,hk,by simp [oO,ho]⟩)
 case range t x=>
  simp only [force_eq]at h
  obtain⟨v,w',hr,hk,hq⟩:=h.un
  exact mZ (by unfold execOp;simp only [ho];exact rU hr) hk (fun e _=>hq e)
 case next it s=>
  simp only [force_eq]at h
  obtain⟨v,w',hr,hk,hq⟩:=h.un
  exact mZ (by unfold execOp;simp only [ho];exact rU hr) hk (fun e _=>hq e)
 case entry it=>
  simp only [force_eq]at h
  obtain⟨v,w',hr,hk,hq⟩:=h.un
  exact mZ (by unfold execOp;simp only [ho];exact rU hr) hk (fun e _=>hq e)
 case extract t i=>
  split at h
  ·rename_i vs hv
   split at h
   ·rename_i v hi
    have hi':vs[i]? = some v:=by rw [<-hi];simp
    exact mZ (by unfold execOp;simp only [ho,hv];exact rU (by simp [Instr.extract,hi'])) h (fun _ _=>rfl)
   ·cases h
  ·cases h
 case call c=>exact QJ ho h
 all_goals exact h.elim
def yZ (all:List Oper)(g:Nat):Option Nat:=match all[g]? with|some o=>o.dst|none=>none
def uf (P:Program)(q:Bool)(all:List Oper)(o:Oper)(ρ:lY)(w:World)(K:lY->Value->World->Prop)(qN:lY->Prop):Prop:=
 match o.guard with
 | none=>Gp P q o ρ w fun v w'=>K ρ v w'
 | some (g,want)=>(match yZ all g with
  | some s=>(match ρ s with
   | .bool t=>Io t
     (bif want then Gp P q o (upd ρ s (.bool true)) w fun v w'=>K (upd ρ s (.bool true)) v w' else qN (upd ρ s (.bool true)))
     (bif want then qN (upd ρ s (.bool false))else Gp P q o (upd ρ s (.bool false)) w fun v w'=>K (upd ρ s (.bool false)) v w')
   | _=>qN ρ)
  | none=>qN ρ)
def Ti (P:Program)(all:List Oper)(l:List Oper)(ρ:lY)(w:World)(K:lY->World->Prop):Prop:=
 match l with
 | []=>K ρ w
 | o::rest=>uf P false all o ρ w (fun ρ' v w'=>Ti P all rest (oD ρ' o.dst v) w' K) fun ρ'=>Ti P all rest (oD ρ' o.dst undef) w K
theorem J6 {ρ:lY}{s:Nat}{v:Value}(h:ρ s=v):upd ρ s v=ρ:=by
 funext n
 unfold upd
 cases hb:Nat.beq n s with
 | false=>rfl
 | true=>rw [aA hb];exact h.symm
theorem y5 {N:Nat}{ds:List Deferred}{ρ:lY}{a:Act}{ops:Array Oper}(hf:Fits N ds ρ a)(g:Nat) :
  yielded ops a.tmps g=(match yZ ops.toList g with|some s=>(match ρ s with | .bool b=>some b|_=>none)|none=>none):=by
 unfold yielded yZ
 rw [<-bf]
 cases ops.toList[g]? with
 | none=>rfl
 | some o=>
  simp only [eP]
  cases hd:o.dst with
  | none=>rfl
  | some s=>
   simp only [eP]
   have h1:=hf.get s
   by_cases hs:s<a.tmps.size
   ·simp only [Array.getD,hs,dif_pos]at h1
    rw [jU hs]
    have h2:a.tmps[s]=ρ s:=h1
    rw [h2]
    cases ρ s<;>rfl
   ·simp only [Array.getD,hs,dif_neg,not_false_eq_true]at h1
    rw [fM (kE hs), <-h1]
    rfl
theorem wQ {P:Program}{q:Bool}{N:Nat}{ds:List Deferred}{ρ:lY}{a:Act}{ops:Array Oper}{o:Oper}{w:World}{K:lY->Value->World->Prop}{qN:lY->Prop}
  (hf:Fits N ds ρ a) (h:uf P q ops.toList o ρ w K qN) :
  (Region.wanted o (yielded ops a.tmps)=true∧Gp P q o ρ w fun v w'=>K ρ v w')∨
  (Region.wanted o (yielded ops a.tmps)=false∧qN ρ):=by
 unfold uf at h
 unfold Region.wanted
 split at h
 ·rename_i hg;rw [hg];exact .inl ⟨rfl,h⟩
 ·rename_i g want hg
  rw [hg]
  simp only [y5 hf g]
  split at h
  ·rename_i s hs
   cases hv:ρ s with
   | bool t=>
    have hu:upd ρ s (.bool t)=ρ:=J6 hv
    rw [hv]at h
    cases t<;>cases want<;>simp only [Io,cond_true,cond_false]at h<;>rw [hu]at h
    ·exact .inl ⟨rfl,h⟩
    ·exact .inr ⟨rfl,h⟩
    ·exact .inr ⟨rfl,h⟩
    ·exact .inl ⟨rfl,h⟩
   | _=>rw [hv]at h;exact .inr ⟨rfl,h⟩
  ·exact .inr ⟨rfl,h⟩
def qA (N:Nat)(W:Nat->Bool)(o:Oper):Bool:=match o.dst with|some d=>Nat.blt d N&&W d|none=>true
def Same (W:Nat->Bool)(ρ ρ':lY):Prop:= ∀n,W n=false->ρ' n=ρ n
theorem nX {N:Nat}{W:Nat->Bool}{o:Oper}(h:qA N W o=true) : ∀t,o.dst=some t->t<N:=by
 intro t ht
 simp only [qA,ht,au]at h
 exact aN h.1
theorem Same.oD {W:Nat->Bool}{N:Nat}{o:Oper}{lI ρ:lY}{v:Value}(h:Same W lI ρ)(ho:qA N W o=true):Same W lI (oD ρ o.dst v):=by
 intro n hn
 cases hd:o.dst with
 | none=>exact h n hn
 | some d=>
  simp only [Vc.oD,upd]
  cases hb:Nat.beq n d with
  | false=>exact h n hn
  | true=>
   have:=aA hb
   subst this
   simp only [qA,hd,au]at ho
   rw [hn]at ho
   exact absurd ho.2 (by simp)
theorem NC {P:Program}{N:Nat}{ds:List Deferred}{W:Nat->Bool}{ops:Array Oper}{Q:Exit->Act->World->Prop}{K:lY->World->Prop}{lI:lY}
  (hK : ∀ρ' a' w',Fits N ds ρ' a'->Same W lI ρ'->K ρ' w'->Q .normal a' w') :
  ∀(l:List Oper) (k:Nat) (ρ:lY) (a:Act) (w:World),(∀j,l[j]? = ops.toList[k+j]?)->(∀o∈l,qA N W o=true)->Fits N ds ρ a->Same W lI ρ->
   Ti P ops.toList l ρ w K->wpOps P ops Q (List.range' k l.length) a w:=by
 intro l
 induction l with
 | nil=>intro k ρ a w _ _ hf hs h;exact hK _ _ _ hf hs h
 | cons o rest ih=>
  intro k ρ a w hl hok hf hs h
  have ho:ops[k]? = some o:=by
   have:=hl 0
   simp only [bY,dH]at this
   rw [<-bf];exact this.symm
  have ho1:qA N W o=true:=hok o (by simp)
  have step : ∀(v:Value) (w':World),Ti P ops.toList rest (oD ρ o.dst v) w' K->wpOps P ops Q (List.range' (k+1) rest.length) (a.put o.dst v) w':=fun v w' hv=>
   ih (k+1) _ _ _ (fun j=>by have:=hl (j+1);simp only [dI]at this;rw [this];congr 1;omega) (fun o' ho'=>hok o' (by simp [ho']))
    (hf.put o.dst v (nX ho1)) (hs.oD ho1) hv
  simp only [bg,jH]
  simp only [wpOps,ho]
  rcases wQ hf h with ⟨hw,hv⟩|⟨hw,hv⟩
  ·simp only [hw,if_true]
   exact .inl ((rC hv).wp hf.eval fun v w' hk=>step v w' hk)
  ·simp only [hw,aZ,if_false]
   exact step undef w hv
inductive Plan where
 | done
 | take (i:Nat) (p:Plan)
 | one (i:Nat) (p:Plan)
 | two (i:Nat) (p:Plan) (j:Nat) (r:Plan)
 | three (i:Nat) (p:Plan) (j:Nat) (r:Plan) (k:Nat) (q:Plan)
 | sink (i:Nat)
 | post (i:Nat) (p:Plan)
def adQ (pure:Bool)(S:World->Prop)(P:Program)(o:Oper)(ρ:lY)(v:Value)(k:Prop):Prop:=
 match pure with
 | true=>k
 | false=>og (∀w',S w'->Gp P true o ρ w' fun v' _=>v'=v) k
structure nP (S:World->Prop)(w:World)(k:(World->Prop)->Prop):Prop where
 ex : ∃S':World->Prop,(∀u,S' u->S u)∧S' w∧k S'
theorem nP.keep {S:World->Prop}{w:World}{k:(World->Prop)->Prop}(h:S w)(hk:k S):nP S w k:=⟨S,fun _ h=>h,h,hk⟩
theorem nP.below {lJ w:World}{k:(World->Prop)->Prop}(h:Below lJ.heap.size lJ w)(hk:k fun u=>Below w.heap.size w u):nP (fun u=>Below lJ.heap.size lJ u) w k:=
 ⟨fun u=>Below w.heap.size w u,fun _ hu=>h.trans (hu.mono h.size),Below.refl _ _,hk⟩
def vD (P:Program)(all:List Oper)(CO:Bool)(p:Plan)(S:World->Prop)(ρ:lY)(w:World)(K:lY->World->Prop):Prop:=
 match p with
 | .done=>K ρ w
 | .take i p=>(match all[i]? with
  | some o=>uf P true all o ρ w (fun ρ' v w'=>adQ (CO||zK o) S P o ρ' v (vD P all CO p S (oD ρ' o.dst v) w' K)) fun ρ'=>vD P all CO p S (oD ρ' o.dst undef) w K
  | none=>False)
 | .one i p=>(match all[i]? with
  | some o=>uf P false all o ρ w (fun ρ' v w'=>nP S w' fun S'=>vD P all CO p S' (oD ρ' o.dst v) w' K) fun ρ'=>vD P all CO p S (oD ρ' o.dst undef) w K
  | none=>False)
 | .two i p j r=>(match all[i]?,all[j]? with
  | some o,some o'=>
   (uf P false all o ρ w (fun ρ' v w'=>nP S w' fun S'=>vD P all CO p S' (oD ρ' o.dst v) w' K) fun ρ'=>vD P all CO p S (oD ρ' o.dst undef) w K)∧
   (uf P false all o' ρ w (fun ρ' v w'=>nP S w' fun S'=>vD P all CO r S' (oD ρ' o'.dst v) w' K) fun ρ'=>vD P all CO r S (oD ρ' o'.dst undef) w K)
  | _,_=>False)
 | .three i p j r k q=>(match all[i]?,all[j]?,all[k]? with
  | some o,some o',some o''=>
   (uf P false all o ρ w (fun ρ' v w'=>nP S w' fun S'=>vD P all CO p S' (oD ρ' o.dst v) w' K) fun ρ'=>vD P all CO p S (oD ρ' o.dst undef) w K)∧
   (uf P false all o' ρ w (fun ρ' v w'=>nP S w' fun S'=>vD P all CO r S' (oD ρ' o'.dst v) w' K) fun ρ'=>vD P all CO r S (oD ρ' o'.dst undef) w K)∧
   (uf P false all o'' ρ w (fun ρ' v w'=>nP S w' fun S'=>vD P all CO q S' (oD ρ' o''.dst v) w' K) fun ρ'=>vD P all CO q S (oD ρ' o''.dst undef) w K)
  | _,_,_=>False)
 | .sink i=>(match all[i]? with
  | some o=>uf P false all o ρ w (fun ρ' v w'=>K (oD ρ' o.dst v) w') fun ρ'=>K (oD ρ' o.dst undef) w
  | none=>False)
 | .post _ _=>False
inductive O6 (ops:Array Oper)(i:Nat):Nat->Prop
 | one {o:Oper} {e:Edge} (h:ops[i]? = some o) (he:e∈o.after) (hb:Region.binds .any e=true):O6 ops i e.on
 | more {j:Nat} {o:Oper} {e:Edge} (ha:O6 ops i j) (h:ops[j]? = some o) (he:e∈o.after) (hb:Region.binds .any e=true):O6 ops i e.on
def En (ops:Array Oper)(i:Nat):List Nat:=
 match ops[i]? with
 | some o=>(o.after.toList.filter fun e=>Region.binds .any e).map (·.on)
 | none=> []
def ND (l m:List Nat):List Nat:=m.foldl (fun acc x=>if acc.contains x then acc else x::acc) l
def aa7 (ops:Array Oper):Nat->List Nat->List Nat
 | 0,l=>l
 | n+1,l=>aa7 ops n (l.foldl (fun acc j=>ND acc (En ops j)) l)
theorem G6 {ops:Array Oper}{i k:Nat}(h:k∈En ops i) : ∃o e,ops[i]? = some o∧e∈o.after∧Region.binds .any e=true∧e.on=k:=by
 unfold En at h
 split at h
 ·rename_i o ho
  simp only [dR,List.mem_filter]at h
  obtain⟨e,⟨he,hb⟩,hk⟩:=h
  exact⟨o,e,ho,by simpa using he,hb,hk⟩
 ·cases h
theorem NG {k:Nat} : ∀(m l:List Nat),k∈ND l m->k∈l∨k∈m:=by
 intro m
 induction m with
 | nil=>intro l h;exact .inl h
 | cons x r ih=>
  intro l h
  rcases ih _ h with h|h
  ·simp only at h
   split at h
   ·exact .inl h
   ·rcases bF.1 h with rfl|h
    ·exact .inr (by simp)
    ·exact .inl h
  ·exact .inr (by simp [h])
theorem mem_grow {ops:Array Oper}{k:Nat} : ∀(m l:List Nat),k∈m.foldl (fun acc j=>ND acc (En ops j)) l->k∈l∨∃j∈m,k∈En ops j:=by
 intro m
 induction m with
 | nil=>intro l h;exact .inl h
 | cons x r ih=>
  intro l h
  rcases ih _ h with h|⟨j,hj,hk⟩
  ·rcases NG _ _ h with h|h
   ·exact .inl h
   ·exact .inr ⟨x,by simp,h⟩
  ·exact .inr ⟨j,by simp [hj],hk⟩
theorem Tj {ops:Array Oper}{i k:Nat} : ∀(n:Nat) (l:List Nat),(∀x∈l,O6 ops i x)->k∈aa7 ops n l->O6 ops i k:=by
 intro n
 induction n with
 | zero=>intro l h hk;exact h k hk
 | succ n ih=>
  intro l h hk
  refine ih _ (fun x hx=> ?_) hk
  rcases mem_grow _ _ hx with hx|⟨j,hj,hx⟩
  ·exact h x hx
  ·obtain⟨o,e,ho,he,hb,rfl⟩:=G6 hx
   exact .more (h j hj) ho he hb
def sinkAt (ops:Array Oper)(i:Nat):Bool:=
 (List.range ops.size).all fun j=>j==i||(aa7 ops ops.size (En ops i)).contains j
theorem NH {ops:Array Oper}{i j:Nat}(h:sinkAt ops i=true)(hj:j<ops.size)(hne:j≠i):O6 ops i j:=by
 simp only [sinkAt,bQ,kW,jk,beq_iff_eq]at h
 rcases h j hj with e|e
 ·exact absurd e hne
 ·refine Tj ops.size (En ops i) (fun x hx=> ?_) (by simpa using e)
  obtain⟨o,e,ho,he,hb,rfl⟩:=G6 hx
  exact .one ho he hb
def Down (ops:Array Oper)(listed:Array Bool):Prop:=
 ∀j o,ops[j]? = some o->listed.getD j false=true->∀e∈o.after,Region.binds .any e=true->listed.getD e.on false=true
theorem Down.set {ops:Array Oper}{listed:Array Bool}{i:Nat}(h:Down ops listed)(hi:i∈Region.ready .any ops listed):Down ops (listed.setIfInBounds i true):=by
 intro j o ho hl e he hb
 by_cases hji:i=j
 ·subst hji
  obtain⟨_,o',ho',hall⟩:=mem_ready.1 hi
  rw [ho]at ho'
  injection ho' with ho'
  subst ho'
  exact getD_set_true (hall e he hb)
 ·rw [getD_set_ne false hji]at hl
  exact getD_set_true (h j o ho hl e he hb)
theorem Down.anc {ops:Array Oper}{listed:Array Bool}{i k:Nat}(h:Down ops listed)(hi:i∈Region.ready .any ops listed)(ha:O6 ops i k):listed.getD k false=true:=by
 induction ha with
 | one ho he hb=>
  obtain⟨_,o',ho',hall⟩:=mem_ready.1 hi
  rw [ho]at ho'
  injection ho' with ho'
  subst ho'
  exact hall _ he hb
 | more ha ho he hb ih=>exact h _ _ ho ih _ he hb
def oM (ops:Array Oper):Plan->Array Bool->Bool
 | .done,listed=>(Region.ready .any ops listed).isEmpty
 | .take i p,listed=>(match ops[i]? with|some o=>oO o|none=>false)&&(Region.ready .any ops listed).contains i&&Region.free .any ops listed i&&oM ops p (listed.setIfInBounds i true)
 | .one i p,listed=>(Region.ready .any ops listed== [i])&&oM ops p (listed.setIfInBounds i true)
 | .two i p j r,listed=>(Region.ready .any ops listed== [i,j])&&oM ops p (listed.setIfInBounds i true)&&oM ops r (listed.setIfInBounds j true)
 | .three i p j r k q,listed=>(Region.ready .any ops listed== [i,j,k])&&oM ops p (listed.setIfInBounds i true)&&oM ops r (listed.setIfInBounds j true)&&oM ops q (listed.setIfInBounds k true)
 | .sink i,listed=>(Region.ready .any ops listed== [i])&&sinkAt ops i&&(Region.ready .any ops (listed.setIfInBounds i true)).isEmpty
 | .post i p,listed=>(Region.ready .any ops listed== [i])&&oM ops p (listed.setIfInBounds i true)
def Plan.depth:Plan->Nat
 | .done=>0
 | .take _ p=>p.depth+1
 | .one _ p=>p.depth+1
 | .two _ p _ r=>max p.depth r.depth+1
 | .three _ p _ r _ q=>max (max p.depth r.depth) q.depth+1
 | .sink _=>1
 | .post _ p=>p.depth+1
def vP (ops:Array Oper)(p:Plan):Bool:=Region.noSelect ops&&Nat.ble p.depth ops.size&&oM ops p (Array.replicate ops.size false)
section
variable {P:Program}{ops:Array Oper}{Q:Exit->Act->World->Prop}{S:World->Prop}
def wR (P:Program)(ops:Array Oper)(Q:Exit->Act->World->Prop)(S:World->Prop):Nat->Array Bool->Act->World->Prop
 | 0,listed,a,w=>Region.ready .any ops listed = []∧Q .normal a w
 | fuel+1,listed,a,w=>
  (Region.ready .any ops listed = []->Q .normal a w)∧
  ∀i∈Region.ready .any ops listed,wpOp P ops Q i (fun a' w'=>(sinkAt ops i=true∨S w')∧wR P ops Q S fuel (listed.setIfInBounds i true) a' w') a w
theorem y7 : ∀(fuel:Nat) (listed:Array Bool) (a:Act) (w:World),wR P ops Q S fuel listed a w->wpAny P .any ops Q fuel listed a w
 | 0,_,_,_,h=>h
 | fuel+1,_,_,_,h=>⟨h.1,fun i hi=>wpOp_mono (fun a' w' h'=>y7 fuel _ a' w' h'.2) (h.2 i hi)⟩
theorem qI {S':World->Prop}(h : ∀u,S' u->S u) : ∀(fuel:Nat) (listed:Array Bool) (a:Act) (w:World),wR P ops Q S' fuel listed a w->wR P ops Q S fuel listed a w
 | 0,_,_,_,hh=>hh
 | fuel+1,_,_,_,hh=>⟨hh.1,fun i hi=>wpOp_mono (fun a' w' h'=>⟨h'.1.imp id (h w'),qI h fuel _ a' w' h'.2⟩) (hh.2 i hi)⟩
theorem Ip {i:Nat}{oi:Oper}{v:Value}(hi:ops[i]? = some oi)(hsel : ∀(j:Nat) (o:Oper) cs b,ops[j]? = some o->o.op≠ .select cs b)
  (hQ : ∀c a w,Q (.panic c) (a.put oi.dst v) w->Q (.panic c) a w) :
  ∀(fuel:Nat) (listed:Array Bool) (a:Act) (w:World),
   (∀j oj,ops[j]? = some oj->j≠i->listed.getD j true=false->(∀e∈oj.after,Region.binds .any e=true->e.on≠i)->oi.apart ops oj=true)->
   Down ops listed->i∈Region.ready .any ops listed->YieldsIf P ops S oi v a->S w->
   wR P ops Q S fuel (listed.setIfInBounds i true) (a.put oi.dst v) w->wR P ops Q S (fuel+1) listed a w:=by
 intro fuel
 induction fuel with
 | zero=>
  intro listed a w _ _ hr hy hS H
  refine⟨fun h=>(by rw [h]at hr;cases hr),fun j hj=> ?_⟩
  by_cases hji:j=i
  ·subst hji;exact hy.wpOp hi hS ⟨.inr hS,H⟩
  ·have:=ready_mono hj hji
   rw [H.1]at this
   cases this
 | succ fuel ih=>
  intro listed a w hfree hdown hr hy hS H
  refine⟨fun h=>(by rw [h]at hr;cases hr),fun j hj=> ?_⟩
  by_cases hji:j=i
  ·subst hji;exact hy.wpOp hi hS ⟨.inr hS,H⟩
  ·have h1:=H.2 j (ready_mono hj hji)
   obtain⟨hjun,oj,hoj,hall⟩:=mem_ready.1 hj
   have hnot : ∀e∈oj.after,Region.binds .any e=true->e.on≠i:=fun e he hb heq=>by
    have h1:=hall e he hb
    have h0:=(mem_ready.1 hr).1
    rw [heq]at h1
    rcases dJ i listed.size with h'|h'
    ·simp [h']at h0 h1;rw [h0]at h1;cases h1
    ·simp [fM h']at h1
   have h2:=wpOp_putIf hoj (hfree j oj hoj hji hjun hnot) (fun cs b=>hsel i oi cs b hi) (fun cs b=>hsel j oj cs b hoj) hQ hy h1
   have hfree' : ∀k ok,ops[k]? = some ok->k≠i->(listed.setIfInBounds j true).getD k true=false->
     (∀e∈ok.after,Region.binds .any e=true->e.on≠i)->oi.apart ops ok=true:=fun k ok hk hki hun hno=>by
    refine hfree k ok hk hki ?_ hno
    by_cases hjk:j=k
    ·subst hjk;exact hjun
    ·rw [getD_set_ne true hjk]at hun;exact hun
   have hri:i∈Region.ready .any ops (listed.setIfInBounds j true):=ready_mono hr (kZ hji)
   have hilt:i<ops.size:=(cO.1 hi).1
   have hns:sinkAt ops j=true->False:=fun hsk=>by
    have h1:=hdown.anc hj (NH hsk hilt (kZ hji))
    have h0:=(mem_ready.1 hr).1
    rcases dJ i listed.size with h'|h'
    ·simp [h']at h0 h1;rw [h0]at h1;cases h1
    ·simp [fM h']at h1
   refine wpOp_mono (fun a' w' h3=> ?_) h2
   have hSw:S w':=h3.2.1.resolve_left hns
   refine⟨.inr hSw,ih (listed.setIfInBounds j true) a' w' hfree' (hdown.set hj) hri h3.1 hSw ?_⟩
   rw [jX _ _ hji]
   exact h3.2.2
end
theorem Tm {P:Program}{o:Oper}{ρ:lY}{w:World}{K:Value->World->Prop}(hp:zK o=true)(h:Gp P true o ρ w K) :
  ∃v,(∀w',(execOp (pU ρ) o).run P w' = .ok (.value v) w')∧K v w:=by
 unfold Gp at h
 unfold zK at hp
 cases ho:o.op<;>simp only [ho]at h hp<;>try cases hp
 case move x=>rw [force_eq]at h;exact⟨_,fun w'=>by unfold execOp;simp [ho],h⟩
 case assign x=>rw [force_eq]at h;exact⟨_,fun w'=>by unfold execOp;simp [ho],h⟩
 case makeFunc fn first captured=>
  simp only [vF,nO]at h
  exact⟨_,fun w'=>by unfold execOp;simp [ho,Instr.makeFunc,zM],h⟩
 case nilCheck x=>
  split at h
  ·rename_i p hp'
   exact⟨_,fun w'=>by unfold execOp;simp only [ho,hp'];rfl,h⟩
  ·cases h
 case extract t i=>
  split at h
  ·rename_i vs hv
   split at h
   ·rename_i v hi
    have hi':vs[i]? = some v:=by rw [<-hi];simp
    exact⟨_,fun w'=>by unfold execOp;simp only [ho,hv];exact rU (by simp [Instr.extract,hi']),h⟩
   ·cases h
  ·cases h
section
variable {P:Program}{N:Nat}{ds:List Deferred}{W:Nat->Bool}{ops:Array Oper}{K:lY->World->Prop}{lI:lY}{CO:Bool}
def RQ (N:Nat)(ds:List Deferred)(W:Nat->Bool)(lI:lY)(K:lY->World->Prop):Exit->Act->World->Prop
 | .normal,a,w=> ∃ρ',Fits N ds ρ' a∧Same W lI ρ'∧K ρ' w
 | _,_,_=>False
theorem wS {Q:Exit->Act->World->Prop}{i:Nat}{o:Oper}{ρ:lY}{a:Act}{w:World}{G:Act->World->Prop}{adR:lY->Value->World->Prop}{qN:lY->Prop}
  (hi:ops[i]? = some o) (hf:Fits N ds ρ a) (h:uf P false ops.toList o ρ w adR qN)
  (h1 : ∀v w',adR ρ v w'->G (a.put o.dst v) w') (h0:qN ρ->G (a.put o.dst undef) w):wpOp P ops Q i G a w:=by
 unfold Go.wpOp
 simp only [hi]
 rcases wQ hf h with ⟨hw,hv⟩|⟨hw,hv⟩
 ·simp only [hw,if_true]
  exact .inl ((rC hv).wp hf.eval fun v w' hk=>h1 v w' hk)
 ·simp only [hw,aZ,if_false]
  exact h0 hv
theorem J7 (hsel:Region.noSelect ops=true)(hok : ∀o∈ops.toList,qA N W o=true)(lJ:World) :
  ∀(p:Plan) (S:World->Prop) (_:CO=true->∀w',S w'->w'=lJ) (listed:Array Bool) (ρ:lY) (a:Act) (w:World),oM ops p listed=true->Down ops listed->Fits N ds ρ a->Same W lI ρ->S w->
   vD P ops.toList CO p S ρ w K->∀fuel,p.depth<=fuel->wR P ops (RQ N ds W lI K) S fuel listed a w:=by
 have mem : ∀ {i:Nat} {o:Oper},ops.toList[i]? = some o->ops[i]? = some o∧qA N W o=true:=fun {i o} h=>
  ⟨by rw [<-bf];exact h,hok o (aT h)⟩
 have fin : ∀ {S:World->Prop} {listed:Array Bool} {ρ:lY} {a:Act} {w:World},Region.ready .any ops listed = []->Fits N ds ρ a->Same W lI ρ->K ρ w->
   ∀fuel,wR P ops (RQ N ds W lI K) S fuel listed a w:=by
  intro S listed ρ a w hr hf hs h fuel
  cases fuel with
  | zero=>exact⟨hr,ρ,hf,hs,h⟩
  | succ n=>exact⟨fun _=>⟨ρ,hf,hs,h⟩,by rw [hr];simp⟩
 intro p
 induction p with
 | done=>
  intro S hS listed ρ a w hp hdn hf hs _ h fuel _
  exact fin (by simpa [oM]using hp) hf hs h fuel
 | take i p ih=>
  intro S hS listed ρ a w hp hdn hf hs hSw h fuel hfu
  simp only [oM,au]at hp
  obtain⟨⟨⟨hq,hr⟩,hfree⟩,hp'⟩:=hp
  simp only [vD]at h
  split at h
  ·rename_i o Bj
   obtain⟨hi,ho⟩:=mem Bj
   simp only [hi]at hq
   cases fuel with
   | zero=>simp [Plan.depth]at hfu
   | succ fuel=>
    have Bl:p.depth<=fuel:=by simp only [Plan.depth]at hfu;omega
    have go : ∀v,YieldsIf P ops S o v a->vD P ops.toList CO p S (oD ρ o.dst v) w K->wR P ops (RQ N ds W lI K) S (fuel+1) listed a w:=fun v hy hv=>
     Ip hi (Region.noSelect_spec hsel) (fun c a w hq=>hq) fuel listed a w (Region.free_spec hi hfree) hdn (by simpa using hr) hy hSw
      (ih S hS _ _ _ _ hp' (hdn.set (by simpa using hr)) (hf.put o.dst v (nX ho)) (hs.oD ho) hSw hv fuel Bl)
    rcases wQ hf h with ⟨hw,hv⟩|⟨hw,hv⟩
    ·obtain⟨v,hrun,hk⟩:=(rC hv).quiet hq
     cases hc:(CO||zK o)with
     | true=>
      rw [hc]at hk
      refine go v (.inl ⟨hw,fun w' hw'=> ?_⟩) hk
      rw [hf.eval]
      cases he:CO with
      | true=>
       have e1:=hS he w' hw'
       have e2:=hS he w hSw
       rw [e1, <-e2];exact hrun
      | false=>
       rw [he,jY]at hc
       obtain⟨u,hu,_⟩:=Tm hc hv
       have:u=v:=by have:=hu w;rw [hrun]at this;injection this with h1 h2;injection h1 with h1;exact h1.symm
       subst this
       exact hu w'
     | false=>
      rw [hc]at hk
      refine go v (.inl ⟨hw,fun w' hw'=> ?_⟩) hk.go
      rw [hf.eval]
      obtain⟨u,hu,he⟩:=(rC (hk.req w' hw')).quiet hq
      rw [hu,he]
    ·exact go undef (.inr ⟨hw,rfl⟩) hv
  ·cases h
 | one i p ih=>
  intro S hS listed ρ a w hp hdn hf hs hSw h fuel hfu
  simp only [oM,au,beq_iff_eq]at hp
  obtain⟨hr,hp'⟩:=hp
  simp only [vD]at h
  split at h
  ·rename_i o Bj
   obtain⟨hi,ho⟩:=mem Bj
   cases fuel with
   | zero=>simp [Plan.depth]at hfu
   | succ fuel=>
    have Bl:p.depth<=fuel:=by simp only [Plan.depth]at hfu;omega
    refine⟨fun e=>(by rw [hr]at e;cases e),fun j hj=> ?_⟩
    rw [hr]at hj
    simp only [bG]at hj
    subst hj
    have wB:=hdn.set (i:=j) (by rw [hr];simp)
    exact wS hi hf h (fun v w' hk=>by
      obtain⟨S',h1,h2,h3⟩:=hk.ex
      exact⟨.inr (h1 _ h2),qI h1 _ _ _ _ (ih S' (fun he u hu=>hS he u (h1 u hu)) _ _ _ _ hp' wB (hf.put o.dst v (nX ho)) (hs.oD ho) h2 h3 fuel Bl)⟩)
     (fun hk=>⟨.inr hSw,ih S hS _ _ _ _ hp' wB (hf.put o.dst undef (nX ho)) (hs.oD ho) hSw hk fuel Bl⟩)
  ·cases h
 | two i p j r Xi ihr=>
  intro S hS listed ρ a w hp hdn hf hs hSw h fuel hfu
  simp only [oM,au,beq_iff_eq]at hp
  obtain⟨⟨hr,hp'⟩,hr'⟩:=hp
  simp only [vD]at h
  split at h
  ·rename_i o o' Bj hjo
   obtain⟨hi,ho⟩:=mem Bj
   obtain⟨hj,ho'⟩:=mem hjo
   obtain⟨ha,hb⟩:=h
   cases fuel with
   | zero=>simp [Plan.depth]at hfu
   | succ fuel=>
    have Iq:p.depth<=fuel:=by simp only [Plan.depth]at hfu;omega
    have hfu2:r.depth<=fuel:=by simp only [Plan.depth]at hfu;omega
    refine⟨fun e=>(by rw [hr]at e;cases e),fun k hk=> ?_⟩
    rw [hr]at hk
    simp only [bF,jI,or_false]at hk
    rcases hk with rfl|rfl
    ·have wB:=hdn.set (i:=k) (by rw [hr];simp)
     exact wS hi hf ha (fun v w' hk=>by
       obtain⟨S',h1,h2,h3⟩:=hk.ex
       exact⟨.inr (h1 _ h2),qI h1 _ _ _ _ (Xi S' (fun he u hu=>hS he u (h1 u hu)) _ _ _ _ hp' wB (hf.put o.dst v (nX ho)) (hs.oD ho) h2 h3 fuel Iq)⟩)
      (fun hk=>⟨.inr hSw,Xi S hS _ _ _ _ hp' wB (hf.put o.dst undef (nX ho)) (hs.oD ho) hSw hk fuel Iq⟩)
    ·have wB:=hdn.set (i:=k) (by rw [hr];simp)
     exact wS hj hf hb (fun v w' hk=>by
       obtain⟨S',h1,h2,h3⟩:=hk.ex
       exact⟨.inr (h1 _ h2),qI h1 _ _ _ _ (ihr S' (fun he u hu=>hS he u (h1 u hu)) _ _ _ _ hr' wB (hf.put o'.dst v (nX ho')) (hs.oD ho') h2 h3 fuel hfu2)⟩)
      (fun hk=>⟨.inr hSw,ihr S hS _ _ _ _ hr' wB (hf.put o'.dst undef (nX ho')) (hs.oD ho') hSw hk fuel hfu2⟩)
  ·cases h
 | three i p j r k q Xi ihr ihq=>
  intro S hS listed ρ a w hp hdn hf hs hSw h fuel hfu
  simp only [oM,au,beq_iff_eq]at hp
  obtain⟨⟨⟨hr,hp'⟩,hr'⟩,hq'⟩:=hp
  simp only [vD]at h
  split at h
  ·rename_i o o' o'' Bj hjo hko
   obtain⟨hi,ho⟩:=mem Bj
   obtain⟨hj,ho'⟩:=mem hjo
   obtain⟨hk3,Xj⟩:=mem hko
   obtain⟨ha,hb,hc⟩:=h
   cases fuel with
   | zero=>simp [Plan.depth]at hfu
   | succ fuel=>
    have Iq:p.depth<=fuel:=by simp only [Plan.depth]at hfu;omega
    have hfu2:r.depth<=fuel:=by simp only [Plan.depth]at hfu;omega
    have Xk:q.depth<=fuel:=by simp only [Plan.depth]at hfu;omega
    refine⟨fun e=>(by rw [hr]at e;cases e),fun k hk=> ?_⟩
    rw [hr]at hk
    simp only [bF,jI,or_false]at hk
    rcases hk with rfl|rfl|rfl
    ·have wB:=hdn.set (i:=k) (by rw [hr];simp)
     exact wS hi hf ha (fun v w' hk=>by
       obtain⟨S',h1,h2,h3⟩:=hk.ex
       exact⟨.inr (h1 _ h2),qI h1 _ _ _ _ (Xi S' (fun he u hu=>hS he u (h1 u hu)) _ _ _ _ hp' wB (hf.put o.dst v (nX ho)) (hs.oD ho) h2 h3 fuel Iq)⟩)
      (fun hk=>⟨.inr hSw,Xi S hS _ _ _ _ hp' wB (hf.put o.dst undef (nX ho)) (hs.oD ho) hSw hk fuel Iq⟩)
    ·have wB:=hdn.set (i:=k) (by rw [hr];simp)
     exact wS hj hf hb (fun v w' hk=>by
       obtain⟨S',h1,h2,h3⟩:=hk.ex
       exact⟨.inr (h1 _ h2),qI h1 _ _ _ _ (ihr S' (fun he u hu=>hS he u (h1 u hu)) _ _ _ _ hr' wB (hf.put o'.dst v (nX ho')) (hs.oD ho') h2 h3 fuel hfu2)⟩)
      (fun hk=>⟨.inr hSw,ihr S hS _ _ _ _ hr' wB (hf.put o'.dst undef (nX ho')) (hs.oD ho') hSw hk fuel hfu2⟩)
    ·have wB:=hdn.set (i:=k) (by rw [hr];simp)
     exact wS hk3 hf hc (fun v w' hk=>by
       obtain⟨S',h1,h2,h3⟩:=hk.ex
       exact⟨.inr (h1 _ h2),qI h1 _ _ _ _ (ihq S' (fun he u hu=>hS he u (h1 u hu)) _ _ _ _ hq' wB (hf.put o''.dst v (nX Xj)) (hs.oD Xj) h2 h3 fuel Xk)⟩)
      (fun hk=>⟨.inr hSw,ihq S hS _ _ _ _ hq' wB (hf.put o''.dst undef (nX Xj)) (hs.oD Xj) hSw hk fuel Xk⟩)
  ·cases h
 | sink i=>
  intro S hS listed ρ a w hp hdn hf hs hSw h fuel hfu
  simp only [oM,au,beq_iff_eq]at hp
  obtain⟨⟨hr,hsk⟩,he⟩:=hp
  simp only [vD]at h
  split at h
  ·rename_i o Bj
   obtain⟨hi,ho⟩:=mem Bj
   cases fuel with
   | zero=>simp [Plan.depth]at hfu
   | succ fuel=>
    refine⟨fun e=>(by rw [hr]at e;cases e),fun j hj=> ?_⟩
    rw [hr]at hj
    simp only [bG]at hj
    subst hj
    have he':Region.ready .any ops (listed.setIfInBounds j true) = []:=by simpa using he
    exact wS hi hf h (fun v w' hk=>⟨.inl hsk,fin he' (hf.put o.dst v (nX ho)) (hs.oD ho) hk fuel⟩)
     (fun hk=>⟨.inl hsk,fin he' (hf.put o.dst undef (nX ho)) (hs.oD ho) hk fuel⟩)
  ·cases h
 | post i p ih=>intro S hS listed ρ a w hp hdn hf hs hSw h;exact(show False from h).elim
end
structure yS (P:Program)(id:Nat)(ops:Array Oper)(K:lY->World->Prop)(ρ:lY)(w:World):Prop where
 ex : ∃(p:Plan) (CO:Bool) (S:World->Prop),vP ops p=true∧(CO=true->∀w',S w'->w'=w.drew)∧S w.drew∧vD P ops.toList CO p S ρ w.drew K
theorem adS {P:Program}{id:Nat}{ops:Array Oper}{K:lY->World->Prop}{ρ:lY}{w:World}(p:Plan)(hp:vP ops p=true)
  (h:vD P ops.toList true p (fun w'=>w'=w.drew) ρ w.drew K):yS P id ops K ρ w:=
 ⟨p,true,_,hp,fun _ _ e=>e,rfl,h⟩
theorem pJ {P:Program}{id:Nat}{ops:Array Oper}{K:lY->World->Prop}{ρ:lY}{w:World}(pl:Nat->Plan)(hp:vP ops (pl id)=true)
  (h:vD P ops.toList true (pl id) (fun w'=>w'=w.drew) ρ w.drew K):yS P id ops K ρ w:=adS (pl id) hp h
theorem uN (m j:Nat):(Array.replicate m false).getD j false=false:=by
 rw [gu]
 by_cases h:j<m<;>simp [h]
theorem yS.sound {P:Program}{id:Nat}{N:Nat}{ds:List Deferred}{W:Nat->Bool}{ops:Array Oper}{K:lY->World->Prop}{ρ lI:lY}{a:Act}{w:World}
  (hm:P.follows .mixedOrders=true) (hok : ∀o∈ops.toList,qA N W o=true) (hf:Fits N ds ρ a) (hs:Same W lI ρ) (h:yS P id ops K ρ w) :
  (Code.region id ops true).wp P (RQ N ds W lI K) a w:=by
 obtain⟨p,CO,S,hd,he,hS,hv⟩:=h.ex
 simp only [vP,au]at hd
 obtain⟨⟨hsel,Bo⟩,hp⟩:=hd
 exact wp_region_any hm (y7 _ _ _ _ (J7 hsel hok w.drew p S he _ ρ a w.drew hp (fun j o _ hl=>by rw [uN]at hl;cases hl) hf hs hS hv ops.size (aN Bo)))
inductive Ex where
 | normal
 | exit (id:Nat)
 | ret
def pV (N:Nat)(W:Nat->Bool):Code->Bool
 | .region _ ops _=>ops.toList.all (qA N W)
 | .seq a b=>pV N W a&&pV N W b
 | .cond _ a b=>pV N W a&&pV N W b
 | .block _ b=>pV N W b
 | .loop b=>pV N W b
 | .skip | .exit _ | .ret=>true
 | _=>false
def Xl (W:Nat->Bool)(o:Oper):Bool:=match o.dst with|some d=>W d|none=>true
def writesIn (W:Nat->Bool):Code->Bool
 | .region _ ops _=>ops.toList.all (Xl W)
 | .seq a b=>writesIn W a&&writesIn W b
 | .cond _ a b=>writesIn W a&&writesIn W b
 | .block _ b=>writesIn W b
 | .loop b=>writesIn W b
 | .skip | .exit _ | .ret | .label _=>true
 | .rangeFunc _ _ _ _=>true
 | .scope b=>writesIn W b
 | _=>false
theorem Ir {N:Nat}{W ws:Nat->Bool} : ∀c:Code,pV N W c=true->writesIn ws c=true->pV N (fun k=>W k&&ws k) c=true:=by
 intro c
 induction c with
 | region id ops d=>
  intro h1 h2
  simp only [pV,writesIn,bQ]at *
  intro o ho
  have a1:=h1 o ho
  have a2:=h2 o ho
  unfold qA at *
  unfold Xl at a2
  cases hd:o.dst with
  | none=>rfl
  | some d=>simp only [hd,au]at a1 a2 ⊢;exact⟨a1.1,a1.2,a2⟩
 | seq a b iha ihb=>intro h1 h2;simp only [pV,writesIn,au]at *;exact⟨iha h1.1 h2.1,ihb h1.2 h2.2⟩
 | cond c a b iha ihb=>intro h1 h2;simp only [pV,writesIn,au]at *;exact⟨iha h1.1 h2.1,ihb h1.2 h2.2⟩
 | block id b ih=>intro h1 h2;simp only [pV,writesIn]at *;exact ih h1 h2
 | loop b ih=>intro h1 h2;simp only [pV,writesIn]at *;exact ih h1 h2
 | skip=>intro _ _;rfl
 | exit id=>intro _ _;rfl
 | ret=>intro _ _;rfl
 | _=>intro h1 _;simp [pV]at h1
def adT (V:(Ex->lY->World->Prop)->lY->World->Prop)(Q:Ex->lY->World->Prop)(e:Ex)(ρ:lY)(w:World):Prop:=
 match e with
 | .normal=>V Q ρ w
 | .exit id=>Q (.exit id) ρ w
 | .ret=>Q .ret ρ w
def Xm (id:Nat)(Q:Ex->lY->World->Prop)(e:Ex)(ρ:lY)(w:World):Prop:=
 match e with
 | .normal=>Q .normal ρ w
 | .exit j=>Q (bif Nat.beq j id then .normal else .exit j) ρ w
 | .ret=>Q .ret ρ w
def aaz (R:lY->World->Prop)(Q:Ex->lY->World->Prop)(e:Ex)(ρ:lY)(w:World):Prop:=
 match e with
 | .normal=>R ρ w
 | .exit id=>Q (.exit id) ρ w
 | .ret=>Q .ret ρ w
structure qJ (p:Prop):Prop where
 holds:p
structure Tn (body:Code)(B:(Ex->lY->World->Prop)->lY->World->Prop)(Q:Ex->lY->World->Prop)(ρ:lY)(w:World):Prop where
 ex : ∃(ws:Nat->Bool) (I:Nat->lY->World->Prop) (n:Nat),writesIn ws body=true∧I n ρ w∧
  ∀n ρ' w',I n ρ' w'->Same ws ρ ρ'->B (aaz (fun o7 w''=>qJ (∃m,m<n∧I m o7 w'')) Q) ρ' w'
def vC (P:Program)(c:Code)(Q:Ex->lY->World->Prop)(ρ:lY)(w:World):Prop:=
 match c with
 | .skip=>Q .normal ρ w
 | .region id ops draw=>(match draw with
  | false=>Ti P ops.toList ops.toList ρ w (Q .normal)
  | true=>yS P id ops (Q .normal) ρ w)
 | .seq a b=>vC P a (adT (vC P b) Q) ρ w
 | .cond c t e=>(match pU ρ c with
  | .bool b=>Io b (vC P t Q ρ w) (vC P e Q ρ w)
  | _=>False)
 | .block id body=>vC P body (Xm id Q) ρ w
 | .loop body=>Tn body (vC P body) Q ρ w
 | .exit id=>Q (.exit id) ρ w
 | .ret=>Q .ret ρ w
 | _=>False
def CQ (N:Nat)(ds:List Deferred)(W:Nat->Bool)(lI:lY)(Q:Ex->lY->World->Prop):Exit->Act->World->Prop
 | .normal,a,w=> ∃ρ',Fits N ds ρ' a∧Same W lI ρ'∧Q .normal ρ' w
 | .exit id,a,w=> ∃ρ',Fits N ds ρ' a∧Same W lI ρ'∧Q (.exit id) ρ' w
 | .ret,a,w=> ∃ρ',Fits N ds ρ' a∧Same W lI ρ'∧Q .ret ρ' w
 | _,_,_=>False
theorem Eo {P:Program}{c:Code}{Q:Exit->Act->World->Prop}{a:Act}{w:World}(I:Nat->Act->World->Prop)(n:Nat)(JV:I n a w)
  (round : ∀n a w,I n a w->c.wp P (Exit.then (fun a' w'=> ∃m,m<n∧I m a' w') Q) a w):(Code.loop c).wp P Q a w:=by
 intro b k cs
 have key : ∀n a w,I n a w->∃e a' w',Q e a' w'∧Arrives P (lone (b.at a (.code c:: .inLoop c::k)) cs w) b k cs e a' w':=by
  intro n
  induction n using Nat.strongRecOn with
  | _ n ih=>
   intro a w hI
   obtain⟨e,zG,xJ,hq,harr⟩:=round n a w hI b (.inLoop c::k) cs
   cases e with
   | normal=>
    obtain⟨m,hlt,hI₁⟩:=hq
    obtain⟨adG,adH,Dz,hq₂,harr₂⟩:=ih m hlt zG xJ hI₁
    exact⟨adG,adH,Dz,hq₂, .of_steps (Steps.trans harr (.one step_inLoop)) harr₂⟩
   | exit id=>exact⟨_,zG,xJ,hq, .pass (x:= .inLoop c) rfl (fun _ _=> .inl (by simp)) harr⟩
   | goto l=>exact⟨_,zG,xJ,hq, .pass (x:= .inLoop c) rfl (fun _ _=> .inl (by simp)) harr⟩
   | ret=>exact⟨_,zG,xJ,hq, .pass (x:= .inLoop c) rfl (fun _ _=> .inl (by simp)) harr⟩
   | panic ch=>exact⟨_,zG,xJ,hq, .pass (x:= .inLoop c) rfl (fun _ _=> .inl (by simp)) harr⟩
   | outgrown=>exact⟨_,zG,xJ,hq, .pass (x:= .inLoop c) rfl (fun _ _=> .inl (by simp)) harr⟩
 obtain⟨e,a',w',hq,harr⟩:=key n a w JV
 exact⟨e,a',w',hq, .of_steps (.one step_loop) harr⟩
theorem Same.trans {W:Nat->Bool}{a b c:lY}(h:Same W a b)(k:Same W b c):Same W a c:=fun n hn=>(k n hn).trans (h n hn)
theorem Same.refl (W:Nat->Bool)(a:lY):Same W a a:=fun _ _=>rfl
theorem Tq {P:Program}(hm:P.follows .mixedOrders=true){N:Nat}{ds:List Deferred} : ∀(c:Code) (W:Nat->Bool) (Q:Ex->lY->World->Prop) (ρ lI:lY) (a:Act) (w:World),
  pV N W c=true->Fits N ds ρ a->Same W lI ρ->vC P c Q ρ w->c.wp P (CQ N ds W lI Q) a w:=by
 intro c
 induction c with
 | skip=>intro W Q ρ lI a w _ hf hs h;exact wp_skip ⟨ρ,hf,hs,h⟩
 | region id ops draw=>
  intro W Q ρ lI a w hc hf hs h
  have hok : ∀o∈ops.toList,qA N W o=true:=by simpa only [pV,bQ]using hc
  have mono : ∀e a w,RQ N ds W lI (Q .normal) e a w->CQ N ds W lI Q e a w:=fun e a w hq=>by cases e<;>first|exact hq|exact hq.elim
  cases draw with
  | false=>
   refine Go.wp_mono (wp_region ?_) mono
   have hlen:ops.toList.length=ops.size:=by simp
   rw [jd, <-hlen]
   exact NC (K:=Q .normal) (Q:=RQ N ds W lI (Q .normal)) (fun ρ' a' w' hf' hs' hk=>⟨ρ',hf',hs',hk⟩) ops.toList 0 ρ a w (fun j=>by rw [aS]) hok hf hs h
  | true=>exact Go.wp_mono (yS.sound hm hok hf hs h) mono
 | seq x y ihx ihy=>
  intro W Q ρ lI a w hc hf hs h
  simp only [pV,au]at hc
  refine wp_seq (Go.wp_mono (ihx W _ ρ lI a w hc.1 hf hs h) fun e a' w' hq=> ?_)
  cases e with
  | normal=>
   obtain⟨ρ',hf',hs',hv⟩:=hq
   exact ihy W Q ρ' lI a' w' hc.2 hf' hs' hv
  | exit id=>exact hq
  | ret=>exact hq
  | goto l=>exact hq
  | panic ch=>exact hq
  | outgrown=>exact hq
 | cond c x y ihx ihy=>
  intro W Q ρ lI a w hc hf hs h
  simp only [pV,au]at hc
  simp only [vC]at h
  split at h
  ·rename_i b hb
   refine wp_cond (t:=b) (by rw [hf.eval];exact hb) ?_
   cases b with
   | true=>exact ihx W Q ρ lI a w hc.1 hf hs h
   | false=>exact ihy W Q ρ lI a w hc.2 hf hs h
  ·cases h
 | block id b ih=>
  intro W Q ρ lI a w hc hf hs h
  refine wp_block (Go.wp_mono (ih W _ ρ lI a w hc hf hs h) fun e a' w' hq=> ?_)
  cases e with
  | normal=>exact hq
  | exit j=>
   obtain⟨ρ',hf',hs',hv⟩:=hq
   simp only [Xm]at hv
   simp only [Exit.inBlock]
   by_cases hj:j=id
   ·subst hj
    rw [iC,cond_true]at hv
    simp only [if_true]
    exact⟨ρ',hf',hs',hv⟩
   ·have hb:Nat.beq j id=false:=by
     cases hb:Nat.beq j id with
     | false=>rfl
     | true=>exact absurd (aA hb) hj
    rw [hb,cond_false]at hv
    rw [if_neg hj]
    exact⟨ρ',hf',hs',hv⟩
  | ret=>exact hq
  | goto l=>exact hq
  | panic ch=>exact hq
  | outgrown=>exact hq
 | loop b ih=>
  intro W Q ρ lI a w hc hf hs h
  obtain⟨ws,I,n,hw,JV,hr⟩:=h.ex
  have hc':=Ir b hc hw
  refine Eo (fun n a' w'=> ∃ρ',I n ρ' w'∧Fits N ds ρ' a'∧Same (fun k=>W k&&ws k) ρ ρ') n ⟨ρ,JV,hf,Same.refl _ _⟩ fun n a' w' ⟨ρ',hI,hf',hs'⟩=> ?_
  have hsw:Same ws ρ ρ':=fun k hk=>hs' k (by simp [hk])
  refine Go.wp_mono (ih (fun k=>W k&&ws k) _ ρ' ρ a' w' hc' hf' hs' (hr n ρ' w' hI hsw)) fun e a'' w'' hq=> ?_
  have up : ∀ {o7},Same (fun k=>W k&&ws k) ρ o7->Same W lI o7:=fun h'=>hs.trans fun k hk=>h' k (by simp [hk])
  cases e with
  | normal=>
   obtain⟨o7,uO,uP,⟨m,hlt,hI'⟩⟩:=hq
   exact⟨m,hlt,o7,hI',uO,uP⟩
  | exit id=>obtain⟨o7,uO,uP,hv⟩:=hq;exact⟨o7,uO,up uP,hv⟩
  | ret=>obtain⟨o7,uO,uP,hv⟩:=hq;exact⟨o7,uO,up uP,hv⟩
  | goto l=>exact hq
  | panic ch=>exact hq
  | outgrown=>exact hq
 | exit id=>intro W Q ρ lI a w _ hf hs h;exact Go.wp_exit ⟨ρ,hf,hs,h⟩
 | ret=>intro W Q ρ lI a w _ hf hs h;exact Go.wp_ret ⟨ρ,hf,hs,h⟩
 | _=>intro W Q ρ lI a w hc;simp [pV]at hc
structure rV (p:Prop):Prop where
 holds:p
def Ep (P:Program)(rs:List ResultVar)(ρ:lY)(w:World)(k:List Value->Prop):Prop:=
 match rs with
 | []=>k []
 | .tmp t::r=>force (ρ t) fun v=>Ep P r ρ w fun vs=>k (v::vs)
 | .cell a t::r=>(match ρ a with
  | .pointer (some a)=>nJ P (loadVar t a) w (wr true w fun v _=>Ep P r ρ w fun vs=>k (v::vs))
  | _=>False)
def mW (vs:List Value):Value:=match vs with | [v]=>v|vs=> .tuple vs.toArray
def fin (P:Program)(fn:Func)(R:Value->World->Prop)(e:Ex)(ρ:lY)(w:World):Prop:=
 match e with
 | .normal=>Ep P fn.results.toList ρ w fun vs=>rV (R (mW vs) w)
 | .ret=>Ep P fn.results.toList ρ w fun vs=>rV (R (mW vs) w)
 | .exit _=>False
def nth (l:List Value)(n:Nat):Value:=
 match l,n with
 | [],_=>undef
 | v::_,0=>v
 | _::r,n+1=>nth r n
def rE (args:Array Value):lY:=fun n=>nth args.toList n
theorem zN (l:List Value) : ∀n,nth l n=l.getD n undef:=by
 induction l with
 | nil=>intro n;simp [nth]
 | cons v r ih=>intro n;cases n with
  | zero=>simp [nth]
  | succ n=>simp [nth,ih]
def G7 (tmps:Array Value)(r:ResultVar):Sem Value:=
 match r with
 | .tmp t=>pure (tmps.getD t undef)
 | .cell a t=>do loadVar t (<-asAddr (tmps.getD a undef))
theorem wU (fn:Func)(tmps:Array Value):results fn tmps=(do
  let vs <-fn.results.mapM (G7 tmps)
  pure (if h:vs.size=1 then vs[0]else .tuple vs)):=by
 unfold results
 rfl
theorem Es {P:Program}{w:World}{ρ:lY}{tmps:Array Value}(hg : ∀t,tmps.getD t undef=ρ t) : ∀(rs:List ResultVar) (k:List Value->Prop),
  Ep P rs ρ w k->∃vs,(rs.mapM (G7 tmps)).run P w = .ok vs w∧k vs:=by
 intro rs
 induction rs with
 | nil=>intro k h;exact⟨[],by simp,h⟩
 | cons r rs ih=>
  intro k h
  cases r with
  | tmp t=>
   simp only [Ep,force_eq]at h
   obtain⟨vs,hr,hk⟩:=ih _ h
   refine⟨_, ?_,hk⟩
   have h1:(G7 tmps (.tmp t)).run P w = .ok (ρ t) w:=by simp only [G7,hg];rfl
   rw [List.mapM_cons,Sem.run_bind,h1]
   simp only [Result.andThen_ok,Sem.run_bind,hr,Sem.run_pure]
  | cell a t=>
   simp only [Ep]at h
   split at h
   ·rename_i p hp
    obtain⟨v,hv,hk⟩:=h.same
    obtain⟨vs,hr,hk⟩:=ih _ hk
    refine⟨_, ?_,hk⟩
    have h1:(G7 tmps (.cell a t)).run P w = .ok v w:=by
     simp only [G7,hg,hp,Sem.run_bind]
     have h2:(asAddr (Value.pointer (some p))).run P w = .ok p w:=rfl
     rw [h2,Result.andThen_ok,hv]
    rw [List.mapM_cons,Sem.run_bind,h1]
    simp only [Result.andThen_ok,Sem.run_bind,hr,Sem.run_pure]
   ·cases h
theorem J8 {P:Program}{f:FuncId}{fn:Func}{c:Code}{args:Array Value}{w:World}{R:Value->World->Prop}
  (hf:P.funcs[f]? = some fn) (hb:fn.body=some c) (hm:P.follows .mixedOrders=true) (hN:args.size<=fn.ntmps) (hok:pV fn.ntmps (fun _=>true) c=true)
  (h:vC P c (fin P fn R) (rE args) w):Calls P f args w fun e w'=> ∃v,e = .returned v∧R v w':=by
 refine calls_of_wp hf hb ?_
 have hfit:Fits fn.ntmps [] (rE args) {tmps:=args++Array.replicate (fn.ntmps-args.size) undef,defers:= []}:=by
  refine⟨by simp;omega,fun t=> ?_,rfl⟩
  simp only [rE,zN]
  rw [gu,aW,iW]
  by_cases ht:t<args.size
  ·simp [ht]
  ·simp only [ht,if_false,bf]
   rw [fM (kE ht)]
   by_cases h2:t-args.size<fn.ntmps-args.size
   ·simp [h2]
   ·simp [h2]
 refine Go.wp_mono (Tq hm c (fun _=>true) _ _ _ _ w hok hfit (Same.refl _ _) h) fun e a' w' hq=> ?_
 have res : ∀ {ρ':lY},Fits fn.ntmps [] ρ' a'->(Ep P fn.results.toList ρ' w' fun vs=>rV (R (mW vs) w'))->
   a'.defers = []∧∃v,(results fn a'.tmps).run P w' = .ok v w'∧∃u,Ending.returned v = .returned u∧R u w':=by
  intro ρ' hf' hv
  obtain⟨vs,hr,hk⟩:=Es hf'.get _ _ hv
  refine⟨hf'.defers,mW vs, ?_,mW vs,rfl,hk.holds⟩
  rw [wU,Sem.run_bind,jg,Sem.run_map]
  rw [hr]
  simp only [Result.andThen_ok,Sem.run_pure]
  congr 1
  match vs with
  | []=>rfl
  | [v]=>rfl
  | v::u::r=>simp [mW]
 cases e with
 | normal=>obtain⟨ρ',hf',_,hv⟩:=hq;exact res hf' hv
 | ret=>obtain⟨ρ',hf',_,hv⟩:=hq;exact res hf' hv
 | exit id=>obtain⟨ρ',hf',_,hv⟩:=hq;exact hv.elim
 | goto l=>exact hq.elim
 | panic ch=>exact hq.elim
 | outgrown=>exact hq.elim
def look (l:List (Nat×Value))(n:Nat):Option Value:=
 match l with
 | []=>none
 | p::r=>bif Nat.beq n p.1 then some p.2 else look r n
def vS (l:List (Nat×Nat))(n:Nat):Bool:=
 match l with
 | []=>false
 | p::r=>bif Nat.ble p.1 n&&Nat.ble n p.2 then true else vS r n
def frm (sl:List (Nat×Value))(ws:List (Nat×Nat))(j ρ:lY):lY:=fun n=>
 match look sl n with
 | some v=>v
 | none=>bif vS ws n then j n else ρ n
def hold (sl:List (Nat×Value))(ρ:lY):Prop:=
 match sl with
 | []=>True
 | p::r=>ρ p.1=p.2∧hold r ρ
theorem QL {sl:List (Nat×Value)}{ρ:lY}{n:Nat}{v:Value}(h:hold sl ρ)(hl:look sl n=some v):ρ n=v:=by
 induction sl with
 | nil=>cases hl
 | cons p r ih=>
  simp only [look]at hl
  cases hb:Nat.beq n p.1 with
  | true=>
   rw [hb,cond_true]at hl
   rw [aA hb]
   injection hl with hl
   rw [<-hl]
   exact h.1
  | false=>rw [hb,cond_false]at hl;exact ih h.2 hl
theorem aa9 {sl:List (Nat×Value)}{ws:List (Nat×Nat)}{ρ ρ':lY}(h:hold sl ρ')(hs:Same (vS ws) ρ ρ'):ρ'=frm sl ws ρ' ρ:=by
 funext n
 unfold frm
 cases hl:look sl n with
 | some v=>exact QL h hl
 | none=>
  cases hm:vS ws n with
  | true=>rfl
  | false=>exact hs n hm
theorem qZ {X:Type}{body:Code}{B:(Ex->lY->World->Prop)->lY->World->Prop}{Q:Ex->lY->World->Prop}{ρ:lY}{w:World}
  (ws:List (Nat×Nat)) (sl:X->List (Nat×Value)) (J:X->World->Prop) (μ:X->Nat) (zH:X)
  (hw:writesIn (vS ws) body=true) (JV:hold (sl zH) ρ) (hJ:J zH w)
  (hr : ∀x w' j,J x w'->B (aaz (fun o7 w''=>qJ (∃m,m<μ x∧∃x',μ x'=m∧hold (sl x') o7∧J x' w'')) Q) (frm (sl x) ws j ρ) w') :
  Tn body B Q ρ w:=
 ⟨vS ws,fun n ρ' w'=> ∃x,μ x=n∧hold (sl x) ρ'∧J x w',μ zH,hw,⟨zH,rfl,JV,hJ⟩,fun n ρ' w' ⟨x,hx,hh,hJ'⟩ hs=>by
  subst hx
  have h1:=hr x w' ρ' hJ'
  rw [<-aa9 hh hs]at h1
  exact h1⟩
structure Only (b:Nat)(w w':World):Prop where
 os:w'.os=w.os
 tape:w'.tape=w.tape
 output:w'.output=w.output
 size:w'.heap.size=w.heap.size
 block : ∀k,k≠b->w'.heap[k]? = w.heap[k]?
theorem Only.refl (b:Nat)(w:World):Only b w w:=⟨rfl,rfl,rfl,rfl,fun _ _=>rfl⟩
theorem Only.trans {b:Nat}{u v w:World}(h:Only b u v)(k:Only b v w):Only b u w:=
 ⟨k.os.trans h.os,k.tape.trans h.tape,k.output.trans h.output,k.size.trans h.size,fun i hi=>(k.block i hi).trans (h.block i hi)⟩
theorem Only.drew {b:Nat}{u v:World}(h:Only b u v):Only b u v.drew:=⟨h.os,h.tape,h.output,h.size,h.block⟩
theorem Only.NJ {b:Nat}{u v:World}(h:Only b u.drew v):Only b u v:=⟨h.os,h.tape,h.output,h.size,h.block⟩
theorem Only.step {b:Nat}{u v w:World}(k:Only b u.drew v)(h:Only b w u):Only b w v:=h.trans k.NJ
theorem Only.aaA {b:Nat}{u v w:World}(k:Only b u v)(h:Only b w u):Only b w v:=h.trans k
theorem Only.below {b B:Nat}{w w':World}(h:Only b w w')(hB:B<=b):Below B w w':=
 ⟨h.os,h.tape,h.output,jq h.size.symm,fun k hk=>h.block k (by omega)⟩
theorem Below.NJ {B:Nat}{u v:World}(h:Below B u.drew v):Below B u v:=⟨h.os,h.tape,h.output,h.size,h.block⟩
theorem G8 {B:Nat}{u v:World}(h:Below B u v):Below B u v.drew:=⟨h.os,h.tape,h.output,h.size,h.block⟩
structure Quiet (w w':World):Prop where
 os:w'.os=w.os
 tape:w'.tape=w.tape
 output:w'.output=w.output
 heap:w'.heap=w.heap
theorem Quiet.refl (w:World):Quiet w w:=⟨rfl,rfl,rfl,rfl⟩
theorem Quiet.trans {a b c:World}(h:Quiet a b)(k:Quiet b c):Quiet a c:=⟨k.os.trans h.os,k.tape.trans h.tape,k.output.trans h.output,k.heap.trans h.heap⟩
theorem Quiet.drew {a b:World}(h:Quiet a b):Quiet a b.drew:=⟨h.os,h.tape,h.output,h.heap⟩
theorem Quiet.below {a b:World}(h:Quiet a b)(B:Nat):Below B a b:=⟨h.os,h.tape,h.output,by rw [h.heap];exact ay _,fun k _=>by rw [h.heap]⟩
theorem Quiet.only {a b:World}(h:Quiet a b)(B:Nat):Only B a b:=⟨h.os,h.tape,h.output,by rw [h.heap],fun k _=>by rw [h.heap]⟩
def qX (w:World)(b:Nat)(l:List Value)(t:TypeId):Prop:=w.heap[b]? = some (.cells l.toArray t (0,0))
theorem qX.lt {w:World}{b:Nat}{l:List Value}{t:TypeId}(h:qX w b l t):b<w.heap.size:=(cO.1 h).1
theorem qX.cell {w:World}{b:Nat}{l:List Value}{t:TypeId}(h:qX w b l t)(o:Nat):w.cell? ⟨b,o,none⟩=l[o]? :=by
 have h':w.heap[b]? = some (.cells l.toArray t (0,0)):=h
 simp [World.cell?,h']
theorem qX.only {w w':World}{b c:Nat}{l:List Value}{t:TypeId}(h:qX w b l t)(ho:Only c w w')(hne:b≠c):qX w' b l t:=(ho.block b hne).trans h
theorem qX.below {w w':World}{b B:Nat}{l:List Value}{t:TypeId}(h:qX w b l t)(hb:Below B w w')(hlt:b<B):qX w' b l t:=(hb.block b hlt).trans h
theorem qX.quiet {w w':World}{b:Nat}{l:List Value}{t:TypeId}(h:qX w b l t)(hq:Quiet w w'):qX w' b l t:=by
 unfold qX at *;rw [hq.heap];exact h
theorem qX.new (w:World)(cs:Array Value)(t:TypeId):qX (w.alloc (.cells cs t)) w.heap.size cs.toList t:=by
 unfold qX
 rw [heap_alloc_new w]
theorem qX.alloc {w:World}{b:Nat}{l:List Value}{t:TypeId}(h:qX w b l t)(o:Obj):qX (w.alloc o) b l t:=
 (heap_alloc_old w o b h.lt).trans h
def y8 (P:Program)(f:FuncId)(args:Array Value)(w:World)(R:Value->World->Prop):Prop:=Calls P f args w fun e w'=> ∃v,e = .returned v∧R v w'
theorem y8.mono {P:Program}{f:FuncId}{args:Array Value}{w:World}{R R':Value->World->Prop}(h:y8 P f args w R)(k : ∀v w',R v w'->R' v w'):y8 P f args w R':=
 Calls.mono h fun _ _ ⟨v,he,hr⟩=>⟨v,he,k _ _ hr⟩
theorem ou {P:Program}{f:FuncId}{fn:Func}{c:Code}{args:Array Value}{w:World}{R:Value->World->Prop}
  (hf:P.funcs[f]? = some fn) (hb:fn.body=some c) (hm:P.follows .mixedOrders=true) (hok:(Nat.ble args.size fn.ntmps&&pV fn.ntmps (fun _=>true) c)=true)
  (h:vC P c (fin P fn R) (rE args) w):y8 P f args w R:=by
 simp only [au]at hok
 exact J8 hf hb hm (aN hok.1) hok.2 h
theorem pF {P:Program}{f:FuncId}{args:Array Value}{w:World}{K:Value->World->Prop}{R:Value->World->Prop}(hc:callable P f=true)(h:y8 P f args w R)
  (k : ∀v w',R v w'->K v w'):SQ P f args w K:=⟨hc,h.mono k⟩
theorem pY {k:IntKind}{a b:Int}(h:a=b):Value.int k a=Value.int k b:=by rw [h]
theorem incr {i:Nat}(h:i<9223372036854775807):IntKind.i64.wrap ((i:Int)+1)=((i+1:Nat):Int):=by
 rw [IntWalk.i64_in _ (by omega)]
 rfl
def szB (P:Program)(t:TypeId):Option Nat:=(P.info? t).map (·.size)
theorem pK {P:Program}{t:TypeId}{n:Nat}(h:szB P t=some n) : ∃i,P.info? t=some i∧i.size=n:=by
 unfold szB at h
 cases hi:P.info? t with
 | none=>simp [hi]at h
 | some i=>simp only [hi,bM,aI]at h;exact⟨i,rfl,h⟩
theorem qB {P:Program}{t:TypeId}{n:Nat}{w:World}(h:szB P t=some n):(sizeOf t).run P w = .ok n w:=by
 obtain⟨i,hi,rfl⟩:=pK h
 simp [sizeOf,qY hi]
theorem oP {P:Program}{s:Sem Value}{w w':World}{v:Value}{K:Value->World->Prop}(h:s.run P w = .ok v w')(k:K v w'):nJ P s w K:=⟨v,w',h,k⟩
theorem add0 (b o n:Nat):(⟨b,o,none⟩:Addr).add n=⟨b,o+n,none⟩:=by unfold Addr.add;split<;>simp_all
section
variable {P:Program}{w:World}{K:Value->World->Prop}
theorem oG {t:TypeId}{a:Addr}{v:Value}(ha:xH P t=some false)(h:w.cell? a=some v)(k:K v w):nJ P (loadVar t a) w K:=by
 refine oP ?_ k
 unfold loadVar
 rw [Sem.run_bind,qM ha]
 simp [h]
theorem mM {t T:TypeId}{b o:Nat}{l:List Value}{v:Value}(ha:xH P t=some false)(hb:qX w b l T)(hv:l[o]? = some v)(k:K v w):nJ P (loadVar t ⟨b,o,none⟩) w K:=
 oG ha (by rw [hb.cell];exact hv) k
theorem run_loadCellsFrom (a:Addr) : ∀(l:List Value) (i:Nat) (acc:Array Value),(∀j v,l[j]? = some v->w.cell? (a.add (i+j))=some v)->
  (loadCellsFrom a i l.length acc).run P w = .ok (acc++l.toArray) w:=by
 intro l
 induction l with
 | nil=>intro i acc _;simp [loadCellsFrom]
 | cons v r ih=>
  intro i acc h
  have h0:=h 0 v rfl
  simp only [dH]at h0
  simp only [bg,loadCellsFrom,Sem.run_bind,run_load,h0,Result.andThen_ok]
  rw [ih (i+1) _ (fun j u hj=>by have:=h (j+1) u (by simpa using hj);rw [show i+1+j=i+(j+1) by omega];exact this)]
  simp
theorem J9 {t:TypeId}{a:Addr}{l:List Value}(ha:xH P t=some true)(hs:szB P t=some l.length)(h : ∀j v,l[j]? = some v->w.cell? (a.add j)=some v)
  (k:K (.agg l.toArray) w):nJ P (loadVar t a) w K:=by
 refine oP ?_ k
 unfold loadVar
 rw [Sem.run_bind,qM ha]
 simp only [Result.andThen_ok,if_true,Sem.run_bind,qB hs,loadCells]
 rw [run_loadCellsFrom a l 0 #[] (fun j v hj=>by rw [aS];exact h j v hj)]
 simp
theorem wC {t T:TypeId}{b:Nat}{l:List Value}(ha:xH P t=some true)(hs:szB P t=some l.length)(hb:qX w b l T)
  (k:K (.agg l.toArray) w):nJ P (loadVar t ⟨b,0,none⟩) w K:=
 J9 ha hs (fun j v hj=>by rw [add0,hb.cell,aS];exact hj) k
theorem QM {t:TypeId}{a:Addr}{v u:Value}{K:World->Prop}(hs:szB P t=some 1)(hv:v.oneCell'=true)(h:w.cell? a=some u)(hf:w.frozen? a=false)
  (k:K (w.setCell a v)):vw P (storeVar t a v) w K:=by
 have hc:v.cells = #[v]:=by cases v<;>first|rfl|simp [Value.oneCell']at hv
 have ha:a.add 0=a:=by simp [Addr.add]
 refine⟨(),_, ?_,k⟩
 unfold storeVar
 simp only [Sem.run_bind,qB hs,Result.andThen_ok,hc]
 simp [storeCells,ha,run_store P w a v _ hv,h,hf]
theorem Iu {b o:Nat}{l:List Value}{T:TypeId}(hb:qX w b l T)(v:Value):Only b w (w.setCell ⟨b,o,none⟩ v)∧qX (w.setCell ⟨b,o,none⟩ v) b (l.set o v) T:=by
 have hb':w.heap[b]? = some (.cells l.toArray T (0,0)):=hb
 refine⟨⟨rfl,rfl,rfl,by simp,fun k hk=>Below.heap_setCell _ _ _ _ hk⟩, ?_⟩
 unfold qX
 rw [setCell_eq_setRow w b o _ T (0,0) v hb',setRow_heap w b _ _ T (0,0) hb']
 simp
theorem lZ {t T:TypeId}{b o:Nat}{l:List Value}{v:Value}{K:World->Prop}(hb:qX w b l T)(hs:szB P t=some 1)(hv:v.oneCell'=true)(hlt:Nat.blt o l.length=true)
  (k : ∀w',Only b w w'->qX w' b (l.set o v) T->K w'):vw P (storeVar t ⟨b,o,none⟩ v) w K:=by
 have hb':w.heap[b]? = some (.cells l.toArray T (0,0)):=hb
 have ho:o<l.length:=aN hlt
 refine QM hs hv (u:=l[o]) (by rw [hb.cell];exact aj ho) (by simp [World.frozen?,hb']) ?_
 exact k _ (Iu hb v).1 (Iu hb v).2
theorem xE {b:Nat}{T:TypeId} : ∀(vs:List Value) (i o:Nat) (l:List Value) (w:World),qX w b l T->o+i+vs.length<=l.length->(∀v∈vs,v.oneCell'=true)->
  ∃w',(storeCells ⟨b,o,none⟩ vs i).run P w = .ok () w'∧Only b w w'∧qX w' b (tZ l (o+i) vs) T:=by
 intro vs
 induction vs with
 | nil=>intro i o l w hb _ _;exact⟨w,by simp [storeCells],Only.refl _ _,hb⟩
 | cons v r ih=>
  intro i o l w hb hl h1
  simp only [bg]at hl
  have hb':w.heap[b]? = some (.cells l.toArray T (0,0)):=hb
  have hcell:w.cell? ⟨b,o+i,none⟩=some l[o+i]:=by rw [hb.cell];exact aj (by omega)
  have hfro:w.frozen? ⟨b,o+i,none⟩=false:=by simp [World.frozen?,hb']
  obtain⟨ho1,hb1⟩:=Iu (o:=o+i) hb v
  obtain⟨w',hr,ho,hbw⟩:=ih (i+1) o (l.set (o+i) v) _ hb1 (by simp;omega) (fun u hu=>h1 u (by simp [hu]))
  refine⟨w', ?_,ho1.trans ho, ?_⟩
  ·simp only [storeCells,Sem.run_bind,add0,run_store P w _ v _ (h1 v (by simp)),hcell,hfro]
   simp only [aZ,if_false,Result.andThen_ok]
   exact hr
  ·simp only [tZ];exact hbw
theorem uH {t T:TypeId}{b o:Nat}{l vs:List Value}{K:World->Prop}(hb:qX w b l T)(hs:szB P t=some vs.length)(h1:vs.all (·.oneCell')=true)
  (hl:Nat.ble (o+vs.length) l.length=true) (k : ∀w',Only b w w'->qX w' b (tZ l o vs) T->K w'):vw P (storeVar t ⟨b,o,none⟩ (.agg vs.toArray)) w K:=by
 obtain⟨w',hr,ho,hbw⟩:=xE (P:=P) vs 0 o l w hb (by have:=aN hl;omega) (bQ.1 h1)
 refine⟨(),w', ?_,k w' ho hbw⟩
 unfold storeVar
 simp only [Sem.run_bind,qB hs,Result.andThen_ok,Value.cells]
 simp [hr]
theorem Iw {t e:TypeId}{n sz b o:Nat}{k:IntKind}{ix:Int}(m:Nat)(hu:P.underlying t=some (.array n e))(hs:szB P e=some sz)(hm:ix=m)(h:m<n)
  (hk:K (.pointer (some ⟨b,o+m*sz,none⟩)) w):nJ P (Instr.indexAt t (.pointer (some ⟨b,o,none⟩)) (.int k ix)) w K:=by
 refine oP ?_ hk
 subst hm
 have h1:(0:Int)<=m∧(m:Int)<n:=⟨by omega,by omega⟩
 unfold Instr.indexAt
 simp [asIntOf,lT hu,Instr.sureAddr,h,qB hs,add0]
theorem DC {t e:TypeId}{n b o:Nat}{k:IntKind}{ix:Int}(m:Nat)(hu:P.underlying t=some (.array n e))(hs:szB P e=some 1)(hm:ix=m)(h:m<n)
  (hk:K (.pointer (some ⟨b,o+m,none⟩)) w):nJ P (Instr.indexAt t (.pointer (some ⟨b,o,none⟩)) (.int k ix)) w K:=
 Iw m hu hs hm h (by rw [dW];exact hk)
theorem mY {t e:TypeId}{n b o:Nat}{k:IntKind}{m:Nat}(hu:P.underlying t=some (.array n e))(hs:szB P e=some 1)(h:Nat.blt m n=true)
  (hk:K (.pointer (some ⟨b,o+m,none⟩)) w):nJ P (Instr.indexAt t (.pointer (some ⟨b,o,none⟩)) (.int k (OfNat.ofNat m))) w K:=
 DC m hu hs rfl (aN h) hk
theorem Ko {t e:TypeId}{sz b o n c:Nat}{k:IntKind}{ix:Int}(m:Nat)(hu:P.underlying t=some (.slice e))(hs:szB P e=some sz)(hm:ix=m)(h:m<n)
  (hk:K (.pointer (some ⟨b,o+m*sz,none⟩)) w):nJ P (Instr.indexAt t (.slice (some ⟨b,o,none⟩) n c) (.int k ix)) w K:=by
 refine oP ?_ hk
 subst hm
 have h1:(0:Int)<=m∧(m:Int)<n:=⟨by omega,by omega⟩
 unfold Instr.indexAt
 simp [asIntOf,lT hu,h,qB hs,add0]
theorem y9 {t e:TypeId}{b o n c:Nat}{k:IntKind}{ix:Int}(m:Nat)(hu:P.underlying t=some (.slice e))(hs:szB P e=some 1)(hm:ix=m)(h:m<n)
  (hk:K (.pointer (some ⟨b,o+m,none⟩)) w):nJ P (Instr.indexAt t (.slice (some ⟨b,o,none⟩) n c) (.int k ix)) w K:=
 Ko m hu hs hm h (by rw [dW];exact hk)
end
def Row (w:World)(oa:Option Addr)(vs:List Value):Prop:=
 vs = []∨∃b o,oa=some ⟨b,o,none⟩∧b<w.heap.size∧∀j v,vs[j]? = some v->w.cell? ⟨b,o+j,none⟩=some v
theorem Row.get {w:World}{oa:Option Addr}{vs:List Value}(h:Row w oa vs)(hne:0<vs.length) :
  ∃b o,oa=some ⟨b,o,none⟩∧b<w.heap.size∧∀j v,vs[j]? = some v->w.cell? ⟨b,o+j,none⟩=some v:=
 h.resolve_left fun e=>by simp [e]at hne
theorem Row.below {w w':World}{oa:Option Addr}{vs:List Value}(h:Row w oa vs)(hb:Below w.heap.size w w'):Row w' oa vs:=by
 rcases h with h|⟨b,o,he,hlt,hc⟩
 ·exact .inl h
 ·exact .inr ⟨b,o,he,aV hlt hb.size,fun j v hj=>by rw [hb.cell (p:=⟨b,o+j,none⟩) hlt];exact hc j v hj⟩
theorem Row.nil (w:World)(oa:Option Addr):Row w oa []:= .inl rfl
def nR (l:List UInt8):List Value:=l.map fun x=> .int .u8 x.toNat
theorem uI {l:List UInt8}{j:Nat}(h:j<l.length):(nR l)[j]? = some (.int .u8 l[j].toNat):=by simp [nR,h]
@[simp] theorem bvals_len (l:List UInt8):(nR l).length=l.length:=by simp [nR]
def Own (w:World)(B:Nat)(E:TypeId)(sz:Nat)(oa:Option Addr)(n c:Nat)(xs:List Value):Prop:=w.ownsRow B E sz (.slice oa n c) n xs
theorem Own.len {w:World}{B:Nat}{E:TypeId}{sz:Nat}{oa:Option Addr}{n c:Nat}{xs:List Value}(h:Own w B E sz oa n c xs):xs.length=n*sz:=h.1
theorem Own.nil (w:World)(B:Nat)(E:TypeId)(sz:Nat):Own w B E sz none 0 0 []:=World.ownsRow_nil w B E sz
theorem Own.row {w:World}{B:Nat}{E:TypeId}{sz:Nat}{oa:Option Addr}{n c:Nat}{xs:List Value}(h:Own w B E sz oa n c xs):Row w oa xs:=by
 rcases h.2 with ⟨hv,hn⟩|⟨g,cap,cur,hv,hg,hh,_⟩
 ·subst hn
  exact .inl (aF (by simpa using h.1))
 ·injection hv with h1 h2 h3
  subst h1
  refine .inr ⟨g,0,rfl,(cO.1 hh).1,fun j v hj=> ?_⟩
  have:=World.ownsRow.cells (h:w.ownsRow B E sz (.slice (some ⟨g,0,none⟩) n c) n xs) (g:=g) rfl j v hj
  rw [add0]at this
  exact this
def ownB (oa:Option Addr):Option Nat:=oa.map (·.block)
theorem zO (oa:Option Addr)(n c:Nat):(Value.slice oa n c).ownBlock=ownB oa:=by cases oa<;>rfl
theorem Own.kept {w w':World}{B:Nat}{E:TypeId}{sz:Nat}{oa:Option Addr}{n c:Nat}{xs:List Value}{row:Option Nat}(h:Own w B E sz oa n c xs)(hg:w.grownBy w' row)
  (hne:ownB oa=none∨ownB oa≠row):Own w' B E sz oa n c xs:=World.ownsRow.kept h hg (by rw [zO];exact hne)
theorem Own.ge {w:World}{B:Nat}{E:TypeId}{sz:Nat}{oa:Option Addr}{n c:Nat}{xs:List Value}(h:Own w B E sz oa n c xs) : ∀k,ownB oa=some k->B<=k∧k<w.heap.size:=by
 intro k hk
 exact World.ownsRow.lt h k (by rw [zO];exact hk)
theorem Own.below {w w':World}{B:Nat}{E:TypeId}{sz:Nat}{oa:Option Addr}{n c:Nat}{xs:List Value}(h:Own w B E sz oa n c xs)(hb:Below w.heap.size w w'):Own w' B E sz oa n c xs:=
 Own.kept h (row:=none) ⟨hb.os,hb.tape,hb.output,hb.size,fun k hk _=>hb.block k hk⟩ (by cases h:ownB oa<;>simp)
theorem grown_below {w w':World}{B:Nat}{row:Option Nat}(hg:w.grownBy w' row)(hB:B<=w.heap.size)(hr : ∀k,row=some k->B<=k):Below B w w':=
 (Below.refl B w).grown hg hB hr
theorem Row.alloc1 (w:World)(l:List Value)(t:TypeId):Row (w.alloc (.cells l.toArray t)) (some ⟨w.heap.size,0,none⟩) l:=
 .inr ⟨w.heap.size,0,rfl,by simp,fun j v hj=>by have:=(qX.new w l.toArray t).cell j;rw [aS,this];exact hj⟩
theorem qX.row {w:World}{b:Nat}{l:List Value}{t:TypeId}(h:qX w b l t):Row w (some ⟨b,0,none⟩) l:=
 .inr ⟨b,0,rfl,h.lt,fun j v hj=>by rw [aS,h.cell];exact hj⟩
theorem Bq {P:Program}{w:World}{t T:TypeId}{b o:Nat}{l:List Value}{v:Value}{K:World->Prop}(hb:qX w b l T)(hs:szB P t=some 1)(hv:v.oneCell'=true)(hlt:o<l.length)
  (k : ∀w',Only b w w'->qX w' b (l.set o v) T->K w'):vw P (storeVar t ⟨b,o,none⟩ v) w K:=
 lZ hb hs hv (kS hlt) k
theorem Own.alloc {w:World}{B:Nat}{E:TypeId}{sz:Nat}{oa:Option Addr}{n c:Nat}{xs:List Value}(h:Own w B E sz oa n c xs)(o:Obj):Own (w.alloc o) B E sz oa n c xs:=
 h.below ((Below.refl _ _).alloc (ay _) o)
theorem Row.drew {w:World}{oa:Option Addr}{vs:List Value}(h:Row w oa vs):Row w.drew oa vs:=h
theorem Row.alloc {w:World}{oa:Option Addr}{vs:List Value}(h:Row w oa vs)(o:Obj):Row (w.alloc o) oa vs:=h.below ((Below.refl _ _).alloc (ay _) o)
theorem qV {B:Nat}{w w':World}(h:Below B w w')(hB:B<=w.heap.size)(o:Obj):Below B w (w'.alloc o):=h.alloc (dN hB h.size) o
theorem O7 {oa:Option Addr}{n m c:Nat}(h:n=m):Value.slice oa n c=Value.slice oa m c:=by rw [h]
def pW (P:Program)(t:TypeId):Option Nat:=(P.info? t).map (·.bytes)
def vG (P:Program)(t:TypeId):Option (List Value):=(P.info? t).bind fun i=>i.zero.map fun z=>z.cells.toList
section
variable {P:Program}{w:World}{K:Value->World->Prop}
theorem qc {t ty E:TypeId}{sz qU B n c m c2:Nat}{oa yc:Option Addr}{xs news zs:List Value}
  (ht:P.underlying t=some (.slice E)) (hs:szB P E=some sz) (hby:pW P E=some qU) (hz:vG P E=some zs) (hzl:zs.length=sz) (hsz:Nat.ble 1 sz=true)
  (hown:Own w B E sz oa n c xs) (hr:Row w yc news) (hl:news.length=m*sz) (h1 : ∀u∈news,u.oneCell'=true)
  (hnil:yc=none->c2=0)
  (hbytes:(n+m)*qU<=140737488355328) (hB:B<=w.heap.size) (hlen:n+m<=maxLen)
  (k : ∀oW c' w',Own w' B E sz oW (n+m) c' (xs++news)->Below B w w'->w.grownBy w' (ownB oa)->K (.slice oW (n+m) c') w') :
  nJ P (Builtin.append_ #[t,t] ty #[.slice oa n c, .slice yc m c2]) w K:=by
 obtain⟨i,hi,rfl⟩:=pK hs
 have hb':i.bytes=qU:=by simpa [pW,hi]using hby
 obtain⟨z,hz1,hz2⟩ : ∃z,i.zero=some z∧z.cells.toList=zs:=by
  unfold vG at hz
  simp only [hi,eP]at hz
  cases hzz:i.zero with
  | none=>simp [hzz]at hz
  | some z=>simp only [hzz,bM,aI]at hz;exact⟨z,rfl,hz⟩
 have hsz':0<i.size:=aN hsz
 have hzc:z.cells.size=i.size:=by rw [<-hz2]at hzl;simpa using hzl
 by_cases hm:yc=none
 ·subst hm
  have hm0:news = []:=hr.resolve_right (by rintro⟨b,o,he,_⟩;cases he)
  subst hm0
  have:m=0:=by
   rcases bP m with h|h
   ·exact h
   ·have:=jM h hsz';simp at hl;omega
  subst this
  have hc2:=hnil rfl
  subst hc2
  have hrun:=run_append_owned_none (P:=P) (w:=w) B t ty E i i.size ht hi (.slice oa n c) n xs hown
  refine oP hrun ?_
  have hk:=k oa c w (by simpa using hown) (Below.refl _ _) ⟨rfl,rfl,rfl,ay _,fun _ _ _=>rfl⟩
  simpa using hk
 ·obtain⟨ad,rfl,hcells⟩ : ∃ad,yc=some ad∧∀j u,news[j]? = some u->w.cell? (ad.add j)=some u:=by
   rcases hr with rfl|⟨b,o,rfl,_,hc⟩
   ·cases yc with
    | none=>exact absurd rfl hm
    | some ad=>exact⟨ad,rfl,by simp⟩
   ·exact⟨_,rfl,fun j u hj=>by rw [add0];exact hc j u hj⟩
  obtain⟨v',w',hrun,ho,hg,_⟩:=run_append_own (P:=P) w B t ty E i z i.size qU ht hi hz1 rfl hb' hzc hsz' (.slice oa n c) n xs hown ad m c2 news hl hcells h1 hlen hbytes hB
  rw [zO]at hg
  have hv : ∃oW c',v' = .slice oW (n+m) c':=by
   rcases ho.2 with ⟨h,h0⟩|⟨g,cap,cur,h,_⟩
   ·exact⟨none,0,by rw [h,h0]⟩
   ·exact⟨_,cap,h⟩
  obtain⟨oW,c',rfl⟩:=hv
  exact oP hrun (k oW c' w' ho (grown_below hg hB fun k hk=>(hown.ge k hk).1) hg)
theorem Xn {t E:TypeId}{sz qU n:Nat}{kl kc:IntKind}{l c:Int}{zs:List Value}
  (ht:P.underlying t=some (.slice E)) (hs:szB P E=some sz) (hby:pW P E=some qU) (hz:vG P E=some zs) (hzl:zs.length=sz) (hsz:Nat.ble 1 sz=true)
  (hl:l=n) (hc:c=n) (hbytes:qU*n<=140737488355328) (hn:n<=maxLen)
  (k : ∀w',w'=w.alloc (.cells (List.replicate n zs).flatten.toArray E)->qX w' w.heap.size (List.replicate n zs).flatten E->K (.slice (some ⟨w.heap.size,0,none⟩) n n) w') :
  nJ P (Instr.makeSlice t (.int kl l) (.int kc c)) w K:=by
 subst hl;subst hc
 obtain⟨i,hi,rfl⟩:=pK hs
 have hb':i.bytes=qU:=by simpa [pW,hi]using hby
 subst hb'
 obtain⟨z,hz1,hz2⟩ : ∃z,i.zero=some z∧z.cells.toList=zs:=by
  unfold vG at hz
  simp only [hi,eP]at hz
  cases hzz:i.zero with
  | none=>simp [hzz]at hz
  | some z=>simp only [hzz,bM,aI]at hz;exact⟨z,rfl,hz⟩
 have hsz':1<=i.size:=aN hsz
 have hzc:z.cells.size=i.size:=by rw [<-hz2]at hzl;simpa using hzl
 have h63:(n:Int)<=9223372036854775807:=by unfold maxLen at hn;omega
 have hbi:(i.bytes:Int)*(n:Int)<=281474976710656:=by
  rw [<-iw]
  omega
 have hrun:=run_make (P:=P) w t E i z ht hi hz1 kl kc n n (by omega) (by omega) hbi h63
 have hmc:madeCells z.cells (n*i.size)=(List.replicate n zs).flatten.toArray:=by
  rw [<-hz2, <-Bh z.cells n i.size hzc hsz']
  unfold madeCells
  rfl
 simp only [dK]at hrun
 rw [hmc]at hrun
 exact oP hrun (k _ rfl (by have:=qX.new w (List.replicate n zs).flatten.toArray E;simpa using this))
theorem Row.take {oa:Option Addr}{vs:List Value}(h:Row w oa vs)(n:Nat):Row w oa (vs.take n):=by
 rcases h with h|⟨b,o,he,hlt,hc⟩
 ·exact .inl (by simp [h])
 ·exact .inr ⟨b,o,he,hlt,fun j v hj=>hc j v (by rw [bH]at hj;split at hj;exact hj;cases hj)⟩
theorem Tt {src dst e:TypeId}{oa:Option Addr}{l:List UInt8}{n c:Nat}(hs:P.underlying src=some (.slice e))(he:P.underlying e=some (.int .u8))(hd:P.underlying dst=some .string)
  (hn:n=l.length) (hr:Row w oa (nR l)) (k:K (.string ⟨l.toArray⟩) w):nJ P (convert src dst (.slice oa n c)) w K:=by
 subst hn
 rcases hr with h|⟨b,o,rfl,_,hc⟩
 ·have hl:l = []:=by simpa [nR]using h
  subst hl
  refine oP ?_ k
  cases oa with
  | none=>have:=run_convert_bytes_nil (P:=P) w src e hs he 0 c dst hd;exact this
  | some a=>exact run_convert_bytes_back (P:=P) w src dst e a c [] hs he hd (by simp)
 ·exact oP (run_convert_bytes_back (P:=P) w src dst e _ c l hs he hd fun j hj=>by rw [add0];exact hc j _ (uI hj)) k
end
theorem sK (l:List UInt8) : ∀u∈nR l,u.oneCell'=true:=by
 intro u hu
 simp only [nR,dR]at hu
 obtain⟨x,_,rfl⟩:=hu
 rfl
theorem oQ (a b:List UInt8):nR (a++b)=nR a++nR b:=by simp [nR]
def Seg (vs:List Value)(off:Nat)(l:List Value):Prop:= ∀j v,l[j]? = some v->vs[off+j]? = some v
def recs {α:Type}(c:α->List Value)(l:List α):List Value:=(l.map c).flatten
theorem Kq {α:Type}{c:α->List Value}{k:Nat}(hk : ∀a,(c a).length=k)(l:List α):(recs c l).length=l.length*k:=by
 induction l with
 | nil=>simp [recs]
 | cons a r ih=>
  have:recs c (a::r)=c a++recs c r:=rfl
  rw [this,ak,ih,hk,bg,bK]
  omega
theorem Tv {α:Type}{c:α->List Value}{k:Nat}(hk : ∀a,(c a).length=k) : ∀(l:List α) (i:Nat) (h:i<l.length),Seg (recs c l) (i*k) (c l[i]):=by
 intro l
 induction l with
 | nil=>intro i h;simp at h
 | cons a r ih=>
  intro i h j v hj
  have e:recs c (a::r)=c a++recs c r:=rfl
  have hjk:j<k:=by
   have:=(aG.1 hj).1
   rwa [hk]at this
  cases i with
  | zero=>
   simp only [kL]at hj
   rw [e,dY,aS,dF (by rw [hk];exact hjk)]
   exact hj
  | succ i=>
   simp only [kM]at hj
   have:=ih i (by simpa using h) j v hj
   rw [e,dB (by rw [hk,bK];omega),hk]
   rw [show (i+1)*k+j-k=i*k+j by rw [bK];omega]
   exact this
theorem Kr (a:List Value) : ∀(vs:List Value) (b c:List Value),vs.length=b.length->tZ (a++b++c) a.length vs=a++vs++c:=by
 intro vs
 induction vs generalizing a with
 | nil=>
  intro b c h
  have:b = []:=by simpa using h.symm
  subst this;simp [tZ]
 | cons v r ih=>
  intro b c h
  cases b with
  | nil=>simp at h
  | cons x b=>
   simp only [tZ]
   have e:(a++x::b++c).set a.length v=(a++ [v])++b++c:=by simp
   rw [e]
   have:=ih (a++ [v]) b c (by simpa using h)
   simp only [ak,bg,dQ,aS]at this
   rw [this]
   simp
section
variable {P:Program}{w:World}{K:Value->World->Prop}
end
def At (w:World)(b o:Nat)(vs:List Value):Prop:= ∀j v,vs[j]? = some v->w.cell? ⟨b,o+j,none⟩=some v
theorem At.below {w w':World}{b o B:Nat}{vs:List Value}(h:At w b o vs)(hB:Below B w w')(hb:b<B):At w' b o vs:=fun j v hj=>by rw [hB.cell (p:=⟨b,o+j,none⟩) hb];exact h j v hj
theorem At.only {w w':World}{b o c:Nat}{vs:List Value}(h:At w b o vs)(hO:Only c w w')(hb:b≠c):At w' b o vs:=fun j v hj=>by
 have:=h j v hj
 unfold World.cell? at this ⊢
 simp only at this ⊢
 rw [hO.block b hb];exact this
theorem At.drew {w:World}{b o:Nat}{vs:List Value}(h:At w b o vs):At w.drew b o vs:=h
theorem qX.at {w:World}{b:Nat}{l:List Value}{t:TypeId}(h:qX w b l t):At w b 0 l:=fun j v hj=>by rw [aS,h.cell];exact hj
theorem Row.at {w:World}{oa:Option Addr}{vs:List Value}(h:Row w oa vs)(hne:0<vs.length) : ∃b o,oa=some ⟨b,o,none⟩∧b<w.heap.size∧At w b o vs:=h.get hne
section
variable {P:Program}{w:World}{K:Value->World->Prop}
theorem Tz {t:TypeId}{b o j:Nat}{vs:List Value}{v:Value}(hr:At w b o vs)(hv:vs[j]? = some v)(ha:xH P t=some false)(k:K v w):nJ P (loadVar t ⟨b,o+j,none⟩) w K:=
 oG ha (hr j v hv) k
theorem TA {t:TypeId}{b o off j:Nat}{vs l:List Value}{v:Value}(hr:At w b o vs)(hg:Seg vs off l)(hv:l[j]? = some v)(ha:xH P t=some false)(k:K v w):nJ P (loadVar t ⟨b,o+off+j,none⟩) w K:=
 oG ha (by rw [fG];exact hr _ _ (hg j v hv)) k
theorem QN {t:TypeId}{b o off:Nat}{vs l:List Value}{v:Value}(hr:At w b o vs)(hg:Seg vs off l)(hv:l[0]? = some v)(ha:xH P t=some false)(k:K v w):nJ P (loadVar t ⟨b,o+off,none⟩) w K:=
 oG ha (hr _ _ (hg 0 v hv)) k
theorem abb {t e:TypeId}{sz b o n c:Nat}{k:IntKind}{ix:Int}(m:Nat)(hm:ix=m)(hu:P.underlying t=some (.slice e))(hs:szB P e=some sz)(h:m<n)
  (hk:K (.pointer (some ⟨b,o+m*sz,none⟩)) w):nJ P (Instr.indexAt t (.slice (some ⟨b,o,none⟩) n c) (.int k ix)) w K:=Ko m hu hs hm h hk
theorem Iy {t e:TypeId}{b o n c:Nat}{k:IntKind}{ix:Int}(m:Nat)(hm:ix=m)(hu:P.underlying t=some (.slice e))(hs:szB P e=some 1)(h:m<n)
  (hk:K (.pointer (some ⟨b,o+m,none⟩)) w):nJ P (Instr.indexAt t (.slice (some ⟨b,o,none⟩) n c) (.int k ix)) w K:=y9 m hu hs hm h hk
end
def Ints (l:List Value)(n:Nat)(f:Nat->Int):Prop:=l.length=n∧∀j,j<n->l[j]? = some (.int .i64 (f j))
theorem Ints.set {l:List Value}{m:Nat}{f:Nat->Int}(h:Ints l m f)(n:Nat)(x:Int)(hn:n<m):Ints (l.set n (.int .i64 x)) m (fun j=>if j=n then x else f j):=by
 refine⟨by rw [bC];exact h.1,fun j hj=> ?_⟩
 by_cases e:j=n
 ·subst e
  rw [dD (by rw [h.1];exact hj)]
  simp
 ·rw [gZ (fun x=>e x.symm),h.2 j hj]
  simp only [if_neg e]
theorem Ints.congr {l:List Value}{m:Nat}{f g:Nat->Int}(h:Ints l m f)(e : ∀j,j<m->f j=g j):Ints l m g:=⟨h.1,fun j hj=>by rw [<-e j hj];exact h.2 j hj⟩
theorem Ints.one {l:List Value}{m:Nat}{f:Nat->Int}(h:Ints l m f):l.all (·.oneCell')=true:=bQ.2 fun x hx=>by
 obtain⟨k,hk⟩:=bW.1 hx
 have hk2:=(aG.1 hk).1
 rw [h.2 k (by rw [h.1]at hk2;exact hk2)]at hk
 injection hk with hk
 rw [<-hk];rfl
theorem Ints.rep (n:Nat)(x:Int):Ints (List.replicate n (.int .i64 x)) n fun _=>x:=⟨by simp,fun j hj=>by rw [kF];simp [hj]⟩
theorem Xo (n:Nat)(v:Value):(List.replicate n [v]).flatten=List.replicate n v:=by
 induction n with
 | zero=>rfl
 | succ n ih=>rw [eU,iq,ih,eU];rfl
theorem abd {P:Program}{w:World}{K:Value->World->Prop}{src dst e:TypeId}{s:ByteArray}(hs:P.underlying src=some .string)(hd:P.underlying dst=some (.slice e))(he:P.underlying e=some (.int .u8))
  (k : ∀c w',s.data.toList.length<=c->Row w' (some ⟨w.heap.size,0,none⟩) (nR s.data.toList)->Below w.heap.size w w'->K (.slice (some ⟨w.heap.size,0,none⟩) s.data.toList.length c) w') :
  nJ P (convert src dst (.string s)) w K:=by
 have hr:=run_bytes_of_string (P:=P) w src dst e s hs hd he
 have hsz:s.data.toList.length=s.size:=by simp
 have hk:=k (grownCap w s.size 0 e) (w.drew.alloc (.cells (bytesRow s (grownCap w s.size 0 e)) e ((bytesRow s (grownCap w s.size 0 e)).size,(bytesRow s (grownCap w s.size 0 e)).size+1))) ?_ ?_ ?_
 ·rw [hsz]at hk
  exact oP hr hk
 ·rw [hsz];exact grownCap_ge _ _ _ _
 ·refine .inr ⟨w.heap.size,0,rfl,by simp,fun j v hj=> ?_⟩
  have hjl:j<s.data.size:=by
   have:=(aG.1 hj).1
   simpa [nR]using this
  have hv:v = .int .u8 (s.data[j].toNat:Int):=by
   have:=uI (l:=s.data.toList) (j:=j) (by simpa using hjl)
   rw [this]at hj
   injection hj with hj
   rw [<-hj];simp
  rw [aS,hv]
  have h2:=bytesRow_at s (grownCap w s.size 0 e) j hjl
  unfold World.cell?
  rw [show (w.drew.alloc (.cells (bytesRow s (grownCap w s.size 0 e)) e ((bytesRow s (grownCap w s.size 0 e)).size,(bytesRow s (grownCap w s.size 0 e)).size+1))).heap[w.heap.size]? = some (.cells (bytesRow s (grownCap w s.size 0 e)) e ((bytesRow s (grownCap w s.size 0 e)).size,(bytesRow s (grownCap w s.size 0 e)).size+1))from heap_alloc_new w.drew _]
  simpa using h2
 ·exact Below.alloc (G8 (Below.refl _ _)) (ay _) _
def loS (oa:Option Addr)(lo sz c:Nat):Option Addr:=if c=lo then oa else oa.map (·.add (lo*sz))
theorem NK {P:Program}{w:World}{K:Value->World->Prop}{t E:TypeId}{n c lo sz:Nat}{oa:Option Addr}{kl:IntKind}{li:Int}(ht:P.underlying t=some (.slice E))(hs:szB P E=some sz)
  (he:li=lo) (hh:lo<=n) (k:K (.slice (loS oa lo sz c) (n-lo) (c-lo)) w):nJ P (Instr.sliceAt t (.slice oa n c) (some (.int kl li)) none none) w K:=by
 refine oP ?_ k
 subst he
 have h1:(0:Int)<=lo∧(lo:Int)<=n:=⟨by omega,by omega⟩
 unfold Instr.sliceAt
 rw [Sem.run_bind,lT ht]
 simp only [Result.andThen_ok]
 unfold Instr.slice
 rw [Sem.run_bind,lT ht]
 simp only [Result.andThen_ok,Instr.sliceBounds,Instr.sliceBound,asIntOf,Sem.run_bind,Sem.run_pure,if_pos h1,qB hs]
 simp [loS]
theorem Own.blk {w:World}{B:Nat}{E:TypeId}{sz:Nat}{oa:Option Addr}{n c:Nat}{xs:List Value}(h:Own w B E sz oa n c xs)(hn:0<n) :
  ∃g cur,oa=some ⟨g,0,none⟩∧B<=g∧qX w g cur E∧n<=c∧c<=maxLen∧cur.length=c*sz∧cur.take (n*sz)=xs:=by
 rcases h.2 with ⟨_,h0⟩|⟨g,cap,cur,hv,hg,hh,h1,h2,h3,h4⟩
 ·omega
 ·injection hv with e1 e2 e3
  subst e3
  exact⟨g,cur.toList,e1,hg,by unfold qX;rw [hh],h1,h2,by simpa using h3,h4⟩
theorem Own.Et {w:World}{B g:Nat}{E:TypeId}{sz n c:Nat}{cur xs:List Value}(hb:qX w g cur E)(hg:B<=g)(h1:n<=c)(h2:c<=maxLen)(h3:cur.length=c*sz)(h4:cur.take (n*sz)=xs) :
  Own w B E sz (some ⟨g,0,none⟩) n c xs:=by
 have hl:n*sz<=c*sz:=aU _ h1
 refine⟨by rw [<-h4,aK];omega, .inr ⟨g,c,cur.toArray,rfl,hg,hb,h1,h2,by simpa using h3,by simpa using h4⟩⟩
theorem Own.only {w w':World}{B k:Nat}{E:TypeId}{sz:Nat}{oa:Option Addr}{n c:Nat}{xs:List Value}(h:Own w B E sz oa n c xs)(hO:Only k w w')(hne : ∀g,oa=some ⟨g,0,none⟩->g≠k):Own w' B E sz oa n c xs:=by
 rcases bP n with e|e
 ·rcases h.2 with ⟨h1,h0⟩|⟨g,cap,cur,hv,hg,hh,h1,h2,h3,h4⟩
  ·exact⟨h.1, .inl ⟨h1,h0⟩⟩
  ·injection hv with e1 e2 e3
   exact⟨h.1, .inr ⟨g,cap,cur,by rw [e1,e3],hg,by rw [hO.block g (hne g e1)];exact hh,h1,h2,h3,h4⟩⟩
 ·obtain⟨g,cur,e1,hB,hb,h1,h2,h3,h4⟩:=h.blk e
  subst e1
  exact Own.Et (hb.only hO (hne g rfl)) hB h1 h2 h3 h4
theorem Own.at {w:World}{B g:Nat}{E:TypeId}{sz n c:Nat}{xs:List Value}(h:Own w B E sz (some ⟨g,0,none⟩) n c xs):At w g 0 xs:=fun j v hj=>by
 have hl:=h.len
 have hn:0<n:=by
  have:=(aG.1 hj).1
  rcases bP n with e|e
  ·subst e;omega
  ·exact e
 obtain⟨g',cur,e,hB,hb,h1,h2,h3,h4⟩:=h.blk hn
 injection e with e
 injection e with e
 subst e
 rw [aS,hb.cell]
 rw [<-h4,bH]at hj
 split at hj
 ·exact hj
 ·cases hj
def TB (P:Program)(xs ys:List Value):List Field->Option Bool
 | []=>some true
 | f::fs=>
  bif f.name != "_" then
   match xH P f.type,P.underlying f.type,xs[f.offset]?,ys[f.offset]?,TB P xs ys fs with
   | some false,some (.int _),some (.int k a),some (.int k' b),some r=>bif decide (k=k')then some (a==b&&r)else none
   | some false,some .string,some (.string a),some (.string b),some r=>some (wP a b&&r)
   | some false,some .bool,some (.bool a),some (.bool b),some r=>some ((a==b)&&r)
   | _,_,_,_,_=>none
  else none
theorem TD {P:Program}{w:World}(d:Nat)(xs ys:List Value) : ∀(fs:List Field) (b:Bool),TB P xs ys fs=some b->(Op.eqFields (d+1) xs.toArray ys.toArray fs).run P w = .ok b w:=by
 intro fs
 induction fs with
 | nil=>intro b h;simp only [TB,aI]at h;subst h;rfl
 | cons f fs ih=>
  intro b h
  simp only [TB]at h
  cases hn:f.name != "_" with
  | false=>rw [hn]at h;cases h
  | true=>
   rw [hn,cond_true]at h
   have hn':f.name≠ "_" :=by simpa using hn
   have pp : ∀(zs:List Value) (v:Value),xH P f.type=some false->zs[f.offset]? = some v->(part f.type zs.toArray f.offset).run P w = .ok v w:=fun zs v ha hv=>by
    unfold part
    rw [Sem.run_bind,qM ha]
    simp [hv]
   split at h
   ·rename_i k0 k a k' b' r ha hu hx hy hr
    by_cases hk:k=k'
    ·subst hk
     simp only [decide_true,cond_true,aI]at h
     subst h
     simp only [Op.eqFields,if_pos hn',Sem.run_bind,pp _ _ ha hx,pp _ _ ha hy,Result.andThen_ok,run_equalIn_int w d f.type k k0 a b' hu]
     cases hab:(a==b')with
     | true=>simpa using ih r hr
     | false=>simp
    ·simp [hk]at h
   ·rename_i a b' r ha hu hx hy hr
    simp only [aI]at h
    subst h
    simp only [Op.eqFields,if_pos hn',Sem.run_bind,pp _ _ ha hx,pp _ _ ha hy,Result.andThen_ok,run_equalIn_string w d f.type a b' hu]
    have e:wP a b'=(a.toList==b'.toList):=rfl
    cases hab:wP a b' with
    | true=>rw [e]at hab;rw [hab];simpa using ih r hr
    | false=>rw [e]at hab;rw [hab];simp
   ·rename_i a b' r ha hu hx hy hr
    simp only [aI]at h
    subst h
    simp only [Op.eqFields,if_pos hn',Sem.run_bind,pp _ _ ha hx,pp _ _ ha hy,Result.andThen_ok,run_equalIn_bool' w d f.type a b' hu]
    cases hab:(a==b')with
    | true=>simpa using ih r hr
    | false=>simp
   ·cases h
def eqF (P:Program)(xs ys:List Value):List Field->Option Bool
 | []=>some true
 | f::fs=>
  bif f.name != "_" then
   match xH P f.type,P.underlying f.type,xs[f.offset]?,ys[f.offset]?,eqF P xs ys fs with
   | some false,some (.int _),some (.int k a),some (.int k' b),some r=>bif decide (k=k')then some (a==b&&r)else none
   | some false,some .string,some (.string a),some (.string b),some r=>some (wP a b&&r)
   | some false,some .bool,some (.bool a),some (.bool b),some r=>some ((a==b)&&r)
   | some true,some (.struct fs'),_,_,some r=>(match szB P f.type with
    | some k=>bif P.stoodInHeld f.type then none else(match TB P ((xs.drop f.offset).take k) ((ys.drop f.offset).take k) fs'.toList with
     | some b=>some (b&&r)
     | none=>none)
    | none=>none)
   | _,_,_,_,_=>none
  else none
theorem CP {P:Program}{w:World}{t:TypeId}{o k:Nat}(zs:List Value)(ha:xH P t=some true)(hs:szB P t=some k):(part t zs.toArray o).run P w = .ok (.agg ((zs.drop o).take k).toArray) w:=by
 obtain⟨i,hi,hik⟩:=pK hs
 simp only [part,Sem.run_bind,Sem.run_pure,Result.andThen_ok,qM ha,if_true,sizeOf,qY hi]
 congr 2
 apply jc
 simp [hik]
theorem O8 {P:Program}{w:World}(d:Nat)(xs ys:List Value) : ∀(fs:List Field) (b:Bool),eqF P xs ys fs=some b->(Op.eqFields (d+2) xs.toArray ys.toArray fs).run P w = .ok b w:=by
 intro fs
 induction fs with
 | nil=>intro b h;simp only [eqF,aI]at h;subst h;rfl
 | cons f fs ih=>
  intro b h
  simp only [eqF]at h
  cases hn:f.name != "_" with
  | false=>rw [hn]at h;cases h
  | true=>
   rw [hn,cond_true]at h
   have hn':f.name≠ "_" :=by simpa using hn
   have pp : ∀(zs:List Value) (v:Value),xH P f.type=some false->zs[f.offset]? = some v->(part f.type zs.toArray f.offset).run P w = .ok v w:=fun zs v ha hv=>by
    unfold part
    rw [Sem.run_bind,qM ha]
    simp [hv]
   split at h
   ·rename_i k0 k a k' b' r ha hu hx hy hr
    by_cases hk:k=k'
    ·subst hk
     simp only [decide_true,cond_true,aI]at h
     subst h
     simp only [Op.eqFields,if_pos hn',Sem.run_bind,pp _ _ ha hx,pp _ _ ha hy,Result.andThen_ok,run_equalIn_int w (d+1) f.type k k0 a b' hu]
     cases hab:(a==b')with
     | true=>simpa using ih r hr
     | false=>simp
    ·simp [hk]at h
   ·rename_i a b' r ha hu hx hy hr
    simp only [aI]at h
    subst h
    simp only [Op.eqFields,if_pos hn',Sem.run_bind,pp _ _ ha hx,pp _ _ ha hy,Result.andThen_ok,run_equalIn_string w (d+1) f.type a b' hu]
    have e:wP a b'=(a.toList==b'.toList):=rfl
    cases hab:wP a b' with
    | true=>rw [e]at hab;rw [hab];simpa using ih r hr
    | false=>rw [e]at hab;rw [hab];simp
   ·rename_i a b' r ha hu hx hy hr
    simp only [aI]at h
    subst h
    simp only [Op.eqFields,if_pos hn',Sem.run_bind,pp _ _ ha hx,pp _ _ ha hy,Result.andThen_ok,run_equalIn_bool' w (d+1) f.type a b' hu]
    cases hab:(a==b')with
    | true=>simpa using ih r hr
    | false=>simp
   ·rename_i fs' r ha hu hr
    split at h
    ·rename_i k hs
     cases hp:P.stoodInHeld f.type with
     | true=>rw [hp]at h;cases h
     | false=>
      rw [hp,cond_false]at h
      split at h
      ·rename_i b0 h0
       simp only [aI]at h
       subst h
       have hf:P.fieldsOf f.type=fs':=by unfold Program.fieldsOf;rw [hu]
       have hu':P.underlying f.type=some (.struct (P.fieldsOf f.type)):=by rw [hf];exact hu
       have hrun:=TD (P:=P) (w:=w) d _ _ fs'.toList b0 h0
       rw [<-hf]at hrun
       simp only [Op.eqFields,if_pos hn',Sem.run_bind,CP xs ha hs,CP ys ha hs,Result.andThen_ok,run_equalIn_struct w (d+1) f.type _ _ hu' hp,hrun]
       cases b0 with
       | true=>simpa using ih r hr
       | false=>simp
      ·cases h
    ·cases h
   ·cases h
theorem abe {P:Program}{w:World}{K:Value->World->Prop}{t:TypeId}{x y:Operand}{xs ys:List Value}{b:Bool}(hg:P.eqGuardType P.depth t=false)(hp:P.stoodInHeld t=false)
  (hu:P.underlying t=some (.struct (P.fieldsOf t))) (he:eqF P xs ys (P.fieldsOf t).toList=some b) (k:K (.bool (!b)) w) :
  nJ P (do eqGuard .neq t x y (.agg xs.toArray) (.agg ys.toArray);binOp .neq t (.agg xs.toArray) (.agg ys.toArray)) w K:=by
 refine oP ?_ k
 rw [Sem.run_bind,run_eqGuard_agg w .neq t x y _ _ hg,Result.andThen_ok,run_neq_struct,run_equalIn_struct w 9999 t _ _ hu hp,O8 9997 xs ys _ b he]
 rfl
theorem abf {P:Program}{w:World}{K:Value->World->Prop}{t:TypeId}{x y:Operand}{xs ys:List Value}{b:Bool}(hg:P.eqGuardType P.depth t=false)(hp:P.stoodInHeld t=false)
  (hu:P.underlying t=some (.struct (P.fieldsOf t))) (he:eqF P xs ys (P.fieldsOf t).toList=some b) (k:K (.bool b) w) :
  nJ P (do eqGuard .eql t x y (.agg xs.toArray) (.agg ys.toArray);binOp .eql t (.agg xs.toArray) (.agg ys.toArray)) w K:=by
 refine oP ?_ k
 rw [Sem.run_bind,run_eqGuard_agg w .eql t x y _ _ hg,Result.andThen_ok,run_eql_struct,run_equalIn_struct w 9999 t _ _ hu hp,O8 9997 xs ys _ b he]
 rfl
theorem NM {x:Int}(h:0<=x) : ∃n:Nat,x=(n:Int):=⟨x.toNat,by omega⟩
def rF (w:World)(b:Nat)(F:ByteArray->Option Value):Prop:=
 ∃es clock,w.heap[b]? = some (.map es clock)∧(∀x∈es.toList,MapKept.IsKey .string x.key)∧(es.toList.map (·.key)).Nodup∧∀k v,F k=some v↔∃x∈es.toList,x.key = .string k∧x.val=v
theorem rF.lt {w:World}{b:Nat}{F:ByteArray->Option Value}(h:rF w b F):b<w.heap.size:=let ⟨_,_,hb,_⟩:=h;(cO.1 hb).1
theorem rF.below {w w':World}{b B:Nat}{F:ByteArray->Option Value}(h:rF w b F)(hB:Below B w w')(hb:b<B):rF w' b F:=
 let ⟨es,c,h1,h2⟩:=h;⟨es,c,(hB.block b hb).trans h1,h2⟩
theorem rF.only {w w':World}{b k:Nat}{F:ByteArray->Option Value}(h:rF w b F)(hO:Only k w w')(hb:b≠k):rF w' b F:=
 let ⟨es,c,h1,h2⟩:=h;⟨es,c,(hO.block b hb).trans h1,h2⟩
theorem rF.quiet {w w':World}{b:Nat}{F:ByteArray->Option Value}(h:rF w b F)(hQ:Quiet w w'):rF w' b F:=
 let ⟨es,c,h1,h2⟩:=h;⟨es,c,by rw [hQ.heap];exact h1,h2⟩
theorem rF.heap {w w':World}{b:Nat}{F:ByteArray->Option Value}(h:rF w b F)(e:w'.heap[b]? = w.heap[b]?):rF w' b F:=
 let ⟨es,c,h1,h2⟩:=h;⟨es,c,e.trans h1,h2⟩
theorem rF.drew {w:World}{b:Nat}{F:ByteArray->Option Value}(h:rF w b F):rF w.drew b F:=h
theorem rF.congr {w:World}{b:Nat}{F G:ByteArray->Option Value}(h:rF w b F)(e : ∀k,F k=G k):rF w b G:=
 let ⟨es,c,h1,h2,h3,h4⟩:=h;⟨es,c,h1,h2,h3,fun k v=>by rw [<-e k];exact h4 k v⟩
section
variable {P:Program}{w:World}{K:Value->World->Prop}
theorem NP {t:TypeId}(k : ∀w',Below w.heap.size w w'->rF w' w.heap.size (fun _=>none)->K (.map (some w.heap.size)) w'):nJ P (Instr.makeMap t none) w K:=by
 refine oP (run_makeMap t w) (k _ (qV (Below.refl _ _) (ay _) _) ⟨#[],0,heap_alloc_new w _,by simp,by simp,by simp⟩)
theorem rF.find {F:ByteArray->Option Value}{kt:TypeId}{k:ByteArray}(hk:P.underlying kt=some .string){es:Array MapEntry}{c:Nat}
  (h2 : ∀x∈es.toList,MapKept.IsKey .string x.key) (h3:(es.toList.map (·.key)).Nodup) (h4 : ∀k v,F k=some v↔∃x∈es.toList,x.key = .string k∧x.val=v) :
  (F k=none∧(Instr.findKey kt (.string k) es.toList).run P w = .ok none w∧∀x∈es.toList,x.key≠ .string k)∨
  ∃j e,F k=some e.val∧(Instr.findKey kt (.string k) es.toList).run P w = .ok (some (j,e.val)) w∧es[j]? = some e∧e.key = .string k:=by
 rcases MapKept.findNow_spec (d:= .string) (k:= .string k) trivial es.toList 0 h2 with ⟨hf,hn⟩|⟨j,e,hf,he,hek⟩
 ·refine .inl ⟨?_,MapKept.run_findKey hk hf,hn⟩
  cases hF:F k with
  | none=>rfl
  | some v=>obtain⟨x,hx,e1,_⟩:=(h4 k v).1 hF;exact absurd e1 (hn x hx)
 ·refine .inr ⟨j,e,(h4 k e.val).2 ⟨e,bW.2 ⟨j,he⟩,hek,rfl⟩,by rw [aS]at hf;exact MapKept.run_findKey hk hf,by simpa using he,hek⟩
theorem Eu {t kt et:TypeId}{b:Nat}{F:ByteArray->Option Value}{k:ByteArray}{z:Value}(ht:P.underlying t=some (.map kt et))(hk:P.underlying kt=some .string)(hz:(P.info? et).bind (·.zero)=some z)(h:rF w b F)
  (c:K (.tuple #[(F k).getD z, .bool (F k).isSome]) w):nJ P (Instr.lookup t (.map (some b)) (.string k) true) w K:=by
 obtain⟨es,cl,hb,h2,h3,h4⟩:=h
 have hc:(Instr.checkKey es.isEmpty 10000 kt (.string k)).run P w = .ok () w:=MapKept.run_checkKey (k:= .string k) hk (by simp [MapKept.IsKey]) _ 9999
 rcases rF.find (P:=P) (w:=w) (k:=k) hk (c:=cl) h2 h3 h4 with ⟨hF,hr,_⟩|⟨j,e,hF,hr,_⟩
 ·rw [hF]at c
  refine oP ?_ c
  simp [Instr.lookup,lT ht,MapKept.run_getObj_map hb,hc,hr,xK hz]
 ·rw [hF]at c
  refine oP ?_ c
  simp [Instr.lookup,lT ht,MapKept.run_getObj_map hb,hc,hr]
theorem Bv {t kt et:TypeId}{b:Nat}{F:ByteArray->Option Value}{k:ByteArray}{z:Value}(ht:P.underlying t=some (.map kt et))(hk:P.underlying kt=some .string)(hz:(P.info? et).bind (·.zero)=some z)(h:rF w b F)
  (c:K ((F k).getD z) w):nJ P (Instr.lookup t (.map (some b)) (.string k) false) w K:=by
 obtain⟨es,cl,hb,h2,h3,h4⟩:=h
 have hc:(Instr.checkKey es.isEmpty 10000 kt (.string k)).run P w = .ok () w:=MapKept.run_checkKey (k:= .string k) hk (by simp [MapKept.IsKey]) _ 9999
 rcases rF.find (P:=P) (w:=w) (k:=k) hk (c:=cl) h2 h3 h4 with ⟨hF,hr,_⟩|⟨j,e,hF,hr,_⟩
 ·rw [hF]at c
  refine oP ?_ c
  simp [Instr.lookup,lT ht,MapKept.run_getObj_map hb,hc,hr,xK hz]
 ·rw [hF]at c
  refine oP ?_ c
  simp [Instr.lookup,lT ht,MapKept.run_getObj_map hb,hc,hr]
theorem Xp {K:World->Prop}{t kt et:TypeId}{b:Nat}{F:ByteArray->Option Value}{k:ByteArray}{v:Value}(ht:P.underlying t=some (.map kt et))(hk:P.underlying kt=some .string)(h:rF w b F)
  (c : ∀w',Only b w w'->rF w' b (fun k'=>if k'=k then some v else F k')->K w'):vw P (Instr.mapUpdate t (.map (some b)) (.string k) v) w K:=by
 obtain⟨es,cl,hb,h2,h3,h4⟩:=h
 have hbl:b<w.heap.size:=(cO.1 hb).1
 have hc:(Instr.checkKey false 10000 kt (.string k)).run P w = .ok () w:=MapKept.run_checkKey (k:= .string k) hk (by simp [MapKept.IsKey]) _ 9999
 have only : ∀o,Only b w {w with heap:=w.heap.setIfInBounds b o}:=fun o=>⟨rfl,rfl,rfl,by simp,fun j hj=>by simp [gU (kZ hj)]⟩
 have self : ∀o,({w with heap:=w.heap.setIfInBounds b o} : World).heap[b]? = some o:=fun o=>by simp [hbl]
 rcases rF.find (P:=P) (w:=w) (k:=k) hk (c:=cl) h2 h3 h4 with ⟨hF,hr,hn⟩|⟨j,e,hF,hr,hj,hek⟩
 ·refine⟨(),_, ?_,c _ (only (.map (es.push {key:= .string k,val:=v,born:=cl}) (cl+1))) ⟨_,_,self _, ?_, ?_, ?_⟩⟩
  ·simp [Instr.mapUpdate,lT ht,MapKept.run_getObj_map hb,hc,hr,MapKept.run_setObj_map _ hb]
  ·intro x hx
   simp only [gG,cu,bG]at hx
   rcases hx with hx|rfl
   ·exact h2 x hx
   ·trivial
  ·simp only [gG,aJ,gy,jQ]
   refine List.nodup_append.2 ⟨h3,by simp, ?_⟩
   intro a ha b hb
   simp only [bG]at hb
   subst hb
   obtain⟨x,hx,rfl⟩:=dR.1 ha
   exact hn x hx
  ·intro k' v'
   by_cases e:k'=k
   ·subst e
    simp only [if_true,aI,gG,cu,bG]
    constructor
    ·rintro rfl;exact⟨_, .inr rfl,rfl,rfl⟩
    ·rintro⟨x,hx|rfl,e1,e2⟩
     ·exact absurd e1 (hn x hx)
     ·exact e2
   ·simp only [if_neg e,gG,cu,bG]
    rw [h4]
    constructor
    ·rintro⟨x,hx,e1,e2⟩;exact⟨x, .inl hx,e1,e2⟩
    ·rintro⟨x,hx|rfl,e1,e2⟩
     ·exact⟨x,hx,e1,e2⟩
     ·injection e1 with e1;exact absurd e1.symm e
 ·have hks:Instr.sameBits 10000 e.key (.string k)=true:=by rw [hek];exact(MapKept.bytes_beq k k).2 rfl
  have hkey : ∀x∈(es.modify j fun e=> {e with key:= .string k,val:=v}).toList,x.key∈es.toList.map (·.key):=fun x hx=>by
   have:x.key∈(es.modify j fun e=> {e with key:= .string k,val:=v}).toList.map (·.key):=dR.2 ⟨x,hx,rfl⟩
   rwa [MapKept.modify_keys j _ fun e' he'=>by rw [hj]at he';injection he' with he';subst he';exact hek.symm]at this
  refine⟨(),_, ?_,c _ (only (.map (es.modify j fun e=> {e with key:= .string k,val:=v}) cl)) ⟨_,_,self _, ?_, ?_, ?_⟩⟩
  ·simp [Instr.mapUpdate,lT ht,MapKept.run_getObj_map hb,hc,hr,hj,Instr.keyThatStays,hks,MapKept.run_setObj_map _ hb]
  ·exact MapKept.isKey_modify h2 j _ fun e' he'=>by rw [hj]at he';injection he' with he';subst he';exact hek.symm
  ·rw [MapKept.modify_keys j _ fun e' he'=>by rw [hj]at he';injection he' with he';subst he';exact hek.symm];exact h3
  ·intro k' v'
   have hmod : ∀i,(es.modify j fun e=> {e with key:= .string k,val:=v}).toList[i]? = if j=i then(es[i]?).map (fun e=> {e with key:= .string k,val:=v})else es[i]? :=fun i=>by
    rw [bf,iE]
   have uniq : ∀i x,es[i]? = some x->x.key = .string k->i=j:=fun i x hx hxk=>by
    have hi:i<(es.toList.map (·.key)).length:=by
     have:=(cO.1 hx).1
     simpa using this
    refine(List.getElem?_inj hi h3).1 ?_
    rw [aP,aP,bf,bf,hx,hj]
    simp [hxk,hek]
   constructor
   ·intro hv
    have hv:(if k'=k then some v else F k')=some v':=hv
    by_cases e':k'=k
    ·rw [if_pos e']at hv
     injection hv with hv
     subst hv;subst e'
     exact⟨_,bW.2 ⟨j,by rw [hmod,if_pos rfl,hj];rfl⟩,rfl,rfl⟩
    ·rw [if_neg e']at hv
     obtain⟨x,hx,e1,e2⟩:=(h4 k' v').1 hv
     obtain⟨i,hi⟩:=bW.1 hx
     rw [bf]at hi
     have hij : ¬j=i:=fun q=>by
      subst q
      rw [hj]at hi
      injection hi with hi
      subst hi
      rw [hek]at e1
      injection e1 with e1
      exact e' e1.symm
     exact⟨x,bW.2 ⟨i,by rw [hmod,if_neg hij];exact hi⟩,e1,e2⟩
   ·rintro⟨x,hx,e1,e2⟩
    obtain⟨i,hi⟩:=bW.1 hx
    rw [hmod]at hi
    by_cases hij:j=i
    ·subst hij
     rw [if_pos rfl,hj]at hi
     simp only [bM,aI]at hi
     subst hi
     injection e1 with e1
     show (if k'=k then some v else F k')=some v'
     rw [if_pos e1.symm]
     exact congrArg some e2
    ·rw [if_neg hij]at hi
     have e' : ¬k'=k:=fun q=>hij (uniq i x hi (by rw [e1,q])).symm
     show (if k'=k then some v else F k')=some v'
     rw [if_neg e']
     exact(h4 k' v').2 ⟨x,bW.2 ⟨i,by rw [bf];exact hi⟩,e1,e2⟩
end
def rQ (w:World)(b:Nat)(F:Int->Option Value):Prop:=
 ∃es clock,w.heap[b]? = some (.map es clock)∧(∀x∈es.toList,MapKept.IsKey (.int .i64) x.key)∧(es.toList.map (·.key)).Nodup∧∀k v,F k=some v↔∃x∈es.toList,x.key=(.int .i64 k)∧x.val=v
theorem rQ.lt {w:World}{b:Nat}{F:Int->Option Value}(h:rQ w b F):b<w.heap.size:=let ⟨_,_,hb,_⟩:=h;(cO.1 hb).1
theorem rQ.below {w w':World}{b B:Nat}{F:Int->Option Value}(h:rQ w b F)(hB:Below B w w')(hb:b<B):rQ w' b F:=
 let ⟨es,c,h1,h2⟩:=h;⟨es,c,(hB.block b hb).trans h1,h2⟩
theorem rQ.only {w w':World}{b k:Nat}{F:Int->Option Value}(h:rQ w b F)(hO:Only k w w')(hb:b≠k):rQ w' b F:=
 let ⟨es,c,h1,h2⟩:=h;⟨es,c,(hO.block b hb).trans h1,h2⟩
theorem rQ.quiet {w w':World}{b:Nat}{F:Int->Option Value}(h:rQ w b F)(hQ:Quiet w w'):rQ w' b F:=
 let ⟨es,c,h1,h2⟩:=h;⟨es,c,by rw [hQ.heap];exact h1,h2⟩
theorem rQ.heap {w w':World}{b:Nat}{F:Int->Option Value}(h:rQ w b F)(e:w'.heap[b]? = w.heap[b]?):rQ w' b F:=
 let ⟨es,c,h1,h2⟩:=h;⟨es,c,e.trans h1,h2⟩
theorem rQ.drew {w:World}{b:Nat}{F:Int->Option Value}(h:rQ w b F):rQ w.drew b F:=h
theorem rQ.congr {w:World}{b:Nat}{F G:Int->Option Value}(h:rQ w b F)(e : ∀k,F k=G k):rQ w b G:=
 let ⟨es,c,h1,h2,h3,h4⟩:=h;⟨es,c,h1,h2,h3,fun k v=>by rw [<-e k];exact h4 k v⟩
section
variable {P:Program}{w:World}{K:Value->World->Prop}
theorem Kt {t:TypeId}(k : ∀w',Below w.heap.size w w'->rQ w' w.heap.size (fun _=>none)->K (.map (some w.heap.size)) w'):nJ P (Instr.makeMap t none) w K:=by
 refine oP (run_makeMap t w) (k _ (qV (Below.refl _ _) (ay _) _) ⟨#[],0,heap_alloc_new w _,by simp,by simp,by simp⟩)
theorem rQ.find {F:Int->Option Value}{kt:TypeId}{k:Int}(hk:P.underlying kt=some (.int .i64)){es:Array MapEntry}{c:Nat}
  (h2 : ∀x∈es.toList,MapKept.IsKey (.int .i64) x.key) (h3:(es.toList.map (·.key)).Nodup) (h4 : ∀k v,F k=some v↔∃x∈es.toList,x.key=(.int .i64 k)∧x.val=v) :
  (F k=none∧(Instr.findKey kt (.int .i64 k) es.toList).run P w = .ok none w∧∀x∈es.toList,x.key≠(.int .i64 k))∨
  ∃j e,F k=some e.val∧(Instr.findKey kt (.int .i64 k) es.toList).run P w = .ok (some (j,e.val)) w∧es[j]? = some e∧e.key=(.int .i64 k):=by
 rcases MapKept.findNow_spec (d:= .int .i64) (k:= .int .i64 k) rfl es.toList 0 h2 with ⟨hf,hn⟩|⟨j,e,hf,he,hek⟩
 ·refine .inl ⟨?_,MapKept.run_findKey hk hf,hn⟩
  cases hF:F k with
  | none=>rfl
  | some v=>obtain⟨x,hx,e1,_⟩:=(h4 k v).1 hF;exact absurd e1 (hn x hx)
 ·refine .inr ⟨j,e,(h4 k e.val).2 ⟨e,bW.2 ⟨j,he⟩,hek,rfl⟩,by rw [aS]at hf;exact MapKept.run_findKey hk hf,by simpa using he,hek⟩
theorem TF {t kt et:TypeId}{b:Nat}{F:Int->Option Value}{k:Int}{z:Value}(ht:P.underlying t=some (.map kt et))(hk:P.underlying kt=some (.int .i64))(hz:(P.info? et).bind (·.zero)=some z)(h:rQ w b F)
  (c:K (.tuple #[(F k).getD z, .bool (F k).isSome]) w):nJ P (Instr.lookup t (.map (some b)) (.int .i64 k) true) w K:=by
 obtain⟨es,cl,hb,h2,h3,h4⟩:=h
 have hc:(Instr.checkKey es.isEmpty 10000 kt (.int .i64 k)).run P w = .ok () w:=MapKept.run_checkKey (k:= .int .i64 k) hk (by simp [MapKept.IsKey]) _ 9999
 rcases rQ.find (P:=P) (w:=w) (k:=k) hk (c:=cl) h2 h3 h4 with ⟨hF,hr,_⟩|⟨j,e,hF,hr,_⟩
 ·rw [hF]at c
  refine oP ?_ c
  simp [Instr.lookup,lT ht,MapKept.run_getObj_map hb,hc,hr,xK hz]
 ·rw [hF]at c
  refine oP ?_ c
  simp [Instr.lookup,lT ht,MapKept.run_getObj_map hb,hc,hr]
theorem QO {t kt et:TypeId}{b:Nat}{F:Int->Option Value}{k:Int}{z:Value}(ht:P.underlying t=some (.map kt et))(hk:P.underlying kt=some (.int .i64))(hz:(P.info? et).bind (·.zero)=some z)(h:rQ w b F)
  (c:K ((F k).getD z) w):nJ P (Instr.lookup t (.map (some b)) (.int .i64 k) false) w K:=by
 obtain⟨es,cl,hb,h2,h3,h4⟩:=h
 have hc:(Instr.checkKey es.isEmpty 10000 kt (.int .i64 k)).run P w = .ok () w:=MapKept.run_checkKey (k:= .int .i64 k) hk (by simp [MapKept.IsKey]) _ 9999
 rcases rQ.find (P:=P) (w:=w) (k:=k) hk (c:=cl) h2 h3 h4 with ⟨hF,hr,_⟩|⟨j,e,hF,hr,_⟩
 ·rw [hF]at c
  refine oP ?_ c
  simp [Instr.lookup,lT ht,MapKept.run_getObj_map hb,hc,hr,xK hz]
 ·rw [hF]at c
  refine oP ?_ c
  simp [Instr.lookup,lT ht,MapKept.run_getObj_map hb,hc,hr]
theorem Xq {K:World->Prop}{t kt et:TypeId}{b:Nat}{F:Int->Option Value}{k:Int}{v:Value}(ht:P.underlying t=some (.map kt et))(hk:P.underlying kt=some (.int .i64))(h:rQ w b F)
  (c : ∀w',Only b w w'->rQ w' b (fun k'=>if k'=k then some v else F k')->K w'):vw P (Instr.mapUpdate t (.map (some b)) (.int .i64 k) v) w K:=by
 obtain⟨es,cl,hb,h2,h3,h4⟩:=h
 have hbl:b<w.heap.size:=(cO.1 hb).1
 have hc:(Instr.checkKey false 10000 kt (.int .i64 k)).run P w = .ok () w:=MapKept.run_checkKey (k:= .int .i64 k) hk (by simp [MapKept.IsKey]) _ 9999
 have only : ∀o,Only b w {w with heap:=w.heap.setIfInBounds b o}:=fun o=>⟨rfl,rfl,rfl,by simp,fun j hj=>by simp [gU (kZ hj)]⟩
 have self : ∀o,({w with heap:=w.heap.setIfInBounds b o} : World).heap[b]? = some o:=fun o=>by simp [hbl]
 rcases rQ.find (P:=P) (w:=w) (k:=k) hk (c:=cl) h2 h3 h4 with ⟨hF,hr,hn⟩|⟨j,e,hF,hr,hj,hek⟩
 ·refine⟨(),_, ?_,c _ (only (.map (es.push {key:=(.int .i64 k),val:=v,born:=cl}) (cl+1))) ⟨_,_,self _, ?_, ?_, ?_⟩⟩
  ·simp [Instr.mapUpdate,lT ht,MapKept.run_getObj_map hb,hc,hr,MapKept.run_setObj_map _ hb]
  ·intro x hx
   simp only [gG,cu,bG]at hx
   rcases hx with hx|rfl
   ·exact h2 x hx
   ·rfl
  ·simp only [gG,aJ,gy,jQ]
   refine List.nodup_append.2 ⟨h3,by simp, ?_⟩
   intro a ha b hb
   simp only [bG]at hb
   subst hb
   obtain⟨x,hx,rfl⟩:=dR.1 ha
   exact hn x hx
  ·intro k' v'
   by_cases e:k'=k
   ·subst e
    simp only [if_true,aI,gG,cu,bG]
    constructor
    ·rintro rfl;exact⟨_, .inr rfl,rfl,rfl⟩
    ·rintro⟨x,hx|rfl,e1,e2⟩
     ·exact absurd e1 (hn x hx)
     ·exact e2
   ·simp only [if_neg e,gG,cu,bG]
    rw [h4]
    constructor
    ·rintro⟨x,hx,e1,e2⟩;exact⟨x, .inl hx,e1,e2⟩
    ·rintro⟨x,hx|rfl,e1,e2⟩
     ·exact⟨x,hx,e1,e2⟩
     ·injection e1 with _ e1;exact absurd e1.symm e
 ·have hks:Instr.sameBits 10000 e.key (.int .i64 k)=true:=by rw [hek];simp [Instr.sameBits]
  have hkey : ∀x∈(es.modify j fun e=> {e with key:=(.int .i64 k),val:=v}).toList,x.key∈es.toList.map (·.key):=fun x hx=>by
   have:x.key∈(es.modify j fun e=> {e with key:=(.int .i64 k),val:=v}).toList.map (·.key):=dR.2 ⟨x,hx,rfl⟩
   rwa [MapKept.modify_keys j _ fun e' he'=>by rw [hj]at he';injection he' with he';subst he';exact hek.symm]at this
  refine⟨(),_, ?_,c _ (only (.map (es.modify j fun e=> {e with key:=(.int .i64 k),val:=v}) cl)) ⟨_,_,self _, ?_, ?_, ?_⟩⟩
  ·simp [Instr.mapUpdate,lT ht,MapKept.run_getObj_map hb,hc,hr,hj,Instr.keyThatStays,hks,MapKept.run_setObj_map _ hb]
  ·exact MapKept.isKey_modify h2 j _ fun e' he'=>by rw [hj]at he';injection he' with he';subst he';exact hek.symm
  ·rw [MapKept.modify_keys j _ fun e' he'=>by rw [hj]at he';injection he' with he';subst he';exact hek.symm];exact h3
  ·intro k' v'
   have hmod : ∀i,(es.modify j fun e=> {e with key:=(.int .i64 k),val:=v}).toList[i]? = if j=i then(es[i]?).map (fun e=> {e with key:=(.int .i64 k),val:=v})else es[i]? :=fun i=>by
    rw [bf,iE]
   have uniq : ∀i x,es[i]? = some x->x.key=(.int .i64 k)->i=j:=fun i x hx hxk=>by
    have hi:i<(es.toList.map (·.key)).length:=by
     have:=(cO.1 hx).1
     simpa using this
    refine(List.getElem?_inj hi h3).1 ?_
    rw [aP,aP,bf,bf,hx,hj]
    simp [hxk,hek]
   constructor
   ·intro hv
    have hv:(if k'=k then some v else F k')=some v':=hv
    by_cases e':k'=k
    ·rw [if_pos e']at hv
     injection hv with hv
     subst hv;subst e'
     exact⟨_,bW.2 ⟨j,by rw [hmod,if_pos rfl,hj];rfl⟩,rfl,rfl⟩
    ·rw [if_neg e']at hv
     obtain⟨x,hx,e1,e2⟩:=(h4 k' v').1 hv
     obtain⟨i,hi⟩:=bW.1 hx
     rw [bf]at hi
     have hij : ¬j=i:=fun q=>by
      subst q
      rw [hj]at hi
      injection hi with hi
      subst hi
      rw [hek]at e1
      injection e1 with _ e1
      exact e' e1.symm
     exact⟨x,bW.2 ⟨i,by rw [hmod,if_neg hij];exact hi⟩,e1,e2⟩
   ·rintro⟨x,hx,e1,e2⟩
    obtain⟨i,hi⟩:=bW.1 hx
    rw [hmod]at hi
    by_cases hij:j=i
    ·subst hij
     rw [if_pos rfl,hj]at hi
     simp only [bM,aI]at hi
     subst hi
     injection e1 with _ e1
     show (if k'=k then some v else F k')=some v'
     rw [if_pos e1.symm]
     exact congrArg some e2
    ·rw [if_neg hij]at hi
     have e' : ¬k'=k:=fun q=>hij (uniq i x hi (by rw [e1,q])).symm
     show (if k'=k then some v else F k')=some v'
     rw [if_neg e']
     exact(h4 k' v').2 ⟨x,bW.2 ⟨i,by rw [bf];exact hi⟩,e1,e2⟩
end
abbrev vT (s:ByteArray):List UInt8:=s.data.toList
theorem Iz (s:ByteArray):(vT s).length=s.size:=by simp
section
variable {P:Program}{w:World}{K:Value->World->Prop}
theorem Bz {t:TypeId}{s:ByteArray}{k:IntKind}{ix:Int}(m:Nat)(hm:ix=m)(hu:P.underlying t=some .string)(h:m<s.size)
  (c:K (.int .u8 (s[m].toNat:Int)) w):nJ P (Instr.index t (.string s) (.int k ix)) w K:=by
 refine oP ?_ c
 subst hm
 rw [run_index_string w t s k m hu,dif_pos ⟨by omega,by omega⟩]
 simp
theorem QS {t:TypeId}{s:ByteArray}{kl kh:IntKind}{lo hi:Int}(a b:Nat)(ha:lo=a)(hb:hi=b)(hu:P.underlying t=some .string)(hab:a<=b)(h:b<=s.size)
  (c:K (.string (s.extract a b)) w):nJ P (Instr.sliceAt t (.string s) (some (.int kl lo)) (some (.int kh hi)) none) w K:=by
 refine oP ?_ c
 subst ha;subst hb
 unfold Instr.sliceAt
 rw [Sem.run_bind,lT hu]
 simp only [Result.andThen_ok]
 unfold Instr.slice
 rw [Sem.run_bind,lT hu]
 have h1:(0:Int)<=b∧(b:Int)<=s.size:=⟨by omega,by omega⟩
 have h2:(0:Int)<=a∧(a:Int)<=b:=⟨by omega,by omega⟩
 simp [Instr.sliceBounds,Instr.sliceBound,asIntOf,h1,h2,h,hab]
def WY (w:World)(b:Nat)(s:ByteArray)(p:Nat):Prop:=w.heap[b]? = some (.stringIter s p)
theorem QU {t:TypeId}{s:ByteArray}(hu:P.underlying t=some .string)(k : ∀w',Below w.heap.size w w'->WY w' w.heap.size s 0->K (.pointer (some ⟨w.heap.size,0,none⟩)) w') :
  nJ P (Instr.range t (.string s)) w K:=by
 refine oP ?_ (k (w.alloc (.stringIter s 0)) (qV (Below.refl _ _) (ay _) _) (heap_alloc_new w _))
 unfold Instr.range
 simp [lT hu]
theorem CS {b:Nat}{s:ByteArray}{p:Nat}(h:WY w b s p):(getObj b).run P w = .ok (.stringIter s p) w:=by
 have h':w.heap[b]? = some (.stringIter s p):=h
 simp [getObj,Sem.run,h']
theorem Ku {b:Nat}{s:ByteArray}{p:Nat}(o:Obj)(h:WY w b s p):(setObj b o).run P w = .ok () {w with heap:=w.heap.setIfInBounds b o}:=by
 have h':w.heap[b]? = some (.stringIter s p):=h
 simp [setObj,Sem.run,h']
theorem NQ {ty:TypeId}{b:Nat}{s:ByteArray}{p:Nat}(h:WY w b s p)(hp:s.size<=p)(k:K (.tuple #[.bool false]) w):nJ P (Instr.next (.pointer (some ⟨b,0,none⟩)) true ty) w K:=by
 refine oP ?_ k
 unfold Instr.next
 simp [CS h,Nat.not_lt.2 hp]
theorem Xr {ty:TypeId}{b:Nat}{s:ByteArray}{p:Nat}(h:WY w b s p)(hp:p<s.size)
  (k1:s[p].toNat<128->∀w',Only b w w'->WY w' b s (p+1)->K (.tuple #[.bool true, .int .i64 (p:Nat), .int .i32 (s[p].toNat:Nat)]) w')
  (k2:128<=s[p].toNat->∀w' (c q:Nat),Only b w w'->WY w' b s q->128<=c->K (.tuple #[.bool true, .int .i64 (p:Nat), .int .i32 (c:Nat)]) w') :
  nJ P (Instr.next (.pointer (some ⟨b,0,none⟩)) true ty) w K:=by
 have hbl:b<w.heap.size:=(cO.1 h).1
 have only : ∀o,Only b w {w with heap:=w.heap.setIfInBounds b o}:=fun o=>⟨rfl,rfl,rfl,by simp,fun j hj=>by simp [gU (kZ hj)]⟩
 have self : ∀q,WY ({w with heap:=w.heap.setIfInBounds b (.stringIter s q)} : World) b s q:=fun q=>by unfold WY;simp [hbl]
 have hrun : ∀c q,Utf8.decode s p=(c,q)->(Instr.next (.pointer (some ⟨b,0,none⟩)) true ty).run P w = .ok (.tuple #[.bool true,goInt p, .int .i32 c]) {w with heap:=w.heap.setIfInBounds b (.stringIter s (p+q))}:=fun c q hd=>by
  unfold Instr.next
  simp [CS h,hp,hd,Ku _ h]
 have hb0:(s.get! (p+0)).toNat=s[p].toNat:=by
  rw [dH]
  congr 1
  show s.data[p]! = s.data[p]
  exact getElem!_pos s.data p hp
 by_cases hc:s[p].toNat<128
 ·have hd:Utf8.decode s p=(s[p].toNat,1):=by
   unfold Utf8.decode
   simp only [hb0]
   rw [if_pos (by simpa using hc)]
  exact oP (hrun _ _ hd) (k1 hc _ (only _) (self _))
 ·have hd : ∃c q,Utf8.decode s p=(c,q)∧128<=c:=by
   unfold Utf8.decode
   simp only [hb0]
   rw [if_neg (by simpa using hc)]
   split
   ·split
    ·exact⟨_,_,rfl,by omega⟩
    ·exact⟨_,_,rfl,by decide⟩
   ·split
    ·split
     ·rename_i h1;exact⟨_,_,rfl,by simp only [au,decide_eq_true_eq]at h1;omega⟩
     ·exact⟨_,_,rfl,by decide⟩
    ·split
     ·split
      ·rename_i h1;exact⟨_,_,rfl,by simp only [au,decide_eq_true_eq]at h1;omega⟩
      ·exact⟨_,_,rfl,by decide⟩
     ·exact⟨_,_,rfl,by decide⟩
  obtain⟨c,q,hd,hc2⟩:=hd
  exact oP (hrun _ _ hd) (k2 (by omega) _ c _ (only _) (self _) hc2)
end
end Go.Proofs.YtocckceefcmeaaaGreatDoor.Vc
