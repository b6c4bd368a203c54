/- Joined parts of the proof. A verification-condition reckoner for the model's code: the frame as a function of slots, one rule an operation; its sou -/
import Derived.Calls
import Derived.Orders
import Derived.OrdersHeld
import Derived.Below
import Derived.Laws.Sem
import Derived.Laws.World
import Derived.Laws.IdiomStrings
import Derived.Laws.Tables
import Derived.Laws.Small
import Derived.Laws.AppendOwn
import Derived.Laws.OwnMore
import Derived.Laws.MakeOwn
import Derived.IntWalk
import Derived.Laws.BytesArg
import Derived.Laws.Strings
import Derived.Laws.StructEq
import Derived.MapKept
import Derived.Carry
set_option linter.unusedVariables false
set_option linter.unusedSimpArgs false
set_option maxRecDepth 100000
set_option maxHeartbeats 16000000
namespace Go.Proofs.YtocckceefcmeaaaGreatDoor
abbrev ah:=@List.length_map
abbrev aj:=@List.getElem?_eq_getElem
abbrev ak:=@List.length_append
abbrev au:=@Nat.zero_le
abbrev ay:=@List.getD_eq_getElem?_getD
abbrev aA:=@Nat.le_refl
abbrev aB:=@Bool.and_eq_true
abbrev aF:=@Nat.eq_of_beq_eq_true
abbrev aG:=@List.take_succ_eq_append_getElem
abbrev aH:=@List.append_assoc
abbrev aI:=@List.eq_nil_of_length_eq_zero
abbrev aJ:=@List.map_append
abbrev aK:=@List.length_take
abbrev aN:=@Option.some.injEq
abbrev aO:=@List.getElem?_eq_some_iff
abbrev aP:=@Nat.le_of_ble_eq_true
abbrev aS:=@List.length_drop
abbrev aT:=@List.getElem_mem
abbrev aU:=@List.getElem?_map
abbrev aV:=@Nat.zero_add
abbrev aW:=@List.take_length
abbrev aX:=@Nat.mul_le_mul_right
abbrev aZ:=@List.mem_of_getElem?
abbrev bf:=@Bool.false_eq_true
abbrev bg:=@Nat.lt_of_lt_of_le
abbrev bn:=@Array.getElem?_toList
abbrev bC:=@List.length_cons
abbrev bD:=@List.mem_cons
abbrev bF:=@List.mem_singleton
abbrev bG:=@List.mem_cons_self
abbrev bH:=@Option.getD_some
abbrev bI:=@List.map_drop
abbrev bJ:=@Nat.add_mul
abbrev bK:=@List.mem_append
abbrev bM:=@List.append_cancel_left
abbrev bP:=@List.all_eq_true
abbrev bQ:=@List.getElem?_take
abbrev bT:=@List.map_set
abbrev bU:=@Option.map_some
abbrev bV:=@List.length_set
abbrev bW:=@List.getElem?_cons_zero
abbrev bY:=@List.append_nil
abbrev bZ:=@List.mem_iff_getElem?
abbrev cu:=@List.length_replicate
abbrev cO:=@Nat.eq_zero_or_pos
abbrev cZ:=@Nat.mod_eq_of_lt
abbrev dh:=@Int.toNat_natCast
abbrev dw:=@Array.getElem?_eq_some_iff
abbrev dA:=@List.getElem?_drop
abbrev dB:=@List.drop_drop
abbrev dD:=@List.take_of_length_le
abbrev dF:=@Nat.one_mul
abbrev dG:=@List.getElem?_append_right
abbrev dH:=@Bool.not_false
abbrev dI:=@List.drop_eq_getElem_cons
abbrev dJ:=@List.drop_zero
abbrev dK:=@List.mem_cons_of_mem
abbrev dL:=@Nat.pow_le_pow_right
abbrev dM:=@Nat.le_trans
abbrev dN:=@Int.natCast_mul
abbrev dO:=@List.nil_append
abbrev dP:=@Nat.lt_or_ge
abbrev dQ:=@List.getElem?_append_left
abbrev dR:=@Bool.not_eq_eq_eq_not
abbrev dS:=@Nat.add_zero
abbrev dU:=@List.map_take
abbrev dV:=@List.getElem?_cons_succ
abbrev dW:=@Nat.min_eq_left
abbrev dX:=@List.length_pos_iff
abbrev dY:=@Bool.false_and
abbrev dZ:=@List.take_left'
abbrev eu:=@List.pairwise_cons
abbrev eG:=@List.map_replicate
abbrev eP:=@List.mem_map
abbrev eU:=@Bool.not_true
abbrev eX:=@List.foldl_cons
abbrev eY:=@List.drop_left'
abbrev fA:=@Bool.not_eq_true'
abbrev fC:=@List.getElem?_set_self
abbrev fD:=@List.mem_of_mem_take
abbrev fE:=@Bool.not_eq_false'
abbrev fF:=@Bool.true_eq_false
abbrev fG:=@List.getElem?_eq_none
abbrev fJ:=@Nat.zero_mul
abbrev fK:=@List.length_nil
abbrev fM:=@Int.natCast_add
abbrev fO:=@Nat.mul_one
abbrev fP:=@Classical.byContradiction
abbrev fQ:=@BitVec.toNat_ofNat
abbrev fU:=@Option.bind_some
abbrev fZ:=@Nat.add_assoc
abbrev gq:=@Bool.eq_false_or_eq_true
abbrev gu:=@List.replicate_succ
abbrev gy:=@List.take_append_drop
abbrev gB:=@Int.fdiv_eq_ediv_of_nonneg
abbrev gG:=@List.map_cons
abbrev gI:=@Nat.not_lt_zero
abbrev gJ:=@Prod.mk.injEq
abbrev gK:=@Array.getElem?_eq_none
abbrev gQ:=@Nat.sub_self
abbrev gU:=@List.pairwise_iff_getElem
abbrev gV:=@List.getElem?_range
abbrev gW:=@Bool.true_and
abbrev gX:=@List.drop_take
abbrev gY:=@Nat.mul_comm
abbrev gZ:=@Nat.pow_succ
abbrev ig:=@List.mem_of_mem_drop
abbrev iq:=@List.cons_append
abbrev iw:=@Array.getD_eq_getD_getElem?
abbrev iy:=@Array.toList_push
abbrev iC:=@List.flatMap_cons
abbrev iD:=@Nat.mul_le_mul_left
abbrev iE:=@Array.getElem?_setIfInBounds_ne
abbrev iG:=@List.mem_or_eq_of_mem_set
abbrev iH:=@List.set_append_right
abbrev iI:=@List.drop_length
abbrev iJ:=@List.getElem?_set_ne
abbrev iK:=@List.flatten_cons
abbrev iL:=@List.take_succ_cons
abbrev iM:=@Nat.mod_lt
abbrev iO:=@List.take_left
abbrev iP:=@Array.getElem?_modify
abbrev iQ:=@List.range_succ
abbrev iR:=@Array.toArray_toList
abbrev iT:=@Nat.beq_refl
abbrev iU:=@Nat.sub_zero
abbrev iV:=@Decidable.not_not
abbrev iW:=@Int.not_lt
abbrev iY:=@List.eq_of_mem_replicate
abbrev iZ:=@List.flatMap_append
abbrev jc:=@List.getElem_of_mem
abbrev jd:=@Nat.mul_le_mul
abbrev je:=@Int.le_refl
abbrev jf:=@List.zip_cons_cons
abbrev jg:=@List.drop_of_length_le
abbrev jh:=@List.drop_eq_nil_of_le
abbrev ji:=@Bool.or_eq_true
abbrev jk:=@Array.getElem?_append
abbrev jl:=@Nat.lt_trichotomy
abbrev jm:=@List.getElem_take
abbrev jo:=@Array.ext'
abbrev jq:=@List.replicate_succ'
abbrev jr:=@List.range_eq_range'
abbrev jv:=@List.take_zero
abbrev jw:=@List.getElem?_append
abbrev jy:=@List.ext_getElem
abbrev jA:=@List.not_mem_nil
abbrev jB:=@List.map_nil
abbrev jC:=@Array.mapM_eq_mapM_toList
abbrev jD:=@List.map_congr_left
abbrev jE:=@Bool.false_or
abbrev jF:=@Nat.lt_irrefl
abbrev jG:=@List.getElem?_take_of_lt
abbrev jH:=@List.getElem_range
abbrev jI:=@Nat.add_sub_cancel
abbrev jJ:=@Nat.add_sub_cancel_left
abbrev jK:=@List.pairwise_singleton
abbrev jL:=@Nat.le_of_eq
abbrev jM:=@List.ext_getElem?
abbrev jO:=@Nat.le_of_lt
abbrev jP:=@Nat.or_lt_two_pow
abbrev jQ:=@List.replicate_append_replicate
abbrev jR:=@BitVec.eq_of_toNat_eq
abbrev jS:=@Classical.choose_spec
abbrev jT:=@List.range'_succ
abbrev jU:=@Nat.lt_succ_self
abbrev jV:=@Nat.and_two_pow_sub_one_eq_mod
abbrev jW:=@List.flatMap_nil
abbrev jX:=@List.pairwise_append
abbrev jY:=@List.mem_iff_getElem
abbrev jZ:=@Option.some.inj
abbrev ku:=@Nat.div_le_self
abbrev kC:=@List.replicate_zero
abbrev kD:=@List.getD_cons_succ
abbrev kE:=@List.take_take
abbrev kF:=@BitVec.toNat_ofInt
abbrev kG:=@Array.getElem?_eq_getElem
abbrev kH:=@List.exists_mem_of_ne_nil
abbrev kJ:=@List.foldl_append
abbrev kK:=@Array.setIfInBounds_comm
abbrev kL:=@Array.getElem?_replicate
abbrev kM:=@List.getElem_map
abbrev kN:=@Nat.le_of_not_lt
abbrev kP:=@List.getElem?_replicate
abbrev kQ:=@List.pairwise_mergeSort
abbrev kR:=@List.getElem_cons_zero
abbrev kS:=@List.getElem_cons_succ
abbrev kT:=@List.flatMap_singleton
abbrev kU:=@Bool.or_true
abbrev kV:=@Nat.mul_add_mod
abbrev kW:=@BitVec.toNat_or
abbrev kX:=@Nat.ble_eq_true_of_le
abbrev kY:=@Nat.div_lt_iff_lt_mul
abbrev kZ:=@List.getElem?_toArray
abbrev lq:=@List.length_mergeSort
abbrev lu:=@List.mem_range
abbrev lC:=@Nat.mul_pos
abbrev lD:=@List.drop_left
abbrev lF:=@Ne.symm
abbrev lG:=@List.take_add
abbrev lH:=@Nat.add_comm
abbrev lI:=@Nat.or_assoc
abbrev lJ:=@Nat.le_total
end Go.Proofs.YtocckceefcmeaaaGreatDoor
namespace Go.Proofs.YtocckceefcmeaaaGreatDoor.Vc
open Go.RowKit
abbrev mW:=Nat->Value
def upd (ρ:mW)(d:Nat)(v:Value):mW:=fun n=>bif Nat.beq n d then v else ρ n
def oU (ρ:mW)(d:Option Nat)(v:Value):mW:=match d with|some d=>upd ρ d v|none=>ρ
def qE (ρ:mW)(x:Operand):Value:=
 match x with
 | .tmp t=>ρ t
 | .const v=>v
 | .global g=> .pointer (some ⟨g,0,none⟩)
 | .func f=> .func (.func f) #[] #[]
structure Fits (N:Nat)(ds:List Deferred)(ρ:mW)(a:Act):Prop where
 size:a.tmps.size=N
 get : ∀t,a.tmps.getD t undef=ρ t
 defers:a.defers=ds
theorem Fits.eval {N:Nat}{ds:List Deferred}{ρ:mW}{a:Act}(h:Fits N ds ρ a):a.eval=qE ρ:=by
 funext x
 cases x with
 | tmp t=>exact h.get t
 | _=>rfl
theorem Fits.put {N:Nat}{ds:List Deferred}{ρ:mW}{a:Act}(h:Fits N ds ρ a)(d:Option Nat)(v:Value)(hd : ∀t,d=some t->t<N) :
  Fits N ds (oU ρ d v) (a.put d v):=by
 cases d with
 | none=>exact h
 | some t=>
  refine⟨by simp [Act.put,h.size],fun s=> ?_,by simp [Act.put,h.defers]⟩
  have ht:t<a.tmps.size:=by rw [h.size];exact hd t rfl
  by_cases hs:s=t
  ·subst hs
   simp [Act.put,oU,upd,ht]
  ·have hb:Nat.beq s t=false:=by
    cases hb:Nat.beq s t with
    | false=>rfl
    | true=>exact absurd (aF hb) hs
   have h1:=h.get s
   have hst:t≠s:=fun e=>hs e.symm
   simp only [Act.put,oU,upd,hb,cond_false]
   rw [<-h1]
   simp [iE hst]
structure nZ (P:Program)(s:Sem Value)(w:World)(K:Value->World->Prop):Prop where
 ex : ∃v w',s.run P w = .ok v w'∧K v w'
structure xE (P:Program)(s:Sem Unit)(w:World)(K:World->Prop):Prop where
 ex : ∃u w',s.run P w = .ok u w'∧K w'
def callable (P:Program)(f:FuncId):Bool:=
 match P.funcs[f]? with
 | some fn=> !(fn.name== "runtime.NumGoroutine")&&fn.body.isSome
 | none=>false
structure Xk (P:Program)(f:FuncId)(args:Array Value)(w:World)(K:Value->World->Prop):Prop where
 ok:callable P f=true
 runs:Calls P f args w fun e w'=> ∃v,e = .returned v∧K v w'
structure lN (p k:Prop):Prop where
 req:p
 go:k
structure oL (p k:Prop):Prop where
 req:p
 go:k
def wr (q:Bool)(w:World)(K:Value->World->Prop):Value->World->Prop:=
 match q with
 | true=>fun v w'=>oL (w'=w) (K v w')
 | false=>K
def OE (b:Bool)(t e:Prop):Prop:=match b with|true=>t|false=>e
theorem lK {b:Bool}{t e:Prop}(ht:b=true->t)(he:b=false->e):OE b t e:=by
 cases b
 ·exact he rfl
 ·exact ht rfl
theorem Hl {b:Bool}{t e:Prop}(hb:b=true)(ht:t):OE b t e:=by subst hb;exact ht
theorem zZ {b:Bool}{t e:Prop}(hb:b=false)(ht:e):OE b t e:=by subst hb;exact ht
def force (v:Value)(k:Value->Prop):Prop:=
 match v with
 | .bool b=>k (.bool b)
 | .int q n=>k (.int q n)
 | .float q n=>k (.float q n)
 | .complex q a b=>k (.complex q a b)
 | .string s=>k (.string s)
 | .pointer a=>k (.pointer a)
 | .slice a n c=>k (.slice a n c)
 | .map r=>k (.map r)
 | .chan r=>k (.chan r)
 | .func f a b=>k (.func f a b)
 | .nilFunc=>k .nilFunc
 | .iface t v=>k (.iface t v)
 | .nilIface=>k .nilIface
 | .agg cs=>k (.agg cs)
 | .tuple vs=>k (.tuple vs)
theorem force_eq (v:Value)(k:Value->Prop):force v k=k v:=by cases v<;>rfl
def xU (l:List Value)(k:List Value->Prop):Prop:=
 match l with
 | []=>k []
 | x::r=>force x fun x'=>xU r fun r'=>k (x'::r')
theorem ou (l:List Value) : ∀k:List Value->Prop,xU l k=k l:=by
 induction l with
 | nil=>intro k;rfl
 | cons x r ih=>intro k;simp only [xU,force_eq,ih]
def DY (v:Option Value)(k:Option Value->Prop):Prop:=
 match v with
 | some v=>force v fun v'=>k (some v')
 | none=>k none
theorem DZ (v:Option Value)(k:Option Value->Prop):DY v k=k v:=by cases v<;>simp [DY,force_eq]
def nD (op:BinOp)(k:IntKind)(a b:Int):Int:=
 match op with
 | .and=>k.wrap (BitVec.ofInt k.bits a &&& BitVec.ofInt k.bits b).toNat
 | .or=>k.wrap (BitVec.ofInt k.bits a ||| BitVec.ofInt k.bits b).toNat
 | .xor=>k.wrap (BitVec.ofInt k.bits a ^^^ BitVec.ofInt k.bits b).toNat
 | _=>k.wrap (BitVec.ofInt k.bits a &&& ~~~(BitVec.ofInt k.bits b)).toNat
def Q8 (op:BinOp)(k:IntKind)(a b:Int)(w:World)(K:Value->World->Prop):Prop:=
 match op with
 | .add=>K (.int k (k.wrap (a+b))) w
 | .sub=>K (.int k (k.wrap (a-b))) w
 | .mul=>K (.int k (k.wrap (a*b))) w
 | .quo=>lN (b≠0) (K (.int k (k.wrap (a.tdiv b))) w)
 | .rem=>lN (b≠0) (K (.int k (a.tmod b)) w)
 | .and=>K (.int k (nD .and k a b)) w
 | .or=>K (.int k (nD .or k a b)) w
 | .xor=>K (.int k (nD .xor k a b)) w
 | .andNot=>K (.int k (nD .andNot k a b)) w
 | .shl=>lN (0<=b) (K (.int k (k.wrap (a*2^min b.toNat k.bits))) w)
 | .shr=>lN (0<=b) (K (.int k (a.fdiv (2^min b.toNat k.bits))) w)
 | .eql=>K (.bool (a==b)) w
 | .neq=>K (.bool (a != b)) w
 | .lss=>K (.bool (decide (a<b))) w
 | .leq=>K (.bool (decide (a<=b))) w
 | .gtr=>K (.bool (decide (a>b))) w
 | .geq=>K (.bool (decide (a≥b))) w
def yL (a b:ByteArray):Bool:=a.toList==b.toList
def OG (a b:ByteArray):Bool:=Op.bytesLess a.toList b.toList
def FN (a b:ByteArray):ByteArray:=bif OG a b||yL a b then a else b
def FP (a b:ByteArray):ByteArray:=bif !OG a b then a else b
def aaP (op:BinOp)(a b:ByteArray)(w:World)(K:Value->World->Prop):Prop:=
 match op with
 | .add=>lN (((a.size+b.size:Nat):Int)<=IntKind.i64.max) (K (.string (a++b)) w)
 | .eql=>K (.bool (yL a b)) w
 | .neq=>K (.bool (!yL a b)) w
 | .lss=>K (.bool (OG a b)) w
 | .leq=>K (.bool (OG a b||yL a b)) w
 | .gtr=>K (.bool (!(OG a b||yL a b))) w
 | .geq=>K (.bool (!OG a b)) w
 | _=>False
def D5 (P:Program)(q:Bool)(op:BinOp)(t:TypeId)(x y:Operand)(a b:Value)(w:World)(K:Value->World->Prop):Prop:=
 match a,b with
 | .int k m, .int k' n=>(match op with
  | .shl=>Q8 .shl k m n w K
  | .shr=>Q8 .shr k m n w K
  | op=>bif decide (k=k')then Q8 op k m n w K else False)
 | .string m, .string n=>aaP op m n w K
 | .bool m, .bool n=>(match op with
  | .eql=>(match P.underlying t with|some .bool=>K (.bool (m==n)) w|_=>False)
  | .neq=>(match P.underlying t with|some .bool=>K (.bool (!(m==n))) w|_=>False)
  | _=>False)
 | a,b=>nZ P (do eqGuard op t x y a b;binOp op t a b) w (wr q w K)
def vUn (P:Program)(q:Bool)(op:UnOp)(a:Value)(w:World)(K:Value->World->Prop):Prop:=
 match op,a with
 | .not, .bool b=>K (.bool (!b)) w
 | .neg, .int k n=>K (.int k (k.wrap (0-n))) w
 | op,a=>nZ P (Op.unary op a) w (wr q w K)
def AX (P:Program)(q:Bool)(src dst:TypeId)(a:Value)(w:World)(K:Value->World->Prop):Prop:=
 match P.underlying src,P.underlying dst,a with
 | some _,some (.int k), .int _ n=>K (.int k (k.wrap n)) w
 | some (.string),some .string, .string s=>K (.string s) w
 | _,_,a=>nZ P (convert src dst a) w (wr q w K)
def zl (P:Program)(t:TypeId):Option Bool:=
 match P.underlying t with
 | some (.struct _)=>some true
 | some (.array _ _)=>some true
 | some _=>some false
 | none=>none
def D6 (P:Program)(t:TypeId)(cs:Array Value)(f:Nat)(w:World)(K:Value->World->Prop):Prop:=
 match P.underlying t with
 | some (.struct fs)=>(match fs.toList[f]? with
  | some fd=>(match zl P fd.type,P.info? fd.type with
   | some true,some i=>xU ((cs.toList.drop fd.offset).take i.size) fun l=>K (.agg l.toArray) w
   | some false,some _=>(match cs.toList[fd.offset]? with
    | some v=>K v w
    | none=>False)
   | _,_=>False)
  | none=>False)
 | _=>False
def wR (P:Program)(t:TypeId)(a:Addr)(f:Nat)(w:World)(K:Value->World->Prop):Prop:=
 match P.underlying t with
 | some (.struct fs)=>(match fs.toList[f]? with
  | some fd=>(match P.info? fd.type with
   | some i=>bif Nat.beq i.size 0 then False else K (.pointer (some (a.add fd.offset))) w
   | none=>False)
  | none=>False)
 | _=>False
def vO (cells:List Value)(off:Nat)(vs:List Value):List Value:=
 match vs with
 | []=>cells
 | c::r=>vO (cells.set off c) (off+1) r
def zf (place:Nat->Option (Nat×Nat))(cells:List Value)(parts:List (Nat×Value)):Option (List Value):=
 match parts with
 | []=>some cells
 | (i,v)::rest=>(match place i with
  | none=>none
  | some (off,size)=>bif Nat.beq v.cells.toList.length size&&Nat.ble (off+v.cells.toList.length) cells.length then zf place (vO cells off v.cells.toList) rest else none)
def Aa (P:Program)(fs:List Field):Option (List (Nat×Nat)):=
 match fs with
 | []=>some []
 | f::r=>(match P.info? f.type,Aa P r with
  | some i,some l=>some ((f.offset,i.size)::l)
  | _,_=>none)
def D7 (P:Program)(t:TypeId)(parts:List (Nat×Value))(w:World)(K:Value->World->Prop):Prop:=
 match (P.info? t).bind (·.zero),P.underlying t with
 | some z,some (.struct fs)=>(match Aa P fs.toList with
  | some pl=>(match zf (fun i=>pl[i]?) z.cells.toList parts with
   | some l=>xU l fun l=>K (.agg l.toArray) w
   | none=>False)
  | none=>False)
 | some z,some (.array _ e)=>(match P.info? e with
  | some i=>(match zf (fun j=>some (j*i.size,i.size)) z.cells.toList parts with
   | some l=>xU l fun l=>K (.agg l.toArray) w
   | none=>False)
  | none=>False)
 | _,_=>False
def vG (P:Program)(t:TypeId)(n:Nat)(parts:List (Nat×Value))(w:World)(K:Value->World->Prop):Prop:=
 match P.underlying t with
 | some (.slice e)=>(match P.info? e with
  | some i=>(match i.zero with
   | some z=>bif Nat.beq z.cells.toList.length i.size&&Nat.ble 1 i.size&&Nat.ble (n*i.size) 16777216 then
     (match zf (fun j=>some (j*i.size,i.size)) (List.replicate n z.cells.toList).flatten parts with
     | some l=>xU l fun l=>K (.slice (some ⟨w.heap.size,0,none⟩) n n) (w.alloc (.cells l.toArray e))
     | none=>False)else False
   | none=>False)
  | none=>False)
 | _=>False
def xG (ρ:mW)(xs:List Operand)(k:List Value->Prop):Prop:=xU (xs.map (qE ρ)) k
def D8 (P:Program)(q:Bool)(t ty:TypeId)(a:Value)(w:World)(K:Value->World->Prop):Prop:=
 match P.underlying t,a with
 | some .string, .string s=>K (.int .i64 s.size) w
 | some (.slice _), .slice _ n _=>K (.int .i64 n) w
 | some (.array n _),_=>K (.int .i64 n) w
 | _,a=>nZ P (Builtin.len_ #[t] ty #[a]) w (wr q w K)
def D9 (P:Program)(q:Bool)(b:Builtin)(ts:List TypeId)(ty:TypeId)(args:List Value)(w:World)(K:Value->World->Prop):Prop:=
 match b,ts,args with
 | .len,[t],[a]=>D8 P q t ty a w K
 | .min,_,[.int k x, .int _ y]=>K (.int k (min x y)) w
 | .max,_,[.int k x, .int _ y]=>K (.int k (max x y)) w
 | .min,_,[.string x, .string y]=>K (.string (FN x y)) w
 | .max,_,[.string x, .string y]=>K (.string (FP x y)) w
 | .append,ts,args=>nZ P (Builtin.append_ ts.toArray ty args.toArray) w (wr q w K)
 | .copy,ts,args=>nZ P (Builtin.copy_ ts.toArray ty args.toArray) w (wr q w K)
 | .min,ts,args=>nZ P (Builtin.min_ ts.toArray ty args.toArray) w (wr q w K)
 | .max,ts,args=>nZ P (Builtin.max_ ts.toArray ty args.toArray) w (wr q w K)
 | .len,ts,args=>nZ P (Builtin.len_ ts.toArray ty args.toArray) w (wr q w K)
 | .cap,ts,args=>nZ P (Builtin.cap_ ts.toArray ty args.toArray) w (wr q w K)
 | .delete,ts,args=>nZ P (Builtin.delete_ ts.toArray ty args.toArray) w (wr q w K)
 | .clear,ts,args=>nZ P (Builtin.clear_ ts.toArray ty args.toArray) w (wr q w K)
 | _,_,_=>False
def Ho (P:Program)(q:Bool)(ρ:mW)(c:Call)(ty:TypeId)(w:World)(K:Value->World->Prop):Prop:=
 match c.callee with
 | .builtin b=>xG ρ c.args.toList fun args=>D9 P q b c.argTypes.toList ty args w K
 | .value f=>(match qE ρ f with
  | .func (.func g) first captured=>xG ρ c.args.toList fun args=>Xk P g ((first++args.toArray)++captured) w K
  | _=>False)
 | .invoke _ _=>False
def JU (P:Program)(q:Bool)(o:Oper)(ρ:mW)(w:World)(K:Value->World->Prop):Prop:=
 match o.op with
 | .move x=>force (qE ρ x) fun v=>K v w
 | .assign x=>force (qE ρ x) fun v=>K v w
 | .pick c a b=>(match qE ρ c with
  | .bool t=>(match qE ρ a,qE ρ b with
   | .bool x, .bool y=>K (.bool (bif t then x else y)) w
   | _,_=>OE t (K (qE ρ a) w) (K (qE ρ b) w))
  | _=>False)
 | .alloc elem=>(match (P.info? elem).bind (·.zero)with
  | some (.agg cs)=>K (.pointer (some ⟨w.heap.size,0,none⟩)) (w.alloc (.cells cs elem))
  | some z=>K (.pointer (some ⟨w.heap.size,0,none⟩)) (w.alloc (.cells z.cells elem))
  | none=>False)
 | .box elem x=>force (qE ρ x) fun v=>(match v with
  | .agg cs=>K (.pointer (some ⟨w.heap.size,0,none⟩)) (w.alloc (.cells cs elem))
  | v=>K (.pointer (some ⟨w.heap.size,0,none⟩)) (w.alloc (.cells v.cells elem)))
 | .build t parts=>xU (parts.toList.map fun p=>qE ρ p.2) fun vs=>D7 P t ((parts.toList.map (·.1)).zip vs) w K
 | .buildSlice t n parts=>xU (parts.toList.map fun p=>qE ρ p.2) fun vs=>vG P t n ((parts.toList.map (·.1)).zip vs) w K
 | .load t a=>(match qE ρ a with
  | .pointer (some a)=>nZ P (loadVar t a) w (wr q w K)
  | _=>False)
 | .store t a x=>(match qE ρ a with
  | .pointer (some a)=>force (qE ρ x) fun v=>xE P (storeVar t a v) w fun w'=>K undef w'
  | _=>False)
 | .nilCheck x=>(match qE ρ x with
  | .pointer (some a)=>K (.pointer (some a)) w
  | _=>False)
 | .binOp op t x y _=>D5 P q op t x y (qE ρ x) (qE ρ y) w K
 | .unOp op _ x=>vUn P q op (qE ρ x) w K
 | .convert src dst x=>AX P q src dst (qE ρ x) w K
 | .makeFunc fn first captured=>xG ρ first.toList fun a=>xG ρ captured.toList fun b=>K (.func fn a.toArray b.toArray) w
 | .makeMap t r=>DY (r.map (qE ρ)) fun r=>nZ P (Instr.makeMap t r) w (wr q w K)
 | .makeSlice t l c=>force (qE ρ l) fun l=>force (qE ρ c) fun c=>nZ P (Instr.makeSlice t l c) w (wr q w K)
 | .slice t x lo hi mx=>force (qE ρ x) fun x=>DY (lo.map (qE ρ)) fun lo=>DY (hi.map (qE ρ)) fun hi=>DY (mx.map (qE ρ)) fun mx=>
   nZ P (Instr.sliceAt t x lo hi mx) w (wr q w K)
 | .fieldAddr s x f=>(match qE ρ x with
  | .pointer (some a)=>wR P s a f w K
  | _=>False)
 | .field t x f=>(match qE ρ x with
  | .agg cs=>D6 P t cs f w K
  | _=>False)
 | .indexAddr t x i=>force (qE ρ x) fun x=>force (qE ρ i) fun i=>nZ P (Instr.indexAt t x i) w (wr q w K)
 | .index t x i=>force (qE ρ x) fun x=>force (qE ρ i) fun i=>nZ P (Instr.index t x i) w (wr q w K)
 | .lookup t x i ok=>force (qE ρ x) fun x=>force (qE ρ i) fun i=>nZ P (Instr.lookup t x i ok) w (wr q w K)
 | .mapUpdate t m k x=>force (qE ρ m) fun m=>force (qE ρ k) fun k=>force (qE ρ x) fun x=>xE P (Instr.mapUpdate t m k x) w fun w'=>K undef w'
 | .insert t m k x=>force (qE ρ m) fun m=>force (qE ρ k) fun k=>force (qE ρ x) fun x=>xE P (Instr.mapUpdate t m k x) w fun w'=>K undef w'
 | .range t x=>force (qE ρ x) fun x=>nZ P (Instr.range t x) w (wr q w K)
 | .next it s=>force (qE ρ it) fun it=>nZ P (Instr.next it s o.type) w (wr q w K)
 | .entry it=>force (qE ρ it) fun it=>nZ P (Instr.entry it) w (wr q w K)
 | .extract t i=>(match qE ρ t with
  | .tuple vs=>(match vs.toList[i]? with
   | some v=>K v w
   | none=>False)
  | _=>False)
 | .call c=>Ho P q ρ c o.type w K
 | _=>False
theorem Oper.aio {P:Program}{o:Oper}{a:Act}{w:World}{next:Act->World->Prop}{Q:Exit->Act->World->Prop}{v:Value}{w':World}
  (h:(execOp a.eval o).run P w = .ok (.value v) w') (k:next (a.put o.dst v) w'):o.wp P a w next Q:=by
 unfold Oper.wp;rw [h];exact k
theorem Oper.Q9 {P:Program}{o:Oper}{a:Act}{w:World}{next:Act->World->Prop}{Q:Exit->Act->World->Prop}{w':World}
  (h:(execOp a.eval o).run P w = .ok .skip w') (k:next (a.put o.dst undef) w'):o.wp P a w next Q:=by
 unfold Oper.wp;rw [h];exact k
def pG (o:Oper):Bool:=
 match o.op with
 | .move _ | .assign _ | .pick _ _ _ | .nilCheck _ | .binOp _ _ _ _ _ | .unOp _ _ _ | .convert _ _ _ | .fieldAddr _ _ _ | .field _ _ _
 | .indexAddr _ _ _ | .index _ _ _ | .slice _ _ _ _ _ | .lookup _ _ _ _ | .extract _ _ | .makeFunc _ _ _ | .load _ _ | .build _ _=>true
 | .call c=>(match c.callee with
  | .builtin .len=>true
  | .builtin .min=>true
  | .builtin .max=>true
  | .builtin .cap=>true
  | _=>false)
 | _=>false
def BQ (o:Oper):Bool:=
 match o.op with
 | .move _ | .assign _ | .extract _ _ | .makeFunc _ _ _ | .nilCheck _=>true
 | _=>false
def Did (P:Program)(q:Bool)(o:Oper)(ρ:mW)(w:World)(K:Value->World->Prop):Prop:=
 (∃v w',(execOp (qE ρ) o).run P w = .ok (.value v) w'∧K v w'∧(q=true->pG o=true->w'=w))∨
 (∃w',(execOp (qE ρ) o).run P w = .ok .skip w'∧K undef w'∧pG o=false)∨
 (∃f args,(execOp (qE ρ) o).run P w = .ok (.enter f args) w∧pG o=false∧Calls P f args w fun e w'=> ∃v,e = .returned v∧K v w')
theorem Did.wp {P:Program}{q:Bool}{o:Oper}{ρ:mW}{a:Act}{w:World}{K:Value->World->Prop}{next:Act->World->Prop}{Q:Exit->Act->World->Prop}
  (he:a.eval=qE ρ) (h:Did P q o ρ w K) (hk : ∀v w',K v w'->next (a.put o.dst v) w'):o.wp P a w next Q:=by
 rcases h with ⟨v,w',hr,k,_⟩|⟨w',hr,k,_⟩|⟨f,args,hr,_,hc⟩
 ·exact Oper.aio (he▸hr) (hk _ _ k)
 ·exact Oper.Q9 (he▸hr) (hk _ _ k)
 ·unfold Oper.wp
  rw [he,hr]
  exact hc.mono fun e w' ⟨v,hv,k⟩=>by subst hv;exact hk _ _ k
theorem Did.quiet {P:Program}{o:Oper}{ρ:mW}{w:World}{K:Value->World->Prop}(hq:pG o=true)(h:Did P true o ρ w K) :
  ∃v,(execOp (qE ρ) o).run P w = .ok (.value v) w∧K v w:=by
 rcases h with ⟨v,w',hr,k,he⟩|⟨w',hr,k,he⟩|⟨f,args,hr,he,hc⟩
 ·have:=he rfl hq
  subst this
  exact⟨v,hr,k⟩
 ·rw [hq]at he;cases he
 ·rw [hq]at he;cases he
theorem mM {P:Program}{t:TypeId}{d:TypeDesc}{w:World}(h:P.underlying t=some d):(underlying t).run P w = .ok d w:=by
 unfold underlying
 simp [h]
theorem tJ {P:Program}{t:TypeId}{i:TypeInfo}{w:World}(h:P.info? t=some i):(typeInfo t).run P w = .ok i w:=by
 unfold typeInfo
 simp [h]
theorem nV {P:Program}{o:Oper}{ρ:mW}{w:World}{K:Value->World->Prop}{q:Bool}{v:Value}{w':World}
  (h:(execOp (qE ρ) o).run P w = .ok (.value v) w') (k:K v w') (hq:q=true->pG o=true->w'=w):Did P q o ρ w K:= .inl ⟨v,w',h,k,hq⟩
theorem aip {q:Bool}{w w':World}{K:Value->World->Prop}{v:Value}(h:wr q w K v w'):K v w':=by
 cases q with
 | false=>exact h
 | true=>exact h.go
theorem nZ.un {P:Program}{s:Sem Value}{q:Bool}{w:World}{K:Value->World->Prop}(h:nZ P s w (wr q w K)) :
  ∃v w',s.run P w = .ok v w'∧K v w'∧(q=true->w'=w):=
 let ⟨v,w',hr,hk⟩:=h.ex
 ⟨v,w',hr,aip hk,fun e=>by subst e;exact hk.req⟩
theorem nZ.same {P:Program}{s:Sem Value}{w:World}{K:Value->World->Prop}(h:nZ P s w (wr true w K)) :
  ∃v,s.run P w = .ok v w∧K v w:=
 let ⟨v,w',hr,hk⟩:=h.ex
 ⟨v,by have:=hk.req;subst this;exact⟨hr,hk.go⟩⟩
theorem xE.un {P:Program}{s:Sem Unit}{w:World}{K:World->Prop}(h:xE P s w K) : ∃u w',s.run P w = .ok u w'∧K w':=h.ex
theorem uF {P:Program}{s:Sem Value}{w w':World}{v:Value}(h:s.run P w = .ok v w') :
  (do pure (Next.value (<-s)):Sem Next).run P w = .ok (.value v) w':=by
 simp [h]
theorem Xl {P:Program}{s:Sem Unit}{w w':World}{u:Unit}(h:s.run P w = .ok u w') :
  (do s;pure Next.skip:Sem Next).run P w = .ok .skip w':=by
 simp [h]
theorem Xm {P:Program}{op:BinOp}{t:TypeId}{x y:Operand}{k:IntKind}{m n:Int}{w:World}{K:Value->World->Prop}
  (h:Q8 op k m n w K) : ∃v,(do eqGuard op t x y (.int k m) (.int k n);binOp op t (.int k m) (.int k n):Sem Value).run P w = .ok v w∧K v w:=by
 have hg:(eqGuard op t x y (.int k m) (.int k n)).run P w = .ok () w:=by
  cases op<;>simp [eqGuard]
 cases op<;>simp only [Q8]at h
 case add=>exact⟨_,by rw [Sem.run_bind,hg];simp [binOp,Op.intArith],h⟩
 case sub=>exact⟨_,by rw [Sem.run_bind,hg];simp [binOp,Op.intArith],h⟩
 case mul=>exact⟨_,by rw [Sem.run_bind,hg];simp [binOp,Op.intArith],h⟩
 case quo=>exact⟨_,by rw [Sem.run_bind,hg];simp [binOp,Op.intDiv,h.req],h.go⟩
 case rem=>exact⟨_,by rw [Sem.run_bind,hg];simp [binOp,Op.intDiv,h.req],h.go⟩
 case and=>exact⟨_,by rw [Sem.run_bind,hg];simp [binOp,Op.intBits,nD],h⟩
 case or=>exact⟨_,by rw [Sem.run_bind,hg];simp [binOp,Op.intBits,nD],h⟩
 case xor=>exact⟨_,by rw [Sem.run_bind,hg];simp [binOp,Op.intBits,nD],h⟩
 case andNot=>exact⟨_,by rw [Sem.run_bind,hg];simp [binOp,Op.intBits,nD],h⟩
 case shl=>exact⟨_,by rw [Sem.run_bind,hg];simp [binOp,Op.shift,iW.2 h.req],h.go⟩
 case shr=>exact⟨_,by rw [Sem.run_bind,hg];simp [binOp,Op.shift,iW.2 h.req],h.go⟩
 case eql=>exact⟨_,by rw [Sem.run_bind,hg];simp [binOp,Op.intCmp],h⟩
 case neq=>exact⟨_,by rw [Sem.run_bind,hg];simp [binOp,Op.intCmp],h⟩
 case lss=>exact⟨_,by rw [Sem.run_bind,hg];simp [binOp,Op.intCmp],h⟩
 case leq=>exact⟨_,by rw [Sem.run_bind,hg];simp [binOp,Op.intCmp],h⟩
 case gtr=>exact⟨_,by rw [Sem.run_bind,hg];simp [binOp,Op.intCmp],h⟩
 case geq=>exact⟨_,by rw [Sem.run_bind,hg];simp [binOp,Op.intCmp],h⟩
theorem Hq {P:Program}{op:BinOp}{t:TypeId}{x y:Operand}{k k':IntKind}{m n:Int}{w:World}{K:Value->World->Prop}
  (ho:op = .shl∨op = .shr) (h:Q8 op k m n w K) : ∃v,(do eqGuard op t x y (.int k m) (.int k' n);binOp op t (.int k m) (.int k' n):Sem Value).run P w = .ok v w∧K v w:=by
 rcases ho with rfl|rfl
 ·exact⟨_,by simp [eqGuard,binOp,Op.shift,iW.2 h.req],h.go⟩
 ·exact⟨_,by simp [eqGuard,binOp,Op.shift,iW.2 h.req],h.go⟩
theorem Xn {P:Program}{op:BinOp}{t:TypeId}{x y:Operand}{m n:ByteArray}{w:World}{K:Value->World->Prop}
  (h:aaP op m n w K) : ∃v,(do eqGuard op t x y (.string m) (.string n);binOp op t (.string m) (.string n):Sem Value).run P w = .ok v w∧K v w:=by
 have hg:(eqGuard op t x y (.string m) (.string n)).run P w = .ok () w:=by
  cases op<;>simp [eqGuard]
 cases op<;>simp only [aaP]at h
 case add=>exact⟨_,by rw [Sem.run_bind,hg];simp only [Result.andThen_ok,binOp,Op.stringOp,if_neg (iW.2 h.req)];rfl,h.go⟩
 case eql=>exact⟨_,by rw [Sem.run_bind,hg];rfl,h⟩
 case neq=>exact⟨_,by rw [Sem.run_bind,hg];rfl,h⟩
 case lss=>exact⟨_,by rw [Sem.run_bind,hg];rfl,h⟩
 case leq=>exact⟨_,by rw [Sem.run_bind,hg];rfl,h⟩
 case gtr=>exact⟨_,by rw [Sem.run_bind,hg];rfl,h⟩
 case geq=>exact⟨_,by rw [Sem.run_bind,hg];rfl,h⟩
 all_goals exact h.elim
theorem Ht {P:Program}{t:TypeId}{m n:Bool}{w:World}(hu:P.underlying t=some .bool) :
  (Op.equal t (.bool m) (.bool n)).run P w = .ok (m==n) w:=by
 obtain⟨d,hd⟩ : ∃d,Op.maxDepth=d+1:=⟨Op.maxDepth-1,by decide⟩
 unfold Op.equal
 rw [hd]
 unfold Op.equalIn
 rw [Sem.run_bind,mM hu]
 rfl
theorem Xo {P:Program}{q:Bool}{op:BinOp}{t:TypeId}{x y:Operand}{a b:Value}{w:World}{K:Value->World->Prop}
  (h:D5 P q op t x y a b w K) : ∃v w',(do eqGuard op t x y a b;binOp op t a b:Sem Value).run P w = .ok v w'∧K v w'∧(q=true->w'=w):=by
 unfold D5 at h
 split at h
 ·rename_i k m k' n
  split at h
  ·obtain⟨v,hr,hk⟩:=Hq (P:=P) (t:=t) (x:=x) (y:=y) (k':=k') (.inl rfl) h;exact⟨v,w,hr,hk,fun _=>rfl⟩
  ·obtain⟨v,hr,hk⟩:=Hq (P:=P) (t:=t) (x:=x) (y:=y) (k':=k') (.inr rfl) h;exact⟨v,w,hr,hk,fun _=>rfl⟩
  ·by_cases hkk:k=k'
   ·subst hkk
    simp only [decide_true,cond_true]at h
    obtain⟨v,hr,hk⟩:=Xm (P:=P) (t:=t) (x:=x) (y:=y) h;exact⟨v,w,hr,hk,fun _=>rfl⟩
   ·simp [hkk]at h
 ·obtain⟨v,hr,hk⟩:=Xn (P:=P) (t:=t) (x:=x) (y:=y) h;exact⟨v,w,hr,hk,fun _=>rfl⟩
 ·rename_i m n
  split at h
  ·split at h
   ·rename_i hu
    exact⟨_,w,by rw [Sem.run_bind];simp only [eqGuard,binOp,Ht hu,Sem.run_bind,Result.andThen_ok];rfl,h,fun _=>rfl⟩
   ·cases h
  ·split at h
   ·rename_i hu
    exact⟨_,w,by rw [Sem.run_bind];simp only [eqGuard,binOp,Ht hu,Sem.run_bind,Result.andThen_ok];rfl,h,fun _=>rfl⟩
   ·cases h
  ·cases h
 ·exact h.un
theorem aaQ {P:Program}{q:Bool}{op:UnOp}{a:Value}{w:World}{K:Value->World->Prop}(h:vUn P q op a w K) :
  ∃v w',(Op.unary op a).run P w = .ok v w'∧K v w'∧(q=true->w'=w):=by
 unfold vUn at h
 split at h
 ·exact⟨_,w,by simp [Op.unary],h,fun _=>rfl⟩
 ·exact⟨_,w,by simp [Op.unary,Op.intArith],h,fun _=>rfl⟩
 ·exact h.un
theorem VB {P:Program}{q:Bool}{src dst:TypeId}{a:Value}{w:World}{K:Value->World->Prop}(h:AX P q src dst a w K) :
  ∃v w',(convert src dst a).run P w = .ok v w'∧K v w'∧(q=true->w'=w):=by
 unfold AX at h
 split at h
 ·rename_i d k q n h1 h2
  refine⟨_,w, ?_,h,fun _=>rfl⟩
  unfold convert
  rw [Sem.run_bind,mM h1,Result.andThen_ok,Sem.run_bind,mM h2,Result.andThen_ok]
  cases d<;>rfl
 ·rename_i s h1 h2
  refine⟨_,w, ?_,h,fun _=>rfl⟩
  unfold convert
  rw [Sem.run_bind,mM h1,Result.andThen_ok,Sem.run_bind,mM h2,Result.andThen_ok]
  rfl
 ·exact h.un
theorem sQ {P:Program}{t:TypeId}{b:Bool}{w:World}(h:zl P t=some b):(isAgg t).run P w = .ok b w:=by
 unfold zl at h
 unfold isAgg
 split at h
 ·rename_i hu;rw [Sem.run_bind,mM hu];simp at h;subst h;rfl
 ·rename_i hu;rw [Sem.run_bind,mM hu];simp at h;subst h;rfl
 ·rename_i d h1 h2 hu
  rw [Sem.run_bind,mM hu]
  simp at h
  subst h
  cases d<;>first|rfl|exact(h1 _ rfl).elim|exact(h2 _ _ rfl).elim
 ·cases h
theorem Rf {P:Program}{t:TypeId}{cs:Array Value}{f:Nat}{w:World}{K:Value->World->Prop}(h:D6 P t cs f w K) :
  ∃v,(Instr.field t (.agg cs) f).run P w = .ok v w∧K v w:=by
 unfold D6 at h
 split at h
 ·rename_i fs hu
  split at h
  ·rename_i fd hf
   have hf':fs[f]? = some fd:=by rw [<-hf];simp
   unfold Instr.field
   rw [Sem.run_bind,mM hu,Result.andThen_ok]
   simp only [hf']
   split at h
   ·rename_i i ha hi
    rw [ou]at h
    refine⟨_, ?_,h⟩
    simp only [Sem.run_bind,asAgg,Sem.run_pure,Result.andThen_ok,part,sQ ha,if_true,sizeOf,tJ hi]
    congr 2
    apply jo
    simp
   ·rename_i i ha hi
    split at h
    ·rename_i v hv
     refine⟨v, ?_,h⟩
     have hv':cs[fd.offset]? = some v:=by rw [<-hv];simp
     simp only [Sem.run_bind,asAgg,Sem.run_pure,Result.andThen_ok,part,sQ ha]
     simp [hv']
    ·cases h
   ·cases h
  ·cases h
 ·cases h
theorem Hu {P:Program}{t:TypeId}{a:Addr}{f:Nat}{w:World}{K:Value->World->Prop}(h:wR P t a f w K) :
  ∃v,(Instr.fieldAt t (.pointer (some a)) f).run P w = .ok v w∧K v w:=by
 unfold wR at h
 split at h
 ·rename_i fs hu
  split at h
  ·rename_i fd hf
   have hf':fs[f]? = some fd:=by rw [<-hf];simp
   split at h
   ·rename_i i hi
    cases hz:Nat.beq i.size 0 with
    | true=>simp [hz]at h
    | false=>
     simp only [hz,cond_false]at h
     refine⟨_, ?_,h⟩
     have hne:i.size≠0:=fun e=>by simp [e]at hz
     unfold Instr.fieldAt
     rw [Sem.run_bind,mM hu,Result.andThen_ok]
     simp only [hf']
     simp [Instr.sureAddr,fieldPlace,sizeOf,tJ hi,hne]
   ·cases h
  ·cases h
 ·cases h
theorem Xp {P:Program}{q:Bool}{t ty:TypeId}{a:Value}{w:World}{K:Value->World->Prop}(h:D8 P q t ty a w K) :
  ∃v w',(Builtin.len_ #[t] ty #[a]).run P w = .ok v w'∧K v w'∧(q=true->w'=w):=by
 unfold D8 at h
 split at h
 ·rename_i hu;exact⟨_,w,by simp [Builtin.len_,mM hu,goInt],h,fun _=>rfl⟩
 ·rename_i hu;exact⟨_,w,by simp [Builtin.len_,mM hu,goInt],h,fun _=>rfl⟩
 ·rename_i hu;exact⟨_,w,by simp [Builtin.len_,mM hu,goInt],h,fun _=>rfl⟩
 ·exact h.un
theorem VD {P:Program}{w:World}(x y:ByteArray):(Builtin.min2 (.string x) (.string y)).run P w = .ok (.string (FN x y)) w:=by
 have e:Builtin.min2 (.string x) (.string y)=(do pure (.string (if <-asBool (<-Op.stringOp .leq x y)then x else y))):=rfl
 rw [e]
 have e2:(Op.stringOp .leq x y).run P w = .ok (.bool (OG x y||yL x y)) w:=rfl
 rw [Sem.run_bind,e2,Result.andThen_ok]
 unfold FN
 cases (OG x y||yL x y)<;>rfl
theorem VE {P:Program}{w:World}(x y:ByteArray):(Builtin.max2 (.string x) (.string y)).run P w = .ok (.string (FP x y)) w:=by
 have e:Builtin.max2 (.string x) (.string y)=(do pure (.string (if <-asBool (<-Op.stringOp .geq x y)then x else y))):=rfl
 rw [e]
 have e2:(Op.stringOp .geq x y).run P w = .ok (.bool (!OG x y)) w:=rfl
 rw [Sem.run_bind,e2,Result.andThen_ok]
 unfold FP
 cases OG x y<;>rfl
theorem afw (x y:Int):(if y<x then y else x)=min x y:=by omega
theorem afx (x y:Int):(if y>x then y else x)=max x y:=by omega
def Xq (b:Builtin):Bool:=match b with | .len=>true | .min=>true | .max=>true | .cap=>true|_=>false
theorem Rh {P:Program}{q:Bool}{b:Builtin}{ts:List TypeId}{ty:TypeId}{args:List Value}{cb:Array Bool}{w:World}{K:Value->World->Prop}
  (h:D9 P q b ts ty args w K) : ∃v w',(builtin b ts.toArray ty cb args.toArray).run P w = .ok (.value v) w'∧K v w'∧(q=true->(Xq b=true)->w'=w):=by
 unfold D9 at h
 split at h
 ·obtain⟨v,w',hr,hk,hq⟩:=Xp h;exact⟨v,w',by simp [builtin,hr],hk,fun e _=>hq e⟩
 ·rename_i k x k' y
  exact⟨_,w,by simp only [builtin,Sem.run_bind,run_min_int2,Result.andThen_ok];rw [afw];rfl,h,fun _ _=>rfl⟩
 ·rename_i k x k' y
  exact⟨_,w,by simp only [builtin,Sem.run_bind,run_max_int2,Result.andThen_ok];rw [afx];rfl,h,fun _ _=>rfl⟩
 ·rename_i x y
  refine⟨_,w, ?_,h,fun _ _=>rfl⟩
  simp [builtin,Builtin.min_,VD]
 ·rename_i x y
  refine⟨_,w, ?_,h,fun _ _=>rfl⟩
  simp [builtin,Builtin.max_,VE]
 ·obtain⟨v,w',hr,hk,hq⟩:=h.un;exact⟨v,w',by simp [builtin,hr],hk,fun e _=>hq e⟩
 ·obtain⟨v,w',hr,hk,hq⟩:=h.un;exact⟨v,w',by simp [builtin,hr],hk,fun e _=>hq e⟩
 ·obtain⟨v,w',hr,hk,hq⟩:=h.un;exact⟨v,w',by simp [builtin,hr],hk,fun e _=>hq e⟩
 ·obtain⟨v,w',hr,hk,hq⟩:=h.un;exact⟨v,w',by simp [builtin,hr],hk,fun e _=>hq e⟩
 ·obtain⟨v,w',hr,hk,hq⟩:=h.un;exact⟨v,w',by simp [builtin,hr],hk,fun e _=>hq e⟩
 ·obtain⟨v,w',hr,hk,hq⟩:=h.un;exact⟨v,w',by simp [builtin,hr],hk,fun e _=>hq e⟩
 ·obtain⟨v,w',hr,hk,hq⟩:=h.un;exact⟨v,w',by simp [builtin,hr],hk,fun e _=>hq e⟩
 ·obtain⟨v,w',hr,hk,hq⟩:=h.un;exact⟨v,w',by simp [builtin,hr],hk,fun e _=>hq e⟩
 ·cases h
theorem BR {P:Program}{f:FuncId}{args:Array Value}{w:World}(h:callable P f=true) :
  (callFunc f args).run P w = .ok (.enter f args) w:=by
 unfold callable at h
 split at h
 ·rename_i fn hf
  simp only [aB,fA,beq_eq_false_iff_ne,ne_eq]at h
  have hb:fn.body≠none:=by intro e;simp [e]at h
  simp [callFunc,hf,h.1,hb]
 ·cases h
theorem BU (ρ:mW)(xs:Array Operand):xs.map (qE ρ)=(xs.toList.map (qE ρ)).toArray:=by
 apply jo
 simp
theorem VF {P:Program}{q:Bool}{o:Oper}{ρ:mW}{c:Call}{w:World}{K:Value->World->Prop}(ho:o.op = .call c)
  (h:Ho P q ρ c o.type w K):Did P q o ρ w K:=by
 obtain⟨callee,args,ats⟩:=c
 unfold Ho at h
 cases callee with
 | builtin b=>
  simp only [xG,ou]at h
  obtain⟨v,w',hr,hk,hq⟩:=Rh (cb:=args.map fun | .const _=>true|_=>false) h
  refine nV ?_ hk (fun e e'=>hq e (by simp only [pG,ho]at e';cases b<;>first|rfl|exact e'))
  unfold execOp
  simp only [ho,resolve,invoke,Sem.run_bind,Sem.run_pure,Result.andThen_ok]
  rw [BU]
  have:ats.toList.toArray=ats:=by simp
  rw [this]at hr
  exact hr
 | value f=>
  simp only at h
  split at h
  ·rename_i g first captured hf
   simp only [xG,ou]at h
   refine .inr (.inr ⟨g,_, ?_,by simp [pG,ho],h.runs⟩)
   unfold execOp
   simp only [ho,resolve,Deferred.ofValue,invoke,Sem.run_bind,Sem.run_pure,Result.andThen_ok,hf]
   rw [BU,BR h.ok]
  ·cases h
 | invoke r m=>exact h.elim
theorem Ri (off:Nat) : ∀(vs:List Value) (j:Nat) (cs:Array Value),
  (vs.zipIdx j).foldl (fun cs (p:Value×Nat)=>cs.setIfInBounds (off+p.2) p.1) cs=(vO cs.toList (off+j) vs).toArray:=by
 intro vs
 induction vs with
 | nil=>intro j cs;simp [vO]
 | cons v r ih=>
  intro j cs
  simp only [List.zipIdx_cons,eX,vO]
  rw [ih]
  congr 2
  simp
theorem fill_eq (place:Nat->Option (Nat×Nat)) : ∀(parts:List (Nat×Value)) (cs l:List Value),
  zf place cs parts=some l->Instr.fill place cs.toArray parts=some l.toArray:=by
 intro parts
 induction parts with
 | nil=>intro cs l h;simp only [zf,aN]at h;subst h;rfl
 | cons p r ih=>
  obtain⟨i,v⟩:=p
  intro cs l h
  simp only [zf]at h
  simp only [Instr.fill]
  cases hp:place i with
  | none=>simp [hp]at h
  | some os=>
   obtain⟨off,size⟩:=os
   simp only [hp]at h
   cases hc:(Nat.beq v.cells.toList.length size&&Nat.ble (off+v.cells.toList.length) cs.length)with
   | false=>rw [hc]at h;cases h
   | true=>
    rw [hc,cond_true]at h
    simp only [aB]at hc
    have h1:=aF hc.1
    have h2:=aP hc.2
    simp only [Array.length_toList]at h1 h2
    have hcond:(decide (v.cells.size≠size)||decide (off+v.cells.size>cs.toArray.size))=false:=by
     simp [h1]
     omega
    simp only [hcond,bf,if_false]
    have hf:=Ri off v.cells.toList 0 cs.toArray
    simp only [dS]at hf
    rw [<-ih _ _ h]
    congr 1
    rw [<-Array.foldl_toList]
    simp only [Array.toList_zipIdx]
    exact hf
theorem VG {P:Program} : ∀(fs:List Field) (pl:List (Nat×Nat)),Aa P fs=some pl->
  fs.mapM (fun f=>(P.info? f.type).map fun i=>(f.offset,i.size))=some pl:=by
 intro fs
 induction fs with
 | nil=>intro pl h;simp only [Aa,aN]at h;subst h;rfl
 | cons f r ih=>
  intro pl h
  simp only [Aa]at h
  split at h
  ·rename_i i l hi hl
   simp only [aN]at h
   subst h
   simp [hi,ih _ hl]
  ·cases h
theorem zB {P:Program}{t:TypeId}{z:Value}{w:World}(h:(P.info? t).bind (·.zero)=some z):(zeroValue t).run P w = .ok z w:=by
 cases hi:P.info? t with
 | none=>simp [hi]at h
 | some i=>
  simp only [hi,fU]at h
  simp [zeroValue,tJ hi,h]
theorem Rj {P:Program}{t:TypeId}{parts:List (Nat×Value)}{w:World}{K:Value->World->Prop}(h:D7 P t parts w K) :
  ∃v,(Instr.build t parts.toArray).run P w = .ok v w∧K v w:=by
 unfold D7 at h
 split at h
 ·rename_i z fs hz hu
  split at h
  ·rename_i pl hpl
   split at h
   ·rename_i l hl
    rw [ou]at h
    refine⟨_, ?_,h⟩
    refine run_build w t _ _ ?_
    have hf:=fill_eq _ _ _ _ hl
    cases hi:P.info? t with
    | none=>simp [hi]at hz
    | some i=>
     simp only [hi,fU]at hz
     unfold Program.built
     simp only [hi,hu,hz,VG _ _ hpl]
     simpa using hf
   ·cases h
  ·cases h
 ·rename_i z n e hz hu
  split at h
  ·rename_i i hi
   split at h
   ·rename_i l hl
    rw [ou]at h
    refine⟨_, ?_,h⟩
    have hf:=fill_eq _ _ _ _ hl
    unfold Instr.build
    rw [Sem.run_bind,zB hz,Result.andThen_ok,Sem.run_bind,mM hu,Result.andThen_ok]
    simp only [sizeOf,Sem.run_bind,tJ hi,Result.andThen_ok,Sem.run_pure]
    simp only [iR]at hf
    simp [hf]
   ·cases h
  ·cases h
 ·cases h
theorem OH (l:List Value)(s:Nat)(hl:l.length=s)(hs:1<=s) : ∀n:Nat,
  (List.range (n*s)).map (fun k=>l[k%s]!)=(List.replicate n l).flatten
 | 0=>by simp
 | n+1=>by
  rw [bJ,dF,List.range_add,aJ,OH l s hl hs n,jq,List.flatten_append]
  congr 1
  simp only [List.map_map,iK,List.flatten_nil,bY]
  apply jy
  ·simp [hl]
  ·intro i h1 h2
   simp only [ah,List.length_range]at h1
   simp only [kM,jH,Function.comp]
   have:(n*s+i)%s=i:=by rw [gY,kV,cZ h1]
   rw [this]
   simp [h2]
theorem Ea (z:Array Value)(n s:Nat)(hl:z.size=s)(hs:1<=s) :
  (Array.range (n*s)).map (fun k=>z[k%z.size]!)=(List.replicate n z.toList).flatten.toArray:=by
 rw [<-OH z.toList s (by simpa using hl) hs n]
 apply jo
 subst hl
 simp only [Array.toList_map,Array.toList_range]
 refine jD fun k hk=> ?_
 have hlt:k%z.size<z.size:=iM _ (by omega)
 simp [hlt]
theorem FQ {P:Program}{t:TypeId}{n:Nat}{parts:List (Nat×Value)}{w:World}{K:Value->World->Prop}(h:vG P t n parts w K) :
  ∃v w',(Instr.buildSlice t n parts.toArray).run P w = .ok v w'∧K v w':=by
 unfold vG at h
 split at h
 ·rename_i e hu
  split at h
  ·rename_i i hi
   split at h
   ·rename_i z hz
    cases hc:(Nat.beq z.cells.toList.length i.size&&Nat.ble 1 i.size&&Nat.ble (n*i.size) 16777216)with
    | false=>rw [hc]at h;exact h.elim
    | true=>
     rw [hc,cond_true]at h
     simp only [aB]at hc
     have h1:=aF hc.1.1
     have h2:=aP hc.1.2
     have h3:=aP hc.2
     split at h
     ·rename_i l hl
      rw [ou]at h
      refine⟨_,_, ?_,h⟩
      have hf:=fill_eq _ _ _ _ hl
      rw [<-Ea z.cells n i.size (by simpa using h1) h2]at hf
      have hle : ¬(n*i.size>2^24):=by simpa using h3
      unfold Instr.buildSlice
      rw [Sem.run_bind,mM hu,Result.andThen_ok]
      simp only [sizeOf,Sem.run_bind,tJ hi,Result.andThen_ok,Sem.run_pure,if_neg hle]
      by_cases h0:n*i.size=0
      ·have hn:n=0:=(Nat.mul_eq_zero.1 h0).resolve_right (by omega)
       subst hn
       simp only [fJ,if_true,Sem.run_bind,Sem.run_pure,Result.andThen_ok]
       simp only [fJ]at hf
       have e:(Array.range 0).map (fun x=>(#[]:Array Value)[x%(#[]:Array Value).size]!)=(Array.range 0).map (fun x=>z.cells[x%z.cells.size]!):=by simp
       rw [e,hf]
       simp [newRow]
      ·simp only [if_neg h0,zeroValue,tJ hi,Sem.run_bind,Result.andThen_ok,hz,Sem.run_pure,hf]
       simp [newRow]
     ·cases h
   ·cases h
  ·cases h
 ·cases h
theorem KA (ρ:mW)(parts:Array (Nat×Operand)) :
  ((parts.toList.map (·.1)).zip (parts.toList.map fun p=>qE ρ p.2)).toArray=parts.map fun(i,x)=>(i,qE ρ x):=by
 apply jo
 simp only [Array.toList_map]
 induction parts.toList with
 | nil=>rfl
 | cons p r ih=>simp only [gG,jf,ih]
theorem tK {P:Program}{q:Bool}{o:Oper}{ρ:mW}{w:World}{K:Value->World->Prop}(h:JU P q o ρ w K):Did P q o ρ w K:=by
 unfold JU at h
 cases ho:o.op<;>simp only [ho]at h
 case move x=>rw [force_eq]at h;exact nV (by unfold execOp;simp [ho]) h (fun _ _=>rfl)
 case assign x=>rw [force_eq]at h;exact nV (by unfold execOp;simp [ho]) h (fun _ _=>rfl)
 case pick c a b=>
  split at h
  ·rename_i t hc
   split at h
   ·rename_i x y ha hb
    refine nV ?_ h (fun _ _=>rfl)
    unfold execOp
    cases t<;>simp [ho,hc,asBool,ha,hb]
   ·cases t with
    | true=>exact nV (by unfold execOp;simp [ho,hc,asBool]) (show K (qE ρ a) w from h) (fun _ _=>rfl)
    | false=>exact nV (by unfold execOp;simp [ho,hc,asBool]) (show K (qE ρ b) w from h) (fun _ _=>rfl)
  ·cases h
 case alloc elem=>
  have go : ∀z,(P.info? elem).bind (·.zero)=some z->K (.pointer (some ⟨w.heap.size,0,none⟩)) (w.alloc (.cells z.cells elem))->Did P q o ρ w K:=fun z hz h=>by
   cases hi:P.info? elem with
   | none=>simp [hi]at hz
   | some i=>
    simp only [hi,fU]at hz
    refine nV ?_ h (fun _ e=>by simp [pG,ho]at e)
    unfold execOp
    simp [ho,Instr.alloc,zeroValue,tJ hi,hz,newVar,newRow]
  split at h
  ·rename_i cs hz;exact go _ hz h
  ·rename_i z _ hz;exact go _ hz h
  ·cases h
 case box elem x=>
  rw [force_eq]at h
  have h':K (.pointer (some ⟨w.heap.size,0,none⟩)) (w.alloc (.cells (qE ρ x).cells elem)):=by
   split at h
   ·rename_i cs hx;rw [hx];exact h
   ·exact h
  refine nV ?_ h' (fun _ e=>by simp [pG,ho]at e)
  unfold execOp
  simp [ho,Instr.box,newVar,newRow]
 case build t parts=>
  rw [ou]at h
  obtain⟨v,hr,hk⟩:=Rj h
  rw [KA]at hr
  exact nV (by unfold execOp;simp only [ho];exact uF hr) hk (fun _ _=>rfl)
 case buildSlice t n parts=>
  rw [ou]at h
  obtain⟨v,w',hr,hk⟩:=FQ h
  rw [KA]at hr
  exact nV (by unfold execOp;simp only [ho];exact uF hr) hk (fun _ e=>by simp [pG,ho]at e)
 case load t a=>
  split at h
  ·rename_i p hp
   obtain⟨v,w',hr,hk,hq⟩:=h.un
   refine nV (w':=w') (v:=v) ?_ hk (fun e _=>hq e)
   unfold execOp
   simp only [ho]
   exact uF (by simp only [Instr.loadAt,hp,Instr.sureAddr,Sem.run_bind,Sem.run_pure,Result.andThen_ok];exact hr)
  ·cases h
 case store t a x=>
  split at h
  ·rename_i p hp
   rw [force_eq]at h
   obtain⟨u,w',hr,hk⟩:=h.un
   refine .inr (.inl ⟨w', ?_,hk,by simp [pG,ho]⟩)
   unfold execOp
   simp only [ho]
   exact Xl (u:=u) (by simp only [Instr.storeAt,hp,Instr.sureAddr,Sem.run_bind,Sem.run_pure,Result.andThen_ok];exact hr)
  ·cases h
 case nilCheck x=>
  split at h
  ·rename_i p hp
   exact nV (by unfold execOp;simp only [ho,hp];rfl) h (fun _ _=>rfl)
  ·cases h
 case binOp op t x y yt=>
  obtain⟨v,w',hr,hk,hq⟩:=Xo h
  exact nV (by unfold execOp;simp only [ho];exact uF hr) hk (fun e _=>hq e)
 case unOp op t x=>
  obtain⟨v,w',hr,hk,hq⟩:=aaQ h
  exact nV (by unfold execOp;simp only [ho];exact uF hr) hk (fun e _=>hq e)
 case convert src dst x=>
  obtain⟨v,w',hr,hk,hq⟩:=VB h
  exact nV (by unfold execOp;simp only [ho];exact uF hr) hk (fun e _=>hq e)
 case makeFunc fn first captured=>
  simp only [xG,ou]at h
  refine nV ?_ h (fun _ _=>rfl)
  unfold execOp
  simp [ho,Instr.makeFunc,BU]
 case makeMap t r=>
  rw [DZ]at h
  obtain⟨v,w',hr,hk,hq⟩:=h.un
  exact nV (by unfold execOp;simp only [ho];exact uF hr) hk (fun e _=>hq e)
 case makeSlice t l c=>
  simp only [force_eq]at h
  obtain⟨v,w',hr,hk,hq⟩:=h.un
  exact nV (by unfold execOp;simp only [ho];exact uF hr) hk (fun e _=>hq e)
 case slice t x lo hi mx=>
  simp only [force_eq,DZ]at h
  obtain⟨v,w',hr,hk,hq⟩:=h.un
  exact nV (by unfold execOp;simp only [ho];exact uF hr) hk (fun e _=>hq e)
 case fieldAddr s x f=>
  split at h
  ·rename_i p hp
   obtain⟨v,hr,hk⟩:=Hu h
   exact nV (by unfold execOp;simp only [ho,hp];exact uF hr) hk (fun _ _=>rfl)
  ·cases h
 case field t x f=>
  split at h
  ·rename_i cs hc
   obtain⟨v,hr,hk⟩:=Rf h
   exact nV (by unfold execOp;simp only [ho,hc];exact uF hr) hk (fun _ _=>rfl)
  ·cases h
 case indexAddr t x i=>
  simp only [force_eq]at h
  obtain⟨v,w',hr,hk,hq⟩:=h.un
  exact nV (by unfold execOp;simp only [ho];exact uF hr) hk (fun e _=>hq e)
 case index t x i=>
  simp only [force_eq]at h
  obtain⟨v,w',hr,hk,hq⟩:=h.un
  exact nV (by unfold execOp;simp only [ho];exact uF hr) hk (fun e _=>hq e)
 case lookup t x i ok=>
  simp only [force_eq]at h
  obtain⟨v,w',hr,hk,hq⟩:=h.un
  exact nV (by unfold execOp;simp only [ho];exact uF hr) hk (fun e _=>hq e)
 case mapUpdate t m k x=>
  simp only [force_eq]at h
  obtain⟨u,w',hr,hk⟩:=h.un
  exact .inr (.inl ⟨w',by unfold execOp;simp only [ho];exact Xl (u:=u) hr,hk,by simp [pG,ho]⟩)
 case insert t m k x=>
  simp only [force_eq]at h
  obtain⟨u,w',hr,hk⟩:=h.un
  exact .inr (.inl ⟨w',by unfold execOp;simp only [ho];exact Xl (u:=u) hr,hk,by simp [pG,ho]⟩)
 case range t x=>
  simp only [force_eq]at h
  obtain⟨v,w',hr,hk,hq⟩:=h.un
  exact nV (by unfold execOp;simp only [ho];exact uF hr) hk (fun e _=>hq e)
 case next it s=>
  simp only [force_eq]at h
  obtain⟨v,w',hr,hk,hq⟩:=h.un
  exact nV (by unfold execOp;simp only [ho];exact uF hr) hk (fun e _=>hq e)
 case entry it=>
  simp only [force_eq]at h
  obtain⟨v,w',hr,hk,hq⟩:=h.un
  exact nV (by unfold execOp;simp only [ho];exact uF hr) hk (fun e _=>hq e)
 case extract t i=>
  split at h
  ·rename_i vs hv
   split at h
   ·rename_i v hi
    have hi':vs[i]? = some v:=by rw [<-hi];simp
    exact nV (by unfold execOp;simp only [ho,hv];exact uF (by simp [Instr.extract,hi'])) h (fun _ _=>rfl)
   ·cases h
  ·cases h
 case call c=>exact VF ho h
 all_goals exact h.elim
def Bg (all:List Oper)(g:Nat):Option Nat:=match all[g]? with|some o=>o.dst|none=>none
def vP (P:Program)(q:Bool)(all:List Oper)(o:Oper)(ρ:mW)(w:World)(K:mW->Value->World->Prop)(sS:mW->Prop):Prop:=
 match o.guard with
 | none=>JU P q o ρ w fun v w'=>K ρ v w'
 | some (g,want)=>(match Bg all g with
  | some s=>(match ρ s with
   | .bool t=>OE t
     (bif want then JU P q o (upd ρ s (.bool true)) w fun v w'=>K (upd ρ s (.bool true)) v w' else sS (upd ρ s (.bool true)))
     (bif want then sS (upd ρ s (.bool false))else JU P q o (upd ρ s (.bool false)) w fun v w'=>K (upd ρ s (.bool false)) v w')
   | _=>sS ρ)
  | none=>sS ρ)
def Xr (P:Program)(all:List Oper)(l:List Oper)(ρ:mW)(w:World)(K:mW->World->Prop):Prop:=
 match l with
 | []=>K ρ w
 | o::rest=>vP P false all o ρ w (fun ρ' v w'=>Xr P all rest (oU ρ' o.dst v) w' K) fun ρ'=>Xr P all rest (oU ρ' o.dst undef) w K
theorem OI {ρ:mW}{s:Nat}{v:Value}(h:ρ s=v):upd ρ s v=ρ:=by
 funext n
 unfold upd
 cases hb:Nat.beq n s with
 | false=>rfl
 | true=>rw [aF hb];exact h.symm
theorem Bh {N:Nat}{ds:List Deferred}{ρ:mW}{a:Act}{ops:Array Oper}(hf:Fits N ds ρ a)(g:Nat) :
  yielded ops a.tmps g=(match Bg ops.toList g with|some s=>(match ρ s with | .bool b=>some b|_=>none)|none=>none):=by
 unfold yielded Bg
 rw [<-bn]
 cases ops.toList[g]? with
 | none=>rfl
 | some o=>
  simp only [fU]
  cases hd:o.dst with
  | none=>rfl
  | some s=>
   simp only [fU]
   have h1:=hf.get s
   by_cases hs:s<a.tmps.size
   ·simp only [Array.getD,hs,dif_pos]at h1
    rw [kG hs]
    have h2:a.tmps[s]=ρ s:=h1
    rw [h2]
    cases ρ s<;>rfl
   ·simp only [Array.getD,hs,dif_neg,not_false_eq_true]at h1
    rw [gK (kN hs), <-h1]
    rfl
theorem yO {P:Program}{q:Bool}{N:Nat}{ds:List Deferred}{ρ:mW}{a:Act}{ops:Array Oper}{o:Oper}{w:World}{K:mW->Value->World->Prop}{sS:mW->Prop}
  (hf:Fits N ds ρ a) (h:vP P q ops.toList o ρ w K sS) :
  (Region.wanted o (yielded ops a.tmps)=true∧JU P q o ρ w fun v w'=>K ρ v w')∨
  (Region.wanted o (yielded ops a.tmps)=false∧sS ρ):=by
 unfold vP at h
 unfold Region.wanted
 split at h
 ·rename_i hg;rw [hg];exact .inl ⟨rfl,h⟩
 ·rename_i g want hg
  rw [hg]
  simp only [Bh hf g]
  split at h
  ·rename_i s hs
   cases hv:ρ s with
   | bool t=>
    have hu:upd ρ s (.bool t)=ρ:=OI hv
    rw [hv]at h
    cases t<;>cases want<;>simp only [OE,cond_true,cond_false]at h<;>rw [hu]at h
    ·exact .inl ⟨rfl,h⟩
    ·exact .inr ⟨rfl,h⟩
    ·exact .inr ⟨rfl,h⟩
    ·exact .inl ⟨rfl,h⟩
   | _=>rw [hv]at h;exact .inr ⟨rfl,h⟩
  ·exact .inr ⟨rfl,h⟩
def rG (N:Nat)(W:Nat->Bool)(o:Oper):Bool:=match o.dst with|some d=>Nat.blt d N&&W d|none=>true
def Same (W:Nat->Bool)(ρ ρ':mW):Prop:= ∀n,W n=false->ρ' n=ρ n
theorem oK {N:Nat}{W:Nat->Bool}{o:Oper}(h:rG N W o=true) : ∀t,o.dst=some t->t<N:=by
 intro t ht
 simp only [rG,ht,aB]at h
 exact aP h.1
theorem Same.oU {W:Nat->Bool}{N:Nat}{o:Oper}{lW ρ:mW}{v:Value}(h:Same W lW ρ)(ho:rG N W o=true):Same W lW (oU ρ o.dst v):=by
 intro n hn
 cases hd:o.dst with
 | none=>exact h n hn
 | some d=>
  simp only [Vc.oU,upd]
  cases hb:Nat.beq n d with
  | false=>exact h n hn
  | true=>
   have:=aF hb
   subst this
   simp only [rG,hd,aB]at ho
   rw [hn]at ho
   exact absurd ho.2 (by simp)
theorem Rk {P:Program}{N:Nat}{ds:List Deferred}{W:Nat->Bool}{ops:Array Oper}{Q:Exit->Act->World->Prop}{K:mW->World->Prop}{lW:mW}
  (hK : ∀ρ' a' w',Fits N ds ρ' a'->Same W lW ρ'->K ρ' w'->Q .normal a' w') :
  ∀(l:List Oper) (k:Nat) (ρ:mW) (a:Act) (w:World),(∀j,l[j]? = ops.toList[k+j]?)->(∀o∈l,rG N W o=true)->Fits N ds ρ a->Same W lW ρ->
   Xr P ops.toList l ρ w K->wpOps P ops Q (List.range' k l.length) a w:=by
 intro l
 induction l with
 | nil=>intro k ρ a w _ _ hf hs h;exact hK _ _ _ hf hs h
 | cons o rest ih=>
  intro k ρ a w hl hok hf hs h
  have ho:ops[k]? = some o:=by
   have:=hl 0
   simp only [bW,dS]at this
   rw [<-bn];exact this.symm
  have ho1:rG N W o=true:=hok o (by simp)
  have step : ∀(v:Value) (w':World),Xr P ops.toList rest (oU ρ o.dst v) w' K->wpOps P ops Q (List.range' (k+1) rest.length) (a.put o.dst v) w':=fun v w' hv=>
   ih (k+1) _ _ _ (fun j=>by have:=hl (j+1);simp only [dV]at this;rw [this];congr 1;omega) (fun o' ho'=>hok o' (by simp [ho']))
    (hf.put o.dst v (oK ho1)) (hs.oU ho1) hv
  simp only [bC,jT]
  simp only [wpOps,ho]
  rcases yO hf h with ⟨hw,hv⟩|⟨hw,hv⟩
  ·simp only [hw,if_true]
   exact .inl ((tK hv).wp hf.eval fun v w' hk=>step v w' hk)
  ·simp only [hw,bf,if_false]
   exact step undef w hv
inductive Plan where
 | done
 | take (i:Nat) (p:Plan)
 | one (i:Nat) (p:Plan)
 | two (i:Nat) (p:Plan) (j:Nat) (r:Plan)
 | three (i:Nat) (p:Plan) (j:Nat) (r:Plan) (k:Nat) (q:Plan)
 | sink (i:Nat)
 | post (i:Nat) (p:Plan)
def aiq (pure:Bool)(S:World->Prop)(P:Program)(o:Oper)(ρ:mW)(v:Value)(k:Prop):Prop:=
 match pure with
 | true=>k
 | false=>oL (∀w',S w'->JU P true o ρ w' fun v' _=>v'=v) k
structure oC (S:World->Prop)(w:World)(k:(World->Prop)->Prop):Prop where
 ex : ∃S':World->Prop,(∀u,S' u->S u)∧S' w∧k S'
theorem oC.keep {S:World->Prop}{w:World}{k:(World->Prop)->Prop}(h:S w)(hk:k S):oC S w k:=⟨S,fun _ h=>h,h,hk⟩
theorem oC.below {lY w:World}{k:(World->Prop)->Prop}(h:Below lY.heap.size lY w)(hk:k fun u=>Below w.heap.size w u):oC (fun u=>Below lY.heap.size lY u) w k:=
 ⟨fun u=>Below w.heap.size w u,fun _ hu=>h.trans (hu.mono h.size),Below.refl _ _,hk⟩
def vD (P:Program)(all:List Oper)(E8:Bool)(p:Plan)(S:World->Prop)(ρ:mW)(w:World)(K:mW->World->Prop):Prop:=
 match p with
 | .done=>K ρ w
 | .take i p=>(match all[i]? with
  | some o=>vP P true all o ρ w (fun ρ' v w'=>aiq (E8||BQ o) S P o ρ' v (vD P all E8 p S (oU ρ' o.dst v) w' K)) fun ρ'=>vD P all E8 p S (oU ρ' o.dst undef) w K
  | none=>False)
 | .one i p=>(match all[i]? with
  | some o=>vP P false all o ρ w (fun ρ' v w'=>oC S w' fun S'=>vD P all E8 p S' (oU ρ' o.dst v) w' K) fun ρ'=>vD P all E8 p S (oU ρ' o.dst undef) w K
  | none=>False)
 | .two i p j r=>(match all[i]?,all[j]? with
  | some o,some o'=>
   (vP P false all o ρ w (fun ρ' v w'=>oC S w' fun S'=>vD P all E8 p S' (oU ρ' o.dst v) w' K) fun ρ'=>vD P all E8 p S (oU ρ' o.dst undef) w K)∧
   (vP P false all o' ρ w (fun ρ' v w'=>oC S w' fun S'=>vD P all E8 r S' (oU ρ' o'.dst v) w' K) fun ρ'=>vD P all E8 r S (oU ρ' o'.dst undef) w K)
  | _,_=>False)
 | .three i p j r k q=>(match all[i]?,all[j]?,all[k]? with
  | some o,some o',some o''=>
   (vP P false all o ρ w (fun ρ' v w'=>oC S w' fun S'=>vD P all E8 p S' (oU ρ' o.dst v) w' K) fun ρ'=>vD P all E8 p S (oU ρ' o.dst undef) w K)∧
   (vP P false all o' ρ w (fun ρ' v w'=>oC S w' fun S'=>vD P all E8 r S' (oU ρ' o'.dst v) w' K) fun ρ'=>vD P all E8 r S (oU ρ' o'.dst undef) w K)∧
   (vP P false all o'' ρ w (fun ρ' v w'=>oC S w' fun S'=>vD P all E8 q S' (oU ρ' o''.dst v) w' K) fun ρ'=>vD P all E8 q S (oU ρ' o''.dst undef) w K)
  | _,_,_=>False)
 | .sink i=>(match all[i]? with
  | some o=>vP P false all o ρ w (fun ρ' v w'=>K (oU ρ' o.dst v) w') fun ρ'=>K (oU ρ' o.dst undef) w
  | none=>False)
 | .post _ _=>False
inductive Ud (ops:Array Oper)(i:Nat):Nat->Prop
 | one {o:Oper} {e:Edge} (h:ops[i]? = some o) (he:e∈o.after) (hb:Region.binds .any e=true):Ud ops i e.on
 | more {j:Nat} {o:Oper} {e:Edge} (ha:Ud ops i j) (h:ops[j]? = some o) (he:e∈o.after) (hb:Region.binds .any e=true):Ud ops i e.on
def Hw (ops:Array Oper)(i:Nat):List Nat:=
 match ops[i]? with
 | some o=>(o.after.toList.filter fun e=>Region.binds .any e).map (·.on)
 | none=> []
def Rl (l m:List Nat):List Nat:=m.foldl (fun acc x=>if acc.contains x then acc else x::acc) l
def afy (ops:Array Oper):Nat->List Nat->List Nat
 | 0,l=>l
 | n+1,l=>afy ops n (l.foldl (fun acc j=>Rl acc (Hw ops j)) l)
theorem KC {ops:Array Oper}{i k:Nat}(h:k∈Hw ops i) : ∃o e,ops[i]? = some o∧e∈o.after∧Region.binds .any e=true∧e.on=k:=by
 unfold Hw at h
 split at h
 ·rename_i o ho
  simp only [eP,List.mem_filter]at h
  obtain⟨e,⟨he,hb⟩,hk⟩:=h
  exact⟨o,e,ho,by simpa using he,hb,hk⟩
 ·cases h
theorem Rn {k:Nat} : ∀(m l:List Nat),k∈Rl l m->k∈l∨k∈m:=by
 intro m
 induction m with
 | nil=>intro l h;exact .inl h
 | cons x r ih=>
  intro l h
  rcases ih _ h with h|h
  ·simp only at h
   split at h
   ·exact .inl h
   ·rcases bD.1 h with rfl|h
    ·exact .inr (by simp)
    ·exact .inl h
  ·exact .inr (by simp [h])
theorem mem_grow {ops:Array Oper}{k:Nat} : ∀(m l:List Nat),k∈m.foldl (fun acc j=>Rl acc (Hw ops j)) l->k∈l∨∃j∈m,k∈Hw ops j:=by
 intro m
 induction m with
 | nil=>intro l h;exact .inl h
 | cons x r ih=>
  intro l h
  rcases ih _ h with h|⟨j,hj,hk⟩
  ·rcases Rn _ _ h with h|h
   ·exact .inl h
   ·exact .inr ⟨x,by simp,h⟩
  ·exact .inr ⟨j,by simp [hj],hk⟩
theorem Xt {ops:Array Oper}{i k:Nat} : ∀(n:Nat) (l:List Nat),(∀x∈l,Ud ops i x)->k∈afy ops n l->Ud ops i k:=by
 intro n
 induction n with
 | zero=>intro l h hk;exact h k hk
 | succ n ih=>
  intro l h hk
  refine ih _ (fun x hx=> ?_) hk
  rcases mem_grow _ _ hx with hx|⟨j,hj,hx⟩
  ·exact h x hx
  ·obtain⟨o,e,ho,he,hb,rfl⟩:=KC hx
   exact .more (h j hj) ho he hb
def sinkAt (ops:Array Oper)(i:Nat):Bool:=
 (List.range ops.size).all fun j=>j==i||(afy ops ops.size (Hw ops i)).contains j
theorem Ro {ops:Array Oper}{i j:Nat}(h:sinkAt ops i=true)(hj:j<ops.size)(hne:j≠i):Ud ops i j:=by
 simp only [sinkAt,bP,lu,ji,beq_iff_eq]at h
 rcases h j hj with e|e
 ·exact absurd e hne
 ·refine Xt ops.size (Hw ops i) (fun x hx=> ?_) (by simpa using e)
  obtain⟨o,e,ho,he,hb,rfl⟩:=KC hx
  exact .one ho he hb
def Down (ops:Array Oper)(listed:Array Bool):Prop:=
 ∀j o,ops[j]? = some o->listed.getD j false=true->∀e∈o.after,Region.binds .any e=true->listed.getD e.on false=true
theorem Down.set {ops:Array Oper}{listed:Array Bool}{i:Nat}(h:Down ops listed)(hi:i∈Region.ready .any ops listed):Down ops (listed.setIfInBounds i true):=by
 intro j o ho hl e he hb
 by_cases hji:i=j
 ·subst hji
  obtain⟨_,o',ho',hall⟩:=mem_ready.1 hi
  rw [ho]at ho'
  injection ho' with ho'
  subst ho'
  exact getD_set_true (hall e he hb)
 ·rw [getD_set_ne false hji]at hl
  exact getD_set_true (h j o ho hl e he hb)
theorem Down.anc {ops:Array Oper}{listed:Array Bool}{i k:Nat}(h:Down ops listed)(hi:i∈Region.ready .any ops listed)(ha:Ud ops i k):listed.getD k false=true:=by
 induction ha with
 | one ho he hb=>
  obtain⟨_,o',ho',hall⟩:=mem_ready.1 hi
  rw [ho]at ho'
  injection ho' with ho'
  subst ho'
  exact hall _ he hb
 | more ha ho he hb ih=>exact h _ _ ho ih _ he hb
def pF (ops:Array Oper):Plan->Array Bool->Bool
 | .done,listed=>(Region.ready .any ops listed).isEmpty
 | .take i p,listed=>(match ops[i]? with|some o=>pG o|none=>false)&&(Region.ready .any ops listed).contains i&&Region.free .any ops listed i&&pF ops p (listed.setIfInBounds i true)
 | .one i p,listed=>(Region.ready .any ops listed== [i])&&pF ops p (listed.setIfInBounds i true)
 | .two i p j r,listed=>(Region.ready .any ops listed== [i,j])&&pF ops p (listed.setIfInBounds i true)&&pF ops r (listed.setIfInBounds j true)
 | .three i p j r k q,listed=>(Region.ready .any ops listed== [i,j,k])&&pF ops p (listed.setIfInBounds i true)&&pF ops r (listed.setIfInBounds j true)&&pF ops q (listed.setIfInBounds k true)
 | .sink i,listed=>(Region.ready .any ops listed== [i])&&sinkAt ops i&&(Region.ready .any ops (listed.setIfInBounds i true)).isEmpty
 | .post i p,listed=>(Region.ready .any ops listed== [i])&&pF ops p (listed.setIfInBounds i true)
def Plan.depth:Plan->Nat
 | .done=>0
 | .take _ p=>p.depth+1
 | .one _ p=>p.depth+1
 | .two _ p _ r=>max p.depth r.depth+1
 | .three _ p _ r _ q=>max (max p.depth r.depth) q.depth+1
 | .sink _=>1
 | .post _ p=>p.depth+1
def xW (ops:Array Oper)(p:Plan):Bool:=Region.noSelect ops&&Nat.ble p.depth ops.size&&pF ops p (Array.replicate ops.size false)
section
variable {P:Program}{ops:Array Oper}{Q:Exit->Act->World->Prop}{S:World->Prop}
def yP (P:Program)(ops:Array Oper)(Q:Exit->Act->World->Prop)(S:World->Prop):Nat->Array Bool->Act->World->Prop
 | 0,listed,a,w=>Region.ready .any ops listed = []∧Q .normal a w
 | fuel+1,listed,a,w=>
  (Region.ready .any ops listed = []->Q .normal a w)∧
  ∀i∈Region.ready .any ops listed,wpOp P ops Q i (fun a' w'=>(sinkAt ops i=true∨S w')∧yP P ops Q S fuel (listed.setIfInBounds i true) a' w') a w
theorem Bj : ∀(fuel:Nat) (listed:Array Bool) (a:Act) (w:World),yP P ops Q S fuel listed a w->wpAny P .any ops Q fuel listed a w
 | 0,_,_,_,h=>h
 | fuel+1,_,_,_,h=>⟨h.1,fun i hi=>wpOp_mono (fun a' w' h'=>Bj fuel _ a' w' h'.2) (h.2 i hi)⟩
theorem sD {S':World->Prop}(h : ∀u,S' u->S u) : ∀(fuel:Nat) (listed:Array Bool) (a:Act) (w:World),yP P ops Q S' fuel listed a w->yP P ops Q S fuel listed a w
 | 0,_,_,_,hh=>hh
 | fuel+1,_,_,_,hh=>⟨hh.1,fun i hi=>wpOp_mono (fun a' w' h'=>⟨h'.1.imp id (h w'),sD h fuel _ a' w' h'.2⟩) (hh.2 i hi)⟩
theorem LV {i:Nat}{oi:Oper}{v:Value}(hi:ops[i]? = some oi)(hsel : ∀(j:Nat) (o:Oper) cs b,ops[j]? = some o->o.op≠ .select cs b)
  (hQ : ∀c a w,Q (.panic c) (a.put oi.dst v) w->Q (.panic c) a w) :
  ∀(fuel:Nat) (listed:Array Bool) (a:Act) (w:World),
   (∀j oj,ops[j]? = some oj->j≠i->listed.getD j true=false->(∀e∈oj.after,Region.binds .any e=true->e.on≠i)->oi.apart ops oj=true)->
   Down ops listed->i∈Region.ready .any ops listed->YieldsIf P ops S oi v a->S w->
   yP P ops Q S fuel (listed.setIfInBounds i true) (a.put oi.dst v) w->yP P ops Q S (fuel+1) listed a w:=by
 intro fuel
 induction fuel with
 | zero=>
  intro listed a w _ _ hr hy hS H
  refine⟨fun h=>(by rw [h]at hr;cases hr),fun j hj=> ?_⟩
  by_cases hji:j=i
  ·subst hji;exact hy.wpOp hi hS ⟨.inr hS,H⟩
  ·have:=ready_mono hj hji
   rw [H.1]at this
   cases this
 | succ fuel ih=>
  intro listed a w hfree hdown hr hy hS H
  refine⟨fun h=>(by rw [h]at hr;cases hr),fun j hj=> ?_⟩
  by_cases hji:j=i
  ·subst hji;exact hy.wpOp hi hS ⟨.inr hS,H⟩
  ·have h1:=H.2 j (ready_mono hj hji)
   obtain⟨hjun,oj,hoj,hall⟩:=mem_ready.1 hj
   have hnot : ∀e∈oj.after,Region.binds .any e=true->e.on≠i:=fun e he hb heq=>by
    have h1:=hall e he hb
    have h0:=(mem_ready.1 hr).1
    rw [heq]at h1
    rcases dP i listed.size with h'|h'
    ·simp [h']at h0 h1;rw [h0]at h1;cases h1
    ·simp [gK h']at h1
   have h2:=wpOp_putIf hoj (hfree j oj hoj hji hjun hnot) (fun cs b=>hsel i oi cs b hi) (fun cs b=>hsel j oj cs b hoj) hQ hy h1
   have hfree' : ∀k ok,ops[k]? = some ok->k≠i->(listed.setIfInBounds j true).getD k true=false->
     (∀e∈ok.after,Region.binds .any e=true->e.on≠i)->oi.apart ops ok=true:=fun k ok hk hki hun hno=>by
    refine hfree k ok hk hki ?_ hno
    by_cases hjk:j=k
    ·subst hjk;exact hjun
    ·rw [getD_set_ne true hjk]at hun;exact hun
   have hri:i∈Region.ready .any ops (listed.setIfInBounds j true):=ready_mono hr (lF hji)
   have hilt:i<ops.size:=(dw.1 hi).1
   have hns:sinkAt ops j=true->False:=fun hsk=>by
    have h1:=hdown.anc hj (Ro hsk hilt (lF hji))
    have h0:=(mem_ready.1 hr).1
    rcases dP i listed.size with h'|h'
    ·simp [h']at h0 h1;rw [h0]at h1;cases h1
    ·simp [gK h']at h1
   refine wpOp_mono (fun a' w' h3=> ?_) h2
   have hSw:S w':=h3.2.1.resolve_left hns
   refine⟨.inr hSw,ih (listed.setIfInBounds j true) a' w' hfree' (hdown.set hj) hri h3.1 hSw ?_⟩
   rw [kK _ _ hji]
   exact h3.2.2
end
theorem Xu {P:Program}{o:Oper}{ρ:mW}{w:World}{K:Value->World->Prop}(hp:BQ o=true)(h:JU P true o ρ w K) :
  ∃v,(∀w',(execOp (qE ρ) o).run P w' = .ok (.value v) w')∧K v w:=by
 unfold JU at h
 unfold BQ at hp
 cases ho:o.op<;>simp only [ho]at h hp<;>try cases hp
 case move x=>rw [force_eq]at h;exact⟨_,fun w'=>by unfold execOp;simp [ho],h⟩
 case assign x=>rw [force_eq]at h;exact⟨_,fun w'=>by unfold execOp;simp [ho],h⟩
 case makeFunc fn first captured=>
  simp only [xG,ou]at h
  exact⟨_,fun w'=>by unfold execOp;simp [ho,Instr.makeFunc,BU],h⟩
 case nilCheck x=>
  split at h
  ·rename_i p hp'
   exact⟨_,fun w'=>by unfold execOp;simp only [ho,hp'];rfl,h⟩
  ·cases h
 case extract t i=>
  split at h
  ·rename_i vs hv
   split at h
   ·rename_i v hi
    have hi':vs[i]? = some v:=by rw [<-hi];simp
    exact⟨_,fun w'=>by unfold execOp;simp only [ho,hv];exact uF (by simp [Instr.extract,hi']),h⟩
   ·cases h
  ·cases h
section
variable {P:Program}{N:Nat}{ds:List Deferred}{W:Nat->Bool}{ops:Array Oper}{K:mW->World->Prop}{lW:mW}{E8:Bool}
def RQ (N:Nat)(ds:List Deferred)(W:Nat->Bool)(lW:mW)(K:mW->World->Prop):Exit->Act->World->Prop
 | .normal,a,w=> ∃ρ',Fits N ds ρ' a∧Same W lW ρ'∧K ρ' w
 | _,_,_=>False
theorem yQ {Q:Exit->Act->World->Prop}{i:Nat}{o:Oper}{ρ:mW}{a:Act}{w:World}{G:Act->World->Prop}{air:mW->Value->World->Prop}{sS:mW->Prop}
  (hi:ops[i]? = some o) (hf:Fits N ds ρ a) (h:vP P false ops.toList o ρ w air sS)
  (h1 : ∀v w',air ρ v w'->G (a.put o.dst v) w') (h0:sS ρ->G (a.put o.dst undef) w):wpOp P ops Q i G a w:=by
 unfold Go.wpOp
 simp only [hi]
 rcases yO hf h with ⟨hw,hv⟩|⟨hw,hv⟩
 ·simp only [hw,if_true]
  exact .inl ((tK hv).wp hf.eval fun v w' hk=>h1 v w' hk)
 ·simp only [hw,bf,if_false]
  exact h0 hv
theorem OJ (hsel:Region.noSelect ops=true)(hok : ∀o∈ops.toList,rG N W o=true)(lY:World) :
  ∀(p:Plan) (S:World->Prop) (_:E8=true->∀w',S w'->w'=lY) (listed:Array Bool) (ρ:mW) (a:Act) (w:World),pF ops p listed=true->Down ops listed->Fits N ds ρ a->Same W lW ρ->S w->
   vD P ops.toList E8 p S ρ w K->∀fuel,p.depth<=fuel->yP P ops (RQ N ds W lW K) S fuel listed a w:=by
 have mem : ∀ {i:Nat} {o:Oper},ops.toList[i]? = some o->ops[i]? = some o∧rG N W o=true:=fun {i o} h=>
  ⟨by rw [<-bn];exact h,hok o (aZ h)⟩
 have fin : ∀ {S:World->Prop} {listed:Array Bool} {ρ:mW} {a:Act} {w:World},Region.ready .any ops listed = []->Fits N ds ρ a->Same W lW ρ->K ρ w->
   ∀fuel,yP P ops (RQ N ds W lW K) S fuel listed a w:=by
  intro S listed ρ a w hr hf hs h fuel
  cases fuel with
  | zero=>exact⟨hr,ρ,hf,hs,h⟩
  | succ n=>exact⟨fun _=>⟨ρ,hf,hs,h⟩,by rw [hr];simp⟩
 intro p
 induction p with
 | done=>
  intro S hS listed ρ a w hp hdn hf hs _ h fuel _
  exact fin (by simpa [pF]using hp) hf hs h fuel
 | take i p ih=>
  intro S hS listed ρ a w hp hdn hf hs hSw h fuel hfu
  simp only [pF,aB]at hp
  obtain⟨⟨⟨hq,hr⟩,hfree⟩,hp'⟩:=hp
  simp only [vD]at h
  split at h
  ·rename_i o Eb
   obtain⟨hi,ho⟩:=mem Eb
   simp only [hi]at hq
   cases fuel with
   | zero=>simp [Plan.depth]at hfu
   | succ fuel=>
    have Ec:p.depth<=fuel:=by simp only [Plan.depth]at hfu;omega
    have go : ∀v,YieldsIf P ops S o v a->vD P ops.toList E8 p S (oU ρ o.dst v) w K->yP P ops (RQ N ds W lW K) S (fuel+1) listed a w:=fun v hy hv=>
     LV hi (Region.noSelect_spec hsel) (fun c a w hq=>hq) fuel listed a w (Region.free_spec hi hfree) hdn (by simpa using hr) hy hSw
      (ih S hS _ _ _ _ hp' (hdn.set (by simpa using hr)) (hf.put o.dst v (oK ho)) (hs.oU ho) hSw hv fuel Ec)
    rcases yO hf h with ⟨hw,hv⟩|⟨hw,hv⟩
    ·obtain⟨v,hrun,hk⟩:=(tK hv).quiet hq
     cases hc:(E8||BQ o)with
     | true=>
      rw [hc]at hk
      refine go v (.inl ⟨hw,fun w' hw'=> ?_⟩) hk
      rw [hf.eval]
      cases he:E8 with
      | true=>
       have e1:=hS he w' hw'
       have e2:=hS he w hSw
       rw [e1, <-e2];exact hrun
      | false=>
       rw [he,jE]at hc
       obtain⟨u,hu,_⟩:=Xu hc hv
       have:u=v:=by have:=hu w;rw [hrun]at this;injection this with h1 h2;injection h1 with h1;exact h1.symm
       subst this
       exact hu w'
     | false=>
      rw [hc]at hk
      refine go v (.inl ⟨hw,fun w' hw'=> ?_⟩) hk.go
      rw [hf.eval]
      obtain⟨u,hu,he⟩:=(tK (hk.req w' hw')).quiet hq
      rw [hu,he]
    ·exact go undef (.inr ⟨hw,rfl⟩) hv
  ·cases h
 | one i p ih=>
  intro S hS listed ρ a w hp hdn hf hs hSw h fuel hfu
  simp only [pF,aB,beq_iff_eq]at hp
  obtain⟨hr,hp'⟩:=hp
  simp only [vD]at h
  split at h
  ·rename_i o Eb
   obtain⟨hi,ho⟩:=mem Eb
   cases fuel with
   | zero=>simp [Plan.depth]at hfu
   | succ fuel=>
    have Ec:p.depth<=fuel:=by simp only [Plan.depth]at hfu;omega
    refine⟨fun e=>(by rw [hr]at e;cases e),fun j hj=> ?_⟩
    rw [hr]at hj
    simp only [bF]at hj
    subst hj
    have yA:=hdn.set (i:=j) (by rw [hr];simp)
    exact yQ hi hf h (fun v w' hk=>by
      obtain⟨S',h1,h2,h3⟩:=hk.ex
      exact⟨.inr (h1 _ h2),sD h1 _ _ _ _ (ih S' (fun he u hu=>hS he u (h1 u hu)) _ _ _ _ hp' yA (hf.put o.dst v (oK ho)) (hs.oU ho) h2 h3 fuel Ec)⟩)
     (fun hk=>⟨.inr hSw,ih S hS _ _ _ _ hp' yA (hf.put o.dst undef (oK ho)) (hs.oU ho) hSw hk fuel Ec⟩)
  ·cases h
 | two i p j r ihp ihr=>
  intro S hS listed ρ a w hp hdn hf hs hSw h fuel hfu
  simp only [pF,aB,beq_iff_eq]at hp
  obtain⟨⟨hr,hp'⟩,hr'⟩:=hp
  simp only [vD]at h
  split at h
  ·rename_i o o' Eb hjo
   obtain⟨hi,ho⟩:=mem Eb
   obtain⟨hj,ho'⟩:=mem hjo
   obtain⟨ha,hb⟩:=h
   cases fuel with
   | zero=>simp [Plan.depth]at hfu
   | succ fuel=>
    have LW:p.depth<=fuel:=by simp only [Plan.depth]at hfu;omega
    have hfu2:r.depth<=fuel:=by simp only [Plan.depth]at hfu;omega
    refine⟨fun e=>(by rw [hr]at e;cases e),fun k hk=> ?_⟩
    rw [hr]at hk
    simp only [bD,jA,or_false]at hk
    rcases hk with rfl|rfl
    ·have yA:=hdn.set (i:=k) (by rw [hr];simp)
     exact yQ hi hf ha (fun v w' hk=>by
       obtain⟨S',h1,h2,h3⟩:=hk.ex
       exact⟨.inr (h1 _ h2),sD h1 _ _ _ _ (ihp S' (fun he u hu=>hS he u (h1 u hu)) _ _ _ _ hp' yA (hf.put o.dst v (oK ho)) (hs.oU ho) h2 h3 fuel LW)⟩)
      (fun hk=>⟨.inr hSw,ihp S hS _ _ _ _ hp' yA (hf.put o.dst undef (oK ho)) (hs.oU ho) hSw hk fuel LW⟩)
    ·have yA:=hdn.set (i:=k) (by rw [hr];simp)
     exact yQ hj hf hb (fun v w' hk=>by
       obtain⟨S',h1,h2,h3⟩:=hk.ex
       exact⟨.inr (h1 _ h2),sD h1 _ _ _ _ (ihr S' (fun he u hu=>hS he u (h1 u hu)) _ _ _ _ hr' yA (hf.put o'.dst v (oK ho')) (hs.oU ho') h2 h3 fuel hfu2)⟩)
      (fun hk=>⟨.inr hSw,ihr S hS _ _ _ _ hr' yA (hf.put o'.dst undef (oK ho')) (hs.oU ho') hSw hk fuel hfu2⟩)
  ·cases h
 | three i p j r k q ihp ihr ihq=>
  intro S hS listed ρ a w hp hdn hf hs hSw h fuel hfu
  simp only [pF,aB,beq_iff_eq]at hp
  obtain⟨⟨⟨hr,hp'⟩,hr'⟩,hq'⟩:=hp
  simp only [vD]at h
  split at h
  ·rename_i o o' o'' Eb hjo hko
   obtain⟨hi,ho⟩:=mem Eb
   obtain⟨hj,ho'⟩:=mem hjo
   obtain⟨hk3,aaS⟩:=mem hko
   obtain⟨ha,hb,hc⟩:=h
   cases fuel with
   | zero=>simp [Plan.depth]at hfu
   | succ fuel=>
    have LW:p.depth<=fuel:=by simp only [Plan.depth]at hfu;omega
    have hfu2:r.depth<=fuel:=by simp only [Plan.depth]at hfu;omega
    have aaT:q.depth<=fuel:=by simp only [Plan.depth]at hfu;omega
    refine⟨fun e=>(by rw [hr]at e;cases e),fun k hk=> ?_⟩
    rw [hr]at hk
    simp only [bD,jA,or_false]at hk
    rcases hk with rfl|rfl|rfl
    ·have yA:=hdn.set (i:=k) (by rw [hr];simp)
     exact yQ hi hf ha (fun v w' hk=>by
       obtain⟨S',h1,h2,h3⟩:=hk.ex
       exact⟨.inr (h1 _ h2),sD h1 _ _ _ _ (ihp S' (fun he u hu=>hS he u (h1 u hu)) _ _ _ _ hp' yA (hf.put o.dst v (oK ho)) (hs.oU ho) h2 h3 fuel LW)⟩)
      (fun hk=>⟨.inr hSw,ihp S hS _ _ _ _ hp' yA (hf.put o.dst undef (oK ho)) (hs.oU ho) hSw hk fuel LW⟩)
    ·have yA:=hdn.set (i:=k) (by rw [hr];simp)
     exact yQ hj hf hb (fun v w' hk=>by
       obtain⟨S',h1,h2,h3⟩:=hk.ex
       exact⟨.inr (h1 _ h2),sD h1 _ _ _ _ (ihr S' (fun he u hu=>hS he u (h1 u hu)) _ _ _ _ hr' yA (hf.put o'.dst v (oK ho')) (hs.oU ho') h2 h3 fuel hfu2)⟩)
      (fun hk=>⟨.inr hSw,ihr S hS _ _ _ _ hr' yA (hf.put o'.dst undef (oK ho')) (hs.oU ho') hSw hk fuel hfu2⟩)
    ·have yA:=hdn.set (i:=k) (by rw [hr];simp)
     exact yQ hk3 hf hc (fun v w' hk=>by
       obtain⟨S',h1,h2,h3⟩:=hk.ex
       exact⟨.inr (h1 _ h2),sD h1 _ _ _ _ (ihq S' (fun he u hu=>hS he u (h1 u hu)) _ _ _ _ hq' yA (hf.put o''.dst v (oK aaS)) (hs.oU aaS) h2 h3 fuel aaT)⟩)
      (fun hk=>⟨.inr hSw,ihq S hS _ _ _ _ hq' yA (hf.put o''.dst undef (oK aaS)) (hs.oU aaS) hSw hk fuel aaT⟩)
  ·cases h
 | sink i=>
  intro S hS listed ρ a w hp hdn hf hs hSw h fuel hfu
  simp only [pF,aB,beq_iff_eq]at hp
  obtain⟨⟨hr,hsk⟩,he⟩:=hp
  simp only [vD]at h
  split at h
  ·rename_i o Eb
   obtain⟨hi,ho⟩:=mem Eb
   cases fuel with
   | zero=>simp [Plan.depth]at hfu
   | succ fuel=>
    refine⟨fun e=>(by rw [hr]at e;cases e),fun j hj=> ?_⟩
    rw [hr]at hj
    simp only [bF]at hj
    subst hj
    have he':Region.ready .any ops (listed.setIfInBounds j true) = []:=by simpa using he
    exact yQ hi hf h (fun v w' hk=>⟨.inl hsk,fin he' (hf.put o.dst v (oK ho)) (hs.oU ho) hk fuel⟩)
     (fun hk=>⟨.inl hsk,fin he' (hf.put o.dst undef (oK ho)) (hs.oU ho) hk fuel⟩)
  ·cases h
 | post i p ih=>intro S hS listed ρ a w hp hdn hf hs hSw h;exact(show False from h).elim
end
structure AY (P:Program)(id:Nat)(ops:Array Oper)(K:mW->World->Prop)(ρ:mW)(w:World):Prop where
 ex : ∃(p:Plan) (E8:Bool) (S:World->Prop),xW ops p=true∧(E8=true->∀w',S w'->w'=w.drew)∧S w.drew∧vD P ops.toList E8 p S ρ w.drew K
theorem ais {P:Program}{id:Nat}{ops:Array Oper}{K:mW->World->Prop}{ρ:mW}{w:World}(p:Plan)(hp:xW ops p=true)
  (h:vD P ops.toList true p (fun w'=>w'=w.drew) ρ w.drew K):AY P id ops K ρ w:=
 ⟨p,true,_,hp,fun _ _ e=>e,rfl,h⟩
theorem qx {P:Program}{id:Nat}{ops:Array Oper}{K:mW->World->Prop}{ρ:mW}{w:World}(pl:Nat->Plan)(hp:xW ops (pl id)=true)
  (h:vD P ops.toList true (pl id) (fun w'=>w'=w.drew) ρ w.drew K):AY P id ops K ρ w:=ais (pl id) hp h
theorem wS (m j:Nat):(Array.replicate m false).getD j false=false:=by
 rw [iw]
 by_cases h:j<m<;>simp [h]
theorem AY.sound {P:Program}{id:Nat}{N:Nat}{ds:List Deferred}{W:Nat->Bool}{ops:Array Oper}{K:mW->World->Prop}{ρ lW:mW}{a:Act}{w:World}
  (hm:P.follows .mixedOrders=true) (hok : ∀o∈ops.toList,rG N W o=true) (hf:Fits N ds ρ a) (hs:Same W lW ρ) (h:AY P id ops K ρ w) :
  (Code.region id ops true).wp P (RQ N ds W lW K) a w:=by
 obtain⟨p,E8,S,hd,he,hS,hv⟩:=h.ex
 simp only [xW,aB]at hd
 obtain⟨⟨hsel,Ed⟩,hp⟩:=hd
 exact wp_region_any hm (Bj _ _ _ _ (OJ hsel hok w.drew p S he _ ρ a w.drew hp (fun j o _ hl=>by rw [wS]at hl;cases hl) hf hs hS hv ops.size (aP Ed)))
inductive Ex where
 | normal
 | exit (id:Nat)
 | ret
def qF (N:Nat)(W:Nat->Bool):Code->Bool
 | .region _ ops _=>ops.toList.all (rG N W)
 | .seq a b=>qF N W a&&qF N W b
 | .cond _ a b=>qF N W a&&qF N W b
 | .block _ b=>qF N W b
 | .loop b=>qF N W b
 | .skip | .exit _ | .ret=>true
 | _=>false
def aaU (W:Nat->Bool)(o:Oper):Bool:=match o.dst with|some d=>W d|none=>true
def writesIn (W:Nat->Bool):Code->Bool
 | .region _ ops _=>ops.toList.all (aaU W)
 | .seq a b=>writesIn W a&&writesIn W b
 | .cond _ a b=>writesIn W a&&writesIn W b
 | .block _ b=>writesIn W b
 | .loop b=>writesIn W b
 | .skip | .exit _ | .ret | .label _=>true
 | .rangeFunc _ _ _ _=>true
 | .scope b=>writesIn W b
 | _=>false
theorem LY {N:Nat}{W ws:Nat->Bool} : ∀c:Code,qF N W c=true->writesIn ws c=true->qF N (fun k=>W k&&ws k) c=true:=by
 intro c
 induction c with
 | region id ops d=>
  intro h1 h2
  simp only [qF,writesIn,bP]at *
  intro o ho
  have a1:=h1 o ho
  have a2:=h2 o ho
  unfold rG at *
  unfold aaU at a2
  cases hd:o.dst with
  | none=>rfl
  | some d=>simp only [hd,aB]at a1 a2 ⊢;exact⟨a1.1,a1.2,a2⟩
 | seq a b iha ihb=>intro h1 h2;simp only [qF,writesIn,aB]at *;exact⟨iha h1.1 h2.1,ihb h1.2 h2.2⟩
 | cond c a b iha ihb=>intro h1 h2;simp only [qF,writesIn,aB]at *;exact⟨iha h1.1 h2.1,ihb h1.2 h2.2⟩
 | block id b ih=>intro h1 h2;simp only [qF,writesIn]at *;exact ih h1 h2
 | loop b ih=>intro h1 h2;simp only [qF,writesIn]at *;exact ih h1 h2
 | skip=>intro _ _;rfl
 | exit id=>intro _ _;rfl
 | ret=>intro _ _;rfl
 | _=>intro h1 _;simp [qF]at h1
def ait (V:(Ex->mW->World->Prop)->mW->World->Prop)(Q:Ex->mW->World->Prop)(e:Ex)(ρ:mW)(w:World):Prop:=
 match e with
 | .normal=>V Q ρ w
 | .exit id=>Q (.exit id) ρ w
 | .ret=>Q .ret ρ w
def aaV (id:Nat)(Q:Ex->mW->World->Prop)(e:Ex)(ρ:mW)(w:World):Prop:=
 match e with
 | .normal=>Q .normal ρ w
 | .exit j=>Q (bif Nat.beq j id then .normal else .exit j) ρ w
 | .ret=>Q .ret ρ w
def aeM (R:mW->World->Prop)(Q:Ex->mW->World->Prop)(e:Ex)(ρ:mW)(w:World):Prop:=
 match e with
 | .normal=>R ρ w
 | .exit id=>Q (.exit id) ρ w
 | .ret=>Q .ret ρ w
structure rU (p:Prop):Prop where
 holds:p
structure Xv (body:Code)(B:(Ex->mW->World->Prop)->mW->World->Prop)(Q:Ex->mW->World->Prop)(ρ:mW)(w:World):Prop where
 ex : ∃(ws:Nat->Bool) (I:Nat->mW->World->Prop) (n:Nat),writesIn ws body=true∧I n ρ w∧
  ∀n ρ' w',I n ρ' w'->Same ws ρ ρ'->B (aeM (fun qc w''=>rU (∃m,m<n∧I m qc w'')) Q) ρ' w'
def vC (P:Program)(c:Code)(Q:Ex->mW->World->Prop)(ρ:mW)(w:World):Prop:=
 match c with
 | .skip=>Q .normal ρ w
 | .region id ops draw=>(match draw with
  | false=>Xr P ops.toList ops.toList ρ w (Q .normal)
  | true=>AY P id ops (Q .normal) ρ w)
 | .seq a b=>vC P a (ait (vC P b) Q) ρ w
 | .cond c t e=>(match qE ρ c with
  | .bool b=>OE b (vC P t Q ρ w) (vC P e Q ρ w)
  | _=>False)
 | .block id body=>vC P body (aaV id Q) ρ w
 | .loop body=>Xv body (vC P body) Q ρ w
 | .exit id=>Q (.exit id) ρ w
 | .ret=>Q .ret ρ w
 | _=>False
def CQ (N:Nat)(ds:List Deferred)(W:Nat->Bool)(lW:mW)(Q:Ex->mW->World->Prop):Exit->Act->World->Prop
 | .normal,a,w=> ∃ρ',Fits N ds ρ' a∧Same W lW ρ'∧Q .normal ρ' w
 | .exit id,a,w=> ∃ρ',Fits N ds ρ' a∧Same W lW ρ'∧Q (.exit id) ρ' w
 | .ret,a,w=> ∃ρ',Fits N ds ρ' a∧Same W lW ρ'∧Q .ret ρ' w
 | _,_,_=>False
theorem Hy {P:Program}{c:Code}{Q:Exit->Act->World->Prop}{a:Act}{w:World}(I:Nat->Act->World->Prop)(n:Nat)(Oy:I n a w)
  (round : ∀n a w,I n a w->c.wp P (Exit.then (fun a' w'=> ∃m,m<n∧I m a' w') Q) a w):(Code.loop c).wp P Q a w:=by
 intro b k cs
 have key : ∀n a w,I n a w->∃e a' w',Q e a' w'∧Arrives P (lone (b.at a (.code c:: .inLoop c::k)) cs w) b k cs e a' w':=by
  intro n
  induction n using Nat.strongRecOn with
  | _ n ih=>
   intro a w hI
   obtain⟨e,BO,zx,hq,harr⟩:=round n a w hI b (.inLoop c::k) cs
   cases e with
   | normal=>
    obtain⟨m,hlt,hI₁⟩:=hq
    obtain⟨aib,aic,F5,hq₂,harr₂⟩:=ih m hlt BO zx hI₁
    exact⟨aib,aic,F5,hq₂, .of_steps (Steps.trans harr (.one step_inLoop)) harr₂⟩
   | exit id=>exact⟨_,BO,zx,hq, .pass (x:= .inLoop c) rfl (fun _ _=> .inl (by simp)) harr⟩
   | goto l=>exact⟨_,BO,zx,hq, .pass (x:= .inLoop c) rfl (fun _ _=> .inl (by simp)) harr⟩
   | ret=>exact⟨_,BO,zx,hq, .pass (x:= .inLoop c) rfl (fun _ _=> .inl (by simp)) harr⟩
   | panic ch=>exact⟨_,BO,zx,hq, .pass (x:= .inLoop c) rfl (fun _ _=> .inl (by simp)) harr⟩
   | outgrown=>exact⟨_,BO,zx,hq, .pass (x:= .inLoop c) rfl (fun _ _=> .inl (by simp)) harr⟩
 obtain⟨e,a',w',hq,harr⟩:=key n a w Oy
 exact⟨e,a',w',hq, .of_steps (.one step_loop) harr⟩
theorem Same.trans {W:Nat->Bool}{a b c:mW}(h:Same W a b)(k:Same W b c):Same W a c:=fun n hn=>(k n hn).trans (h n hn)
theorem Same.refl (W:Nat->Bool)(a:mW):Same W a a:=fun _ _=>rfl
theorem Xw {P:Program}(hm:P.follows .mixedOrders=true){N:Nat}{ds:List Deferred} : ∀(c:Code) (W:Nat->Bool) (Q:Ex->mW->World->Prop) (ρ lW:mW) (a:Act) (w:World),
  qF N W c=true->Fits N ds ρ a->Same W lW ρ->vC P c Q ρ w->c.wp P (CQ N ds W lW Q) a w:=by
 intro c
 induction c with
 | skip=>intro W Q ρ lW a w _ hf hs h;exact wp_skip ⟨ρ,hf,hs,h⟩
 | region id ops draw=>
  intro W Q ρ lW a w hc hf hs h
  have hok : ∀o∈ops.toList,rG N W o=true:=by simpa only [qF,bP]using hc
  have mono : ∀e a w,RQ N ds W lW (Q .normal) e a w->CQ N ds W lW Q e a w:=fun e a w hq=>by cases e<;>first|exact hq|exact hq.elim
  cases draw with
  | false=>
   refine Go.wp_mono (wp_region ?_) mono
   have hlen:ops.toList.length=ops.size:=by simp
   rw [jr, <-hlen]
   exact Rk (K:=Q .normal) (Q:=RQ N ds W lW (Q .normal)) (fun ρ' a' w' hf' hs' hk=>⟨ρ',hf',hs',hk⟩) ops.toList 0 ρ a w (fun j=>by rw [aV]) hok hf hs h
  | true=>exact Go.wp_mono (AY.sound hm hok hf hs h) mono
 | seq x y ihx ihy=>
  intro W Q ρ lW a w hc hf hs h
  simp only [qF,aB]at hc
  refine wp_seq (Go.wp_mono (ihx W _ ρ lW a w hc.1 hf hs h) fun e a' w' hq=> ?_)
  cases e with
  | normal=>
   obtain⟨ρ',hf',hs',hv⟩:=hq
   exact ihy W Q ρ' lW a' w' hc.2 hf' hs' hv
  | exit id=>exact hq
  | ret=>exact hq
  | goto l=>exact hq
  | panic ch=>exact hq
  | outgrown=>exact hq
 | cond c x y ihx ihy=>
  intro W Q ρ lW a w hc hf hs h
  simp only [qF,aB]at hc
  simp only [vC]at h
  split at h
  ·rename_i b hb
   refine wp_cond (t:=b) (by rw [hf.eval];exact hb) ?_
   cases b with
   | true=>exact ihx W Q ρ lW a w hc.1 hf hs h
   | false=>exact ihy W Q ρ lW a w hc.2 hf hs h
  ·cases h
 | block id b ih=>
  intro W Q ρ lW a w hc hf hs h
  refine wp_block (Go.wp_mono (ih W _ ρ lW a w hc hf hs h) fun e a' w' hq=> ?_)
  cases e with
  | normal=>exact hq
  | exit j=>
   obtain⟨ρ',hf',hs',hv⟩:=hq
   simp only [aaV]at hv
   simp only [Exit.inBlock]
   by_cases hj:j=id
   ·subst hj
    rw [iT,cond_true]at hv
    simp only [if_true]
    exact⟨ρ',hf',hs',hv⟩
   ·have hb:Nat.beq j id=false:=by
     cases hb:Nat.beq j id with
     | false=>rfl
     | true=>exact absurd (aF hb) hj
    rw [hb,cond_false]at hv
    rw [if_neg hj]
    exact⟨ρ',hf',hs',hv⟩
  | ret=>exact hq
  | goto l=>exact hq
  | panic ch=>exact hq
  | outgrown=>exact hq
 | loop b ih=>
  intro W Q ρ lW a w hc hf hs h
  obtain⟨ws,I,n,hw,Oy,hr⟩:=h.ex
  have hc':=LY b hc hw
  refine Hy (fun n a' w'=> ∃ρ',I n ρ' w'∧Fits N ds ρ' a'∧Same (fun k=>W k&&ws k) ρ ρ') n ⟨ρ,Oy,hf,Same.refl _ _⟩ fun n a' w' ⟨ρ',hI,hf',hs'⟩=> ?_
  have hsw:Same ws ρ ρ':=fun k hk=>hs' k (by simp [hk])
  refine Go.wp_mono (ih (fun k=>W k&&ws k) _ ρ' ρ a' w' hc' hf' hs' (hr n ρ' w' hI hsw)) fun e a'' w'' hq=> ?_
  have up : ∀ {qc},Same (fun k=>W k&&ws k) ρ qc->Same W lW qc:=fun h'=>hs.trans fun k hk=>h' k (by simp [hk])
  cases e with
  | normal=>
   obtain⟨qc,wU,wV,⟨m,hlt,hI'⟩⟩:=hq
   exact⟨m,hlt,qc,hI',wU,wV⟩
  | exit id=>obtain⟨qc,wU,wV,hv⟩:=hq;exact⟨qc,wU,up wV,hv⟩
  | ret=>obtain⟨qc,wU,wV,hv⟩:=hq;exact⟨qc,wU,up wV,hv⟩
  | goto l=>exact hq
  | panic ch=>exact hq
  | outgrown=>exact hq
 | exit id=>intro W Q ρ lW a w _ hf hs h;exact Go.wp_exit ⟨ρ,hf,hs,h⟩
 | ret=>intro W Q ρ lW a w _ hf hs h;exact Go.wp_ret ⟨ρ,hf,hs,h⟩
 | _=>intro W Q ρ lW a w hc;simp [qF]at hc
structure rX (p:Prop):Prop where
 holds:p
def Hz (P:Program)(rs:List ResultVar)(ρ:mW)(w:World)(k:List Value->Prop):Prop:=
 match rs with
 | []=>k []
 | .tmp t::r=>force (ρ t) fun v=>Hz P r ρ w fun vs=>k (v::vs)
 | .cell a t::r=>(match ρ a with
  | .pointer (some a)=>nZ P (loadVar t a) w (wr true w fun v _=>Hz P r ρ w fun vs=>k (v::vs))
  | _=>False)
def nN (vs:List Value):Value:=match vs with | [v]=>v|vs=> .tuple vs.toArray
def fin (P:Program)(fn:Func)(R:Value->World->Prop)(e:Ex)(ρ:mW)(w:World):Prop:=
 match e with
 | .normal=>Hz P fn.results.toList ρ w fun vs=>rX (R (nN vs) w)
 | .ret=>Hz P fn.results.toList ρ w fun vs=>rX (R (nN vs) w)
 | .exit _=>False
def nth (l:List Value)(n:Nat):Value:=
 match l,n with
 | [],_=>undef
 | v::_,0=>v
 | _::r,n+1=>nth r n
def tY (args:Array Value):mW:=fun n=>nth args.toList n
theorem BZ (l:List Value) : ∀n,nth l n=l.getD n undef:=by
 induction l with
 | nil=>intro n;simp [nth]
 | cons v r ih=>intro n;cases n with
  | zero=>simp [nth]
  | succ n=>simp [nth,ih]
def KD (tmps:Array Value)(r:ResultVar):Sem Value:=
 match r with
 | .tmp t=>pure (tmps.getD t undef)
 | .cell a t=>do loadVar t (<-asAddr (tmps.getD a undef))
theorem yR (fn:Func)(tmps:Array Value):results fn tmps=(do
  let vs <-fn.results.mapM (KD tmps)
  pure (if h:vs.size=1 then vs[0]else .tuple vs)):=by
 unfold results
 rfl
theorem HY {P:Program}{w:World}{ρ:mW}{tmps:Array Value}(hg : ∀t,tmps.getD t undef=ρ t) : ∀(rs:List ResultVar) (k:List Value->Prop),
  Hz P rs ρ w k->∃vs,(rs.mapM (KD tmps)).run P w = .ok vs w∧k vs:=by
 intro rs
 induction rs with
 | nil=>intro k h;exact⟨[],by simp,h⟩
 | cons r rs ih=>
  intro k h
  cases r with
  | tmp t=>
   simp only [Hz,force_eq]at h
   obtain⟨vs,hr,hk⟩:=ih _ h
   refine⟨_, ?_,hk⟩
   have h1:(KD tmps (.tmp t)).run P w = .ok (ρ t) w:=by simp only [KD,hg];rfl
   rw [List.mapM_cons,Sem.run_bind,h1]
   simp only [Result.andThen_ok,Sem.run_bind,hr,Sem.run_pure]
  | cell a t=>
   simp only [Hz]at h
   split at h
   ·rename_i p hp
    obtain⟨v,hv,hk⟩:=h.same
    obtain⟨vs,hr,hk⟩:=ih _ hk
    refine⟨_, ?_,hk⟩
    have h1:(KD tmps (.cell a t)).run P w = .ok v w:=by
     simp only [KD,hg,hp,Sem.run_bind]
     have h2:(asAddr (Value.pointer (some p))).run P w = .ok p w:=rfl
     rw [h2,Result.andThen_ok,hv]
    rw [List.mapM_cons,Sem.run_bind,h1]
    simp only [Result.andThen_ok,Sem.run_bind,hr,Sem.run_pure]
   ·cases h
theorem OL {P:Program}{f:FuncId}{fn:Func}{c:Code}{args:Array Value}{w:World}{R:Value->World->Prop}
  (hf:P.funcs[f]? = some fn) (hb:fn.body=some c) (hm:P.follows .mixedOrders=true) (hN:args.size<=fn.ntmps) (hok:qF fn.ntmps (fun _=>true) c=true)
  (h:vC P c (fin P fn R) (tY args) w):Calls P f args w fun e w'=> ∃v,e = .returned v∧R v w':=by
 refine calls_of_wp hf hb ?_
 have hfit:Fits fn.ntmps [] (tY args) {tmps:=args++Array.replicate (fn.ntmps-args.size) undef,defers:= []}:=by
  refine⟨by simp;omega,fun t=> ?_,rfl⟩
  simp only [tY,BZ]
  rw [iw,ay,jk]
  by_cases ht:t<args.size
  ·simp [ht]
  ·simp only [ht,if_false,bn]
   rw [gK (kN ht)]
   by_cases h2:t-args.size<fn.ntmps-args.size
   ·simp [h2]
   ·simp [h2]
 refine Go.wp_mono (Xw hm c (fun _=>true) _ _ _ _ w hok hfit (Same.refl _ _) h) fun e a' w' hq=> ?_
 have res : ∀ {ρ':mW},Fits fn.ntmps [] ρ' a'->(Hz P fn.results.toList ρ' w' fun vs=>rX (R (nN vs) w'))->
   a'.defers = []∧∃v,(results fn a'.tmps).run P w' = .ok v w'∧∃u,Ending.returned v = .returned u∧R u w':=by
  intro ρ' hf' hv
  obtain⟨vs,hr,hk⟩:=HY hf'.get _ _ hv
  refine⟨hf'.defers,nN vs, ?_,nN vs,rfl,hk.holds⟩
  rw [yR,Sem.run_bind,jC,Sem.run_map]
  rw [hr]
  simp only [Result.andThen_ok,Sem.run_pure]
  congr 1
  match vs with
  | []=>rfl
  | [v]=>rfl
  | v::u::r=>simp [nN]
 cases e with
 | normal=>obtain⟨ρ',hf',_,hv⟩:=hq;exact res hf' hv
 | ret=>obtain⟨ρ',hf',_,hv⟩:=hq;exact res hf' hv
 | exit id=>obtain⟨ρ',hf',_,hv⟩:=hq;exact hv.elim
 | goto l=>exact hq.elim
 | panic ch=>exact hq.elim
 | outgrown=>exact hq.elim
def look (l:List (Nat×Value))(n:Nat):Option Value:=
 match l with
 | []=>none
 | p::r=>bif Nat.beq n p.1 then some p.2 else look r n
def uG (l:List (Nat×Nat))(n:Nat):Bool:=
 match l with
 | []=>false
 | p::r=>bif Nat.ble p.1 n&&Nat.ble n p.2 then true else uG r n
def frm (sl:List (Nat×Value))(ws:List (Nat×Nat))(j ρ:mW):mW:=fun n=>
 match look sl n with
 | some v=>v
 | none=>bif uG ws n then j n else ρ n
def hold (sl:List (Nat×Value))(ρ:mW):Prop:=
 match sl with
 | []=>True
 | p::r=>ρ p.1=p.2∧hold r ρ
theorem VH {sl:List (Nat×Value)}{ρ:mW}{n:Nat}{v:Value}(h:hold sl ρ)(hl:look sl n=some v):ρ n=v:=by
 induction sl with
 | nil=>cases hl
 | cons p r ih=>
  simp only [look]at hl
  cases hb:Nat.beq n p.1 with
  | true=>
   rw [hb,cond_true]at hl
   rw [aF hb]
   injection hl with hl
   rw [<-hl]
   exact h.1
  | false=>rw [hb,cond_false]at hl;exact ih h.2 hl
theorem afA {sl:List (Nat×Value)}{ws:List (Nat×Nat)}{ρ ρ':mW}(h:hold sl ρ')(hs:Same (uG ws) ρ ρ'):ρ'=frm sl ws ρ' ρ:=by
 funext n
 unfold frm
 cases hl:look sl n with
 | some v=>exact VH h hl
 | none=>
  cases hm:uG ws n with
  | true=>rfl
  | false=>exact hs n hm
theorem tq {X:Type}{body:Code}{B:(Ex->mW->World->Prop)->mW->World->Prop}{Q:Ex->mW->World->Prop}{ρ:mW}{w:World}
  (ws:List (Nat×Nat)) (sl:X->List (Nat×Value)) (J:X->World->Prop) (μ:X->Nat) (BP:X)
  (hw:writesIn (uG ws) body=true) (Oy:hold (sl BP) ρ) (hJ:J BP w)
  (hr : ∀x w' j,J x w'->B (aeM (fun qc w''=>rU (∃m,m<μ x∧∃x',μ x'=m∧hold (sl x') qc∧J x' w'')) Q) (frm (sl x) ws j ρ) w') :
  Xv body B Q ρ w:=
 ⟨uG ws,fun n ρ' w'=> ∃x,μ x=n∧hold (sl x) ρ'∧J x w',μ BP,hw,⟨BP,rfl,Oy,hJ⟩,fun n ρ' w' ⟨x,hx,hh,hJ'⟩ hs=>by
  subst hx
  have h1:=hr x w' ρ' hJ'
  rw [<-afA hh hs]at h1
  exact h1⟩
structure Only (b:Nat)(w w':World):Prop where
 os:w'.os=w.os
 tape:w'.tape=w.tape
 output:w'.output=w.output
 size:w'.heap.size=w.heap.size
 block : ∀k,k≠b->w'.heap[k]? = w.heap[k]?
theorem Only.refl (b:Nat)(w:World):Only b w w:=⟨rfl,rfl,rfl,rfl,fun _ _=>rfl⟩
theorem Only.trans {b:Nat}{u v w:World}(h:Only b u v)(k:Only b v w):Only b u w:=
 ⟨k.os.trans h.os,k.tape.trans h.tape,k.output.trans h.output,k.size.trans h.size,fun i hi=>(k.block i hi).trans (h.block i hi)⟩
theorem Only.drew {b:Nat}{u v:World}(h:Only b u v):Only b u v.drew:=⟨h.os,h.tape,h.output,h.size,h.block⟩
theorem Only.Rq {b:Nat}{u v:World}(h:Only b u.drew v):Only b u v:=⟨h.os,h.tape,h.output,h.size,h.block⟩
theorem Only.step {b:Nat}{u v w:World}(k:Only b u.drew v)(h:Only b w u):Only b w v:=h.trans k.Rq
theorem Only.aeN {b:Nat}{u v w:World}(k:Only b u v)(h:Only b w u):Only b w v:=h.trans k
theorem Only.below {b B:Nat}{w w':World}(h:Only b w w')(hB:B<=b):Below B w w':=
 ⟨h.os,h.tape,h.output,jL h.size.symm,fun k hk=>h.block k (by omega)⟩
theorem Below.Rq {B:Nat}{u v:World}(h:Below B u.drew v):Below B u v:=⟨h.os,h.tape,h.output,h.size,h.block⟩
theorem KE {B:Nat}{u v:World}(h:Below B u v):Below B u v.drew:=⟨h.os,h.tape,h.output,h.size,h.block⟩
structure Quiet (w w':World):Prop where
 os:w'.os=w.os
 tape:w'.tape=w.tape
 output:w'.output=w.output
 heap:w'.heap=w.heap
theorem Quiet.refl (w:World):Quiet w w:=⟨rfl,rfl,rfl,rfl⟩
theorem Quiet.trans {a b c:World}(h:Quiet a b)(k:Quiet b c):Quiet a c:=⟨k.os.trans h.os,k.tape.trans h.tape,k.output.trans h.output,k.heap.trans h.heap⟩
theorem Quiet.drew {a b:World}(h:Quiet a b):Quiet a b.drew:=⟨h.os,h.tape,h.output,h.heap⟩
theorem Quiet.below {a b:World}(h:Quiet a b)(B:Nat):Below B a b:=⟨h.os,h.tape,h.output,by rw [h.heap];exact aA _,fun k _=>by rw [h.heap]⟩
theorem Quiet.only {a b:World}(h:Quiet a b)(B:Nat):Only B a b:=⟨h.os,h.tape,h.output,by rw [h.heap],fun k _=>by rw [h.heap]⟩
def tu (w:World)(b:Nat)(l:List Value)(t:TypeId):Prop:=w.heap[b]? = some (.cells l.toArray t (0,0))
theorem tu.lt {w:World}{b:Nat}{l:List Value}{t:TypeId}(h:tu w b l t):b<w.heap.size:=(dw.1 h).1
theorem tu.cell {w:World}{b:Nat}{l:List Value}{t:TypeId}(h:tu w b l t)(o:Nat):w.cell? ⟨b,o,none⟩=l[o]? :=by
 have h':w.heap[b]? = some (.cells l.toArray t (0,0)):=h
 simp [World.cell?,h']
theorem tu.only {w w':World}{b c:Nat}{l:List Value}{t:TypeId}(h:tu w b l t)(ho:Only c w w')(hne:b≠c):tu w' b l t:=(ho.block b hne).trans h
theorem tu.below {w w':World}{b B:Nat}{l:List Value}{t:TypeId}(h:tu w b l t)(hb:Below B w w')(hlt:b<B):tu w' b l t:=(hb.block b hlt).trans h
theorem tu.quiet {w w':World}{b:Nat}{l:List Value}{t:TypeId}(h:tu w b l t)(hq:Quiet w w'):tu w' b l t:=by
 unfold tu at *;rw [hq.heap];exact h
theorem tu.new (w:World)(cs:Array Value)(t:TypeId):tu (w.alloc (.cells cs t)) w.heap.size cs.toList t:=by
 unfold tu
 rw [heap_alloc_new w]
theorem tu.alloc {w:World}{b:Nat}{l:List Value}{t:TypeId}(h:tu w b l t)(o:Obj):tu (w.alloc o) b l t:=
 (heap_alloc_old w o b h.lt).trans h
def zC (P:Program)(f:FuncId)(args:Array Value)(w:World)(R:Value->World->Prop):Prop:=Calls P f args w fun e w'=> ∃v,e = .returned v∧R v w'
theorem zC.mono {P:Program}{f:FuncId}{args:Array Value}{w:World}{R R':Value->World->Prop}(h:zC P f args w R)(k : ∀v w',R v w'->R' v w'):zC P f args w R':=
 Calls.mono h fun _ _ ⟨v,he,hr⟩=>⟨v,he,k _ _ hr⟩
theorem oz {P:Program}{f:FuncId}{fn:Func}{c:Code}{args:Array Value}{w:World}{R:Value->World->Prop}
  (hf:P.funcs[f]? = some fn) (hb:fn.body=some c) (hm:P.follows .mixedOrders=true) (hok:(Nat.ble args.size fn.ntmps&&qF fn.ntmps (fun _=>true) c)=true)
  (h:vC P c (fin P fn R) (tY args) w):zC P f args w R:=by
 simp only [aB]at hok
 exact OL hf hb hm (aP hok.1) hok.2 h
theorem pY {P:Program}{f:FuncId}{args:Array Value}{w:World}{K:Value->World->Prop}{R:Value->World->Prop}(hc:callable P f=true)(h:zC P f args w R)
  (k : ∀v w',R v w'->K v w'):Xk P f args w K:=⟨hc,h.mono k⟩
theorem qI {k:IntKind}{a b:Int}(h:a=b):Value.int k a=Value.int k b:=by rw [h]
theorem incr {i:Nat}(h:i<9223372036854775807):IntKind.i64.wrap ((i:Int)+1)=((i+1:Nat):Int):=by
 rw [IntWalk.i64_in _ (by omega)]
 rfl
def szB (P:Program)(t:TypeId):Option Nat:=(P.info? t).map (·.size)
theorem qJ {P:Program}{t:TypeId}{n:Nat}(h:szB P t=some n) : ∃i,P.info? t=some i∧i.size=n:=by
 unfold szB at h
 cases hi:P.info? t with
 | none=>simp [hi]at h
 | some i=>simp only [hi,bU,aN]at h;exact⟨i,rfl,h⟩
theorem qK {P:Program}{t:TypeId}{n:Nat}{w:World}(h:szB P t=some n):(sizeOf t).run P w = .ok n w:=by
 obtain⟨i,hi,rfl⟩:=qJ h
 simp [sizeOf,tJ hi]
theorem pI {P:Program}{s:Sem Value}{w w':World}{v:Value}{K:Value->World->Prop}(h:s.run P w = .ok v w')(k:K v w'):nZ P s w K:=⟨v,w',h,k⟩
theorem add0 (b o n:Nat):(⟨b,o,none⟩:Addr).add n=⟨b,o+n,none⟩:=by unfold Addr.add;split<;>simp_all
section
variable {P:Program}{w:World}{K:Value->World->Prop}
theorem oV {t:TypeId}{a:Addr}{v:Value}(ha:zl P t=some false)(h:w.cell? a=some v)(k:K v w):nZ P (loadVar t a) w K:=by
 refine pI ?_ k
 unfold loadVar
 rw [Sem.run_bind,sQ ha]
 simp [h]
theorem nK {t T:TypeId}{b o:Nat}{l:List Value}{v:Value}(ha:zl P t=some false)(hb:tu w b l T)(hv:l[o]? = some v)(k:K v w):nZ P (loadVar t ⟨b,o,none⟩) w K:=
 oV ha (by rw [hb.cell];exact hv) k
theorem run_loadCellsFrom (a:Addr) : ∀(l:List Value) (i:Nat) (acc:Array Value),(∀j v,l[j]? = some v->w.cell? (a.add (i+j))=some v)->
  (loadCellsFrom a i l.length acc).run P w = .ok (acc++l.toArray) w:=by
 intro l
 induction l with
 | nil=>intro i acc _;simp [loadCellsFrom]
 | cons v r ih=>
  intro i acc h
  have h0:=h 0 v rfl
  simp only [dS]at h0
  simp only [bC,loadCellsFrom,Sem.run_bind,run_load,h0,Result.andThen_ok]
  rw [ih (i+1) _ (fun j u hj=>by have:=h (j+1) u (by simpa using hj);rw [show i+1+j=i+(j+1) by omega];exact this)]
  simp
theorem OM {t:TypeId}{a:Addr}{l:List Value}(ha:zl P t=some true)(hs:szB P t=some l.length)(h : ∀j v,l[j]? = some v->w.cell? (a.add j)=some v)
  (k:K (.agg l.toArray) w):nZ P (loadVar t a) w K:=by
 refine pI ?_ k
 unfold loadVar
 rw [Sem.run_bind,sQ ha]
 simp only [Result.andThen_ok,if_true,Sem.run_bind,qK hs,loadCells]
 rw [run_loadCellsFrom a l 0 #[] (fun j v hj=>by rw [aV];exact h j v hj)]
 simp
theorem yB {t T:TypeId}{b:Nat}{l:List Value}(ha:zl P t=some true)(hs:szB P t=some l.length)(hb:tu w b l T)
  (k:K (.agg l.toArray) w):nZ P (loadVar t ⟨b,0,none⟩) w K:=
 OM ha hs (fun j v hj=>by rw [add0,hb.cell,aV];exact hj) k
theorem VI {t:TypeId}{a:Addr}{v u:Value}{K:World->Prop}(hs:szB P t=some 1)(hv:v.oneCell'=true)(h:w.cell? a=some u)(hf:w.frozen? a=false)
  (k:K (w.setCell a v)):xE P (storeVar t a v) w K:=by
 have hc:v.cells = #[v]:=by cases v<;>first|rfl|simp [Value.oneCell']at hv
 have ha:a.add 0=a:=by simp [Addr.add]
 refine⟨(),_, ?_,k⟩
 unfold storeVar
 simp only [Sem.run_bind,qK hs,Result.andThen_ok,hc]
 simp [storeCells,ha,run_store P w a v _ hv,h,hf]
theorem LZ {b o:Nat}{l:List Value}{T:TypeId}(hb:tu w b l T)(v:Value):Only b w (w.setCell ⟨b,o,none⟩ v)∧tu (w.setCell ⟨b,o,none⟩ v) b (l.set o v) T:=by
 have hb':w.heap[b]? = some (.cells l.toArray T (0,0)):=hb
 refine⟨⟨rfl,rfl,rfl,by simp,fun k hk=>Below.heap_setCell _ _ _ _ hk⟩, ?_⟩
 unfold tu
 rw [setCell_eq_setRow w b o _ T (0,0) v hb',setRow_heap w b _ _ T (0,0) hb']
 simp
theorem mX {t T:TypeId}{b o:Nat}{l:List Value}{v:Value}{K:World->Prop}(hb:tu w b l T)(hs:szB P t=some 1)(hv:v.oneCell'=true)(hlt:Nat.blt o l.length=true)
  (k : ∀w',Only b w w'->tu w' b (l.set o v) T->K w'):xE P (storeVar t ⟨b,o,none⟩ v) w K:=by
 have hb':w.heap[b]? = some (.cells l.toArray T (0,0)):=hb
 have ho:o<l.length:=aP hlt
 refine VI hs hv (u:=l[o]) (by rw [hb.cell];exact aj ho) (by simp [World.frozen?,hb']) ?_
 exact k _ (LZ hb v).1 (LZ hb v).2
theorem zh {b:Nat}{T:TypeId} : ∀(vs:List Value) (i o:Nat) (l:List Value) (w:World),tu w b l T->o+i+vs.length<=l.length->(∀v∈vs,v.oneCell'=true)->
  ∃w',(storeCells ⟨b,o,none⟩ vs i).run P w = .ok () w'∧Only b w w'∧tu w' b (vO l (o+i) vs) T:=by
 intro vs
 induction vs with
 | nil=>intro i o l w hb _ _;exact⟨w,by simp [storeCells],Only.refl _ _,hb⟩
 | cons v r ih=>
  intro i o l w hb hl h1
  simp only [bC]at hl
  have hb':w.heap[b]? = some (.cells l.toArray T (0,0)):=hb
  have hcell:w.cell? ⟨b,o+i,none⟩=some l[o+i]:=by rw [hb.cell];exact aj (by omega)
  have hfro:w.frozen? ⟨b,o+i,none⟩=false:=by simp [World.frozen?,hb']
  obtain⟨ho1,hb1⟩:=LZ (o:=o+i) hb v
  obtain⟨w',hr,ho,hbw⟩:=ih (i+1) o (l.set (o+i) v) _ hb1 (by simp;omega) (fun u hu=>h1 u (by simp [hu]))
  refine⟨w', ?_,ho1.trans ho, ?_⟩
  ·simp only [storeCells,Sem.run_bind,add0,run_store P w _ v _ (h1 v (by simp)),hcell,hfro]
   simp only [bf,if_false,Result.andThen_ok]
   exact hr
  ·simp only [vO];exact hbw
theorem wJ {t T:TypeId}{b o:Nat}{l vs:List Value}{K:World->Prop}(hb:tu w b l T)(hs:szB P t=some vs.length)(h1:vs.all (·.oneCell')=true)
  (hl:Nat.ble (o+vs.length) l.length=true) (k : ∀w',Only b w w'->tu w' b (vO l o vs) T->K w'):xE P (storeVar t ⟨b,o,none⟩ (.agg vs.toArray)) w K:=by
 obtain⟨w',hr,ho,hbw⟩:=zh (P:=P) vs 0 o l w hb (by have:=aP hl;omega) (bP.1 h1)
 refine⟨(),w', ?_,k w' ho hbw⟩
 unfold storeVar
 simp only [Sem.run_bind,qK hs,Result.andThen_ok,Value.cells]
 simp [hr]
theorem L6 {t e:TypeId}{n sz b o:Nat}{k:IntKind}{ix:Int}(m:Nat)(hu:P.underlying t=some (.array n e))(hs:szB P e=some sz)(hm:ix=m)(h:m<n)
  (hk:K (.pointer (some ⟨b,o+m*sz,none⟩)) w):nZ P (Instr.indexAt t (.pointer (some ⟨b,o,none⟩)) (.int k ix)) w K:=by
 refine pI ?_ hk
 subst hm
 have h1:(0:Int)<=m∧(m:Int)<n:=⟨by omega,by omega⟩
 unfold Instr.indexAt
 simp [asIntOf,mM hu,Instr.sureAddr,h,qK hs,add0]
theorem Cb {t e:TypeId}{n b o:Nat}{k:IntKind}{ix:Int}(m:Nat)(hu:P.underlying t=some (.array n e))(hs:szB P e=some 1)(hm:ix=m)(h:m<n)
  (hk:K (.pointer (some ⟨b,o+m,none⟩)) w):nZ P (Instr.indexAt t (.pointer (some ⟨b,o,none⟩)) (.int k ix)) w K:=
 L6 m hu hs hm h (by rw [fO];exact hk)
theorem nT {t e:TypeId}{n b o:Nat}{k:IntKind}{m:Nat}(hu:P.underlying t=some (.array n e))(hs:szB P e=some 1)(h:Nat.blt m n=true)
  (hk:K (.pointer (some ⟨b,o+m,none⟩)) w):nZ P (Instr.indexAt t (.pointer (some ⟨b,o,none⟩)) (.int k (OfNat.ofNat m))) w K:=
 Cb m hu hs rfl (aP h) hk
theorem OO {t e:TypeId}{sz b o n c:Nat}{k:IntKind}{ix:Int}(m:Nat)(hu:P.underlying t=some (.slice e))(hs:szB P e=some sz)(hm:ix=m)(h:m<n)
  (hk:K (.pointer (some ⟨b,o+m*sz,none⟩)) w):nZ P (Instr.indexAt t (.slice (some ⟨b,o,none⟩) n c) (.int k ix)) w K:=by
 refine pI ?_ hk
 subst hm
 have h1:(0:Int)<=m∧(m:Int)<n:=⟨by omega,by omega⟩
 unfold Instr.indexAt
 simp [asIntOf,mM hu,h,qK hs,add0]
theorem Bl {t e:TypeId}{b o n c:Nat}{k:IntKind}{ix:Int}(m:Nat)(hu:P.underlying t=some (.slice e))(hs:szB P e=some 1)(hm:ix=m)(h:m<n)
  (hk:K (.pointer (some ⟨b,o+m,none⟩)) w):nZ P (Instr.indexAt t (.slice (some ⟨b,o,none⟩) n c) (.int k ix)) w K:=
 OO m hu hs hm h (by rw [fO];exact hk)
end
def Row (w:World)(oa:Option Addr)(vs:List Value):Prop:=
 vs = []∨∃b o,oa=some ⟨b,o,none⟩∧b<w.heap.size∧∀j v,vs[j]? = some v->w.cell? ⟨b,o+j,none⟩=some v
theorem Row.get {w:World}{oa:Option Addr}{vs:List Value}(h:Row w oa vs)(hne:0<vs.length) :
  ∃b o,oa=some ⟨b,o,none⟩∧b<w.heap.size∧∀j v,vs[j]? = some v->w.cell? ⟨b,o+j,none⟩=some v:=
 h.resolve_left fun e=>by simp [e]at hne
theorem Row.below {w w':World}{oa:Option Addr}{vs:List Value}(h:Row w oa vs)(hb:Below w.heap.size w w'):Row w' oa vs:=by
 rcases h with h|⟨b,o,he,hlt,hc⟩
 ·exact .inl h
 ·exact .inr ⟨b,o,he,bg hlt hb.size,fun j v hj=>by rw [hb.cell (p:=⟨b,o+j,none⟩) hlt];exact hc j v hj⟩
theorem Row.nil (w:World)(oa:Option Addr):Row w oa []:= .inl rfl
def oH (l:List UInt8):List Value:=l.map fun x=> .int .u8 x.toNat
theorem wK {l:List UInt8}{j:Nat}(h:j<l.length):(oH l)[j]? = some (.int .u8 l[j].toNat):=by simp [oH,h]
@[simp] theorem bvals_len (l:List UInt8):(oH l).length=l.length:=by simp [oH]
def Own (w:World)(B:Nat)(E:TypeId)(sz:Nat)(oa:Option Addr)(n c:Nat)(xs:List Value):Prop:=w.ownsRow B E sz (.slice oa n c) n xs
theorem Own.len {w:World}{B:Nat}{E:TypeId}{sz:Nat}{oa:Option Addr}{n c:Nat}{xs:List Value}(h:Own w B E sz oa n c xs):xs.length=n*sz:=h.1
theorem Own.nil (w:World)(B:Nat)(E:TypeId)(sz:Nat):Own w B E sz none 0 0 []:=World.ownsRow_nil w B E sz
theorem Own.row {w:World}{B:Nat}{E:TypeId}{sz:Nat}{oa:Option Addr}{n c:Nat}{xs:List Value}(h:Own w B E sz oa n c xs):Row w oa xs:=by
 rcases h.2 with ⟨hv,hn⟩|⟨g,cap,cur,hv,hg,hh,_⟩
 ·subst hn
  exact .inl (aI (by simpa using h.1))
 ·injection hv with h1 h2 h3
  subst h1
  refine .inr ⟨g,0,rfl,(dw.1 hh).1,fun j v hj=> ?_⟩
  have:=World.ownsRow.cells (h:w.ownsRow B E sz (.slice (some ⟨g,0,none⟩) n c) n xs) (g:=g) rfl j v hj
  rw [add0]at this
  exact this
def ownB (oa:Option Addr):Option Nat:=oa.map (·.block)
theorem Cc (oa:Option Addr)(n c:Nat):(Value.slice oa n c).ownBlock=ownB oa:=by cases oa<;>rfl
theorem Own.kept {w w':World}{B:Nat}{E:TypeId}{sz:Nat}{oa:Option Addr}{n c:Nat}{xs:List Value}{row:Option Nat}(h:Own w B E sz oa n c xs)(hg:w.grownBy w' row)
  (hne:ownB oa=none∨ownB oa≠row):Own w' B E sz oa n c xs:=World.ownsRow.kept h hg (by rw [Cc];exact hne)
theorem Own.ge {w:World}{B:Nat}{E:TypeId}{sz:Nat}{oa:Option Addr}{n c:Nat}{xs:List Value}(h:Own w B E sz oa n c xs) : ∀k,ownB oa=some k->B<=k∧k<w.heap.size:=by
 intro k hk
 exact World.ownsRow.lt h k (by rw [Cc];exact hk)
theorem Own.below {w w':World}{B:Nat}{E:TypeId}{sz:Nat}{oa:Option Addr}{n c:Nat}{xs:List Value}(h:Own w B E sz oa n c xs)(hb:Below w.heap.size w w'):Own w' B E sz oa n c xs:=
 Own.kept h (row:=none) ⟨hb.os,hb.tape,hb.output,hb.size,fun k hk _=>hb.block k hk⟩ (by cases h:ownB oa<;>simp)
theorem grown_below {w w':World}{B:Nat}{row:Option Nat}(hg:w.grownBy w' row)(hB:B<=w.heap.size)(hr : ∀k,row=some k->B<=k):Below B w w':=
 (Below.refl B w).grown hg hB hr
theorem Row.alloc1 (w:World)(l:List Value)(t:TypeId):Row (w.alloc (.cells l.toArray t)) (some ⟨w.heap.size,0,none⟩) l:=
 .inr ⟨w.heap.size,0,rfl,by simp,fun j v hj=>by have:=(tu.new w l.toArray t).cell j;rw [aV,this];exact hj⟩
theorem tu.row {w:World}{b:Nat}{l:List Value}{t:TypeId}(h:tu w b l t):Row w (some ⟨b,0,none⟩) l:=
 .inr ⟨b,0,rfl,h.lt,fun j v hj=>by rw [aV,h.cell];exact hj⟩
theorem Ee {P:Program}{w:World}{t T:TypeId}{b o:Nat}{l:List Value}{v:Value}{K:World->Prop}(hb:tu w b l T)(hs:szB P t=some 1)(hv:v.oneCell'=true)(hlt:o<l.length)
  (k : ∀w',Only b w w'->tu w' b (l.set o v) T->K w'):xE P (storeVar t ⟨b,o,none⟩ v) w K:=
 mX hb hs hv (kX hlt) k
theorem Own.alloc {w:World}{B:Nat}{E:TypeId}{sz:Nat}{oa:Option Addr}{n c:Nat}{xs:List Value}(h:Own w B E sz oa n c xs)(o:Obj):Own (w.alloc o) B E sz oa n c xs:=
 h.below ((Below.refl _ _).alloc (aA _) o)
theorem Row.drew {w:World}{oa:Option Addr}{vs:List Value}(h:Row w oa vs):Row w.drew oa vs:=h
theorem Row.alloc {w:World}{oa:Option Addr}{vs:List Value}(h:Row w oa vs)(o:Obj):Row (w.alloc o) oa vs:=h.below ((Below.refl _ _).alloc (aA _) o)
theorem rP {B:Nat}{w w':World}(h:Below B w w')(hB:B<=w.heap.size)(o:Obj):Below B w (w'.alloc o):=h.alloc (dM hB h.size) o
theorem Ue {oa:Option Addr}{n m c:Nat}(h:n=m):Value.slice oa n c=Value.slice oa m c:=by rw [h]
def qG (P:Program)(t:TypeId):Option Nat:=(P.info? t).map (·.bytes)
def xH (P:Program)(t:TypeId):Option (List Value):=(P.info? t).bind fun i=>i.zero.map fun z=>z.cells.toList
section
variable {P:Program}{w:World}{K:Value->World->Prop}
theorem qL {t ty E:TypeId}{sz qY B n c m c2:Nat}{oa Fa:Option Addr}{xs news zs:List Value}
  (ht:P.underlying t=some (.slice E)) (hs:szB P E=some sz) (hby:qG P E=some qY) (hz:xH P E=some zs) (hzl:zs.length=sz) (hsz:Nat.ble 1 sz=true)
  (hown:Own w B E sz oa n c xs) (hr:Row w Fa news) (hl:news.length=m*sz) (h1 : ∀u∈news,u.oneCell'=true)
  (hnil:Fa=none->c2=0)
  (hbytes:(n+m)*qY<=140737488355328) (hB:B<=w.heap.size) (hlen:n+m<=maxLen)
  (k : ∀qy c' w',Own w' B E sz qy (n+m) c' (xs++news)->Below B w w'->w.grownBy w' (ownB oa)->K (.slice qy (n+m) c') w') :
  nZ P (Builtin.append_ #[t,t] ty #[.slice oa n c, .slice Fa m c2]) w K:=by
 obtain⟨i,hi,rfl⟩:=qJ hs
 have hb':i.bytes=qY:=by simpa [qG,hi]using hby
 obtain⟨z,hz1,hz2⟩ : ∃z,i.zero=some z∧z.cells.toList=zs:=by
  unfold xH at hz
  simp only [hi,fU]at hz
  cases hzz:i.zero with
  | none=>simp [hzz]at hz
  | some z=>simp only [hzz,bU,aN]at hz;exact⟨z,rfl,hz⟩
 have hsz':0<i.size:=aP hsz
 have hzc:z.cells.size=i.size:=by rw [<-hz2]at hzl;simpa using hzl
 by_cases hm:Fa=none
 ·subst hm
  have hm0:news = []:=hr.resolve_right (by rintro⟨b,o,he,_⟩;cases he)
  subst hm0
  have:m=0:=by
   rcases cO m with h|h
   ·exact h
   ·have:=lC h hsz';simp at hl;omega
  subst this
  have hc2:=hnil rfl
  subst hc2
  have hrun:=run_append_owned_none (P:=P) (w:=w) B t ty E i i.size ht hi (.slice oa n c) n xs hown
  refine pI hrun ?_
  have hk:=k oa c w (by simpa using hown) (Below.refl _ _) ⟨rfl,rfl,rfl,aA _,fun _ _ _=>rfl⟩
  simpa using hk
 ·obtain⟨ad,rfl,hcells⟩ : ∃ad,Fa=some ad∧∀j u,news[j]? = some u->w.cell? (ad.add j)=some u:=by
   rcases hr with rfl|⟨b,o,rfl,_,hc⟩
   ·cases Fa with
    | none=>exact absurd rfl hm
    | some ad=>exact⟨ad,rfl,by simp⟩
   ·exact⟨_,rfl,fun j u hj=>by rw [add0];exact hc j u hj⟩
  obtain⟨v',w',hrun,ho,hg,_⟩:=run_append_own (P:=P) w B t ty E i z i.size qY ht hi hz1 rfl hb' hzc hsz' (.slice oa n c) n xs hown ad m c2 news hl hcells h1 hlen hbytes hB
  rw [Cc]at hg
  have hv : ∃qy c',v' = .slice qy (n+m) c':=by
   rcases ho.2 with ⟨h,h0⟩|⟨g,cap,cur,h,_⟩
   ·exact⟨none,0,by rw [h,h0]⟩
   ·exact⟨_,cap,h⟩
  obtain⟨qy,c',rfl⟩:=hv
  exact pI hrun (k qy c' w' ho (grown_below hg hB fun k hk=>(hown.ge k hk).1) hg)
theorem aaW {t E:TypeId}{sz qY n:Nat}{kl kc:IntKind}{l c:Int}{zs:List Value}
  (ht:P.underlying t=some (.slice E)) (hs:szB P E=some sz) (hby:qG P E=some qY) (hz:xH P E=some zs) (hzl:zs.length=sz) (hsz:Nat.ble 1 sz=true)
  (hl:l=n) (hc:c=n) (hbytes:qY*n<=140737488355328) (hn:n<=maxLen)
  (k : ∀w',w'=w.alloc (.cells (List.replicate n zs).flatten.toArray E)->tu w' w.heap.size (List.replicate n zs).flatten E->K (.slice (some ⟨w.heap.size,0,none⟩) n n) w') :
  nZ P (Instr.makeSlice t (.int kl l) (.int kc c)) w K:=by
 subst hl;subst hc
 obtain⟨i,hi,rfl⟩:=qJ hs
 have hb':i.bytes=qY:=by simpa [qG,hi]using hby
 subst hb'
 obtain⟨z,hz1,hz2⟩ : ∃z,i.zero=some z∧z.cells.toList=zs:=by
  unfold xH at hz
  simp only [hi,fU]at hz
  cases hzz:i.zero with
  | none=>simp [hzz]at hz
  | some z=>simp only [hzz,bU,aN]at hz;exact⟨z,rfl,hz⟩
 have hsz':1<=i.size:=aP hsz
 have hzc:z.cells.size=i.size:=by rw [<-hz2]at hzl;simpa using hzl
 have h63:(n:Int)<=9223372036854775807:=by unfold maxLen at hn;omega
 have hbi:(i.bytes:Int)*(n:Int)<=281474976710656:=by
  rw [<-dN]
  omega
 have hrun:=run_make (P:=P) w t E i z ht hi hz1 kl kc n n (by omega) (by omega) hbi h63
 have hmc:madeCells z.cells (n*i.size)=(List.replicate n zs).flatten.toArray:=by
  rw [<-hz2, <-Ea z.cells n i.size hzc hsz']
  unfold madeCells
  rfl
 simp only [dh]at hrun
 rw [hmc]at hrun
 exact pI hrun (k _ rfl (by have:=tu.new w (List.replicate n zs).flatten.toArray E;simpa using this))
theorem H6 {t E:TypeId}{sz n c h:Nat}{oa:Option Addr}{kh:IntKind}{hi:Int}(ht:P.underlying t=some (.slice E))(hs:szB P E=some sz)
  (he:hi=h) (hh:h<=n) (hc:n<=c) (k:K (.slice oa h c) w):nZ P (Instr.sliceAt t (.slice oa n c) none (some (.int kh hi)) none) w K:=by
 refine pI ?_ k
 subst he
 have h1:(0:Int)<=h∧(h:Int)<=c:=⟨by omega,by omega⟩
 unfold Instr.sliceAt
 rw [Sem.run_bind,mM ht]
 simp only [Result.andThen_ok]
 unfold Instr.slice
 rw [Sem.run_bind,mM ht]
 simp only [Result.andThen_ok,Instr.sliceBounds,Instr.sliceBound,asIntOf,Sem.run_bind,Sem.run_pure,if_pos h1,qK hs]
 congr 1
 cases oa with
 | none=>by_cases hc0:c=0<;>simp [hc0]
 | some a=>by_cases hc0:c=0<;>simp [hc0,Addr.add]
theorem Row.take {oa:Option Addr}{vs:List Value}(h:Row w oa vs)(n:Nat):Row w oa (vs.take n):=by
 rcases h with h|⟨b,o,he,hlt,hc⟩
 ·exact .inl (by simp [h])
 ·exact .inr ⟨b,o,he,hlt,fun j v hj=>hc j v (by rw [bQ]at hj;split at hj;exact hj;cases hj)⟩
theorem Xx {src dst e:TypeId}{oa:Option Addr}{l:List UInt8}{n c:Nat}(hs:P.underlying src=some (.slice e))(he:P.underlying e=some (.int .u8))(hd:P.underlying dst=some .string)
  (hn:n=l.length) (hr:Row w oa (oH l)) (k:K (.string ⟨l.toArray⟩) w):nZ P (convert src dst (.slice oa n c)) w K:=by
 subst hn
 rcases hr with h|⟨b,o,rfl,_,hc⟩
 ·have hl:l = []:=by simpa [oH]using h
  subst hl
  refine pI ?_ k
  cases oa with
  | none=>have:=run_convert_bytes_nil (P:=P) w src e hs he 0 c dst hd;exact this
  | some a=>exact run_convert_bytes_back (P:=P) w src dst e a c [] hs he hd (by simp)
 ·exact pI (run_convert_bytes_back (P:=P) w src dst e _ c l hs he hd fun j hj=>by rw [add0];exact hc j _ (wK hj)) k
end
theorem uQ (l:List UInt8) : ∀u∈oH l,u.oneCell'=true:=by
 intro u hu
 simp only [oH,eP]at hu
 obtain⟨x,_,rfl⟩:=hu
 rfl
theorem pK (a b:List UInt8):oH (a++b)=oH a++oH b:=by simp [oH]
def Seg (vs:List Value)(off:Nat)(l:List Value):Prop:= ∀j v,l[j]? = some v->vs[off+j]? = some v
def recs {α:Type}(c:α->List Value)(l:List α):List Value:=(l.map c).flatten
theorem Xy {α:Type}{c:α->List Value}{k:Nat}(hk : ∀a,(c a).length=k)(l:List α):(recs c l).length=l.length*k:=by
 induction l with
 | nil=>simp [recs]
 | cons a r ih=>
  have:recs c (a::r)=c a++recs c r:=rfl
  rw [this,ak,ih,hk,bC,bJ]
  omega
theorem Xz {α:Type}{c:α->List Value}{k:Nat}(hk : ∀a,(c a).length=k) : ∀(l:List α) (i:Nat) (h:i<l.length),Seg (recs c l) (i*k) (c l[i]):=by
 intro l
 induction l with
 | nil=>intro i h;simp at h
 | cons a r ih=>
  intro i h j v hj
  have e:recs c (a::r)=c a++recs c r:=rfl
  have hjk:j<k:=by
   have:=(aO.1 hj).1
   rwa [hk]at this
  cases i with
  | zero=>
   simp only [kR]at hj
   rw [e,fJ,aV,dQ (by rw [hk];exact hjk)]
   exact hj
  | succ i=>
   simp only [kS]at hj
   have:=ih i (by simpa using h) j v hj
   rw [e,dG (by rw [hk,bJ];omega),hk]
   rw [show (i+1)*k+j-k=i*k+j by rw [bJ];omega]
   exact this
theorem OQ (a:List Value) : ∀(vs:List Value) (b c:List Value),vs.length=b.length->vO (a++b++c) a.length vs=a++vs++c:=by
 intro vs
 induction vs generalizing a with
 | nil=>
  intro b c h
  have:b = []:=by simpa using h.symm
  subst this;simp [vO]
 | cons v r ih=>
  intro b c h
  cases b with
  | nil=>simp at h
  | cons x b=>
   simp only [vO]
   have e:(a++x::b++c).set a.length v=(a++ [v])++b++c:=by simp
   rw [e]
   have:=ih (a++ [v]) b c (by simpa using h)
   simp only [ak,bC,fK,aV]at this
   rw [this]
   simp
section
variable {P:Program}{w:World}{K:Value->World->Prop}
end
def At (w:World)(b o:Nat)(vs:List Value):Prop:= ∀j v,vs[j]? = some v->w.cell? ⟨b,o+j,none⟩=some v
theorem At.below {w w':World}{b o B:Nat}{vs:List Value}(h:At w b o vs)(hB:Below B w w')(hb:b<B):At w' b o vs:=fun j v hj=>by rw [hB.cell (p:=⟨b,o+j,none⟩) hb];exact h j v hj
theorem At.only {w w':World}{b o c:Nat}{vs:List Value}(h:At w b o vs)(hO:Only c w w')(hb:b≠c):At w' b o vs:=fun j v hj=>by
 have:=h j v hj
 unfold World.cell? at this ⊢
 simp only at this ⊢
 rw [hO.block b hb];exact this
theorem At.drew {w:World}{b o:Nat}{vs:List Value}(h:At w b o vs):At w.drew b o vs:=h
theorem tu.at {w:World}{b:Nat}{l:List Value}{t:TypeId}(h:tu w b l t):At w b 0 l:=fun j v hj=>by rw [aV,h.cell];exact hj
theorem Row.at {w:World}{oa:Option Addr}{vs:List Value}(h:Row w oa vs)(hne:0<vs.length) : ∃b o,oa=some ⟨b,o,none⟩∧b<w.heap.size∧At w b o vs:=h.get hne
section
variable {P:Program}{w:World}{K:Value->World->Prop}
theorem OT {t:TypeId}{b o j:Nat}{vs:List Value}{v:Value}(hr:At w b o vs)(hv:vs[j]? = some v)(ha:zl P t=some false)(k:K v w):nZ P (loadVar t ⟨b,o+j,none⟩) w K:=
 oV ha (hr j v hv) k
theorem OU {t:TypeId}{b o off j:Nat}{vs l:List Value}{v:Value}(hr:At w b o vs)(hg:Seg vs off l)(hv:l[j]? = some v)(ha:zl P t=some false)(k:K v w):nZ P (loadVar t ⟨b,o+off+j,none⟩) w K:=
 oV ha (by rw [fZ];exact hr _ _ (hg j v hv)) k
theorem KF {t:TypeId}{b o off:Nat}{vs l:List Value}{v:Value}(hr:At w b o vs)(hg:Seg vs off l)(hv:l[0]? = some v)(ha:zl P t=some false)(k:K v w):nZ P (loadVar t ⟨b,o+off,none⟩) w K:=
 oV ha (hr _ _ (hg 0 v hv)) k
theorem XA {t e:TypeId}{sz b o n c:Nat}{k:IntKind}{ix:Int}(m:Nat)(hm:ix=m)(hu:P.underlying t=some (.slice e))(hs:szB P e=some sz)(h:m<n)
  (hk:K (.pointer (some ⟨b,o+m*sz,none⟩)) w):nZ P (Instr.indexAt t (.slice (some ⟨b,o,none⟩) n c) (.int k ix)) w K:=OO m hu hs hm h hk
theorem F6 {t e:TypeId}{b o n c:Nat}{k:IntKind}{ix:Int}(m:Nat)(hm:ix=m)(hu:P.underlying t=some (.slice e))(hs:szB P e=some 1)(h:m<n)
  (hk:K (.pointer (some ⟨b,o+m,none⟩)) w):nZ P (Instr.indexAt t (.slice (some ⟨b,o,none⟩) n c) (.int k ix)) w K:=Bl m hu hs hm h hk
end
def Ints (l:List Value)(n:Nat)(f:Nat->Int):Prop:=l.length=n∧∀j,j<n->l[j]? = some (.int .i64 (f j))
theorem Ints.set {l:List Value}{m:Nat}{f:Nat->Int}(h:Ints l m f)(n:Nat)(x:Int)(hn:n<m):Ints (l.set n (.int .i64 x)) m (fun j=>if j=n then x else f j):=by
 refine⟨by rw [bV];exact h.1,fun j hj=> ?_⟩
 by_cases e:j=n
 ·subst e
  rw [fC (by rw [h.1];exact hj)]
  simp
 ·rw [iJ (fun x=>e x.symm),h.2 j hj]
  simp only [if_neg e]
theorem Ints.congr {l:List Value}{m:Nat}{f g:Nat->Int}(h:Ints l m f)(e : ∀j,j<m->f j=g j):Ints l m g:=⟨h.1,fun j hj=>by rw [<-e j hj];exact h.2 j hj⟩
theorem Ints.one {l:List Value}{m:Nat}{f:Nat->Int}(h:Ints l m f):l.all (·.oneCell')=true:=bP.2 fun x hx=>by
 obtain⟨k,hk⟩:=bZ.1 hx
 have hk2:=(aO.1 hk).1
 rw [h.2 k (by rw [h.1]at hk2;exact hk2)]at hk
 injection hk with hk
 rw [<-hk];rfl
theorem Ints.rep (n:Nat)(x:Int):Ints (List.replicate n (.int .i64 x)) n fun _=>x:=⟨by simp,fun j hj=>by rw [kP];simp [hj]⟩
theorem aaX (n:Nat)(v:Value):(List.replicate n [v]).flatten=List.replicate n v:=by
 induction n with
 | zero=>rfl
 | succ n ih=>rw [gu,iK,ih,gu];rfl
theorem afB {P:Program}{w:World}{K:Value->World->Prop}{src dst e:TypeId}{s:ByteArray}(hs:P.underlying src=some .string)(hd:P.underlying dst=some (.slice e))(he:P.underlying e=some (.int .u8))
  (k : ∀c w',s.data.toList.length<=c->Row w' (some ⟨w.heap.size,0,none⟩) (oH s.data.toList)->Below w.heap.size w w'->K (.slice (some ⟨w.heap.size,0,none⟩) s.data.toList.length c) w') :
  nZ P (convert src dst (.string s)) w K:=by
 have hr:=run_bytes_of_string (P:=P) w src dst e s hs hd he
 have hsz:s.data.toList.length=s.size:=by simp
 have hk:=k (grownCap w s.size 0 e) (w.drew.alloc (.cells (bytesRow s (grownCap w s.size 0 e)) e ((bytesRow s (grownCap w s.size 0 e)).size,(bytesRow s (grownCap w s.size 0 e)).size+1))) ?_ ?_ ?_
 ·rw [hsz]at hk
  exact pI hr hk
 ·rw [hsz];exact grownCap_ge _ _ _ _
 ·refine .inr ⟨w.heap.size,0,rfl,by simp,fun j v hj=> ?_⟩
  have hjl:j<s.data.size:=by
   have:=(aO.1 hj).1
   simpa [oH]using this
  have hv:v = .int .u8 (s.data[j].toNat:Int):=by
   have:=wK (l:=s.data.toList) (j:=j) (by simpa using hjl)
   rw [this]at hj
   injection hj with hj
   rw [<-hj];simp
  rw [aV,hv]
  have h2:=bytesRow_at s (grownCap w s.size 0 e) j hjl
  unfold World.cell?
  rw [show (w.drew.alloc (.cells (bytesRow s (grownCap w s.size 0 e)) e ((bytesRow s (grownCap w s.size 0 e)).size,(bytesRow s (grownCap w s.size 0 e)).size+1))).heap[w.heap.size]? = some (.cells (bytesRow s (grownCap w s.size 0 e)) e ((bytesRow s (grownCap w s.size 0 e)).size,(bytesRow s (grownCap w s.size 0 e)).size+1))from heap_alloc_new w.drew _]
  simpa using h2
 ·exact Below.alloc (KE (Below.refl _ _)) (aA _) _
def loS (oa:Option Addr)(lo sz c:Nat):Option Addr:=if c=lo then oa else oa.map (·.add (lo*sz))
theorem Rt {P:Program}{w:World}{K:Value->World->Prop}{t E:TypeId}{n c lo sz:Nat}{oa:Option Addr}{kl:IntKind}{li:Int}(ht:P.underlying t=some (.slice E))(hs:szB P E=some sz)
  (he:li=lo) (hh:lo<=n) (k:K (.slice (loS oa lo sz c) (n-lo) (c-lo)) w):nZ P (Instr.sliceAt t (.slice oa n c) (some (.int kl li)) none none) w K:=by
 refine pI ?_ k
 subst he
 have h1:(0:Int)<=lo∧(lo:Int)<=n:=⟨by omega,by omega⟩
 unfold Instr.sliceAt
 rw [Sem.run_bind,mM ht]
 simp only [Result.andThen_ok]
 unfold Instr.slice
 rw [Sem.run_bind,mM ht]
 simp only [Result.andThen_ok,Instr.sliceBounds,Instr.sliceBound,asIntOf,Sem.run_bind,Sem.run_pure,if_pos h1,qK hs]
 simp [loS]
theorem Own.blk {w:World}{B:Nat}{E:TypeId}{sz:Nat}{oa:Option Addr}{n c:Nat}{xs:List Value}(h:Own w B E sz oa n c xs)(hn:0<n) :
  ∃g cur,oa=some ⟨g,0,none⟩∧B<=g∧tu w g cur E∧n<=c∧c<=maxLen∧cur.length=c*sz∧cur.take (n*sz)=xs:=by
 rcases h.2 with ⟨_,h0⟩|⟨g,cap,cur,hv,hg,hh,h1,h2,h3,h4⟩
 ·omega
 ·injection hv with e1 e2 e3
  subst e3
  exact⟨g,cur.toList,e1,hg,by unfold tu;rw [hh],h1,h2,by simpa using h3,h4⟩
theorem Own.Fe {w:World}{B g:Nat}{E:TypeId}{sz n c:Nat}{cur xs:List Value}(hb:tu w g cur E)(hg:B<=g)(h1:n<=c)(h2:c<=maxLen)(h3:cur.length=c*sz)(h4:cur.take (n*sz)=xs) :
  Own w B E sz (some ⟨g,0,none⟩) n c xs:=by
 have hl:n*sz<=c*sz:=aX _ h1
 refine⟨by rw [<-h4,aK];omega, .inr ⟨g,c,cur.toArray,rfl,hg,hb,h1,h2,by simpa using h3,by simpa using h4⟩⟩
theorem Own.only {w w':World}{B k:Nat}{E:TypeId}{sz:Nat}{oa:Option Addr}{n c:Nat}{xs:List Value}(h:Own w B E sz oa n c xs)(hO:Only k w w')(hne : ∀g,oa=some ⟨g,0,none⟩->g≠k):Own w' B E sz oa n c xs:=by
 rcases cO n with e|e
 ·rcases h.2 with ⟨h1,h0⟩|⟨g,cap,cur,hv,hg,hh,h1,h2,h3,h4⟩
  ·exact⟨h.1, .inl ⟨h1,h0⟩⟩
  ·injection hv with e1 e2 e3
   exact⟨h.1, .inr ⟨g,cap,cur,by rw [e1,e3],hg,by rw [hO.block g (hne g e1)];exact hh,h1,h2,h3,h4⟩⟩
 ·obtain⟨g,cur,e1,hB,hb,h1,h2,h3,h4⟩:=h.blk e
  subst e1
  exact Own.Fe (hb.only hO (hne g rfl)) hB h1 h2 h3 h4
theorem Own.at {w:World}{B g:Nat}{E:TypeId}{sz n c:Nat}{xs:List Value}(h:Own w B E sz (some ⟨g,0,none⟩) n c xs):At w g 0 xs:=fun j v hj=>by
 have hl:=h.len
 have hn:0<n:=by
  have:=(aO.1 hj).1
  rcases cO n with e|e
  ·subst e;omega
  ·exact e
 obtain⟨g',cur,e,hB,hb,h1,h2,h3,h4⟩:=h.blk hn
 injection e with e
 injection e with e
 subst e
 rw [aV,hb.cell]
 rw [<-h4,bQ]at hj
 split at hj
 ·exact hj
 ·cases hj
def XB (P:Program)(xs ys:List Value):List Field->Option Bool
 | []=>some true
 | f::fs=>
  bif f.name != "_" then
   match zl P f.type,P.underlying f.type,xs[f.offset]?,ys[f.offset]?,XB P xs ys fs with
   | some false,some (.int _),some (.int k a),some (.int k' b),some r=>bif decide (k=k')then some (a==b&&r)else none
   | some false,some .string,some (.string a),some (.string b),some r=>some (yL a b&&r)
   | some false,some .bool,some (.bool a),some (.bool b),some r=>some ((a==b)&&r)
   | _,_,_,_,_=>none
  else none
theorem XC {P:Program}{w:World}(d:Nat)(xs ys:List Value) : ∀(fs:List Field) (b:Bool),XB P xs ys fs=some b->(Op.eqFields (d+1) xs.toArray ys.toArray fs).run P w = .ok b w:=by
 intro fs
 induction fs with
 | nil=>intro b h;simp only [XB,aN]at h;subst h;rfl
 | cons f fs ih=>
  intro b h
  simp only [XB]at h
  cases hn:f.name != "_" with
  | false=>rw [hn]at h;cases h
  | true=>
   rw [hn,cond_true]at h
   have hn':f.name≠ "_" :=by simpa using hn
   have pp : ∀(zs:List Value) (v:Value),zl P f.type=some false->zs[f.offset]? = some v->(part f.type zs.toArray f.offset).run P w = .ok v w:=fun zs v ha hv=>by
    unfold part
    rw [Sem.run_bind,sQ ha]
    simp [hv]
   split at h
   ·rename_i k0 k a k' b' r ha hu hx hy hr
    by_cases hk:k=k'
    ·subst hk
     simp only [decide_true,cond_true,aN]at h
     subst h
     simp only [Op.eqFields,if_pos hn',Sem.run_bind,pp _ _ ha hx,pp _ _ ha hy,Result.andThen_ok,run_equalIn_int w d f.type k k0 a b' hu]
     cases hab:(a==b')with
     | true=>simpa using ih r hr
     | false=>simp
    ·simp [hk]at h
   ·rename_i a b' r ha hu hx hy hr
    simp only [aN]at h
    subst h
    simp only [Op.eqFields,if_pos hn',Sem.run_bind,pp _ _ ha hx,pp _ _ ha hy,Result.andThen_ok,run_equalIn_string w d f.type a b' hu]
    have e:yL a b'=(a.toList==b'.toList):=rfl
    cases hab:yL a b' with
    | true=>rw [e]at hab;rw [hab];simpa using ih r hr
    | false=>rw [e]at hab;rw [hab];simp
   ·rename_i a b' r ha hu hx hy hr
    simp only [aN]at h
    subst h
    simp only [Op.eqFields,if_pos hn',Sem.run_bind,pp _ _ ha hx,pp _ _ ha hy,Result.andThen_ok,run_equalIn_bool' w d f.type a b' hu]
    cases hab:(a==b')with
    | true=>simpa using ih r hr
    | false=>simp
   ·cases h
def eqF (P:Program)(xs ys:List Value):List Field->Option Bool
 | []=>some true
 | f::fs=>
  bif f.name != "_" then
   match zl P f.type,P.underlying f.type,xs[f.offset]?,ys[f.offset]?,eqF P xs ys fs with
   | some false,some (.int _),some (.int k a),some (.int k' b),some r=>bif decide (k=k')then some (a==b&&r)else none
   | some false,some .string,some (.string a),some (.string b),some r=>some (yL a b&&r)
   | some false,some .bool,some (.bool a),some (.bool b),some r=>some ((a==b)&&r)
   | some true,some (.struct fs'),_,_,some r=>(match szB P f.type with
    | some k=>bif P.stoodInHeld f.type then none else(match XB P ((xs.drop f.offset).take k) ((ys.drop f.offset).take k) fs'.toList with
     | some b=>some (b&&r)
     | none=>none)
    | none=>none)
   | _,_,_,_,_=>none
  else none
theorem Fg {P:Program}{w:World}{t:TypeId}{o k:Nat}(zs:List Value)(ha:zl P t=some true)(hs:szB P t=some k):(part t zs.toArray o).run P w = .ok (.agg ((zs.drop o).take k).toArray) w:=by
 obtain⟨i,hi,hik⟩:=qJ hs
 simp only [part,Sem.run_bind,Sem.run_pure,Result.andThen_ok,sQ ha,if_true,sizeOf,tJ hi]
 congr 2
 apply jo
 simp [hik]
theorem Uf {P:Program}{w:World}(d:Nat)(xs ys:List Value) : ∀(fs:List Field) (b:Bool),eqF P xs ys fs=some b->(Op.eqFields (d+2) xs.toArray ys.toArray fs).run P w = .ok b w:=by
 intro fs
 induction fs with
 | nil=>intro b h;simp only [eqF,aN]at h;subst h;rfl
 | cons f fs ih=>
  intro b h
  simp only [eqF]at h
  cases hn:f.name != "_" with
  | false=>rw [hn]at h;cases h
  | true=>
   rw [hn,cond_true]at h
   have hn':f.name≠ "_" :=by simpa using hn
   have pp : ∀(zs:List Value) (v:Value),zl P f.type=some false->zs[f.offset]? = some v->(part f.type zs.toArray f.offset).run P w = .ok v w:=fun zs v ha hv=>by
    unfold part
    rw [Sem.run_bind,sQ ha]
    simp [hv]
   split at h
   ·rename_i k0 k a k' b' r ha hu hx hy hr
    by_cases hk:k=k'
    ·subst hk
     simp only [decide_true,cond_true,aN]at h
     subst h
     simp only [Op.eqFields,if_pos hn',Sem.run_bind,pp _ _ ha hx,pp _ _ ha hy,Result.andThen_ok,run_equalIn_int w (d+1) f.type k k0 a b' hu]
     cases hab:(a==b')with
     | true=>simpa using ih r hr
     | false=>simp
    ·simp [hk]at h
   ·rename_i a b' r ha hu hx hy hr
    simp only [aN]at h
    subst h
    simp only [Op.eqFields,if_pos hn',Sem.run_bind,pp _ _ ha hx,pp _ _ ha hy,Result.andThen_ok,run_equalIn_string w (d+1) f.type a b' hu]
    have e:yL a b'=(a.toList==b'.toList):=rfl
    cases hab:yL a b' with
    | true=>rw [e]at hab;rw [hab];simpa using ih r hr
    | false=>rw [e]at hab;rw [hab];simp
   ·rename_i a b' r ha hu hx hy hr
    simp only [aN]at h
    subst h
    simp only [Op.eqFields,if_pos hn',Sem.run_bind,pp _ _ ha hx,pp _ _ ha hy,Result.andThen_ok,run_equalIn_bool' w (d+1) f.type a b' hu]
    cases hab:(a==b')with
    | true=>simpa using ih r hr
    | false=>simp
   ·rename_i fs' r ha hu hr
    split at h
    ·rename_i k hs
     cases hp:P.stoodInHeld f.type with
     | true=>rw [hp]at h;cases h
     | false=>
      rw [hp,cond_false]at h
      split at h
      ·rename_i b0 h0
       simp only [aN]at h
       subst h
       have hf:P.fieldsOf f.type=fs':=by unfold Program.fieldsOf;rw [hu]
       have hu':P.underlying f.type=some (.struct (P.fieldsOf f.type)):=by rw [hf];exact hu
       have hrun:=XC (P:=P) (w:=w) d _ _ fs'.toList b0 h0
       rw [<-hf]at hrun
       simp only [Op.eqFields,if_pos hn',Sem.run_bind,Fg xs ha hs,Fg ys ha hs,Result.andThen_ok,run_equalIn_struct w (d+1) f.type _ _ hu' hp,hrun]
       cases b0 with
       | true=>simpa using ih r hr
       | false=>simp
      ·cases h
    ·cases h
   ·cases h
theorem afC {P:Program}{w:World}{K:Value->World->Prop}{t:TypeId}{x y:Operand}{xs ys:List Value}{b:Bool}(hg:P.eqGuardType P.depth t=false)(hp:P.stoodInHeld t=false)
  (hu:P.underlying t=some (.struct (P.fieldsOf t))) (he:eqF P xs ys (P.fieldsOf t).toList=some b) (k:K (.bool (!b)) w) :
  nZ P (do eqGuard .neq t x y (.agg xs.toArray) (.agg ys.toArray);binOp .neq t (.agg xs.toArray) (.agg ys.toArray)) w K:=by
 refine pI ?_ k
 rw [Sem.run_bind,run_eqGuard_agg w .neq t x y _ _ hg,Result.andThen_ok,run_neq_struct,run_equalIn_struct w 9999 t _ _ hu hp,Uf 9997 xs ys _ b he]
 rfl
theorem afD {P:Program}{w:World}{K:Value->World->Prop}{t:TypeId}{x y:Operand}{xs ys:List Value}{b:Bool}(hg:P.eqGuardType P.depth t=false)(hp:P.stoodInHeld t=false)
  (hu:P.underlying t=some (.struct (P.fieldsOf t))) (he:eqF P xs ys (P.fieldsOf t).toList=some b) (k:K (.bool b) w) :
  nZ P (do eqGuard .eql t x y (.agg xs.toArray) (.agg ys.toArray);binOp .eql t (.agg xs.toArray) (.agg ys.toArray)) w K:=by
 refine pI ?_ k
 rw [Sem.run_bind,run_eqGuard_agg w .eql t x y _ _ hg,Result.andThen_ok,run_eql_struct,run_equalIn_struct w 9999 t _ _ hu hp,Uf 9997 xs ys _ b he]
 rfl
theorem Ru {x:Int}(h:0<=x) : ∃n:Nat,x=(n:Int):=⟨x.toNat,by omega⟩
def tZ (w:World)(b:Nat)(F:ByteArray->Option Value):Prop:=
 ∃es clock,w.heap[b]? = some (.map es clock)∧(∀x∈es.toList,MapKept.IsKey .string x.key)∧(es.toList.map (·.key)).Nodup∧∀k v,F k=some v↔∃x∈es.toList,x.key = .string k∧x.val=v
theorem tZ.lt {w:World}{b:Nat}{F:ByteArray->Option Value}(h:tZ w b F):b<w.heap.size:=let ⟨_,_,hb,_⟩:=h;(dw.1 hb).1
theorem tZ.below {w w':World}{b B:Nat}{F:ByteArray->Option Value}(h:tZ w b F)(hB:Below B w w')(hb:b<B):tZ w' b F:=
 let ⟨es,c,h1,h2⟩:=h;⟨es,c,(hB.block b hb).trans h1,h2⟩
theorem tZ.only {w w':World}{b k:Nat}{F:ByteArray->Option Value}(h:tZ w b F)(hO:Only k w w')(hb:b≠k):tZ w' b F:=
 let ⟨es,c,h1,h2⟩:=h;⟨es,c,(hO.block b hb).trans h1,h2⟩
theorem tZ.quiet {w w':World}{b:Nat}{F:ByteArray->Option Value}(h:tZ w b F)(hQ:Quiet w w'):tZ w' b F:=
 let ⟨es,c,h1,h2⟩:=h;⟨es,c,by rw [hQ.heap];exact h1,h2⟩
theorem tZ.heap {w w':World}{b:Nat}{F:ByteArray->Option Value}(h:tZ w b F)(e:w'.heap[b]? = w.heap[b]?):tZ w' b F:=
 let ⟨es,c,h1,h2⟩:=h;⟨es,c,e.trans h1,h2⟩
theorem tZ.drew {w:World}{b:Nat}{F:ByteArray->Option Value}(h:tZ w b F):tZ w.drew b F:=h
theorem tZ.congr {w:World}{b:Nat}{F G:ByteArray->Option Value}(h:tZ w b F)(e : ∀k,F k=G k):tZ w b G:=
 let ⟨es,c,h1,h2,h3,h4⟩:=h;⟨es,c,h1,h2,h3,fun k v=>by rw [<-e k];exact h4 k v⟩
section
variable {P:Program}{w:World}{K:Value->World->Prop}
theorem Rw {t:TypeId}(k : ∀w',Below w.heap.size w w'->tZ w' w.heap.size (fun _=>none)->K (.map (some w.heap.size)) w'):nZ P (Instr.makeMap t none) w K:=by
 refine pI (run_makeMap t w) (k _ (rP (Below.refl _ _) (aA _) _) ⟨#[],0,heap_alloc_new w _,by simp,by simp,by simp⟩)
theorem tZ.find {F:ByteArray->Option Value}{kt:TypeId}{k:ByteArray}(hk:P.underlying kt=some .string){es:Array MapEntry}{c:Nat}
  (h2 : ∀x∈es.toList,MapKept.IsKey .string x.key) (h3:(es.toList.map (·.key)).Nodup) (h4 : ∀k v,F k=some v↔∃x∈es.toList,x.key = .string k∧x.val=v) :
  (F k=none∧(Instr.findKey kt (.string k) es.toList).run P w = .ok none w∧∀x∈es.toList,x.key≠ .string k)∨
  ∃j e,F k=some e.val∧(Instr.findKey kt (.string k) es.toList).run P w = .ok (some (j,e.val)) w∧es[j]? = some e∧e.key = .string k:=by
 rcases MapKept.findNow_spec (d:= .string) (k:= .string k) trivial es.toList 0 h2 with ⟨hf,hn⟩|⟨j,e,hf,he,hek⟩
 ·refine .inl ⟨?_,MapKept.run_findKey hk hf,hn⟩
  cases hF:F k with
  | none=>rfl
  | some v=>obtain⟨x,hx,e1,_⟩:=(h4 k v).1 hF;exact absurd e1 (hn x hx)
 ·refine .inr ⟨j,e,(h4 k e.val).2 ⟨e,bZ.2 ⟨j,he⟩,hek,rfl⟩,by rw [aV]at hf;exact MapKept.run_findKey hk hf,by simpa using he,hek⟩
theorem H7 {t kt et:TypeId}{b:Nat}{F:ByteArray->Option Value}{k:ByteArray}{z:Value}(ht:P.underlying t=some (.map kt et))(hk:P.underlying kt=some .string)(hz:(P.info? et).bind (·.zero)=some z)(h:tZ w b F)
  (c:K (.tuple #[(F k).getD z, .bool (F k).isSome]) w):nZ P (Instr.lookup t (.map (some b)) (.string k) true) w K:=by
 obtain⟨es,cl,hb,h2,h3,h4⟩:=h
 have hc:(Instr.checkKey es.isEmpty 10000 kt (.string k)).run P w = .ok () w:=MapKept.run_checkKey (k:= .string k) hk (by simp [MapKept.IsKey]) _ 9999
 rcases tZ.find (P:=P) (w:=w) (k:=k) hk (c:=cl) h2 h3 h4 with ⟨hF,hr,_⟩|⟨j,e,hF,hr,_⟩
 ·rw [hF]at c
  refine pI ?_ c
  simp [Instr.lookup,mM ht,MapKept.run_getObj_map hb,hc,hr,zB hz]
 ·rw [hF]at c
  refine pI ?_ c
  simp [Instr.lookup,mM ht,MapKept.run_getObj_map hb,hc,hr]
theorem Ef {t kt et:TypeId}{b:Nat}{F:ByteArray->Option Value}{k:ByteArray}{z:Value}(ht:P.underlying t=some (.map kt et))(hk:P.underlying kt=some .string)(hz:(P.info? et).bind (·.zero)=some z)(h:tZ w b F)
  (c:K ((F k).getD z) w):nZ P (Instr.lookup t (.map (some b)) (.string k) false) w K:=by
 obtain⟨es,cl,hb,h2,h3,h4⟩:=h
 have hc:(Instr.checkKey es.isEmpty 10000 kt (.string k)).run P w = .ok () w:=MapKept.run_checkKey (k:= .string k) hk (by simp [MapKept.IsKey]) _ 9999
 rcases tZ.find (P:=P) (w:=w) (k:=k) hk (c:=cl) h2 h3 h4 with ⟨hF,hr,_⟩|⟨j,e,hF,hr,_⟩
 ·rw [hF]at c
  refine pI ?_ c
  simp [Instr.lookup,mM ht,MapKept.run_getObj_map hb,hc,hr,zB hz]
 ·rw [hF]at c
  refine pI ?_ c
  simp [Instr.lookup,mM ht,MapKept.run_getObj_map hb,hc,hr]
theorem aaY {K:World->Prop}{t kt et:TypeId}{b:Nat}{F:ByteArray->Option Value}{k:ByteArray}{v:Value}(ht:P.underlying t=some (.map kt et))(hk:P.underlying kt=some .string)(h:tZ w b F)
  (c : ∀w',Only b w w'->tZ w' b (fun k'=>if k'=k then some v else F k')->K w'):xE P (Instr.mapUpdate t (.map (some b)) (.string k) v) w K:=by
 obtain⟨es,cl,hb,h2,h3,h4⟩:=h
 have hbl:b<w.heap.size:=(dw.1 hb).1
 have hc:(Instr.checkKey false 10000 kt (.string k)).run P w = .ok () w:=MapKept.run_checkKey (k:= .string k) hk (by simp [MapKept.IsKey]) _ 9999
 have only : ∀o,Only b w {w with heap:=w.heap.setIfInBounds b o}:=fun o=>⟨rfl,rfl,rfl,by simp,fun j hj=>by simp [iE (lF hj)]⟩
 have self : ∀o,({w with heap:=w.heap.setIfInBounds b o} : World).heap[b]? = some o:=fun o=>by simp [hbl]
 rcases tZ.find (P:=P) (w:=w) (k:=k) hk (c:=cl) h2 h3 h4 with ⟨hF,hr,hn⟩|⟨j,e,hF,hr,hj,hek⟩
 ·refine⟨(),_, ?_,c _ (only (.map (es.push {key:= .string k,val:=v,born:=cl}) (cl+1))) ⟨_,_,self _, ?_, ?_, ?_⟩⟩
  ·simp [Instr.mapUpdate,mM ht,MapKept.run_getObj_map hb,hc,hr,MapKept.run_setObj_map _ hb]
  ·intro x hx
   simp only [iy,bK,bF]at hx
   rcases hx with hx|rfl
   ·exact h2 x hx
   ·trivial
  ·simp only [iy,aJ,gG,jB]
   refine List.nodup_append.2 ⟨h3,by simp, ?_⟩
   intro a ha b hb
   simp only [bF]at hb
   subst hb
   obtain⟨x,hx,rfl⟩:=eP.1 ha
   exact hn x hx
  ·intro k' v'
   by_cases e:k'=k
   ·subst e
    simp only [if_true,aN,iy,bK,bF]
    constructor
    ·rintro rfl;exact⟨_, .inr rfl,rfl,rfl⟩
    ·rintro⟨x,hx|rfl,e1,e2⟩
     ·exact absurd e1 (hn x hx)
     ·exact e2
   ·simp only [if_neg e,iy,bK,bF]
    rw [h4]
    constructor
    ·rintro⟨x,hx,e1,e2⟩;exact⟨x, .inl hx,e1,e2⟩
    ·rintro⟨x,hx|rfl,e1,e2⟩
     ·exact⟨x,hx,e1,e2⟩
     ·injection e1 with e1;exact absurd e1.symm e
 ·have hks:Instr.sameBits 10000 e.key (.string k)=true:=by rw [hek];exact(MapKept.bytes_beq k k).2 rfl
  have hkey : ∀x∈(es.modify j fun e=> {e with key:= .string k,val:=v}).toList,x.key∈es.toList.map (·.key):=fun x hx=>by
   have:x.key∈(es.modify j fun e=> {e with key:= .string k,val:=v}).toList.map (·.key):=eP.2 ⟨x,hx,rfl⟩
   rwa [MapKept.modify_keys j _ fun e' he'=>by rw [hj]at he';injection he' with he';subst he';exact hek.symm]at this
  refine⟨(),_, ?_,c _ (only (.map (es.modify j fun e=> {e with key:= .string k,val:=v}) cl)) ⟨_,_,self _, ?_, ?_, ?_⟩⟩
  ·simp [Instr.mapUpdate,mM ht,MapKept.run_getObj_map hb,hc,hr,hj,Instr.keyThatStays,hks,MapKept.run_setObj_map _ hb]
  ·exact MapKept.isKey_modify h2 j _ fun e' he'=>by rw [hj]at he';injection he' with he';subst he';exact hek.symm
  ·rw [MapKept.modify_keys j _ fun e' he'=>by rw [hj]at he';injection he' with he';subst he';exact hek.symm];exact h3
  ·intro k' v'
   have hmod : ∀i,(es.modify j fun e=> {e with key:= .string k,val:=v}).toList[i]? = if j=i then(es[i]?).map (fun e=> {e with key:= .string k,val:=v})else es[i]? :=fun i=>by
    rw [bn,iP]
   have uniq : ∀i x,es[i]? = some x->x.key = .string k->i=j:=fun i x hx hxk=>by
    have hi:i<(es.toList.map (·.key)).length:=by
     have:=(dw.1 hx).1
     simpa using this
    refine(List.getElem?_inj hi h3).1 ?_
    rw [aU,aU,bn,bn,hx,hj]
    simp [hxk,hek]
   constructor
   ·intro hv
    have hv:(if k'=k then some v else F k')=some v':=hv
    by_cases e':k'=k
    ·rw [if_pos e']at hv
     injection hv with hv
     subst hv;subst e'
     exact⟨_,bZ.2 ⟨j,by rw [hmod,if_pos rfl,hj];rfl⟩,rfl,rfl⟩
    ·rw [if_neg e']at hv
     obtain⟨x,hx,e1,e2⟩:=(h4 k' v').1 hv
     obtain⟨i,hi⟩:=bZ.1 hx
     rw [bn]at hi
     have hij : ¬j=i:=fun q=>by
      subst q
      rw [hj]at hi
      injection hi with hi
      subst hi
      rw [hek]at e1
      injection e1 with e1
      exact e' e1.symm
     exact⟨x,bZ.2 ⟨i,by rw [hmod,if_neg hij];exact hi⟩,e1,e2⟩
   ·rintro⟨x,hx,e1,e2⟩
    obtain⟨i,hi⟩:=bZ.1 hx
    rw [hmod]at hi
    by_cases hij:j=i
    ·subst hij
     rw [if_pos rfl,hj]at hi
     simp only [bU,aN]at hi
     subst hi
     injection e1 with e1
     show (if k'=k then some v else F k')=some v'
     rw [if_pos e1.symm]
     exact congrArg some e2
    ·rw [if_neg hij]at hi
     have e' : ¬k'=k:=fun q=>hij (uniq i x hi (by rw [e1,q])).symm
     show (if k'=k then some v else F k')=some v'
     rw [if_neg e']
     exact(h4 k' v').2 ⟨x,bZ.2 ⟨i,by rw [bn];exact hi⟩,e1,e2⟩
end
def uy (w:World)(b:Nat)(F:Int->Option Value):Prop:=
 ∃es clock,w.heap[b]? = some (.map es clock)∧(∀x∈es.toList,MapKept.IsKey (.int .i64) x.key)∧(es.toList.map (·.key)).Nodup∧∀k v,F k=some v↔∃x∈es.toList,x.key=(.int .i64 k)∧x.val=v
theorem uy.lt {w:World}{b:Nat}{F:Int->Option Value}(h:uy w b F):b<w.heap.size:=let ⟨_,_,hb,_⟩:=h;(dw.1 hb).1
theorem uy.below {w w':World}{b B:Nat}{F:Int->Option Value}(h:uy w b F)(hB:Below B w w')(hb:b<B):uy w' b F:=
 let ⟨es,c,h1,h2⟩:=h;⟨es,c,(hB.block b hb).trans h1,h2⟩
theorem uy.only {w w':World}{b k:Nat}{F:Int->Option Value}(h:uy w b F)(hO:Only k w w')(hb:b≠k):uy w' b F:=
 let ⟨es,c,h1,h2⟩:=h;⟨es,c,(hO.block b hb).trans h1,h2⟩
theorem uy.quiet {w w':World}{b:Nat}{F:Int->Option Value}(h:uy w b F)(hQ:Quiet w w'):uy w' b F:=
 let ⟨es,c,h1,h2⟩:=h;⟨es,c,by rw [hQ.heap];exact h1,h2⟩
theorem uy.heap {w w':World}{b:Nat}{F:Int->Option Value}(h:uy w b F)(e:w'.heap[b]? = w.heap[b]?):uy w' b F:=
 let ⟨es,c,h1,h2⟩:=h;⟨es,c,e.trans h1,h2⟩
theorem uy.drew {w:World}{b:Nat}{F:Int->Option Value}(h:uy w b F):uy w.drew b F:=h
theorem uy.congr {w:World}{b:Nat}{F G:Int->Option Value}(h:uy w b F)(e : ∀k,F k=G k):uy w b G:=
 let ⟨es,c,h1,h2,h3,h4⟩:=h;⟨es,c,h1,h2,h3,fun k v=>by rw [<-e k];exact h4 k v⟩
section
variable {P:Program}{w:World}{K:Value->World->Prop}
theorem OV {t:TypeId}(k : ∀w',Below w.heap.size w w'->uy w' w.heap.size (fun _=>none)->K (.map (some w.heap.size)) w'):nZ P (Instr.makeMap t none) w K:=by
 refine pI (run_makeMap t w) (k _ (rP (Below.refl _ _) (aA _) _) ⟨#[],0,heap_alloc_new w _,by simp,by simp,by simp⟩)
theorem uy.find {F:Int->Option Value}{kt:TypeId}{k:Int}(hk:P.underlying kt=some (.int .i64)){es:Array MapEntry}{c:Nat}
  (h2 : ∀x∈es.toList,MapKept.IsKey (.int .i64) x.key) (h3:(es.toList.map (·.key)).Nodup) (h4 : ∀k v,F k=some v↔∃x∈es.toList,x.key=(.int .i64 k)∧x.val=v) :
  (F k=none∧(Instr.findKey kt (.int .i64 k) es.toList).run P w = .ok none w∧∀x∈es.toList,x.key≠(.int .i64 k))∨
  ∃j e,F k=some e.val∧(Instr.findKey kt (.int .i64 k) es.toList).run P w = .ok (some (j,e.val)) w∧es[j]? = some e∧e.key=(.int .i64 k):=by
 rcases MapKept.findNow_spec (d:= .int .i64) (k:= .int .i64 k) rfl es.toList 0 h2 with ⟨hf,hn⟩|⟨j,e,hf,he,hek⟩
 ·refine .inl ⟨?_,MapKept.run_findKey hk hf,hn⟩
  cases hF:F k with
  | none=>rfl
  | some v=>obtain⟨x,hx,e1,_⟩:=(h4 k v).1 hF;exact absurd e1 (hn x hx)
 ·refine .inr ⟨j,e,(h4 k e.val).2 ⟨e,bZ.2 ⟨j,he⟩,hek,rfl⟩,by rw [aV]at hf;exact MapKept.run_findKey hk hf,by simpa using he,hek⟩
theorem XD {t kt et:TypeId}{b:Nat}{F:Int->Option Value}{k:Int}{z:Value}(ht:P.underlying t=some (.map kt et))(hk:P.underlying kt=some (.int .i64))(hz:(P.info? et).bind (·.zero)=some z)(h:uy w b F)
  (c:K (.tuple #[(F k).getD z, .bool (F k).isSome]) w):nZ P (Instr.lookup t (.map (some b)) (.int .i64 k) true) w K:=by
 obtain⟨es,cl,hb,h2,h3,h4⟩:=h
 have hc:(Instr.checkKey es.isEmpty 10000 kt (.int .i64 k)).run P w = .ok () w:=MapKept.run_checkKey (k:= .int .i64 k) hk (by simp [MapKept.IsKey]) _ 9999
 rcases uy.find (P:=P) (w:=w) (k:=k) hk (c:=cl) h2 h3 h4 with ⟨hF,hr,_⟩|⟨j,e,hF,hr,_⟩
 ·rw [hF]at c
  refine pI ?_ c
  simp [Instr.lookup,mM ht,MapKept.run_getObj_map hb,hc,hr,zB hz]
 ·rw [hF]at c
  refine pI ?_ c
  simp [Instr.lookup,mM ht,MapKept.run_getObj_map hb,hc,hr]
theorem VJ {t kt et:TypeId}{b:Nat}{F:Int->Option Value}{k:Int}{z:Value}(ht:P.underlying t=some (.map kt et))(hk:P.underlying kt=some (.int .i64))(hz:(P.info? et).bind (·.zero)=some z)(h:uy w b F)
  (c:K ((F k).getD z) w):nZ P (Instr.lookup t (.map (some b)) (.int .i64 k) false) w K:=by
 obtain⟨es,cl,hb,h2,h3,h4⟩:=h
 have hc:(Instr.checkKey es.isEmpty 10000 kt (.int .i64 k)).run P w = .ok () w:=MapKept.run_checkKey (k:= .int .i64 k) hk (by simp [MapKept.IsKey]) _ 9999
 rcases uy.find (P:=P) (w:=w) (k:=k) hk (c:=cl) h2 h3 h4 with ⟨hF,hr,_⟩|⟨j,e,hF,hr,_⟩
 ·rw [hF]at c
  refine pI ?_ c
  simp [Instr.lookup,mM ht,MapKept.run_getObj_map hb,hc,hr,zB hz]
 ·rw [hF]at c
  refine pI ?_ c
  simp [Instr.lookup,mM ht,MapKept.run_getObj_map hb,hc,hr]
theorem aaZ {K:World->Prop}{t kt et:TypeId}{b:Nat}{F:Int->Option Value}{k:Int}{v:Value}(ht:P.underlying t=some (.map kt et))(hk:P.underlying kt=some (.int .i64))(h:uy w b F)
  (c : ∀w',Only b w w'->uy w' b (fun k'=>if k'=k then some v else F k')->K w'):xE P (Instr.mapUpdate t (.map (some b)) (.int .i64 k) v) w K:=by
 obtain⟨es,cl,hb,h2,h3,h4⟩:=h
 have hbl:b<w.heap.size:=(dw.1 hb).1
 have hc:(Instr.checkKey false 10000 kt (.int .i64 k)).run P w = .ok () w:=MapKept.run_checkKey (k:= .int .i64 k) hk (by simp [MapKept.IsKey]) _ 9999
 have only : ∀o,Only b w {w with heap:=w.heap.setIfInBounds b o}:=fun o=>⟨rfl,rfl,rfl,by simp,fun j hj=>by simp [iE (lF hj)]⟩
 have self : ∀o,({w with heap:=w.heap.setIfInBounds b o} : World).heap[b]? = some o:=fun o=>by simp [hbl]
 rcases uy.find (P:=P) (w:=w) (k:=k) hk (c:=cl) h2 h3 h4 with ⟨hF,hr,hn⟩|⟨j,e,hF,hr,hj,hek⟩
 ·refine⟨(),_, ?_,c _ (only (.map (es.push {key:=(.int .i64 k),val:=v,born:=cl}) (cl+1))) ⟨_,_,self _, ?_, ?_, ?_⟩⟩
  ·simp [Instr.mapUpdate,mM ht,MapKept.run_getObj_map hb,hc,hr,MapKept.run_setObj_map _ hb]
  ·intro x hx
   simp only [iy,bK,bF]at hx
   rcases hx with hx|rfl
   ·exact h2 x hx
   ·rfl
  ·simp only [iy,aJ,gG,jB]
   refine List.nodup_append.2 ⟨h3,by simp, ?_⟩
   intro a ha b hb
   simp only [bF]at hb
   subst hb
   obtain⟨x,hx,rfl⟩:=eP.1 ha
   exact hn x hx
  ·intro k' v'
   by_cases e:k'=k
   ·subst e
    simp only [if_true,aN,iy,bK,bF]
    constructor
    ·rintro rfl;exact⟨_, .inr rfl,rfl,rfl⟩
    ·rintro⟨x,hx|rfl,e1,e2⟩
     ·exact absurd e1 (hn x hx)
     ·exact e2
   ·simp only [if_neg e,iy,bK,bF]
    rw [h4]
    constructor
    ·rintro⟨x,hx,e1,e2⟩;exact⟨x, .inl hx,e1,e2⟩
    ·rintro⟨x,hx|rfl,e1,e2⟩
     ·exact⟨x,hx,e1,e2⟩
     ·injection e1 with _ e1;exact absurd e1.symm e
 ·have hks:Instr.sameBits 10000 e.key (.int .i64 k)=true:=by rw [hek];simp [Instr.sameBits]
  have hkey : ∀x∈(es.modify j fun e=> {e with key:=(.int .i64 k),val:=v}).toList,x.key∈es.toList.map (·.key):=fun x hx=>by
   have:x.key∈(es.modify j fun e=> {e with key:=(.int .i64 k),val:=v}).toList.map (·.key):=eP.2 ⟨x,hx,rfl⟩
   rwa [MapKept.modify_keys j _ fun e' he'=>by rw [hj]at he';injection he' with he';subst he';exact hek.symm]at this
  refine⟨(),_, ?_,c _ (only (.map (es.modify j fun e=> {e with key:=(.int .i64 k),val:=v}) cl)) ⟨_,_,self _, ?_, ?_, ?_⟩⟩
  ·simp [Instr.mapUpdate,mM ht,MapKept.run_getObj_map hb,hc,hr,hj,Instr.keyThatStays,hks,MapKept.run_setObj_map _ hb]
  ·exact MapKept.isKey_modify h2 j _ fun e' he'=>by rw [hj]at he';injection he' with he';subst he';exact hek.symm
  ·rw [MapKept.modify_keys j _ fun e' he'=>by rw [hj]at he';injection he' with he';subst he';exact hek.symm];exact h3
  ·intro k' v'
   have hmod : ∀i,(es.modify j fun e=> {e with key:=(.int .i64 k),val:=v}).toList[i]? = if j=i then(es[i]?).map (fun e=> {e with key:=(.int .i64 k),val:=v})else es[i]? :=fun i=>by
    rw [bn,iP]
   have uniq : ∀i x,es[i]? = some x->x.key=(.int .i64 k)->i=j:=fun i x hx hxk=>by
    have hi:i<(es.toList.map (·.key)).length:=by
     have:=(dw.1 hx).1
     simpa using this
    refine(List.getElem?_inj hi h3).1 ?_
    rw [aU,aU,bn,bn,hx,hj]
    simp [hxk,hek]
   constructor
   ·intro hv
    have hv:(if k'=k then some v else F k')=some v':=hv
    by_cases e':k'=k
    ·rw [if_pos e']at hv
     injection hv with hv
     subst hv;subst e'
     exact⟨_,bZ.2 ⟨j,by rw [hmod,if_pos rfl,hj];rfl⟩,rfl,rfl⟩
    ·rw [if_neg e']at hv
     obtain⟨x,hx,e1,e2⟩:=(h4 k' v').1 hv
     obtain⟨i,hi⟩:=bZ.1 hx
     rw [bn]at hi
     have hij : ¬j=i:=fun q=>by
      subst q
      rw [hj]at hi
      injection hi with hi
      subst hi
      rw [hek]at e1
      injection e1 with _ e1
      exact e' e1.symm
     exact⟨x,bZ.2 ⟨i,by rw [hmod,if_neg hij];exact hi⟩,e1,e2⟩
   ·rintro⟨x,hx,e1,e2⟩
    obtain⟨i,hi⟩:=bZ.1 hx
    rw [hmod]at hi
    by_cases hij:j=i
    ·subst hij
     rw [if_pos rfl,hj]at hi
     simp only [bU,aN]at hi
     subst hi
     injection e1 with _ e1
     show (if k'=k then some v else F k')=some v'
     rw [if_pos e1.symm]
     exact congrArg some e2
    ·rw [if_neg hij]at hi
     have e' : ¬k'=k:=fun q=>hij (uniq i x hi (by rw [e1,q])).symm
     show (if k'=k then some v else F k')=some v'
     rw [if_neg e']
     exact(h4 k' v').2 ⟨x,bZ.2 ⟨i,by rw [bn];exact hi⟩,e1,e2⟩
end
abbrev xq (s:ByteArray):List UInt8:=s.data.toList
theorem L8 (s:ByteArray):(xq s).length=s.size:=by simp
section
variable {P:Program}{w:World}{K:Value->World->Prop}
theorem Eh {t:TypeId}{s:ByteArray}{k:IntKind}{ix:Int}(m:Nat)(hm:ix=m)(hu:P.underlying t=some .string)(h:m<s.size)
  (c:K (.int .u8 (s[m].toNat:Int)) w):nZ P (Instr.index t (.string s) (.int k ix)) w K:=by
 refine pI ?_ c
 subst hm
 rw [run_index_string w t s k m hu,dif_pos ⟨by omega,by omega⟩]
 simp
theorem VK {t:TypeId}{s:ByteArray}{kl kh:IntKind}{lo hi:Int}(a b:Nat)(ha:lo=a)(hb:hi=b)(hu:P.underlying t=some .string)(hab:a<=b)(h:b<=s.size)
  (c:K (.string (s.extract a b)) w):nZ P (Instr.sliceAt t (.string s) (some (.int kl lo)) (some (.int kh hi)) none) w K:=by
 refine pI ?_ c
 subst ha;subst hb
 unfold Instr.sliceAt
 rw [Sem.run_bind,mM hu]
 simp only [Result.andThen_ok]
 unfold Instr.slice
 rw [Sem.run_bind,mM hu]
 have h1:(0:Int)<=b∧(b:Int)<=s.size:=⟨by omega,by omega⟩
 have h2:(0:Int)<=a∧(a:Int)<=b:=⟨by omega,by omega⟩
 simp [Instr.sliceBounds,Instr.sliceBound,asIntOf,h1,h2,h,hab]
def Itr (w:World)(b:Nat)(s:ByteArray)(p:Nat):Prop:=w.heap[b]? = some (.stringIter s p)
theorem VL {t:TypeId}{s:ByteArray}(hu:P.underlying t=some .string)(k : ∀w',Below w.heap.size w w'->Itr w' w.heap.size s 0->K (.pointer (some ⟨w.heap.size,0,none⟩)) w') :
  nZ P (Instr.range t (.string s)) w K:=by
 refine pI ?_ (k (w.alloc (.stringIter s 0)) (rP (Below.refl _ _) (aA _) _) (heap_alloc_new w _))
 unfold Instr.range
 simp [mM hu]
theorem Fh {b:Nat}{s:ByteArray}{p:Nat}(h:Itr w b s p):(getObj b).run P w = .ok (.stringIter s p) w:=by
 have h':w.heap[b]? = some (.stringIter s p):=h
 simp [getObj,Sem.run,h']
theorem OW {b:Nat}{s:ByteArray}{p:Nat}(o:Obj)(h:Itr w b s p):(setObj b o).run P w = .ok () {w with heap:=w.heap.setIfInBounds b o}:=by
 have h':w.heap[b]? = some (.stringIter s p):=h
 simp [setObj,Sem.run,h']
theorem Rx {ty:TypeId}{b:Nat}{s:ByteArray}{p:Nat}(h:Itr w b s p)(hp:s.size<=p)(k:K (.tuple #[.bool false]) w):nZ P (Instr.next (.pointer (some ⟨b,0,none⟩)) true ty) w K:=by
 refine pI ?_ k
 unfold Instr.next
 simp [Fh h,Nat.not_lt.2 hp]
theorem aa0 {ty:TypeId}{b:Nat}{s:ByteArray}{p:Nat}(h:Itr w b s p)(hp:p<s.size)
  (k1:s[p].toNat<128->∀w',Only b w w'->Itr w' b s (p+1)->K (.tuple #[.bool true, .int .i64 (p:Nat), .int .i32 (s[p].toNat:Nat)]) w')
  (k2:128<=s[p].toNat->∀w' (c q:Nat),Only b w w'->Itr w' b s q->128<=c->K (.tuple #[.bool true, .int .i64 (p:Nat), .int .i32 (c:Nat)]) w') :
  nZ P (Instr.next (.pointer (some ⟨b,0,none⟩)) true ty) w K:=by
 have hbl:b<w.heap.size:=(dw.1 h).1
 have only : ∀o,Only b w {w with heap:=w.heap.setIfInBounds b o}:=fun o=>⟨rfl,rfl,rfl,by simp,fun j hj=>by simp [iE (lF hj)]⟩
 have self : ∀q,Itr ({w with heap:=w.heap.setIfInBounds b (.stringIter s q)} : World) b s q:=fun q=>by unfold Itr;simp [hbl]
 have hrun : ∀c q,Utf8.decode s p=(c,q)->(Instr.next (.pointer (some ⟨b,0,none⟩)) true ty).run P w = .ok (.tuple #[.bool true,goInt p, .int .i32 c]) {w with heap:=w.heap.setIfInBounds b (.stringIter s (p+q))}:=fun c q hd=>by
  unfold Instr.next
  simp [Fh h,hp,hd,OW _ h]
 have hb0:(s.get! (p+0)).toNat=s[p].toNat:=by
  rw [dS]
  congr 1
  show s.data[p]! = s.data[p]
  exact getElem!_pos s.data p hp
 by_cases hc:s[p].toNat<128
 ·have hd:Utf8.decode s p=(s[p].toNat,1):=by
   unfold Utf8.decode
   simp only [hb0]
   rw [if_pos (by simpa using hc)]
  exact pI (hrun _ _ hd) (k1 hc _ (only _) (self _))
 ·have hd : ∃c q,Utf8.decode s p=(c,q)∧128<=c:=by
   unfold Utf8.decode
   simp only [hb0]
   rw [if_neg (by simpa using hc)]
   split
   ·split
    ·exact⟨_,_,rfl,by omega⟩
    ·exact⟨_,_,rfl,by decide⟩
   ·split
    ·split
     ·rename_i h1;exact⟨_,_,rfl,by simp only [aB,decide_eq_true_eq]at h1;omega⟩
     ·exact⟨_,_,rfl,by decide⟩
    ·split
     ·split
      ·rename_i h1;exact⟨_,_,rfl,by simp only [aB,decide_eq_true_eq]at h1;omega⟩
      ·exact⟨_,_,rfl,by decide⟩
     ·exact⟨_,_,rfl,by decide⟩
  obtain⟨c,q,hd,hc2⟩:=hd
  exact pI (hrun _ _ hd) (k2 (by omega) _ c _ (only _) (self _) hc2)
end
end Go.Proofs.YtocckceefcmeaaaGreatDoor.Vc
