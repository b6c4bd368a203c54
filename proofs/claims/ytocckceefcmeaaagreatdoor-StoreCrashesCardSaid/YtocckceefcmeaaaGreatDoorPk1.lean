/- Joined parts of the proof. A verification-condition reckoner for the model's code: the frame as a function of slots, one rule an operation; its sou -/
import Derived.Calls
import Derived.Orders
import Derived.OrdersHeld
import Derived.Below
import Derived.Laws.Sem
import Derived.Laws.World
import Derived.Laws.IdiomStrings
import Derived.Laws.Tables
import Derived.Laws.Small
set_option linter.unusedVariables false
set_option linter.unusedSimpArgs false
set_option maxRecDepth 100000
set_option maxHeartbeats 16000000
namespace Go.Proofs.YtocckceefcmeaaaGreatDoor.Vc
open Go Go.RowKit
abbrev aU:=Nat→Value
def upd (ρ:aU)(d:Nat)(v:Value):aU:=fun n=>bif Nat.beq n d then v else ρ n
def dK (ρ:aU)(d:Option Nat)(v:Value):aU:=match d with | some d=>upd ρ d v | none=>ρ
def gu (ρ:aU)(x:Operand):Value:=
 match x with
 | .tmp t=>ρ t
 | .const v=>v
 | .global g=> .pointer (some ⟨g,0,none⟩)
 | .func f=> .func (.func f) #[] #[]
structure Fits (N:Nat)(ds:List Deferred)(ρ:aU)(a:Act):Prop where
 size:a.tmps.size=N
 get : ∀t,a.tmps.getD t undef=ρ t
 defers:a.defers=ds
theorem Fits.eval {N:Nat}{ds:List Deferred}{ρ:aU}{a:Act}(h:Fits N ds ρ a):a.eval=gu ρ:=by
 funext x
 cases x with
 | tmp t=>exact h.get t
 | _=>rfl
theorem Fits.put {N:Nat}{ds:List Deferred}{ρ:aU}{a:Act}(h:Fits N ds ρ a)(d:Option Nat)(v:Value)(hd : ∀t,d=some t→t<N) :
  Fits N ds (dK ρ d v) (a.put d v):=by
 cases d with
 | none=>exact h
 | some t=>
  refine⟨by simp [Act.put,h.size],fun s=> ?_,by simp [Act.put,h.defers]⟩
  have ht:t<a.tmps.size:=by rw [h.size];exact hd t rfl
  by_cases hs:s=t
  ·subst hs
   simp [Act.put,dK,upd,ht]
  ·have hb:Nat.beq s t=false:=by
    cases hb:Nat.beq s t with
    | false=>rfl
    | true=>exact absurd (Nat.eq_of_beq_eq_true hb) hs
   have h1:=h.get s
   have hst:t≠s:=fun e=>hs e.symm
   simp only [Act.put,dK,upd,hb,cond_false]
   rw [←h1]
   simp [Array.getElem?_setIfInBounds_ne hst]
structure bQ (P:Program)(s:Sem Value)(w:World)(K:Value→World→Prop):Prop where
 ex : ∃v w',s.run P w = .ok v w'∧K v w'
structure lX (P:Program)(s:Sem Unit)(w:World)(K:World→Prop):Prop where
 ex : ∃u w',s.run P w = .ok u w'∧K w'
def callable (P:Program)(f:FuncId):Bool:=
 match P.funcs[f]? with
 | some fn=> !(fn.name== "runtime.NumGoroutine")&&fn.body.isSome
 | none=>false
structure O4 (P:Program)(f:FuncId)(args:Array Value)(w:World)(K:Value→World→Prop):Prop where
 ok:callable P f=true
 runs:Calls P f args w fun e w'=> ∃v,e = .returned v∧K v w'
structure ay (p k:Prop):Prop where
 req:p
 go:k
structure gK (p k:Prop):Prop where
 req:p
 go:k
def wr (q:Bool)(w:World)(K:Value→World→Prop):Value→World→Prop:=
 match q with
 | true=>fun v w'=>gK (w'=w) (K v w')
 | false=>K
def E5 (b:Bool)(t e:Prop):Prop:=match b with | true=>t | false=>e
theorem ah {b:Bool}{t e:Prop}(ht:b=true→t)(he:b=false→e):E5 b t e:=by
 cases b
 ·exact he rfl
 ·exact ht rfl
theorem yO {b:Bool}{t e:Prop}(hb:b=true)(ht:t):E5 b t e:=by subst hb;exact ht
theorem pV {b:Bool}{t e:Prop}(hb:b=false)(ht:e):E5 b t e:=by subst hb;exact ht
def force (v:Value)(k:Value→Prop):Prop:=
 match v with
 | .bool b=>k (.bool b)
 | .int q n=>k (.int q n)
 | .float q n=>k (.float q n)
 | .complex q a b=>k (.complex q a b)
 | .string s=>k (.string s)
 | .pointer a=>k (.pointer a)
 | .slice a n c=>k (.slice a n c)
 | .map r=>k (.map r)
 | .chan r=>k (.chan r)
 | .func f a b=>k (.func f a b)
 | .nilFunc=>k .nilFunc
 | .iface t v=>k (.iface t v)
 | .nilIface=>k .nilIface
 | .agg cs=>k (.agg cs)
 | .tuple vs=>k (.tuple vs)
theorem force_eq (v:Value)(k:Value→Prop):force v k=k v:=by cases v<;>rfl
def mM (l:List Value)(k:List Value→Prop):Prop:=
 match l with
 | []=>k []
 | x::r=>force x fun x'=>mM r fun r'=>k (x'::r')
theorem cu (l:List Value) : ∀k:List Value→Prop,mM l k=k l:=by
 induction l with
 | nil=>intro k;rfl
 | cons x r ih=>intro k;simp only [mM,force_eq,ih]
def uM (v:Option Value)(k:Option Value→Prop):Prop:=
 match v with
 | some v=>force v fun v'=>k (some v')
 | none=>k none
theorem uN (v:Option Value)(k:Option Value→Prop):uM v k=k v:=by cases v<;>simp [uM,force_eq]
def bn (op:BinOp)(k:IntKind)(a b:Int):Int:=
 match op with
 | .and=>k.wrap (BitVec.ofInt k.bits a &&& BitVec.ofInt k.bits b).toNat
 | .or=>k.wrap (BitVec.ofInt k.bits a ||| BitVec.ofInt k.bits b).toNat
 | .xor=>k.wrap (BitVec.ofInt k.bits a ^^^ BitVec.ofInt k.bits b).toNat
 | _=>k.wrap (BitVec.ofInt k.bits a &&& ~~~(BitVec.ofInt k.bits b)).toNat
def Iu (op:BinOp)(k:IntKind)(a b:Int)(w:World)(K:Value→World→Prop):Prop:=
 match op with
 | .add=>K (.int k (k.wrap (a+b))) w
 | .sub=>K (.int k (k.wrap (a-b))) w
 | .mul=>K (.int k (k.wrap (a*b))) w
 | .quo=>ay (b≠0) (K (.int k (k.wrap (a.tdiv b))) w)
 | .rem=>ay (b≠0) (K (.int k (a.tmod b)) w)
 | .and=>K (.int k (bn .and k a b)) w
 | .or=>K (.int k (bn .or k a b)) w
 | .xor=>K (.int k (bn .xor k a b)) w
 | .andNot=>K (.int k (bn .andNot k a b)) w
 | .shl=>ay (0≤b) (K (.int k (k.wrap (a*2^min b.toNat k.bits))) w)
 | .shr=>ay (0≤b) (K (.int k (a.fdiv (2^min b.toNat k.bits))) w)
 | .eql=>K (.bool (a==b)) w
 | .neq=>K (.bool (a != b)) w
 | .lss=>K (.bool (decide (a<b))) w
 | .leq=>K (.bool (decide (a≤b))) w
 | .gtr=>K (.bool (decide (a>b))) w
 | .geq=>K (.bool (decide (a≥b))) w
def oU (a b:ByteArray):Bool:=a.toList==b.toList
def E8 (a b:ByteArray):Bool:=Op.bytesLess a.toList b.toList
def xG (a b:ByteArray):ByteArray:=bif E8 a b||oU a b then a else b
def xH (a b:ByteArray):ByteArray:=bif !E8 a b then a else b
def Uo (op:BinOp)(a b:ByteArray)(w:World)(K:Value→World→Prop):Prop:=
 match op with
 | .add=>ay (((a.size+b.size:Nat):Int)≤IntKind.i64.max) (K (.string (a++b)) w)
 | .eql=>K (.bool (oU a b)) w
 | .neq=>K (.bool (!oU a b)) w
 | .lss=>K (.bool (E8 a b)) w
 | .leq=>K (.bool (E8 a b||oU a b)) w
 | .gtr=>K (.bool (!(E8 a b||oU a b))) w
 | .geq=>K (.bool (!E8 a b)) w
 | _=>False
def uO (P:Program)(q:Bool)(op:BinOp)(t:TypeId)(x y:Operand)(a b:Value)(w:World)(K:Value→World→Prop):Prop:=
 match a,b with
 | .int k m, .int k' n=>(match op with
  | .shl=>Iu .shl k m n w K
  | .shr=>Iu .shr k m n w K
  | op=>bif decide (k=k')then Iu op k m n w K else False)
 | .string m, .string n=>Uo op m n w K
 | .bool m, .bool n=>(match op with
  | .eql=>(match P.underlying t with | some .bool=>K (.bool (m==n)) w | _=>False)
  | .neq=>(match P.underlying t with | some .bool=>K (.bool (!(m==n))) w | _=>False)
  | _=>False)
 | a,b=>bQ P (do eqGuard op t x y a b;binOp op t a b) w (wr q w K)
def vUn (P:Program)(q:Bool)(op:UnOp)(a:Value)(w:World)(K:Value→World→Prop):Prop:=
 match op,a with
 | .not, .bool b=>K (.bool (!b)) w
 | .neg, .int k n=>K (.int k (k.wrap (0-n))) w
 | op,a=>bQ P (Op.unary op a) w (wr q w K)
def qK (P:Program)(q:Bool)(src dst:TypeId)(a:Value)(w:World)(K:Value→World→Prop):Prop:=
 match P.underlying src,P.underlying dst,a with
 | some _,some (.int k), .int _ n=>K (.int k (k.wrap n)) w
 | some (.string),some .string, .string s=>K (.string s) w
 | _,_,a=>bQ P (convert src dst a) w (wr q w K)
def oW (P:Program)(t:TypeId):Option Bool:=
 match P.underlying t with
 | some (.struct _)=>some true
 | some (.array _ _)=>some true
 | some _=>some false
 | none=>none
def uP (P:Program)(t:TypeId)(cs:Array Value)(f:Nat)(w:World)(K:Value→World→Prop):Prop:=
 match P.underlying t with
 | some (.struct fs)=>(match fs.toList[f]? with
  | some fd=>(match oW P fd.type,P.info? fd.type with
   | some true,some i=>mM ((cs.toList.drop fd.offset).take i.size) fun l=>K (.agg l.toArray) w
   | some false,some _=>(match cs.toList[fd.offset]? with
    | some v=>K v w
    | none=>False)
   | _,_=>False)
  | none=>False)
 | _=>False
def kZ (P:Program)(t:TypeId)(a:Addr)(f:Nat)(w:World)(K:Value→World→Prop):Prop:=
 match P.underlying t with
 | some (.struct fs)=>(match fs.toList[f]? with
  | some fd=>(match P.info? fd.type with
   | some i=>bif Nat.beq i.size 0 then False else K (.pointer (some (a.add fd.offset))) w
   | none=>False)
  | none=>False)
 | _=>False
def kE (cells:List Value)(off:Nat)(vs:List Value):List Value:=
 match vs with
 | []=>cells
 | c::r=>kE (cells.set off c) (off+1) r
def oJ (place:Nat→Option (Nat×Nat))(cells:List Value)(parts:List (Nat×Value)):Option (List Value):=
 match parts with
 | []=>some cells
 | (i,v)::rest=>(match place i with
  | none=>none
  | some (off,size)=>bif Nat.beq v.cells.toList.length size&&Nat.ble (off+v.cells.toList.length) cells.length then oJ place (kE cells off v.cells.toList) rest else none)
def pW (P:Program)(fs:List Field):Option (List (Nat×Nat)):=
 match fs with
 | []=>some []
 | f::r=>(match P.info? f.type,pW P r with
  | some i,some l=>some ((f.offset,i.size)::l)
  | _,_=>none)
def uQ (P:Program)(t:TypeId)(parts:List (Nat×Value))(w:World)(K:Value→World→Prop):Prop:=
 match (P.info? t).bind (·.zero),P.underlying t with
 | some z,some (.struct fs)=>(match pW P fs.toList with
  | some pl=>(match oJ (fun i=>pl[i]?) z.cells.toList parts with
   | some l=>mM l fun l=>K (.agg l.toArray) w
   | none=>False)
  | none=>False)
 | some z,some (.array _ e)=>(match P.info? e with
  | some i=>(match oJ (fun j=>some (j*i.size,i.size)) z.cells.toList parts with
   | some l=>mM l fun l=>K (.agg l.toArray) w
   | none=>False)
  | none=>False)
 | _,_=>False
def jV (P:Program)(t:TypeId)(n:Nat)(parts:List (Nat×Value))(w:World)(K:Value→World→Prop):Prop:=
 match P.underlying t with
 | some (.slice e)=>(match P.info? e with
  | some i=>(match i.zero with
   | some z=>bif Nat.beq z.cells.toList.length i.size&&Nat.ble 1 i.size&&Nat.ble (n*i.size) 16777216 then
     (match oJ (fun j=>some (j*i.size,i.size)) (List.replicate n z.cells.toList).flatten parts with
     | some l=>mM l fun l=>K (.slice (some ⟨w.heap.size,0,none⟩) n n) (w.alloc (.cells l.toArray e))
     | none=>False)else False
   | none=>False)
  | none=>False)
 | _=>False
def lY (ρ:aU)(xs:List Operand)(k:List Value→Prop):Prop:=mM (xs.map (gu ρ)) k
def uS (P:Program)(q:Bool)(t ty:TypeId)(a:Value)(w:World)(K:Value→World→Prop):Prop:=
 match P.underlying t,a with
 | some .string, .string s=>K (.int .i64 s.size) w
 | some (.slice _), .slice _ n _=>K (.int .i64 n) w
 | some (.array n _),_=>K (.int .i64 n) w
 | _,a=>bQ P (Builtin.len_ #[t] ty #[a]) w (wr q w K)
def uT (P:Program)(q:Bool)(b:Builtin)(ts:List TypeId)(ty:TypeId)(args:List Value)(w:World)(K:Value→World→Prop):Prop:=
 match b,ts,args with
 | .len,[t],[a]=>uS P q t ty a w K
 | .min,_,[.int k x, .int _ y]=>K (.int k (min x y)) w
 | .max,_,[.int k x, .int _ y]=>K (.int k (max x y)) w
 | .min,_,[.string x, .string y]=>K (.string (xG x y)) w
 | .max,_,[.string x, .string y]=>K (.string (xH x y)) w
 | .append,ts,args=>bQ P (Builtin.append_ ts.toArray ty args.toArray) w (wr q w K)
 | .copy,ts,args=>bQ P (Builtin.copy_ ts.toArray ty args.toArray) w (wr q w K)
 | .min,ts,args=>bQ P (Builtin.min_ ts.toArray ty args.toArray) w (wr q w K)
 | .max,ts,args=>bQ P (Builtin.max_ ts.toArray ty args.toArray) w (wr q w K)
 | .len,ts,args=>bQ P (Builtin.len_ ts.toArray ty args.toArray) w (wr q w K)
 | .cap,ts,args=>bQ P (Builtin.cap_ ts.toArray ty args.toArray) w (wr q w K)
 | .delete,ts,args=>bQ P (Builtin.delete_ ts.toArray ty args.toArray) w (wr q w K)
 | .clear,ts,args=>bQ P (Builtin.clear_ ts.toArray ty args.toArray) w (wr q w K)
 | _,_,_=>False
def yP (P:Program)(q:Bool)(ρ:aU)(c:Call)(ty:TypeId)(w:World)(K:Value→World→Prop):Prop:=
 match c.callee with
 | .builtin b=>lY ρ c.args.toList fun args=>uT P q b c.argTypes.toList ty args w K
 | .value f=>(match gu ρ f with
  | .func (.func g) first captured=>lY ρ c.args.toList fun args=>O4 P g ((first++args.toArray)++captured) w K
  | _=>False)
 | .invoke _ _=>False
def Bg (P:Program)(q:Bool)(o:Oper)(ρ:aU)(w:World)(K:Value→World→Prop):Prop:=
 match o.op with
 | .move x=>force (gu ρ x) fun v=>K v w
 | .assign x=>force (gu ρ x) fun v=>K v w
 | .pick c a b=>(match gu ρ c with
  | .bool t=>(match gu ρ a,gu ρ b with
   | .bool x, .bool y=>K (.bool (bif t then x else y)) w
   | _,_=>E5 t (K (gu ρ a) w) (K (gu ρ b) w))
  | _=>False)
 | .alloc elem=>(match (P.info? elem).bind (·.zero)with
  | some (.agg cs)=>K (.pointer (some ⟨w.heap.size,0,none⟩)) (w.alloc (.cells cs elem))
  | some z=>K (.pointer (some ⟨w.heap.size,0,none⟩)) (w.alloc (.cells z.cells elem))
  | none=>False)
 | .box elem x=>force (gu ρ x) fun v=>(match v with
  | .agg cs=>K (.pointer (some ⟨w.heap.size,0,none⟩)) (w.alloc (.cells cs elem))
  | v=>K (.pointer (some ⟨w.heap.size,0,none⟩)) (w.alloc (.cells v.cells elem)))
 | .build t parts=>mM (parts.toList.map fun p=>gu ρ p.2) fun vs=>uQ P t ((parts.toList.map (·.1)).zip vs) w K
 | .buildSlice t n parts=>mM (parts.toList.map fun p=>gu ρ p.2) fun vs=>jV P t n ((parts.toList.map (·.1)).zip vs) w K
 | .load t a=>(match gu ρ a with
  | .pointer (some a)=>bQ P (loadVar t a) w (wr q w K)
  | _=>False)
 | .store t a x=>(match gu ρ a with
  | .pointer (some a)=>force (gu ρ x) fun v=>lX P (storeVar t a v) w fun w'=>K undef w'
  | _=>False)
 | .nilCheck x=>(match gu ρ x with
  | .pointer (some a)=>K (.pointer (some a)) w
  | _=>False)
 | .binOp op t x y _=>uO P q op t x y (gu ρ x) (gu ρ y) w K
 | .unOp op _ x=>vUn P q op (gu ρ x) w K
 | .convert src dst x=>qK P q src dst (gu ρ x) w K
 | .makeFunc fn first captured=>lY ρ first.toList fun a=>lY ρ captured.toList fun b=>K (.func fn a.toArray b.toArray) w
 | .makeMap t r=>uM (r.map (gu ρ)) fun r=>bQ P (Instr.makeMap t r) w (wr q w K)
 | .makeSlice t l c=>force (gu ρ l) fun l=>force (gu ρ c) fun c=>bQ P (Instr.makeSlice t l c) w (wr q w K)
 | .slice t x lo hi mx=>force (gu ρ x) fun x=>uM (lo.map (gu ρ)) fun lo=>uM (hi.map (gu ρ)) fun hi=>uM (mx.map (gu ρ)) fun mx=>
   bQ P (Instr.sliceAt t x lo hi mx) w (wr q w K)
 | .fieldAddr s x f=>(match gu ρ x with
  | .pointer (some a)=>kZ P s a f w K
  | _=>False)
 | .field t x f=>(match gu ρ x with
  | .agg cs=>uP P t cs f w K
  | _=>False)
 | .indexAddr t x i=>force (gu ρ x) fun x=>force (gu ρ i) fun i=>bQ P (Instr.indexAt t x i) w (wr q w K)
 | .index t x i=>force (gu ρ x) fun x=>force (gu ρ i) fun i=>bQ P (Instr.index t x i) w (wr q w K)
 | .lookup t x i ok=>force (gu ρ x) fun x=>force (gu ρ i) fun i=>bQ P (Instr.lookup t x i ok) w (wr q w K)
 | .mapUpdate t m k x=>force (gu ρ m) fun m=>force (gu ρ k) fun k=>force (gu ρ x) fun x=>lX P (Instr.mapUpdate t m k x) w fun w'=>K undef w'
 | .insert t m k x=>force (gu ρ m) fun m=>force (gu ρ k) fun k=>force (gu ρ x) fun x=>lX P (Instr.mapUpdate t m k x) w fun w'=>K undef w'
 | .range t x=>force (gu ρ x) fun x=>bQ P (Instr.range t x) w (wr q w K)
 | .next it s=>force (gu ρ it) fun it=>bQ P (Instr.next it s o.type) w (wr q w K)
 | .entry it=>force (gu ρ it) fun it=>bQ P (Instr.entry it) w (wr q w K)
 | .extract t i=>(match gu ρ t with
  | .tuple vs=>(match vs.toList[i]? with
   | some v=>K v w
   | none=>False)
  | _=>False)
 | .call c=>yP P q ρ c o.type w K
 | _=>False
theorem Oper.abP {P:Program}{o:Oper}{a:Act}{w:World}{next:Act→World→Prop}{Q:Exit→Act→World→Prop}{v:Value}{w':World}
  (h:(execOp a.eval o).run P w = .ok (.value v) w') (k:next (a.put o.dst v) w'):o.wp P a w next Q:=by
 unfold Oper.wp;rw [h];exact k
theorem Oper.Iw {P:Program}{o:Oper}{a:Act}{w:World}{next:Act→World→Prop}{Q:Exit→Act→World→Prop}{w':World}
  (h:(execOp a.eval o).run P w = .ok .skip w') (k:next (a.put o.dst undef) w'):o.wp P a w next Q:=by
 unfold Oper.wp;rw [h];exact k
def dY (o:Oper):Bool:=
 match o.op with
 | .move _ | .assign _ | .pick _ _ _ | .nilCheck _ | .binOp _ _ _ _ _ | .unOp _ _ _ | .convert _ _ _ | .fieldAddr _ _ _ | .field _ _ _
 | .indexAddr _ _ _ | .index _ _ _ | .slice _ _ _ _ _ | .lookup _ _ _ _ | .extract _ _ | .makeFunc _ _ _ | .load _ _ | .build _ _=>true
 | .call c=>(match c.callee with
  | .builtin .len=>true
  | .builtin .min=>true
  | .builtin .max=>true
  | .builtin .cap=>true
  | _=>false)
 | _=>false
def rP (o:Oper):Bool:=
 match o.op with
 | .move _ | .assign _ | .extract _ _ | .makeFunc _ _ _ | .nilCheck _=>true
 | _=>false
def Did (P:Program)(q:Bool)(o:Oper)(ρ:aU)(w:World)(K:Value→World→Prop):Prop:=
 (∃v w',(execOp (gu ρ) o).run P w = .ok (.value v) w'∧K v w'∧(q=true→dY o=true→w'=w))∨
 (∃w',(execOp (gu ρ) o).run P w = .ok .skip w'∧K undef w'∧dY o=false)∨
 (∃f args,(execOp (gu ρ) o).run P w = .ok (.enter f args) w∧dY o=false∧Calls P f args w fun e w'=> ∃v,e = .returned v∧K v w')
theorem Did.wp {P:Program}{q:Bool}{o:Oper}{ρ:aU}{a:Act}{w:World}{K:Value→World→Prop}{next:Act→World→Prop}{Q:Exit→Act→World→Prop}
  (he:a.eval=gu ρ) (h:Did P q o ρ w K) (hk : ∀v w',K v w'→next (a.put o.dst v) w'):o.wp P a w next Q:=by
 rcases h with ⟨v,w',hr,k,_⟩ | ⟨w',hr,k,_⟩ | ⟨f,args,hr,_,hc⟩
 ·exact Oper.abP (he▸hr) (hk _ _ k)
 ·exact Oper.Iw (he▸hr) (hk _ _ k)
 ·unfold Oper.wp
  rw [he,hr]
  exact hc.mono fun e w' ⟨v,hv,k⟩=>by subst hv;exact hk _ _ k
theorem Did.quiet {P:Program}{o:Oper}{ρ:aU}{w:World}{K:Value→World→Prop}(hq:dY o=true)(h:Did P true o ρ w K) :
  ∃v,(execOp (gu ρ) o).run P w = .ok (.value v) w∧K v w:=by
 rcases h with ⟨v,w',hr,k,he⟩ | ⟨w',hr,k,he⟩ | ⟨f,args,hr,he,hc⟩
 ·have:=he rfl hq
  subst this
  exact⟨v,hr,k⟩
 ·rw [hq]at he;cases he
 ·rw [hq]at he;cases he
theorem aO {P:Program}{t:TypeId}{d:TypeDesc}{w:World}(h:P.underlying t=some d):(underlying t).run P w = .ok d w:=by
 unfold underlying
 simp [h]
theorem jh {P:Program}{t:TypeId}{i:TypeInfo}{w:World}(h:P.info? t=some i):(typeInfo t).run P w = .ok i w:=by
 unfold typeInfo
 simp [h]
theorem bI {P:Program}{o:Oper}{ρ:aU}{w:World}{K:Value→World→Prop}{q:Bool}{v:Value}{w':World}
  (h:(execOp (gu ρ) o).run P w = .ok (.value v) w') (k:K v w') (hq:q=true→dY o=true→w'=w):Did P q o ρ w K:= .inl ⟨v,w',h,k,hq⟩
theorem abQ {q:Bool}{w w':World}{K:Value→World→Prop}{v:Value}(h:wr q w K v w'):K v w':=by
 cases q with
 | false=>exact h
 | true=>exact h.go
theorem bQ.un {P:Program}{s:Sem Value}{q:Bool}{w:World}{K:Value→World→Prop}(h:bQ P s w (wr q w K)) :
  ∃v w',s.run P w = .ok v w'∧K v w'∧(q=true→w'=w):=
 let ⟨v,w',hr,hk⟩:=h.ex
 ⟨v,w',hr,abQ hk,fun e=>by subst e;exact hk.req⟩
theorem bQ.same {P:Program}{s:Sem Value}{w:World}{K:Value→World→Prop}(h:bQ P s w (wr true w K)) :
  ∃v,s.run P w = .ok v w∧K v w:=
 let ⟨v,w',hr,hk⟩:=h.ex
 ⟨v,by have:=hk.req;subst this;exact⟨hr,hk.go⟩⟩
theorem lX.un {P:Program}{s:Sem Unit}{w:World}{K:World→Prop}(h:lX P s w K) : ∃u w',s.run P w = .ok u w'∧K w':=h.ex
theorem jE {P:Program}{s:Sem Value}{w w':World}{v:Value}(h:s.run P w = .ok v w') :
  (do pure (Next.value (←s)):Sem Next).run P w = .ok (.value v) w':=by
 simp [h]
theorem O5 {P:Program}{s:Sem Unit}{w w':World}{u:Unit}(h:s.run P w = .ok u w') :
  (do s;pure Next.skip:Sem Next).run P w = .ok .skip w':=by
 simp [h]
theorem O6 {P:Program}{op:BinOp}{t:TypeId}{x y:Operand}{k:IntKind}{m n:Int}{w:World}{K:Value→World→Prop}
  (h:Iu op k m n w K) : ∃v,(do eqGuard op t x y (.int k m) (.int k n);binOp op t (.int k m) (.int k n):Sem Value).run P w = .ok v w∧K v w:=by
 have hg:(eqGuard op t x y (.int k m) (.int k n)).run P w = .ok () w:=by
  cases op<;>simp [eqGuard]
 cases op<;>simp only [Iu]at h
 case add=>exact⟨_,by rw [Sem.run_bind,hg];simp [binOp,Op.intArith],h⟩
 case sub=>exact⟨_,by rw [Sem.run_bind,hg];simp [binOp,Op.intArith],h⟩
 case mul=>exact⟨_,by rw [Sem.run_bind,hg];simp [binOp,Op.intArith],h⟩
 case quo=>exact⟨_,by rw [Sem.run_bind,hg];simp [binOp,Op.intDiv,h.req],h.go⟩
 case rem=>exact⟨_,by rw [Sem.run_bind,hg];simp [binOp,Op.intDiv,h.req],h.go⟩
 case and=>exact⟨_,by rw [Sem.run_bind,hg];simp [binOp,Op.intBits,bn],h⟩
 case or=>exact⟨_,by rw [Sem.run_bind,hg];simp [binOp,Op.intBits,bn],h⟩
 case xor=>exact⟨_,by rw [Sem.run_bind,hg];simp [binOp,Op.intBits,bn],h⟩
 case andNot=>exact⟨_,by rw [Sem.run_bind,hg];simp [binOp,Op.intBits,bn],h⟩
 case shl=>exact⟨_,by rw [Sem.run_bind,hg];simp [binOp,Op.shift,Int.not_lt.2 h.req],h.go⟩
 case shr=>exact⟨_,by rw [Sem.run_bind,hg];simp [binOp,Op.shift,Int.not_lt.2 h.req],h.go⟩
 case eql=>exact⟨_,by rw [Sem.run_bind,hg];simp [binOp,Op.intCmp],h⟩
 case neq=>exact⟨_,by rw [Sem.run_bind,hg];simp [binOp,Op.intCmp],h⟩
 case lss=>exact⟨_,by rw [Sem.run_bind,hg];simp [binOp,Op.intCmp],h⟩
 case leq=>exact⟨_,by rw [Sem.run_bind,hg];simp [binOp,Op.intCmp],h⟩
 case gtr=>exact⟨_,by rw [Sem.run_bind,hg];simp [binOp,Op.intCmp],h⟩
 case geq=>exact⟨_,by rw [Sem.run_bind,hg];simp [binOp,Op.intCmp],h⟩
theorem yQ {P:Program}{op:BinOp}{t:TypeId}{x y:Operand}{k k':IntKind}{m n:Int}{w:World}{K:Value→World→Prop}
  (ho:op = .shl∨op = .shr) (h:Iu op k m n w K) : ∃v,(do eqGuard op t x y (.int k m) (.int k' n);binOp op t (.int k m) (.int k' n):Sem Value).run P w = .ok v w∧K v w:=by
 rcases ho with rfl | rfl
 ·exact⟨_,by simp [eqGuard,binOp,Op.shift,Int.not_lt.2 h.req],h.go⟩
 ·exact⟨_,by simp [eqGuard,binOp,Op.shift,Int.not_lt.2 h.req],h.go⟩
theorem O7 {P:Program}{op:BinOp}{t:TypeId}{x y:Operand}{m n:ByteArray}{w:World}{K:Value→World→Prop}
  (h:Uo op m n w K) : ∃v,(do eqGuard op t x y (.string m) (.string n);binOp op t (.string m) (.string n):Sem Value).run P w = .ok v w∧K v w:=by
 have hg:(eqGuard op t x y (.string m) (.string n)).run P w = .ok () w:=by
  cases op<;>simp [eqGuard]
 cases op<;>simp only [Uo]at h
 case add=>exact⟨_,by rw [Sem.run_bind,hg];simp only [Result.andThen_ok,binOp,Op.stringOp,if_neg (Int.not_lt.2 h.req)];rfl,h.go⟩
 case eql=>exact⟨_,by rw [Sem.run_bind,hg];rfl,h⟩
 case neq=>exact⟨_,by rw [Sem.run_bind,hg];rfl,h⟩
 case lss=>exact⟨_,by rw [Sem.run_bind,hg];rfl,h⟩
 case leq=>exact⟨_,by rw [Sem.run_bind,hg];rfl,h⟩
 case gtr=>exact⟨_,by rw [Sem.run_bind,hg];rfl,h⟩
 case geq=>exact⟨_,by rw [Sem.run_bind,hg];rfl,h⟩
 all_goals exact h.elim
theorem yR {P:Program}{t:TypeId}{m n:Bool}{w:World}(hu:P.underlying t=some .bool) :
  (Op.equal t (.bool m) (.bool n)).run P w = .ok (m==n) w:=by
 obtain⟨d,hd⟩ : ∃d,Op.maxDepth=d+1:=⟨Op.maxDepth-1,by decide⟩
 unfold Op.equal
 rw [hd]
 unfold Op.equalIn
 rw [Sem.run_bind,aO hu]
 rfl
theorem O8 {P:Program}{q:Bool}{op:BinOp}{t:TypeId}{x y:Operand}{a b:Value}{w:World}{K:Value→World→Prop}
  (h:uO P q op t x y a b w K) : ∃v w',(do eqGuard op t x y a b;binOp op t a b:Sem Value).run P w = .ok v w'∧K v w'∧(q=true→w'=w):=by
 unfold uO at h
 split at h
 ·rename_i k m k' n
  split at h
  ·obtain⟨v,hr,hk⟩:=yQ (P:=P) (t:=t) (x:=x) (y:=y) (k':=k') (.inl rfl) h;exact⟨v,w,hr,hk,fun _=>rfl⟩
  ·obtain⟨v,hr,hk⟩:=yQ (P:=P) (t:=t) (x:=x) (y:=y) (k':=k') (.inr rfl) h;exact⟨v,w,hr,hk,fun _=>rfl⟩
  ·by_cases hkk:k=k'
   ·subst hkk
    simp only [decide_true,cond_true]at h
    obtain⟨v,hr,hk⟩:=O6 (P:=P) (t:=t) (x:=x) (y:=y) h;exact⟨v,w,hr,hk,fun _=>rfl⟩
   ·simp [hkk]at h
 ·obtain⟨v,hr,hk⟩:=O7 (P:=P) (t:=t) (x:=x) (y:=y) h;exact⟨v,w,hr,hk,fun _=>rfl⟩
 ·rename_i m n
  split at h
  ·split at h
   ·rename_i hu
    exact⟨_,w,by rw [Sem.run_bind];simp only [eqGuard,binOp,yR hu,Sem.run_bind,Result.andThen_ok];rfl,h,fun _=>rfl⟩
   ·exact h.elim
  ·split at h
   ·rename_i hu
    exact⟨_,w,by rw [Sem.run_bind];simp only [eqGuard,binOp,yR hu,Sem.run_bind,Result.andThen_ok];rfl,h,fun _=>rfl⟩
   ·exact h.elim
  ·exact h.elim
 ·exact h.un
theorem Ur {P:Program}{q:Bool}{op:UnOp}{a:Value}{w:World}{K:Value→World→Prop}(h:vUn P q op a w K) :
  ∃v w',(Op.unary op a).run P w = .ok v w'∧K v w'∧(q=true→w'=w):=by
 unfold vUn at h
 split at h
 ·exact⟨_,w,by simp [Op.unary],h,fun _=>rfl⟩
 ·exact⟨_,w,by simp [Op.unary,Op.intArith],h,fun _=>rfl⟩
 ·exact h.un
theorem Nh {P:Program}{q:Bool}{src dst:TypeId}{a:Value}{w:World}{K:Value→World→Prop}(h:qK P q src dst a w K) :
  ∃v w',(convert src dst a).run P w = .ok v w'∧K v w'∧(q=true→w'=w):=by
 unfold qK at h
 split at h
 ·rename_i d k q n h1 h2
  refine⟨_,w, ?_,h,fun _=>rfl⟩
  unfold convert
  rw [Sem.run_bind,aO h1,Result.andThen_ok,Sem.run_bind,aO h2,Result.andThen_ok]
  cases d<;>rfl
 ·rename_i s h1 h2
  refine⟨_,w, ?_,h,fun _=>rfl⟩
  unfold convert
  rw [Sem.run_bind,aO h1,Result.andThen_ok,Sem.run_bind,aO h2,Result.andThen_ok]
  rfl
 ·exact h.un
theorem iV {P:Program}{t:TypeId}{b:Bool}{w:World}(h:oW P t=some b):(isAgg t).run P w = .ok b w:=by
 unfold oW at h
 unfold isAgg
 split at h
 ·rename_i hu;rw [Sem.run_bind,aO hu];simp at h;subst h;rfl
 ·rename_i hu;rw [Sem.run_bind,aO hu];simp at h;subst h;rfl
 ·rename_i d h1 h2 hu
  rw [Sem.run_bind,aO hu]
  simp at h
  subst h
  cases d<;>first | rfl | exact(h1 _ rfl).elim | exact(h2 _ _ rfl).elim
 ·cases h
theorem Iy {P:Program}{t:TypeId}{cs:Array Value}{f:Nat}{w:World}{K:Value→World→Prop}(h:uP P t cs f w K) :
  ∃v,(Instr.field t (.agg cs) f).run P w = .ok v w∧K v w:=by
 unfold uP at h
 split at h
 ·rename_i fs hu
  split at h
  ·rename_i fd hf
   have hf':fs[f]? = some fd:=by rw [←hf];simp
   unfold Instr.field
   rw [Sem.run_bind,aO hu,Result.andThen_ok]
   simp only [hf']
   split at h
   ·rename_i i ha hi
    rw [cu]at h
    refine⟨_, ?_,h⟩
    simp only [Sem.run_bind,asAgg,Sem.run_pure,Result.andThen_ok,part,iV ha,if_true,sizeOf,jh hi]
    congr 2
    apply Array.ext'
    simp
   ·rename_i i ha hi
    split at h
    ·rename_i v hv
     refine⟨v, ?_,h⟩
     have hv':cs[fd.offset]? = some v:=by rw [←hv];simp
     simp only [Sem.run_bind,asAgg,Sem.run_pure,Result.andThen_ok,part,iV ha]
     simp [hv']
    ·exact h.elim
   ·exact h.elim
  ·exact h.elim
 ·exact h.elim
theorem yS {P:Program}{t:TypeId}{a:Addr}{f:Nat}{w:World}{K:Value→World→Prop}(h:kZ P t a f w K) :
  ∃v,(Instr.fieldAt t (.pointer (some a)) f).run P w = .ok v w∧K v w:=by
 unfold kZ at h
 split at h
 ·rename_i fs hu
  split at h
  ·rename_i fd hf
   have hf':fs[f]? = some fd:=by rw [←hf];simp
   split at h
   ·rename_i i hi
    cases hz:Nat.beq i.size 0 with
    | true=>simp [hz]at h
    | false=>
     simp only [hz,cond_false]at h
     refine⟨_, ?_,h⟩
     have hne:i.size≠0:=fun e=>by simp [e]at hz
     unfold Instr.fieldAt
     rw [Sem.run_bind,aO hu,Result.andThen_ok]
     simp only [hf']
     simp [Instr.sureAddr,fieldPlace,sizeOf,jh hi,hne]
   ·exact h.elim
  ·exact h.elim
 ·exact h.elim
theorem O9 {P:Program}{q:Bool}{t ty:TypeId}{a:Value}{w:World}{K:Value→World→Prop}(h:uS P q t ty a w K) :
  ∃v w',(Builtin.len_ #[t] ty #[a]).run P w = .ok v w'∧K v w'∧(q=true→w'=w):=by
 unfold uS at h
 split at h
 ·rename_i hu;exact⟨_,w,by simp [Builtin.len_,aO hu,goInt],h,fun _=>rfl⟩
 ·rename_i hu;exact⟨_,w,by simp [Builtin.len_,aO hu,goInt],h,fun _=>rfl⟩
 ·rename_i hu;exact⟨_,w,by simp [Builtin.len_,aO hu,goInt],h,fun _=>rfl⟩
 ·exact h.un
theorem Nj {P:Program}{w:World}(x y:ByteArray):(Builtin.min2 (.string x) (.string y)).run P w = .ok (.string (xG x y)) w:=by
 have e:Builtin.min2 (.string x) (.string y)=(do pure (.string (if ←asBool (←Op.stringOp .leq x y)then x else y))):=rfl
 rw [e]
 have e2:(Op.stringOp .leq x y).run P w = .ok (.bool (E8 x y||oU x y)) w:=rfl
 rw [Sem.run_bind,e2,Result.andThen_ok]
 unfold xG
 cases (E8 x y||oU x y)<;>rfl
theorem Nk {P:Program}{w:World}(x y:ByteArray):(Builtin.max2 (.string x) (.string y)).run P w = .ok (.string (xH x y)) w:=by
 have e:Builtin.max2 (.string x) (.string y)=(do pure (.string (if ←asBool (←Op.stringOp .geq x y)then x else y))):=rfl
 rw [e]
 have e2:(Op.stringOp .geq x y).run P w = .ok (.bool (!E8 x y)) w:=rfl
 rw [Sem.run_bind,e2,Result.andThen_ok]
 unfold xH
 cases E8 x y<;>rfl
theorem Y1 (x y:Int):(if y<x then y else x)=min x y:=by omega
theorem Y2 (x y:Int):(if y>x then y else x)=max x y:=by omega
def Pe (b:Builtin):Bool:=match b with | .len=>true | .min=>true | .max=>true | .cap=>true | _=>false
theorem Iz {P:Program}{q:Bool}{b:Builtin}{ts:List TypeId}{ty:TypeId}{args:List Value}{cb:Array Bool}{w:World}{K:Value→World→Prop}
  (h:uT P q b ts ty args w K) : ∃v w',(builtin b ts.toArray ty cb args.toArray).run P w = .ok (.value v) w'∧K v w'∧(q=true→(Pe b=true)→w'=w):=by
 unfold uT at h
 split at h
 ·obtain⟨v,w',hr,hk,hq⟩:=O9 h;exact⟨v,w',by simp [builtin,hr],hk,fun e _=>hq e⟩
 ·rename_i k x k' y
  exact⟨_,w,by simp only [builtin,Sem.run_bind,run_min_int2,Result.andThen_ok];rw [Y1];rfl,h,fun _ _=>rfl⟩
 ·rename_i k x k' y
  exact⟨_,w,by simp only [builtin,Sem.run_bind,run_max_int2,Result.andThen_ok];rw [Y2];rfl,h,fun _ _=>rfl⟩
 ·rename_i x y
  refine⟨_,w, ?_,h,fun _ _=>rfl⟩
  simp [builtin,Builtin.min_,Nj]
 ·rename_i x y
  refine⟨_,w, ?_,h,fun _ _=>rfl⟩
  simp [builtin,Builtin.max_,Nk]
 ·obtain⟨v,w',hr,hk,hq⟩:=h.un;exact⟨v,w',by simp [builtin,hr],hk,fun e _=>hq e⟩
 ·obtain⟨v,w',hr,hk,hq⟩:=h.un;exact⟨v,w',by simp [builtin,hr],hk,fun e _=>hq e⟩
 ·obtain⟨v,w',hr,hk,hq⟩:=h.un;exact⟨v,w',by simp [builtin,hr],hk,fun e _=>hq e⟩
 ·obtain⟨v,w',hr,hk,hq⟩:=h.un;exact⟨v,w',by simp [builtin,hr],hk,fun e _=>hq e⟩
 ·obtain⟨v,w',hr,hk,hq⟩:=h.un;exact⟨v,w',by simp [builtin,hr],hk,fun e _=>hq e⟩
 ·obtain⟨v,w',hr,hk,hq⟩:=h.un;exact⟨v,w',by simp [builtin,hr],hk,fun e _=>hq e⟩
 ·obtain⟨v,w',hr,hk,hq⟩:=h.un;exact⟨v,w',by simp [builtin,hr],hk,fun e _=>hq e⟩
 ·obtain⟨v,w',hr,hk,hq⟩:=h.un;exact⟨v,w',by simp [builtin,hr],hk,fun e _=>hq e⟩
 ·exact h.elim
theorem rQ {P:Program}{f:FuncId}{args:Array Value}{w:World}(h:callable P f=true) :
  (callFunc f args).run P w = .ok (.enter f args) w:=by
 unfold callable at h
 split at h
 ·rename_i fn hf
  simp only [Bool.and_eq_true,Bool.not_eq_true',beq_eq_false_iff_ne,ne_eq]at h
  have hb:fn.body≠none:=by intro e;simp [e]at h
  simp [callFunc,hf,h.1,hb]
 ·cases h
theorem rU (ρ:aU)(xs:Array Operand):xs.map (gu ρ)=(xs.toList.map (gu ρ)).toArray:=by
 apply Array.ext'
 simp
theorem Nl {P:Program}{q:Bool}{o:Oper}{ρ:aU}{c:Call}{w:World}{K:Value→World→Prop}(ho:o.op = .call c)
  (h:yP P q ρ c o.type w K):Did P q o ρ w K:=by
 obtain⟨callee,args,ats⟩:=c
 unfold yP at h
 cases callee with
 | builtin b=>
  simp only [lY,cu]at h
  obtain⟨v,w',hr,hk,hq⟩:=Iz (cb:=args.map fun | .const _=>true | _=>false) h
  refine bI ?_ hk (fun e e'=>hq e (by simp only [dY,ho]at e';cases b<;>first | rfl | exact e'))
  unfold execOp
  simp only [ho,resolve,invoke,Sem.run_bind,Sem.run_pure,Result.andThen_ok]
  rw [rU]
  have:ats.toList.toArray=ats:=by simp
  rw [this]at hr
  exact hr
 | value f=>
  simp only at h
  split at h
  ·rename_i g first captured hf
   simp only [lY,cu]at h
   refine .inr (.inr ⟨g,_, ?_,by simp [dY,ho],h.runs⟩)
   unfold execOp
   simp only [ho,resolve,Deferred.ofValue,invoke,Sem.run_bind,Sem.run_pure,Result.andThen_ok,hf]
   rw [rU,rQ h.ok]
  ·exact h.elim
 | invoke r m=>exact h.elim
theorem IB (off:Nat) : ∀(vs:List Value) (j:Nat) (cs:Array Value),
  (vs.zipIdx j).foldl (fun cs (p:Value×Nat)=>cs.setIfInBounds (off+p.2) p.1) cs=(kE cs.toList (off+j) vs).toArray:=by
 intro vs
 induction vs with
 | nil=>intro j cs;simp [kE]
 | cons v r ih=>
  intro j cs
  simp only [List.zipIdx_cons,List.foldl_cons,kE]
  rw [ih]
  congr 2
  simp
theorem fill_eq (place:Nat→Option (Nat×Nat)) : ∀(parts:List (Nat×Value)) (cs l:List Value),
  oJ place cs parts=some l→Instr.fill place cs.toArray parts=some l.toArray:=by
 intro parts
 induction parts with
 | nil=>intro cs l h;simp only [oJ,Option.some.injEq]at h;subst h;rfl
 | cons p r ih=>
  obtain⟨i,v⟩:=p
  intro cs l h
  simp only [oJ]at h
  simp only [Instr.fill]
  cases hp:place i with
  | none=>simp [hp]at h
  | some os=>
   obtain⟨off,size⟩:=os
   simp only [hp]at h
   cases hc:(Nat.beq v.cells.toList.length size&&Nat.ble (off+v.cells.toList.length) cs.length)with
   | false=>rw [hc]at h;cases h
   | true=>
    rw [hc,cond_true]at h
    simp only [Bool.and_eq_true]at hc
    have h1:=Nat.eq_of_beq_eq_true hc.1
    have h2:=Nat.le_of_ble_eq_true hc.2
    simp only [Array.length_toList]at h1 h2
    have hcond:(decide (v.cells.size≠size)||decide (off+v.cells.size>cs.toArray.size))=false:=by
     simp [h1]
     omega
    simp only [hcond,Bool.false_eq_true,if_false]
    have hf:=IB off v.cells.toList 0 cs.toArray
    simp only [Nat.add_zero]at hf
    rw [←ih _ _ h]
    congr 1
    rw [←Array.foldl_toList]
    simp only [Array.toList_zipIdx]
    exact hf
theorem Np {P:Program} : ∀(fs:List Field) (pl:List (Nat×Nat)),pW P fs=some pl→
  fs.mapM (fun f=>(P.info? f.type).map fun i=>(f.offset,i.size))=some pl:=by
 intro fs
 induction fs with
 | nil=>intro pl h;simp only [pW,Option.some.injEq]at h;subst h;rfl
 | cons f r ih=>
  intro pl h
  simp only [pW]at h
  split at h
  ·rename_i i l hi hl
   simp only [Option.some.injEq]at h
   subst h
   simp [hi,ih _ hl]
  ·cases h
theorem oZ {P:Program}{t:TypeId}{z:Value}{w:World}(h:(P.info? t).bind (·.zero)=some z):(zeroValue t).run P w = .ok z w:=by
 cases hi:P.info? t with
 | none=>simp [hi]at h
 | some i=>
  simp only [hi,Option.bind_some]at h
  simp [zeroValue,jh hi,h]
theorem IC {P:Program}{t:TypeId}{parts:List (Nat×Value)}{w:World}{K:Value→World→Prop}(h:uQ P t parts w K) :
  ∃v,(Instr.build t parts.toArray).run P w = .ok v w∧K v w:=by
 unfold uQ at h
 split at h
 ·rename_i z fs hz hu
  split at h
  ·rename_i pl hpl
   split at h
   ·rename_i l hl
    rw [cu]at h
    refine⟨_, ?_,h⟩
    refine run_build w t _ _ ?_
    have hf:=fill_eq _ _ _ _ hl
    cases hi:P.info? t with
    | none=>simp [hi]at hz
    | some i=>
     simp only [hi,Option.bind_some]at hz
     unfold Program.built
     simp only [hi,hu,hz,Np _ _ hpl]
     simpa using hf
   ·exact h.elim
  ·exact h.elim
 ·rename_i z n e hz hu
  split at h
  ·rename_i i hi
   split at h
   ·rename_i l hl
    rw [cu]at h
    refine⟨_, ?_,h⟩
    have hf:=fill_eq _ _ _ _ hl
    unfold Instr.build
    rw [Sem.run_bind,oZ hz,Result.andThen_ok,Sem.run_bind,aO hu,Result.andThen_ok]
    simp only [sizeOf,Sem.run_bind,jh hi,Result.andThen_ok,Sem.run_pure]
    simp only [Array.toArray_toList]at hf
    simp [hf]
   ·exact h.elim
  ·exact h.elim
 ·exact h.elim
theorem Fa (l:List Value)(s:Nat)(hl:l.length=s)(hs:1≤s) : ∀n:Nat,
  (List.range (n*s)).map (fun k=>l[k%s]!)=(List.replicate n l).flatten
 | 0=>by simp
 | n+1=>by
  rw [Nat.add_mul,Nat.one_mul,List.range_add,List.map_append,Fa l s hl hs n,List.replicate_succ',List.flatten_append]
  congr 1
  simp only [List.map_map,List.flatten_cons,List.flatten_nil,List.append_nil]
  apply List.ext_getElem
  ·simp [hl]
  ·intro i h1 h2
   simp only [List.length_map,List.length_range]at h1
   simp only [List.getElem_map,List.getElem_range,Function.comp]
   have:(n*s+i)%s=i:=by rw [Nat.mul_comm,Nat.mul_add_mod,Nat.mod_eq_of_lt h1]
   rw [this]
   simp [h2]
theorem uU (z:Array Value)(n s:Nat)(hl:z.size=s)(hs:1≤s) :
  (Array.range (n*s)).map (fun k=>z[k%z.size]!)=(List.replicate n z.toList).flatten.toArray:=by
 rw [←Fa z.toList s (by simpa using hl) hs n]
 apply Array.ext'
 subst hl
 simp only [Array.toList_map,Array.toList_range]
 refine List.map_congr_left fun k hk=> ?_
 have hlt:k%z.size<z.size:=Nat.mod_lt _ (by omega)
 simp [hlt]
theorem xI {P:Program}{t:TypeId}{n:Nat}{parts:List (Nat×Value)}{w:World}{K:Value→World→Prop}(h:jV P t n parts w K) :
  ∃v w',(Instr.buildSlice t n parts.toArray).run P w = .ok v w'∧K v w':=by
 unfold jV at h
 split at h
 ·rename_i e hu
  split at h
  ·rename_i i hi
   split at h
   ·rename_i z hz
    cases hc:(Nat.beq z.cells.toList.length i.size&&Nat.ble 1 i.size&&Nat.ble (n*i.size) 16777216)with
    | false=>rw [hc]at h;exact h.elim
    | true=>
     rw [hc,cond_true]at h
     simp only [Bool.and_eq_true]at hc
     have h1:=Nat.eq_of_beq_eq_true hc.1.1
     have h2:=Nat.le_of_ble_eq_true hc.1.2
     have h3:=Nat.le_of_ble_eq_true hc.2
     split at h
     ·rename_i l hl
      rw [cu]at h
      refine⟨_,_, ?_,h⟩
      have hf:=fill_eq _ _ _ _ hl
      rw [←uU z.cells n i.size (by simpa using h1) h2]at hf
      have hle : ¬(n*i.size>2^24):=by simpa using h3
      unfold Instr.buildSlice
      rw [Sem.run_bind,aO hu,Result.andThen_ok]
      simp only [sizeOf,Sem.run_bind,jh hi,Result.andThen_ok,Sem.run_pure,if_neg hle]
      by_cases h0:n*i.size=0
      ·have hn:n=0:=(Nat.mul_eq_zero.1 h0).resolve_right (by omega)
       subst hn
       simp only [Nat.zero_mul,if_true,Sem.run_bind,Sem.run_pure,Result.andThen_ok]
       simp only [Nat.zero_mul]at hf
       have e:(Array.range 0).map (fun x=>(#[]:Array Value)[x%(#[]:Array Value).size]!)=(Array.range 0).map (fun x=>z.cells[x%z.cells.size]!):=by simp
       rw [e,hf]
       simp [newRow]
      ·simp only [if_neg h0,zeroValue,jh hi,Sem.run_bind,Result.andThen_ok,hz,Sem.run_pure,hf]
       simp [newRow]
     ·exact h.elim
   ·exact h.elim
  ·exact h.elim
 ·exact h.elim
theorem BQ (ρ:aU)(parts:Array (Nat×Operand)) :
  ((parts.toList.map (·.1)).zip (parts.toList.map fun p=>gu ρ p.2)).toArray=parts.map fun(i,x)=>(i,gu ρ x):=by
 apply Array.ext'
 simp only [Array.toList_map]
 induction parts.toList with
 | nil=>rfl
 | cons p r ih=>simp only [List.map_cons,List.zip_cons_cons,ih]
theorem jk {P:Program}{q:Bool}{o:Oper}{ρ:aU}{w:World}{K:Value→World→Prop}(h:Bg P q o ρ w K):Did P q o ρ w K:=by
 unfold Bg at h
 cases ho:o.op<;>simp only [ho]at h
 case move x=>rw [force_eq]at h;exact bI (by unfold execOp;simp [ho]) h (fun _ _=>rfl)
 case assign x=>rw [force_eq]at h;exact bI (by unfold execOp;simp [ho]) h (fun _ _=>rfl)
 case pick c a b=>
  split at h
  ·rename_i t hc
   split at h
   ·rename_i x y ha hb
    refine bI ?_ h (fun _ _=>rfl)
    unfold execOp
    cases t<;>simp [ho,hc,asBool,ha,hb]
   ·cases t with
    | true=>exact bI (by unfold execOp;simp [ho,hc,asBool]) (show K (gu ρ a) w from h) (fun _ _=>rfl)
    | false=>exact bI (by unfold execOp;simp [ho,hc,asBool]) (show K (gu ρ b) w from h) (fun _ _=>rfl)
  ·exact h.elim
 case alloc elem=>
  have go : ∀z,(P.info? elem).bind (·.zero)=some z→K (.pointer (some ⟨w.heap.size,0,none⟩)) (w.alloc (.cells z.cells elem))→Did P q o ρ w K:=fun z hz h=>by
   cases hi:P.info? elem with
   | none=>simp [hi]at hz
   | some i=>
    simp only [hi,Option.bind_some]at hz
    refine bI ?_ h (fun _ e=>by simp [dY,ho]at e)
    unfold execOp
    simp [ho,Instr.alloc,zeroValue,jh hi,hz,newVar,newRow]
  split at h
  ·rename_i cs hz;exact go _ hz h
  ·rename_i z _ hz;exact go _ hz h
  ·exact h.elim
 case box elem x=>
  rw [force_eq]at h
  have h':K (.pointer (some ⟨w.heap.size,0,none⟩)) (w.alloc (.cells (gu ρ x).cells elem)):=by
   split at h
   ·rename_i cs hx;rw [hx];exact h
   ·exact h
  refine bI ?_ h' (fun _ e=>by simp [dY,ho]at e)
  unfold execOp
  simp [ho,Instr.box,newVar,newRow]
 case build t parts=>
  rw [cu]at h
  obtain⟨v,hr,hk⟩:=IC h
  rw [BQ]at hr
  exact bI (by unfold execOp;simp only [ho];exact jE hr) hk (fun _ _=>rfl)
 case buildSlice t n parts=>
  rw [cu]at h
  obtain⟨v,w',hr,hk⟩:=xI h
  rw [BQ]at hr
  exact bI (by unfold execOp;simp only [ho];exact jE hr) hk (fun _ e=>by simp [dY,ho]at e)
 case load t a=>
  split at h
  ·rename_i p hp
   obtain⟨v,w',hr,hk,hq⟩:=h.un
   refine bI (w':=w') (v:=v) ?_ hk (fun e _=>hq e)
   unfold execOp
   simp only [ho]
   exact jE (by simp only [Instr.loadAt,hp,Instr.sureAddr,Sem.run_bind,Sem.run_pure,Result.andThen_ok];exact hr)
  ·exact h.elim
 case store t a x=>
  split at h
  ·rename_i p hp
   rw [force_eq]at h
   obtain⟨u,w',hr,hk⟩:=h.un
   refine .inr (.inl ⟨w', ?_,hk,by simp [dY,ho]⟩)
   unfold execOp
   simp only [ho]
   exact O5 (u:=u) (by simp only [Instr.storeAt,hp,Instr.sureAddr,Sem.run_bind,Sem.run_pure,Result.andThen_ok];exact hr)
  ·exact h.elim
 case nilCheck x=>
  split at h
  ·rename_i p hp
   exact bI (by unfold execOp;simp only [ho,hp];rfl) h (fun _ _=>rfl)
  ·exact h.elim
 case binOp op t x y yt=>
  obtain⟨v,w',hr,hk,hq⟩:=O8 h
  exact bI (by unfold execOp;simp only [ho];exact jE hr) hk (fun e _=>hq e)
 case unOp op t x=>
  obtain⟨v,w',hr,hk,hq⟩:=Ur h
  exact bI (by unfold execOp;simp only [ho];exact jE hr) hk (fun e _=>hq e)
 case convert src dst x=>
  obtain⟨v,w',hr,hk,hq⟩:=Nh h
  exact bI (by unfold execOp;simp only [ho];exact jE hr) hk (fun e _=>hq e)
 case makeFunc fn first captured=>
  simp only [lY,cu]at h
  refine bI ?_ h (fun _ _=>rfl)
  unfold execOp
  simp [ho,Instr.makeFunc,rU]
 case makeMap t r=>
  rw [uN]at h
  obtain⟨v,w',hr,hk,hq⟩:=h.un
  exact bI (by unfold execOp;simp only [ho];exact jE hr) hk (fun e _=>hq e)
 case makeSlice t l c=>
  simp only [force_eq]at h
  obtain⟨v,w',hr,hk,hq⟩:=h.un
  exact bI (by unfold execOp;simp only [ho];exact jE hr) hk (fun e _=>hq e)
 case slice t x lo hi mx=>
  simp only [force_eq,uN]at h
  obtain⟨v,w',hr,hk,hq⟩:=h.un
  exact bI (by unfold execOp;simp only [ho];exact jE hr) hk (fun e _=>hq e)
 case fieldAddr s x f=>
  split at h
  ·rename_i p hp
   obtain⟨v,hr,hk⟩:=yS h
   exact bI (by unfold execOp;simp only [ho,hp];exact jE hr) hk (fun _ _=>rfl)
  ·exact h.elim
 case field t x f=>
  split at h
  ·rename_i cs hc
   obtain⟨v,hr,hk⟩:=Iy h
   exact bI (by unfold execOp;simp only [ho,hc];exact jE hr) hk (fun _ _=>rfl)
  ·exact h.elim
 case indexAddr t x i=>
  simp only [force_eq]at h
  obtain⟨v,w',hr,hk,hq⟩:=h.un
  exact bI (by unfold execOp;simp only [ho];exact jE hr) hk (fun e _=>hq e)
 case index t x i=>
  simp only [force_eq]at h
  obtain⟨v,w',hr,hk,hq⟩:=h.un
  exact bI (by unfold execOp;simp only [ho];exact jE hr) hk (fun e _=>hq e)
 case lookup t x i ok=>
  simp only [force_eq]at h
  obtain⟨v,w',hr,hk,hq⟩:=h.un
  exact bI (by unfold execOp;simp only [ho];exact jE hr) hk (fun e _=>hq e)
 case mapUpdate t m k x=>
  simp only [force_eq]at h
  obtain⟨u,w',hr,hk⟩:=h.un
  exact .inr (.inl ⟨w',by unfold execOp;simp only [ho];exact O5 (u:=u) hr,hk,by simp [dY,ho]⟩)
 case insert t m k x=>
  simp only [force_eq]at h
  obtain⟨u,w',hr,hk⟩:=h.un
  exact .inr (.inl ⟨w',by unfold execOp;simp only [ho];exact O5 (u:=u) hr,hk,by simp [dY,ho]⟩)
 case range t x=>
  simp only [force_eq]at h
  obtain⟨v,w',hr,hk,hq⟩:=h.un
  exact bI (by unfold execOp;simp only [ho];exact jE hr) hk (fun e _=>hq e)
 case next it s=>
  simp only [force_eq]at h
  obtain⟨v,w',hr,hk,hq⟩:=h.un
  exact bI (by unfold execOp;simp only [ho];exact jE hr) hk (fun e _=>hq e)
 case entry it=>
  simp only [force_eq]at h
  obtain⟨v,w',hr,hk,hq⟩:=h.un
  exact bI (by unfold execOp;simp only [ho];exact jE hr) hk (fun e _=>hq e)
 case extract t i=>
  split at h
  ·rename_i vs hv
   split at h
   ·rename_i v hi
    have hi':vs[i]? = some v:=by rw [←hi];simp
    exact bI (by unfold execOp;simp only [ho,hv];exact jE (by simp [Instr.extract,hi'])) h (fun _ _=>rfl)
   ·exact h.elim
  ·exact h.elim
 case call c=>exact Nl ho h
 all_goals exact h.elim
def qQ (all:List Oper)(g:Nat):Option Nat:=match all[g]? with | some o=>o.dst | none=>none
def kF (P:Program)(q:Bool)(all:List Oper)(o:Oper)(ρ:aU)(w:World)(K:aU→Value→World→Prop)(iW:aU→Prop):Prop:=
 match o.guard with
 | none=>Bg P q o ρ w fun v w'=>K ρ v w'
 | some (g,want)=>(match qQ all g with
  | some s=>(match ρ s with
   | .bool t=>E5 t
     (bif want then Bg P q o (upd ρ s (.bool true)) w fun v w'=>K (upd ρ s (.bool true)) v w' else iW (upd ρ s (.bool true)))
     (bif want then iW (upd ρ s (.bool false))else Bg P q o (upd ρ s (.bool false)) w fun v w'=>K (upd ρ s (.bool false)) v w')
   | _=>iW ρ)
  | none=>iW ρ)
def Pg (P:Program)(all:List Oper)(l:List Oper)(ρ:aU)(w:World)(K:aU→World→Prop):Prop:=
 match l with
 | []=>K ρ w
 | o::rest=>kF P false all o ρ w (fun ρ' v w'=>Pg P all rest (dK ρ' o.dst v) w' K) fun ρ'=>Pg P all rest (dK ρ' o.dst undef) w K
theorem Fe {ρ:aU}{s:Nat}{v:Value}(h:ρ s=v):upd ρ s v=ρ:=by
 funext n
 unfold upd
 cases hb:Nat.beq n s with
 | false=>rfl
 | true=>rw [Nat.eq_of_beq_eq_true hb];exact h.symm
theorem qR {N:Nat}{ds:List Deferred}{ρ:aU}{a:Act}{ops:Array Oper}(hf:Fits N ds ρ a)(g:Nat) :
  yielded ops a.tmps g=(match qQ ops.toList g with | some s=>(match ρ s with | .bool b=>some b | _=>none) | none=>none):=by
 unfold yielded qQ
 rw [←Array.getElem?_toList]
 cases ops.toList[g]? with
 | none=>rfl
 | some o=>
  simp only [Option.bind_some]
  cases hd:o.dst with
  | none=>rfl
  | some s=>
   simp only [Option.bind_some]
   have h1:=hf.get s
   by_cases hs:s<a.tmps.size
   ·simp only [Array.getD,hs,dif_pos]at h1
    rw [Array.getElem?_eq_getElem hs]
    have h2:a.tmps[s]=ρ s:=h1
    rw [h2]
    cases ρ s<;>rfl
   ·simp only [Array.getD,hs,dif_neg,not_false_eq_true]at h1
    rw [Array.getElem?_eq_none (Nat.le_of_not_lt hs), ←h1]
    rfl
theorem nU {P:Program}{q:Bool}{N:Nat}{ds:List Deferred}{ρ:aU}{a:Act}{ops:Array Oper}{o:Oper}{w:World}{K:aU→Value→World→Prop}{iW:aU→Prop}
  (hf:Fits N ds ρ a) (h:kF P q ops.toList o ρ w K iW) :
  (Region.wanted o (yielded ops a.tmps)=true∧Bg P q o ρ w fun v w'=>K ρ v w')∨
  (Region.wanted o (yielded ops a.tmps)=false∧iW ρ):=by
 unfold kF at h
 unfold Region.wanted
 split at h
 ·rename_i hg;rw [hg];exact .inl ⟨rfl,h⟩
 ·rename_i g want hg
  rw [hg]
  simp only [qR hf g]
  split at h
  ·rename_i s hs
   cases hv:ρ s with
   | bool t=>
    have hu:upd ρ s (.bool t)=ρ:=Fe hv
    rw [hv]at h
    cases t<;>cases want<;>simp only [E5,cond_true,cond_false]at h<;>rw [hu]at h
    ·exact .inl ⟨rfl,h⟩
    ·exact .inr ⟨rfl,h⟩
    ·exact .inr ⟨rfl,h⟩
    ·exact .inl ⟨rfl,h⟩
   | _=>rw [hv]at h;exact .inr ⟨rfl,h⟩
  ·exact .inr ⟨rfl,h⟩
def iG (N:Nat)(W:Nat→Bool)(o:Oper):Bool:=match o.dst with | some d=>Nat.blt d N&&W d | none=>true
def Same (W:Nat→Bool)(ρ ρ':aU):Prop:= ∀n,W n=false→ρ' n=ρ n
theorem dA {N:Nat}{W:Nat→Bool}{o:Oper}(h:iG N W o=true) : ∀t,o.dst=some t→t<N:=by
 intro t ht
 simp only [iG,ht,Bool.and_eq_true]at h
 exact Nat.le_of_ble_eq_true h.1
theorem Same.dK {W:Nat→Bool}{N:Nat}{o:Oper}{aB ρ:aU}{v:Value}(h:Same W aB ρ)(ho:iG N W o=true):Same W aB (dK ρ o.dst v):=by
 intro n hn
 cases hd:o.dst with
 | none=>exact h n hn
 | some d=>
  simp only [Vc.dK,upd]
  cases hb:Nat.beq n d with
  | false=>exact h n hn
  | true=>
   have:=Nat.eq_of_beq_eq_true hb
   subst this
   simp only [iG,hd,Bool.and_eq_true]at ho
   rw [hn]at ho
   exact absurd ho.2 (by simp)
theorem IE {P:Program}{N:Nat}{ds:List Deferred}{W:Nat→Bool}{ops:Array Oper}{Q:Exit→Act→World→Prop}{K:aU→World→Prop}{aB:aU}
  (hK : ∀ρ' a' w',Fits N ds ρ' a'→Same W aB ρ'→K ρ' w'→Q .normal a' w') :
  ∀(l:List Oper) (k:Nat) (ρ:aU) (a:Act) (w:World),(∀j,l[j]? = ops.toList[k+j]?)→(∀o∈l,iG N W o=true)→Fits N ds ρ a→Same W aB ρ→
   Pg P ops.toList l ρ w K→wpOps P ops Q (List.range' k l.length) a w:=by
 intro l
 induction l with
 | nil=>intro k ρ a w _ _ hf hs h;exact hK _ _ _ hf hs h
 | cons o rest ih=>
  intro k ρ a w hl hok hf hs h
  have ho:ops[k]? = some o:=by
   have:=hl 0
   simp only [List.getElem?_cons_zero,Nat.add_zero]at this
   rw [←Array.getElem?_toList];exact this.symm
  have ho1:iG N W o=true:=hok o (by simp)
  have step : ∀(v:Value) (w':World),Pg P ops.toList rest (dK ρ o.dst v) w' K→wpOps P ops Q (List.range' (k+1) rest.length) (a.put o.dst v) w':=fun v w' hv=>
   ih (k+1) _ _ _ (fun j=>by have:=hl (j+1);simp only [List.getElem?_cons_succ]at this;rw [this];congr 1;omega) (fun o' ho'=>hok o' (by simp [ho']))
    (hf.put o.dst v (dA ho1)) (hs.dK ho1) hv
  simp only [List.length_cons,List.range'_succ]
  simp only [wpOps,ho]
  rcases nU hf h with ⟨hw,hv⟩ | ⟨hw,hv⟩
  ·simp only [hw,if_true]
   exact .inl ((jk hv).wp hf.eval fun v w' hk=>step v w' hk)
  ·simp only [hw,Bool.false_eq_true,if_false]
   exact step undef w hv
inductive Plan where
 | done
 | take (i:Nat) (p:Plan)
 | one (i:Nat) (p:Plan)
 | two (i:Nat) (p:Plan) (j:Nat) (r:Plan)
 | three (i:Nat) (p:Plan) (j:Nat) (r:Plan) (k:Nat) (q:Plan)
 | sink (i:Nat)
 | post (i:Nat) (p:Plan)
def abR (pure:Bool)(S:World→Prop)(P:Program)(o:Oper)(ρ:aU)(v:Value)(k:Prop):Prop:=
 match pure with
 | true=>k
 | false=>gK (∀w',S w'→Bg P true o ρ w' fun v' _=>v'=v) k
structure eY (S:World→Prop)(w:World)(k:(World→Prop)→Prop):Prop where
 ex : ∃S':World→Prop,(∀u,S' u→S u)∧S' w∧k S'
theorem eY.keep {S:World→Prop}{w:World}{k:(World→Prop)→Prop}(h:S w)(hk:k S):eY S w k:=⟨S,fun _ h=>h,h,hk⟩
theorem eY.below {w₀ w:World}{k:(World→Prop)→Prop}(h:Below w₀.heap.size w₀ w)(hk:k fun u=>Below w.heap.size w u):eY (fun u=>Below w₀.heap.size w₀ u) w k:=
 ⟨fun u=>Below w.heap.size w u,fun _ hu=>h.trans (hu.mono h.size),Below.refl _ _,hk⟩
def vD (P:Program)(all:List Oper)(wP:Bool)(p:Plan)(S:World→Prop)(ρ:aU)(w:World)(K:aU→World→Prop):Prop:=
 match p with
 | .done=>K ρ w
 | .take i p=>(match all[i]? with
  | some o=>kF P true all o ρ w (fun ρ' v w'=>abR (wP||rP o) S P o ρ' v (vD P all wP p S (dK ρ' o.dst v) w' K)) fun ρ'=>vD P all wP p S (dK ρ' o.dst undef) w K
  | none=>False)
 | .one i p=>(match all[i]? with
  | some o=>kF P false all o ρ w (fun ρ' v w'=>eY S w' fun S'=>vD P all wP p S' (dK ρ' o.dst v) w' K) fun ρ'=>vD P all wP p S (dK ρ' o.dst undef) w K
  | none=>False)
 | .two i p j r=>(match all[i]?,all[j]? with
  | some o,some o'=>
   (kF P false all o ρ w (fun ρ' v w'=>eY S w' fun S'=>vD P all wP p S' (dK ρ' o.dst v) w' K) fun ρ'=>vD P all wP p S (dK ρ' o.dst undef) w K)∧
   (kF P false all o' ρ w (fun ρ' v w'=>eY S w' fun S'=>vD P all wP r S' (dK ρ' o'.dst v) w' K) fun ρ'=>vD P all wP r S (dK ρ' o'.dst undef) w K)
  | _,_=>False)
 | .three i p j r k q=>(match all[i]?,all[j]?,all[k]? with
  | some o,some o',some o''=>
   (kF P false all o ρ w (fun ρ' v w'=>eY S w' fun S'=>vD P all wP p S' (dK ρ' o.dst v) w' K) fun ρ'=>vD P all wP p S (dK ρ' o.dst undef) w K)∧
   (kF P false all o' ρ w (fun ρ' v w'=>eY S w' fun S'=>vD P all wP r S' (dK ρ' o'.dst v) w' K) fun ρ'=>vD P all wP r S (dK ρ' o'.dst undef) w K)∧
   (kF P false all o'' ρ w (fun ρ' v w'=>eY S w' fun S'=>vD P all wP q S' (dK ρ' o''.dst v) w' K) fun ρ'=>vD P all wP q S (dK ρ' o''.dst undef) w K)
  | _,_,_=>False)
 | .sink i=>(match all[i]? with
  | some o=>kF P false all o ρ w (fun ρ' v w'=>K (dK ρ' o.dst v) w') fun ρ'=>K (dK ρ' o.dst undef) w
  | none=>False)
 | .post _ _=>False
inductive KE (ops:Array Oper)(i:Nat):Nat→Prop
 | one {o:Oper} {e:Edge} (h:ops[i]? = some o) (he:e∈o.after) (hb:Region.binds .any e=true):KE ops i e.on
 | more {j:Nat} {o:Oper} {e:Edge} (ha:KE ops i j) (h:ops[j]? = some o) (he:e∈o.after) (hb:Region.binds .any e=true):KE ops i e.on
def yT (ops:Array Oper)(i:Nat):List Nat:=
 match ops[i]? with
 | some o=>(o.after.toList.filter fun e=>Region.binds .any e).map (·.on)
 | none=> []
def IG (l m:List Nat):List Nat:=m.foldl (fun acc x=>if acc.contains x then acc else x::acc) l
def Y3 (ops:Array Oper):Nat→List Nat→List Nat
 | 0,l=>l
 | n+1,l=>Y3 ops n (l.foldl (fun acc j=>IG acc (yT ops j)) l)
theorem BR {ops:Array Oper}{i k:Nat}(h:k∈yT ops i) : ∃o e,ops[i]? = some o∧e∈o.after∧Region.binds .any e=true∧e.on=k:=by
 unfold yT at h
 split at h
 ·rename_i o ho
  simp only [List.mem_map,List.mem_filter]at h
  obtain⟨e,⟨he,hb⟩,hk⟩:=h
  exact⟨o,e,ho,by simpa using he,hb,hk⟩
 ·cases h
theorem II {k:Nat} : ∀(m l:List Nat),k∈IG l m→k∈l∨k∈m:=by
 intro m
 induction m with
 | nil=>intro l h;exact .inl h
 | cons x r ih=>
  intro l h
  rcases ih _ h with h | h
  ·simp only at h
   split at h
   ·exact .inl h
   ·rcases List.mem_cons.1 h with rfl | h
    ·exact .inr (by simp)
    ·exact .inl h
  ·exact .inr (by simp [h])
theorem mem_grow {ops:Array Oper}{k:Nat} : ∀(m l:List Nat),k∈m.foldl (fun acc j=>IG acc (yT ops j)) l→k∈l∨∃j∈m,k∈yT ops j:=by
 intro m
 induction m with
 | nil=>intro l h;exact .inl h
 | cons x r ih=>
  intro l h
  rcases ih _ h with h | ⟨j,hj,hk⟩
  ·rcases II _ _ h with h | h
   ·exact .inl h
   ·exact .inr ⟨x,by simp,h⟩
  ·exact .inr ⟨j,by simp [hj],hk⟩
theorem Ph {ops:Array Oper}{i k:Nat} : ∀(n:Nat) (l:List Nat),(∀x∈l,KE ops i x)→k∈Y3 ops n l→KE ops i k:=by
 intro n
 induction n with
 | zero=>intro l h hk;exact h k hk
 | succ n ih=>
  intro l h hk
  refine ih _ (fun x hx=> ?_) hk
  rcases mem_grow _ _ hx with hx | ⟨j,hj,hx⟩
  ·exact h x hx
  ·obtain⟨o,e,ho,he,hb,rfl⟩:=BR hx
   exact .more (h j hj) ho he hb
def sinkAt (ops:Array Oper)(i:Nat):Bool:=
 (List.range ops.size).all fun j=>j==i||(Y3 ops ops.size (yT ops i)).contains j
theorem IJ {ops:Array Oper}{i j:Nat}(h:sinkAt ops i=true)(hj:j<ops.size)(hne:j≠i):KE ops i j:=by
 simp only [sinkAt,List.all_eq_true,List.mem_range,Bool.or_eq_true,beq_iff_eq]at h
 rcases h j hj with e | e
 ·exact absurd e hne
 ·refine Ph ops.size (yT ops i) (fun x hx=> ?_) (by simpa using e)
  obtain⟨o,e,ho,he,hb,rfl⟩:=BR hx
  exact .one ho he hb
def Down (ops:Array Oper)(listed:Array Bool):Prop:=
 ∀j o,ops[j]? = some o→listed.getD j false=true→∀e∈o.after,Region.binds .any e=true→listed.getD e.on false=true
theorem Down.set {ops:Array Oper}{listed:Array Bool}{i:Nat}(h:Down ops listed)(hi:i∈Region.ready .any ops listed):Down ops (listed.setIfInBounds i true):=by
 intro j o ho hl e he hb
 by_cases hji:i=j
 ·subst hji
  obtain⟨_,o',ho',hall⟩:=mem_ready.1 hi
  rw [ho]at ho'
  injection ho' with ho'
  subst ho'
  exact getD_set_true (hall e he hb)
 ·rw [getD_set_ne false hji]at hl
  exact getD_set_true (h j o ho hl e he hb)
theorem Down.anc {ops:Array Oper}{listed:Array Bool}{i k:Nat}(h:Down ops listed)(hi:i∈Region.ready .any ops listed)(ha:KE ops i k):listed.getD k false=true:=by
 induction ha with
 | one ho he hb=>
  obtain⟨_,o',ho',hall⟩:=mem_ready.1 hi
  rw [ho]at ho'
  injection ho' with ho'
  subst ho'
  exact hall _ he hb
 | more ha ho he hb ih=>exact h _ _ ho ih _ he hb
def dS (ops:Array Oper):Plan→Array Bool→Bool
 | .done,listed=>(Region.ready .any ops listed).isEmpty
 | .take i p,listed=>(match ops[i]? with | some o=>dY o | none=>false)&&(Region.ready .any ops listed).contains i&&Region.free .any ops listed i&&dS ops p (listed.setIfInBounds i true)
 | .one i p,listed=>(Region.ready .any ops listed== [i])&&dS ops p (listed.setIfInBounds i true)
 | .two i p j r,listed=>(Region.ready .any ops listed== [i,j])&&dS ops p (listed.setIfInBounds i true)&&dS ops r (listed.setIfInBounds j true)
 | .three i p j r k q,listed=>(Region.ready .any ops listed== [i,j,k])&&dS ops p (listed.setIfInBounds i true)&&dS ops r (listed.setIfInBounds j true)&&dS ops q (listed.setIfInBounds k true)
 | .sink i,listed=>(Region.ready .any ops listed== [i])&&sinkAt ops i&&(Region.ready .any ops (listed.setIfInBounds i true)).isEmpty
 | .post i p,listed=>(Region.ready .any ops listed== [i])&&dS ops p (listed.setIfInBounds i true)
def Plan.depth:Plan→Nat
 | .done=>0
 | .take _ p=>p.depth+1
 | .one _ p=>p.depth+1
 | .two _ p _ r=>max p.depth r.depth+1
 | .three _ p _ r _ q=>max (max p.depth r.depth) q.depth+1
 | .sink _=>1
 | .post _ p=>p.depth+1
def mO (ops:Array Oper)(p:Plan):Bool:=Region.noSelect ops&&Nat.ble p.depth ops.size&&dS ops p (Array.replicate ops.size false)
section
variable {P:Program}{ops:Array Oper}{Q:Exit→Act→World→Prop}{S:World→Prop}
def nV (P:Program)(ops:Array Oper)(Q:Exit→Act→World→Prop)(S:World→Prop):Nat→Array Bool→Act→World→Prop
 | 0,listed,a,w=>Region.ready .any ops listed = []∧Q .normal a w
 | fuel+1,listed,a,w=>
  (Region.ready .any ops listed = []→Q .normal a w)∧
  ∀i∈Region.ready .any ops listed,wpOp P ops Q i (fun a' w'=>(sinkAt ops i=true∨S w')∧nV P ops Q S fuel (listed.setIfInBounds i true) a' w') a w
theorem qU : ∀(fuel:Nat) (listed:Array Bool) (a:Act) (w:World),nV P ops Q S fuel listed a w→wpAny P .any ops Q fuel listed a w
 | 0,_,_,_,h=>h
 | fuel+1,_,_,_,h=>⟨h.1,fun i hi=>wpOp_mono (fun a' w' h'=>qU fuel _ a' w' h'.2) (h.2 i hi)⟩
theorem iO {S':World→Prop}(h : ∀u,S' u→S u) : ∀(fuel:Nat) (listed:Array Bool) (a:Act) (w:World),nV P ops Q S' fuel listed a w→nV P ops Q S fuel listed a w
 | 0,_,_,_,hh=>hh
 | fuel+1,_,_,_,hh=>⟨hh.1,fun i hi=>wpOp_mono (fun a' w' h'=>⟨h'.1.imp id (h w'),iO h fuel _ a' w' h'.2⟩) (hh.2 i hi)⟩
theorem Dn {i:Nat}{oi:Oper}{v:Value}(hi:ops[i]? = some oi)(hsel : ∀(j:Nat) (o:Oper) cs b,ops[j]? = some o→o.op≠ .select cs b)
  (hQ : ∀c a w,Q (.panic c) (a.put oi.dst v) w→Q (.panic c) a w) :
  ∀(fuel:Nat) (listed:Array Bool) (a:Act) (w:World),
   (∀j oj,ops[j]? = some oj→j≠i→listed.getD j true=false→(∀e∈oj.after,Region.binds .any e=true→e.on≠i)→oi.apart ops oj=true)→
   Down ops listed→i∈Region.ready .any ops listed→YieldsIf P ops S oi v a→S w→
   nV P ops Q S fuel (listed.setIfInBounds i true) (a.put oi.dst v) w→nV P ops Q S (fuel+1) listed a w:=by
 intro fuel
 induction fuel with
 | zero=>
  intro listed a w _ _ hr hy hS H
  refine⟨fun h=>(by rw [h]at hr;cases hr),fun j hj=> ?_⟩
  by_cases hji:j=i
  ·subst hji;exact hy.wpOp hi hS ⟨.inr hS,H⟩
  ·have:=ready_mono hj hji
   rw [H.1]at this
   cases this
 | succ fuel ih=>
  intro listed a w hfree hdown hr hy hS H
  refine⟨fun h=>(by rw [h]at hr;cases hr),fun j hj=> ?_⟩
  by_cases hji:j=i
  ·subst hji;exact hy.wpOp hi hS ⟨.inr hS,H⟩
  ·have h1:=H.2 j (ready_mono hj hji)
   obtain⟨hjun,oj,hoj,hall⟩:=mem_ready.1 hj
   have hnot : ∀e∈oj.after,Region.binds .any e=true→e.on≠i:=fun e he hb heq=>by
    have h1:=hall e he hb
    have h0:=(mem_ready.1 hr).1
    rw [heq]at h1
    rcases Nat.lt_or_ge i listed.size with h' | h'
    ·simp [h']at h0 h1;rw [h0]at h1;cases h1
    ·simp [Array.getElem?_eq_none h']at h1
   have h2:=wpOp_putIf hoj (hfree j oj hoj hji hjun hnot) (fun cs b=>hsel i oi cs b hi) (fun cs b=>hsel j oj cs b hoj) hQ hy h1
   have hfree' : ∀k ok,ops[k]? = some ok→k≠i→(listed.setIfInBounds j true).getD k true=false→
     (∀e∈ok.after,Region.binds .any e=true→e.on≠i)→oi.apart ops ok=true:=fun k ok hk hki hun hno=>by
    refine hfree k ok hk hki ?_ hno
    by_cases hjk:j=k
    ·subst hjk;exact hjun
    ·rw [getD_set_ne true hjk]at hun;exact hun
   have hri:i∈Region.ready .any ops (listed.setIfInBounds j true):=ready_mono hr (Ne.symm hji)
   have hilt:i<ops.size:=(Array.getElem?_eq_some_iff.1 hi).1
   have hns:sinkAt ops j=true→False:=fun hsk=>by
    have h1:=hdown.anc hj (IJ hsk hilt (Ne.symm hji))
    have h0:=(mem_ready.1 hr).1
    rcases Nat.lt_or_ge i listed.size with h' | h'
    ·simp [h']at h0 h1;rw [h0]at h1;cases h1
    ·simp [Array.getElem?_eq_none h']at h1
   refine wpOp_mono (fun a' w' h3=> ?_) h2
   have hSw:S w':=h3.2.1.resolve_left hns
   refine⟨.inr hSw,ih (listed.setIfInBounds j true) a' w' hfree' (hdown.set hj) hri h3.1 hSw ?_⟩
   rw [Array.setIfInBounds_comm _ _ hji]
   exact h3.2.2
end
end Go.Proofs.YtocckceefcmeaaaGreatDoor.Vc
