/- A verification-condition reckoner for the model's code: the frame as a function of slots, one rule an operation; its soundness for the regions that keep the text's order. No condition. -/
import Derived.Calls
import Derived.Orders
import Derived.OrdersHeld
import Derived.Below
import Derived.Laws.Sem
import Derived.Laws.World
set_option linter.unusedVariables false
set_option linter.unusedSimpArgs false
namespace Go.Proofs.YtmhpfadbmpipkaaGreat.Vc
open Go Go.RowKit

/-! the frame -/
abbrev Regs := Nat → Value
def upd (ρ : Regs) (d : Nat) (v : Value) : Regs := fun n => bif Nat.beq n d then v else ρ n
def updO (ρ : Regs) (d : Option Nat) (v : Value) : Regs := match d with | some d => upd ρ d v | none => ρ
def opd (ρ : Regs) (x : Operand) : Value :=
  match x with
  | .tmp t => ρ t
  | .const v => v
  | .global g => .pointer (some ⟨g, 0, none⟩)
  | .func f => .func (.func f) #[] #[]

structure Fits (N : Nat) (ρ : Regs) (a : Act) : Prop where
  size : a.tmps.size = N
  get : ∀ t, a.tmps.getD t undef = ρ t
  defers : a.defers = []

theorem Fits.eval {N : Nat} {ρ : Regs} {a : Act} (h : Fits N ρ a) : a.eval = opd ρ := by
  funext x
  cases x with
  | tmp t => exact h.get t
  | _ => rfl

theorem Fits.put {N : Nat} {ρ : Regs} {a : Act} (h : Fits N ρ a) (d : Option Nat) (v : Value) (hd : ∀ t, d = some t → t < N) :
    Fits N (updO ρ d v) (a.put d v) := by
  cases d with
  | none => exact h
  | some t =>
    refine ⟨by simp [Act.put, h.size], fun s => ?_, by simp [Act.put, h.defers]⟩
    have ht : t < a.tmps.size := by rw [h.size]; exact hd t rfl
    by_cases hs : s = t
    · subst hs
      simp [Act.put, updO, upd, ht]
    · have hb : Nat.beq s t = false := by
        cases hb : Nat.beq s t with
        | false => rfl
        | true => exact absurd (Nat.eq_of_beq_eq_true hb) hs
      have h1 := h.get s
      have hst : t ≠ s := fun e => hs e.symm
      simp only [Act.put, updO, upd, hb, cond_false]
      rw [← h1]
      simp [Array.getElem?_setIfInBounds_ne hst]

/-! the goals at which the reckoner stops -/
structure VSem (P : Program) (s : Sem Value) (w : World) (K : Value → World → Prop) : Prop where
  ex : ∃ v w', s.run P w = .ok v w' ∧ K v w'
structure VUnit (P : Program) (s : Sem Unit) (w : World) (K : World → Prop) : Prop where
  ex : ∃ u w', s.run P w = .ok u w' ∧ K w'
def callable (P : Program) (f : FuncId) : Bool :=
  match P.funcs[f]? with
  | some fn => !(fn.name == "runtime.NumGoroutine") && fn.body.isSome
  | none => false
structure VCall (P : Program) (f : FuncId) (args : Array Value) (w : World) (K : Value → World → Prop) : Prop where
  ok : callable P f = true
  runs : Calls P f args w fun e w' => ∃ v, e = .returned v ∧ K v w'
structure VReq (p k : Prop) : Prop where
  req : p
  go : k
structure VPend (p k : Prop) : Prop where
  req : p
  go : k
/-- in a region that draws its order a reading operation leaves the world alone -/
def wr (q : Bool) (w : World) (K : Value → World → Prop) : Value → World → Prop :=
  match q with
  | true => fun v w' => VPend (w' = w) (K v w')
  | false => K
def vif (b : Bool) (t e : Prop) : Prop := match b with | true => t | false => e
theorem vif_split {b : Bool} {t e : Prop} (ht : b = true → t) (he : b = false → e) : vif b t e := by
  cases b
  · exact he rfl
  · exact ht rfl
theorem vif_true {b : Bool} {t e : Prop} (hb : b = true) (ht : t) : vif b t e := by subst hb; exact ht
theorem vif_false {b : Bool} {t e : Prop} (hb : b = false) (ht : e) : vif b t e := by subst hb; exact ht

/-- a value brought to its head form -/
def force (v : Value) (k : Value → Prop) : Prop :=
  match v with
  | .bool b => k (.bool b)
  | .int q n => k (.int q n)
  | .float q n => k (.float q n)
  | .complex q a b => k (.complex q a b)
  | .string s => k (.string s)
  | .pointer a => k (.pointer a)
  | .slice a n c => k (.slice a n c)
  | .map r => k (.map r)
  | .chan r => k (.chan r)
  | .func f a b => k (.func f a b)
  | .nilFunc => k .nilFunc
  | .iface t v => k (.iface t v)
  | .nilIface => k .nilIface
  | .agg cs => k (.agg cs)
  | .tuple vs => k (.tuple vs)
theorem force_eq (v : Value) (k : Value → Prop) : force v k = k v := by cases v <;> rfl
def forceL (l : List Value) (k : List Value → Prop) : Prop :=
  match l with
  | [] => k []
  | x :: r => force x fun x' => forceL r fun r' => k (x' :: r')
theorem forceL_eq (l : List Value) : ∀ k : List Value → Prop, forceL l k = k l := by
  induction l with
  | nil => intro k; rfl
  | cons x r ih => intro k; simp only [forceL, force_eq, ih]
def forceO (v : Option Value) (k : Option Value → Prop) : Prop :=
  match v with
  | some v => force v fun v' => k (some v')
  | none => k none
theorem forceO_eq (v : Option Value) (k : Option Value → Prop) : forceO v k = k v := by cases v <;> simp [forceO, force_eq]

/-! arithmetic -/
def bitsOp (op : BinOp) (k : IntKind) (a b : Int) : Int :=
  match op with
  | .and => k.wrap (BitVec.ofInt k.bits a &&& BitVec.ofInt k.bits b).toNat
  | .or => k.wrap (BitVec.ofInt k.bits a ||| BitVec.ofInt k.bits b).toNat
  | .xor => k.wrap (BitVec.ofInt k.bits a ^^^ BitVec.ofInt k.bits b).toNat
  | _ => k.wrap (BitVec.ofInt k.bits a &&& ~~~(BitVec.ofInt k.bits b)).toNat

def vInt (op : BinOp) (k : IntKind) (a b : Int) (w : World) (K : Value → World → Prop) : Prop :=
  match op with
  | .add => K (.int k (k.wrap (a + b))) w
  | .sub => K (.int k (k.wrap (a - b))) w
  | .mul => K (.int k (k.wrap (a * b))) w
  | .quo => VReq (b ≠ 0) (K (.int k (k.wrap (a.tdiv b))) w)
  | .rem => VReq (b ≠ 0) (K (.int k (a.tmod b)) w)
  | .and => K (.int k (bitsOp .and k a b)) w
  | .or => K (.int k (bitsOp .or k a b)) w
  | .xor => K (.int k (bitsOp .xor k a b)) w
  | .andNot => K (.int k (bitsOp .andNot k a b)) w
  | .shl => VReq (0 ≤ b) (K (.int k (k.wrap (a * 2 ^ min b.toNat k.bits))) w)
  | .shr => VReq (0 ≤ b) (K (.int k (a.fdiv (2 ^ min b.toNat k.bits))) w)
  | .eql => K (.bool (a == b)) w
  | .neq => K (.bool (a != b)) w
  | .lss => K (.bool (decide (a < b))) w
  | .leq => K (.bool (decide (a ≤ b))) w
  | .gtr => K (.bool (decide (a > b))) w
  | .geq => K (.bool (decide (a ≥ b))) w

def sEq (a b : ByteArray) : Bool := a.toList == b.toList
def sLt (a b : ByteArray) : Bool := Op.bytesLess a.toList b.toList
def smin (a b : ByteArray) : ByteArray := bif sLt a b || sEq a b then a else b
def smax (a b : ByteArray) : ByteArray := bif !sLt a b then a else b
def vStr (op : BinOp) (a b : ByteArray) (w : World) (K : Value → World → Prop) : Prop :=
  match op with
  | .add => VReq (((a.size + b.size : Nat) : Int) ≤ IntKind.i64.max) (K (.string (a ++ b)) w)
  | .eql => K (.bool (sEq a b)) w
  | .neq => K (.bool (!sEq a b)) w
  | .lss => K (.bool (sLt a b)) w
  | .leq => K (.bool (sLt a b || sEq a b)) w
  | .gtr => K (.bool (!(sLt a b || sEq a b))) w
  | .geq => K (.bool (!sLt a b)) w
  | _ => False

def vBin (P : Program) (q : Bool) (op : BinOp) (t : TypeId) (x y : Operand) (a b : Value) (w : World) (K : Value → World → Prop) : Prop :=
  match a, b with
  | .int k m, .int k' n => (match op with
    | .shl => vInt .shl k m n w K
    | .shr => vInt .shr k m n w K
    | op => bif decide (k = k') then vInt op k m n w K else False)
  | .string m, .string n => vStr op m n w K
  | .bool m, .bool n => (match op with
    | .eql => (match P.underlying t with | some .bool => K (.bool (m == n)) w | _ => False)
    | .neq => (match P.underlying t with | some .bool => K (.bool (!(m == n))) w | _ => False)
    | _ => False)
  | a, b => VSem P (do eqGuard op t x y a b; binOp op t a b) w (wr q w K)

def vUn (P : Program) (q : Bool) (op : UnOp) (a : Value) (w : World) (K : Value → World → Prop) : Prop :=
  match op, a with
  | .not, .bool b => K (.bool (!b)) w
  | .neg, .int k n => K (.int k (k.wrap (0 - n))) w
  | op, a => VSem P (Op.unary op a) w (wr q w K)

def vConv (P : Program) (q : Bool) (src dst : TypeId) (a : Value) (w : World) (K : Value → World → Prop) : Prop :=
  match P.underlying src, P.underlying dst, a with
  | some _, some (.int k), .int _ n => K (.int k (k.wrap n)) w
  | some (.string), some .string, .string s => K (.string s) w
  | _, _, a => VSem P (convert src dst a) w (wr q w K)

def aggB (P : Program) (t : TypeId) : Option Bool :=
  match P.underlying t with
  | some (.struct _) => some true
  | some (.array _ _) => some true
  | some _ => some false
  | none => none

def vField (P : Program) (t : TypeId) (cs : Array Value) (f : Nat) (w : World) (K : Value → World → Prop) : Prop :=
  match P.underlying t with
  | some (.struct fs) => (match fs.toList[f]? with
    | some fd => (match aggB P fd.type, P.info? fd.type with
      | some true, some i => forceL ((cs.toList.drop fd.offset).take i.size) fun l => K (.agg l.toArray) w
      | some false, some _ => (match cs.toList[fd.offset]? with
        | some v => K v w
        | none => False)
      | _, _ => False)
    | none => False)
  | _ => False

def vFieldAddr (P : Program) (t : TypeId) (a : Addr) (f : Nat) (w : World) (K : Value → World → Prop) : Prop :=
  match P.underlying t with
  | some (.struct fs) => (match fs.toList[f]? with
    | some fd => (match P.info? fd.type with
      | some i => bif Nat.beq i.size 0 then False else K (.pointer (some (a.add fd.offset))) w
      | none => False)
    | none => False)
  | _ => False

/-- a struct's, an array's and a slice's literal -/
def setL (cells : List Value) (off : Nat) (vs : List Value) : List Value :=
  match vs with
  | [] => cells
  | c :: r => setL (cells.set off c) (off + 1) r
def fillL (place : Nat → Option (Nat × Nat)) (cells : List Value) (parts : List (Nat × Value)) : Option (List Value) :=
  match parts with
  | [] => some cells
  | (i, v) :: rest => (match place i with
    | none => none
    | some (off, size) => bif Nat.beq v.cells.toList.length size && Nat.ble (off + v.cells.toList.length) cells.length then fillL place (setL cells off v.cells.toList) rest else none)
def placesL (P : Program) (fs : List Field) : Option (List (Nat × Nat)) :=
  match fs with
  | [] => some []
  | f :: r => (match P.info? f.type, placesL P r with
    | some i, some l => some ((f.offset, i.size) :: l)
    | _, _ => none)
def vBuild (P : Program) (t : TypeId) (parts : List (Nat × Value)) (w : World) (K : Value → World → Prop) : Prop :=
  match (P.info? t).bind (·.zero), P.underlying t with
  | some z, some (.struct fs) => (match placesL P fs.toList with
    | some pl => (match fillL (fun i => pl[i]?) z.cells.toList parts with
      | some l => forceL l fun l => K (.agg l.toArray) w
      | none => False)
    | none => False)
  | some z, some (.array _ e) => (match P.info? e with
    | some i => (match fillL (fun j => some (j * i.size, i.size)) z.cells.toList parts with
      | some l => forceL l fun l => K (.agg l.toArray) w
      | none => False)
    | none => False)
  | _, _ => False
def vBuildSlice (P : Program) (t : TypeId) (n : Nat) (parts : List (Nat × Value)) (w : World) (K : Value → World → Prop) : Prop :=
  match P.underlying t with
  | some (.slice e) => (match P.info? e with
    | some i => (match i.zero with
      | some z => bif Nat.beq z.cells.toList.length i.size && Nat.ble 1 i.size && Nat.ble (n * i.size) 16777216 then
          (match fillL (fun j => some (j * i.size, i.size)) (List.replicate n z.cells.toList).flatten parts with
          | some l => forceL l fun l => K (.slice (some ⟨w.heap.size, 0, none⟩) n n) (w.alloc (.cells l.toArray e))
          | none => False) else False
      | none => False)
    | none => False)
  | _ => False

def vArgs (ρ : Regs) (xs : List Operand) (k : List Value → Prop) : Prop := forceL (xs.map (opd ρ)) k

def vLen (P : Program) (q : Bool) (t ty : TypeId) (a : Value) (w : World) (K : Value → World → Prop) : Prop :=
  match P.underlying t, a with
  | some .string, .string s => K (.int .i64 s.size) w
  | some (.slice _), .slice _ n _ => K (.int .i64 n) w
  | some (.array n _), _ => K (.int .i64 n) w
  | _, a => VSem P (Builtin.len_ #[t] ty #[a]) w (wr q w K)

def vCallB (P : Program) (q : Bool) (b : Builtin) (ts : List TypeId) (ty : TypeId) (args : List Value) (w : World) (K : Value → World → Prop) : Prop :=
  match b, ts, args with
  | .len, [t], [a] => vLen P q t ty a w K
  | .min, _, [.int k x, .int _ y] => K (.int k (min x y)) w
  | .max, _, [.int k x, .int _ y] => K (.int k (max x y)) w
  | .min, _, [.string x, .string y] => K (.string (smin x y)) w
  | .max, _, [.string x, .string y] => K (.string (smax x y)) w
  | .append, ts, args => VSem P (Builtin.append_ ts.toArray ty args.toArray) w (wr q w K)
  | .copy, ts, args => VSem P (Builtin.copy_ ts.toArray ty args.toArray) w (wr q w K)
  | .min, ts, args => VSem P (Builtin.min_ ts.toArray ty args.toArray) w (wr q w K)
  | .max, ts, args => VSem P (Builtin.max_ ts.toArray ty args.toArray) w (wr q w K)
  | .len, ts, args => VSem P (Builtin.len_ ts.toArray ty args.toArray) w (wr q w K)
  | .cap, ts, args => VSem P (Builtin.cap_ ts.toArray ty args.toArray) w (wr q w K)
  | .delete, ts, args => VSem P (Builtin.delete_ ts.toArray ty args.toArray) w (wr q w K)
  | .clear, ts, args => VSem P (Builtin.clear_ ts.toArray ty args.toArray) w (wr q w K)
  | _, _, _ => False

def vCall (P : Program) (q : Bool) (ρ : Regs) (c : Call) (ty : TypeId) (w : World) (K : Value → World → Prop) : Prop :=
  match c.callee with
  | .builtin b => vArgs ρ c.args.toList fun args => vCallB P q b c.argTypes.toList ty args w K
  | .value f => (match opd ρ f with
    | .func (.func g) first captured => vArgs ρ c.args.toList fun args => VCall P g ((first ++ args.toArray) ++ captured) w K
    | _ => False)
  | .invoke _ _ => False

def vOp (P : Program) (q : Bool) (o : Oper) (ρ : Regs) (w : World) (K : Value → World → Prop) : Prop :=
  match o.op with
  | .move x => force (opd ρ x) fun v => K v w
  | .assign x => force (opd ρ x) fun v => K v w
  | .pick c a b => (match opd ρ c with
    | .bool t => (match opd ρ a, opd ρ b with
      | .bool x, .bool y => K (.bool (bif t then x else y)) w
      | _, _ => vif t (K (opd ρ a) w) (K (opd ρ b) w))
    | _ => False)
  | .alloc elem => (match (P.info? elem).bind (·.zero) with
    | some (.agg cs) => K (.pointer (some ⟨w.heap.size, 0, none⟩)) (w.alloc (.cells cs elem))
    | some z => K (.pointer (some ⟨w.heap.size, 0, none⟩)) (w.alloc (.cells z.cells elem))
    | none => False)
  | .box elem x => force (opd ρ x) fun v => (match v with
    | .agg cs => K (.pointer (some ⟨w.heap.size, 0, none⟩)) (w.alloc (.cells cs elem))
    | v => K (.pointer (some ⟨w.heap.size, 0, none⟩)) (w.alloc (.cells v.cells elem)))
  | .build t parts => forceL (parts.toList.map fun p => opd ρ p.2) fun vs => vBuild P t ((parts.toList.map (·.1)).zip vs) w K
  | .buildSlice t n parts => forceL (parts.toList.map fun p => opd ρ p.2) fun vs => vBuildSlice P t n ((parts.toList.map (·.1)).zip vs) w K
  | .load t a => (match opd ρ a with
    | .pointer (some a) => VSem P (loadVar t a) w (wr q w K)
    | _ => False)
  | .store t a x => (match opd ρ a with
    | .pointer (some a) => force (opd ρ x) fun v => VUnit P (storeVar t a v) w fun w' => K undef w'
    | _ => False)
  | .nilCheck x => (match opd ρ x with
    | .pointer (some a) => K (.pointer (some a)) w
    | _ => False)
  | .binOp op t x y _ => vBin P q op t x y (opd ρ x) (opd ρ y) w K
  | .unOp op _ x => vUn P q op (opd ρ x) w K
  | .convert src dst x => vConv P q src dst (opd ρ x) w K
  | .makeFunc fn first captured => vArgs ρ first.toList fun a => vArgs ρ captured.toList fun b => K (.func fn a.toArray b.toArray) w
  | .makeMap t r => forceO (r.map (opd ρ)) fun r => VSem P (Instr.makeMap t r) w (wr q w K)
  | .makeSlice t l c => force (opd ρ l) fun l => force (opd ρ c) fun c => VSem P (Instr.makeSlice t l c) w (wr q w K)
  | .slice t x lo hi mx => force (opd ρ x) fun x => forceO (lo.map (opd ρ)) fun lo => forceO (hi.map (opd ρ)) fun hi => forceO (mx.map (opd ρ)) fun mx =>
      VSem P (Instr.sliceAt t x lo hi mx) w (wr q w K)
  | .fieldAddr s x f => (match opd ρ x with
    | .pointer (some a) => vFieldAddr P s a f w K
    | _ => False)
  | .field t x f => (match opd ρ x with
    | .agg cs => vField P t cs f w K
    | _ => False)
  | .indexAddr t x i => force (opd ρ x) fun x => force (opd ρ i) fun i => VSem P (Instr.indexAt t x i) w (wr q w K)
  | .index t x i => force (opd ρ x) fun x => force (opd ρ i) fun i => VSem P (Instr.index t x i) w (wr q w K)
  | .lookup t x i ok => force (opd ρ x) fun x => force (opd ρ i) fun i => VSem P (Instr.lookup t x i ok) w (wr q w K)
  | .mapUpdate t m k x => force (opd ρ m) fun m => force (opd ρ k) fun k => force (opd ρ x) fun x => VUnit P (Instr.mapUpdate t m k x) w fun w' => K undef w'
  | .range t x => force (opd ρ x) fun x => VSem P (Instr.range t x) w (wr q w K)
  | .next it s => force (opd ρ it) fun it => VSem P (Instr.next it s o.type) w (wr q w K)
  | .entry it => force (opd ρ it) fun it => VSem P (Instr.entry it) w (wr q w K)
  | .extract t i => (match opd ρ t with
    | .tuple vs => (match vs.toList[i]? with
      | some v => K v w
      | none => False)
    | _ => False)
  | .call c => vCall P q ρ c o.type w K
  | _ => False

/-! soundness of an operation -/
theorem Oper.wp_of {P : Program} {o : Oper} {a : Act} {w : World} {next : Act → World → Prop} {Q : Exit → Act → World → Prop} {v : Value} {w' : World}
    (h : (execOp a.eval o).run P w = .ok (.value v) w') (k : next (a.put o.dst v) w') : o.wp P a w next Q := by
  unfold Oper.wp; rw [h]; exact k
theorem Oper.wp_of_skip {P : Program} {o : Oper} {a : Act} {w : World} {next : Act → World → Prop} {Q : Exit → Act → World → Prop} {w' : World}
    (h : (execOp a.eval o).run P w = .ok .skip w') (k : next (a.put o.dst undef) w') : o.wp P a w next Q := by
  unfold Oper.wp; rw [h]; exact k

def quietKind (o : Oper) : Bool :=
  match o.op with
  | .move _ | .assign _ | .pick _ _ _ | .nilCheck _ | .binOp _ _ _ _ _ | .unOp _ _ _ | .convert _ _ _ | .fieldAddr _ _ _ | .field _ _ _
  | .indexAddr _ _ _ | .index _ _ _ | .slice _ _ _ _ _ | .lookup _ _ _ _ | .extract _ _ | .makeFunc _ _ _ | .load _ _ | .build _ _ => true
  | .call c => (match c.callee with
    | .builtin .len => true
    | .builtin .min => true
    | .builtin .max => true
    | .builtin .cap => true
    | _ => false)
  | _ => false
/-- operations that never look at the world -/
def pureKind (o : Oper) : Bool :=
  match o.op with
  | .move _ | .assign _ | .extract _ _ | .makeFunc _ _ _ | .nilCheck _ => true
  | _ => false

/-- what an operation did: a value, nothing, or a call -/
def Did (P : Program) (q : Bool) (o : Oper) (ρ : Regs) (w : World) (K : Value → World → Prop) : Prop :=
  (∃ v w', (execOp (opd ρ) o).run P w = .ok (.value v) w' ∧ K v w' ∧ (q = true → quietKind o = true → w' = w)) ∨
  (∃ w', (execOp (opd ρ) o).run P w = .ok .skip w' ∧ K undef w' ∧ quietKind o = false) ∨
  (∃ f args, (execOp (opd ρ) o).run P w = .ok (.enter f args) w ∧ quietKind o = false ∧ Calls P f args w fun e w' => ∃ v, e = .returned v ∧ K v w')

theorem Did.wp {P : Program} {q : Bool} {o : Oper} {ρ : Regs} {a : Act} {w : World} {K : Value → World → Prop} {next : Act → World → Prop} {Q : Exit → Act → World → Prop}
    (he : a.eval = opd ρ) (h : Did P q o ρ w K) (hk : ∀ v w', K v w' → next (a.put o.dst v) w') : o.wp P a w next Q := by
  rcases h with ⟨v, w', hr, k, _⟩ | ⟨w', hr, k, _⟩ | ⟨f, args, hr, _, hc⟩
  · exact Oper.wp_of (he ▸ hr) (hk _ _ k)
  · exact Oper.wp_of_skip (he ▸ hr) (hk _ _ k)
  · unfold Oper.wp
    rw [he, hr]
    exact hc.mono fun e w' ⟨v, hv, k⟩ => by subst hv; exact hk _ _ k
theorem Did.quiet {P : Program} {o : Oper} {ρ : Regs} {w : World} {K : Value → World → Prop} (hq : quietKind o = true) (h : Did P true o ρ w K) :
    ∃ v, (execOp (opd ρ) o).run P w = .ok (.value v) w ∧ K v w := by
  rcases h with ⟨v, w', hr, k, he⟩ | ⟨w', hr, k, he⟩ | ⟨f, args, hr, he, hc⟩
  · have := he rfl hq
    subst this
    exact ⟨v, hr, k⟩
  · rw [hq] at he; cases he
  · rw [hq] at he; cases he

end Go.Proofs.YtmhpfadbmpipkaaGreat.Vc
