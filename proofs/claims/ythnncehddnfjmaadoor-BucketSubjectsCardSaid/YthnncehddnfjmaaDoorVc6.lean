/- The reckoner's rules for what reads and writes memory, calls and returns; in the spelling in which a walk meets them. No condition. The reckoner's rules for append, make, slices of slices and conversions between strings and bytes. No condition. -/
import Derived.Test.YthnncehddnfjmaaDoorVc4
import Derived.Laws.AppendOwn
import Derived.Laws.OwnMore
import Derived.Laws.MakeOwn
import Derived.IntWalk
import Derived.Laws.IdiomStrings
import Derived.Laws.BytesArg
import Derived.Laws.Strings
set_option linter.unusedVariables false
set_option linter.unusedSimpArgs false
namespace Go.Proofs.YthnncehddnfjmaaDoor.Vc
open Go Go.RowKit

/-! worlds -/
/-- all but block b is as it was -/
structure Only (b : Nat) (w w' : World) : Prop where
  os : w'.os = w.os
  tape : w'.tape = w.tape
  output : w'.output = w.output
  size : w'.heap.size = w.heap.size
  block : ∀ k, k ≠ b → w'.heap[k]? = w.heap[k]?
theorem Only.refl (b : Nat) (w : World) : Only b w w := ⟨rfl, rfl, rfl, rfl, fun _ _ => rfl⟩
theorem Only.trans {b : Nat} {u v w : World} (h : Only b u v) (k : Only b v w) : Only b u w :=
  ⟨k.os.trans h.os, k.tape.trans h.tape, k.output.trans h.output, k.size.trans h.size, fun i hi => (k.block i hi).trans (h.block i hi)⟩
theorem Only.drew {b : Nat} {u v : World} (h : Only b u v) : Only b u v.drew := ⟨h.os, h.tape, h.output, h.size, h.block⟩
theorem Only.ofDrew {b : Nat} {u v : World} (h : Only b u.drew v) : Only b u v := ⟨h.os, h.tape, h.output, h.size, h.block⟩
theorem Only.step {b : Nat} {u v w : World} (k : Only b u.drew v) (h : Only b w u) : Only b w v := h.trans k.ofDrew
theorem Only.stepP {b : Nat} {u v w : World} (k : Only b u v) (h : Only b w u) : Only b w v := h.trans k
theorem Only.below {b B : Nat} {w w' : World} (h : Only b w w') (hB : B ≤ b) : Below B w w' :=
  ⟨h.os, h.tape, h.output, Nat.le_of_eq h.size.symm, fun k hk => h.block k (by omega)⟩
theorem Below.ofDrew {B : Nat} {u v : World} (h : Below B u.drew v) : Below B u v := ⟨h.os, h.tape, h.output, h.size, h.block⟩
theorem belowDrew {B : Nat} {u v : World} (h : Below B u v) : Below B u v.drew := ⟨h.os, h.tape, h.output, h.size, h.block⟩
/-- nothing is changed but the count of draws -/
structure Quiet (w w' : World) : Prop where
  os : w'.os = w.os
  tape : w'.tape = w.tape
  output : w'.output = w.output
  heap : w'.heap = w.heap
theorem Quiet.refl (w : World) : Quiet w w := ⟨rfl, rfl, rfl, rfl⟩
theorem Quiet.trans {a b c : World} (h : Quiet a b) (k : Quiet b c) : Quiet a c := ⟨k.os.trans h.os, k.tape.trans h.tape, k.output.trans h.output, k.heap.trans h.heap⟩
theorem Quiet.drew {a b : World} (h : Quiet a b) : Quiet a b.drew := ⟨h.os, h.tape, h.output, h.heap⟩
theorem Quiet.below {a b : World} (h : Quiet a b) (B : Nat) : Below B a b := ⟨h.os, h.tape, h.output, by rw [h.heap]; exact Nat.le_refl _, fun k _ => by rw [h.heap]⟩
theorem Quiet.only {a b : World} (h : Quiet a b) (B : Nat) : Only B a b := ⟨h.os, h.tape, h.output, by rw [h.heap], fun k _ => by rw [h.heap]⟩

/-- block b holds these cells, and may be written -/
def Blk (w : World) (b : Nat) (l : List Value) (t : TypeId) : Prop := w.heap[b]? = some (.cells l.toArray t (0, 0))
theorem Blk.lt {w : World} {b : Nat} {l : List Value} {t : TypeId} (h : Blk w b l t) : b < w.heap.size := (Array.getElem?_eq_some_iff.1 h).1
theorem Blk.cell {w : World} {b : Nat} {l : List Value} {t : TypeId} (h : Blk w b l t) (o : Nat) : w.cell? ⟨b, o, none⟩ = l[o]? := by
  have h' : w.heap[b]? = some (.cells l.toArray t (0, 0)) := h
  simp [World.cell?, h']
theorem Blk.only {w w' : World} {b c : Nat} {l : List Value} {t : TypeId} (h : Blk w b l t) (ho : Only c w w') (hne : b ≠ c) : Blk w' b l t := (ho.block b hne).trans h
theorem Blk.below {w w' : World} {b B : Nat} {l : List Value} {t : TypeId} (h : Blk w b l t) (hb : Below B w w') (hlt : b < B) : Blk w' b l t := (hb.block b hlt).trans h
theorem Blk.quiet {w w' : World} {b : Nat} {l : List Value} {t : TypeId} (h : Blk w b l t) (hq : Quiet w w') : Blk w' b l t := by
  unfold Blk at *; rw [hq.heap]; exact h
theorem Blk.new (w : World) (cs : Array Value) (t : TypeId) : Blk (w.alloc (.cells cs t)) w.heap.size cs.toList t := by
  unfold Blk
  rw [heap_alloc_new w]
theorem Blk.alloc {w : World} {b : Nat} {l : List Value} {t : TypeId} (h : Blk w b l t) (o : Obj) : Blk (w.alloc o) b l t :=
  (heap_alloc_old w o b h.lt).trans h

/-! calls -/
def Ret (P : Program) (f : FuncId) (args : Array Value) (w : World) (R : Value → World → Prop) : Prop := Calls P f args w fun e w' => ∃ v, e = .returned v ∧ R v w'
theorem Ret.mono {P : Program} {f : FuncId} {args : Array Value} {w : World} {R R' : Value → World → Prop} (h : Ret P f args w R) (k : ∀ v w', R v w' → R' v w') : Ret P f args w R' :=
  Calls.mono h fun _ _ ⟨v, he, hr⟩ => ⟨v, he, k _ _ hr⟩
theorem ret_of_vc {P : Program} {f : FuncId} {fn : Func} {c : Code} {args : Array Value} {w : World} {R : Value → World → Prop}
    (hf : P.funcs[f]? = some fn) (hb : fn.body = some c) (hm : P.follows .mixedOrders = true) (hok : (Nat.ble args.size fn.ntmps && codeIn fn.ntmps (fun _ => true) c) = true)
    (h : vC P c (fin P fn R) (frame0 args) w) : Ret P f args w R := by
  simp only [Bool.and_eq_true] at hok
  exact calls_of_vc hf hb hm (Nat.le_of_ble_eq_true hok.1) hok.2 h
theorem vcall {P : Program} {f : FuncId} {args : Array Value} {w : World} {K : Value → World → Prop} {R : Value → World → Prop} (hc : callable P f = true) (h : Ret P f args w R)
    (k : ∀ v w', R v w' → K v w') : VCall P f args w K := ⟨hc, h.mono k⟩
theorem intEq {k : IntKind} {a b : Int} (h : a = b) : Value.int k a = Value.int k b := by rw [h]
theorem incr {i : Nat} (h : i < 9223372036854775807) : IntKind.i64.wrap ((i : Int) + 1) = ((i + 1 : Nat) : Int) := by
  rw [IntWalk.i64_in _ (by omega)]
  rfl

/-! memory -/
def szB (P : Program) (t : TypeId) : Option Nat := (P.info? t).map (·.size)
theorem szB_info {P : Program} {t : TypeId} {n : Nat} (h : szB P t = some n) : ∃ i, P.info? t = some i ∧ i.size = n := by
  unfold szB at h
  cases hi : P.info? t with
  | none => simp [hi] at h
  | some i => simp only [hi, Option.map_some, Option.some.injEq] at h; exact ⟨i, rfl, h⟩
theorem run_size {P : Program} {t : TypeId} {n : Nat} {w : World} (h : szB P t = some n) : (sizeOf t).run P w = .ok n w := by
  obtain ⟨i, hi, rfl⟩ := szB_info h
  simp [sizeOf, run_info hi]
theorem vsem {P : Program} {s : Sem Value} {w w' : World} {v : Value} {K : Value → World → Prop} (h : s.run P w = .ok v w') (k : K v w') : VSem P s w K := ⟨v, w', h, k⟩
theorem add0 (b o n : Nat) : (⟨b, o, none⟩ : Addr).add n = ⟨b, o + n, none⟩ := by unfold Addr.add; split <;> simp_all

section
variable {P : Program} {w : World} {K : Value → World → Prop}
theorem vs_load1 {t : TypeId} {a : Addr} {v : Value} (ha : aggB P t = some false) (h : w.cell? a = some v) (k : K v w) : VSem P (loadVar t a) w K := by
  refine vsem ?_ k
  unfold loadVar
  rw [Sem.run_bind, run_isAgg ha]
  simp [h]
theorem vs_loadB {t T : TypeId} {b o : Nat} {l : List Value} {v : Value} (ha : aggB P t = some false) (hb : Blk w b l T) (hv : l[o]? = some v) (k : K v w) : VSem P (loadVar t ⟨b, o, none⟩) w K :=
  vs_load1 ha (by rw [hb.cell]; exact hv) k
theorem run_loadCellsFrom (a : Addr) : ∀ (l : List Value) (i : Nat) (acc : Array Value), (∀ j v, l[j]? = some v → w.cell? (a.add (i + j)) = some v) →
    (loadCellsFrom a i l.length acc).run P w = .ok (acc ++ l.toArray) w := by
  intro l
  induction l with
  | nil => intro i acc _; simp [loadCellsFrom]
  | cons v r ih =>
    intro i acc h
    have h0 := h 0 v rfl
    simp only [Nat.add_zero] at h0
    simp only [List.length_cons, loadCellsFrom, Sem.run_bind, run_load, h0, Result.andThen_ok]
    rw [ih (i + 1) _ (fun j u hj => by have := h (j + 1) u (by simpa using hj); rw [show i + 1 + j = i + (j + 1) by omega]; exact this)]
    simp
theorem vs_loadN {t : TypeId} {a : Addr} {l : List Value} (ha : aggB P t = some true) (hs : szB P t = some l.length) (h : ∀ j v, l[j]? = some v → w.cell? (a.add j) = some v)
    (k : K (.agg l.toArray) w) : VSem P (loadVar t a) w K := by
  refine vsem ?_ k
  unfold loadVar
  rw [Sem.run_bind, run_isAgg ha]
  simp only [Result.andThen_ok, if_true, Sem.run_bind, run_size hs, loadCells]
  rw [run_loadCellsFrom a l 0 #[] (fun j v hj => by rw [Nat.zero_add]; exact h j v hj)]
  simp
theorem vs_loadNB {t T : TypeId} {b : Nat} {l : List Value} (ha : aggB P t = some true) (hs : szB P t = some l.length) (hb : Blk w b l T)
    (k : K (.agg l.toArray) w) : VSem P (loadVar t ⟨b, 0, none⟩) w K :=
  vs_loadN ha hs (fun j v hj => by rw [add0, hb.cell, Nat.zero_add]; exact hj) k
theorem vs_store1 {t : TypeId} {a : Addr} {v u : Value} {K : World → Prop} (hs : szB P t = some 1) (hv : v.oneCell' = true) (h : w.cell? a = some u) (hf : w.frozen? a = false)
    (k : K (w.setCell a v)) : VUnit P (storeVar t a v) w K := by
  have hc : v.cells = #[v] := by cases v <;> first | rfl | simp [Value.oneCell'] at hv
  have ha : a.add 0 = a := by simp [Addr.add]
  refine ⟨(), _, ?_, k⟩
  unfold storeVar
  simp only [Sem.run_bind, run_size hs, Result.andThen_ok, hc]
  simp [storeCells, ha, run_store P w a v _ hv, h, hf]
theorem blk_set {b o : Nat} {l : List Value} {T : TypeId} (hb : Blk w b l T) (v : Value) : Only b w (w.setCell ⟨b, o, none⟩ v) ∧ Blk (w.setCell ⟨b, o, none⟩ v) b (l.set o v) T := by
  have hb' : w.heap[b]? = some (.cells l.toArray T (0, 0)) := hb
  refine ⟨⟨rfl, rfl, rfl, by simp, fun k hk => Below.heap_setCell _ _ _ _ hk⟩, ?_⟩
  unfold Blk
  rw [setCell_eq_setRow w b o _ T (0, 0) v hb', setRow_heap w b _ _ T (0, 0) hb']
  simp
theorem vs_storeB {t T : TypeId} {b o : Nat} {l : List Value} {v : Value} {K : World → Prop} (hb : Blk w b l T) (hs : szB P t = some 1) (hv : v.oneCell' = true) (hlt : Nat.blt o l.length = true)
    (k : ∀ w', Only b w w' → Blk w' b (l.set o v) T → K w') : VUnit P (storeVar t ⟨b, o, none⟩ v) w K := by
  have hb' : w.heap[b]? = some (.cells l.toArray T (0, 0)) := hb
  have ho : o < l.length := Nat.le_of_ble_eq_true hlt
  refine vs_store1 hs hv (u := l[o]) (by rw [hb.cell]; exact List.getElem?_eq_getElem ho) (by simp [World.frozen?, hb']) ?_
  exact k _ (blk_set hb v).1 (blk_set hb v).2
theorem run_storeCellsB {b : Nat} {T : TypeId} : ∀ (vs : List Value) (i o : Nat) (l : List Value) (w : World), Blk w b l T → o + i + vs.length ≤ l.length → (∀ v ∈ vs, v.oneCell' = true) →
    ∃ w', (storeCells ⟨b, o, none⟩ vs i).run P w = .ok () w' ∧ Only b w w' ∧ Blk w' b (setL l (o + i) vs) T := by
  intro vs
  induction vs with
  | nil => intro i o l w hb _ _; exact ⟨w, by simp [storeCells], Only.refl _ _, hb⟩
  | cons v r ih =>
    intro i o l w hb hl h1
    simp only [List.length_cons] at hl
    have hb' : w.heap[b]? = some (.cells l.toArray T (0, 0)) := hb
    have hcell : w.cell? ⟨b, o + i, none⟩ = some l[o + i] := by rw [hb.cell]; exact List.getElem?_eq_getElem (by omega)
    have hfro : w.frozen? ⟨b, o + i, none⟩ = false := by simp [World.frozen?, hb']
    obtain ⟨ho1, hb1⟩ := blk_set (o := o + i) hb v
    obtain ⟨w', hr, ho, hbw⟩ := ih (i + 1) o (l.set (o + i) v) _ hb1 (by simp; omega) (fun u hu => h1 u (by simp [hu]))
    refine ⟨w', ?_, ho1.trans ho, ?_⟩
    · simp only [storeCells, Sem.run_bind, add0, run_store P w _ v _ (h1 v (by simp)), hcell, hfro]
      simp only [Bool.false_eq_true, if_false, Result.andThen_ok]
      exact hr
    · simp only [setL]; exact hbw
theorem vs_storeN {t T : TypeId} {b o : Nat} {l vs : List Value} {K : World → Prop} (hb : Blk w b l T) (hs : szB P t = some vs.length) (h1 : vs.all (·.oneCell') = true)
    (hl : Nat.ble (o + vs.length) l.length = true) (k : ∀ w', Only b w w' → Blk w' b (setL l o vs) T → K w') : VUnit P (storeVar t ⟨b, o, none⟩ (.agg vs.toArray)) w K := by
  obtain ⟨w', hr, ho, hbw⟩ := run_storeCellsB (P := P) vs 0 o l w hb (by have := Nat.le_of_ble_eq_true hl; omega) (List.all_eq_true.1 h1)
  refine ⟨(), w', ?_, k w' ho hbw⟩
  unfold storeVar
  simp only [Sem.run_bind, run_size hs, Result.andThen_ok, Value.cells]
  simp [hr]
theorem vs_arr {t e : TypeId} {n sz b o : Nat} {k : IntKind} {ix : Int} (m : Nat) (hu : P.underlying t = some (.array n e)) (hs : szB P e = some sz) (hm : ix = m) (h : m < n)
    (hk : K (.pointer (some ⟨b, o + m * sz, none⟩)) w) : VSem P (Instr.indexAt t (.pointer (some ⟨b, o, none⟩)) (.int k ix)) w K := by
  refine vsem ?_ hk
  subst hm
  have h1 : (0 : Int) ≤ m ∧ (m : Int) < n := ⟨by omega, by omega⟩
  unfold Instr.indexAt
  simp [asIntOf, run_under hu, Instr.sureAddr, h, run_size hs, add0]
theorem vs_arr1 {t e : TypeId} {n b o : Nat} {k : IntKind} {ix : Int} (m : Nat) (hu : P.underlying t = some (.array n e)) (hs : szB P e = some 1) (hm : ix = m) (h : m < n)
    (hk : K (.pointer (some ⟨b, o + m, none⟩)) w) : VSem P (Instr.indexAt t (.pointer (some ⟨b, o, none⟩)) (.int k ix)) w K :=
  vs_arr m hu hs hm h (by rw [Nat.mul_one]; exact hk)
/-- a literal index -/
theorem vs_arrL {t e : TypeId} {n b o : Nat} {k : IntKind} {m : Nat} (hu : P.underlying t = some (.array n e)) (hs : szB P e = some 1) (h : Nat.blt m n = true)
    (hk : K (.pointer (some ⟨b, o + m, none⟩)) w) : VSem P (Instr.indexAt t (.pointer (some ⟨b, o, none⟩)) (.int k (OfNat.ofNat m))) w K :=
  vs_arr1 m hu hs rfl (Nat.le_of_ble_eq_true h) hk
theorem vs_sl {t e : TypeId} {sz b o n c : Nat} {k : IntKind} {ix : Int} (m : Nat) (hu : P.underlying t = some (.slice e)) (hs : szB P e = some sz) (hm : ix = m) (h : m < n)
    (hk : K (.pointer (some ⟨b, o + m * sz, none⟩)) w) : VSem P (Instr.indexAt t (.slice (some ⟨b, o, none⟩) n c) (.int k ix)) w K := by
  refine vsem ?_ hk
  subst hm
  have h1 : (0 : Int) ≤ m ∧ (m : Int) < n := ⟨by omega, by omega⟩
  unfold Instr.indexAt
  simp [asIntOf, run_under hu, h, run_size hs, add0]
theorem vs_sl1 {t e : TypeId} {b o n c : Nat} {k : IntKind} {ix : Int} (m : Nat) (hu : P.underlying t = some (.slice e)) (hs : szB P e = some 1) (hm : ix = m) (h : m < n)
    (hk : K (.pointer (some ⟨b, o + m, none⟩)) w) : VSem P (Instr.indexAt t (.slice (some ⟨b, o, none⟩) n c) (.int k ix)) w K :=
  vs_sl m hu hs hm h (by rw [Nat.mul_one]; exact hk)
end

/-! slices that are read -/
/-- the cells from an address on -/
def Row (w : World) (oa : Option Addr) (vs : List Value) : Prop :=
  vs = [] ∨ ∃ b o, oa = some ⟨b, o, none⟩ ∧ b < w.heap.size ∧ ∀ j v, vs[j]? = some v → w.cell? ⟨b, o + j, none⟩ = some v
theorem Row.get {w : World} {oa : Option Addr} {vs : List Value} (h : Row w oa vs) (hne : 0 < vs.length) :
    ∃ b o, oa = some ⟨b, o, none⟩ ∧ b < w.heap.size ∧ ∀ j v, vs[j]? = some v → w.cell? ⟨b, o + j, none⟩ = some v :=
  h.resolve_left fun e => by simp [e] at hne
theorem Row.below {w w' : World} {oa : Option Addr} {vs : List Value} (h : Row w oa vs) (hb : Below w.heap.size w w') : Row w' oa vs := by
  rcases h with h | ⟨b, o, he, hlt, hc⟩
  · exact .inl h
  · exact .inr ⟨b, o, he, Nat.lt_of_lt_of_le hlt hb.size, fun j v hj => by rw [hb.cell (p := ⟨b, o + j, none⟩) hlt]; exact hc j v hj⟩
theorem Row.nil (w : World) (oa : Option Addr) : Row w oa [] := .inl rfl
/-- a slice of bytes -/
def bvals (l : List UInt8) : List Value := l.map fun x => .int .u8 x.toNat
theorem bvals_get {l : List UInt8} {j : Nat} (h : j < l.length) : (bvals l)[j]? = some (.int .u8 l[j].toNat) := by simp [bvals, h]
@[simp] theorem bvals_len (l : List UInt8) : (bvals l).length = l.length := by simp [bvals]

end Go.Proofs.YthnncehddnfjmaaDoor.Vc

namespace Go.Proofs.YthnncehddnfjmaaDoor.Vc
open Go Go.RowKit

/-! a slice of the call's own -/
def Own (w : World) (B : Nat) (E : TypeId) (sz : Nat) (oa : Option Addr) (n c : Nat) (xs : List Value) : Prop := w.ownsRow B E sz (.slice oa n c) n xs
theorem Own.len {w : World} {B : Nat} {E : TypeId} {sz : Nat} {oa : Option Addr} {n c : Nat} {xs : List Value} (h : Own w B E sz oa n c xs) : xs.length = n * sz := h.1
theorem Own.nil (w : World) (B : Nat) (E : TypeId) (sz : Nat) : Own w B E sz none 0 0 [] := World.ownsRow_nil w B E sz
theorem Own.row {w : World} {B : Nat} {E : TypeId} {sz : Nat} {oa : Option Addr} {n c : Nat} {xs : List Value} (h : Own w B E sz oa n c xs) : Row w oa xs := by
  rcases h.2 with ⟨hv, hn⟩ | ⟨g, cap, cur, hv, hg, hh, _⟩
  · subst hn
    exact .inl (List.eq_nil_of_length_eq_zero (by simpa using h.1))
  · injection hv with h1 h2 h3
    subst h1
    refine .inr ⟨g, 0, rfl, (Array.getElem?_eq_some_iff.1 hh).1, fun j v hj => ?_⟩
    have := World.ownsRow.cells (h : w.ownsRow B E sz (.slice (some ⟨g, 0, none⟩) n c) n xs) (g := g) rfl j v hj
    rw [add0] at this
    exact this
def ownB (oa : Option Addr) : Option Nat := oa.map (·.block)
theorem ownB_eq (oa : Option Addr) (n c : Nat) : (Value.slice oa n c).ownBlock = ownB oa := by cases oa <;> rfl
theorem Own.kept {w w' : World} {B : Nat} {E : TypeId} {sz : Nat} {oa : Option Addr} {n c : Nat} {xs : List Value} {row : Option Nat} (h : Own w B E sz oa n c xs) (hg : w.grownBy w' row)
    (hne : ownB oa = none ∨ ownB oa ≠ row) : Own w' B E sz oa n c xs := World.ownsRow.kept h hg (by rw [ownB_eq]; exact hne)
theorem Own.ge {w : World} {B : Nat} {E : TypeId} {sz : Nat} {oa : Option Addr} {n c : Nat} {xs : List Value} (h : Own w B E sz oa n c xs) : ∀ k, ownB oa = some k → B ≤ k ∧ k < w.heap.size := by
  intro k hk
  exact World.ownsRow.lt h k (by rw [ownB_eq]; exact hk)
/-- what is the call's own stays so while only younger memory is made -/
theorem Own.below {w w' : World} {B : Nat} {E : TypeId} {sz : Nat} {oa : Option Addr} {n c : Nat} {xs : List Value} (h : Own w B E sz oa n c xs) (hb : Below w.heap.size w w') : Own w' B E sz oa n c xs :=
  Own.kept h (row := none) ⟨hb.os, hb.tape, hb.output, hb.size, fun k hk _ => hb.block k hk⟩ (by cases h : ownB oa <;> simp)
theorem grown_below {w w' : World} {B : Nat} {row : Option Nat} (hg : w.grownBy w' row) (hB : B ≤ w.heap.size) (hr : ∀ k, row = some k → B ≤ k) : Below B w w' :=
  (Below.refl B w).grown hg hB hr

theorem Row.alloc1 (w : World) (l : List Value) (t : TypeId) : Row (w.alloc (.cells l.toArray t)) (some ⟨w.heap.size, 0, none⟩) l :=
  .inr ⟨w.heap.size, 0, rfl, by simp, fun j v hj => by have := (Blk.new w l.toArray t).cell j; rw [Nat.zero_add, this]; exact hj⟩
theorem Blk.row {w : World} {b : Nat} {l : List Value} {t : TypeId} (h : Blk w b l t) : Row w (some ⟨b, 0, none⟩) l :=
  .inr ⟨b, 0, rfl, h.lt, fun j v hj => by rw [Nat.zero_add, h.cell]; exact hj⟩
theorem vs_storeP {P : Program} {w : World} {t T : TypeId} {b o : Nat} {l : List Value} {v : Value} {K : World → Prop} (hb : Blk w b l T) (hs : szB P t = some 1) (hv : v.oneCell' = true) (hlt : o < l.length)
    (k : ∀ w', Only b w w' → Blk w' b (l.set o v) T → K w') : VUnit P (storeVar t ⟨b, o, none⟩ v) w K :=
  vs_storeB hb hs hv (Nat.ble_eq_true_of_le hlt) k
theorem Own.alloc {w : World} {B : Nat} {E : TypeId} {sz : Nat} {oa : Option Addr} {n c : Nat} {xs : List Value} (h : Own w B E sz oa n c xs) (o : Obj) : Own (w.alloc o) B E sz oa n c xs :=
  h.below ((Below.refl _ _).alloc (Nat.le_refl _) o)
theorem Row.drew {w : World} {oa : Option Addr} {vs : List Value} (h : Row w oa vs) : Row w.drew oa vs := h
theorem Row.alloc {w : World} {oa : Option Addr} {vs : List Value} (h : Row w oa vs) (o : Obj) : Row (w.alloc o) oa vs := h.below ((Below.refl _ _).alloc (Nat.le_refl _) o)
theorem balloc {B : Nat} {w w' : World} (h : Below B w w') (hB : B ≤ w.heap.size) (o : Obj) : Below B w (w'.alloc o) := h.alloc (Nat.le_trans hB h.size) o
theorem sliceEq {oa : Option Addr} {n m c : Nat} (h : n = m) : Value.slice oa n c = Value.slice oa m c := by rw [h]

def bytesB (P : Program) (t : TypeId) : Option Nat := (P.info? t).map (·.bytes)
def zeroB (P : Program) (t : TypeId) : Option (List Value) := (P.info? t).bind fun i => i.zero.map fun z => z.cells.toList
section
variable {P : Program} {w : World} {K : Value → World → Prop}
theorem vs_append {t ty E : TypeId} {sz by_ B n c m c2 : Nat} {oa oa2 : Option Addr} {xs news zs : List Value}
    (ht : P.underlying t = some (.slice E)) (hs : szB P E = some sz) (hby : bytesB P E = some by_) (hz : zeroB P E = some zs) (hzl : zs.length = sz) (hsz : Nat.ble 1 sz = true)
    (hown : Own w B E sz oa n c xs) (hr : Row w oa2 news) (hl : news.length = m * sz) (h1 : ∀ u ∈ news, u.oneCell' = true)
    (hnil : oa2 = none → c2 = 0)
    (hbytes : (n + m) * by_ ≤ 140737488355328) (hB : B ≤ w.heap.size) (hlen : n + m ≤ maxLen)
    (k : ∀ oa' c' w', Own w' B E sz oa' (n + m) c' (xs ++ news) → Below B w w' → w.grownBy w' (ownB oa) → K (.slice oa' (n + m) c') w') :
    VSem P (Builtin.append_ #[t, t] ty #[.slice oa n c, .slice oa2 m c2]) w K := by
  obtain ⟨i, hi, rfl⟩ := szB_info hs
  have hb' : i.bytes = by_ := by simpa [bytesB, hi] using hby
  obtain ⟨z, hz1, hz2⟩ : ∃ z, i.zero = some z ∧ z.cells.toList = zs := by
    unfold zeroB at hz
    simp only [hi, Option.bind_some] at hz
    cases hzz : i.zero with
    | none => simp [hzz] at hz
    | some z => simp only [hzz, Option.map_some, Option.some.injEq] at hz; exact ⟨z, rfl, hz⟩
  have hsz' : 0 < i.size := Nat.le_of_ble_eq_true hsz
  have hzc : z.cells.size = i.size := by rw [← hz2] at hzl; simpa using hzl
  by_cases hm : oa2 = none
  · subst hm
    have hm0 : news = [] := hr.resolve_right (by rintro ⟨b, o, he, _⟩; cases he)
    subst hm0
    have : m = 0 := by
      rcases Nat.eq_zero_or_pos m with h | h
      · exact h
      · have := Nat.mul_pos h hsz'; simp at hl; omega
    subst this
    have hc2 := hnil rfl
    subst hc2
    have hrun := run_append_owned_none (P := P) (w := w) B t ty E i i.size ht hi (.slice oa n c) n xs hown
    refine vsem hrun ?_
    have hk := k oa c w (by simpa using hown) (Below.refl _ _) ⟨rfl, rfl, rfl, Nat.le_refl _, fun _ _ _ => rfl⟩
    simpa using hk
  · obtain ⟨ad, rfl, hcells⟩ : ∃ ad, oa2 = some ad ∧ ∀ j u, news[j]? = some u → w.cell? (ad.add j) = some u := by
      rcases hr with rfl | ⟨b, o, rfl, _, hc⟩
      · cases oa2 with
        | none => exact absurd rfl hm
        | some ad => exact ⟨ad, rfl, by simp⟩
      · exact ⟨_, rfl, fun j u hj => by rw [add0]; exact hc j u hj⟩
    obtain ⟨v', w', hrun, ho, hg, _⟩ := run_append_own (P := P) w B t ty E i z i.size by_ ht hi hz1 rfl hb' hzc hsz' (.slice oa n c) n xs hown ad m c2 news hl hcells h1 hlen hbytes hB
    rw [ownB_eq] at hg
    have hv : ∃ oa' c', v' = .slice oa' (n + m) c' := by
      rcases ho.2 with ⟨h, h0⟩ | ⟨g, cap, cur, h, _⟩
      · exact ⟨none, 0, by rw [h, h0]⟩
      · exact ⟨_, cap, h⟩
    obtain ⟨oa', c', rfl⟩ := hv
    exact vsem hrun (k oa' c' w' ho (grown_below hg hB fun k hk => (hown.ge k hk).1) hg)
theorem vs_make {t E : TypeId} {sz by_ n : Nat} {kl kc : IntKind} {l c : Int} {zs : List Value}
    (ht : P.underlying t = some (.slice E)) (hs : szB P E = some sz) (hby : bytesB P E = some by_) (hz : zeroB P E = some zs) (hzl : zs.length = sz) (hsz : Nat.ble 1 sz = true)
    (hl : l = n) (hc : c = n) (hbytes : by_ * n ≤ 140737488355328) (hn : n ≤ maxLen)
    (k : ∀ w', w' = w.alloc (.cells (List.replicate n zs).flatten.toArray E) → Blk w' w.heap.size (List.replicate n zs).flatten E → K (.slice (some ⟨w.heap.size, 0, none⟩) n n) w') :
    VSem P (Instr.makeSlice t (.int kl l) (.int kc c)) w K := by
  subst hl; subst hc
  obtain ⟨i, hi, rfl⟩ := szB_info hs
  have hb' : i.bytes = by_ := by simpa [bytesB, hi] using hby
  subst hb'
  obtain ⟨z, hz1, hz2⟩ : ∃ z, i.zero = some z ∧ z.cells.toList = zs := by
    unfold zeroB at hz
    simp only [hi, Option.bind_some] at hz
    cases hzz : i.zero with
    | none => simp [hzz] at hz
    | some z => simp only [hzz, Option.map_some, Option.some.injEq] at hz; exact ⟨z, rfl, hz⟩
  have hsz' : 1 ≤ i.size := Nat.le_of_ble_eq_true hsz
  have hzc : z.cells.size = i.size := by rw [← hz2] at hzl; simpa using hzl
  have h63 : (n : Int) ≤ 9223372036854775807 := by unfold maxLen at hn; omega
  have hbi : (i.bytes : Int) * (n : Int) ≤ 281474976710656 := by
    rw [← Int.natCast_mul]
    omega
  have hrun := run_make (P := P) w t E i z ht hi hz1 kl kc n n (by omega) (by omega) hbi h63
  have hmc : madeCells z.cells (n * i.size) = (List.replicate n zs).flatten.toArray := by
    rw [← hz2, ← rep_cells z.cells n i.size hzc hsz']
    unfold madeCells
    rfl
  simp only [Int.toNat_natCast] at hrun
  rw [hmc] at hrun
  exact vsem hrun (k _ rfl (by have := Blk.new w (List.replicate n zs).flatten.toArray E; simpa using this))
/-- x[:h] of a slice -/
theorem vs_sliceHi {t E : TypeId} {sz n c h : Nat} {oa : Option Addr} {kh : IntKind} {hi : Int} (ht : P.underlying t = some (.slice E)) (hs : szB P E = some sz)
    (he : hi = h) (hh : h ≤ n) (hc : n ≤ c) (k : K (.slice oa h c) w) : VSem P (Instr.sliceAt t (.slice oa n c) none (some (.int kh hi)) none) w K := by
  refine vsem ?_ k
  subst he
  have h1 : (0 : Int) ≤ h ∧ (h : Int) ≤ c := ⟨by omega, by omega⟩
  unfold Instr.sliceAt
  rw [Sem.run_bind, run_under ht]
  simp only [Result.andThen_ok]
  unfold Instr.slice
  rw [Sem.run_bind, run_under ht]
  simp only [Result.andThen_ok, Instr.sliceBounds, Instr.sliceBound, asIntOf, Sem.run_bind, Sem.run_pure, if_pos h1, run_size hs]
  congr 1
  cases oa with
  | none => by_cases hc0 : c = 0 <;> simp [hc0]
  | some a => by_cases hc0 : c = 0 <;> simp [hc0, Addr.add]
theorem Row.take {oa : Option Addr} {vs : List Value} (h : Row w oa vs) (n : Nat) : Row w oa (vs.take n) := by
  rcases h with h | ⟨b, o, he, hlt, hc⟩
  · exact .inl (by simp [h])
  · exact .inr ⟨b, o, he, hlt, fun j v hj => hc j v (by rw [List.getElem?_take] at hj; split at hj; exact hj; cases hj)⟩
theorem vs_b2s {src dst e : TypeId} {oa : Option Addr} {l : List UInt8} {n c : Nat} (hs : P.underlying src = some (.slice e)) (he : P.underlying e = some (.int .u8)) (hd : P.underlying dst = some .string)
    (hn : n = l.length) (hr : Row w oa (bvals l)) (k : K (.string ⟨l.toArray⟩) w) : VSem P (convert src dst (.slice oa n c)) w K := by
  subst hn
  rcases hr with h | ⟨b, o, rfl, _, hc⟩
  · have hl : l = [] := by simpa [bvals] using h
    subst hl
    refine vsem ?_ k
    cases oa with
    | none => have := run_convert_bytes_nil (P := P) w src e hs he 0 c dst hd; exact this
    | some a => exact run_convert_bytes_back (P := P) w src dst e a c [] hs he hd (by simp)
  · exact vsem (run_convert_bytes_back (P := P) w src dst e _ c l hs he hd fun j hj => by rw [add0]; exact hc j _ (bvals_get hj)) k
end
theorem sEq_mk (a b : List UInt8) : sEq ⟨a.toArray⟩ ⟨b.toArray⟩ = (a == b) := by
  unfold sEq
  rw [Go.ByteArray.toList_eq, Go.ByteArray.toList_eq]
theorem append_mk (a b : List UInt8) : (⟨a.toArray⟩ : ByteArray) ++ ⟨b.toArray⟩ = ⟨(a ++ b).toArray⟩ := by
  apply ByteArray.ext
  simp
theorem bvals_one (l : List UInt8) : ∀ u ∈ bvals l, u.oneCell' = true := by
  intro u hu
  simp only [bvals, List.mem_map] at hu
  obtain ⟨x, _, rfl⟩ := hu
  rfl
theorem bvals_append (a b : List UInt8) : bvals (a ++ b) = bvals a ++ bvals b := by simp [bvals]

end Go.Proofs.YthnncehddnfjmaaDoor.Vc
