/- The reckoner's rules for what reads and writes memory, calls and returns; in the spelling in which a walk meets them. No condition. -/
import Derived.Test.YtmhpfadbmpipkaaGreatVc4
import Derived.Laws.AppendOwn
import Derived.Laws.OwnMore
import Derived.Laws.MakeOwn
import Derived.IntWalk
set_option linter.unusedVariables false
set_option linter.unusedSimpArgs false
namespace Go.Proofs.YtmhpfadbmpipkaaGreat.Vc
open Go Go.RowKit

/-! worlds -/
/-- all but block b is as it was -/
structure Only (b : Nat) (w w' : World) : Prop where
  os : w'.os = w.os
  tape : w'.tape = w.tape
  output : w'.output = w.output
  size : w'.heap.size = w.heap.size
  block : ∀ k, k ≠ b → w'.heap[k]? = w.heap[k]?
theorem Only.refl (b : Nat) (w : World) : Only b w w := ⟨rfl, rfl, rfl, rfl, fun _ _ => rfl⟩
theorem Only.trans {b : Nat} {u v w : World} (h : Only b u v) (k : Only b v w) : Only b u w :=
  ⟨k.os.trans h.os, k.tape.trans h.tape, k.output.trans h.output, k.size.trans h.size, fun i hi => (k.block i hi).trans (h.block i hi)⟩
theorem Only.drew {b : Nat} {u v : World} (h : Only b u v) : Only b u v.drew := ⟨h.os, h.tape, h.output, h.size, h.block⟩
theorem Only.ofDrew {b : Nat} {u v : World} (h : Only b u.drew v) : Only b u v := ⟨h.os, h.tape, h.output, h.size, h.block⟩
theorem Only.step {b : Nat} {u v w : World} (k : Only b u.drew v) (h : Only b w u) : Only b w v := h.trans k.ofDrew
theorem Only.stepP {b : Nat} {u v w : World} (k : Only b u v) (h : Only b w u) : Only b w v := h.trans k
theorem Only.below {b B : Nat} {w w' : World} (h : Only b w w') (hB : B ≤ b) : Below B w w' :=
  ⟨h.os, h.tape, h.output, Nat.le_of_eq h.size.symm, fun k hk => h.block k (by omega)⟩
theorem Below.ofDrew {B : Nat} {u v : World} (h : Below B u.drew v) : Below B u v := ⟨h.os, h.tape, h.output, h.size, h.block⟩
theorem belowDrew {B : Nat} {u v : World} (h : Below B u v) : Below B u v.drew := ⟨h.os, h.tape, h.output, h.size, h.block⟩
/-- nothing is changed but the count of draws -/
structure Quiet (w w' : World) : Prop where
  os : w'.os = w.os
  tape : w'.tape = w.tape
  output : w'.output = w.output
  heap : w'.heap = w.heap
theorem Quiet.refl (w : World) : Quiet w w := ⟨rfl, rfl, rfl, rfl⟩
theorem Quiet.trans {a b c : World} (h : Quiet a b) (k : Quiet b c) : Quiet a c := ⟨k.os.trans h.os, k.tape.trans h.tape, k.output.trans h.output, k.heap.trans h.heap⟩
theorem Quiet.drew {a b : World} (h : Quiet a b) : Quiet a b.drew := ⟨h.os, h.tape, h.output, h.heap⟩
theorem Quiet.below {a b : World} (h : Quiet a b) (B : Nat) : Below B a b := ⟨h.os, h.tape, h.output, by rw [h.heap]; exact Nat.le_refl _, fun k _ => by rw [h.heap]⟩
theorem Quiet.only {a b : World} (h : Quiet a b) (B : Nat) : Only B a b := ⟨h.os, h.tape, h.output, by rw [h.heap], fun k _ => by rw [h.heap]⟩

/-- block b holds these cells, and may be written -/
def Blk (w : World) (b : Nat) (l : List Value) (t : TypeId) : Prop := w.heap[b]? = some (.cells l.toArray t (0, 0))
theorem Blk.lt {w : World} {b : Nat} {l : List Value} {t : TypeId} (h : Blk w b l t) : b < w.heap.size := (Array.getElem?_eq_some_iff.1 h).1
theorem Blk.cell {w : World} {b : Nat} {l : List Value} {t : TypeId} (h : Blk w b l t) (o : Nat) : w.cell? ⟨b, o, none⟩ = l[o]? := by
  have h' : w.heap[b]? = some (.cells l.toArray t (0, 0)) := h
  simp [World.cell?, h']
theorem Blk.only {w w' : World} {b c : Nat} {l : List Value} {t : TypeId} (h : Blk w b l t) (ho : Only c w w') (hne : b ≠ c) : Blk w' b l t := (ho.block b hne).trans h
theorem Blk.below {w w' : World} {b B : Nat} {l : List Value} {t : TypeId} (h : Blk w b l t) (hb : Below B w w') (hlt : b < B) : Blk w' b l t := (hb.block b hlt).trans h
theorem Blk.quiet {w w' : World} {b : Nat} {l : List Value} {t : TypeId} (h : Blk w b l t) (hq : Quiet w w') : Blk w' b l t := by
  unfold Blk at *; rw [hq.heap]; exact h
theorem Blk.new (w : World) (cs : Array Value) (t : TypeId) : Blk (w.alloc (.cells cs t)) w.heap.size cs.toList t := by
  unfold Blk
  rw [heap_alloc_new w]
theorem Blk.alloc {w : World} {b : Nat} {l : List Value} {t : TypeId} (h : Blk w b l t) (o : Obj) : Blk (w.alloc o) b l t :=
  (heap_alloc_old w o b h.lt).trans h

/-! calls -/
def Ret (P : Program) (f : FuncId) (args : Array Value) (w : World) (R : Value → World → Prop) : Prop := Calls P f args w fun e w' => ∃ v, e = .returned v ∧ R v w'
theorem Ret.mono {P : Program} {f : FuncId} {args : Array Value} {w : World} {R R' : Value → World → Prop} (h : Ret P f args w R) (k : ∀ v w', R v w' → R' v w') : Ret P f args w R' :=
  Calls.mono h fun _ _ ⟨v, he, hr⟩ => ⟨v, he, k _ _ hr⟩
theorem ret_of_vc {P : Program} {f : FuncId} {fn : Func} {c : Code} {args : Array Value} {w : World} {R : Value → World → Prop}
    (hf : P.funcs[f]? = some fn) (hb : fn.body = some c) (hm : P.follows .mixedOrders = true) (hok : (Nat.ble args.size fn.ntmps && codeIn fn.ntmps (fun _ => true) c) = true)
    (h : vC P c (fin P fn R) (frame0 args) w) : Ret P f args w R := by
  simp only [Bool.and_eq_true] at hok
  exact calls_of_vc hf hb hm (Nat.le_of_ble_eq_true hok.1) hok.2 h
theorem vcall {P : Program} {f : FuncId} {args : Array Value} {w : World} {K : Value → World → Prop} {R : Value → World → Prop} (hc : callable P f = true) (h : Ret P f args w R)
    (k : ∀ v w', R v w' → K v w') : VCall P f args w K := ⟨hc, h.mono k⟩
theorem intEq {k : IntKind} {a b : Int} (h : a = b) : Value.int k a = Value.int k b := by rw [h]
theorem incr {i : Nat} (h : i < 9223372036854775807) : IntKind.i64.wrap ((i : Int) + 1) = ((i + 1 : Nat) : Int) := by
  rw [IntWalk.i64_in _ (by omega)]
  rfl

/-! memory -/
def szB (P : Program) (t : TypeId) : Option Nat := (P.info? t).map (·.size)
theorem szB_info {P : Program} {t : TypeId} {n : Nat} (h : szB P t = some n) : ∃ i, P.info? t = some i ∧ i.size = n := by
  unfold szB at h
  cases hi : P.info? t with
  | none => simp [hi] at h
  | some i => simp only [hi, Option.map_some, Option.some.injEq] at h; exact ⟨i, rfl, h⟩
theorem run_size {P : Program} {t : TypeId} {n : Nat} {w : World} (h : szB P t = some n) : (sizeOf t).run P w = .ok n w := by
  obtain ⟨i, hi, rfl⟩ := szB_info h
  simp [sizeOf, run_info hi]
theorem vsem {P : Program} {s : Sem Value} {w w' : World} {v : Value} {K : Value → World → Prop} (h : s.run P w = .ok v w') (k : K v w') : VSem P s w K := ⟨v, w', h, k⟩
theorem add0 (b o n : Nat) : (⟨b, o, none⟩ : Addr).add n = ⟨b, o + n, none⟩ := by unfold Addr.add; split <;> simp_all

section
variable {P : Program} {w : World} {K : Value → World → Prop}
theorem vs_load1 {t : TypeId} {a : Addr} {v : Value} (ha : aggB P t = some false) (h : w.cell? a = some v) (k : K v w) : VSem P (loadVar t a) w K := by
  refine vsem ?_ k
  unfold loadVar
  rw [Sem.run_bind, run_isAgg ha]
  simp [h]
theorem vs_loadB {t T : TypeId} {b o : Nat} {l : List Value} {v : Value} (ha : aggB P t = some false) (hb : Blk w b l T) (hv : l[o]? = some v) (k : K v w) : VSem P (loadVar t ⟨b, o, none⟩) w K :=
  vs_load1 ha (by rw [hb.cell]; exact hv) k
theorem run_loadCellsFrom (a : Addr) : ∀ (l : List Value) (i : Nat) (acc : Array Value), (∀ j v, l[j]? = some v → w.cell? (a.add (i + j)) = some v) →
    (loadCellsFrom a i l.length acc).run P w = .ok (acc ++ l.toArray) w := by
  intro l
  induction l with
  | nil => intro i acc _; simp [loadCellsFrom]
  | cons v r ih =>
    intro i acc h
    have h0 := h 0 v rfl
    simp only [Nat.add_zero] at h0
    simp only [List.length_cons, loadCellsFrom, Sem.run_bind, run_load, h0, Result.andThen_ok]
    rw [ih (i + 1) _ (fun j u hj => by have := h (j + 1) u (by simpa using hj); rw [show i + 1 + j = i + (j + 1) by omega]; exact this)]
    simp
theorem vs_loadN {t : TypeId} {a : Addr} {l : List Value} (ha : aggB P t = some true) (hs : szB P t = some l.length) (h : ∀ j v, l[j]? = some v → w.cell? (a.add j) = some v)
    (k : K (.agg l.toArray) w) : VSem P (loadVar t a) w K := by
  refine vsem ?_ k
  unfold loadVar
  rw [Sem.run_bind, run_isAgg ha]
  simp only [Result.andThen_ok, if_true, Sem.run_bind, run_size hs, loadCells]
  rw [run_loadCellsFrom a l 0 #[] (fun j v hj => by rw [Nat.zero_add]; exact h j v hj)]
  simp
theorem vs_loadNB {t T : TypeId} {b : Nat} {l : List Value} (ha : aggB P t = some true) (hs : szB P t = some l.length) (hb : Blk w b l T)
    (k : K (.agg l.toArray) w) : VSem P (loadVar t ⟨b, 0, none⟩) w K :=
  vs_loadN ha hs (fun j v hj => by rw [add0, hb.cell, Nat.zero_add]; exact hj) k
theorem vs_store1 {t : TypeId} {a : Addr} {v u : Value} {K : World → Prop} (hs : szB P t = some 1) (hv : v.oneCell' = true) (h : w.cell? a = some u) (hf : w.frozen? a = false)
    (k : K (w.setCell a v)) : VUnit P (storeVar t a v) w K := by
  have hc : v.cells = #[v] := by cases v <;> first | rfl | simp [Value.oneCell'] at hv
  have ha : a.add 0 = a := by simp [Addr.add]
  refine ⟨(), _, ?_, k⟩
  unfold storeVar
  simp only [Sem.run_bind, run_size hs, Result.andThen_ok, hc]
  simp [storeCells, ha, run_store P w a v _ hv, h, hf]
theorem blk_set {b o : Nat} {l : List Value} {T : TypeId} (hb : Blk w b l T) (v : Value) : Only b w (w.setCell ⟨b, o, none⟩ v) ∧ Blk (w.setCell ⟨b, o, none⟩ v) b (l.set o v) T := by
  have hb' : w.heap[b]? = some (.cells l.toArray T (0, 0)) := hb
  refine ⟨⟨rfl, rfl, rfl, by simp, fun k hk => Below.heap_setCell _ _ _ _ hk⟩, ?_⟩
  unfold Blk
  rw [setCell_eq_setRow w b o _ T (0, 0) v hb', setRow_heap w b _ _ T (0, 0) hb']
  simp
theorem vs_storeB {t T : TypeId} {b o : Nat} {l : List Value} {v : Value} {K : World → Prop} (hb : Blk w b l T) (hs : szB P t = some 1) (hv : v.oneCell' = true) (hlt : Nat.blt o l.length = true)
    (k : ∀ w', Only b w w' → Blk w' b (l.set o v) T → K w') : VUnit P (storeVar t ⟨b, o, none⟩ v) w K := by
  have hb' : w.heap[b]? = some (.cells l.toArray T (0, 0)) := hb
  have ho : o < l.length := Nat.le_of_ble_eq_true hlt
  refine vs_store1 hs hv (u := l[o]) (by rw [hb.cell]; exact List.getElem?_eq_getElem ho) (by simp [World.frozen?, hb']) ?_
  exact k _ (blk_set hb v).1 (blk_set hb v).2
theorem run_storeCellsB {b : Nat} {T : TypeId} : ∀ (vs : List Value) (i o : Nat) (l : List Value) (w : World), Blk w b l T → o + i + vs.length ≤ l.length → (∀ v ∈ vs, v.oneCell' = true) →
    ∃ w', (storeCells ⟨b, o, none⟩ vs i).run P w = .ok () w' ∧ Only b w w' ∧ Blk w' b (setL l (o + i) vs) T := by
  intro vs
  induction vs with
  | nil => intro i o l w hb _ _; exact ⟨w, by simp [storeCells], Only.refl _ _, hb⟩
  | cons v r ih =>
    intro i o l w hb hl h1
    simp only [List.length_cons] at hl
    have hb' : w.heap[b]? = some (.cells l.toArray T (0, 0)) := hb
    have hcell : w.cell? ⟨b, o + i, none⟩ = some l[o + i] := by rw [hb.cell]; exact List.getElem?_eq_getElem (by omega)
    have hfro : w.frozen? ⟨b, o + i, none⟩ = false := by simp [World.frozen?, hb']
    obtain ⟨ho1, hb1⟩ := blk_set (o := o + i) hb v
    obtain ⟨w', hr, ho, hbw⟩ := ih (i + 1) o (l.set (o + i) v) _ hb1 (by simp; omega) (fun u hu => h1 u (by simp [hu]))
    refine ⟨w', ?_, ho1.trans ho, ?_⟩
    · simp only [storeCells, Sem.run_bind, add0, run_store P w _ v _ (h1 v (by simp)), hcell, hfro]
      simp only [Bool.false_eq_true, if_false, Result.andThen_ok]
      exact hr
    · simp only [setL]; exact hbw
theorem vs_storeN {t T : TypeId} {b o : Nat} {l vs : List Value} {K : World → Prop} (hb : Blk w b l T) (hs : szB P t = some vs.length) (h1 : vs.all (·.oneCell') = true)
    (hl : Nat.ble (o + vs.length) l.length = true) (k : ∀ w', Only b w w' → Blk w' b (setL l o vs) T → K w') : VUnit P (storeVar t ⟨b, o, none⟩ (.agg vs.toArray)) w K := by
  obtain ⟨w', hr, ho, hbw⟩ := run_storeCellsB (P := P) vs 0 o l w hb (by have := Nat.le_of_ble_eq_true hl; omega) (List.all_eq_true.1 h1)
  refine ⟨(), w', ?_, k w' ho hbw⟩
  unfold storeVar
  simp only [Sem.run_bind, run_size hs, Result.andThen_ok, Value.cells]
  simp [hr]
theorem vs_arr {t e : TypeId} {n sz b o : Nat} {k : IntKind} {ix : Int} (m : Nat) (hu : P.underlying t = some (.array n e)) (hs : szB P e = some sz) (hm : ix = m) (h : m < n)
    (hk : K (.pointer (some ⟨b, o + m * sz, none⟩)) w) : VSem P (Instr.indexAt t (.pointer (some ⟨b, o, none⟩)) (.int k ix)) w K := by
  refine vsem ?_ hk
  subst hm
  have h1 : (0 : Int) ≤ m ∧ (m : Int) < n := ⟨by omega, by omega⟩
  unfold Instr.indexAt
  simp [asIntOf, run_under hu, Instr.sureAddr, h, run_size hs, add0]
theorem vs_arr1 {t e : TypeId} {n b o : Nat} {k : IntKind} {ix : Int} (m : Nat) (hu : P.underlying t = some (.array n e)) (hs : szB P e = some 1) (hm : ix = m) (h : m < n)
    (hk : K (.pointer (some ⟨b, o + m, none⟩)) w) : VSem P (Instr.indexAt t (.pointer (some ⟨b, o, none⟩)) (.int k ix)) w K :=
  vs_arr m hu hs hm h (by rw [Nat.mul_one]; exact hk)
/-- a literal index -/
theorem vs_arrL {t e : TypeId} {n b o : Nat} {k : IntKind} {m : Nat} (hu : P.underlying t = some (.array n e)) (hs : szB P e = some 1) (h : Nat.blt m n = true)
    (hk : K (.pointer (some ⟨b, o + m, none⟩)) w) : VSem P (Instr.indexAt t (.pointer (some ⟨b, o, none⟩)) (.int k (OfNat.ofNat m))) w K :=
  vs_arr1 m hu hs rfl (Nat.le_of_ble_eq_true h) hk
theorem vs_sl {t e : TypeId} {sz b o n c : Nat} {k : IntKind} {ix : Int} (m : Nat) (hu : P.underlying t = some (.slice e)) (hs : szB P e = some sz) (hm : ix = m) (h : m < n)
    (hk : K (.pointer (some ⟨b, o + m * sz, none⟩)) w) : VSem P (Instr.indexAt t (.slice (some ⟨b, o, none⟩) n c) (.int k ix)) w K := by
  refine vsem ?_ hk
  subst hm
  have h1 : (0 : Int) ≤ m ∧ (m : Int) < n := ⟨by omega, by omega⟩
  unfold Instr.indexAt
  simp [asIntOf, run_under hu, h, run_size hs, add0]
theorem vs_sl1 {t e : TypeId} {b o n c : Nat} {k : IntKind} {ix : Int} (m : Nat) (hu : P.underlying t = some (.slice e)) (hs : szB P e = some 1) (hm : ix = m) (h : m < n)
    (hk : K (.pointer (some ⟨b, o + m, none⟩)) w) : VSem P (Instr.indexAt t (.slice (some ⟨b, o, none⟩) n c) (.int k ix)) w K :=
  vs_sl m hu hs hm h (by rw [Nat.mul_one]; exact hk)
end

/-! slices that are read -/
/-- the cells from an address on -/
def Row (w : World) (oa : Option Addr) (vs : List Value) : Prop :=
  vs = [] ∨ ∃ b o, oa = some ⟨b, o, none⟩ ∧ b < w.heap.size ∧ ∀ j v, vs[j]? = some v → w.cell? ⟨b, o + j, none⟩ = some v
theorem Row.get {w : World} {oa : Option Addr} {vs : List Value} (h : Row w oa vs) (hne : 0 < vs.length) :
    ∃ b o, oa = some ⟨b, o, none⟩ ∧ b < w.heap.size ∧ ∀ j v, vs[j]? = some v → w.cell? ⟨b, o + j, none⟩ = some v :=
  h.resolve_left fun e => by simp [e] at hne
theorem Row.below {w w' : World} {oa : Option Addr} {vs : List Value} (h : Row w oa vs) (hb : Below w.heap.size w w') : Row w' oa vs := by
  rcases h with h | ⟨b, o, he, hlt, hc⟩
  · exact .inl h
  · exact .inr ⟨b, o, he, Nat.lt_of_lt_of_le hlt hb.size, fun j v hj => by rw [hb.cell (p := ⟨b, o + j, none⟩) hlt]; exact hc j v hj⟩
theorem Row.nil (w : World) (oa : Option Addr) : Row w oa [] := .inl rfl
/-- a slice of bytes -/
def bvals (l : List UInt8) : List Value := l.map fun x => .int .u8 x.toNat
theorem bvals_get {l : List UInt8} {j : Nat} (h : j < l.length) : (bvals l)[j]? = some (.int .u8 l[j].toNat) := by simp [bvals, h]
@[simp] theorem bvals_len (l : List UInt8) : (bvals l).length = l.length := by simp [bvals]

end Go.Proofs.YtmhpfadbmpipkaaGreat.Vc
