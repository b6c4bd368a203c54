/- The plain meaning of a register's slots, and the walk of sticky.slot. Conditions: the library's table of spaces holds what it was laid with. The reckoner's rules for a set of pairs of strings, kept as a map to bool. Conditions on the key's type: as named. sticky.Valid: its map of places, its loops. Conditions: as Sp1's. -/
import Derived.Test.YtinpgogjkmmjpaaDoorId4
import Derived.Test.YtinpgogjkmmjpaaDoorFd2
import Derived.Test.YtinpgogjkmmjpaaDoorMp
import Derived.Test.YtinpgogjkmmjpaaDoorIdp
set_option linter.unusedVariables false
set_option linter.unusedSimpArgs false
namespace Go.Proofs.YtinpgogjkmmjpaaDoor.Sp
open Go Go.RowKit Go.Proofs.YtinpgogjkmmjpaaDoor.Vc Go.Proofs.YtinpgogjkmmjpaaDoor.Ky Go.Proofs.YtinpgogjkmmjpaaDoor.Id
attribute [local irreducible] loadVar storeVar Instr.indexAt Instr.index Instr.sliceAt Instr.makeSlice Instr.lookup Instr.mapUpdate Instr.range Instr.next Instr.entry Instr.makeMap Builtin.append_ Builtin.copy_ Builtin.len_ Builtin.min_ Builtin.max_ Builtin.cap_ Builtin.delete_ Builtin.clear_ convert binOp eqGuard Op.unary Calls

structure Rg where
  now : Int
  links : List Lk
  slots : List Sl
  deriving DecidableEq
/-- a register, by value -/
structure RegV (w : World) (r : Rg) (v : Value) : Prop where
  ex : ∃ oa ca ob cb, v = .agg #[.int .i64 r.now, .slice oa r.links.length ca, .slice ob r.slots.length cb] ∧ r.links.length ≤ ca ∧ (oa = none → ca = 0) ∧ Row w oa (recs lkc r.links) ∧ r.slots.length ≤ cb ∧ (ob = none → cb = 0) ∧ Row w ob (recs slc r.slots)
theorem RegV.below {w w' : World} {r : Rg} {v : Value} (h : RegV w r v) (hB : Below w.heap.size w w') : RegV w' r v :=
  let ⟨oa, ca, ob, cb, e, a, b, c, d, f, g⟩ := h.ex; ⟨oa, ca, ob, cb, e, a, b, c.below hB, d, f, g.below hB⟩

def slotA (now : Int) (s : Sl) : Prop := 1 ≤ s.arm ∧ s.arm ≤ 8 ∧ 0 ≤ s.from_ ∧ s.from_ ≤ now ∧ ((s.fin = 0 ∧ s.to_ = 0) ∨ ((s.fin = 1 ∨ s.fin = 2) ∧ s.from_ ≤ s.to_ ∧ s.to_ ≤ now))
instance (now : Int) (s : Sl) : Decidable (slotA now s) := by unfold slotA; exact inferInstance
def slotB (now : Int) (s : Sl) : Bool := keyB s.id && keyB s.layer && keyB s.exp && decide (slotA now s)

set_option maxHeartbeats 1000000 in
set_option maxRecDepth 100000 in
theorem slot1_ok (r : Rg) (rv : Value) (s : Sl) (w : World) (hA : Asc w) (hr : RegV w r rv) (hl1 : s.id.size ≤ 140737488355328) (hl2 : s.layer.size ≤ 140737488355328) (hl3 : s.exp.size ≤ 140737488355328) :
    Ret Tryd.prog 44 #[rv, .agg (slc s).toArray] w fun v w' => v = .bool (slotB r.now s) ∧ Below w.heap.size w w' := by
  obtain ⟨oa, ca, ob, cb, rfl, _, _, _, _, _, _⟩ := hr.ex
  have hsB : slotB r.now s = (keyB s.id && keyB s.layer && keyB s.exp && decide (slotA r.now s)) := rfl
  obtain ⟨sb, hsb⟩ : ∃ b, b = slotB r.now s := ⟨_, rfl⟩
  rw [← hsb] at hsB ⊢
  obtain ⟨k1, hk1⟩ : ∃ b, b = keyB s.id := ⟨_, rfl⟩
  obtain ⟨k2, hk2⟩ : ∃ b, b = keyB s.layer := ⟨_, rfl⟩
  obtain ⟨k3, hk3⟩ : ∃ b, b = keyB s.exp := ⟨_, rfl⟩
  rw [← hk1, ← hk2, ← hk3] at hsB
  refine ret_of_vc Tryd.func44 rfl mixed (by kernel_rfl) ?_
  conv => whnf
  obtain ⟨w1, hw1⟩ : ∃ u, u = (w.alloc (.cells #[.int .i64 r.now, .slice oa r.links.length ca, .slice ob r.slots.length cb] 27)).alloc (.cells (slc s).toArray 43) := ⟨_, rfl⟩
  have hB1 : Below w.heap.size w w1 := by rw [hw1]; exact balloc (balloc (Below.refl _ _) (Nat.le_refl _) _) (Nat.le_refl _) _
  have hbR : Blk w1 w.heap.size [.int .i64 r.now, .slice oa r.links.length ca, .slice ob r.slots.length cb] 27 := by rw [hw1]; exact (Blk.new w _ _).alloc _
  have hbS : Blk w1 (w.alloc (.cells #[.int .i64 r.now, .slice oa r.links.length ca, .slice ob r.slots.length cb] 27)).heap.size (slc s) 43 := by rw [hw1]; exact Blk.new _ _ _
  obtain ⟨bs, hbs⟩ : ∃ b, b = (w.alloc (.cells #[.int .i64 r.now, .slice oa r.links.length ca, .slice ob r.slots.length cb] 27)).heap.size := ⟨_, rfl⟩
  rw [← hbs] at hbS
  rw [← hw1, ← hbs]
  have hne : w.heap.size < bs := by rw [hbs]; simp
  have hA1 := hA.below hB1
  clear hw1 hbs
  refine vs_loadB rfl hbS rfl ?_
  conv => whnf
  refine vcall (by kernel_rfl) (key1_ok s.id w1 hA1 hl1) ?_
  rintro _ w2 ⟨rfl, hB2⟩
  rw [← hk1]
  have hbR2 := hbR.below hB2 hbR.lt
  have hbS2 := hbS.below hB2 hbS.lt
  have hA2 := hA1.below hB2
  have hB2' := hB1.trans (hB2.mono hB1.size)
  clear hbR hbS hA1 hB1 hB2
  conv => whnf
  refine vif_split (fun h => ?_) (fun h => ?_)
  · have : sb = false := by rw [hsB]; cases k1 <;> simp_all
    subst this
    conv => whnf
    exact VEnd.mk ⟨rfl, hB2'⟩
  have hk1t : k1 = true := by cases k1 <;> simp_all
  conv => whnf
  refine vs_loadB rfl hbS2 rfl ?_
  conv => whnf
  refine vcall (by kernel_rfl) (key1_ok s.layer w2 hA2 hl2) ?_
  rintro _ w3 ⟨rfl, hB3⟩
  rw [← hk2]
  have hbR3 := hbR2.below hB3 hbR2.lt
  have hbS3 := hbS2.below hB3 hbS2.lt
  have hA3 := hA2.below hB3
  have hB3' := hB2'.trans (hB3.mono hB2'.size)
  clear hbR2 hbS2 hA2 hB2' hB3
  conv => whnf
  refine vif_split (fun h => ?_) (fun h => ?_)
  · have : sb = false := by rw [hsB]; cases k2 <;> simp_all
    subst this
    conv => whnf
    exact VEnd.mk ⟨rfl, hB3'⟩
  have hk2t : k2 = true := by cases k2 <;> simp_all
  conv => whnf
  refine vs_loadB rfl hbS3 rfl ?_
  conv => whnf
  refine vcall (by kernel_rfl) (key1_ok s.exp w3 hA3 hl3) ?_
  rintro _ w4 ⟨rfl, hB4⟩
  rw [← hk3]
  have hbR4 := hbR3.below hB4 hbR3.lt
  have hbS4 := hbS3.below hB4 hbS3.lt
  have hB4' := hB3'.trans (hB4.mono hB3'.size)
  clear hbR3 hbS3 hA3 hB3' hB4
  conv => whnf
  refine vif_split (fun h => ?_) (fun h => ?_)
  · have : sb = false := by rw [hsB]; cases k3 <;> simp_all
    subst this
    conv => whnf
    exact VEnd.mk ⟨rfl, hB4'⟩
  have hk3t : k3 = true := by cases k3 <;> simp_all
  have hsb2 : sb = decide (slotA r.now s) := by rw [hsB, hk1t, hk2t, hk3t]; rfl
  have hsA : slotA r.now s ↔ 1 ≤ s.arm ∧ s.arm ≤ 8 ∧ 0 ≤ s.from_ ∧ s.from_ ≤ r.now ∧ ((s.fin = 0 ∧ s.to_ = 0) ∨ ((s.fin = 1 ∨ s.fin = 2) ∧ s.from_ ≤ s.to_ ∧ s.to_ ≤ r.now)) := Iff.rfl
  have yes : (1 ≤ s.arm ∧ s.arm ≤ 8 ∧ 0 ≤ s.from_ ∧ s.from_ ≤ r.now ∧ ((s.fin = 0 ∧ s.to_ = 0) ∨ ((s.fin = 1 ∨ s.fin = 2) ∧ s.from_ ≤ s.to_ ∧ s.to_ ≤ r.now))) → true = sb := fun h => by rw [hsb2]; exact (decide_eq_true (hsA.2 h)).symm
  have no : ¬ (1 ≤ s.arm ∧ s.arm ≤ 8 ∧ 0 ≤ s.from_ ∧ s.from_ ≤ r.now ∧ ((s.fin = 0 ∧ s.to_ = 0) ∨ ((s.fin = 1 ∨ s.fin = 2) ∧ s.from_ ≤ s.to_ ∧ s.to_ ≤ r.now))) → false = sb := fun h => by rw [hsb2]; exact (decide_eq_false fun x => h (hsA.1 x)).symm
  clear hsA hsb2 hsB hk1 hk2 hk3 hsb hA hr
  conv => whnf
  (repeat' (first | (refine vif_split (fun h => ?_) (fun h => ?_) <;> (conv => whnf)) | (refine vs_loadB rfl hbS4 rfl ?_; (conv => whnf)) | (refine vs_loadB rfl hbR4 rfl ?_; (conv => whnf))))
  all_goals first
    | exact VEnd.mk ⟨congrArg Value.bool (no (by (try simp only [cond_true, cond_false, Bool.not_eq_true', Bool.not_eq_false', decide_eq_true_eq, decide_eq_false_iff_not, beq_iff_eq, bne_iff_ne, beq_eq_false_iff_ne, bne_eq_false_iff_eq, ne_eq, Bool.not_eq_eq_eq_not, Bool.not_true, Bool.not_false, Bool.false_eq_true, Bool.true_eq_false] at *) <;> omega)), hB4'⟩
    | (refine VEnd.mk ⟨congrArg Value.bool ?_, hB4'⟩
       by_cases hP : (1 ≤ s.arm ∧ s.arm ≤ 8 ∧ 0 ≤ s.from_ ∧ s.from_ ≤ r.now ∧ ((s.fin = 0 ∧ s.to_ = 0) ∨ ((s.fin = 1 ∨ s.fin = 2) ∧ s.from_ ≤ s.to_ ∧ s.to_ ≤ r.now)))
       · rw [← yes hP]; clear yes no; exact (by (try simp only [cond_true, cond_false, Bool.not_eq_true', Bool.not_eq_false', decide_eq_true_eq, decide_eq_false_iff_not, beq_iff_eq, bne_iff_ne, beq_eq_false_iff_ne, bne_eq_false_iff_eq, ne_eq, Bool.not_eq_eq_eq_not, Bool.not_true, Bool.not_false, Bool.false_eq_true, Bool.true_eq_false] at *) <;> omega)
       · rw [← no hP]; clear yes no; exact (by (try simp only [cond_true, cond_false, Bool.not_eq_true', Bool.not_eq_false', decide_eq_true_eq, decide_eq_false_iff_not, beq_iff_eq, bne_iff_ne, beq_eq_false_iff_ne, bne_eq_false_iff_eq, ne_eq, Bool.not_eq_eq_eq_not, Bool.not_true, Bool.not_false, Bool.false_eq_true, Bool.true_eq_false] at *) <;> omega))
end Go.Proofs.YtinpgogjkmmjpaaDoor.Sp

namespace Go.Proofs.YtinpgogjkmmjpaaDoor.Vc
open Go Go.RowKit

def keyP (p : ByteArray × ByteArray) : Value := .agg #[.string p.1, .string p.2]
theorem keyP_inj {p q : ByteArray × ByteArray} (h : keyP p = keyP q) : p = q := by
  unfold keyP at h
  simp only [Value.agg.injEq, Array.mk.injEq, List.cons.injEq, Value.string.injEq, and_true] at h
  exact Prod.ext h.1 h.2
/-- block b holds a map that says true of the pairs of S -/
def MapP (w : World) (b : Nat) (S : ByteArray × ByteArray → Prop) : Prop :=
  ∃ es clock, w.heap[b]? = some (.map es clock) ∧ (∀ x ∈ es.toList, ∃ p, x.key = keyP p ∧ x.val = .bool true) ∧ ∀ p, S p ↔ ∃ x ∈ es.toList, x.key = keyP p
theorem MapP.lt {w : World} {b : Nat} {S : ByteArray × ByteArray → Prop} (h : MapP w b S) : b < w.heap.size := let ⟨_, _, hb, _⟩ := h; (Array.getElem?_eq_some_iff.1 hb).1
theorem MapP.below {w w' : World} {b B : Nat} {S : ByteArray × ByteArray → Prop} (h : MapP w b S) (hB : Below B w w') (hb : b < B) : MapP w' b S :=
  let ⟨es, c, h1, h2⟩ := h; ⟨es, c, (hB.block b hb).trans h1, h2⟩
theorem MapP.only {w w' : World} {b k : Nat} {S : ByteArray × ByteArray → Prop} (h : MapP w b S) (hO : Only k w w') (hb : b ≠ k) : MapP w' b S :=
  let ⟨es, c, h1, h2⟩ := h; ⟨es, c, (hO.block b hb).trans h1, h2⟩
theorem MapP.congr {w : World} {b : Nat} {S T : ByteArray × ByteArray → Prop} (h : MapP w b S) (e : ∀ p, S p ↔ T p) : MapP w b T :=
  let ⟨es, c, h1, h2, h3⟩ := h; ⟨es, c, h1, h2, fun p => (e p).symm.trans (h3 p)⟩
/-- what a key's type must be like -/
structure KeyP (P : Program) (T : TypeId) : Prop where
  hu : P.underlying T = some (.struct (P.fieldsOf T))
  hp : P.stoodInHeld T = false
  he : ∀ a b c d : ByteArray, eqF P [.string a, .string b] [.string c, .string d] (P.fieldsOf T).toList = some (sEq a c && (sEq b d && true))
  hc : ∀ (e : Bool) (p : ByteArray × ByteArray) (w : World), (Instr.checkKey e 10000 T (keyP p)).run P w = .ok () w
section
variable {P : Program} {w : World} {K : Value → World → Prop}
theorem vs_makeP {t : TypeId} (k : ∀ w', Below w.heap.size w w' → MapP w' w.heap.size (fun _ => False) → K (.map (some w.heap.size)) w') : VSem P (Instr.makeMap t none) w K := by
  refine vsem (run_makeMap t w) (k _ (balloc (Below.refl _ _) (Nat.le_refl _) _) ⟨#[], 0, heap_alloc_new w _, by simp, by simp⟩)
theorem run_eqP {T : TypeId} (hT : KeyP P T) (p q : ByteArray × ByteArray) : (Op.equal T (keyP p) (keyP q)).run P w = .ok (decide (p = q)) w := by
  have h1 : (Op.equal T (keyP p) (keyP q)).run P w = (Op.equalIn (9999 + 1) T (keyP p) (keyP q)).run P w := rfl
  have h2 := eqF_run (P := P) (w := w) 9998 [.string p.1, .string p.2] [.string q.1, .string q.2] (P.fieldsOf T).toList _ (hT.he p.1 p.2 q.1 q.2)
  rw [h1]
  unfold keyP
  rw [run_equalIn_struct w 9999 T _ _ hT.hu hT.hp]
  refine h2.trans ?_
  congr 1
  rw [Id.sEq_dec, Id.sEq_dec]
  obtain ⟨a, b⟩ := p
  obtain ⟨c, d⟩ := q
  by_cases h1 : a = c <;> by_cases h2 : b = d <;> simp [h1, h2]
/-- the search that asks at each key -/
theorem run_askP {T : TypeId} (hT : KeyP P T) (p : ByteArray × ByteArray) : ∀ (es : List MapEntry) (i : Nat), (∀ x ∈ es, ∃ q, x.key = keyP q ∧ x.val = .bool true) →
    ((∀ x ∈ es, x.key ≠ keyP p) ∧ (Instr.findAsking T (keyP p) es i).run P w = .ok none w) ∨ ((∃ x ∈ es, x.key = keyP p) ∧ ∃ j, (Instr.findAsking T (keyP p) es i).run P w = .ok (some (j, .bool true)) w)
  | [], i, _ => .inl ⟨by simp, rfl⟩
  | e :: es, i, h => by
    obtain ⟨q, hq, hv⟩ := h e (by simp)
    have hr := run_eqP (w := w) hT p q
    by_cases hpq : p = q
    · subst hpq
      refine .inr ⟨⟨e, by simp, hq⟩, i, ?_⟩
      simp [Instr.findAsking, hq, hv, hr]
    · rcases run_askP hT p es (i + 1) (fun x hx => h x (by simp [hx])) with ⟨hn, hh⟩ | ⟨⟨x, hx, hk⟩, j, hh⟩
      · refine .inl ⟨fun x hx => ?_, ?_⟩
        · rcases List.mem_cons.1 hx with rfl | hx
          · rw [hq]; exact fun e => hpq (keyP_inj e).symm
          · exact hn x hx
        · simp [Instr.findAsking, hq, hr, hpq, hh]
      · refine .inr ⟨⟨x, by simp [hx], hk⟩, j, ?_⟩
        simp [Instr.findAsking, hq, hr, hpq, hh]
theorem run_findP {T : TypeId} (hT : KeyP P T) (p : ByteArray × ByteArray) (es : List MapEntry) (h : ∀ x ∈ es, ∃ q, x.key = keyP q ∧ x.val = .bool true) :
    ((∀ x ∈ es, x.key ≠ keyP p) ∧ (Instr.findKey T (keyP p) es).run P w = .ok none w) ∨ ((∃ x ∈ es, x.key = keyP p) ∧ ∃ j, (Instr.findKey T (keyP p) es).run P w = .ok (some (j, .bool true)) w) := by
  cases es with
  | nil => exact .inl ⟨by simp, by simp [Instr.findKey, run_under hT.hu, Instr.findNow]⟩
  | cons e es =>
    have : Instr.findNow (.struct (P.fieldsOf T)) (keyP p) (e :: es) 0 = none := by
      obtain ⟨q, hq, _⟩ := h e (by simp)
      simp [Instr.findNow, hq, keyP, Instr.sameNow]
    have hf : (Instr.findKey T (keyP p) (e :: es)).run P w = (Instr.findAsking T (keyP p) (e :: es) 0).run P w := by
      simp [Instr.findKey, run_under hT.hu, this]
    rw [hf]
    exact run_askP hT p (e :: es) 0 h
/-- m[p] -/
theorem vs_lookP {t kt et : TypeId} {b : Nat} {S : ByteArray × ByteArray → Prop} [DecidablePred S] {p : ByteArray × ByteArray} (ht : P.underlying t = some (.map kt et)) (hT : KeyP P kt) (hz : (P.info? et).bind (·.zero) = some (.bool false)) (h : MapP w b S)
    (c : K (.bool (decide (S p))) w) : VSem P (Instr.lookup t (.map (some b)) (keyP p) false) w K := by
  obtain ⟨es, cl, hb, h2, h3⟩ := h
  have hc := hT.hc es.isEmpty p w
  rcases run_findP (w := w) hT p es.toList h2 with ⟨hn, hr⟩ | ⟨hy, j, hr⟩
  · have hS : ¬ S p := fun x => by obtain ⟨e, he, hk⟩ := (h3 p).1 x; exact hn e he hk
    rw [decide_eq_false hS] at c
    refine vsem ?_ c
    simp [Instr.lookup, run_under ht, MapKept.run_getObj_map hb, hc, hr, zero_run hz]
  · rw [decide_eq_true ((h3 p).2 hy)] at c
    refine vsem ?_ c
    simp [Instr.lookup, run_under ht, MapKept.run_getObj_map hb, hc, hr]
/-- m[p] = true at a key that is not there -/
theorem vs_putP {K : World → Prop} {t kt et : TypeId} {b : Nat} {S : ByteArray × ByteArray → Prop} {p : ByteArray × ByteArray} (ht : P.underlying t = some (.map kt et)) (hT : KeyP P kt) (h : MapP w b S) (hS : ¬ S p)
    (c : ∀ w', Only b w w' → MapP w' b (fun q => S q ∨ q = p) → K w') : VUnit P (Instr.mapUpdate t (.map (some b)) (keyP p) (.bool true)) w K := by
  obtain ⟨es, cl, hb, h2, h3⟩ := h
  have hbl : b < w.heap.size := (Array.getElem?_eq_some_iff.1 hb).1
  have hc := hT.hc false p w
  have only : ∀ o, Only b w { w with heap := w.heap.setIfInBounds b o } := fun o => ⟨rfl, rfl, rfl, by simp, fun j hj => by simp [Array.getElem?_setIfInBounds_ne (Ne.symm hj)]⟩
  have self : ∀ o, ({ w with heap := w.heap.setIfInBounds b o } : World).heap[b]? = some o := fun o => by simp [hbl]
  rcases run_findP (w := w) hT p es.toList h2 with ⟨hn, hr⟩ | ⟨hy, j, hr⟩
  · refine ⟨(), _, ?_, c _ (only (.map (es.push { key := keyP p, val := .bool true, born := cl }) (cl + 1))) ⟨_, _, self _, ?_, ?_⟩⟩
    · simp [Instr.mapUpdate, run_under ht, MapKept.run_getObj_map hb, hc, hr, MapKept.run_setObj_map _ hb]
    · intro x hx
      simp only [Array.toList_push, List.mem_append, List.mem_singleton] at hx
      rcases hx with hx | rfl
      · exact h2 x hx
      · exact ⟨p, rfl, rfl⟩
    · intro q
      simp only [Array.toList_push, List.mem_append, List.mem_singleton]
      rw [h3 q]
      constructor
      · rintro (⟨x, hx, hk⟩ | rfl)
        · exact ⟨x, .inl hx, hk⟩
        · exact ⟨_, .inr rfl, rfl⟩
      · rintro ⟨x, hx | rfl, hk⟩
        · exact .inl ⟨x, hx, hk⟩
        · exact .inr (keyP_inj hk).symm
  · exact absurd ((h3 p).2 hy) hS
end
end Go.Proofs.YtinpgogjkmmjpaaDoor.Vc

namespace Go.Proofs.YtinpgogjkmmjpaaDoor.Sp
open Go Go.RowKit Go.Proofs.YtinpgogjkmmjpaaDoor.Vc Go.Proofs.YtinpgogjkmmjpaaDoor.Ky Go.Proofs.YtinpgogjkmmjpaaDoor.Id
attribute [local irreducible] loadVar storeVar Instr.indexAt Instr.index Instr.sliceAt Instr.makeSlice Instr.lookup Instr.mapUpdate Instr.range Instr.next Instr.entry Instr.makeMap Builtin.append_ Builtin.copy_ Builtin.len_ Builtin.min_ Builtin.max_ Builtin.cap_ Builtin.delete_ Builtin.clear_ convert binOp eqGuard Op.unary Calls

def strF (P : Program) (n : Nat) (f : Field) : Bool :=
  match aggB P f.type, P.underlying f.type with
  | some false, some .string => decide (f.offset < n)
  | _, _ => false
theorem checkKey_strs {P : Program} {T : TypeId} {fs : Array Field} (hu : P.underlying T = some (.struct fs)) (ss : List ByteArray) (hf : ∀ f ∈ fs.toList, strF P ss.length f = true) (e : Bool) (w : World) :
    (Instr.checkKey e 10000 T (.agg (ss.map Value.string).toArray)).run P w = .ok () w := by
  have h0 : Instr.checkKey e 10000 T (.agg (ss.map Value.string).toArray) = Instr.checkKey e (9998 + 1 + 1) T (.agg (ss.map Value.string).toArray) := rfl
  rw [h0, Instr.checkKey, Sem.run_bind, run_under hu, Result.andThen_ok]
  show (do (for f in fs do if f.name ≠ "_" then Instr.checkKey e (9998 + 1) f.type (← part f.type (ss.map Value.string).toArray f.offset)) : Sem Unit).run P w = _
  rw [← Array.forIn_toList]
  have key : ∀ l : List Field, (∀ f ∈ l, strF P ss.length f = true) → (forIn (m := Sem) l PUnit.unit (fun f _ => (if f.name ≠ "_" then (do
      let v ← part f.type (ss.map Value.string).toArray f.offset
      Instr.checkKey e (9998 + 1) f.type v
      pure (ForInStep.yield PUnit.unit)) else pure (ForInStep.yield PUnit.unit) : Sem (ForInStep PUnit))) : Sem PUnit).run P w = .ok () w := by
    intro l
    induction l with
    | nil => intro _; rfl
    | cons f l ih =>
      intro h
      have h1 := h f (by simp)
      have h2 := ih (fun x hx => h x (by simp [hx]))
      unfold strF at h1
      split at h1
      · rename_i ha hus
        have hlt : f.offset < ss.length := by simpa using h1
        have hp : (part f.type (ss.map Value.string).toArray f.offset).run P w = .ok (.string ss[f.offset]) w := by
          unfold part
          rw [Sem.run_bind, run_isAgg ha]
          simp [hlt]
        have hk : (Instr.checkKey e (9998 + 1) f.type (.string ss[f.offset])).run P w = .ok () w := by
          rw [Instr.checkKey, Sem.run_bind, run_under hus, Result.andThen_ok]
          rfl
        rw [List.forIn_cons]
        by_cases hn : f.name ≠ "_"
        · simp only [if_pos hn, Sem.run_bind, hp, hk, Result.andThen_ok, Sem.run_pure]
          exact h2
        · simp only [if_neg hn, Sem.run_bind, Result.andThen_ok, Sem.run_pure]
          exact h2
      · cases h1
  rw [Sem.run_bind, key fs.toList hf, Result.andThen_ok]
  rfl
set_option maxRecDepth 100000 in
theorem placeP : KeyP Tryd.prog 81 where
  hu := by kernel_rfl
  hp := by kernel_rfl
  he := fun a b c d => rfl
  hc := fun e p w => checkKey_strs (T := 81) (fs := Tryd.prog.fieldsOf 81) (by kernel_rfl) [p.1, p.2] (by
    have h : (Tryd.prog.fieldsOf 81).toList.all (strF Tryd.prog 2) = true := by kernel_rfl
    exact fun f hf => List.all_eq_true.1 h f hf) e w

/-! the plain meaning -/
def linksB (now : Int) : Int → List Lk → Bool
  | _, [] => true
  | b, k :: l => keyB k.a && keyB k.b && decide (k.a ≠ k.b ∧ b ≤ k.t ∧ k.t ≤ now) && linksB now k.t l
def slotsB (now : Int) : Int → List Sl → Bool
  | _, [] => true
  | b, s :: l => slotB now s && decide (b ≤ s.from_) && slotsB now s.from_ l
def hasP (L : List (ByteArray × ByteArray)) (p : ByteArray × ByteArray) : Bool := L.any fun q => decide (q = p)
theorem hasP_iff (L : List (ByteArray × ByteArray)) (p : ByteArray × ByteArray) : hasP L p = true ↔ p ∈ L := by
  unfold hasP
  rw [List.any_eq_true]
  constructor
  · rintro ⟨q, hq, e⟩; rw [decide_eq_true_eq] at e; rwa [← e]
  · exact fun h => ⟨p, h, by simp⟩
def openB (links : List Lk) : List (ByteArray × ByteArray) → List Sl → Bool
  | _, [] => true
  | L, s :: l => if s.fin = 0 then (if hasP L (s.layer, rt links s.id) then false else openB links (L ++ [(s.layer, rt links s.id)]) l) else openB links L l
def boundB (r : Rg) : Bool := decide (0 ≤ r.now ∧ r.now ≤ 1099511627776 ∧ r.links.length ≤ 64 ∧ r.slots.length ≤ 128)
def validB (r : Rg) : Bool := boundB r && linksB r.now 0 r.links && slotsB r.now 0 r.slots && openB r.links [] r.slots
/-- strings of bounded size -/
structure RegS (r : Rg) : Prop where
  l : ∀ k ∈ r.links, k.a.size ≤ 140737488355328 ∧ k.b.size ≤ 140737488355328
  s : ∀ k ∈ r.slots, k.id.size ≤ 140737488355328 ∧ k.layer.size ≤ 140737488355328 ∧ k.exp.size ≤ 140737488355328

set_option maxHeartbeats 1000000 in
set_option maxRecDepth 100000 in
theorem valid1_ok (r : Rg) (rv : Value) (w : World) (hA : Asc w) (hr : RegV w r rv) (hS : RegS r) :
    Ret Tryd.prog 20 #[rv] w fun v w' => v = .bool (validB r) ∧ Below w.heap.size w w' := by
  obtain ⟨oa, ca, ob, cb, rfl, hca, hca0, hrl, hcb, hcb0, hrs⟩ := hr.ex
  have hvB : validB r = (boundB r && linksB r.now 0 r.links && slotsB r.now 0 r.slots && openB r.links [] r.slots) := rfl
  obtain ⟨vb, hvb⟩ : ∃ b, b = validB r := ⟨_, rfl⟩
  rw [← hvb] at hvB ⊢
  refine ret_of_vc Tryd.func20 rfl mixed (by kernel_rfl) ?_
  conv => whnf
  obtain ⟨w1, hw1⟩ : ∃ u, u = w.alloc (.cells #[.int .i64 r.now, .slice oa r.links.length ca, .slice ob r.slots.length cb] 27) := ⟨_, rfl⟩
  have hB1 : Below w.heap.size w w1 := by rw [hw1]; exact balloc (Below.refl _ _) (Nat.le_refl _) _
  have hbR : Blk w1 w.heap.size [.int .i64 r.now, .slice oa r.links.length ca, .slice ob r.slots.length cb] 27 := by rw [hw1]; exact Blk.new _ _ _
  rw [← hw1]
  have hA1 := hA.below hB1
  have hrl1 := hrl.below hB1
  have hrs1 := hrs.below hB1
  clear hw1
  have hbb : boundB r = true ↔ (0 ≤ r.now ∧ r.now ≤ 1099511627776 ∧ r.links.length ≤ 64 ∧ r.slots.length ≤ 128) := decide_eq_true_iff
  obtain ⟨bb, hbb2⟩ : ∃ b, b = boundB r := ⟨_, rfl⟩
  rw [← hbb2] at hbb hvB
  have bad : bb = false → false = vb := fun e => by rw [hvB, e]; rfl
  have hbn : ¬ (0 ≤ r.now ∧ r.now ≤ 1099511627776 ∧ r.links.length ≤ 64 ∧ r.slots.length ≤ 128) → bb = false := fun h => by
    cases e : bb with
    | false => rfl
    | true => exact absurd (hbb.1 e) h
  conv => whnf
  (repeat' (first | (refine vif_split (fun h => ?_) (fun h => ?_) <;> (conv => whnf)) | (refine vs_loadB rfl hbR rfl ?_; (conv => whnf)) | (refine vs_loadB rfl hbR rfl ?_; (conv => whnf))))
  · exact VEnd.mk ⟨congrArg Value.bool (bad (hbn (by (try simp only [cond_true, cond_false, Bool.not_eq_true', Bool.not_eq_false', decide_eq_true_eq, decide_eq_false_iff_not, beq_iff_eq, bne_iff_ne, beq_eq_false_iff_ne, bne_eq_false_iff_eq, ne_eq, Bool.not_eq_eq_eq_not, Bool.not_true, Bool.not_false, Bool.false_eq_true, Bool.true_eq_false] at *) <;> omega))), hB1⟩
  · exact VEnd.mk ⟨congrArg Value.bool (bad (hbn (by (try simp only [cond_true, cond_false, Bool.not_eq_true', Bool.not_eq_false', decide_eq_true_eq, decide_eq_false_iff_not, beq_iff_eq, bne_iff_ne, beq_eq_false_iff_ne, bne_eq_false_iff_eq, ne_eq, Bool.not_eq_eq_eq_not, Bool.not_true, Bool.not_false, Bool.false_eq_true, Bool.true_eq_false] at *) <;> omega))), hB1⟩
  · exact VEnd.mk ⟨congrArg Value.bool (bad (hbn (by (try simp only [cond_true, cond_false, Bool.not_eq_true', Bool.not_eq_false', decide_eq_true_eq, decide_eq_false_iff_not, beq_iff_eq, bne_iff_ne, beq_eq_false_iff_ne, bne_eq_false_iff_eq, ne_eq, Bool.not_eq_eq_eq_not, Bool.not_true, Bool.not_false, Bool.false_eq_true, Bool.true_eq_false] at *) <;> omega))), hB1⟩
  · exact VEnd.mk ⟨congrArg Value.bool (bad (hbn (by (try simp only [cond_true, cond_false, Bool.not_eq_true', Bool.not_eq_false', decide_eq_true_eq, decide_eq_false_iff_not, beq_iff_eq, bne_iff_ne, beq_eq_false_iff_ne, bne_eq_false_iff_eq, ne_eq, Bool.not_eq_eq_eq_not, Bool.not_true, Bool.not_false, Bool.false_eq_true, Bool.true_eq_false] at *) <;> omega))), hB1⟩
  have hbt : bb = true := hbb.2 (by (try simp only [cond_true, cond_false, Bool.not_eq_true', Bool.not_eq_false', decide_eq_true_eq, decide_eq_false_iff_not, beq_iff_eq, bne_iff_ne, beq_eq_false_iff_ne, bne_eq_false_iff_eq, ne_eq, Bool.not_eq_eq_eq_not, Bool.not_true, Bool.not_false, Bool.false_eq_true, Bool.true_eq_false] at *) <;> omega)
  obtain ⟨hn0, hn1, hl64, hs128⟩ := hbb.1 hbt
  rw [hbt, Bool.true_and] at hvB
  clear bad hbn
  refine vloop (X := Nat × Int) ws20_1 (fun x => [(35, .int .i64 x.1), (3, .int .i64 x.2)]) (fun x w' => x.1 ≤ r.links.length ∧ Below w.heap.size w w' ∧ Blk w' w.heap.size [.int .i64 r.now, .slice oa r.links.length ca, .slice ob r.slots.length cb] 27 ∧ linksB r.now 0 r.links = linksB r.now x.2 (r.links.drop x.1)) (fun x => r.links.length - x.1) (0, 0) (by kernel_rfl)
    ?_ ⟨Nat.zero_le _, hB1, hbR, rfl⟩ ?_
  · exact ⟨rfl, rfl, trivial⟩
  clear hbR hA1 hrl1 hrs1 hB1
  rintro ⟨i, bf⟩ w2 j ⟨hi, hB2, hbR2, hlk⟩
  simp only at hi hlk ⊢
  conv => whnf
  refine vif_split (fun hlt => ?_) (fun hge => ?_)
  · have hlt : i < r.links.length := by have := of_decide_eq_true hlt; omega
    obtain ⟨b, o, rfl, hbl, hc⟩ := hrl.at (by rw [recs_len lkc_len]; omega)
    have hseg := recs_seg lkc_len r.links i hlt
    have hc2 := hc.below hB2 hbl
    obtain ⟨hz1, hz2⟩ := hS.l r.links[i] (List.getElem_mem hlt)
    rw [List.drop_eq_getElem_cons hlt] at hlk
    obtain ⟨k, hkk⟩ : ∃ k, k = r.links[i] := ⟨_, rfl⟩
    rw [← hkk] at hseg hlk hz1 hz2
    conv => whnf
    (repeat (first | (refine VReq.mk (by first | decide | omega) ?_; conv => whnf) | (refine VPend.mk rfl ?_; conv => whnf) | (refine VNext.keep rfl ?_; conv => whnf) | (refine vs_slI1 _ rfl rfl rfl (by assumption) ?_; conv => whnf) | (refine vs_slI _ rfl rfl rfl (by assumption) ?_; conv => whnf) | (refine vs_arr1 _ rfl rfl rfl (by assumption) ?_; conv => whnf) | (refine vs_loadF (by with_reducible assumption) (by assumption) rfl rfl ?_; conv => whnf) | (refine vs_loadF0 (by with_reducible assumption) (by assumption) rfl rfl ?_; conv => whnf) | (refine vs_loadI (by with_reducible assumption) (by assumption) rfl ?_; conv => whnf) | (refine vs_loadB rfl (by with_reducible assumption) (by assumption) ?_; conv => whnf)))
    refine vs_loadS hc2 hseg rfl rfl ?_
    conv => whnf
    refine vs_storeW (Blk.new _ _ _) rfl rfl rfl ?_
    intro w3 hO3 hbK
    have hBa := balloc (Below.refl w2.heap.size w2) (Nat.le_refl _) (.cells #[.string ⟨#[]⟩, .string ⟨#[]⟩, .int .i64 0] 40)
    have hB3 : Below w.heap.size w w3 := (balloc hB2 (Nat.le_refl _) _).trans (hO3.below hB2.size)
    have hltR := hbR2.lt
    have hneR : w.heap.size ≠ w2.heap.size := by omega
    have hbR3 := (hbR2.below hBa hltR).only hO3 hneR
    obtain ⟨bk, hbk⟩ : ∃ b, b = w2.heap.size := ⟨_, rfl⟩
    rw [← hbk] at hbK hneR
    have hcl : ∀ n : Nat, Value.pointer (some ⟨w2.heap.size, n, none⟩) = Value.pointer (some ⟨bk, n, none⟩) := fun n => by rw [hbk]
    rw [← hbk]
    clear hBa hO3 hbk hc2 hbR2 hB2 hcl hltR
    conv => whnf
    refine vs_loadB rfl hbK rfl ?_
    conv => whnf
    refine vcall (by kernel_rfl) (key1_ok k.a w3 (hA.below hB3) hz1) ?_
    rintro _ w4 ⟨rfl, hB4⟩
    obtain ⟨k1, hk1⟩ : ∃ b, b = keyB k.a := ⟨_, rfl⟩
    rw [← hk1]
    have hlkE : linksB r.now bf (k :: r.links.drop (i + 1)) = (keyB k.a && keyB k.b && decide (k.a ≠ k.b ∧ bf ≤ k.t ∧ k.t ≤ r.now) && linksB r.now k.t (r.links.drop (i + 1))) := rfl
    rw [hlkE, ← hk1] at hlk
    clear hlkE
    have hbR4 := hbR3.below hB4 hbR3.lt
    have hbK4 := hbK.below hB4 hbK.lt
    have hB4' := hB3.trans (hB4.mono hB3.size)
    clear hbR3 hbK hB3 hB4
    conv => whnf
    refine vif_split (fun h => ?_) (fun h => ?_)
    · have : vb = false := by rw [hvB, hlk]; cases k1 <;> simp_all
      subst this
      conv => whnf
      exact VEnd.mk ⟨rfl, hB4'⟩
    have hk1t : k1 = true := by cases k1 <;> simp_all
    rw [hk1t, Bool.true_and] at hlk
    clear hk1 hk1t h
    conv => whnf
    refine vs_loadB rfl hbK4 rfl ?_
    conv => whnf
    refine vcall (by kernel_rfl) (key1_ok k.b w4 (hA.below hB4') hz2) ?_
    rintro _ w5 ⟨rfl, hB5⟩
    obtain ⟨k2, hk2⟩ : ∃ b, b = keyB k.b := ⟨_, rfl⟩
    rw [← hk2] at hlk ⊢
    have hbR5 := hbR4.below hB5 hbR4.lt
    have hbK5 := hbK4.below hB5 hbK4.lt
    have hB5' := hB4'.trans (hB5.mono hB4'.size)
    clear hbR4 hbK4 hB4' hB5
    conv => whnf
    refine vif_split (fun h => ?_) (fun h => ?_)
    · have : vb = false := by rw [hvB, hlk]; cases k2 <;> simp_all
      subst this
      conv => whnf
      exact VEnd.mk ⟨rfl, hB5'⟩
    have hk2t : k2 = true := by cases k2 <;> simp_all
    rw [hk2t, Bool.true_and] at hlk
    clear hk2 hk2t h
    have no : ¬ (k.a ≠ k.b ∧ bf ≤ k.t ∧ k.t ≤ r.now) → false = vb := fun h => by rw [hvB, hlk, decide_eq_false h]; rfl
    have yes : (k.a ≠ k.b ∧ bf ≤ k.t ∧ k.t ≤ r.now) → linksB r.now 0 r.links = linksB r.now k.t (r.links.drop (i + 1)) := fun h => by rw [hlk, decide_eq_true h]; rfl
    conv => whnf
    (repeat' (first | (refine vif_split (fun h => ?_) (fun h => ?_) <;> (conv => whnf)) | (refine vs_loadB rfl hbK5 rfl ?_; (conv => whnf)) | (refine vs_loadB rfl hbR5 rfl ?_; (conv => whnf))))
    · exact VEnd.mk ⟨congrArg Value.bool (no fun x => x.1 ((sEq_iff _ _).1 h)), hB5'⟩
    · refine VEnd.mk ⟨congrArg Value.bool (no fun x => ?_), hB5'⟩
      have h2 := x.2.1
      clear hlk no yes
      exact (by (try simp only [cond_true, cond_false, Bool.not_eq_true', Bool.not_eq_false', decide_eq_true_eq, decide_eq_false_iff_not, beq_iff_eq, bne_iff_ne, beq_eq_false_iff_ne, bne_eq_false_iff_eq, ne_eq, Bool.not_eq_eq_eq_not, Bool.not_true, Bool.not_false, Bool.false_eq_true, Bool.true_eq_false] at *) <;> omega)
    · refine VEnd.mk ⟨congrArg Value.bool (no fun x => ?_), hB5'⟩
      have h2 := x.2.2
      clear hlk no yes
      exact (by (try simp only [cond_true, cond_false, Bool.not_eq_true', Bool.not_eq_false', decide_eq_true_eq, decide_eq_false_iff_not, beq_iff_eq, bne_iff_ne, beq_eq_false_iff_ne, bne_eq_false_iff_eq, ne_eq, Bool.not_eq_eq_eq_not, Bool.not_true, Bool.not_false, Bool.false_eq_true, Bool.true_eq_false] at *) <;> omega)
    · rename_i hE hlo
      have hne : k.a ≠ k.b := fun e => by
        have := (sEq_iff k.a k.b).2 e
        rw [this] at hE
        cases hE
      have h1 : bf ≤ k.t := by clear hlk no yes hE; exact (by (try simp only [cond_true, cond_false, Bool.not_eq_true', Bool.not_eq_false', decide_eq_true_eq, decide_eq_false_iff_not, beq_iff_eq, bne_iff_ne, beq_eq_false_iff_ne, bne_eq_false_iff_eq, ne_eq, Bool.not_eq_eq_eq_not, Bool.not_true, Bool.not_false, Bool.false_eq_true, Bool.true_eq_false] at *) <;> omega)
      have h2 : k.t ≤ r.now := by clear hlk no yes hE; exact (by (try simp only [cond_true, cond_false, Bool.not_eq_true', Bool.not_eq_false', decide_eq_true_eq, decide_eq_false_iff_not, beq_iff_eq, bne_iff_ne, beq_eq_false_iff_ne, bne_eq_false_iff_eq, ne_eq, Bool.not_eq_eq_eq_not, Bool.not_true, Bool.not_false, Bool.false_eq_true, Bool.true_eq_false] at *) <;> omega)
      refine VBack.mk ⟨_, ?_, (i + 1, k.t), rfl, ?_, ?_⟩
      · show r.links.length - (i + 1) < r.links.length - i; omega
      · exact ⟨intEq (incr (by omega)), rfl, trivial⟩
      · exact ⟨hlt, hB5', hbR5, yes ⟨hne, h1, h2⟩⟩
  · have hge : ¬ i < r.links.length := by have := of_decide_eq_false hge; omega
    obtain rfl : i = r.links.length := by omega
    rw [List.drop_length] at hlk
    have hlkT : linksB r.now 0 r.links = true := hlk
    rw [hlkT, Bool.true_and] at hvB
    clear hlkT hlk hge hi
    conv => whnf
    refine vs_loadB rfl hbR2 rfl ?_
    conv => whnf
    refine vloop (X := Nat × Int) ws20_2 (fun x => [(75, .int .i64 x.1), (3, .int .i64 x.2)]) (fun x w' => x.1 ≤ r.slots.length ∧ Below w.heap.size w w' ∧ Blk w' w.heap.size [.int .i64 r.now, .slice oa r.links.length ca, .slice ob r.slots.length cb] 27 ∧ slotsB r.now 0 r.slots = slotsB r.now x.2 (r.slots.drop x.1)) (fun x => r.slots.length - x.1) (0, 0) (by kernel_rfl)
      ?_ ⟨Nat.zero_le _, hB2, hbR2, rfl⟩ ?_
    · exact ⟨rfl, rfl, trivial⟩
    clear hbR2 hB2
    rintro ⟨i, b2⟩ w3 j ⟨hi, hB3, hbR3, hsl⟩
    simp only at hi hsl ⊢
    conv => whnf
    refine vif_split (fun hlt => ?_) (fun hge => ?_)
    · have hlt : i < r.slots.length := by have := of_decide_eq_true hlt; omega
      obtain ⟨b, o, rfl, hbl, hc⟩ := hrs.at (by rw [recs_len slc_len]; omega)
      have hseg := recs_seg slc_len r.slots i hlt
      have hc3 := hc.below hB3 hbl
      have hz := hS.s r.slots[i] (List.getElem_mem hlt)
      rw [List.drop_eq_getElem_cons hlt] at hsl
      obtain ⟨s, hss⟩ : ∃ s, s = r.slots[i] := ⟨_, rfl⟩
      rw [← hss] at hseg hsl hz
      conv => whnf
      (repeat (first | (refine VReq.mk (by first | decide | omega) ?_; conv => whnf) | (refine VPend.mk rfl ?_; conv => whnf) | (refine VNext.keep rfl ?_; conv => whnf) | (refine vs_slI1 _ rfl rfl rfl (by assumption) ?_; conv => whnf) | (refine vs_slI _ rfl rfl rfl (by assumption) ?_; conv => whnf) | (refine vs_arr1 _ rfl rfl rfl (by assumption) ?_; conv => whnf) | (refine vs_loadF (by with_reducible assumption) (by assumption) rfl rfl ?_; conv => whnf) | (refine vs_loadF0 (by with_reducible assumption) (by assumption) rfl rfl ?_; conv => whnf) | (refine vs_loadI (by with_reducible assumption) (by assumption) rfl ?_; conv => whnf) | (refine vs_loadB rfl (by with_reducible assumption) (by assumption) ?_; conv => whnf)))
      refine vs_loadS hc3 hseg rfl rfl ?_
      conv => whnf
      refine vs_storeW (Blk.new _ _ _) rfl rfl rfl ?_
      intro w4 hO4 hbK
      have hBa := balloc (Below.refl w3.heap.size w3) (Nat.le_refl _) (.cells #[.string ⟨#[]⟩, .string ⟨#[]⟩, .string ⟨#[]⟩, .int .i64 0, .int .i64 0, .int .i64 0, .int .i64 0] 43)
      have hB4 : Below w.heap.size w w4 := (balloc hB3 (Nat.le_refl _) _).trans (hO4.below hB3.size)
      have hltR := hbR3.lt
      have hneR : w.heap.size ≠ w3.heap.size := by omega
      have hbR4 := (hbR3.below hBa hltR).only hO4 hneR
      obtain ⟨bk, hbk⟩ : ∃ b, b = w3.heap.size := ⟨_, rfl⟩
      rw [← hbk] at hbK hneR
      rw [← hbk]
      clear hBa hO4 hbk hc3 hbR3 hB3 hltR
      have hslE : slotsB r.now b2 (s :: r.slots.drop (i + 1)) = (slotB r.now s && decide (b2 ≤ s.from_) && slotsB r.now s.from_ (r.slots.drop (i + 1))) := rfl
      rw [hslE] at hsl
      clear hslE
      obtain ⟨k1, hk1⟩ : ∃ b, b = slotB r.now s := ⟨_, rfl⟩
      rw [← hk1] at hsl
      have hcall := slot1_ok r _ s w4 (hA.below hB4) (hr.below hB4) hz.1 hz.2.1 hz.2.2
      rw [← hk1] at hcall
      conv => whnf
      refine vs_loadNB rfl rfl hbR4 ?_
      conv => whnf
      refine vs_loadNB rfl rfl hbK ?_
      conv => whnf
      refine vcall (by kernel_rfl) hcall ?_
      rintro _ w5 ⟨rfl, hB5⟩
      have hbR5 := hbR4.below hB5 hbR4.lt
      have hbK5 := hbK.below hB5 hbK.lt
      have hB5' := hB4.trans (hB5.mono hB4.size)
      clear hbR4 hbK hB4 hB5 hcall
      conv => whnf
      refine vif_split (fun h => ?_) (fun h => ?_)
      · have : vb = false := by rw [hvB, hsl]; cases k1 <;> simp_all
        subst this
        conv => whnf
        exact VEnd.mk ⟨rfl, hB5'⟩
      have hk1t : k1 = true := by cases k1 <;> simp_all
      rw [hk1t, Bool.true_and] at hsl
      clear hk1 hk1t h
      have no : ¬ b2 ≤ s.from_ → false = vb := fun h => by rw [hvB, hsl, decide_eq_false h]; rfl
      have yes : b2 ≤ s.from_ → slotsB r.now 0 r.slots = slotsB r.now s.from_ (r.slots.drop (i + 1)) := fun h => by rw [hsl, decide_eq_true h]; rfl
      clear hsl
      conv => whnf
      (repeat' (first | (refine vif_split (fun h => ?_) (fun h => ?_) <;> (conv => whnf)) | (refine vs_loadB rfl hbK5 rfl ?_; (conv => whnf)) | (refine vs_loadB rfl hbR5 rfl ?_; (conv => whnf))))
      · exact VEnd.mk ⟨congrArg Value.bool (no (by clear no yes; exact (by (try simp only [cond_true, cond_false, Bool.not_eq_true', Bool.not_eq_false', decide_eq_true_eq, decide_eq_false_iff_not, beq_iff_eq, bne_iff_ne, beq_eq_false_iff_ne, bne_eq_false_iff_eq, ne_eq, Bool.not_eq_eq_eq_not, Bool.not_true, Bool.not_false, Bool.false_eq_true, Bool.true_eq_false] at *) <;> omega))), hB5'⟩
      · have h1 : b2 ≤ s.from_ := by clear no yes; exact (by (try simp only [cond_true, cond_false, Bool.not_eq_true', Bool.not_eq_false', decide_eq_true_eq, decide_eq_false_iff_not, beq_iff_eq, bne_iff_ne, beq_eq_false_iff_ne, bne_eq_false_iff_eq, ne_eq, Bool.not_eq_eq_eq_not, Bool.not_true, Bool.not_false, Bool.false_eq_true, Bool.true_eq_false] at *) <;> omega)
        refine VBack.mk ⟨_, ?_, (i + 1, s.from_), rfl, ?_, ?_⟩
        · show r.slots.length - (i + 1) < r.slots.length - i; omega
        · exact ⟨intEq (incr (by omega)), rfl, trivial⟩
        · exact ⟨hlt, hB5', hbR5, yes h1⟩
    · have hge : ¬ i < r.slots.length := by have := of_decide_eq_false hge; omega
      obtain rfl : i = r.slots.length := by omega
      rw [List.drop_length] at hsl
      have hslT : slotsB r.now 0 r.slots = true := hsl
      rw [hslT, Bool.true_and] at hvB
      clear hslT hsl hge hi
      conv => whnf
      refine vs_makeP ?_
      intro w4 hB4 hm4
      have hbR4 := hbR3.below hB4 hbR3.lt
      have hne : w.heap.size ≠ w3.heap.size := by have := hbR3.lt; omega
      obtain ⟨mb, hmb⟩ : ∃ m, m = w3.heap.size := ⟨_, rfl⟩
      have hmle : w.heap.size ≤ mb := by have := hbR3.lt; omega
      rw [← hmb] at hm4 hne ⊢
      have hB4' := hB3.trans (hB4.mono hB3.size)
      clear hB4 hB3 hbR3 hmb
      conv => whnf
      refine vs_loadB rfl hbR4 rfl ?_
      conv => whnf
      refine vloop (X := Nat) ws20_3 (fun x => [(96, .int .i64 x)]) (fun x w' => x ≤ r.slots.length ∧ Below w.heap.size w w' ∧ Blk w' w.heap.size [.int .i64 r.now, .slice oa r.links.length ca, .slice ob r.slots.length cb] 27 ∧ ∃ L, MapP w' mb (fun p => hasP L p = true) ∧ openB r.links [] r.slots = openB r.links L (r.slots.drop x)) (fun x => r.slots.length - x) 0 (by kernel_rfl)
        ?_ ⟨Nat.zero_le _, hB4', hbR4, [], hm4.congr (fun p => by simp [hasP]), rfl⟩ ?_
      · exact ⟨rfl, trivial⟩
      clear hbR4 hB4' hm4
      rintro i w5 j ⟨hi, hB5, hbR5, L, hm5, hop⟩
      conv => whnf
      refine vif_split (fun hlt => ?_) (fun hge => ?_)
      · have hlt : i < r.slots.length := by have := of_decide_eq_true hlt; omega
        obtain ⟨b, o, rfl, hbl, hc⟩ := hrs.at (by rw [recs_len slc_len]; omega)
        have hseg := recs_seg slc_len r.slots i hlt
        have hc5 := hc.below hB5 hbl
        rw [List.drop_eq_getElem_cons hlt] at hop
        obtain ⟨s, hss⟩ : ∃ s, s = r.slots[i] := ⟨_, rfl⟩
        rw [← hss] at hseg hop
        conv => whnf
        (repeat (first | (refine VReq.mk (by first | decide | omega) ?_; conv => whnf) | (refine VPend.mk rfl ?_; conv => whnf) | (refine VNext.keep rfl ?_; conv => whnf) | (refine vs_slI1 _ rfl rfl rfl (by assumption) ?_; conv => whnf) | (refine vs_slI _ rfl rfl rfl (by assumption) ?_; conv => whnf) | (refine vs_arr1 _ rfl rfl rfl (by assumption) ?_; conv => whnf) | (refine vs_loadF (by with_reducible assumption) (by assumption) rfl rfl ?_; conv => whnf) | (refine vs_loadF0 (by with_reducible assumption) (by assumption) rfl rfl ?_; conv => whnf) | (refine vs_loadI (by with_reducible assumption) (by assumption) rfl ?_; conv => whnf) | (refine vs_loadB rfl (by with_reducible assumption) (by assumption) ?_; conv => whnf)))
        refine vs_loadS hc5 hseg rfl rfl ?_
        conv => whnf
        refine vs_storeW (Blk.new _ _ _) rfl rfl rfl ?_
        intro w6 hO6 hbK
        have hBa := balloc (Below.refl w5.heap.size w5) (Nat.le_refl _) (.cells #[.string ⟨#[]⟩, .string ⟨#[]⟩, .string ⟨#[]⟩, .int .i64 0, .int .i64 0, .int .i64 0, .int .i64 0] 43)
        have hB6 : Below w.heap.size w w6 := (balloc hB5 (Nat.le_refl _) _).trans (hO6.below hB5.size)
        have hltR := hbR5.lt
        have hltM := hm5.lt
        have hneR : w.heap.size ≠ w5.heap.size := by omega
        have hbR6 := (hbR5.below hBa hltR).only hO6 hneR
        have hm6 := (hm5.below hBa hltM).only hO6 (by omega)
        obtain ⟨bk, hbk⟩ : ∃ b, b = w5.heap.size := ⟨_, rfl⟩
        rw [← hbk] at hbK hneR
        rw [← hbk]
        clear hBa hO6 hbk hc5 hbR5 hB5 hltR hm5 hltM
        conv => whnf
        refine vs_loadB rfl hbK rfl ?_
        conv => whnf
        refine vif_split (fun hf => ?_) (fun hf => ?_)
        · have hf : ¬ s.fin = 0 := by simpa using hf
          simp only [openB, if_neg hf] at hop
          conv => whnf
          refine VBack.mk ⟨_, ?_, (i + 1), rfl, ?_, ?_⟩
          · show r.slots.length - (i + 1) < r.slots.length - i; omega
          · exact ⟨intEq (incr (by omega)), trivial⟩
          · exact ⟨hlt, hB6, hbR6, L, hm6, hop⟩
        have hf : s.fin = 0 := by simpa using hf
        simp only [openB, if_pos hf] at hop
        conv => whnf
        have hbKd : Blk w6.drew bk (slc s) 43 := hbK
        have hbRd : Blk w6.drew w.heap.size [.int .i64 r.now, .slice oa r.links.length ca, .slice (some ⟨b, o, none⟩) r.slots.length cb] 27 := hbR6
        (refine vdrawB plan20 (by kernel_rfl) ?_; conv => whnf)
        (refine VPend.mk (fun u _ => ?_) ?_; (focus (conv => whnf)); (conv => whnf))
        (refine vs_loadB rfl hbKd rfl ?_; (conv => whnf); refine VPend.mk rfl ?_; (conv => whnf); refine VPend.mk (fun u hu => ?_) ?_; (focus ((conv => whnf); exact vs_loadB rfl (Blk.below hbKd hu (Blk.lt hbKd)) rfl (VPend.mk rfl rfl))); (conv => whnf))
        (refine VPend.mk (fun u _ => ?_) ?_; (focus (conv => whnf)); (conv => whnf))
        (refine vs_loadB rfl hbRd rfl ?_; (conv => whnf); refine VPend.mk rfl ?_; (conv => whnf); refine VPend.mk (fun u hu => ?_) ?_; (focus ((conv => whnf); exact vs_loadB rfl (Blk.below hbRd hu (Blk.lt hbRd)) rfl (VPend.mk rfl rfl))); (conv => whnf))
        (refine VPend.mk (fun u _ => ?_) ?_; (focus (conv => whnf)); (conv => whnf))
        (refine vs_loadB rfl hbKd rfl ?_; (conv => whnf); refine VPend.mk rfl ?_; (conv => whnf); refine VPend.mk (fun u hu => ?_) ?_; (focus ((conv => whnf); exact vs_loadB rfl (Blk.below hbKd hu (Blk.lt hbKd)) rfl (VPend.mk rfl rfl))); (conv => whnf))
        obtain ⟨R, hR⟩ : ∃ p, p = rt r.links s.id := ⟨_, rfl⟩
        rw [← hR] at hop
        have hB6d : Below w.heap.size w w6.drew := hB6.trans ((Quiet.refl w6).drew.below _)
        refine ⟨?_, ?_⟩
        · conv => whnf
          refine vcall (by kernel_rfl) (root_ok oa ca r.links s.id w6.drew ((hrl.below hB6 : Row w6 oa _) : Row w6.drew oa _) (by omega)) ?_
          rintro _ w7 ⟨rfl, hB7⟩
          rw [← hR]
          refine VNext.below hB7 ?_
          conv => whnf
          (refine VPend.mk (fun u _ => ?_) ?_; (focus (conv => whnf)); (conv => whnf))
          refine VNext.below (balloc (Below.refl _ _) (Nat.le_refl _) _) ?_
          conv => whnf
          refine vs_storeW (Blk.new _ _ _) rfl rfl rfl ?_
          intro w9 hO9 hbP
          have hBm : Below w6.drew.heap.size w6.drew (w7.alloc (.cells #[.string ⟨#[]⟩, .string ⟨#[]⟩] 81)) := balloc hB7 (Nat.le_refl _) _
          have hm6l := hm6.lt
          have hbR6l := hbR6.lt
          have hszm := hBm.size
          have hm6d : MapP w6.drew mb (fun p => hasP L p = true) := hm6
          have hdr : w6.drew.heap.size = w6.heap.size := rfl
          have hm9 := (hm6d.below hBm hm6l).only hO9 (by have h7 := hB7.size; omega)
          have hbR9 := (hbRd.below hBm hbR6l).only hO9 (by have h7 := hB7.size; omega)
          have hB9 : Below w.heap.size w w9 := (hB6d.trans (hBm.mono hB6.size)).trans (hO9.below (by have h7 := hB7.size; omega))
          obtain ⟨bp, hbp⟩ : ∃ b, b = w7.heap.size := ⟨_, rfl⟩
          rw [← hbp] at hbP
          rw [← hbp]
          clear hm6d hm6 hbR6 hbRd hbKd hbK hO9 hBm hB7 hbp
          conv => whnf
          refine vs_loadNB rfl rfl hbP ?_
          conv => whnf
          refine vs_lookP (p := (s.layer, R)) rfl placeP (by kernel_rfl) hm9 ?_
          obtain ⟨e, he⟩ : ∃ e, e = decide (hasP L (s.layer, R) = true) := ⟨_, rfl⟩
          rw [← he]
          conv => whnf
          refine vif_split (fun h => ?_) (fun h => ?_)
          · have h : hasP L (s.layer, R) = true := by rw [h] at he; exact of_decide_eq_true he.symm
            rw [h] at hop
            have : vb = false := by rw [hvB, hop]; rfl
            subst this
            conv => whnf
            exact VEnd.mk ⟨rfl, hB9⟩
          have h : hasP L (s.layer, R) = false := by rw [h] at he; simpa using he.symm
          rw [h] at hop
          conv => whnf
          refine vs_loadNB rfl rfl hbP ?_
          conv => whnf
          refine vs_putP (p := (s.layer, R)) rfl placeP hm9 (by rw [h]; simp) ?_
          intro w10 hO10 hm10
          conv => whnf
          refine VBack.mk ⟨_, ?_, (i + 1), rfl, ?_, ?_⟩
          · show r.slots.length - (i + 1) < r.slots.length - i; omega
          · exact ⟨intEq (incr (by omega)), trivial⟩
          · refine ⟨hlt, hB9.trans (hO10.below (by omega)), hbR9.only hO10 (by omega), L ++ [(s.layer, R)], hm10.congr fun p => ?_, hop⟩
            simp [hasP_iff]
        · conv => whnf
          refine VNext.below (balloc (Below.refl _ _) (Nat.le_refl _) _) ?_
          conv => whnf
          refine vcall (by kernel_rfl) (root_ok oa ca r.links s.id _ ((hrl.below (balloc hB6d (Nat.le_refl _) (.cells #[.string ⟨#[]⟩, .string ⟨#[]⟩] 81))) : Row (w6.drew.alloc (.cells #[.string ⟨#[]⟩, .string ⟨#[]⟩] 81)) oa _) (by omega)) ?_
          rintro _ w7 ⟨rfl, hB7⟩
          rw [← hR]
          refine VNext.below hB7 ?_
          conv => whnf
          (refine VPend.mk (fun u _ => ?_) ?_; (focus (conv => whnf)); (conv => whnf))
          refine vs_storeW ((Blk.new w6.drew #[.string ⟨#[]⟩, .string ⟨#[]⟩] 81).below hB7 (by simp)) rfl rfl rfl ?_
          intro w9 hO9 hbP
          have hBm : Below w6.drew.heap.size w6.drew w7 := (balloc (Below.refl _ _) (Nat.le_refl _) _).trans (hB7.mono (by simp))
          have hm6l := hm6.lt
          have hbR6l := hbR6.lt
          have hszm := hBm.size
          have hm6d : MapP w6.drew mb (fun p => hasP L p = true) := hm6
          have hdr : w6.drew.heap.size = w6.heap.size := rfl
          have hm9 := (hm6d.below hBm hm6l).only hO9 (by omega)
          have hbR9 := (hbRd.below hBm hbR6l).only hO9 (by omega)
          have hB9 : Below w.heap.size w w9 := (hB6d.trans (hBm.mono hB6.size)).trans (hO9.below (by omega))
          obtain ⟨bp, hbp⟩ : ∃ b, b = w6.drew.heap.size := ⟨_, rfl⟩
          rw [← hbp] at hbP
          rw [← hbp]
          clear hm6d hm6 hbR6 hbRd hbKd hbK hO9 hBm hB7 hbp
          conv => whnf
          refine vs_loadNB rfl rfl hbP ?_
          conv => whnf
          refine vs_lookP (p := (s.layer, R)) rfl placeP (by kernel_rfl) hm9 ?_
          obtain ⟨e, he⟩ : ∃ e, e = decide (hasP L (s.layer, R) = true) := ⟨_, rfl⟩
          rw [← he]
          conv => whnf
          refine vif_split (fun h => ?_) (fun h => ?_)
          · have h : hasP L (s.layer, R) = true := by rw [h] at he; exact of_decide_eq_true he.symm
            rw [h] at hop
            have : vb = false := by rw [hvB, hop]; rfl
            subst this
            conv => whnf
            exact VEnd.mk ⟨rfl, hB9⟩
          have h : hasP L (s.layer, R) = false := by rw [h] at he; simpa using he.symm
          rw [h] at hop
          conv => whnf
          refine vs_loadNB rfl rfl hbP ?_
          conv => whnf
          refine vs_putP (p := (s.layer, R)) rfl placeP hm9 (by rw [h]; simp) ?_
          intro w10 hO10 hm10
          conv => whnf
          refine VBack.mk ⟨_, ?_, (i + 1), rfl, ?_, ?_⟩
          · show r.slots.length - (i + 1) < r.slots.length - i; omega
          · exact ⟨intEq (incr (by omega)), trivial⟩
          · refine ⟨hlt, hB9.trans (hO10.below (by omega)), hbR9.only hO10 (by omega), L ++ [(s.layer, R)], hm10.congr fun p => ?_, hop⟩
            simp [hasP_iff]
      · have hge : ¬ i < r.slots.length := by have := of_decide_eq_false hge; omega
        obtain rfl : i = r.slots.length := by omega
        rw [List.drop_length] at hop
        have hopT : openB r.links [] r.slots = true := hop
        rw [hopT] at hvB
        subst hvB
        conv => whnf
        exact VEnd.mk ⟨rfl, hB5⟩
end Go.Proofs.YtinpgogjkmmjpaaDoor.Sp
