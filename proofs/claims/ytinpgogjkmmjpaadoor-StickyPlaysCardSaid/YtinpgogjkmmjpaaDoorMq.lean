/- The reckoner's rules for a set of pairs of strings, kept as a map to bool. Conditions on the key's type: as named. -/
import Derived.Test.YtinpgogjkmmjpaaDoorMp
import Derived.Test.YtinpgogjkmmjpaaDoorIdp
namespace Go.Proofs.YtinpgogjkmmjpaaDoor.Vc
open Go Go.RowKit

def keyP (p : ByteArray × ByteArray) : Value := .agg #[.string p.1, .string p.2]
theorem keyP_inj {p q : ByteArray × ByteArray} (h : keyP p = keyP q) : p = q := by
  unfold keyP at h
  simp only [Value.agg.injEq, Array.mk.injEq, List.cons.injEq, Value.string.injEq, and_true] at h
  exact Prod.ext h.1 h.2
/-- block b holds a map that says true of the pairs of S -/
def MapP (w : World) (b : Nat) (S : ByteArray × ByteArray → Prop) : Prop :=
  ∃ es clock, w.heap[b]? = some (.map es clock) ∧ (∀ x ∈ es.toList, ∃ p, x.key = keyP p ∧ x.val = .bool true) ∧ ∀ p, S p ↔ ∃ x ∈ es.toList, x.key = keyP p
theorem MapP.lt {w : World} {b : Nat} {S : ByteArray × ByteArray → Prop} (h : MapP w b S) : b < w.heap.size := let ⟨_, _, hb, _⟩ := h; (Array.getElem?_eq_some_iff.1 hb).1
theorem MapP.below {w w' : World} {b B : Nat} {S : ByteArray × ByteArray → Prop} (h : MapP w b S) (hB : Below B w w') (hb : b < B) : MapP w' b S :=
  let ⟨es, c, h1, h2⟩ := h; ⟨es, c, (hB.block b hb).trans h1, h2⟩
theorem MapP.only {w w' : World} {b k : Nat} {S : ByteArray × ByteArray → Prop} (h : MapP w b S) (hO : Only k w w') (hb : b ≠ k) : MapP w' b S :=
  let ⟨es, c, h1, h2⟩ := h; ⟨es, c, (hO.block b hb).trans h1, h2⟩
theorem MapP.congr {w : World} {b : Nat} {S T : ByteArray × ByteArray → Prop} (h : MapP w b S) (e : ∀ p, S p ↔ T p) : MapP w b T :=
  let ⟨es, c, h1, h2, h3⟩ := h; ⟨es, c, h1, h2, fun p => (e p).symm.trans (h3 p)⟩
/-- what a key's type must be like -/
structure KeyP (P : Program) (T : TypeId) : Prop where
  hu : P.underlying T = some (.struct (P.fieldsOf T))
  hp : P.stoodInHeld T = false
  he : ∀ a b c d : ByteArray, eqF P [.string a, .string b] [.string c, .string d] (P.fieldsOf T).toList = some (sEq a c && (sEq b d && true))
  hc : ∀ (e : Bool) (p : ByteArray × ByteArray) (w : World), (Instr.checkKey e 10000 T (keyP p)).run P w = .ok () w
section
variable {P : Program} {w : World} {K : Value → World → Prop}
theorem vs_makeP {t : TypeId} (k : ∀ w', Below w.heap.size w w' → MapP w' w.heap.size (fun _ => False) → K (.map (some w.heap.size)) w') : VSem P (Instr.makeMap t none) w K := by
  refine vsem (run_makeMap t w) (k _ (balloc (Below.refl _ _) (Nat.le_refl _) _) ⟨#[], 0, heap_alloc_new w _, by simp, by simp⟩)
theorem run_eqP {T : TypeId} (hT : KeyP P T) (p q : ByteArray × ByteArray) : (Op.equal T (keyP p) (keyP q)).run P w = .ok (decide (p = q)) w := by
  have h1 : (Op.equal T (keyP p) (keyP q)).run P w = (Op.equalIn (9999 + 1) T (keyP p) (keyP q)).run P w := rfl
  have h2 := eqF_run (P := P) (w := w) 9998 [.string p.1, .string p.2] [.string q.1, .string q.2] (P.fieldsOf T).toList _ (hT.he p.1 p.2 q.1 q.2)
  rw [h1]
  unfold keyP
  rw [run_equalIn_struct w 9999 T _ _ hT.hu hT.hp]
  refine h2.trans ?_
  congr 1
  rw [Id.sEq_dec, Id.sEq_dec]
  obtain ⟨a, b⟩ := p
  obtain ⟨c, d⟩ := q
  by_cases h1 : a = c <;> by_cases h2 : b = d <;> simp [h1, h2]
/-- the search that asks at each key -/
theorem run_askP {T : TypeId} (hT : KeyP P T) (p : ByteArray × ByteArray) : ∀ (es : List MapEntry) (i : Nat), (∀ x ∈ es, ∃ q, x.key = keyP q ∧ x.val = .bool true) →
    ((∀ x ∈ es, x.key ≠ keyP p) ∧ (Instr.findAsking T (keyP p) es i).run P w = .ok none w) ∨ ((∃ x ∈ es, x.key = keyP p) ∧ ∃ j, (Instr.findAsking T (keyP p) es i).run P w = .ok (some (j, .bool true)) w)
  | [], i, _ => .inl ⟨by simp, rfl⟩
  | e :: es, i, h => by
    obtain ⟨q, hq, hv⟩ := h e (by simp)
    have hr := run_eqP (w := w) hT p q
    by_cases hpq : p = q
    · subst hpq
      refine .inr ⟨⟨e, by simp, hq⟩, i, ?_⟩
      simp [Instr.findAsking, hq, hv, hr]
    · rcases run_askP hT p es (i + 1) (fun x hx => h x (by simp [hx])) with ⟨hn, hh⟩ | ⟨⟨x, hx, hk⟩, j, hh⟩
      · refine .inl ⟨fun x hx => ?_, ?_⟩
        · rcases List.mem_cons.1 hx with rfl | hx
          · rw [hq]; exact fun e => hpq (keyP_inj e).symm
          · exact hn x hx
        · simp [Instr.findAsking, hq, hr, hpq, hh]
      · refine .inr ⟨⟨x, by simp [hx], hk⟩, j, ?_⟩
        simp [Instr.findAsking, hq, hr, hpq, hh]
theorem run_findP {T : TypeId} (hT : KeyP P T) (p : ByteArray × ByteArray) (es : List MapEntry) (h : ∀ x ∈ es, ∃ q, x.key = keyP q ∧ x.val = .bool true) :
    ((∀ x ∈ es, x.key ≠ keyP p) ∧ (Instr.findKey T (keyP p) es).run P w = .ok none w) ∨ ((∃ x ∈ es, x.key = keyP p) ∧ ∃ j, (Instr.findKey T (keyP p) es).run P w = .ok (some (j, .bool true)) w) := by
  cases es with
  | nil => exact .inl ⟨by simp, by simp [Instr.findKey, run_under hT.hu, Instr.findNow]⟩
  | cons e es =>
    have : Instr.findNow (.struct (P.fieldsOf T)) (keyP p) (e :: es) 0 = none := by
      obtain ⟨q, hq, _⟩ := h e (by simp)
      simp [Instr.findNow, hq, keyP, Instr.sameNow]
    have hf : (Instr.findKey T (keyP p) (e :: es)).run P w = (Instr.findAsking T (keyP p) (e :: es) 0).run P w := by
      simp [Instr.findKey, run_under hT.hu, this]
    rw [hf]
    exact run_askP hT p (e :: es) 0 h
/-- m[p] -/
theorem vs_lookP {t kt et : TypeId} {b : Nat} {S : ByteArray × ByteArray → Prop} [DecidablePred S] {p : ByteArray × ByteArray} (ht : P.underlying t = some (.map kt et)) (hT : KeyP P kt) (hz : (P.info? et).bind (·.zero) = some (.bool false)) (h : MapP w b S)
    (c : K (.bool (decide (S p))) w) : VSem P (Instr.lookup t (.map (some b)) (keyP p) false) w K := by
  obtain ⟨es, cl, hb, h2, h3⟩ := h
  have hc := hT.hc es.isEmpty p w
  rcases run_findP (w := w) hT p es.toList h2 with ⟨hn, hr⟩ | ⟨hy, j, hr⟩
  · have hS : ¬ S p := fun x => by obtain ⟨e, he, hk⟩ := (h3 p).1 x; exact hn e he hk
    rw [decide_eq_false hS] at c
    refine vsem ?_ c
    simp [Instr.lookup, run_under ht, MapKept.run_getObj_map hb, hc, hr, zero_run hz]
  · rw [decide_eq_true ((h3 p).2 hy)] at c
    refine vsem ?_ c
    simp [Instr.lookup, run_under ht, MapKept.run_getObj_map hb, hc, hr]
/-- m[p] = true at a key that is not there -/
theorem vs_putP {K : World → Prop} {t kt et : TypeId} {b : Nat} {S : ByteArray × ByteArray → Prop} {p : ByteArray × ByteArray} (ht : P.underlying t = some (.map kt et)) (hT : KeyP P kt) (h : MapP w b S) (hS : ¬ S p)
    (c : ∀ w', Only b w w' → MapP w' b (fun q => S q ∨ q = p) → K w') : VUnit P (Instr.mapUpdate t (.map (some b)) (keyP p) (.bool true)) w K := by
  obtain ⟨es, cl, hb, h2, h3⟩ := h
  have hbl : b < w.heap.size := (Array.getElem?_eq_some_iff.1 hb).1
  have hc := hT.hc false p w
  have only : ∀ o, Only b w { w with heap := w.heap.setIfInBounds b o } := fun o => ⟨rfl, rfl, rfl, by simp, fun j hj => by simp [Array.getElem?_setIfInBounds_ne (Ne.symm hj)]⟩
  have self : ∀ o, ({ w with heap := w.heap.setIfInBounds b o } : World).heap[b]? = some o := fun o => by simp [hbl]
  rcases run_findP (w := w) hT p es.toList h2 with ⟨hn, hr⟩ | ⟨hy, j, hr⟩
  · refine ⟨(), _, ?_, c _ (only (.map (es.push { key := keyP p, val := .bool true, born := cl }) (cl + 1))) ⟨_, _, self _, ?_, ?_⟩⟩
    · simp [Instr.mapUpdate, run_under ht, MapKept.run_getObj_map hb, hc, hr, MapKept.run_setObj_map _ hb]
    · intro x hx
      simp only [Array.toList_push, List.mem_append, List.mem_singleton] at hx
      rcases hx with hx | rfl
      · exact h2 x hx
      · exact ⟨p, rfl, rfl⟩
    · intro q
      simp only [Array.toList_push, List.mem_append, List.mem_singleton]
      rw [h3 q]
      constructor
      · rintro (⟨x, hx, hk⟩ | rfl)
        · exact ⟨x, .inl hx, hk⟩
        · exact ⟨_, .inr rfl, rfl⟩
      · rintro ⟨x, hx | rfl, hk⟩
        · exact .inl ⟨x, hx, hk⟩
        · exact .inr (keyP_inj hk).symm
  · exact absurd ((h3 p).2 hy) hS
end
end Go.Proofs.YtinpgogjkmmjpaaDoor.Vc
