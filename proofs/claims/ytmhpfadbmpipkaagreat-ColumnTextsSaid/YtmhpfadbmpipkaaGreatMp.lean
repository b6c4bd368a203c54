/- The reckoner's rules for maps whose keys are strings: make, look up, put. A map's block is told as a function of keys. No condition. -/
import Derived.Test.YtmhpfadbmpipkaaGreatSg
import Derived.MapKept
import Derived.Carry
set_option linter.unusedVariables false
set_option linter.unusedSimpArgs false
namespace Go.Proofs.YtmhpfadbmpipkaaGreat.Vc
open Go Go.RowKit

/-- block b holds a map with string keys, which gives what F says -/
def MapS (w : World) (b : Nat) (F : ByteArray → Option Value) : Prop :=
  ∃ es clock, w.heap[b]? = some (.map es clock) ∧ (∀ x ∈ es.toList, MapKept.IsKey .string x.key) ∧ (es.toList.map (·.key)).Nodup ∧ ∀ k v, F k = some v ↔ ∃ x ∈ es.toList, x.key = .string k ∧ x.val = v
theorem MapS.lt {w : World} {b : Nat} {F : ByteArray → Option Value} (h : MapS w b F) : b < w.heap.size := let ⟨_, _, hb, _⟩ := h; (Array.getElem?_eq_some_iff.1 hb).1
theorem MapS.below {w w' : World} {b B : Nat} {F : ByteArray → Option Value} (h : MapS w b F) (hB : Below B w w') (hb : b < B) : MapS w' b F :=
  let ⟨es, c, h1, h2⟩ := h; ⟨es, c, (hB.block b hb).trans h1, h2⟩
theorem MapS.only {w w' : World} {b k : Nat} {F : ByteArray → Option Value} (h : MapS w b F) (hO : Only k w w') (hb : b ≠ k) : MapS w' b F :=
  let ⟨es, c, h1, h2⟩ := h; ⟨es, c, (hO.block b hb).trans h1, h2⟩
theorem MapS.quiet {w w' : World} {b : Nat} {F : ByteArray → Option Value} (h : MapS w b F) (hQ : Quiet w w') : MapS w' b F :=
  let ⟨es, c, h1, h2⟩ := h; ⟨es, c, by rw [hQ.heap]; exact h1, h2⟩
theorem MapS.heap {w w' : World} {b : Nat} {F : ByteArray → Option Value} (h : MapS w b F) (e : w'.heap[b]? = w.heap[b]?) : MapS w' b F :=
  let ⟨es, c, h1, h2⟩ := h; ⟨es, c, e.trans h1, h2⟩
theorem MapS.drew {w : World} {b : Nat} {F : ByteArray → Option Value} (h : MapS w b F) : MapS w.drew b F := h
theorem MapS.congr {w : World} {b : Nat} {F G : ByteArray → Option Value} (h : MapS w b F) (e : ∀ k, F k = G k) : MapS w b G :=
  let ⟨es, c, h1, h2, h3, h4⟩ := h; ⟨es, c, h1, h2, h3, fun k v => by rw [← e k]; exact h4 k v⟩
section
variable {P : Program} {w : World} {K : Value → World → Prop}
theorem vs_makeMap {t : TypeId} (k : ∀ w', Below w.heap.size w w' → MapS w' w.heap.size (fun _ => none) → K (.map (some w.heap.size)) w') : VSem P (Instr.makeMap t none) w K := by
  refine vsem (run_makeMap t w) (k _ (balloc (Below.refl _ _) (Nat.le_refl _) _) ⟨#[], 0, heap_alloc_new w _, by simp, by simp, by simp⟩)
theorem MapS.find {F : ByteArray → Option Value} {kt : TypeId} {k : ByteArray} (hk : P.underlying kt = some .string) {es : Array MapEntry} {c : Nat}
    (h2 : ∀ x ∈ es.toList, MapKept.IsKey .string x.key) (h3 : (es.toList.map (·.key)).Nodup) (h4 : ∀ k v, F k = some v ↔ ∃ x ∈ es.toList, x.key = .string k ∧ x.val = v) :
    (F k = none ∧ (Instr.findKey kt (.string k) es.toList).run P w = .ok none w ∧ ∀ x ∈ es.toList, x.key ≠ .string k) ∨
    ∃ j e, F k = some e.val ∧ (Instr.findKey kt (.string k) es.toList).run P w = .ok (some (j, e.val)) w ∧ es[j]? = some e ∧ e.key = .string k := by
  rcases MapKept.findNow_spec (d := .string) (k := .string k) trivial es.toList 0 h2 with ⟨hf, hn⟩ | ⟨j, e, hf, he, hek⟩
  · refine .inl ⟨?_, MapKept.run_findKey hk hf, hn⟩
    cases hF : F k with
    | none => rfl
    | some v => obtain ⟨x, hx, e1, _⟩ := (h4 k v).1 hF; exact absurd e1 (hn x hx)
  · refine .inr ⟨j, e, (h4 k e.val).2 ⟨e, List.mem_iff_getElem?.2 ⟨j, he⟩, hek, rfl⟩, by rw [Nat.zero_add] at hf; exact MapKept.run_findKey hk hf, by simpa using he, hek⟩
/-- m[k] with the answer whether there is one -/
theorem vs_lookS {t kt et : TypeId} {b : Nat} {F : ByteArray → Option Value} {k : ByteArray} {z : Value} (ht : P.underlying t = some (.map kt et)) (hk : P.underlying kt = some .string) (hz : (P.info? et).bind (·.zero) = some z) (h : MapS w b F)
    (c : K (.tuple #[(F k).getD z, .bool (F k).isSome]) w) : VSem P (Instr.lookup t (.map (some b)) (.string k) true) w K := by
  obtain ⟨es, cl, hb, h2, h3, h4⟩ := h
  have hc : (Instr.checkKey es.isEmpty 10000 kt (.string k)).run P w = .ok () w := MapKept.run_checkKey (k := .string k) hk (by simp [MapKept.IsKey]) _ 9999
  rcases MapS.find (P := P) (w := w) (k := k) hk (c := cl) h2 h3 h4 with ⟨hF, hr, _⟩ | ⟨j, e, hF, hr, _⟩
  · rw [hF] at c
    refine vsem ?_ c
    simp [Instr.lookup, run_under ht, MapKept.run_getObj_map hb, hc, hr, zero_run hz]
  · rw [hF] at c
    refine vsem ?_ c
    simp [Instr.lookup, run_under ht, MapKept.run_getObj_map hb, hc, hr]
/-- m[k] -/
theorem vs_lookS1 {t kt et : TypeId} {b : Nat} {F : ByteArray → Option Value} {k : ByteArray} {z : Value} (ht : P.underlying t = some (.map kt et)) (hk : P.underlying kt = some .string) (hz : (P.info? et).bind (·.zero) = some z) (h : MapS w b F)
    (c : K ((F k).getD z) w) : VSem P (Instr.lookup t (.map (some b)) (.string k) false) w K := by
  obtain ⟨es, cl, hb, h2, h3, h4⟩ := h
  have hc : (Instr.checkKey es.isEmpty 10000 kt (.string k)).run P w = .ok () w := MapKept.run_checkKey (k := .string k) hk (by simp [MapKept.IsKey]) _ 9999
  rcases MapS.find (P := P) (w := w) (k := k) hk (c := cl) h2 h3 h4 with ⟨hF, hr, _⟩ | ⟨j, e, hF, hr, _⟩
  · rw [hF] at c
    refine vsem ?_ c
    simp [Instr.lookup, run_under ht, MapKept.run_getObj_map hb, hc, hr, zero_run hz]
  · rw [hF] at c
    refine vsem ?_ c
    simp [Instr.lookup, run_under ht, MapKept.run_getObj_map hb, hc, hr]
/-- m[k] = v -/
theorem vs_putS {K : World → Prop} {t kt et : TypeId} {b : Nat} {F : ByteArray → Option Value} {k : ByteArray} {v : Value} (ht : P.underlying t = some (.map kt et)) (hk : P.underlying kt = some .string) (h : MapS w b F)
    (c : ∀ w', Only b w w' → MapS w' b (fun k' => if k' = k then some v else F k') → K w') : VUnit P (Instr.mapUpdate t (.map (some b)) (.string k) v) w K := by
  obtain ⟨es, cl, hb, h2, h3, h4⟩ := h
  have hbl : b < w.heap.size := (Array.getElem?_eq_some_iff.1 hb).1
  have hc : (Instr.checkKey false 10000 kt (.string k)).run P w = .ok () w := MapKept.run_checkKey (k := .string k) hk (by simp [MapKept.IsKey]) _ 9999
  have only : ∀ o, Only b w { w with heap := w.heap.setIfInBounds b o } := fun o => ⟨rfl, rfl, rfl, by simp, fun j hj => by simp [Array.getElem?_setIfInBounds_ne (Ne.symm hj)]⟩
  have self : ∀ o, ({ w with heap := w.heap.setIfInBounds b o } : World).heap[b]? = some o := fun o => by simp [hbl]
  rcases MapS.find (P := P) (w := w) (k := k) hk (c := cl) h2 h3 h4 with ⟨hF, hr, hn⟩ | ⟨j, e, hF, hr, hj, hek⟩
  · refine ⟨(), _, ?_, c _ (only (.map (es.push { key := .string k, val := v, born := cl }) (cl + 1))) ⟨_, _, self _, ?_, ?_, ?_⟩⟩
    · simp [Instr.mapUpdate, run_under ht, MapKept.run_getObj_map hb, hc, hr, MapKept.run_setObj_map _ hb]
    · intro x hx
      simp only [Array.toList_push, List.mem_append, List.mem_singleton] at hx
      rcases hx with hx | rfl
      · exact h2 x hx
      · trivial
    · simp only [Array.toList_push, List.map_append, List.map_cons, List.map_nil]
      refine List.nodup_append.2 ⟨h3, by simp, ?_⟩
      intro a ha b hb
      simp only [List.mem_singleton] at hb
      subst hb
      obtain ⟨x, hx, rfl⟩ := List.mem_map.1 ha
      exact hn x hx
    · intro k' v'
      by_cases e : k' = k
      · subst e
        simp only [if_true, Option.some.injEq, Array.toList_push, List.mem_append, List.mem_singleton]
        constructor
        · rintro rfl; exact ⟨_, .inr rfl, rfl, rfl⟩
        · rintro ⟨x, hx | rfl, e1, e2⟩
          · exact absurd e1 (hn x hx)
          · exact e2
      · simp only [if_neg e, Array.toList_push, List.mem_append, List.mem_singleton]
        rw [h4]
        constructor
        · rintro ⟨x, hx, e1, e2⟩; exact ⟨x, .inl hx, e1, e2⟩
        · rintro ⟨x, hx | rfl, e1, e2⟩
          · exact ⟨x, hx, e1, e2⟩
          · injection e1 with e1; exact absurd e1.symm e
  · have hks : Instr.sameBits 10000 e.key (.string k) = true := by rw [hek]; exact (MapKept.bytes_beq k k).2 rfl
    have hkey : ∀ x ∈ (es.modify j fun e => { e with key := .string k, val := v }).toList, x.key ∈ es.toList.map (·.key) := fun x hx => by
      have : x.key ∈ (es.modify j fun e => { e with key := .string k, val := v }).toList.map (·.key) := List.mem_map.2 ⟨x, hx, rfl⟩
      rwa [MapKept.modify_keys j _ fun e' he' => by rw [hj] at he'; injection he' with he'; subst he'; exact hek.symm] at this
    refine ⟨(), _, ?_, c _ (only (.map (es.modify j fun e => { e with key := .string k, val := v }) cl)) ⟨_, _, self _, ?_, ?_, ?_⟩⟩
    · simp [Instr.mapUpdate, run_under ht, MapKept.run_getObj_map hb, hc, hr, hj, Instr.keyThatStays, hks, MapKept.run_setObj_map _ hb]
    · exact MapKept.isKey_modify h2 j _ fun e' he' => by rw [hj] at he'; injection he' with he'; subst he'; exact hek.symm
    · rw [MapKept.modify_keys j _ fun e' he' => by rw [hj] at he'; injection he' with he'; subst he'; exact hek.symm]; exact h3
    · intro k' v'
      have hmod : ∀ i, (es.modify j fun e => { e with key := .string k, val := v }).toList[i]? = if j = i then (es[i]?).map (fun e => { e with key := .string k, val := v }) else es[i]? := fun i => by
        rw [Array.getElem?_toList, Array.getElem?_modify]
      have uniq : ∀ i x, es[i]? = some x → x.key = .string k → i = j := fun i x hx hxk => by
        have hi : i < (es.toList.map (·.key)).length := by
          have := (Array.getElem?_eq_some_iff.1 hx).1
          simpa using this
        refine (List.getElem?_inj hi h3).1 ?_
        rw [List.getElem?_map, List.getElem?_map, Array.getElem?_toList, Array.getElem?_toList, hx, hj]
        simp [hxk, hek]
      constructor
      · intro hv
        have hv : (if k' = k then some v else F k') = some v' := hv
        by_cases e' : k' = k
        · rw [if_pos e'] at hv
          injection hv with hv
          subst hv; subst e'
          exact ⟨_, List.mem_iff_getElem?.2 ⟨j, by rw [hmod, if_pos rfl, hj]; rfl⟩, rfl, rfl⟩
        · rw [if_neg e'] at hv
          obtain ⟨x, hx, e1, e2⟩ := (h4 k' v').1 hv
          obtain ⟨i, hi⟩ := List.mem_iff_getElem?.1 hx
          rw [Array.getElem?_toList] at hi
          have hij : ¬ j = i := fun q => by
            subst q
            rw [hj] at hi
            injection hi with hi
            subst hi
            rw [hek] at e1
            injection e1 with e1
            exact e' e1.symm
          exact ⟨x, List.mem_iff_getElem?.2 ⟨i, by rw [hmod, if_neg hij]; exact hi⟩, e1, e2⟩
      · rintro ⟨x, hx, e1, e2⟩
        obtain ⟨i, hi⟩ := List.mem_iff_getElem?.1 hx
        rw [hmod] at hi
        by_cases hij : j = i
        · subst hij
          rw [if_pos rfl, hj] at hi
          simp only [Option.map_some, Option.some.injEq] at hi
          subst hi
          injection e1 with e1
          show (if k' = k then some v else F k') = some v'
          rw [if_pos e1.symm]
          exact congrArg some e2
        · rw [if_neg hij] at hi
          have e' : ¬ k' = k := fun q => hij (uniq i x hi (by rw [e1, q])).symm
          show (if k' = k then some v else F k') = some v'
          rw [if_neg e']
          exact (h4 k' v').2 ⟨x, List.mem_iff_getElem?.2 ⟨i, by rw [Array.getElem?_toList]; exact hi⟩, e1, e2⟩
end
end Go.Proofs.YtmhpfadbmpipkaaGreat.Vc
