/- A library function that changes a list of the caller's own in place (sorting, striking repeated ones): its contract over worlds, as one over abstract values. Condition: the list is not empty. -/
import Derived.Test.YtmnjmdajgilhiaaDoorAx10
import Derived.Sort.Grow
set_option linter.unusedVariables false
set_option linter.unusedSimpArgs false
namespace Go.Proofs.YtmnjmdajgilhiaaDoor.Ax
open Go Go.RowKit Go.Proofs Go.Proofs.YtmnjmdajgilhiaaDoor.Vc
section
variable {P : Program} {G : Glob}
def en1 {α : Type} (enc : α → Value) (a : α) : List FV := [.v (enc a)]
theorem rep_en1 {α : Type} {enc : α → Value} (h1 : ∀ a, (enc a).oneCell' = true) {F : Nat → Prop} {w : World} : ∀ zs : List α, RepR F w 1 (zs.map (en1 enc)) (zs.map enc) := by
  intro zs
  induction zs with
  | nil => exact RepR.nil 1
  | cons a r ih => exact RepR.cons (xs := r.map enc) (vs := [enc a]) (zs_rep [enc a]) rfl (by simp [h1]) ih
theorem recs_en1 {α : Type} (enc : α → Value) : ∀ zs : List α, recs (fun a => [enc a]) zs = zs.map enc := by
  intro zs
  unfold recs
  induction zs with
  | nil => rfl
  | cons a r ih => simp only [List.map_cons, List.flatten_cons, ih]; rfl
theorem afn_place {α : Type} [Inhabited α] {enc : α → Value} (h1 : ∀ a, (enc a).oneCell' = true) {f : FuncId} {T : TypeId} {zs zs' : List α} {A : AV} {V : Nat → Nat → Value → Prop} (hne : zs ≠ []) (hl : zs'.length = zs.length)
    (h : ∀ w blk cap, Sort.Holds enc w blk 0 zs.toArray → blk < w.heap.size → zs.length ≤ cap → Ret P f #[.slice (some ⟨blk, 0, none⟩) zs.length cap] w fun v w' => V blk cap v ∧ ∃ q os, w' = Sort.grow (Sort.putRow enc (Sort.ahead w q) blk 0 zs'.toArray) os)
    (hv : ∀ w (σ : Nat → Loc) F blk cap v, σ 0 = ⟨some blk, zs.length, cap, 1⟩ → zs.length ≤ cap → V blk cap v → ARep 1 σ F w A v) :
    AFn P G f [.own 0] 1 [(0, .rows T 1 (zs.map (en1 enc)))] (fun a n H => a = A ∧ n = 1 ∧ H = [(0, .rows T 1 (zs'.map (en1 enc)))]) := by
  intro w σ F vs st r
  have hpos : 0 < zs.length := List.length_pos_iff.2 hne
  obtain ⟨hsz, hn, xs, hown, hrep⟩ := st.blk 0 _ rfl
  rw [List.length_map] at hn hown
  have hxs : xs = zs.map enc := by rw [← recs_en1]; exact repR_flat (c := fun a => [enc a]) (fun _ => rfl) hrep
  rcases hown.2 with ⟨_, h0⟩ | ⟨g, cap, cur, hval, _, hb, hnc, hcm, hcs, htk⟩
  · omega
  injection hval with e1 e2 e3
  have hLb : (σ 0).b = some g := by
    unfold Loc.oa at e1
    cases hbb : (σ 0).b with
    | none => rw [hbb] at e1; cases e1
    | some g' => rw [hbb] at e1; injection e1 with e1; injection e1 with e1; rw [e1]
  have hσ : σ 0 = ⟨some g, zs.length, cap, 1⟩ := by
    cases hs : σ 0 with
    | mk b n c sz => rw [hs] at hLb hn e3 hsz; simp only at hLb hn e3 hsz; subst hLb; subst hn; subst e3; subst hsz; rfl
  obtain ⟨v0, rfl, hv0⟩ : ∃ v0, vs = [v0] ∧ v0 = .slice (some ⟨g, 0, none⟩) zs.length cap := by
    match vs, r with
    | [v0], r =>
      refine ⟨v0, rfl, ?_⟩
      cases r.1 with
      | own _ hl => rw [hσ]; rfl
      | ownz _ oa hl hn0 hc => rw [hσ] at hn0; simp only at hn0; omega
  subst hv0
  have hg : g < w.heap.size := (Array.getElem?_eq_some_iff.1 hb).1
  have hsz2 : zs.length ≤ cur.size := by omega
  have hH : Sort.Holds enc w g 0 zs.toArray := by
    intro j hj
    have hj' : j < zs.length := by simpa using hj
    refine ⟨?_, by simp [World.frozen?, hb]⟩
    have h2 : (cur.toList.take zs.length)[j]? = (zs.map enc)[j]? := by rw [← hxs, ← htk, Nat.mul_one]
    rw [List.getElem?_take_of_lt hj'] at h2
    simp only [World.cell?, hb, Nat.zero_add]
    simp only [Option.isSome_none, Bool.false_eq_true, if_false]
    rw [← Array.getElem?_toList, h2]
    simp [hj']
  have hmu := st.mu 0 (.rows T 1 (zs.map (en1 enc))) g rfl rfl (.inl hLb)
  refine (h w g cap hH hg hnc).mono fun v w' ⟨hV, q, os, hw'⟩ => ?_
  have hheap : w'.heap[g]? = some (.cells (Sort.putCells enc 0 zs'.toArray cur) T (0, 0)) := by
    rw [hw', Sort.heap_grow_old _ _ (by simpa using hg)]
    simp [Sort.putRow, Sort.mapBlock, Sort.ahead, Array.getElem?_modify, hb, Sort.onCells]
  have hother : ∀ k, k < w.heap.size → k ≠ g → w'.heap[k]? = w.heap[k]? := fun k hk hne => by
    rw [hw', Sort.heap_grow_old _ _ (by simpa using hk)]
    have : g ≠ k := fun e => hne e.symm
    simp [Sort.putRow, Sort.mapBlock, Sort.ahead, Array.getElem?_modify, this]
  have hsize : w.heap.size ≤ w'.heap.size := by rw [hw']; simp
  have htake : (Sort.putCells enc 0 zs'.toArray cur).toList.take zs'.length = zs'.map enc := by
    apply List.ext_getElem?
    intro j
    by_cases hj : j < zs'.length
    · rw [List.getElem?_take_of_lt hj, Array.getElem?_toList]
      simp [Sort.putCells, hj, show j < cur.size by omega]
    · rw [List.getElem?_take_eq_none (by omega), List.getElem?_eq_none (by simp; omega)]
  have hFne : ∀ b, F b → b ≠ g := fun b hb e => hmu.1 (e ▸ hb)
  refine ⟨A, 1, σ, F, _, ⟨rfl, rfl, rfl⟩, ⟨?_, ?_, ?_, ?_, ?_, ?_, ?_⟩, ⟨Nat.le_refl _, fun _ _ => rfl, fun b hb => ⟨hb, hother b (st.fsub b hb).1 (hFne b hb)⟩, hsize⟩, hv w' σ F g cap v hσ hnc hV⟩
  · exact Glob.chg st.glob hsize fun b hb => hother b (Nat.lt_of_lt_of_le hb st.glob.1) (by omega)
  · refine ⟨by rw [hw']; rfl, by rw [hw']; rfl, by rw [hw']; rfl, hsize, fun k hk hm => hother k hk fun e => hm ⟨0, _, rfl, rfl, by rw [e]; exact .inl hLb⟩⟩
  · exact fun b hb => ⟨Nat.lt_of_lt_of_le (st.fsub b hb).1 hsize, .inl hb⟩
  · intro k b hk
    simp only [look] at hk
    cases hb0 : Nat.beq 0 k with
    | true => have := Nat.eq_of_beq_eq_true hb0; omega
    | false => rw [hb0, cond_false] at hk; cases hk
  · intro k b g' hk hm hg'
    simp only [look] at hk
    cases hb0 : Nat.beq 0 k with
    | true =>
      have := Nat.eq_of_beq_eq_true hb0
      subst this
      rw [hb0, cond_true] at hk
      injection hk with hk
      subst hk
      have hg' := hg'.flat rfl
      rw [hLb] at hg'
      injection hg' with hg'
      subst hg'
      exact ⟨hmu.1, hmu.2.1, Nat.lt_of_lt_of_le hg hsize, .inl ⟨0, _, rfl, rfl, .inl hLb⟩⟩
    | false => rw [hb0, cond_false] at hk; cases hk
  · intro k k' b b' g' hk hk' _ _ _ _
    simp only [look] at hk hk'
    cases hb0 : Nat.beq 0 k with
    | true =>
      cases hb1 : Nat.beq 0 k' with
      | true => rw [← Nat.eq_of_beq_eq_true hb0, ← Nat.eq_of_beq_eq_true hb1]
      | false => rw [hb1, cond_false] at hk'; cases hk'
    | false => rw [hb0, cond_false] at hk; cases hk
  · intro k b hk
    simp only [look] at hk
    cases hb0 : Nat.beq 0 k with
    | true =>
      have := Nat.eq_of_beq_eq_true hb0
      subst this
      rw [hb0, cond_true] at hk
      injection hk with hk
      subst hk
      refine ⟨hsz, by rw [List.length_map, hl]; exact hn, zs'.map enc, ⟨by simp, .inr ⟨g, cap, _, ?_, Nat.zero_le _, hheap, by rw [List.length_map]; omega, hcm, by simp [Sort.putCells, hcs], ?_⟩⟩, rep_en1 h1 zs'⟩
      · rw [hσ, List.length_map]; rfl
      · rw [List.length_map, Nat.mul_one]; exact htake
    | false => rw [hb0, cond_false] at hk; cases hk
end
end Go.Proofs.YtmnjmdajgilhiaaDoor.Ax
