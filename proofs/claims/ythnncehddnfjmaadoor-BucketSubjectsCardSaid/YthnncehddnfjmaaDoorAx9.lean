/- From a law's walk over abstract values to the first engine's contract: arguments in memory, the answer true. No condition. -/
import Derived.Test.YthnncehddnfjmaaDoorAx8
set_option linter.unusedVariables false
set_option linter.unusedSimpArgs false
namespace Go.Proofs.YthnncehddnfjmaaDoor.Ax
open Go Go.RowKit Go.Proofs.YthnncehddnfjmaaDoor.Vc

variable {P : Program} {G : Glob}
/-- everything that stands in memory at a law's beginning may be read -/
def Here (w : World) (b : Nat) : Prop := b < w.heap.size
def loc0 : Nat → Loc := fun _ => ⟨none, 0, 0, 0⟩
theorem ret_of_afn {f : FuncId} {args : List AV} {x : Value} (h : AFn P G f args 0 [] (Is (.v x))) (w : World) (hG : G.holds w) (vs : List Value) (r : RepL 0 loc0 (Here w) w args vs) : Ret P f vs.toArray w fun v w' => v = x ∧ Below w.heap.size w w' := by
  have st : St G w (Mut w loc0 []) (Here w) 0 loc0 (Here w) [] w := ⟨hG, Chg.refl _ _, fun b hb => ⟨hb, .inl hb⟩, (fun ell b h => by cases h), (fun ell b g h => by cases h), (fun ell ell' b b' g h => by cases h), (fun ell b h => by cases h)⟩
  refine (h w loc0 (Here w) vs st r).mono fun v w' ⟨a, n', σ', F', H', ⟨ha, _, _⟩, s, _, ra⟩ => ?_
  subst ha
  refine ⟨ra.v_eq, s.chg.os, s.chg.tape, s.chg.output, s.chg.size, fun k hk => s.chg.block k hk fun ⟨_, _, hm, _⟩ => by cases hm⟩
theorem seg_at {α : Type} {c : α → List Value} {k : Nat} (hk : ∀ a, (c a).length = k) {l : List α} {i j : Nat} {a : α} {v : Value} (hi : l[i]? = some a) (hj : (c a)[j]? = some v) : (recs c l)[i * k + j]? = some v := by
  obtain ⟨h, rfl⟩ := List.getElem?_eq_some_iff.1 hi
  exact recs_seg hk l i h j v hj
theorem frep_flat {α : Type} {F : Nat → Prop} {w : World} {sz : Nat} {enc : α → List FV} {c : α → List Value} (he : ∀ x, enc x = (c x).map .v) (hk : ∀ a, (c a).length = sz) (h1 : ∀ a, ∀ v ∈ c a, v.oneCell' = true) {l : List α} {oa : Option Addr} {cap : Nat} (hc : l.length ≤ cap) (hnil : oa = none → cap = 0) (hr : Row w oa (recs c l)) (hF : ∀ b, b < w.heap.size → F b) (hz : 0 < sz) :
    FRep F w (.lst sz (l.map enc)) (.slice oa l.length cap) := by
  have hlen : ∀ row ∈ l.map enc, row.length = sz := fun row hrow => by
    obtain ⟨a, _, rfl⟩ := List.mem_map.1 hrow
    rw [he, List.length_map, hk]
  rcases Nat.eq_zero_or_pos l.length with h0 | h0
  · have hl : l = [] := List.eq_nil_of_length_eq_zero h0
    subst hl
    exact .lst sz [] oa 0 cap 0 0 rfl hc hnil (fun h => absurd h (Nat.lt_irrefl 0)) (fun row hr => by cases hr) (fun i j hi => absurd hi (Nat.not_lt_zero i)) (fun i j row a v hi => by simp at hi)
  · rcases hr with hr | ⟨b, o, rfl, hb, hcell⟩
    · have := recs_len hk l
      rw [hr, List.length_nil] at this
      have := Nat.mul_pos h0 hz
      omega
    · have row : ∀ i j, i < l.length → j < sz → ∃ a v, l[i]? = some a ∧ (c a)[j]? = some v ∧ w.cell? ⟨b, o + (i * sz + j), none⟩ = some v := fun i j hi hj => by
        have hjl : j < (c l[i]).length := by rw [hk]; exact hj
        exact ⟨l[i], (c l[i])[j], List.getElem?_eq_getElem hi, List.getElem?_eq_getElem hjl, hcell _ _ (seg_at hk (List.getElem?_eq_getElem hi) (List.getElem?_eq_getElem hjl))⟩
      refine .lst sz (l.map enc) _ l.length cap b o (by rw [List.length_map]) hc hnil (fun _ => ⟨rfl, hF b hb⟩) hlen (fun i j hi hj => ?_) (fun i j rw_ a v hi hj hv => ?_)
      · obtain ⟨a, v, _, h2, h3⟩ := row i j hi hj
        exact ⟨v, h3, h1 a v (List.mem_of_getElem? h2)⟩
      · rw [List.getElem?_map] at hi
        cases hl : l[i]? with
        | none => rw [hl] at hi; cases hi
        | some x =>
          rw [hl] at hi
          simp only [Option.map_some, Option.some.injEq] at hi
          subst hi
          have hil := (List.getElem?_eq_some_iff.1 hl).1
          have hjs : j < sz := by have := (List.getElem?_eq_some_iff.1 hj).1; rw [he, List.length_map, hk] at this; exact this
          obtain ⟨a', v', h4, h5, h6⟩ := row i j hil hjs
          rw [hl] at h4
          injection h4 with h4
          subst h4
          rw [he, List.getElem?_map, h5] at hj
          simp only [Option.map_some, Option.some.injEq] at hj
          rw [h6] at hv
          injection hv with hv
          subst hv; subst hj
          exact .v _
end Go.Proofs.YthnncehddnfjmaaDoor.Ax
