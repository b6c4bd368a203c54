/- Sizes of what arguments read as, and slices of structs. No condition. -/
import Derived.Test.YthnncehddnfjmaaDoorAx9
import Derived.Test.YthnncehddnfjmaaDoorVc7
import Derived.OpenShut
import Derived.Stop.Joined
set_option linter.unusedVariables false
set_option linter.unusedSimpArgs false
namespace Go.Proofs.YthnncehddnfjmaaDoor.Vc
open Go Go.RowKit Go.Proofs.YthnncehddnfjmaaDoor.Ax

section
variable {H : Type} {enc : TypeId × Value → H} {w : World}
theorem each_ok {P : Program} : ∀ {ts : List TypeId} {ds : List (DataW H)} {B : Nat}, (∀ x ∈ DataW.weightsEach P ts ds, x ≤ B) → ∀ (j : Nat) t d, ts[j]? = some t → ds[j]? = some d → ∀ x ∈ d.weights P t, x ≤ B := by
  intro ts
  induction ts with
  | nil => intro ds B _ j t d h; simp at h
  | cons t ts ih =>
    intro ds B h j u d h1 h2
    cases ds with
    | nil => simp at h2
    | cons e ds =>
      simp only [DataW.weightsEach, List.mem_append] at h
      cases j with
      | zero =>
        simp only [List.getElem?_cons_zero, Option.some.injEq] at h1 h2
        subst h1; subst h2
        exact fun x hx => h x (.inl hx)
      | succ j => exact ih (fun x hx => h x (.inr hx)) j u d (by simpa using h1) (by simpa using h2)
theorem strW_ok {P : Program} {t : TypeId} {s : ByteArray} (h : ∀ x ∈ (DataW.lit (.string s.data.toList) : DataW H).weights P t, x ≤ reachBytes) : s.size ≤ 140737488355328 := by
  have h1 := h s.data.toList.length (by simp [DataW.weights])
  have h2 : s.data.toList.length = s.size := by simp
  have h3 : reachBytes = 140737488351232 := rfl
  omega
/-- the elements of a slice, each with its datum -/
theorem rows_of {P : Program} {α : Type} {c : α → List Value} {ok : α → Prop} {e : TypeId} (one : ∀ cs (d : DataW H), RdD enc P w e cs d → (∀ x ∈ d.weights P e, x ≤ reachBytes) → ∃ k : α, cs = c k ∧ ok k) :
    ∀ (css : List (List Value)) (ds : List (DataW H)), ds.length = css.length → (∀ (i : Nat) c d', css[i]? = some c → ds[i]? = some d' → RdD enc P w e c d') → (∀ x ∈ DataW.weightsAll P e ds, x ≤ reachBytes) → ∃ l : List α, l.length = css.length ∧ css.flatten = recs c l ∧ ∀ k ∈ l, ok k := by
  intro css
  induction css with
  | nil => intro ds _ _ _; exact ⟨[], rfl, rfl, fun k h => by cases h⟩
  | cons a css ih =>
    intro ds hl h hB
    cases ds with
    | nil => simp at hl
    | cons d ds =>
      simp only [DataW.weightsAll, List.mem_append] at hB
      obtain ⟨k, e1, hk⟩ := one a d (h 0 a d rfl rfl) fun x hx => hB x (.inl hx)
      obtain ⟨l, h1, h2, h3⟩ := ih ds (by simpa using hl) (fun i c d' hc hd => h (i + 1) c d' (by simpa using hc) (by simpa using hd)) fun x hx => hB x (.inr hx)
      refine ⟨k :: l, by simp [h1], by rw [List.flatten_cons, h2, e1]; rfl, fun y hy => ?_⟩
      rcases List.mem_cons.1 hy with rfl | hy
      · exact hk
      · exact h3 y hy
theorem slice_w {P : Program} {t e : TypeId} {d : DataW H} {ds : List (DataW H)} {len : Nat} (hu : P.underlying t = some (.slice e)) (hdl : ds.length = len) (hd : (d = .nil ∧ len = 0) ∨ ∃ rest, d = .slice ds rest) (hB : ∀ x ∈ d.weights P t, x ≤ reachBytes) :
    ∀ x ∈ DataW.weightsAll P e ds, x ≤ reachBytes := by
  rcases hd with ⟨_, h0⟩ | ⟨rest, rfl⟩
  · have : ds = [] := List.eq_nil_of_length_eq_zero (by omega)
    subst this
    intro x hx; simp [DataW.weightsAll] at hx
  · intro x hx
    refine hB x ?_
    simp only [DataW.weights, hu, List.mem_cons, List.mem_append]
    exact .inr (.inl hx)
end
end Go.Proofs.YthnncehddnfjmaaDoor.Vc
