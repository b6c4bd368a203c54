/- What a subject as argument reads as. No condition. -/
import Derived.Test.YthnncehddnfjmaaDoorHd5
import Derived.Test.YthnncehddnfjmaaDoorHdr
set_option linter.unusedVariables false
set_option linter.unusedSimpArgs false
namespace Go.Proofs.YthnncehddnfjmaaDoor.Dw
open Go Go.RowKit Go.Proofs.YthnncehddnfjmaaDoor.Vc Go.Proofs.YthnncehddnfjmaaDoor.Dg Go.Proofs.YthnncehddnfjmaaDoor.Ax
def ash : List Sh := [.s, .n .i64, .n .i64, .s, .l 16 [.s]]
def csh : List Sh := [.s, .s, .l 72 ash]
def ssh : List Sh := [.l 56 csh]
theorem rows_map {α : Type} {es : List Sh} {enc : α → List FV} {ok : α → Prop} (one : ∀ row, OkR es row → ∃ a, row = enc a ∧ ok a) : ∀ rows : List (List FV), (∀ row ∈ rows, OkR es row) → ∃ l : List α, rows = l.map enc ∧ ∀ a ∈ l, ok a := by
  intro rows
  induction rows with
  | nil => intro _; exact ⟨[], rfl, fun a h => by cases h⟩
  | cons r rs ih =>
    intro h
    obtain ⟨a, e, ha⟩ := one r (h r (by simp))
    obtain ⟨l, e2, hl⟩ := ih fun row hrow => h row (by simp [hrow])
    refine ⟨a :: l, by rw [e, e2]; rfl, fun b hb => ?_⟩
    rcases List.mem_cons.1 hb with rfl | hb
    · exact ha
    · exact hl b hb
theorem at_row (row : List FV) (h : OkR ash row) : ∃ a : Atr, row = enAt a ∧ a.ok := by
  obtain ⟨a, r, rfl, ha, h⟩ := h.cons_inv
  obtain ⟨b, r, rfl, hb, h⟩ := h.cons_inv
  obtain ⟨c, r, rfl, hc, h⟩ := h.cons_inv
  obtain ⟨d, r, rfl, hd, h⟩ := h.cons_inv
  obtain ⟨e, r, rfl, he, h⟩ := h.cons_inv
  obtain rfl := h.nil_inv
  obtain ⟨rows, rfl, hrl, _⟩ := he.l_inv
  cases ha with
  | s nm hnm =>
  cases hb with
  | n hb =>
  cases hc with
  | n hc =>
  cases hd with
  | s t ht => exact ⟨⟨nm, _, _, t, rows⟩, rfl, i64_lit hc, ht, hrl.2⟩
theorem cx_row (row : List FV) (h : OkR csh row) : ∃ c : Cx, row = enCx c ∧ c.ok := by
  obtain ⟨a, r, rfl, ha, h⟩ := h.cons_inv
  obtain ⟨b, r, rfl, hb, h⟩ := h.cons_inv
  obtain ⟨e, r, rfl, he, h⟩ := h.cons_inv
  obtain rfl := h.nil_inv
  obtain ⟨rows, rfl, hrl, hr⟩ := he.l_inv
  obtain ⟨l, rfl, hl⟩ := rows_map at_row rows hr
  rw [List.length_map] at hrl
  cases ha with
  | s kd hkd =>
  cases hb with
  | s ky hky => exact ⟨⟨kd, ky, l⟩, rfl, hky, hl, hrl.1⟩
theorem subj_row {row : List FV} (h : OkR ssh row) : ∃ s : List Cx, row = [.lst 3 (s.map enCx)] ∧ SOk s := by
  obtain ⟨e, r, rfl, he, h⟩ := h.cons_inv
  obtain rfl := h.nil_inv
  obtain ⟨rows, rfl, hrl, hr⟩ := he.l_inv
  obtain ⟨l, rfl, hl⟩ := rows_map cx_row rows hr
  rw [List.length_map] at hrl
  exact ⟨l, rfl, hl, hrl.1⟩
end Go.Proofs.YthnncehddnfjmaaDoor.Dw
