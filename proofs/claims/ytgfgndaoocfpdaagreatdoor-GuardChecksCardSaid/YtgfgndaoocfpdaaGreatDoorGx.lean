/- Joined parts of the proof. What the argument of GuardChecks reads as: a rollout -/
import Derived.Test.YtgfgndaoocfpdaaGreatDoorQk21
set_option linter.unusedVariables false
set_option linter.unusedSimpArgs false
set_option maxRecDepth 100000
set_option maxHeartbeats 16000000
namespace Go.Proofs.YtgfgndaoocfpdaaGreatDoor.Cl
open Go Go.RowKit Go.Proofs Go.Proofs.YtgfgndaoocfpdaaGreatDoor.Vc Go.Proofs.YtgfgndaoocfpdaaGreatDoor.Ax
def rhsh : List Sh := [.n .i64, .s, .s, .n .i64, .n .i64, .n .i64, .n .i64, .n .i64, .n .i64]
def rosh : List Sh := [.s, .n .i64, .n .i64, .n .i64, .n .i64, .l 88 rhsh]
theorem s_inv {a : FV} (h : OkV .s a) : ∃ l : By, a = sF l ∧ l.length ≤ 140737488351232 := by
 cases h with
 | s x hx => exact ⟨x.data.toList, by unfold sF; simp, by simpa using hx⟩
theorem i_inv {a : FV} (h : OkV (.n .i64) a) : ∃ k : Int, a = iF k := by
 cases h with
 | n hw => exact ⟨_, rfl⟩
theorem rh_row (row : List FV) (h : OkR rhsh row) : ∃ x : Hl, row = hlF x ∧ (x.m.name.length ≤ 140737488355328 ∧ x.m.below.length ≤ 140737488355328) := by
 obtain ⟨a0, r, rfl, h0, h⟩ := h.cons_inv
 obtain ⟨a1, r, rfl, h1, h⟩ := h.cons_inv
 obtain ⟨a2, r, rfl, h2, h⟩ := h.cons_inv
 obtain ⟨a3, r, rfl, h3, h⟩ := h.cons_inv
 obtain ⟨a4, r, rfl, h4, h⟩ := h.cons_inv
 obtain ⟨a5, r, rfl, h5, h⟩ := h.cons_inv
 obtain ⟨a6, r, rfl, h6, h⟩ := h.cons_inv
 obtain ⟨a7, r, rfl, h7, h⟩ := h.cons_inv
 obtain ⟨a8, r, rfl, h8, h⟩ := h.cons_inv
 obtain rfl := h.nil_inv
 obtain ⟨k0, rfl⟩ := i_inv h0
 obtain ⟨k1, rfl, b1⟩ := s_inv h1
 obtain ⟨k2, rfl, b2⟩ := s_inv h2
 obtain ⟨k3, rfl⟩ := i_inv h3
 obtain ⟨k4, rfl⟩ := i_inv h4
 obtain ⟨k5, rfl⟩ := i_inv h5
 obtain ⟨k6, rfl⟩ := i_inv h6
 obtain ⟨k7, rfl⟩ := i_inv h7
 obtain ⟨k8, rfl⟩ := i_inv h8
 exact ⟨⟨⟨k0, k1, k2, k3, k4, k5, k6⟩, k7, k8⟩, rfl, by dsimp only; omega, by dsimp only; omega⟩
theorem ro_row {row : List FV} (h : OkR rosh row) : ∃ p : Pn, .agg (row.map FV.up) = pnA p ∧ p.exp.length ≤ 140737488355328 ∧ ∀ h ∈ p.health, h.m.name.length ≤ 140737488355328 ∧ h.m.below.length ≤ 140737488355328 := by
 obtain ⟨a0, r, rfl, h0, h⟩ := h.cons_inv
 obtain ⟨a1, r, rfl, h1, h⟩ := h.cons_inv
 obtain ⟨a2, r, rfl, h2, h⟩ := h.cons_inv
 obtain ⟨a3, r, rfl, h3, h⟩ := h.cons_inv
 obtain ⟨a4, r, rfl, h4, h⟩ := h.cons_inv
 obtain ⟨a5, r, rfl, h5, h⟩ := h.cons_inv
 obtain rfl := h.nil_inv
 obtain ⟨k0, rfl, b0⟩ := s_inv h0
 obtain ⟨k1, rfl⟩ := i_inv h1
 obtain ⟨k2, rfl⟩ := i_inv h2
 obtain ⟨k3, rfl⟩ := i_inv h3
 obtain ⟨k4, rfl⟩ := i_inv h4
 obtain ⟨rows, rfl, hrl, hr⟩ := h5.l_inv
 obtain ⟨l, rfl, hl⟩ := rows_mapG rh_row rows hr
 rw [List.length_map] at hrl
 exact ⟨⟨k0, k1, k2, k3, k4, l⟩, rfl, by dsimp only; omega, hl⟩
end Go.Proofs.YtgfgndaoocfpdaaGreatDoor.Cl
