/- Joined parts of the proof. What the guard's laws' arguments read as: calls with many arguments, plans, rollouts -/
import Derived.Test.YtgfgndaoocfpdaaGreatDoorQk20
set_option linter.unusedVariables false
set_option linter.unusedSimpArgs false
set_option maxRecDepth 100000
set_option maxHeartbeats 16000000
namespace Go.Proofs.YtgfgndaoocfpdaaGreatDoor.Vc
open Go Go.RowKit Go.ChangeShapes
section
variable {H : Type} {enc : TypeId × Value → H} {P : Program} {w : World}
theorem trodAll_nine {base : Nat} {spare : Nat → Bool} {held : Bool} {t0 t1 t2 t3 t4 t5 t6 t7 t8 : TypeId} {args : Array Value} {ds : List (DataW H)} {ps : List MemPlace} (h : DataW.TrodAll enc P w base spare held [t0, t1, t2, t3, t4, t5, t6, t7, t8] args.toList ds ps) :
  ∃ v0 v1 v2 v3 v4 v5 v6 v7 v8 d0 d1 d2 d3 d4 d5 d6 d7 d8 p0 p1 p2 p3 p4 p5 p6 p7 p8, args = #[v0, v1, v2, v3, v4, v5, v6, v7, v8] ∧ ds = [d0, d1, d2, d3, d4, d5, d6, d7, d8] ∧ ps = p0 ++ p1 ++ p2 ++ p3 ++ p4 ++ p5 ++ p6 ++ p7 ++ p8 ∧ DataW.Trod enc P w base spare held t0 v0 d0 p0 ∧ DataW.Trod enc P w base spare held t1 v1 d1 p1 ∧ DataW.Trod enc P w base spare held t2 v2 d2 p2 ∧ DataW.Trod enc P w base spare held t3 v3 d3 p3 ∧ DataW.Trod enc P w base spare held t4 v4 d4 p4 ∧ DataW.Trod enc P w base spare held t5 v5 d5 p5 ∧ DataW.Trod enc P w base spare held t6 v6 d6 p6 ∧ DataW.Trod enc P w base spare held t7 v7 d7 p7 ∧ DataW.Trod enc P w base spare held t8 v8 d8 p8 := by
 obtain ⟨v0, w0, d0, e0, p0, q0, hargs, rfl, rfl, h0, r0⟩ := trodAll_cons h
 obtain ⟨v1, w1, d1, e1, p1, q1, rfl, rfl, rfl, h1, r1⟩ := trodAll_cons r0
 obtain ⟨v2, w2, d2, e2, p2, q2, rfl, rfl, rfl, h2, r2⟩ := trodAll_cons r1
 obtain ⟨v3, w3, d3, e3, p3, q3, rfl, rfl, rfl, h3, r3⟩ := trodAll_cons r2
 obtain ⟨v4, w4, d4, e4, p4, q4, rfl, rfl, rfl, h4, r4⟩ := trodAll_cons r3
 obtain ⟨v5, w5, d5, e5, p5, q5, rfl, rfl, rfl, h5, r5⟩ := trodAll_cons r4
 obtain ⟨v6, w6, d6, e6, p6, q6, rfl, rfl, rfl, h6, r6⟩ := trodAll_cons r5
 obtain ⟨v7, w7, d7, e7, p7, q7, rfl, rfl, rfl, h7, r7⟩ := trodAll_cons r6
 obtain ⟨v8, w8, d8, e8, p8, q8, rfl, rfl, rfl, h8, r8⟩ := trodAll_cons r7
 obtain ⟨rfl, rfl, rfl⟩ := trodAll_nil r8
 exact ⟨v0, v1, v2, v3, v4, v5, v6, v7, v8, d0, d1, d2, d3, d4, d5, d6, d7, d8, p0, p1, p2, p3, p4, p5, p6, p7, p8, by cases args; simp_all, rfl, by simp, h0, h1, h2, h3, h4, h5, h6, h7, h8⟩
theorem trodAll_twelve {base : Nat} {spare : Nat → Bool} {held : Bool} {t0 t1 t2 t3 t4 t5 t6 t7 t8 t9 t10 t11 : TypeId} {args : Array Value} {ds : List (DataW H)} {ps : List MemPlace} (h : DataW.TrodAll enc P w base spare held [t0, t1, t2, t3, t4, t5, t6, t7, t8, t9, t10, t11] args.toList ds ps) :
  ∃ v0 v1 v2 v3 v4 v5 v6 v7 v8 v9 v10 v11 d0 d1 d2 d3 d4 d5 d6 d7 d8 d9 d10 d11 p0 p1 p2 p3 p4 p5 p6 p7 p8 p9 p10 p11, args = #[v0, v1, v2, v3, v4, v5, v6, v7, v8, v9, v10, v11] ∧ ds = [d0, d1, d2, d3, d4, d5, d6, d7, d8, d9, d10, d11] ∧ ps = p0 ++ p1 ++ p2 ++ p3 ++ p4 ++ p5 ++ p6 ++ p7 ++ p8 ++ p9 ++ p10 ++ p11 ∧ DataW.Trod enc P w base spare held t0 v0 d0 p0 ∧ DataW.Trod enc P w base spare held t1 v1 d1 p1 ∧ DataW.Trod enc P w base spare held t2 v2 d2 p2 ∧ DataW.Trod enc P w base spare held t3 v3 d3 p3 ∧ DataW.Trod enc P w base spare held t4 v4 d4 p4 ∧ DataW.Trod enc P w base spare held t5 v5 d5 p5 ∧ DataW.Trod enc P w base spare held t6 v6 d6 p6 ∧ DataW.Trod enc P w base spare held t7 v7 d7 p7 ∧ DataW.Trod enc P w base spare held t8 v8 d8 p8 ∧ DataW.Trod enc P w base spare held t9 v9 d9 p9 ∧ DataW.Trod enc P w base spare held t10 v10 d10 p10 ∧ DataW.Trod enc P w base spare held t11 v11 d11 p11 := by
 obtain ⟨v0, w0, d0, e0, p0, q0, hargs, rfl, rfl, h0, r0⟩ := trodAll_cons h
 obtain ⟨v1, w1, d1, e1, p1, q1, rfl, rfl, rfl, h1, r1⟩ := trodAll_cons r0
 obtain ⟨v2, w2, d2, e2, p2, q2, rfl, rfl, rfl, h2, r2⟩ := trodAll_cons r1
 obtain ⟨v3, w3, d3, e3, p3, q3, rfl, rfl, rfl, h3, r3⟩ := trodAll_cons r2
 obtain ⟨v4, w4, d4, e4, p4, q4, rfl, rfl, rfl, h4, r4⟩ := trodAll_cons r3
 obtain ⟨v5, w5, d5, e5, p5, q5, rfl, rfl, rfl, h5, r5⟩ := trodAll_cons r4
 obtain ⟨v6, w6, d6, e6, p6, q6, rfl, rfl, rfl, h6, r6⟩ := trodAll_cons r5
 obtain ⟨v7, w7, d7, e7, p7, q7, rfl, rfl, rfl, h7, r7⟩ := trodAll_cons r6
 obtain ⟨v8, w8, d8, e8, p8, q8, rfl, rfl, rfl, h8, r8⟩ := trodAll_cons r7
 obtain ⟨v9, w9, d9, e9, p9, q9, rfl, rfl, rfl, h9, r9⟩ := trodAll_cons r8
 obtain ⟨v10, w10, d10, e10, p10, q10, rfl, rfl, rfl, h10, r10⟩ := trodAll_cons r9
 obtain ⟨v11, w11, d11, e11, p11, q11, rfl, rfl, rfl, h11, r11⟩ := trodAll_cons r10
 obtain ⟨rfl, rfl, rfl⟩ := trodAll_nil r11
 exact ⟨v0, v1, v2, v3, v4, v5, v6, v7, v8, v9, v10, v11, d0, d1, d2, d3, d4, d5, d6, d7, d8, d9, d10, d11, p0, p1, p2, p3, p4, p5, p6, p7, p8, p9, p10, p11, by cases args; simp_all, rfl, by simp, h0, h1, h2, h3, h4, h5, h6, h7, h8, h9, h10, h11⟩
end
end Go.Proofs.YtgfgndaoocfpdaaGreatDoor.Vc
namespace Go.Proofs.YtgfgndaoocfpdaaGreatDoor.Cl
open Go Go.RowKit Go.Proofs Go.Proofs.YtgfgndaoocfpdaaGreatDoor.Vc Go.Proofs.YtgfgndaoocfpdaaGreatDoor.Ax
def llsh : List Sh := [.l 1 [.n .u8], .n .i16, .n .i16]
def lpsh : List Sh := [.n .u8, .n .u8, .n .u8, .n .u8, .n .u8, .l 32 llsh]
theorem rows_mapG {α : Type} {es : List Sh} {enc : α → List FV} {ok : α → Prop} (one : ∀ row, OkR es row → ∃ a, row = enc a ∧ ok a) : ∀ rows : List (List FV), (∀ row ∈ rows, OkR es row) → ∃ l : List α, rows = l.map enc ∧ ∀ a ∈ l, ok a := by
 intro rows
 induction rows with
 | nil => intro _; exact ⟨[], rfl, fun a h => by cases h⟩
 | cons r rs ih =>
  intro h
  obtain ⟨a, e, ha⟩ := one r (h r (by simp))
  obtain ⟨l, e2, hl⟩ := ih fun row hrow => h row (by simp [hrow])
  refine ⟨a :: l, by rw [e, e2]; rfl, fun b hb => ?_⟩
  rcases List.mem_cons.1 hb with rfl | hb
  ·exact ha
  ·exact hl b hb
theorem u8_inv {a : FV} (h : OkV (.n .u8) a) : ∃ k : Nat, a = .v (.int .u8 k) ∧ k < 256 := by
 cases h with
 | n hw => obtain ⟨k, rfl, hk⟩ := u8_of hw; exact ⟨k, rfl, hk⟩
theorem by_inv {a : FV} {b : Nat} (h : OkV (.l b [.n .u8]) a) : ∃ l : By, a = .lst 1 (l.map enB) := by
 obtain ⟨rows, rfl, _, hr⟩ := h.l_inv
 obtain ⟨l, rfl, _⟩ := rows_mapG (α := UInt8) (enc := enB) (ok := fun _ => True) (fun row h => by
  obtain ⟨a, r, rfl, ha, h⟩ := h.cons_inv
  obtain rfl := h.nil_inv
  obtain ⟨k, rfl, hk⟩ := u8_inv ha
  exact ⟨UInt8.ofNat k, by unfold enB; rw [toNat_ofNat hk], trivial⟩) rows hr
 exact ⟨l, rfl⟩
theorem ll_row (row : List FV) (h : OkR llsh row) : ∃ x : LL, row = llF x ∧ ((-32768 ≤ x.lo ∧ x.lo ≤ 32767) ∧ (-32768 ≤ x.hi ∧ x.hi ≤ 32767)) := by
 obtain ⟨a, r, rfl, ha, h⟩ := h.cons_inv
 obtain ⟨b, r, rfl, hb, h⟩ := h.cons_inv
 obtain ⟨c, r, rfl, hc, h⟩ := h.cons_inv
 obtain rfl := h.nil_inv
 obtain ⟨m, rfl⟩ := by_inv ha
 cases hb with
 | n hb =>
 cases hc with
 | n hc => exact ⟨⟨m, _, _⟩, rfl, i16_of hb, i16_of hc⟩
theorem lp_row {row : List FV} (h : OkR lpsh row) : ∃ p : LP, .agg (row.map FV.up) = lpA p ∧ LpZ p := by
 obtain ⟨a0, r, rfl, h0, h⟩ := h.cons_inv
 obtain ⟨a1, r, rfl, h1, h⟩ := h.cons_inv
 obtain ⟨a2, r, rfl, h2, h⟩ := h.cons_inv
 obtain ⟨a3, r, rfl, h3, h⟩ := h.cons_inv
 obtain ⟨a4, r, rfl, h4, h⟩ := h.cons_inv
 obtain ⟨a5, r, rfl, h5, h⟩ := h.cons_inv
 obtain rfl := h.nil_inv
 obtain ⟨k0, rfl, b0⟩ := u8_inv h0
 obtain ⟨k1, rfl, b1⟩ := u8_inv h1
 obtain ⟨k2, rfl, b2⟩ := u8_inv h2
 obtain ⟨k3, rfl, b3⟩ := u8_inv h3
 obtain ⟨k4, rfl, b4⟩ := u8_inv h4
 obtain ⟨rows, rfl, hrl, hr⟩ := h5.l_inv
 obtain ⟨l, rfl, hl⟩ := rows_mapG ll_row rows hr
 rw [List.length_map] at hrl
 exact ⟨⟨k0, k1, k2, k3, k4, l⟩, rfl, b0, b1, b2, b3, b4, by have := hrl.2; dsimp only; omega, hl⟩
end Go.Proofs.YtgfgndaoocfpdaaGreatDoor.Cl
