/- Joined parts of the proof. The walk of the library's Len64 -/
import Derived.Test.YtgfgndaoocfpdaaGreatDoorPk12
import Derived.Test.YtgfgndaoocfpdaaGreatDoorPk10
import Derived.Test.YtgfgndaoocfpdaaGreatDoorProg
import Derived.Test.YtgfgndaoocfpdaaGreatDoorPk11
import Derived.Test.YtgfgndaoocfpdaaGreatDoorPk13
set_option linter.unusedVariables false
set_option linter.unusedSimpArgs false
set_option maxRecDepth 100000
set_option maxHeartbeats 16000000
namespace Go.Proofs.YtgfgndaoocfpdaaGreatDoor.Cl
open Go Go.RowKit Go.Proofs Go.Proofs.YtgfgndaoocfpdaaGreatDoor.Vc Go.Proofs.YtgfgndaoocfpdaaGreatDoor.Ax
attribute [local irreducible] loadVar storeVar Instr.indexAt Instr.index Instr.sliceAt Instr.makeSlice Instr.lookup Instr.mapUpdate Instr.range Instr.next Instr.entry Instr.makeMap Builtin.append_ Builtin.copy_ Builtin.len_ Builtin.min_ Builtin.max_ Builtin.cap_ Builtin.delete_ Builtin.clear_ convert binOp eqGuard Op.unary Calls
def l8 : List UInt8 := [0, 1, 2, 2, 3, 3, 3, 3, 4, 4, 4, 4, 4, 4, 4, 4, 5, 5, 5, 5, 5, 5, 5, 5, 5, 5, 5, 5, 5, 5, 5, 5, 6, 6, 6, 6, 6, 6, 6, 6, 6, 6, 6, 6, 6, 6, 6, 6, 6, 6, 6, 6, 6, 6, 6, 6, 6, 6, 6, 6, 6, 6, 6, 6, 7, 7, 7, 7, 7, 7, 7, 7, 7, 7, 7, 7, 7, 7, 7, 7, 7, 7, 7, 7, 7, 7, 7, 7, 7, 7, 7, 7, 7, 7, 7, 7, 7, 7, 7, 7, 7, 7, 7, 7, 7, 7, 7, 7, 7, 7, 7, 7, 7, 7, 7, 7, 7, 7, 7, 7, 7, 7, 7, 7, 7, 7, 7, 7, 8, 8, 8, 8, 8, 8, 8, 8, 8, 8, 8, 8, 8, 8, 8, 8, 8, 8, 8, 8, 8, 8, 8, 8, 8, 8, 8, 8, 8, 8, 8, 8, 8, 8, 8, 8, 8, 8, 8, 8, 8, 8, 8, 8, 8, 8, 8, 8, 8, 8, 8, 8, 8, 8, 8, 8, 8, 8, 8, 8, 8, 8, 8, 8, 8, 8, 8, 8, 8, 8, 8, 8, 8, 8, 8, 8, 8, 8, 8, 8, 8, 8, 8, 8, 8, 8, 8, 8, 8, 8, 8, 8, 8, 8, 8, 8, 8, 8, 8, 8, 8, 8, 8, 8, 8, 8, 8, 8, 8, 8, 8, 8, 8, 8, 8, 8, 8, 8, 8, 8, 8, 8, 8, 8, 8, 8, 8, 8]
theorem l8_at : ∀ j, j < 256 → (l8.getD j 0).toNat = wid 8 j := by decide
theorem wid_low : ∀ (f u : Nat), u < 2 ^ f → 0 < u → 0 < wid f u ∧ 2 ^ (wid f u - 1) ≤ u := by
 intro f
 induction f with
 | zero => intro u h h0; simp at h; omega
 | succ f ih =>
  intro u h h0
  unfold wid
  rw [if_neg (by omega)]
  refine ⟨by omega, ?_⟩
  rw [Nat.add_sub_cancel]
  rcases Nat.eq_zero_or_pos (u / 2) with e | e
  ·rw [e]
   have : wid f 0 = 0 := by cases f <;> simp [wid]
   rw [this]; simp; omega
  ·have := ih (u / 2) (by rw [Nat.pow_succ] at h; omega) e
   obtain ⟨w, hw⟩ : ∃ w, wid f (u / 2) = w + 1 := ⟨wid f (u / 2) - 1, by omega⟩
   rw [hw] at this ⊢
   rw [Nat.add_sub_cancel] at this
   rw [Nat.pow_succ]
   omega
theorem wid_uniq {f u w : Nat} (hu : u < 2 ^ f) (h1 : u < 2 ^ w) (h2 : w = 0 ∨ 2 ^ (w - 1) ≤ u) : wid f u = w := by
 have h3 := wid_min f u w h1
 rcases Nat.lt_or_ge (wid f u) w with h | h
 ·exfalso
  have h4 := (wid_spec f u hu).1
  have h5 : 2 ^ (wid f u) ≤ 2 ^ (w - 1) := Nat.pow_le_pow_right (by decide) (by omega)
  omega
 ·omega
theorem wid_leaf {u : Nat} (hu : u < 18446744073709551616) (s : Nat) (h8 : u / 2 ^ s < 256) (h1 : s = 0 ∨ 1 ≤ u / 2 ^ s) : wid 64 u = s + wid 8 (u / 2 ^ s) := by
 have h2 := wid_spec 8 (u / 2 ^ s) h8
 refine wid_uniq hu ?_ ?_
 ·rw [Nat.pow_add]
  have := (Nat.div_lt_iff_lt_mul (Nat.pow_pos (by decide) : 0 < 2 ^ s)).1 h2.1
  rwa [Nat.mul_comm] at this
 ·rcases Nat.eq_zero_or_pos (u / 2 ^ s) with h0 | h0
  ·left; rw [h0]; have : s = 0 := by omega
   subst this; decide
  ·right
   have h3 := wid_low 8 _ h8 h0
   obtain ⟨w, hw⟩ : ∃ w, wid 8 (u / 2 ^ s) = w + 1 := ⟨wid 8 (u / 2 ^ s) - 1, by omega⟩
   rw [hw] at h3 ⊢
   rw [Nat.add_sub_cancel] at h3
   rw [show s + (w + 1) - 1 = s + w by omega, Nat.pow_add]
   exact Nat.le_trans (Nat.mul_le_mul_left _ h3.2) (Nat.mul_div_le u _)
theorem shrk (u s : Nat) (hs : s ≤ 64) : Int.fdiv (u : Int) (2 ^ min (Int.toNat (s : Int)) IntKind.u64.bits) = ((u / 2 ^ s : Nat) : Int) := by
 have e : IntKind.u64.bits = 64 := rfl
 rw [e, Int.toNat_natCast, Nat.min_eq_left hs, Int.fdiv_eq_ediv_of_nonneg _ (by exact Int.pow_nonneg (by decide))]
 simp
theorem shr32 (u : Nat) : Int.fdiv (u : Int) (2 ^ min (Int.toNat 32) IntKind.u64.bits) = ((u / 4294967296 : Nat) : Int) := shrk u 32 (by decide)
theorem shr16 (u : Nat) : Int.fdiv (u : Int) (2 ^ min (Int.toNat 16) IntKind.u64.bits) = ((u / 65536 : Nat) : Int) := shrk u 16 (by decide)
theorem shr8 (u : Nat) : Int.fdiv (u : Int) (2 ^ min (Int.toNat 8) IntKind.u64.bits) = ((u / 256 : Nat) : Int) := shrk u 8 (by decide)
theorem leaf {u v : Nat} (hu : u < 18446744073709551616) (s : Nat) (hv : v = u / 2 ^ s) (h8 : v < 256) (h1 : s = 0 ∨ 1 ≤ v) : wid 64 u = s + wid 8 v := by
 subst hv; exact wid_leaf hu s h8 h1
theorem l8_wr {j : Nat} (h : j < 256) : IntKind.i64.wrap (((l8.getD j 0).toNat : Nat) : Int) = (wid 8 j : Int) := by
 rw [l8_at j h]
 have := (wid_spec 8 j h).2
 exact IntWalk.i64_in _ (by omega)
theorem len64A (u : Nat) (hu : u < 18446744073709551616) : AFn Tryz.prog GC 131 [uv u] 0 [] (Is (iv (wid 64 u))) := by
 refine afn_of Tryz.func131 rfl mixed (by kernel_rfl) ?_
 conv=>whnf
 refine vif_split (fun h1 => ?_) (fun h1 => ?_) <;> (simp at h1; conv=>whnf)
 ·refine VReq.mk (by decide) ?_
  rw [shr32]
  conv=>whnf
  refine vif_split (fun h2 => ?_) (fun h2 => ?_) <;> (simp at h2; conv=>whnf)
  refine VReq.mk (by decide) ?_
  rw [shr16]
  conv=>whnf
  refine AAr.i64 (by omega) ?_
  conv=>whnf
  refine vif_split (fun h3 => ?_) (fun h3 => ?_) <;> (simp at h3; conv=>whnf)
  ·refine VReq.mk (by decide) ?_
   rw [shr8]
   conv=>whnf
   refine AAr.i64 (by omega) ?_
   conv=>whnf
   refine AAr.to (wr_u8 (by omega)) ?_
   conv=>whnf
   refine AIn.mk' _ rfl (by show _ < 256; omega) ?_
   conv=>whnf
   refine AAr.to (l8_wr (by omega)) ?_
   conv=>whnf
   refine AAr.to (y := (wid 64 u : Int)) (by
    have hw := wid_spec 64 u hu
    have := leaf (v := u / 4294967296 / 65536 / 256) hu 56 (by first | rfl | (show _ = u / 72057594037927936; omega)) (by omega) (by omega)
    rw [IntWalk.i64_in _ (by omega)]; omega) ?_
   conv=>whnf
   exact aret [] (by repeat' (first | rfl | trivial | apply And.intro))
  ·skip
   refine AAr.to (wr_u8 (by omega)) ?_
   conv=>whnf
   refine AIn.mk' _ rfl (by show _ < 256; omega) ?_
   conv=>whnf
   refine AAr.to (l8_wr (by omega)) ?_
   conv=>whnf
   refine AAr.to (y := (wid 64 u : Int)) (by
    have hw := wid_spec 64 u hu
    have := leaf (v := u / 4294967296 / 65536) hu 48 (by first | rfl | (show _ = u / 281474976710656; omega)) (by omega) (by omega)
    rw [IntWalk.i64_in _ (by omega)]; omega) ?_
   conv=>whnf
   exact aret [] (by repeat' (first | rfl | trivial | apply And.intro))
  refine vif_split (fun h3 => ?_) (fun h3 => ?_) <;> (simp at h3; conv=>whnf)
  ·refine VReq.mk (by decide) ?_
   rw [shr8]
   conv=>whnf
   refine AAr.i64 (by omega) ?_
   conv=>whnf
   refine AAr.to (wr_u8 (by omega)) ?_
   conv=>whnf
   refine AIn.mk' _ rfl (by show _ < 256; omega) ?_
   conv=>whnf
   refine AAr.to (l8_wr (by omega)) ?_
   conv=>whnf
   refine AAr.to (y := (wid 64 u : Int)) (by
    have hw := wid_spec 64 u hu
    have := leaf (v := u / 4294967296 / 256) hu 40 (by first | rfl | (show _ = u / 1099511627776; omega)) (by omega) (by omega)
    rw [IntWalk.i64_in _ (by omega)]; omega) ?_
   conv=>whnf
   exact aret [] (by repeat' (first | rfl | trivial | apply And.intro))
  ·skip
   refine AAr.to (wr_u8 (by omega)) ?_
   conv=>whnf
   refine AIn.mk' _ rfl (by show _ < 256; omega) ?_
   conv=>whnf
   refine AAr.to (l8_wr (by omega)) ?_
   conv=>whnf
   refine AAr.to (y := (wid 64 u : Int)) (by
    have hw := wid_spec 64 u hu
    have := leaf (v := u / 4294967296) hu 32 (by first | rfl | (show _ = u / 4294967296; omega)) (by omega) (by omega)
    rw [IntWalk.i64_in _ (by omega)]; omega) ?_
   conv=>whnf
   exact aret [] (by repeat' (first | rfl | trivial | apply And.intro))
 ·refine vif_split (fun h2 => ?_) (fun h2 => ?_) <;> (simp at h2; conv=>whnf)
  refine VReq.mk (by decide) ?_
  rw [shr16]
  conv=>whnf
  refine AAr.i64 (by omega) ?_
  conv=>whnf
  refine vif_split (fun h3 => ?_) (fun h3 => ?_) <;> (simp at h3; conv=>whnf)
  ·refine VReq.mk (by decide) ?_
   rw [shr8]
   conv=>whnf
   refine AAr.i64 (by omega) ?_
   conv=>whnf
   refine AAr.to (wr_u8 (by omega)) ?_
   conv=>whnf
   refine AIn.mk' _ rfl (by show _ < 256; omega) ?_
   conv=>whnf
   refine AAr.to (l8_wr (by omega)) ?_
   conv=>whnf
   refine AAr.to (y := (wid 64 u : Int)) (by
    have hw := wid_spec 64 u hu
    have := leaf (v := u / 65536 / 256) hu 24 (by first | rfl | (show _ = u / 16777216; omega)) (by omega) (by omega)
    rw [IntWalk.i64_in _ (by omega)]; omega) ?_
   conv=>whnf
   exact aret [] (by repeat' (first | rfl | trivial | apply And.intro))
  ·skip
   refine AAr.to (wr_u8 (by omega)) ?_
   conv=>whnf
   refine AIn.mk' _ rfl (by show _ < 256; omega) ?_
   conv=>whnf
   refine AAr.to (l8_wr (by omega)) ?_
   conv=>whnf
   refine AAr.to (y := (wid 64 u : Int)) (by
    have hw := wid_spec 64 u hu
    have := leaf (v := u / 65536) hu 16 (by first | rfl | (show _ = u / 65536; omega)) (by omega) (by omega)
    rw [IntWalk.i64_in _ (by omega)]; omega) ?_
   conv=>whnf
   exact aret [] (by repeat' (first | rfl | trivial | apply And.intro))
  refine vif_split (fun h3 => ?_) (fun h3 => ?_) <;> (simp at h3; conv=>whnf)
  ·refine VReq.mk (by decide) ?_
   rw [shr8]
   conv=>whnf
   refine AAr.i64 (by omega) ?_
   conv=>whnf
   refine AAr.to (wr_u8 (by omega)) ?_
   conv=>whnf
   refine AIn.mk' _ rfl (by show _ < 256; omega) ?_
   conv=>whnf
   refine AAr.to (l8_wr (by omega)) ?_
   conv=>whnf
   refine AAr.to (y := (wid 64 u : Int)) (by
    have hw := wid_spec 64 u hu
    have := leaf (v := u / 256) hu 8 (by first | rfl | (show _ = u / 256; omega)) (by omega) (by omega)
    rw [IntWalk.i64_in _ (by omega)]; omega) ?_
   conv=>whnf
   exact aret [] (by repeat' (first | rfl | trivial | apply And.intro))
  ·skip
   refine AAr.to (wr_u8 (by omega)) ?_
   conv=>whnf
   refine AIn.mk' _ rfl (by show _ < 256; omega) ?_
   conv=>whnf
   refine AAr.to (l8_wr (by omega)) ?_
   conv=>whnf
   refine AAr.to (y := (wid 64 u : Int)) (by
    have hw := wid_spec 64 u hu
    have := leaf (v := u) hu 0 (by first | rfl | (show _ = u / 1; omega)) (by omega) (by omega)
    rw [IntWalk.i64_in _ (by omega)]; omega) ?_
   conv=>whnf
   exact aret [] (by repeat' (first | rfl | trivial | apply And.intro))
theorem afn_pair {f : FuncId} {l : List Value} {x y : Value} (h : ∀ w, Ret Tryz.prog f l.toArray w fun v w' => v = .tuple #[x, y] ∧ Below w.heap.size w w') : AFn Tryz.prog GC f (l.map .v) 0 [] (Is (.tup [.v x, .v y])) := by
 intro w σ F vs st r
 refine (afn_of_ret (G := GC) (x := .tuple #[x, y]) (fun w _ => h w) w σ F vs st r).mono fun v w' ⟨a, n', σ', F', H', ⟨e1, e2, e3⟩, s, x', ra⟩ => ?_
 subst e1; subst e2; subst e3
 refine ⟨.tup [.v x, .v y], 0, σ', F', [], ⟨rfl, rfl, rfl⟩, s, x', ?_⟩
 rw [ra.v_eq]
 exact RepL.tup («as» := [.v x, .v y]) (vs := [x, y]) ⟨.v _, .v _, trivial⟩
section
open Go.Proofs.YtgfgndaoocfpdaaGreatDoor.Id
theorem wrU (x : Int) : IntKind.u64.wrap x = x % 18446744073709551616 := by
 have e : IntKind.u64.bits = 64 := rfl
 have s : IntKind.u64.signed = false := rfl
 simp only [IntKind.wrap, e, s, Bool.false_and, Bool.false_eq_true, if_false]
 rfl
section
variable {G : Glob}
theorem mul64A (x y : Nat) (hx : x < 18446744073709551616) (hy : y < 18446744073709551616) : AFn Tryz.prog G 94 [uv x, uv y] 0 [] (Is (.tup [uv (x * y / 18446744073709551616), uv (x * y % 18446744073709551616)])) :=
 AFn.up (afn_pair (l := [.int .u64 (x : Int), .int .u64 (y : Int)]) fun w => Calls.mono (Tryz.bits_Mul64 x y hx hy w) fun e w' ⟨h1, h2⟩ => ⟨_, h1, rfl, by rw [h2]; exact Below.refl _ _⟩) G
theorem lz64A (u : Nat) (hu : u < 18446744073709551616) : AFn Tryz.prog G 118 [uv u] 0 [] (Is (iv ((64 - wid 64 u : Nat) : Int))) := by
 have h := (wid_spec 64 u hu).2
 refine afn_of Tryz.func118 rfl mixed (by kernel_rfl) ?_
 conv=>whnf
 (refine acall [] (by kernel_rfl) (AFn.up (len64A u hu) G) rfl ?_ ?_; (focus (repeat' (first | rfl | trivial | apply And.intro))))
 conv=>whnf
 refine AAr.i64 (by omega) ?_
 conv=>whnf
 exact aret [] (ciZ (by omega))
theorem dv_norm {y : Nat} (h0 : 0 < y) (hy : y < 18446744073709551616) : dvS y ≤ 63 ∧ dvY y = y * 2 ^ dvS y ∧ 9223372036854775808 ≤ dvY y ∧ dvY y < 18446744073709551616 := by
 have h1 := wid_low 64 y hy h0
 have h2 := wid_spec 64 y hy
 obtain ⟨w, hw⟩ : ∃ w, wid 64 y = w + 1 := ⟨wid 64 y - 1, by omega⟩
 have hs : dvS y = 63 - w := by unfold dvS; omega
 rw [hw] at h1 h2
 rw [Nat.add_sub_cancel] at h1
 have e1 : (2 : Nat) ^ w * 2 ^ (63 - w) = 2 ^ 63 := by rw [← Nat.pow_add, show w + (63 - w) = 63 by omega]
 have e2 : (2 : Nat) ^ (w + 1) * 2 ^ (63 - w) = 2 ^ 64 := by rw [← Nat.pow_add, show w + 1 + (63 - w) = 64 by omega]
 have l1 : 2 ^ 63 ≤ y * 2 ^ dvS y := by rw [hs, ← e1]; exact Nat.mul_le_mul_right _ h1.2
 have l2 : y * 2 ^ dvS y < 2 ^ 64 := by rw [hs, ← e2]; exact Nat.mul_lt_mul_of_pos_right h2.1 (Nat.pow_pos (by decide))
 have e3 : dvY y = y * 2 ^ dvS y := Nat.mod_eq_of_lt l2
 refine ⟨by omega, e3, ?_, ?_⟩
 ·rw [e3]; exact l1
 ·rw [e3]; exact l2
theorem and32 (a : Nat) : a &&& 4294967295 = a % 4294967296 := Nat.and_two_pow_sub_one_eq_mod a 32
theorem bo32 {a : Nat} (h : a < 18446744073709551616) : bitsOp .and .u64 (a : Int) 4294967295 = ((a % 4294967296 : Nat) : Int) := by
 have e : (4294967295 : Int) = ((4294967295 : Nat) : Int) := rfl
 rw [e, bo_and64 _ _ h (by decide), and32]
theorem shlU {a s : Nat} (hs : s ≤ 64) : IntKind.u64.wrap ((a : Int) * 2 ^ min (Int.toNat (s : Int)) IntKind.u64.bits) = ((a * 2 ^ s % 18446744073709551616 : Nat) : Int) := by
 have e : IntKind.u64.bits = 64 := rfl
 rw [wrU, e, Int.toNat_natCast, Nat.min_eq_left hs]
 simp
structure KD where
 f : Nat
 q : Nat
 r : Nat
theorem dvC_step {yn1 yn0 un f q r A : Nat} (h : dvC yn1 yn0 un (f + 1) q r = A) : (if 4294967296 ≤ q ∨ 4294967296 * r + un < q * yn0 then (if 4294967296 ≤ r + yn1 then q - 1 else dvC yn1 yn0 un f (q - 1) (r + yn1)) else q) = A := h
attribute [local irreducible] dvC
theorem div64A (hi lo y : Nat) (hh : hi < y) (hl : lo < 18446744073709551616) (hy : y < 18446744073709551616) : AFn Tryz.prog G 95 [uv hi, uv lo, uv y] 0 [] (Is (.tup [uv (divQ hi lo y), uv (divR hi lo y)])) := by
 have hn := dv_norm (show 0 < y by omega) hy
 obtain ⟨Q, hQ⟩ : ∃ Q, Q = divQ hi lo y := ⟨_, rfl⟩
 obtain ⟨R, hR⟩ : ∃ R, R = divR hi lo y := ⟨_, rfl⟩
 rw [← hQ, ← hR]
 unfold divQ at hQ
 unfold divR at hR
 refine afn_of Tryz.func95 rfl mixed (by kernel_rfl) ?_
 conv=>whnf
 apply vif_split <;> intro h
 ·exfalso; simp at h; omega
 conv=>whnf
 apply vif_split <;> intro h
 ·exfalso; simp at h; omega
 conv=>whnf
 apply vif_split <;> intro h
 ·have h0 : hi = 0 := by simp at h; omega
  rw [if_pos h0] at hQ hR
  conv=>whnf
  (refine adraw pln95 [] (by kernel_rfl) ?_; conv=>whnf)
  repeat' (first
   | (refine And.intro ?_ ?_ <;> (conv=>whnf))
   | (refine VReq.mk (by omega) ?_; conv=>whnf)
   | (refine AAr.to (y := ((lo / y : Nat) : Int)) (wr_u64 (n := lo / y) (by have := Nat.div_le_self lo y; omega)) ?_; conv=>whnf)
   | (refine AAr.to (y := ((lo % y : Nat) : Int)) (wr_u64 (n := lo % y) (by have := Nat.mod_le lo y; omega)) ?_; conv=>whnf))
  exact aret [] ⟨congrArg (fun n : Nat => Value.int .u64 (n : Int)) hQ.symm, congrArg (fun n : Nat => Value.int .u64 (n : Int)) hR.symm, trivial⟩
 have h0 : ¬ hi = 0 := by simp at h; omega
 rw [if_neg h0] at hQ hR
 conv=>whnf
 (refine acall [] (by kernel_rfl) (lz64A y hy) rfl ?_ ?_; (focus (repeat' (first | rfl | trivial | apply And.intro))))
 conv=>whnf
 refine AAr.to (y := ((dvS y : Nat) : Int)) (wr_u64 (n := dvS y) (by omega)) ?_
 obtain ⟨hs, _, hy1, hy2⟩ := hn
 unfold dvB dvV dvA at *
 have hU : dvU hi lo y = hi * 2 ^ dvS y % 18446744073709551616 ||| lo / 2 ^ (64 - dvS y) := rfl
 have hL : dvL lo y = lo * 2 ^ dvS y % 18446744073709551616 := rfl
 have hY := shlU (a := y) (s := dvS y) (by omega)
 rw [show y * 2 ^ dvS y % 18446744073709551616 = dvY y from rfl] at hY
 have hU2 : dvU hi lo y < 18446744073709551616 := by
  rw [hU]
  refine Nat.or_lt_two_pow (n := 64) ?_ ?_
  ·exact Nat.mod_lt _ (by decide)
  ·exact Nat.lt_of_le_of_lt (Nat.div_le_self _ _) hl
 have hL2 : dvL lo y < 18446744073709551616 := by rw [hL]; exact Nat.mod_lt _ (by decide)
 generalize dvY y = Y at *
 generalize dvU hi lo y = U at *
 generalize dvL lo y = L at *
 generalize dvS y = s at *
 conv=>whnf
 refine VReq.mk (by omega) ?_
 conv=>whnf
 refine AAr.to (y := ((Y : Nat) : Int)) hY ?_
 conv=>whnf
 refine VReq.mk (by decide) ?_
 rw [shr32]
 conv=>whnf
 rw [bo32 hy2]
 conv=>whnf
 refine VReq.mk (by omega) ?_
 conv=>whnf
 refine AAr.to (y := ((hi * 2 ^ s % 18446744073709551616 : Nat) : Int)) (shlU (by omega)) ?_
 conv=>whnf
 refine AAr.to (y := ((64 - s : Nat) : Int)) (by (try dsimp only); rw [wrU]; omega) ?_
 conv=>whnf
 refine VReq.mk (by omega) ?_
 rw [shrk lo (64 - s) (by omega)]
 conv=>whnf
 rw [bo_or64 _ _ (Nat.mod_lt _ (by decide)) (Nat.lt_of_le_of_lt (Nat.div_le_self _ _) hl), ← hU]
 conv=>whnf
 refine VReq.mk (by omega) ?_
 conv=>whnf
 refine AAr.to (y := ((L : Nat) : Int)) (by rw [hL]; exact shlU (by omega)) ?_
 conv=>whnf
 refine VReq.mk (by decide) ?_
 rw [shr32]
 conv=>whnf
 rw [bo32 hL2]
 conv=>whnf
 have hyA : 2147483648 ≤ Y / 4294967296 := by omega
 have hyB : Y / 4294967296 < 4294967296 := by omega
 have hyC : Y % 4294967296 < 4294967296 := by omega
 have huA : L / 4294967296 < 4294967296 := by omega
 have huB : L % 4294967296 < 4294967296 := by omega
 generalize Y / 4294967296 = Y1 at *
 generalize Y % 4294967296 = Y0 at *
 generalize L / 4294967296 = L1 at *
 generalize L % 4294967296 = L0 at *
 obtain ⟨A, hA⟩ : ∃ A, A = dvQ Y1 Y0 U L1 := ⟨_, rfl⟩
 rw [← hA] at hQ hR
 obtain ⟨V, hV⟩ : ∃ V, V = dvR U L1 A Y := ⟨_, rfl⟩
 rw [← hV] at hQ hR
 obtain ⟨B, hB⟩ : ∃ B, B = dvQ Y1 Y0 V L0 := ⟨_, rfl⟩
 rw [← hB] at hQ hR
 unfold dvQ at hA hB
 have hV2 : V < 18446744073709551616 := by rw [hV]; exact Nat.mod_lt _ (by decide)
 clear hY hU hL hL2 h0 h hh hl hy
 refine VReq.mk (by omega) ?_
 conv=>whnf
 refine AAr.to (y := ((U / Y1 : Nat) : Int)) (wr_u64 (n := U / Y1) (by have := Nat.div_le_self U Y1; omega)) ?_
 conv=>whnf
 refine AAr.to (y := ((U / Y1 * Y1 : Nat) : Int)) (wr_u64 (n := U / Y1 * Y1) (by have := Nat.div_mul_le_self U Y1; omega)) ?_
 conv=>whnf
 refine AAr.to (y := ((U % Y1 : Nat) : Int)) (by
  have h1 := Nat.div_add_mod U Y1
  have h2 := Nat.mul_comm Y1 (U / Y1)
  have h3 := Nat.mod_le U Y1
  rw [wrU]; omega) ?_
 conv=>whnf
 refine aloop ws95_1 0 [15, 16] (fun x : KD => [(15, uv x.q), (16, uv x.r)]) (fun _ => []) (fun x => dvC Y1 Y0 L1 x.f x.q x.r = A ∧ x.r < 4294967296 ∧ 4294967296 - x.r ≤ x.f ∧ x.q < 18446744073709551616) (fun x => 4294967296 - x.r) [] [] ⟨4294967296, U / Y1, U % Y1⟩ (by kernel_rfl) (fun _ => rfl) rfl ⟨hA.symm, Nat.lt_of_lt_of_le (Nat.mod_lt _ (by omega)) (by omega), Nat.sub_le _ _, Nat.lt_of_le_of_lt (Nat.div_le_self _ _) (by assumption)⟩ (by repeat' (first | rfl | trivial | apply And.intro)) (by repeat' (first | rfl | trivial | apply And.intro)) ?_
 rintro ⟨f, q, r⟩ ⟨hC, hr, hf, hqt⟩
 dsimp only at hC hr hf hqt
 obtain ⟨f, rfl⟩ : ∃ g, f = g + 1 := ⟨f - 1, by omega⟩
 have hC := dvC_step hC
 have again (hq : 4294967296 ≤ q ∨ 4294967296 * r + L1 < q * Y0) (hn : ¬ 4294967296 ≤ r + Y1) : dvC Y1 Y0 L1 f (q - 1) (r + Y1) = A := by rw [if_pos hq, if_neg hn] at hC; exact hC
 have stop (hq : 4294967296 ≤ q ∨ 4294967296 * r + L1 < q * Y0) (hn : 4294967296 ≤ r + Y1) : q - 1 = A := by rw [if_pos hq, if_pos hn] at hC; exact hC
 have fin (hq : ¬ (4294967296 ≤ q ∨ 4294967296 * r + L1 < q * Y0)) : q = A := by rw [if_neg hq] at hC; exact hC
 have pos (hq : 4294967296 ≤ q ∨ 4294967296 * r + L1 < q * Y0) : 1 ≤ q := by
  rcases hq with h | h
  ·omega
  ·rcases Nat.eq_zero_or_pos q with h0 | h0
   ·subst h0; simp at h
   ·exact h0
 clear hC
 conv=>whnf
 apply vif_split <;> intro h
 focus
  have hq : 4294967296 ≤ q := by simp at h; omega
  have hq1 := pos (.inl hq)
  replace stop := stop (.inl hq)
  replace again := again (.inl hq)
  conv=>whnf
  refine AAr.to (y := ((q - 1 : Nat) : Int)) (by (try dsimp only); rw [wrU]; omega) ?_
  conv=>whnf
  refine AAr.to (y := ((r + Y1 : Nat) : Int)) (wr_u64 (n := r + Y1) (by omega)) ?_
  conv=>whnf
  refine vif_split (fun h4 => ?_) (fun h4 => ?_)
  rotate_left 1
  ·have hn : ¬ 4294967296 ≤ r + Y1 := by simp at h4; omega
   conv=>whnf
   exact aback ⟨f, q - 1, r + Y1⟩ [] [] rfl (by show 4294967296 - (r + Y1) < 4294967296 - r; omega) ⟨again hn, by show r + Y1 < 4294967296; omega, by show 4294967296 - (r + Y1) ≤ f; omega, by show q - 1 < 18446744073709551616; omega⟩ (by repeat' (first | rfl | trivial | apply And.intro)) (by repeat' (first | rfl | trivial | apply And.intro))
  have hn : 4294967296 ≤ r + Y1 := by simp at h4; omega
  rw [stop hn]
 rotate_left 1
 have hq : ¬ 4294967296 ≤ q := by simp at h; omega
 have hm : q * Y0 < 18446744073709551616 := by
  have : q * Y0 ≤ 4294967295 * 4294967295 := Nat.mul_le_mul (by omega) (by omega)
  omega
 conv=>whnf
 refine AAr.to (y := ((q * Y0 : Nat) : Int)) (wr_u64 hm) ?_
 conv=>whnf
 refine AAr.to (y := ((4294967296 * r : Nat) : Int)) (wr_u64 (n := 4294967296 * r) (by omega)) ?_
 conv=>whnf
 refine AAr.to (y := ((4294967296 * r + L1 : Nat) : Int)) (wr_u64 (n := 4294967296 * r + L1) (by omega)) ?_
 conv=>whnf
 refine vif_split (fun h3 => ?_) (fun h3 => ?_)
 focus
  have hc : 4294967296 * r + L1 < q * Y0 := Int.ofNat_lt.1 (of_decide_eq_true h3)
  have hq1 := pos (.inr hc)
  replace stop := stop (.inr hc)
  replace again := again (.inr hc)
  conv=>whnf
  refine AAr.to (y := ((q - 1 : Nat) : Int)) (by (try dsimp only); rw [wrU]; omega) ?_
  conv=>whnf
  refine AAr.to (y := ((r + Y1 : Nat) : Int)) (wr_u64 (n := r + Y1) (by omega)) ?_
  conv=>whnf
  refine vif_split (fun h4 => ?_) (fun h4 => ?_)
  rotate_left 1
  ·have hn : ¬ 4294967296 ≤ r + Y1 := by simp at h4; omega
   conv=>whnf
   exact aback ⟨f, q - 1, r + Y1⟩ [] [] rfl (by show 4294967296 - (r + Y1) < 4294967296 - r; omega) ⟨again hn, by show r + Y1 < 4294967296; omega, by show 4294967296 - (r + Y1) ≤ f; omega, by show q - 1 < 18446744073709551616; omega⟩ (by repeat' (first | rfl | trivial | apply And.intro)) (by repeat' (first | rfl | trivial | apply And.intro))
  have hn : 4294967296 ≤ r + Y1 := by simp at h4; omega
  rw [stop hn]
 rotate_left 1
 have hc : ¬ 4294967296 * r + L1 < q * Y0 := fun h5 => of_decide_eq_false h3 (Int.ofNat_lt.2 h5)
 rw [fin (fun h5 => h5.elim hq hc)]
 all_goals
  conv=>whnf
  refine AAr.to (y := ((U * 4294967296 % 18446744073709551616 : Nat) : Int)) (by (try dsimp only); rw [wrU]; omega) ?_
  conv=>whnf
  refine AAr.to (y := (((U * 4294967296 % 18446744073709551616 + L1) % 18446744073709551616 : Nat) : Int)) (by (try dsimp only); rw [wrU]; omega) ?_
  conv=>whnf
  refine AAr.to (y := ((A * Y % 18446744073709551616 : Nat) : Int)) (by rw [← Int.natCast_mul, wrU]; generalize A * Y = z; omega) ?_
  conv=>whnf
  refine AAr.to (y := ((V : Nat) : Int)) (by rw [hV]; unfold dvR; rw [wrU]; generalize A * Y = z; omega) ?_
  conv=>whnf
  refine VReq.mk (by omega) ?_
  conv=>whnf
  refine AAr.to (y := ((V / Y1 : Nat) : Int)) (wr_u64 (n := V / Y1) (by have := Nat.div_le_self V Y1; omega)) ?_
  conv=>whnf
  refine AAr.to (y := ((V / Y1 * Y1 : Nat) : Int)) (wr_u64 (n := V / Y1 * Y1) (by have := Nat.div_mul_le_self V Y1; omega)) ?_
  conv=>whnf
  refine AAr.to (y := ((V % Y1 : Nat) : Int)) (by
   have h1 := Nat.div_add_mod V Y1
   have h2 := Nat.mul_comm Y1 (V / Y1)
   have h3 := Nat.mod_le V Y1
   rw [wrU]; omega) ?_
  conv=>whnf
  refine aloop ws95_2 0 [18, 16] (fun x : KD => [(18, uv x.q), (16, uv x.r)]) (fun _ => []) (fun x => dvC Y1 Y0 L0 x.f x.q x.r = B ∧ x.r < 4294967296 ∧ 4294967296 - x.r ≤ x.f ∧ x.q < 18446744073709551616) (fun x => 4294967296 - x.r) [] [] ⟨4294967296, V / Y1, V % Y1⟩ (by kernel_rfl) (fun _ => rfl) rfl ⟨hB.symm, Nat.lt_of_lt_of_le (Nat.mod_lt _ (by omega)) (by omega), Nat.sub_le _ _, Nat.lt_of_le_of_lt (Nat.div_le_self _ _) (by assumption)⟩ (by repeat' (first | rfl | trivial | apply And.intro)) (by repeat' (first | rfl | trivial | apply And.intro)) ?_
  rintro ⟨f, q, r⟩ ⟨hC, hr, hf, hqt⟩
  dsimp only at hC hr hf hqt
  obtain ⟨f, rfl⟩ : ∃ g, f = g + 1 := ⟨f - 1, by omega⟩
  have hC := dvC_step hC
  have again (hq : 4294967296 ≤ q ∨ 4294967296 * r + L0 < q * Y0) (hn : ¬ 4294967296 ≤ r + Y1) : dvC Y1 Y0 L0 f (q - 1) (r + Y1) = B := by rw [if_pos hq, if_neg hn] at hC; exact hC
  have stop (hq : 4294967296 ≤ q ∨ 4294967296 * r + L0 < q * Y0) (hn : 4294967296 ≤ r + Y1) : q - 1 = B := by rw [if_pos hq, if_pos hn] at hC; exact hC
  have fin (hq : ¬ (4294967296 ≤ q ∨ 4294967296 * r + L0 < q * Y0)) : q = B := by rw [if_neg hq] at hC; exact hC
  have pos (hq : 4294967296 ≤ q ∨ 4294967296 * r + L0 < q * Y0) : 1 ≤ q := by
   rcases hq with h | h
   ·omega
   ·rcases Nat.eq_zero_or_pos q with h0 | h0
    ·subst h0; simp at h
    ·exact h0
  clear hC
  conv=>whnf
  apply vif_split <;> intro h
  focus
   have hq : 4294967296 ≤ q := by simp at h; omega
   have hq1 := pos (.inl hq)
   replace stop := stop (.inl hq)
   replace again := again (.inl hq)
   conv=>whnf
   refine AAr.to (y := ((q - 1 : Nat) : Int)) (by (try dsimp only); rw [wrU]; omega) ?_
   conv=>whnf
   refine AAr.to (y := ((r + Y1 : Nat) : Int)) (wr_u64 (n := r + Y1) (by omega)) ?_
   conv=>whnf
   refine vif_split (fun h4 => ?_) (fun h4 => ?_)
   rotate_left 1
   ·have hn : ¬ 4294967296 ≤ r + Y1 := by simp at h4; omega
    conv=>whnf
    exact aback ⟨f, q - 1, r + Y1⟩ [] [] rfl (by show 4294967296 - (r + Y1) < 4294967296 - r; omega) ⟨again hn, by show r + Y1 < 4294967296; omega, by show 4294967296 - (r + Y1) ≤ f; omega, by show q - 1 < 18446744073709551616; omega⟩ (by repeat' (first | rfl | trivial | apply And.intro)) (by repeat' (first | rfl | trivial | apply And.intro))
   have hn : 4294967296 ≤ r + Y1 := by simp at h4; omega
   rw [stop hn]
  rotate_left 1
  have hq : ¬ 4294967296 ≤ q := by simp at h; omega
  have hm : q * Y0 < 18446744073709551616 := by
   have : q * Y0 ≤ 4294967295 * 4294967295 := Nat.mul_le_mul (by omega) (by omega)
   omega
  conv=>whnf
  refine AAr.to (y := ((q * Y0 : Nat) : Int)) (wr_u64 hm) ?_
  conv=>whnf
  refine AAr.to (y := ((4294967296 * r : Nat) : Int)) (wr_u64 (n := 4294967296 * r) (by omega)) ?_
  conv=>whnf
  refine AAr.to (y := ((4294967296 * r + L0 : Nat) : Int)) (wr_u64 (n := 4294967296 * r + L0) (by omega)) ?_
  conv=>whnf
  refine vif_split (fun h3 => ?_) (fun h3 => ?_)
  focus
   have hc : 4294967296 * r + L0 < q * Y0 := Int.ofNat_lt.1 (of_decide_eq_true h3)
   have hq1 := pos (.inr hc)
   replace stop := stop (.inr hc)
   replace again := again (.inr hc)
   conv=>whnf
   refine AAr.to (y := ((q - 1 : Nat) : Int)) (by (try dsimp only); rw [wrU]; omega) ?_
   conv=>whnf
   refine AAr.to (y := ((r + Y1 : Nat) : Int)) (wr_u64 (n := r + Y1) (by omega)) ?_
   conv=>whnf
   refine vif_split (fun h4 => ?_) (fun h4 => ?_)
   rotate_left 1
   ·have hn : ¬ 4294967296 ≤ r + Y1 := by simp at h4; omega
    conv=>whnf
    exact aback ⟨f, q - 1, r + Y1⟩ [] [] rfl (by show 4294967296 - (r + Y1) < 4294967296 - r; omega) ⟨again hn, by show r + Y1 < 4294967296; omega, by show 4294967296 - (r + Y1) ≤ f; omega, by show q - 1 < 18446744073709551616; omega⟩ (by repeat' (first | rfl | trivial | apply And.intro)) (by repeat' (first | rfl | trivial | apply And.intro))
   have hn : 4294967296 ≤ r + Y1 := by simp at h4; omega
   rw [stop hn]
  rotate_left 1
  have hc : ¬ 4294967296 * r + L0 < q * Y0 := fun h5 => of_decide_eq_false h3 (Int.ofNat_lt.2 h5)
  rw [fin (fun h5 => h5.elim hq hc)]
  all_goals
   conv=>whnf
   refine AAr.to (y := ((A * 4294967296 % 18446744073709551616 : Nat) : Int)) (by (try dsimp only); rw [wrU]; omega) ?_
   conv=>whnf
   refine AAr.to (y := ((Q : Nat) : Int)) (by (try dsimp only); rw [wrU, hQ]; omega) ?_
   conv=>whnf
   refine AAr.to (y := ((V * 4294967296 % 18446744073709551616 : Nat) : Int)) (by (try dsimp only); rw [wrU]; omega) ?_
   conv=>whnf
   refine AAr.to (y := (((V * 4294967296 % 18446744073709551616 + L0) % 18446744073709551616 : Nat) : Int)) (by (try dsimp only); rw [wrU]; omega) ?_
   conv=>whnf
   refine AAr.to (y := ((B * Y % 18446744073709551616 : Nat) : Int)) (by rw [← Int.natCast_mul, wrU]; generalize B * Y = z; omega) ?_
   conv=>whnf
   refine AAr.to (y := ((dvR V L0 B Y : Nat) : Int)) (by unfold dvR; rw [wrU]; generalize B * Y = z; omega) ?_
   conv=>whnf
   refine VReq.mk (by omega) ?_
   rw [shrk (dvR V L0 B Y) s (by omega), ← hR]
   conv=>whnf
   exact aret [] (by repeat' (first | rfl | trivial | apply And.intro))
end
end
section
open Go.Proofs.YtgfgndaoocfpdaaGreatDoor.Id
theorem mulR {a b A B : Int} (h1 : 0 ≤ a) (h2 : a ≤ A) (h3 : 0 ≤ b) (h4 : b ≤ B) : 0 ≤ a * b ∧ a * b ≤ A * B :=
 ⟨Int.mul_nonneg h1 h3, Int.le_trans (Int.mul_le_mul_of_nonneg_right h2 h3) (Int.mul_le_mul_of_nonneg_left h4 (Int.le_trans h1 h2))⟩
theorem mulS {a b A B : Int} (h1 : 0 ≤ a) (h2 : a ≤ A) (h3 : -B ≤ b) (h4 : b ≤ B) : -(A * B) ≤ a * b ∧ a * b ≤ A * B := by
 rcases Int.le_total 0 b with h | h
 ·have := mulR h1 h2 h h4
  have : 0 ≤ A * B := Int.mul_nonneg (by omega) (by omega)
  omega
 ·have := mulR h1 h2 (show 0 ≤ -b by omega) (show -b ≤ B by omega)
  rw [Int.mul_neg] at this
  have : 0 ≤ A * B := Int.mul_nonneg (by omega) (by omega)
  omega
theorem sumV_snoc (l : List Sm) (x : Sm) : sumV (l ++ [x]) = sumV l + x.value := by unfold sumV; rw [List.foldl_append]; rfl
theorem sumV_from : ∀ (l : List Sm) (a : Int), okV 1048576 l → a ≤ l.foldl (fun a s => a + s.value) a ∧ l.foldl (fun a s => a + s.value) a ≤ a + 1048576 * (l.length : Int) := by
 intro l
 induction l with
 | nil => intro a _; simp
 | cons x l ih =>
  intro a h
  have h1 := ih (a + x.value) fun y hy => h y (List.mem_cons_of_mem _ hy)
  have h2 := h x List.mem_cons_self
  simp only [List.foldl_cons, List.length_cons]
  omega
theorem sumV_rng {l : List Sm} (h : okV 1048576 l) : 0 ≤ sumV l ∧ sumV l ≤ 1048576 * (l.length : Int) := by
 have := sumV_from l 0 h
 unfold sumV; omega
theorem tdiv_le' {a b c : Int} (hb : 0 < b) (ha : 0 ≤ a) (h : a ≤ c * b) : 0 ≤ a.tdiv b ∧ a.tdiv b ≤ c := by
 rw [Int.tdiv_eq_ediv_of_nonneg ha]
 refine ⟨Int.ediv_nonneg ha (by omega), ?_⟩
 exact Int.ediv_le_of_le_mul hb h
theorem flr_rng {a b c : Int} (hb : 0 < b) (ha : 0 ≤ a) (h : a ≤ c * b) : 0 ≤ flr a b ∧ flr a b ≤ c := by
 unfold flr
 rw [if_neg (by have := Int.tmod_nonneg b ha; omega)]
 exact tdiv_le' hb ha h
theorem mean_rng {l : List Sm} (h : okV 1048576 l) (h0 : 0 < l.length) : 0 ≤ mean l ∧ mean l ≤ 1048576 :=
 flr_rng (by omega) (sumV_rng h).1 (sumV_rng h).2
theorem preS_rng {q : List Sm} {b arm cap : Int} (h : okV 1048576 q) (hc : 1 ≤ cap ∧ cap ≤ 1048576) : 0 ≤ preS q b arm cap ∧ preS q b arm cap ≤ 1048576 := by
 unfold preS
 split
 ·exact mean_rng (fun x hx => h x (List.mem_filter.1 hx).1) (by assumption)
 split
 ·exact mean_rng (fun x hx => h x (List.mem_filter.1 hx).1) (by assumption)
 ·exact flr_rng (by decide) (by omega) (by omega)
structure KC where
 n : Int
 k : Nat
section
variable {G : Glob}
theorem wvalidA (c t : Int) : AFn Tryz.prog G 96 [.agg [iv c, iv t]] 0 [] (Is (bv (decide (okW c ∧ okW t)))) := by
 refine afn_of Tryz.func96 rfl mixed (by kernel_rfl) ?_
 conv=>whnf
 repeat' (apply vif_split <;> intro h <;> (conv=>whnf))
 all_goals (refine aret [] (congrArg Value.bool ?_))
 all_goals (unfold okW; simp_all; try omega)
theorem wsumA {c t : Int} (hc : okW c) (ht : okW t) : AFn Tryz.prog G 99 [.agg [iv c, iv t]] 0 [] (Is (iv (c + t))) := by
 unfold okW at hc ht
 refine afn_of Tryz.func99 rfl mixed (by kernel_rfl) ?_
 conv=>whnf
 refine AAr.i64 (by omega) ?_
 conv=>whnf
 exact aret [] (by trivial)
theorem wprodA {c t : Int} (hc : okW c) (ht : okW t) : AFn Tryz.prog G 98 [.agg [iv c, iv t]] 0 [] (Is (iv (c * t))) := by
 unfold okW at hc ht
 have := mulR (show 0 ≤ c by omega) hc.2 (show 0 ≤ t by omega) ht.2
 refine afn_of Tryz.func98 rfl mixed (by kernel_rfl) ?_
 conv=>whnf
 refine AAr.i64 (by omega) ?_
 conv=>whnf
 exact aret [] (by trivial)
theorem blenA (u : Nat) (hu : u < 18446744073709551616) : AFn Tryz.prog G 132 [uv u] 0 [] (Is (iv (wid 64 u))) := by
 refine afn_of Tryz.func132 rfl mixed (by kernel_rfl) ?_
 conv=>whnf
 (refine acall [] (by kernel_rfl) (AFn.up (len64A u hu) G) rfl ?_ ?_; (focus trivial))
 conv=>whnf
 exact aret [] (by trivial)
theorem classA (n : Int) (hn : I64 n) : AFn Tryz.prog G 119 [iv n] 0 [] (Is (iv (cls n))) := by
 have hm : max n 0 = ((n.toNat : Nat) : Int) := by omega
 have hb : n.toNat < 18446744073709551616 := by unfold I64 at hn; omega
 refine afn_of Tryz.func119 rfl mixed (by kernel_rfl) ?_
 conv=>whnf
 rw [hm]
 refine AAr.to (y := ((n.toNat : Nat) : Int)) ?_ ?_
 ·exact wr_u64 (by assumption)
 conv=>whnf
 (refine acall [] (by kernel_rfl) (blenA n.toNat hb) rfl ?_ ?_; (focus trivial))
 conv=>whnf
 exact aret [] (by trivial)
theorem class2A (n : Int) (hn : I64 n) : AFn Tryz.prog G 114 [iv n] 0 [] (Is (iv (cls n))) := by
 have hb : n.toNat < 2 ^ 64 := by unfold I64 at hn; omega
 obtain ⟨A, hA⟩ : ∃ A, A = cls n := ⟨_, rfl⟩
 rw [← hA]
 refine afn_of Tryz.func114 rfl mixed (by kernel_rfl) ?_
 conv=>whnf
 refine aloop ws114_1 0 [0, 3] (fun x : KC => [(0, iv x.n), (3, iv x.k)]) (fun _ => []) (fun x => (x.k : Int) + wid (64 - x.k) x.n.toNat = A ∧ x.n.toNat < 2 ^ (64 - x.k) ∧ x.n ≤ 9223372036854775807 ∧ x.k ≤ 64) (fun x => x.n.toNat) [] [] ⟨n, 0⟩ (by kernel_rfl) (fun _ => rfl) rfl ⟨by rw [hA]; simp [cls], hb, by show n ≤ _; unfold I64 at hn; omega, by show 0 ≤ 64; decide⟩ (by trivial) (by trivial) ?_
 rintro ⟨m, k⟩ ⟨h1, h2, h3, h4⟩
 dsimp only at h1 h2 h3 h4
 conv=>whnf
 apply vif_split <;> intro h
 ·have hp : 0 < m := by simpa using h
  clear hA hb hn
  have hk : k < 64 := by
   rcases Nat.lt_or_ge k 64 with h5 | h5
   ·exact h5
   ·rw [show 64 - k = 0 by omega] at h2; simp at h2; omega
  obtain ⟨f, hf⟩ : ∃ f, 64 - k = f + 1 := ⟨63 - k, by omega⟩
  have hd : m.tdiv 2 = ((m.toNat / 2 : Nat) : Int) := by
   obtain ⟨u, rfl⟩ : ∃ u : Nat, m = u := ⟨m.toNat, by omega⟩
   rfl
  rw [hf] at h1 h2
  rw [Nat.pow_succ] at h2
  simp only [wid] at h1
  rw [if_neg (by omega)] at h1
  conv=>whnf
  refine VReq.mk (by decide) ?_
  conv=>whnf
  refine AAr.i64 (by show _ ≤ m.tdiv 2 ∧ m.tdiv 2 ≤ _; rw [hd]; omega) ?_
  rw [show (⟨m, k⟩ : KC).n.tdiv 2 = ((m.toNat / 2 : Nat) : Int) from hd]
  conv=>whnf
  refine AAr.i64 (by show _ ≤ (k : Int) + 1 ∧ (k : Int) + 1 ≤ _; omega) ?_
  conv=>whnf
  refine aback ⟨((m.toNat / 2 : Nat) : Int), k + 1⟩ [] [] rfl (by show (((m.toNat / 2 : Nat) : Int)).toNat < m.toNat; omega) ⟨?_, ?_, ?_, ?_⟩ (by trivial) (by trivial)
  ·show ((k + 1 : Nat) : Int) + wid (64 - (k + 1)) (((m.toNat / 2 : Nat) : Int)).toNat = A
   rw [show 64 - (k + 1) = f by omega, Int.toNat_natCast]
   omega
  ·show (((m.toNat / 2 : Nat) : Int)).toNat < 2 ^ (64 - (k + 1))
   rw [show 64 - (k + 1) = f by omega, Int.toNat_natCast]
   omega
  ·show ((m.toNat / 2 : Nat) : Int) ≤ _
   omega
  ·show k + 1 ≤ 64
   omega
 ·have hz : m.toNat = 0 := by
   have : ¬ 0 < m := by simpa using h
   omega
  have hw : wid (64 - k) m.toNat = 0 := by rw [hz]; cases 64 - k <;> simp [wid]
  rw [hw] at h1
  conv=>whnf
  exact aret [] (ciZ (by show ((k : Nat) : Int) = _; omega))
theorem floorA {a b : Int} (hb : 0 < b) (hr : -4611686018427387904 ≤ a ∧ a ≤ 4611686018427387904) : AFn Tryz.prog G 120 [iv a, iv b] 0 [] (Is (iv (flr a b))) := by
 have h1 : -4611686018427387904 ≤ a.tdiv b ∧ a.tdiv b ≤ 4611686018427387904 := by
  have := Int.natAbs_tdiv_le_natAbs a b
  omega
 obtain ⟨r, hr⟩ : ∃ r, r = flr a b := ⟨_, rfl⟩
 rw [← hr]
 unfold flr at hr
 refine afn_of Tryz.func120 rfl mixed (by kernel_rfl) ?_
 conv=>whnf
 refine VReq.mk (by omega) ?_
 conv=>whnf
 refine AAr.i64 (by omega) ?_
 conv=>whnf
 refine VReq.mk (by omega) ?_
 conv=>whnf
 apply vif_split <;> intro h
 ·rw [if_pos (by simpa using h)] at hr
  conv=>whnf
  refine AAr.i64 (by omega) ?_
  conv=>whnf
  exact aret [] (ciZ hr.symm)
 ·rw [if_neg (by simpa using h)] at hr
  conv=>whnf
  exact aret [] (ciZ hr.symm)
theorem floor2A {a b : Int} (hb : 0 < b) (hr : -4611686018427387904 ≤ a ∧ a ≤ 4611686018427387904) : AFn Tryz.prog G 115 [iv a, iv b] 0 [] (Is (iv (flr a b))) := by
 have h1 : -4611686018427387904 ≤ a.tdiv b ∧ a.tdiv b ≤ 4611686018427387904 := by
  have := Int.natAbs_tdiv_le_natAbs a b
  omega
 obtain ⟨r, hr⟩ : ∃ r, r = flr a b := ⟨_, rfl⟩
 rw [← hr]
 unfold flr at hr
 refine afn_of Tryz.func115 rfl mixed (by kernel_rfl) ?_
 conv=>whnf
 refine VReq.mk (by omega) ?_
 conv=>whnf
 refine AAr.i64 (by omega) ?_
 conv=>whnf
 refine VReq.mk (by omega) ?_
 conv=>whnf
 apply vif_split <;> intro h
 ·rw [if_pos (by simpa using h)] at hr
  conv=>whnf
  refine AAr.i64 (by omega) ?_
  conv=>whnf
  exact aret [] (ciZ hr.symm)
 ·rw [if_neg (by simpa using h)] at hr
  conv=>whnf
  exact aret [] (ciZ hr.symm)
end
end
section
open Go.Proofs.YtgfgndaoocfpdaaGreatDoor.Id
attribute [local irreducible] divQ divR grw
section
variable {G : Glob}
abbrev scV (s : Sc) : AV := .agg [iv s.num, iv s.unit, iv s.range]
theorem svalidA (s : Sc) : AFn Tryz.prog G 146 [scV s] 0 [] (Is (bv (decide (okS s)))) := by
 obtain ⟨b, hb⟩ : ∃ b, b = decide (okS s) := ⟨_, rfl⟩
 rw [← hb]
 refine afn_of Tryz.func146 rfl mixed (by kernel_rfl) ?_
 conv=>whnf
 repeat' (first
  | (apply vif_split <;> intro h <;> (try simp only [bl] at h) <;> (conv=>whnf))
  | (refine AAr.i64 (by omega) ?_; conv=>whnf))
 all_goals (rw [hb])
 all_goals (refine aret [] (congrArg Value.bool ?_))
 all_goals (try simp only [cond_true, cond_false, decide_eq_true_eq, decide_eq_false_iff_not, ge_iff_le, gt_iff_lt, Int.not_le, Int.not_lt] at *)
 all_goals first
  | exact decide_eq_false (by unfold okS; omega)
  | exact decide_eq_decide.2 (by unfold okS; omega)
  | exact decide_eq_true (by unfold okS; omega)
  | exact (decide_eq_false (by unfold okS; omega)).symm
  | exact (decide_eq_true (by unfold okS; omega)).symm
theorem svalid2A (s : Sc) : AFn Tryz.prog G 128 [scV s] 0 [] (Is (bv (decide (okS s)))) := by
 obtain ⟨b, hb⟩ : ∃ b, b = decide (okS s) := ⟨_, rfl⟩
 rw [← hb]
 refine afn_of Tryz.func128 rfl mixed (by kernel_rfl) ?_
 conv=>whnf
 repeat' (first
  | (apply vif_split <;> intro h <;> (try simp only [bl] at h) <;> (conv=>whnf))
  | (refine AAr.i64 (by omega) ?_; conv=>whnf))
 all_goals (rw [hb])
 all_goals (refine aret [] (congrArg Value.bool ?_))
 all_goals (try simp only [cond_true, cond_false, decide_eq_true_eq, decide_eq_false_iff_not, ge_iff_le, gt_iff_lt, Int.not_le, Int.not_lt] at *)
 all_goals first
  | exact decide_eq_false (by unfold okS; omega)
  | exact decide_eq_decide.2 (by unfold okS; omega)
  | exact decide_eq_true (by unfold okS; omega)
  | exact (decide_eq_false (by unfold okS; omega)).symm
  | exact (decide_eq_true (by unfold okS; omega)).symm
theorem fctA (s : Sc) (e bet : Int) (up : Bool) (hbet : bet = 1 ∨ bet = 2 ∨ bet = 4) : AFn Tryz.prog G 134 [scV s, iv e, iv bet, bv up] 0 [] (Is (.tup [iv (fctN s e bet up), iv (fctD s e)])) := by
 obtain ⟨N, hN⟩ : ∃ N, N = fctN s e bet up := ⟨_, rfl⟩
 obtain ⟨D, hD⟩ : ∃ D, D = fctD s e := ⟨_, rfl⟩
 rw [← hN, ← hD]
 unfold fctN gain at hN
 unfold fctD at hD
 refine afn_of Tryz.func134 rfl mixed (by kernel_rfl) ?_
 conv=>whnf
 (refine acall [] (by kernel_rfl) (svalidA s) rfl ?_ ?_; (focus trivial))
 conv=>whnf
 apply vif_split <;> intro h
 ·have hn : ¬ okS s := by simpa using h
  rw [if_neg (fun h' => hn h'.1)] at hN hD
  conv=>whnf
  exact aret [] ⟨ciZ hN.symm, ciZ hD.symm, trivial⟩
 have hs : okS s := by simpa using h
 conv=>whnf
 apply vif_split <;> intro h
 ·have hn : e < -1000 := by simpa using h
  rw [if_neg (fun h' => by have := h'.2; unfold okE at this; omega)] at hN hD
  conv=>whnf
  exact aret [] ⟨ciZ hN.symm, ciZ hD.symm, trivial⟩
 have he1 : ¬ e < -1000 := by simpa using h
 conv=>whnf
 apply vif_split <;> intro h
 ·have hn : 1000 < e := by simpa using h
  rw [if_neg (fun h' => by have := h'.2; unfold okE at this; omega)] at hN hD
  conv=>whnf
  exact aret [] ⟨ciZ hN.symm, ciZ hD.symm, trivial⟩
 have he2 : ¬ 1000 < e := by simpa using h
 have he : okE e := by unfold okE; omega
 rw [if_pos ⟨hs, he⟩] at hN hD
 obtain ⟨h1, h2, h3, h4, h5⟩ := hs
 have hm := mulS (a := s.unit) (b := e) (A := s.unit) (B := 1000) (by omega) (Int.le_refl _) (by omega) (by omega)
 conv=>whnf
 rcases hbet with rfl | rfl | rfl
 all_goals (repeat' (first
  | (apply vif_split <;> intro h <;> (first | (exfalso; simp at h; done) | (conv=>whnf)))
  | (refine AAr.i64 (by omega) ?_; conv=>whnf)))
 all_goals (first | (rw [if_pos (by assumption)] at hN) | (rw [if_neg (by simp_all)] at hN))
 all_goals exact aret [] ⟨ciZ hN.symm, ciZ hD.symm, trivial⟩
theorem fct2A (s : Sc) (e bet : Int) (up : Bool) (hbet : bet = 1 ∨ bet = 2 ∨ bet = 4) : AFn Tryz.prog G 116 [scV s, iv e, iv bet, bv up] 0 [] (Is (.tup [iv (fctN s e bet up), iv (fctD s e)])) := by
 obtain ⟨N, hN⟩ : ∃ N, N = fctN s e bet up := ⟨_, rfl⟩
 obtain ⟨D, hD⟩ : ∃ D, D = fctD s e := ⟨_, rfl⟩
 rw [← hN, ← hD]
 unfold fctN gain at hN
 unfold fctD at hD
 refine afn_of Tryz.func116 rfl mixed (by kernel_rfl) ?_
 conv=>whnf
 (refine acall [] (by kernel_rfl) (svalid2A s) rfl ?_ ?_; (focus trivial))
 conv=>whnf
 apply vif_split <;> intro h
 ·have hn : ¬ okS s := by simpa using h
  rw [if_neg (fun h' => hn h'.1)] at hN hD
  conv=>whnf
  exact aret [] ⟨ciZ hN.symm, ciZ hD.symm, trivial⟩
 have hs : okS s := by simpa using h
 conv=>whnf
 apply vif_split <;> intro h
 ·have hn : e < -1000 := by simpa using h
  rw [if_neg (fun h' => by have := h'.2; unfold okE at this; omega)] at hN hD
  conv=>whnf
  exact aret [] ⟨ciZ hN.symm, ciZ hD.symm, trivial⟩
 have he1 : ¬ e < -1000 := by simpa using h
 conv=>whnf
 apply vif_split <;> intro h
 ·have hn : 1000 < e := by simpa using h
  rw [if_neg (fun h' => by have := h'.2; unfold okE at this; omega)] at hN hD
  conv=>whnf
  exact aret [] ⟨ciZ hN.symm, ciZ hD.symm, trivial⟩
 have he2 : ¬ 1000 < e := by simpa using h
 have he : okE e := by unfold okE; omega
 rw [if_pos ⟨hs, he⟩] at hN hD
 obtain ⟨h1, h2, h3, h4, h5⟩ := hs
 have hm := mulS (a := s.unit) (b := e) (A := s.unit) (B := 1000) (by omega) (Int.le_refl _) (by omega) (by omega)
 conv=>whnf
 rcases hbet with rfl | rfl | rfl
 all_goals (repeat' (first
  | (apply vif_split <;> intro h <;> (first | (exfalso; simp at h; done) | (conv=>whnf)))
  | (refine AAr.i64 (by omega) ?_; conv=>whnf)))
 all_goals (first | (rw [if_pos (by assumption)] at hN) | (rw [if_neg (by simp_all)] at hN))
 all_goals exact aret [] ⟨ciZ hN.symm, ciZ hD.symm, trivial⟩
theorem fctN_rng (s : Sc) (e bet : Int) (up : Bool) (hbet : bet = 1 ∨ bet = 2 ∨ bet = 4) : -9223372036854775808 ≤ fctN s e bet up ∧ fctN s e bet up ≤ 9223372036854775807 := by
 unfold fctN gain
 by_cases h : okS s ∧ okE e
 ·rw [if_pos h]
  obtain ⟨⟨h1, h2, h3, h4, h5⟩, he⟩ := h
  unfold okE at he
  have hm := mulS (a := s.unit) (b := e) (A := s.unit) (B := 1000) (by omega) (Int.le_refl _) (by omega) (by omega)
  rcases hbet with rfl | rfl | rfl <;> split <;> omega
 ·rw [if_neg h]; omega
theorem growA (w num den : Int) (hn : I64 num) : AFn Tryz.prog G 135 [iv w, iv num, iv den] 0 [] (Is (iv (grw w num den))) := by
 obtain ⟨R, hR⟩ : ∃ R, R = grw w num den := ⟨_, rfl⟩
 rw [← hR]
 unfold grw at hR
 refine afn_of Tryz.func135 rfl mixed (by kernel_rfl) ?_
 conv=>whnf
 apply vif_split <;> intro h
 ·have hc : w < 0 := by simpa using h
  rw [if_pos (by omega)] at hR
  conv=>whnf
  exact aret [] (ciZ hR.symm)
 have c1 : ¬ w < 0 := by simpa using h
 conv=>whnf
 apply vif_split <;> intro h
 ·have hc : 2305843009213693952 < w := by simpa using h
  rw [if_pos (by omega)] at hR
  conv=>whnf
  exact aret [] (ciZ hR.symm)
 have c2 : ¬ 2305843009213693952 < w := by simpa using h
 conv=>whnf
 apply vif_split <;> intro h
 ·have hc : den < 1 := by simpa using h
  rw [if_pos (by omega)] at hR
  conv=>whnf
  exact aret [] (ciZ hR.symm)
 have c3 : ¬ den < 1 := by simpa using h
 conv=>whnf
 apply vif_split <;> intro h
 ·have hc : 4611686018427387904 < den := by simpa using h
  rw [if_pos (by omega)] at hR
  conv=>whnf
  exact aret [] (ciZ hR.symm)
 have c4 : ¬ 4611686018427387904 < den := by simpa using h
 conv=>whnf
 apply vif_split <;> intro h
 ·have hc : num < 0 := by simpa using h
  rw [if_pos (by omega)] at hR
  conv=>whnf
  exact aret [] (ciZ hR.symm)
 have c5 : ¬ num < 0 := by simpa using h
 rw [if_neg (by omega)] at hR
 obtain ⟨W, rfl⟩ : ∃ W : Nat, w = W := ⟨w.toNat, by omega⟩
 obtain ⟨M, rfl⟩ : ∃ M : Nat, num = M := ⟨num.toNat, by omega⟩
 obtain ⟨D, rfl⟩ : ∃ D : Nat, den = D := ⟨den.toNat, by omega⟩
 simp only [Int.toNat_natCast] at hR
 unfold I64 at hn
 conv=>whnf
 refine AAr.to (y := ((W : Nat) : Int)) (wr_u64 (n := W) (by omega)) ?_
 conv=>whnf
 refine AAr.to (y := ((M : Nat) : Int)) (wr_u64 (n := M) (by omega)) ?_
 conv=>whnf
 (refine acall [] (by kernel_rfl) (mul64A W M (by omega) (by omega)) rfl ?_ ?_; (focus trivial))
 conv=>whnf
 refine AAr.to (y := ((D : Nat) : Int)) (wr_u64 (n := D) (by omega)) ?_
 have hlo : W * M % 18446744073709551616 < 18446744073709551616 := Nat.mod_lt _ (by decide)
 generalize W * M / 18446744073709551616 = hi at *
 generalize W * M % 18446744073709551616 = lo at *
 conv=>whnf
 apply vif_split <;> intro h
 ·have hc : D ≤ hi := by simpa using h
  rw [if_pos hc] at hR
  conv=>whnf
  exact aret [] (ciZ hR.symm)
 have hc : ¬ D ≤ hi := by simpa using h
 rw [if_neg hc] at hR
 conv=>whnf
 refine AAr.to (y := ((D : Nat) : Int)) (wr_u64 (n := D) (by omega)) ?_
 conv=>whnf
 (refine acall [] (by kernel_rfl) (div64A hi lo D (by omega) hlo (by omega)) rfl ?_ ?_; (focus trivial))
 generalize divQ hi lo D = q at *
 conv=>whnf
 refine AAr.i64 (by omega) ?_
 conv=>whnf
 exact aret [] (ciZ (by rw [hR]; omega))
theorem grow2A (w num den : Int) (hn : I64 num) : AFn Tryz.prog G 112 [iv w, iv num, iv den] 0 [] (Is (iv (grw w num den))) := by
 obtain ⟨R, hR⟩ : ∃ R, R = grw w num den := ⟨_, rfl⟩
 rw [← hR]
 unfold grw at hR
 refine afn_of Tryz.func112 rfl mixed (by kernel_rfl) ?_
 conv=>whnf
 apply vif_split <;> intro h
 ·have hc : w < 0 := by simpa using h
  rw [if_pos (by omega)] at hR
  conv=>whnf
  exact aret [] (ciZ hR.symm)
 have c1 : ¬ w < 0 := by simpa using h
 conv=>whnf
 apply vif_split <;> intro h
 ·have hc : 2305843009213693952 < w := by simpa using h
  rw [if_pos (by omega)] at hR
  conv=>whnf
  exact aret [] (ciZ hR.symm)
 have c2 : ¬ 2305843009213693952 < w := by simpa using h
 conv=>whnf
 apply vif_split <;> intro h
 ·have hc : den < 1 := by simpa using h
  rw [if_pos (by omega)] at hR
  conv=>whnf
  exact aret [] (ciZ hR.symm)
 have c3 : ¬ den < 1 := by simpa using h
 conv=>whnf
 apply vif_split <;> intro h
 ·have hc : 4611686018427387904 < den := by simpa using h
  rw [if_pos (by omega)] at hR
  conv=>whnf
  exact aret [] (ciZ hR.symm)
 have c4 : ¬ 4611686018427387904 < den := by simpa using h
 conv=>whnf
 apply vif_split <;> intro h
 ·have hc : num < 0 := by simpa using h
  rw [if_pos (by omega)] at hR
  conv=>whnf
  exact aret [] (ciZ hR.symm)
 have c5 : ¬ num < 0 := by simpa using h
 rw [if_neg (by omega)] at hR
 obtain ⟨W, rfl⟩ : ∃ W : Nat, w = W := ⟨w.toNat, by omega⟩
 obtain ⟨M, rfl⟩ : ∃ M : Nat, num = M := ⟨num.toNat, by omega⟩
 obtain ⟨D, rfl⟩ : ∃ D : Nat, den = D := ⟨den.toNat, by omega⟩
 simp only [Int.toNat_natCast] at hR
 unfold I64 at hn
 conv=>whnf
 refine AAr.to (y := ((W : Nat) : Int)) (wr_u64 (n := W) (by omega)) ?_
 conv=>whnf
 refine AAr.to (y := ((M : Nat) : Int)) (wr_u64 (n := M) (by omega)) ?_
 conv=>whnf
 (refine acall [] (by kernel_rfl) (mul64A W M (by omega) (by omega)) rfl ?_ ?_; (focus trivial))
 conv=>whnf
 refine AAr.to (y := ((D : Nat) : Int)) (wr_u64 (n := D) (by omega)) ?_
 have hlo : W * M % 18446744073709551616 < 18446744073709551616 := Nat.mod_lt _ (by decide)
 generalize W * M / 18446744073709551616 = hi at *
 generalize W * M % 18446744073709551616 = lo at *
 conv=>whnf
 apply vif_split <;> intro h
 ·have hc : D ≤ hi := by simpa using h
  rw [if_pos hc] at hR
  conv=>whnf
  exact aret [] (ciZ hR.symm)
 have hc : ¬ D ≤ hi := by simpa using h
 rw [if_neg hc] at hR
 conv=>whnf
 refine AAr.to (y := ((D : Nat) : Int)) (wr_u64 (n := D) (by omega)) ?_
 conv=>whnf
 (refine acall [] (by kernel_rfl) (div64A hi lo D (by omega) hlo (by omega)) rfl ?_ ?_; (focus trivial))
 generalize divQ hi lo D = q at *
 conv=>whnf
 refine AAr.i64 (by omega) ?_
 conv=>whnf
 exact aret [] (ciZ (by rw [hR]; omega))
theorem app_int {n : Nat} (h : n ≤ 200000) : n * 8 ≤ 140737488355328 ∧ n ≤ maxLen := ⟨by omega, by unfold maxLen; omega⟩
structure K3 where
 j : Nat
 a : Int
 b : Int
 c : Int
 s : Int
def K3I (a0 b0 c0 a b c : Int) (x : K3) : Prop := x = ⟨0, a0, b0, c0, 0⟩ ∨ x = ⟨1, a, b0, c0, a⟩ ∨ x = ⟨2, a, b, c0, a + b⟩ ∨ x = ⟨3, a, b, c, a + b + c⟩
theorem pathA (l : List Sc) (e : Int) (up : Bool) (hl : l.length ≤ 100000) : AFn Tryz.prog G 127 [scL l, iv e, bv up] 0 [] (Is (li (pthS l e up))) := by
 obtain ⟨A, hA⟩ : ∃ A, A = pthS l e up := ⟨_, rfl⟩
 rw [← hA]
 refine afn_of Tryz.func127 rfl mixed (by kernel_rfl) ?_
 conv=>whnf
 refine aloop ws127_1 3 [9, 21] (fun i : Nat => [(9, .own 2), (21, iv i)]) (fun i => [(2, .rows 3 1 ((wsP e up (l.take i)).out.map enI)), (1, .var 199 [iv (wsP e up (l.take i)).a, iv (wsP e up (l.take i)).b, iv (wsP e up (l.take i)).c]), (0, .var 199 [iv 1, iv 2, iv 4])]) (fun i => i ≤ l.length) (fun i => l.length - i) [(2, .nil)] [] 0 (by kernel_rfl) (fun _ => rfl) rfl (Nat.zero_le _) (by trivial) (by trivial) ?_
 intro i hi
 have hok := wsP_ok e up (l.take i)
 rw [List.length_take, Nat.min_eq_left hi] at hok
 conv=>whnf
 apply vif_split <;> intro h
 rotate_left 1
 ·have hie : i = l.length := by simp at h; omega
  subst hie
  rw [List.take_length]
  conv=>whnf
  exact aend (li A) 0 [] [] [2] ⟨rfl, rfl, rfl⟩ rfl trivial ⟨rfl, rfl, by rw [hA]; rfl⟩
 have hlt : i < l.length := by simp at h; omega
 have hg := List.getElem?_eq_getElem hlt
 have hn := wsP_take (e := e) (up := up) hlt
 generalize l[i] = y at *
 generalize wsP e up (l.take i) = x at *
 obtain ⟨a0, b0, c0, out⟩ := x
 unfold wsN at hn
 dsimp only at hn
 have h1 := grw_rng a0 (fctN y e 1 up) (fctD y e)
 have h2 := grw_rng b0 (fctN y e 2 up) (fctD y e)
 have h3 := grw_rng c0 (fctN y e 4 up) (fctD y e)
 obtain ⟨a, ha⟩ : ∃ a, a = grw a0 (fctN y e 1 up) (fctD y e) := ⟨_, rfl⟩
 obtain ⟨b, hb⟩ : ∃ b, b = grw b0 (fctN y e 2 up) (fctD y e) := ⟨_, rfl⟩
 obtain ⟨c, hc⟩ : ∃ c, c = grw c0 (fctN y e 4 up) (fctD y e) := ⟨_, rfl⟩
 rw [← ha, ← hb, ← hc] at hn
 rw [← ha] at h1
 rw [← hb] at h2
 rw [← hc] at h3
 have hol : out.length = i := hok.len
 conv=>whnf
 refine AIn.mk' i rfl (lmZ hlt) ?_
 conv=>whnf
 refine ARd.mapAt hg ?_
 conv=>whnf
 refine aloop ws127_2 4 [12, 26] (fun x : K3 => [(12, iv x.s), (26, iv x.j)]) (fun x => [(3, .var 98 ((scF y).map FV.up)), (2, .rows 3 1 (out.map enI)), (1, .var 199 [iv x.a, iv x.b, iv x.c]), (0, .var 199 [iv 1, iv 2, iv 4])]) (K3I a0 b0 c0 a b c) (fun x => 3 - x.j) [] [] ⟨0, a0, b0, c0, 0⟩ (by kernel_rfl) (fun _ => rfl) rfl (.inl rfl) (by trivial) (by trivial) ?_
 rintro x (rfl | rfl | rfl | rfl)
 ·conv=>whnf
  refine AIn.mk' 0 rfl (by decide) ?_
  conv=>whnf
  (refine acall [] (by kernel_rfl) (fctA y e 1 up (by decide)) rfl ?_ ?_; (focus trivial))
  conv=>whnf
  refine AIn.mk' 0 rfl (by decide) ?_
  conv=>whnf
  (refine acall [] (by kernel_rfl) (growA a0 (fctN y e 1 up) (fctD y e) (fctN_rng _ _ _ _ (by decide))) rfl ?_ ?_; (focus trivial))
  rw [← ha]
  conv=>whnf
  refine AIn.mk' 0 rfl (by decide) ?_
  conv=>whnf
  refine AIn.mk' 0 rfl (by decide) ?_
  conv=>whnf
  refine AAr.i64 (by show _ ≤ 0 + a ∧ 0 + a ≤ _; omega) ?_
  conv=>whnf
  refine AAr.i64 (by dsimp only; decide) ?_
  conv=>whnf
  exact aback ⟨1, a, b0, c0, a⟩ [] [] rfl (by show 3 - (0 + 1) < 3 - 0; decide) (.inr (.inl rfl)) (by trivial) ⟨ciZ (Int.zero_add a), rfl, trivial⟩
 ·conv=>whnf
  refine AIn.mk' 1 rfl (by decide) ?_
  conv=>whnf
  (refine acall [] (by kernel_rfl) (fctA y e 2 up (by decide)) rfl ?_ ?_; (focus trivial))
  conv=>whnf
  refine AIn.mk' 1 rfl (by decide) ?_
  conv=>whnf
  (refine acall [] (by kernel_rfl) (growA b0 (fctN y e 2 up) (fctD y e) (fctN_rng _ _ _ _ (by decide))) rfl ?_ ?_; (focus trivial))
  rw [← hb]
  conv=>whnf
  refine AIn.mk' 1 rfl (by decide) ?_
  conv=>whnf
  refine AIn.mk' 1 rfl (by decide) ?_
  conv=>whnf
  refine AAr.i64 (by show _ ≤ a + b ∧ a + b ≤ _; omega) ?_
  conv=>whnf
  refine AAr.i64 (by dsimp only; decide) ?_
  conv=>whnf
  exact aback ⟨2, a, b, c0, a + b⟩ [] [] rfl (by show 3 - (1 + 1) < 3 - 1; decide) (.inr (.inr (.inl rfl))) (by trivial) (by trivial)
 ·conv=>whnf
  refine AIn.mk' 2 rfl (by decide) ?_
  conv=>whnf
  (refine acall [] (by kernel_rfl) (fctA y e 4 up (by decide)) rfl ?_ ?_; (focus trivial))
  conv=>whnf
  refine AIn.mk' 2 rfl (by decide) ?_
  conv=>whnf
  (refine acall [] (by kernel_rfl) (growA c0 (fctN y e 4 up) (fctD y e) (fctN_rng _ _ _ _ (by decide))) rfl ?_ ?_; (focus trivial))
  rw [← hc]
  conv=>whnf
  refine AIn.mk' 2 rfl (by decide) ?_
  conv=>whnf
  refine AIn.mk' 2 rfl (by decide) ?_
  conv=>whnf
  refine AAr.i64 (by show _ ≤ a + b + c ∧ a + b + c ≤ _; omega) ?_
  conv=>whnf
  refine AAr.i64 (by dsimp only; decide) ?_
  conv=>whnf
  exact aback ⟨3, a, b, c, a + b + c⟩ [] [] rfl (by show 3 - (2 + 1) < 3 - 2; decide) (.inr (.inr (.inr rfl))) (by trivial) (by trivial)
 ·conv=>whnf
  refine VReq.mk (by decide) ?_
  conv=>whnf
  have hd : -9223372036854775808 ≤ (a + b + c).tdiv 3 ∧ (a + b + c).tdiv 3 ≤ 9223372036854775807 := by
   rw [Int.tdiv_eq_ediv_of_nonneg (by omega)]; omega
  refine AAr.i64 hd ?_
  conv=>whnf
  refine VReq.mk (app_int (by simp only [List.length_map, List.length_cons, List.length_nil]; omega)) ?_
  conv=>whnf
  refine AAr.i64 (by omega) ?_
  conv=>whnf
  refine aback (i + 1) [(2, .lab 5)] [] rfl (by show l.length - (i + 1) < l.length - i; omega) hlt ⟨⟨rfl, rfl, ?_⟩, ?_, (by trivial), trivial⟩ (by trivial)
  ·rw [hn, List.map_append]; rfl
  ·rw [hn]; trivial
theorem path2A (l : List Sc) (e : Int) (up : Bool) (hl : l.length ≤ 100000) : AFn Tryz.prog G 86 [scL l, iv e, bv up] 0 [] (Is (li (pthS l e up))) := by
 obtain ⟨A, hA⟩ : ∃ A, A = pthS l e up := ⟨_, rfl⟩
 rw [← hA]
 refine afn_of Tryz.func86 rfl mixed (by kernel_rfl) ?_
 conv=>whnf
 refine aloop ws86_1 3 [9, 10] (fun i : Nat => [(9, .own 2), (10, iv i)]) (fun i => [(2, .rows 3 1 ((wsP e up (l.take i)).out.map enI)), (1, .rows 3 1 [[.v (.int .i64 1)], [.v (.int .i64 2)], [.v (.int .i64 4)]]), (0, .rows 3 1 [[.v (.int .i64 (wsP e up (l.take i)).a)], [.v (.int .i64 (wsP e up (l.take i)).b)], [.v (.int .i64 (wsP e up (l.take i)).c)]])]) (fun i => i ≤ l.length) (fun i => l.length - i) [(2, .nil)] [] 0 (by kernel_rfl) (fun _ => rfl) rfl (Nat.zero_le _) (by trivial) (by trivial) ?_
 intro i hi
 have hok := wsP_ok e up (l.take i)
 rw [List.length_take, Nat.min_eq_left hi] at hok
 conv=>whnf
 apply vif_split <;> intro h
 rotate_left 1
 ·have hie : i = l.length := by simp at h; omega
  subst hie
  rw [List.take_length]
  conv=>whnf
  exact aend (li A) 0 [] [] [2] ⟨rfl, rfl, rfl⟩ rfl trivial ⟨rfl, rfl, by rw [hA]; rfl⟩
 have hlt : i < l.length := by simp at h; omega
 have hg := List.getElem?_eq_getElem hlt
 have hn := wsP_take (e := e) (up := up) hlt
 generalize l[i] = y at *
 generalize wsP e up (l.take i) = x at *
 obtain ⟨a0, b0, c0, out⟩ := x
 unfold wsN at hn
 dsimp only at hn
 have h1 := grw_rng a0 (fctN y e 1 up) (fctD y e)
 have h2 := grw_rng b0 (fctN y e 2 up) (fctD y e)
 have h3 := grw_rng c0 (fctN y e 4 up) (fctD y e)
 obtain ⟨a, ha⟩ : ∃ a, a = grw a0 (fctN y e 1 up) (fctD y e) := ⟨_, rfl⟩
 obtain ⟨b, hb⟩ : ∃ b, b = grw b0 (fctN y e 2 up) (fctD y e) := ⟨_, rfl⟩
 obtain ⟨c, hc⟩ : ∃ c, c = grw c0 (fctN y e 4 up) (fctD y e) := ⟨_, rfl⟩
 rw [← ha, ← hb, ← hc] at hn
 rw [← ha] at h1
 rw [← hb] at h2
 rw [← hc] at h3
 have hol : out.length = i := hok.len
 conv=>whnf
 refine aloop ws86_2 3 [11] (fun x : K3 => [(11, iv x.j)]) (fun x => [(2, .rows 3 1 (out.map enI)), (1, .rows 3 1 [[.v (.int .i64 1)], [.v (.int .i64 2)], [.v (.int .i64 4)]]), (0, .rows 3 1 [[.v (.int .i64 x.a)], [.v (.int .i64 x.b)], [.v (.int .i64 x.c)]])]) (K3I a0 b0 c0 a b c) (fun x => 3 - x.j) [] [] ⟨0, a0, b0, c0, 0⟩ (by kernel_rfl) (fun _ => rfl) rfl (.inl rfl) (by trivial) (by trivial) ?_
 rintro x (rfl | rfl | rfl | rfl)
 ·conv=>whnf
  (refine adraw pln86 [] (by kernel_rfl) ?_; conv=>whnf)
  repeat' (first
   | (refine And.intro ?_ ?_ <;> (conv=>whnf))
   | (refine AIn.mk' i rfl (lmZ hlt) ?_; conv=>whnf)
   | (refine ARd.mapAt hg ?_; conv=>whnf)
   | (refine AIn.mk' 0 rfl (show 0 < 3 by decide) ?_; conv=>whnf)
   | (refine ARd.at rfl ?_; conv=>whnf)
   | ((refine acall [] (by kernel_rfl) (fct2A y e 1 up (by decide)) rfl ?_ ?_; (focus (trivial; done)); (conv=>whnf))))
  (refine acall [] (by kernel_rfl) (grow2A a0 (fctN y e 1 up) (fctD y e) (fctN_rng _ _ _ _ (by decide))) rfl ?_ ?_; (focus trivial))
  rw [← ha]
  conv=>whnf
  repeat' (first
   | (refine AIn.mk' 0 rfl (show 0 < 3 by decide) ?_; conv=>whnf)
   | (refine ARd.at rfl ?_; conv=>whnf))
  refine AAr.i64 (by dsimp only; decide) ?_
  conv=>whnf
  exact aback ⟨1, a, b0, c0, a⟩ [] [] rfl (by show 3 - (0 + 1) < 3 - 0; decide) (.inr (.inl rfl)) (by trivial) (by trivial)
 ·conv=>whnf
  (refine adraw pln86 [] (by kernel_rfl) ?_; conv=>whnf)
  repeat' (first
   | (refine And.intro ?_ ?_ <;> (conv=>whnf))
   | (refine AIn.mk' i rfl (lmZ hlt) ?_; conv=>whnf)
   | (refine ARd.mapAt hg ?_; conv=>whnf)
   | (refine AIn.mk' 1 rfl (show 1 < 3 by decide) ?_; conv=>whnf)
   | (refine ARd.at rfl ?_; conv=>whnf)
   | ((refine acall [] (by kernel_rfl) (fct2A y e 2 up (by decide)) rfl ?_ ?_; (focus (trivial; done)); (conv=>whnf))))
  (refine acall [] (by kernel_rfl) (grow2A b0 (fctN y e 2 up) (fctD y e) (fctN_rng _ _ _ _ (by decide))) rfl ?_ ?_; (focus trivial))
  rw [← hb]
  conv=>whnf
  repeat' (first
   | (refine AIn.mk' 1 rfl (show 1 < 3 by decide) ?_; conv=>whnf)
   | (refine ARd.at rfl ?_; conv=>whnf))
  refine AAr.i64 (by dsimp only; decide) ?_
  conv=>whnf
  exact aback ⟨2, a, b, c0, a + b⟩ [] [] rfl (by show 3 - (1 + 1) < 3 - 1; decide) (.inr (.inr (.inl rfl))) (by trivial) (by trivial)
 ·conv=>whnf
  (refine adraw pln86 [] (by kernel_rfl) ?_; conv=>whnf)
  repeat' (first
   | (refine And.intro ?_ ?_ <;> (conv=>whnf))
   | (refine AIn.mk' i rfl (lmZ hlt) ?_; conv=>whnf)
   | (refine ARd.mapAt hg ?_; conv=>whnf)
   | (refine AIn.mk' 2 rfl (show 2 < 3 by decide) ?_; conv=>whnf)
   | (refine ARd.at rfl ?_; conv=>whnf)
   | ((refine acall [] (by kernel_rfl) (fct2A y e 4 up (by decide)) rfl ?_ ?_; (focus (trivial; done)); (conv=>whnf))))
  (refine acall [] (by kernel_rfl) (grow2A c0 (fctN y e 4 up) (fctD y e) (fctN_rng _ _ _ _ (by decide))) rfl ?_ ?_; (focus trivial))
  rw [← hc]
  conv=>whnf
  repeat' (first
   | (refine AIn.mk' 2 rfl (show 2 < 3 by decide) ?_; conv=>whnf)
   | (refine ARd.at rfl ?_; conv=>whnf))
  refine AAr.i64 (by dsimp only; decide) ?_
  conv=>whnf
  exact aback ⟨3, a, b, c, a + b + c⟩ [] [] rfl (by show 3 - (2 + 1) < 3 - 2; decide) (.inr (.inr (.inr rfl))) (by trivial) (by trivial)
 ·have hd : -9223372036854775808 ≤ (a + b + c).tdiv 3 ∧ (a + b + c).tdiv 3 ≤ 9223372036854775807 := by
   rw [Int.tdiv_eq_ediv_of_nonneg (by omega)]; omega
  conv=>whnf
  (refine adraw pln86 [] (by kernel_rfl) ?_; conv=>whnf)
  repeat' (first
   | (refine And.intro ?_ ?_ <;> (conv=>whnf))
   | (refine AIn.mk' 0 rfl (show 0 < 3 by decide) ?_; conv=>whnf)
   | (refine AIn.mk' 1 rfl (show 1 < 3 by decide) ?_; conv=>whnf)
   | (refine AIn.mk' 2 rfl (show 2 < 3 by decide) ?_; conv=>whnf)
   | (refine ARd.at rfl ?_; conv=>whnf)
   | (refine VReq.mk (by decide) ?_; conv=>whnf)
   | (refine AAr.i64 hd ?_; conv=>whnf)
   | (refine AAr.i64 (by (try dsimp only); omega) ?_; conv=>whnf)
   | (refine VReq.mk (app_int (by simp only [List.length_map, List.length_cons, List.length_nil]; omega)) ?_; conv=>whnf))
  refine aback (i + 1) [(2, .lab 4)] [] rfl (by show l.length - (i + 1) < l.length - i; omega) hlt ⟨⟨rfl, rfl, ?_⟩, (by trivial), ?_, trivial⟩ (by trivial)
  ·rw [hn, List.map_append]; rfl
  ·rw [hn]; trivial
theorem tdiv_in {a b : Int} (hb : 0 < b) (ha : 0 ≤ a) (h : a ≤ 9223372036854775807) : -9223372036854775808 ≤ a.tdiv b ∧ a.tdiv b ≤ 9223372036854775807 := by
 have := tdiv_le' hb ha (c := 9223372036854775807) (Int.le_trans h (by
  have := Int.mul_le_mul_of_nonneg_left (show (1 : Int) ≤ b by omega) (show (0 : Int) ≤ 9223372036854775807 by decide)
  omega))
 omega
theorem threshA (level sides : Int) : AFn Tryz.prog G 70 [iv level, iv sides] 0 [] (Is (iv (thr level sides))) := by
 obtain ⟨R, hR⟩ : ∃ R, R = thr level sides := ⟨_, rfl⟩
 rw [← hR]
 unfold thr at hR
 refine afn_of Tryz.func70 rfl mixed (by kernel_rfl) ?_
 conv=>whnf
 apply vif_split <;> intro h
 ·have hc : level < 1 := by simpa using h
  rw [if_pos (by omega)] at hR
  conv=>whnf
  exact aret [] (ciZ hR.symm)
 have c1 : ¬ level < 1 := by simpa using h
 conv=>whnf
 apply vif_split <;> intro h
 ·have hc : 999 < level := by simpa using h
  rw [if_pos (by omega)] at hR
  conv=>whnf
  exact aret [] (ciZ hR.symm)
 have c2 : ¬ 999 < level := by simpa using h
 conv=>whnf
 apply vif_split <;> intro h
 ·have hc : sides < 1 := by simpa using h
  rw [if_pos (by omega)] at hR
  conv=>whnf
  exact aret [] (ciZ hR.symm)
 have c3 : ¬ sides < 1 := by simpa using h
 conv=>whnf
 apply vif_split <;> intro h
 ·have hc : 1000 < sides := by simpa using h
  rw [if_pos (by omega)] at hR
  conv=>whnf
  exact aret [] (ciZ hR.symm)
 have c4 : ¬ 1000 < sides := by simpa using h
 rw [if_neg (by omega)] at hR
 conv=>whnf
 repeat' (first
  | (refine VReq.mk (by omega) ?_; conv=>whnf)
  | (refine AAr.i64 (by omega) ?_; conv=>whnf)
  | (refine AAr.i64 (tdiv_in (by omega) (by omega) (by omega)) ?_; conv=>whnf))
 exact aret [] (ciZ hR.symm)
theorem thresh2A (level sides : Int) : AFn Tryz.prog G 52 [iv level, iv sides] 0 [] (Is (iv (thr level sides))) := by
 obtain ⟨R, hR⟩ : ∃ R, R = thr level sides := ⟨_, rfl⟩
 rw [← hR]
 unfold thr at hR
 refine afn_of Tryz.func52 rfl mixed (by kernel_rfl) ?_
 conv=>whnf
 apply vif_split <;> intro h
 ·have hc : level < 1 := by simpa using h
  rw [if_pos (by omega)] at hR
  conv=>whnf
  exact aret [] (ciZ hR.symm)
 have c1 : ¬ level < 1 := by simpa using h
 conv=>whnf
 apply vif_split <;> intro h
 ·have hc : 999 < level := by simpa using h
  rw [if_pos (by omega)] at hR
  conv=>whnf
  exact aret [] (ciZ hR.symm)
 have c2 : ¬ 999 < level := by simpa using h
 conv=>whnf
 apply vif_split <;> intro h
 ·have hc : sides < 1 := by simpa using h
  rw [if_pos (by omega)] at hR
  conv=>whnf
  exact aret [] (ciZ hR.symm)
 have c3 : ¬ sides < 1 := by simpa using h
 conv=>whnf
 apply vif_split <;> intro h
 ·have hc : 1000 < sides := by simpa using h
  rw [if_pos (by omega)] at hR
  conv=>whnf
  exact aret [] (ciZ hR.symm)
 have c4 : ¬ 1000 < sides := by simpa using h
 rw [if_neg (by omega)] at hR
 conv=>whnf
 repeat' (first
  | (refine VReq.mk (by omega) ?_; conv=>whnf)
  | (refine AAr.i64 (by omega) ?_; conv=>whnf)
  | (refine AAr.i64 (tdiv_in (by omega) (by omega) (by omega)) ?_; conv=>whnf))
 exact aret [] (ciZ hR.symm)
theorem wfirstA (l : Li) (t : Int) (hl : l.length ≤ 1000000) : AFn Tryz.prog G 69 [li l, iv t] 0 [] (Is (iv ((fst1 l t : Nat) : Int))) := by
 obtain ⟨A, hA⟩ : ∃ A, A = fst1 l t := ⟨_, rfl⟩
 rw [← hA]
 refine afn_of Tryz.func69 rfl mixed (by kernel_rfl) ?_
 conv=>whnf
 refine aloop ws69_1 0 [9] (fun i : Nat => [(9, iv i)]) (fun _ => []) (fun i => i ≤ l.length ∧ fstT (l.drop i) t i = A) (fun i => l.length - i) [] [] 0 (by kernel_rfl) (fun _ => rfl) rfl ⟨Nat.zero_le _, by rw [hA]; rfl⟩ (by trivial) (by trivial) ?_
 rintro i ⟨hi, hR⟩
 conv=>whnf
 apply vif_split <;> intro h
 rotate_left 1
 ·have hie : i = l.length := by simp at h; omega
  subst hie
  rw [List.drop_length] at hR
  simp only [fstT] at hR
  conv=>whnf
  exact aret [] (congrArg (fun n : Nat => Value.int .i64 (n : Int)) hR)
 have hlt : i < l.length := by simp at h; omega
 have hg := List.getElem?_eq_getElem hlt
 rw [fstT_drop hlt] at hR
 generalize l[i] = y at *
 conv=>whnf
 refine AIn.mk' i rfl (lmZ hlt) ?_
 conv=>whnf
 refine ARd.mapAt hg ?_
 conv=>whnf
 refine vif_split (fun h1 => ?_) (fun h1 => ?_)
 ·rw [if_pos (by simpa using h1)] at hR
  conv=>whnf
  refine AAr.i64 (by omega) ?_
  conv=>whnf
  exact aret [] (ciZ (by omega))
 ·rw [if_neg (by simpa using h1)] at hR
  conv=>whnf
  refine AAr.i64 (by omega) ?_
  conv=>whnf
  exact aback (i + 1) [] [] rfl (by show l.length - (i + 1) < l.length - i; omega) ⟨hlt, hR⟩ (by trivial) (by trivial)
theorem wfirst2A (l : Li) (t : Int) (hl : l.length ≤ 1000000) : AFn Tryz.prog G 51 [li l, iv t] 0 [] (Is (iv ((fst1 l t : Nat) : Int))) := by
 obtain ⟨A, hA⟩ : ∃ A, A = fst1 l t := ⟨_, rfl⟩
 rw [← hA]
 refine afn_of Tryz.func51 rfl mixed (by kernel_rfl) ?_
 conv=>whnf
 refine aloop ws51_1 0 [5] (fun i : Nat => [(5, iv i)]) (fun _ => []) (fun i => i ≤ l.length ∧ fstT (l.drop i) t i = A) (fun i => l.length - i) [] [] 0 (by kernel_rfl) (fun _ => rfl) rfl ⟨Nat.zero_le _, by rw [hA]; rfl⟩ (by trivial) (by trivial) ?_
 rintro i ⟨hi, hR⟩
 conv=>whnf
 apply vif_split <;> intro h
 rotate_left 1
 ·have hie : i = l.length := by simp at h; omega
  subst hie
  rw [List.drop_length] at hR
  simp only [fstT] at hR
  conv=>whnf
  exact aret [] (congrArg (fun n : Nat => Value.int .i64 (n : Int)) hR)
 have hlt : i < l.length := by simp at h; omega
 have hg := List.getElem?_eq_getElem hlt
 rw [fstT_drop hlt] at hR
 generalize l[i] = y at *
 conv=>whnf
 refine AIn.mk' i rfl (lmZ hlt) ?_
 conv=>whnf
 refine ARd.mapAt hg ?_
 conv=>whnf
 refine vif_split (fun h1 => ?_) (fun h1 => ?_)
 ·rw [if_pos (by simpa using h1)] at hR
  conv=>whnf
  refine AAr.i64 (by omega) ?_
  conv=>whnf
  exact aret [] (ciZ (by omega))
 ·rw [if_neg (by simpa using h1)] at hR
  conv=>whnf
  refine AAr.i64 (by omega) ?_
  conv=>whnf
  exact aback (i + 1) [] [] rfl (by show l.length - (i + 1) < l.length - i; omega) ⟨hlt, hR⟩ (by trivial) (by trivial)
end
end
end Go.Proofs.YtgfgndaoocfpdaaGreatDoor.Cl
