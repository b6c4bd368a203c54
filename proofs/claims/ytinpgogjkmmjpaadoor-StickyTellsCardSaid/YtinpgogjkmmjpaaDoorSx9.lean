/- The walks of SameSlots, SameLinks and Same. Condition: as Sx1's. The walks of Assign: its answers' encodings and the failing closure. Condition: as Sx1's. -/
import Derived.Test.YtinpgogjkmmjpaaDoorSx7
set_option linter.unusedVariables false
set_option linter.unusedSimpArgs false
namespace Go.Proofs.YtinpgogjkmmjpaaDoor.Sx
open Go Go.RowKit Go.Proofs.YtinpgogjkmmjpaaDoor.Vc Go.Proofs.YtinpgogjkmmjpaaDoor.Ax Go.Proofs.YtinpgogjkmmjpaaDoor.Ky Go.Proofs.YtinpgogjkmmjpaaDoor.Id Go.Proofs.YtinpgogjkmmjpaaDoor.Sp

theorem list_eq_at {α : Type} {a b : List α} (h : a.length = b.length) (h2 : ∀ j (h1 : j < a.length) (h2 : j < b.length), a[j] = b[j]) : a = b := List.ext_getElem h h2
set_option maxHeartbeats 4000000 in
set_option maxRecDepth 100000 in
theorem sameSA (a b : List Sl) (ha : a.length ≤ 1000000) (hb : b.length ≤ 1000000) : AFn Tryd.prog GS 17 [slsA a, slsA b] 0 [] (Is (bv (decide (a = b)))) := by
  refine afn_of Tryd.func17 rfl mixed (by kernel_rfl) ?_
  conv => whnf
  (refine vif_split (fun h => ?_) (fun h => ?_) <;> (try simp only [sEqD, cond_true, cond_false, Bool.not_eq_true', Bool.not_eq_false', decide_eq_true_eq, decide_eq_false_iff_not, beq_iff_eq, bne_iff_ne, beq_eq_false_iff_ne, bne_eq_false_iff_eq, ne_eq, Bool.not_eq_eq_eq_not, Bool.not_true, Bool.not_false, Bool.false_eq_true, Bool.true_eq_false, Decidable.not_not, gt_iff_lt, ge_iff_le, Int.not_lt, Int.not_le] at h) <;> (conv => whnf))
  · (refine aret [] ?_; refine congrArg Value.bool ?_)
    exact (decide_eq_false fun e => h (by rw [e])).symm
  have hl : a.length = b.length := by simp only [List.length_map] at h; omega
  refine aloopH ws17_1 [5] (fun k : Nat => [(5, iv k)]) (fun k => k ≤ a.length ∧ ∀ j (h1 : j < k) (h2 : j < a.length) (h3 : j < b.length), a[j] = b[j]) (fun k => a.length - k) 0 (by kernel_rfl) (fun _ => rfl) (by kernel_rfl) ⟨Nat.zero_le _, fun j h1 => absurd h1 (Nat.not_lt_zero j)⟩ (by repeat' (first | rfl | trivial | apply And.intro)) (by repeat' (first | rfl | trivial | apply And.intro)) ?_
  rintro k ⟨hk, hno⟩
  conv => whnf
  refine vif_split (fun hlt => ?_) (fun hge => ?_)
  · have hlt : k < a.length := by simp at hlt; omega
    conv => whnf
    have hlb : k < b.length := by omega
    have next : a[k] = b[k] → k + 1 ≤ a.length ∧ ∀ j (h1 : j < k + 1) (h2 : j < a.length) (h3 : j < b.length), a[j] = b[j] := fun e => ⟨by omega, fun j h1 h2 h3 => by
      rcases Nat.lt_or_ge j k with h4 | h4
      · exact hno j h4 h2 h3
      · have : j = k := by omega
        subst this; exact e⟩
    have ne : a[k] ≠ b[k] → a ≠ b := fun h e => h (by simp only [e])
    obtain ⟨x, hx⟩ : ∃ x, x = a[k] := ⟨_, rfl⟩
    obtain ⟨y, hy⟩ : ∃ y, y = b[k] := ⟨_, rfl⟩
    rw [← hx, ← hy] at next ne
    (repeat (first | (refine AAr.i64 (by omega) ?_; conv => whnf) | (refine AIn.mk' _ rfl (by simp only [List.length_map, List.length_append, List.length_cons, List.length_nil, List.length_take, List.length_drop]; omega) ?_; conv => whnf) | (refine ARd.map (by omega) ?_; conv => whnf) | (refine VReq.mk (by first | decide | omega) ?_; conv => whnf) | (refine AEq.mk rfl rfl rfl ?_; conv => whnf)))
    try ((refine adraw pln17 [] (by kernel_rfl) ?_; conv => whnf))
    (repeat (first | (refine AAr.i64 (by omega) ?_; conv => whnf) | (refine AIn.mk' _ rfl (by simp only [List.length_map, List.length_append, List.length_cons, List.length_nil, List.length_take, List.length_drop]; omega) ?_; conv => whnf) | (refine ARd.map (by omega) ?_; conv => whnf) | (refine VReq.mk (by first | decide | omega) ?_; conv => whnf) | (refine AEq.mk rfl rfl rfl ?_; conv => whnf)))
    rw [← hx, ← hy]
    refine AEq.mk (by kernel_rfl) rfl rfl ?_
    conv => whnf
    refine vif_split (fun h => ?_) (fun h => ?_)
    · conv => whnf
      (refine aret [] ?_; refine congrArg Value.bool ?_)
      refine (decide_eq_false (ne fun e => ?_)).symm
      subst e
      simp [sEqD] at h
    · conv => whnf
      have e : x = y := by
        cases x; cases y
        simp [sEqD] at h
        simp [*]
      (repeat' (first | (refine And.intro ?_ ?_ <;> (conv => whnf)) | (refine vif_split (fun h => ?_) (fun h => ?_) <;> (try simp only [sEqD, cond_true, cond_false, Bool.not_eq_true', Bool.not_eq_false', decide_eq_true_eq, decide_eq_false_iff_not, beq_iff_eq, bne_iff_ne, beq_eq_false_iff_ne, bne_eq_false_iff_eq, ne_eq, Bool.not_eq_eq_eq_not, Bool.not_true, Bool.not_false, Bool.false_eq_true, Bool.true_eq_false, Decidable.not_not, gt_iff_lt, ge_iff_le, Int.not_lt, Int.not_le] at h) <;> (conv => whnf)) | (refine AAr.i64 (by first | omega | ((try simp only [List.length_map] at *); omega)) ?_; conv => whnf) | (refine AIn.mk' _ rfl (by first | omega | (simp only [List.length_map, List.length_append, List.length_cons, List.length_nil, List.length_take, List.length_drop, List.length_set, List.length_replicate]; omega) | (simp only [List.length_map, List.length_append, List.length_cons, List.length_nil, List.length_take, List.length_drop, List.length_set, List.length_replicate] at *; omega)) ?_; conv => whnf) | (refine ARd.mapAt (by assumption) ?_; conv => whnf) | (refine ARd.set (by (try simp only [List.length_map, List.length_append, List.length_cons, List.length_nil, List.length_take, List.length_drop, List.length_set, List.length_replicate] at *); omega) ?_; conv => whnf) | (refine ARd.map (by first | omega | (simp only [List.length_map] at *; omega)) ?_; conv => whnf) | (refine VReq.mk (by first | decide | omega) ?_; conv => whnf) | (refine AEq.mk (by kernel_rfl) rfl rfl ?_; conv => whnf) | (refine VReq.mk (app_ok (by (try simp only [List.length_map, List.length_append, List.length_cons, List.length_nil, List.length_take, List.length_drop, List.length_set, List.length_replicate] at *); omega) (by kernel_rfl)) ?_; conv => whnf)))
      (refine aback (k + 1) [] [] ?_ ?_ ?_ ?_ ?_; (focus rfl); rotate_left 2; (focus (repeat' (first | rfl | trivial | apply And.intro))); (focus (repeat' (first | rfl | trivial | apply And.intro))))
      · omega
      · exact next e
  · have : k = a.length := by simp at hge; omega
    subst this
    conv => whnf
    (refine aret [] ?_; refine congrArg Value.bool ?_)
    exact (decide_eq_true (list_eq_at hl fun j h1 h2 => hno j h1 h1 h2)).symm
set_option maxHeartbeats 4000000 in
set_option maxRecDepth 100000 in
theorem sameLA (a b : List Lk) (ha : a.length ≤ 1000000) (hb : b.length ≤ 1000000) : AFn Tryd.prog GS 26 [lksA a, lksA b] 0 [] (Is (bv (decide (a = b)))) := by
  refine afn_of Tryd.func26 rfl mixed (by kernel_rfl) ?_
  conv => whnf
  (refine vif_split (fun h => ?_) (fun h => ?_) <;> (try simp only [sEqD, cond_true, cond_false, Bool.not_eq_true', Bool.not_eq_false', decide_eq_true_eq, decide_eq_false_iff_not, beq_iff_eq, bne_iff_ne, beq_eq_false_iff_ne, bne_eq_false_iff_eq, ne_eq, Bool.not_eq_eq_eq_not, Bool.not_true, Bool.not_false, Bool.false_eq_true, Bool.true_eq_false, Decidable.not_not, gt_iff_lt, ge_iff_le, Int.not_lt, Int.not_le] at h) <;> (conv => whnf))
  · (refine aret [] ?_; refine congrArg Value.bool ?_)
    exact (decide_eq_false fun e => h (by rw [e])).symm
  have hl : a.length = b.length := by simp only [List.length_map] at h; omega
  refine aloopH ws26_1 [5] (fun k : Nat => [(5, iv k)]) (fun k => k ≤ a.length ∧ ∀ j (h1 : j < k) (h2 : j < a.length) (h3 : j < b.length), a[j] = b[j]) (fun k => a.length - k) 0 (by kernel_rfl) (fun _ => rfl) (by kernel_rfl) ⟨Nat.zero_le _, fun j h1 => absurd h1 (Nat.not_lt_zero j)⟩ (by repeat' (first | rfl | trivial | apply And.intro)) (by repeat' (first | rfl | trivial | apply And.intro)) ?_
  rintro k ⟨hk, hno⟩
  conv => whnf
  refine vif_split (fun hlt => ?_) (fun hge => ?_)
  · have hlt : k < a.length := by simp at hlt; omega
    conv => whnf
    have hlb : k < b.length := by omega
    have next : a[k] = b[k] → k + 1 ≤ a.length ∧ ∀ j (h1 : j < k + 1) (h2 : j < a.length) (h3 : j < b.length), a[j] = b[j] := fun e => ⟨by omega, fun j h1 h2 h3 => by
      rcases Nat.lt_or_ge j k with h4 | h4
      · exact hno j h4 h2 h3
      · have : j = k := by omega
        subst this; exact e⟩
    have ne : a[k] ≠ b[k] → a ≠ b := fun h e => h (by simp only [e])
    obtain ⟨x, hx⟩ : ∃ x, x = a[k] := ⟨_, rfl⟩
    obtain ⟨y, hy⟩ : ∃ y, y = b[k] := ⟨_, rfl⟩
    rw [← hx, ← hy] at next ne
    (repeat (first | (refine AAr.i64 (by omega) ?_; conv => whnf) | (refine AIn.mk' _ rfl (by simp only [List.length_map, List.length_append, List.length_cons, List.length_nil, List.length_take, List.length_drop]; omega) ?_; conv => whnf) | (refine ARd.map (by omega) ?_; conv => whnf) | (refine VReq.mk (by first | decide | omega) ?_; conv => whnf) | (refine AEq.mk rfl rfl rfl ?_; conv => whnf)))
    try ((refine adraw pln26 [] (by kernel_rfl) ?_; conv => whnf))
    (repeat (first | (refine AAr.i64 (by omega) ?_; conv => whnf) | (refine AIn.mk' _ rfl (by simp only [List.length_map, List.length_append, List.length_cons, List.length_nil, List.length_take, List.length_drop]; omega) ?_; conv => whnf) | (refine ARd.map (by omega) ?_; conv => whnf) | (refine VReq.mk (by first | decide | omega) ?_; conv => whnf) | (refine AEq.mk rfl rfl rfl ?_; conv => whnf)))
    rw [← hx, ← hy]
    refine AEq.mk (by kernel_rfl) rfl rfl ?_
    conv => whnf
    refine vif_split (fun h => ?_) (fun h => ?_)
    · conv => whnf
      (refine aret [] ?_; refine congrArg Value.bool ?_)
      refine (decide_eq_false (ne fun e => ?_)).symm
      subst e
      simp [sEqD] at h
    · conv => whnf
      have e : x = y := by
        cases x; cases y
        simp [sEqD] at h
        simp [*]
      (repeat' (first | (refine And.intro ?_ ?_ <;> (conv => whnf)) | (refine vif_split (fun h => ?_) (fun h => ?_) <;> (try simp only [sEqD, cond_true, cond_false, Bool.not_eq_true', Bool.not_eq_false', decide_eq_true_eq, decide_eq_false_iff_not, beq_iff_eq, bne_iff_ne, beq_eq_false_iff_ne, bne_eq_false_iff_eq, ne_eq, Bool.not_eq_eq_eq_not, Bool.not_true, Bool.not_false, Bool.false_eq_true, Bool.true_eq_false, Decidable.not_not, gt_iff_lt, ge_iff_le, Int.not_lt, Int.not_le] at h) <;> (conv => whnf)) | (refine AAr.i64 (by first | omega | ((try simp only [List.length_map] at *); omega)) ?_; conv => whnf) | (refine AIn.mk' _ rfl (by first | omega | (simp only [List.length_map, List.length_append, List.length_cons, List.length_nil, List.length_take, List.length_drop, List.length_set, List.length_replicate]; omega) | (simp only [List.length_map, List.length_append, List.length_cons, List.length_nil, List.length_take, List.length_drop, List.length_set, List.length_replicate] at *; omega)) ?_; conv => whnf) | (refine ARd.mapAt (by assumption) ?_; conv => whnf) | (refine ARd.set (by (try simp only [List.length_map, List.length_append, List.length_cons, List.length_nil, List.length_take, List.length_drop, List.length_set, List.length_replicate] at *); omega) ?_; conv => whnf) | (refine ARd.map (by first | omega | (simp only [List.length_map] at *; omega)) ?_; conv => whnf) | (refine VReq.mk (by first | decide | omega) ?_; conv => whnf) | (refine AEq.mk (by kernel_rfl) rfl rfl ?_; conv => whnf) | (refine VReq.mk (app_ok (by (try simp only [List.length_map, List.length_append, List.length_cons, List.length_nil, List.length_take, List.length_drop, List.length_set, List.length_replicate] at *); omega) (by kernel_rfl)) ?_; conv => whnf)))
      (refine aback (k + 1) [] [] ?_ ?_ ?_ ?_ ?_; (focus rfl); rotate_left 2; (focus (repeat' (first | rfl | trivial | apply And.intro))); (focus (repeat' (first | rfl | trivial | apply And.intro))))
      · omega
      · exact next e
  · have : k = a.length := by simp at hge; omega
    subst this
    conv => whnf
    (refine aret [] ?_; refine congrArg Value.bool ?_)
    exact (decide_eq_true (list_eq_at hl fun j h1 h2 => hno j h1 h1 h2)).symm
set_option maxHeartbeats 4000000 in
set_option maxRecDepth 100000 in
theorem sameRA (a b : Rg) (ha : a.slots.length ≤ 1000000 ∧ a.links.length ≤ 1000000) (hb : b.slots.length ≤ 1000000 ∧ b.links.length ≤ 1000000) : AFn Tryd.prog GS 16 [rgA a, rgA b] 0 [] (Is (bv (decide (a = b)))) := by
  refine afn_of Tryd.func16 rfl mixed (by kernel_rfl) ?_
  conv => whnf
  (repeat' (first | (refine And.intro ?_ ?_ <;> (conv => whnf)) | (refine vif_split (fun h => ?_) (fun h => ?_) <;> (try simp only [sEqD, cond_true, cond_false, Bool.not_eq_true', Bool.not_eq_false', decide_eq_true_eq, decide_eq_false_iff_not, beq_iff_eq, bne_iff_ne, beq_eq_false_iff_ne, bne_eq_false_iff_eq, ne_eq, Bool.not_eq_eq_eq_not, Bool.not_true, Bool.not_false, Bool.false_eq_true, Bool.true_eq_false, Decidable.not_not, gt_iff_lt, ge_iff_le, Int.not_lt, Int.not_le] at h) <;> (conv => whnf)) | (refine AAr.i64 (by first | omega | ((try simp only [List.length_map] at *); omega)) ?_; conv => whnf) | (refine AIn.mk' _ rfl (by first | omega | (simp only [List.length_map, List.length_append, List.length_cons, List.length_nil, List.length_take, List.length_drop, List.length_set, List.length_replicate]; omega) | (simp only [List.length_map, List.length_append, List.length_cons, List.length_nil, List.length_take, List.length_drop, List.length_set, List.length_replicate] at *; omega)) ?_; conv => whnf) | (refine ARd.mapAt (by assumption) ?_; conv => whnf) | (refine ARd.set (by (try simp only [List.length_map, List.length_append, List.length_cons, List.length_nil, List.length_take, List.length_drop, List.length_set, List.length_replicate] at *); omega) ?_; conv => whnf) | (refine ARd.map (by first | omega | (simp only [List.length_map] at *; omega)) ?_; conv => whnf) | (refine VReq.mk (by first | decide | omega) ?_; conv => whnf) | (refine AEq.mk (by kernel_rfl) rfl rfl ?_; conv => whnf) | (refine VReq.mk (app_ok (by (try simp only [List.length_map, List.length_append, List.length_cons, List.length_nil, List.length_take, List.length_drop, List.length_set, List.length_replicate] at *); omega) (by kernel_rfl)) ?_; conv => whnf)))
  all_goals try ((refine acall [] (by kernel_rfl) (sameLA a.links b.links ha.2 hb.2) rfl ?_ ?_; (focus (repeat' (first | rfl | trivial | apply And.intro)))); (conv => whnf))
  all_goals (repeat' (first | (refine And.intro ?_ ?_ <;> (conv => whnf)) | (refine vif_split (fun h => ?_) (fun h => ?_) <;> (try simp only [sEqD, cond_true, cond_false, Bool.not_eq_true', Bool.not_eq_false', decide_eq_true_eq, decide_eq_false_iff_not, beq_iff_eq, bne_iff_ne, beq_eq_false_iff_ne, bne_eq_false_iff_eq, ne_eq, Bool.not_eq_eq_eq_not, Bool.not_true, Bool.not_false, Bool.false_eq_true, Bool.true_eq_false, Decidable.not_not, gt_iff_lt, ge_iff_le, Int.not_lt, Int.not_le] at h) <;> (conv => whnf)) | (refine AAr.i64 (by first | omega | ((try simp only [List.length_map] at *); omega)) ?_; conv => whnf) | (refine AIn.mk' _ rfl (by first | omega | (simp only [List.length_map, List.length_append, List.length_cons, List.length_nil, List.length_take, List.length_drop, List.length_set, List.length_replicate]; omega) | (simp only [List.length_map, List.length_append, List.length_cons, List.length_nil, List.length_take, List.length_drop, List.length_set, List.length_replicate] at *; omega)) ?_; conv => whnf) | (refine ARd.mapAt (by assumption) ?_; conv => whnf) | (refine ARd.set (by (try simp only [List.length_map, List.length_append, List.length_cons, List.length_nil, List.length_take, List.length_drop, List.length_set, List.length_replicate] at *); omega) ?_; conv => whnf) | (refine ARd.map (by first | omega | (simp only [List.length_map] at *; omega)) ?_; conv => whnf) | (refine VReq.mk (by first | decide | omega) ?_; conv => whnf) | (refine AEq.mk (by kernel_rfl) rfl rfl ?_; conv => whnf) | (refine VReq.mk (app_ok (by (try simp only [List.length_map, List.length_append, List.length_cons, List.length_nil, List.length_take, List.length_drop, List.length_set, List.length_replicate] at *); omega) (by kernel_rfl)) ?_; conv => whnf)))
  all_goals try ((refine acall [] (by kernel_rfl) (sameSA a.slots b.slots ha.1 hb.1) rfl ?_ ?_; (focus (repeat' (first | rfl | trivial | apply And.intro)))); (conv => whnf))
  all_goals (repeat' (first | (refine And.intro ?_ ?_ <;> (conv => whnf)) | (refine vif_split (fun h => ?_) (fun h => ?_) <;> (try simp only [sEqD, cond_true, cond_false, Bool.not_eq_true', Bool.not_eq_false', decide_eq_true_eq, decide_eq_false_iff_not, beq_iff_eq, bne_iff_ne, beq_eq_false_iff_ne, bne_eq_false_iff_eq, ne_eq, Bool.not_eq_eq_eq_not, Bool.not_true, Bool.not_false, Bool.false_eq_true, Bool.true_eq_false, Decidable.not_not, gt_iff_lt, ge_iff_le, Int.not_lt, Int.not_le] at h) <;> (conv => whnf)) | (refine AAr.i64 (by first | omega | ((try simp only [List.length_map] at *); omega)) ?_; conv => whnf) | (refine AIn.mk' _ rfl (by first | omega | (simp only [List.length_map, List.length_append, List.length_cons, List.length_nil, List.length_take, List.length_drop, List.length_set, List.length_replicate]; omega) | (simp only [List.length_map, List.length_append, List.length_cons, List.length_nil, List.length_take, List.length_drop, List.length_set, List.length_replicate] at *; omega)) ?_; conv => whnf) | (refine ARd.mapAt (by assumption) ?_; conv => whnf) | (refine ARd.set (by (try simp only [List.length_map, List.length_append, List.length_cons, List.length_nil, List.length_take, List.length_drop, List.length_set, List.length_replicate] at *); omega) ?_; conv => whnf) | (refine ARd.map (by first | omega | (simp only [List.length_map] at *; omega)) ?_; conv => whnf) | (refine VReq.mk (by first | decide | omega) ?_; conv => whnf) | (refine AEq.mk (by kernel_rfl) rfl rfl ?_; conv => whnf) | (refine VReq.mk (app_ok (by (try simp only [List.length_map, List.length_append, List.length_cons, List.length_nil, List.length_take, List.length_drop, List.length_set, List.length_replicate] at *); omega) (by kernel_rfl)) ?_; conv => whnf)))
  all_goals (refine aret [] ?_; refine congrArg Value.bool ?_)
  · rename_i h1
    show decide (a.slots = b.slots) = decide (a = b)
    cases a; cases b
    simp at h1 h
    simp [*]
  all_goals
    refine (decide_eq_false fun e => ?_).symm
    subst e
    simp at *
end Go.Proofs.YtinpgogjkmmjpaaDoor.Sx

namespace Go.Proofs.YtinpgogjkmmjpaaDoor.Sx
open Go Go.RowKit Go.Proofs.YtinpgogjkmmjpaaDoor.Vc Go.Proofs.YtinpgogjkmmjpaaDoor.Ax Go.Proofs.YtinpgogjkmmjpaaDoor.Ky Go.Proofs.YtinpgogjkmmjpaaDoor.Id Go.Proofs.YtinpgogjkmmjpaaDoor.Sp

/-- Assign's answer: the register, the slot, the error -/
def asgA (r : Rg) (s : Sl) (e : Int) : AV := .tup [rgA r, slA s, iv e]
set_option maxHeartbeats 4000000 in
set_option maxRecDepth 100000 in
theorem fail1A (e : Int) : AFn Tryd.prog GS 56 [iv e] 0 [] (Is (asgA rg0 sl0 e)) := by
  refine afn_of Tryd.func56 rfl mixed (by kernel_rfl) ?_
  conv => whnf
  (repeat' (first | (refine And.intro ?_ ?_ <;> (conv => whnf)) | (refine vif_split (fun h => ?_) (fun h => ?_) <;> (try simp only [sEqD, cond_true, cond_false, Bool.not_eq_true', Bool.not_eq_false', decide_eq_true_eq, decide_eq_false_iff_not, beq_iff_eq, bne_iff_ne, beq_eq_false_iff_ne, bne_eq_false_iff_eq, ne_eq, Bool.not_eq_eq_eq_not, Bool.not_true, Bool.not_false, Bool.false_eq_true, Bool.true_eq_false, Decidable.not_not, gt_iff_lt, ge_iff_le, Int.not_lt, Int.not_le] at h) <;> (conv => whnf)) | (refine AAr.i64 (by first | omega | ((try simp only [List.length_map] at *); omega)) ?_; conv => whnf) | (refine AIn.mk' _ rfl (by first | omega | (simp only [List.length_map, List.length_append, List.length_cons, List.length_nil, List.length_take, List.length_drop, List.length_set, List.length_replicate]; omega) | (simp only [List.length_map, List.length_append, List.length_cons, List.length_nil, List.length_take, List.length_drop, List.length_set, List.length_replicate] at *; omega)) ?_; conv => whnf) | (refine ARd.mapAt (by assumption) ?_; conv => whnf) | (refine ARd.set (by (try simp only [List.length_map, List.length_append, List.length_cons, List.length_nil, List.length_take, List.length_drop, List.length_set, List.length_replicate] at *); omega) ?_; conv => whnf) | (refine ARd.map (by first | omega | (simp only [List.length_map] at *; omega)) ?_; conv => whnf) | (refine VReq.mk (by first | decide | omega) ?_; conv => whnf) | (refine AEq.mk (by kernel_rfl) rfl rfl ?_; conv => whnf) | (refine VReq.mk (app_ok (by (try simp only [List.length_map, List.length_append, List.length_cons, List.length_nil, List.length_take, List.length_drop, List.length_set, List.length_replicate] at *); omega) (by kernel_rfl)) ?_; conv => whnf)))
  exact aret [] (by repeat' (first | rfl | trivial | apply And.intro))
/-- a slot that still bars the layer for the person: closed, within the gap, same root -/
def barP (ls : List Lk) (id layer : ByteArray) (gap now : Int) (s : Sl) : Bool :=
  decide (s.layer = layer) && decide (s.fin ≠ 0) && decide (now - s.to_ < gap) && decide (rt ls s.id = rt ls id)
/-- what both Assigns answer: e is what ready says, kb whether both keys stand, bad whether the assignment is refused (held, a bad experiment key, an arm outside 1 .. 8) -/
def asgR (e : Int) (kb bad : Bool) (r : Rg) (id layer exp : ByteArray) (arm gap now : Int) : Rg × Sl × Int :=
  if e ≠ 0 then (rg0, sl0, e)
  else if gap < 0 then (rg0, sl0, 3)
  else bif !kb then (rg0, sl0, 6)
  else if 0 ≤ curI r id layer then (⟨now, r.links, r.slots⟩, r.slots.getD (curI r id layer).toNat sl0, 0)
  else bif bad then (rg0, sl0, 11)
  else bif r.slots.any (barP r.links id layer gap now) then (rg0, sl0, 28)
  else if 128 ≤ r.slots.length then (rg0, sl0, 19)
  else (⟨now, r.links, r.slots ++ [⟨id, layer, exp, arm, now, 0, 0⟩]⟩, ⟨id, layer, exp, arm, now, 0, 0⟩, 0)
def asgV (x : Rg × Sl × Int) : AV := asgA x.1 x.2.1 x.2.2
def asgE (e : Int) (kb bad : Bool) (r : Rg) (id layer exp : ByteArray) (arm gap now : Int) : AV := asgV (asgR e kb bad r id layer exp arm gap now)
end Go.Proofs.YtinpgogjkmmjpaaDoor.Sx
