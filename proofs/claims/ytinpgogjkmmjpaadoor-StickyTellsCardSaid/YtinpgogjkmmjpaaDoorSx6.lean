/- The walks of the register's readers: current, open, Until, ready, begin. Condition: as Sx1's. The walks of At, Current, ready and begin. Condition: as Sx1's. The walks of Clone, copied, fresh and of Assign's refusals. Condition: as Sx1's. -/
import Derived.Test.YtinpgogjkmmjpaaDoorSx3
set_option linter.unusedVariables false
set_option linter.unusedSimpArgs false
namespace Go.Proofs.YtinpgogjkmmjpaaDoor.Sx
open Go Go.RowKit Go.Proofs.YtinpgogjkmmjpaaDoor.Vc Go.Proofs.YtinpgogjkmmjpaaDoor.Ax Go.Proofs.YtinpgogjkmmjpaaDoor.Ky Go.Proofs.YtinpgogjkmmjpaaDoor.Id Go.Proofs.YtinpgogjkmmjpaaDoor.Sp

def curP (ls : List Lk) (id layer : ByteArray) (s : Sl) : Bool := decide (s.fin = 0) && decide (s.layer = layer) && decide (rt ls s.id = rt ls id)
def curI (r : Rg) (id layer : ByteArray) : Int := match r.slots.findIdx? (curP r.links id layer) with | some i => i | none => -1
theorem curI_at {r : Rg} {id layer : ByteArray} {i : Nat} (hi : i < r.slots.length) (h : ∀ j (hj : j < i), curP r.links id layer (r.slots[j]'(by omega)) = false) (h2 : curP r.links id layer r.slots[i] = true) : curI r id layer = i := by
  have : r.slots.findIdx? (curP r.links id layer) = some i := by
    rw [List.findIdx?_eq_some_iff_getElem]
    exact ⟨hi, h2, fun j hj => by rw [h j hj]; simp⟩
  unfold curI; rw [this]
theorem curI_no {r : Rg} {id layer : ByteArray} (h : ∀ j (hj : j < r.slots.length), curP r.links id layer r.slots[j] = false) : curI r id layer = -1 := by
  have : r.slots.findIdx? (curP r.links id layer) = none := by
    rw [List.findIdx?_eq_none_iff]
    intro x hx
    obtain ⟨j, hj, rfl⟩ := List.getElem_of_mem hx
    exact h j hj
  unfold curI; rw [this]

set_option maxHeartbeats 4000000 in
set_option maxRecDepth 100000 in
theorem currentA (r : Rg) (id layer : ByteArray) (hln : r.slots.length ≤ 1000000 ∧ r.links.length ≤ 1000000) : AFn Tryd.prog GS 53 [rgA r, sv id, sv layer] 0 [] (Is (iv (curI r id layer))) := by
  refine afn_of Tryd.func53 rfl mixed (by kernel_rfl) ?_
  conv => whnf
  (refine acall [] (by kernel_rfl) (rootA r.links id (by omega)) rfl ?_ ?_; (focus (repeat' (first | rfl | trivial | apply And.intro))))
  conv => whnf
  (refine acallI (by kernel_rfl) (afn_of Tryd.func70 rfl mixed (by kernel_rfl) ?_); (conv => whnf))
  refine aloopH ws70_1 [8] (fun k : Nat => [(8, iv k)]) (fun k => k ≤ r.slots.length ∧ ∀ j (hj : j < k) (hjl : j < r.slots.length), curP r.links id layer r.slots[j] = false) (fun k => r.slots.length - k) 0 (by kernel_rfl) (fun _ => rfl) (by kernel_rfl) ⟨Nat.zero_le _, fun j hj => absurd hj (Nat.not_lt_zero j)⟩ (by repeat' (first | rfl | trivial | apply And.intro)) (by repeat' (first | rfl | trivial | apply And.intro)) ?_
  rintro k ⟨hk, hno⟩
  conv => whnf
  refine vif_split (fun hlt => ?_) (fun hge => ?_)
  · have hlt : k < r.slots.length := by simpa using hlt
    conv => whnf
    (repeat (first | (refine AAr.i64 (by omega) ?_; conv => whnf) | (refine AIn.mk' _ rfl (by simp only [List.length_map, List.length_append, List.length_cons, List.length_nil, List.length_take, List.length_drop]; omega) ?_; conv => whnf) | (refine ARd.map (by omega) ?_; conv => whnf) | (refine VReq.mk (by first | decide | omega) ?_; conv => whnf) | (refine AEq.mk rfl rfl rfl ?_; conv => whnf)))
    (refine acallI (by kernel_rfl) (afn_of Tryd.func71 rfl mixed (by kernel_rfl) ?_); (conv => whnf))
    (refine adraw pln71 [] (by kernel_rfl) ?_; conv => whnf)
    have hcp : curP r.links id layer r.slots[k] = (decide (r.slots[k].fin = 0) && decide (r.slots[k].layer = layer) && decide (rt r.links r.slots[k].id = rt r.links id)) := rfl
    have good : curP r.links id layer r.slots[k] = false → k + 1 ≤ r.slots.length ∧ ∀ j (hj : j < k + 1) (hjl : j < r.slots.length), curP r.links id layer r.slots[j] = false := fun h => ⟨hlt, fun j hj hjl => by
      rcases Nat.lt_or_ge j k with h1 | h1
      · exact hno j h1 hjl
      · have : j = k := by omega
        subst this; exact h⟩
    (repeat' (first | (refine And.intro ?_ ?_ <;> (conv => whnf)) | (refine vif_split (fun h => ?_) (fun h => ?_) <;> (try simp only [sEqD, cond_true, cond_false, Bool.not_eq_true', Bool.not_eq_false', decide_eq_true_eq, decide_eq_false_iff_not, beq_iff_eq, bne_iff_ne, beq_eq_false_iff_ne, bne_eq_false_iff_eq, ne_eq, Bool.not_eq_eq_eq_not, Bool.not_true, Bool.not_false, Bool.false_eq_true, Bool.true_eq_false, Decidable.not_not, gt_iff_lt, ge_iff_le, Int.not_lt, Int.not_le] at h) <;> (conv => whnf)) | (refine AAr.i64 (by first | omega | ((try simp only [List.length_map] at *); omega)) ?_; conv => whnf) | (refine AIn.mk' _ rfl (by first | omega | (simp only [List.length_map, List.length_append, List.length_cons, List.length_nil, List.length_take, List.length_drop, List.length_set, List.length_replicate]; omega) | (simp only [List.length_map, List.length_append, List.length_cons, List.length_nil, List.length_take, List.length_drop, List.length_set, List.length_replicate] at *; omega)) ?_; conv => whnf) | (refine ARd.mapAt (by assumption) ?_; conv => whnf) | (refine ARd.set (by (try simp only [List.length_map, List.length_append, List.length_cons, List.length_nil, List.length_take, List.length_drop, List.length_set, List.length_replicate] at *); omega) ?_; conv => whnf) | (refine ARd.map (by first | omega | (simp only [List.length_map] at *; omega)) ?_; conv => whnf) | (refine VReq.mk (by first | decide | omega) ?_; conv => whnf) | (refine AEq.mk (by kernel_rfl) rfl rfl ?_; conv => whnf) | (refine VReq.mk (app_ok (by (try simp only [List.length_map, List.length_append, List.length_cons, List.length_nil, List.length_take, List.length_drop, List.length_set, List.length_replicate] at *); omega) (by kernel_rfl)) ?_; conv => whnf)))
    all_goals try ((refine acall [] (by kernel_rfl) (rootA r.links r.slots[k].id (by omega)) rfl ?_ ?_; (focus (repeat' (first | rfl | trivial | apply And.intro)))); (conv => whnf))
    all_goals (refine aendV ?_ rfl ?_; rotate_left 1; (focus (repeat' (first | rfl | trivial | apply And.intro))); (conv => whnf))
    all_goals (repeat' (first | (refine And.intro ?_ ?_ <;> (conv => whnf)) | (refine vif_split (fun h => ?_) (fun h => ?_) <;> (try simp only [sEqD, cond_true, cond_false, Bool.not_eq_true', Bool.not_eq_false', decide_eq_true_eq, decide_eq_false_iff_not, beq_iff_eq, bne_iff_ne, beq_eq_false_iff_ne, bne_eq_false_iff_eq, ne_eq, Bool.not_eq_eq_eq_not, Bool.not_true, Bool.not_false, Bool.false_eq_true, Bool.true_eq_false, Decidable.not_not, gt_iff_lt, ge_iff_le, Int.not_lt, Int.not_le] at h) <;> (conv => whnf)) | (refine AAr.i64 (by first | omega | ((try simp only [List.length_map] at *); omega)) ?_; conv => whnf) | (refine AIn.mk' _ rfl (by first | omega | (simp only [List.length_map, List.length_append, List.length_cons, List.length_nil, List.length_take, List.length_drop, List.length_set, List.length_replicate]; omega) | (simp only [List.length_map, List.length_append, List.length_cons, List.length_nil, List.length_take, List.length_drop, List.length_set, List.length_replicate] at *; omega)) ?_; conv => whnf) | (refine ARd.mapAt (by assumption) ?_; conv => whnf) | (refine ARd.set (by (try simp only [List.length_map, List.length_append, List.length_cons, List.length_nil, List.length_take, List.length_drop, List.length_set, List.length_replicate] at *); omega) ?_; conv => whnf) | (refine ARd.map (by first | omega | (simp only [List.length_map] at *; omega)) ?_; conv => whnf) | (refine VReq.mk (by first | decide | omega) ?_; conv => whnf) | (refine AEq.mk (by kernel_rfl) rfl rfl ?_; conv => whnf) | (refine VReq.mk (app_ok (by (try simp only [List.length_map, List.length_append, List.length_cons, List.length_nil, List.length_take, List.length_drop, List.length_set, List.length_replicate] at *); omega) (by kernel_rfl)) ?_; conv => whnf)))
    all_goals first
      | ((refine aendV ?_ rfl ?_; rotate_left 1; (focus (repeat' (first | rfl | trivial | apply And.intro))); (conv => whnf))
         refine aret [] ?_
         rw [curI_at hlt (fun j hj => hno j hj (by omega)) (by rw [hcp]; simp [*])]
         rfl)
      | ((refine aback (k + 1) [] [] ?_ ?_ ?_ ?_ ?_; (focus rfl); rotate_left 2; (focus (repeat' (first | rfl | trivial | apply And.intro))); (focus (repeat' (first | rfl | trivial | apply And.intro))))
         · show r.slots.length - (k + 1) < r.slots.length - k; omega
         · exact good (by rw [hcp]; simp [*]))
  · have : k = r.slots.length := by simp at hge; omega
    subst this
    conv => whnf
    (refine aendV ?_ rfl ?_; rotate_left 1; (focus (repeat' (first | rfl | trivial | apply And.intro))); (conv => whnf))
    refine aret [] ?_
    rw [curI_no fun j hj => hno j hj hj]; rfl

set_option maxHeartbeats 4000000 in
set_option maxRecDepth 100000 in
theorem openA (r : Rg) (id layer : ByteArray) (hln : r.slots.length ≤ 1000000 ∧ r.links.length ≤ 1000000) : AFn Tryd.prog GS 55 [rgA r, sv id, sv layer] 0 [] (Is (iv (curI r id layer))) := by
  refine afn_of Tryd.func55 rfl mixed (by kernel_rfl) ?_
  conv => whnf
  refine aloopH ws55_1 [7] (fun k : Nat => [(7, iv k)]) (fun k => k ≤ r.slots.length ∧ ∀ j (hj : j < k) (hjl : j < r.slots.length), curP r.links id layer r.slots[j] = false) (fun k => r.slots.length - k) 0 (by kernel_rfl) (fun _ => rfl) (by kernel_rfl) ⟨Nat.zero_le _, fun j hj => absurd hj (Nat.not_lt_zero j)⟩ (by repeat' (first | rfl | trivial | apply And.intro)) (by repeat' (first | rfl | trivial | apply And.intro)) ?_
  rintro k ⟨hk, hno⟩
  conv => whnf
  refine vif_split (fun hlt => ?_) (fun hge => ?_)
  · have hlt : k < r.slots.length := by simpa using hlt
    have hcp : curP r.links id layer r.slots[k] = (decide (r.slots[k].fin = 0) && decide (r.slots[k].layer = layer) && decide (rt r.links r.slots[k].id = rt r.links id)) := rfl
    have good : curP r.links id layer r.slots[k] = false → k + 1 ≤ r.slots.length ∧ ∀ j (hj : j < k + 1) (hjl : j < r.slots.length), curP r.links id layer r.slots[j] = false := fun h => ⟨hlt, fun j hj hjl => by
      rcases Nat.lt_or_ge j k with h1 | h1
      · exact hno j h1 hjl
      · have : j = k := by omega
        subst this; exact h⟩
    conv => whnf
    (repeat' (first | (refine And.intro ?_ ?_ <;> (conv => whnf)) | (refine vif_split (fun h => ?_) (fun h => ?_) <;> (try simp only [sEqD, cond_true, cond_false, Bool.not_eq_true', Bool.not_eq_false', decide_eq_true_eq, decide_eq_false_iff_not, beq_iff_eq, bne_iff_ne, beq_eq_false_iff_ne, bne_eq_false_iff_eq, ne_eq, Bool.not_eq_eq_eq_not, Bool.not_true, Bool.not_false, Bool.false_eq_true, Bool.true_eq_false, Decidable.not_not, gt_iff_lt, ge_iff_le, Int.not_lt, Int.not_le] at h) <;> (conv => whnf)) | (refine AAr.i64 (by first | omega | ((try simp only [List.length_map] at *); omega)) ?_; conv => whnf) | (refine AIn.mk' _ rfl (by first | omega | (simp only [List.length_map, List.length_append, List.length_cons, List.length_nil, List.length_take, List.length_drop, List.length_set, List.length_replicate]; omega) | (simp only [List.length_map, List.length_append, List.length_cons, List.length_nil, List.length_take, List.length_drop, List.length_set, List.length_replicate] at *; omega)) ?_; conv => whnf) | (refine ARd.mapAt (by assumption) ?_; conv => whnf) | (refine ARd.set (by (try simp only [List.length_map, List.length_append, List.length_cons, List.length_nil, List.length_take, List.length_drop, List.length_set, List.length_replicate] at *); omega) ?_; conv => whnf) | (refine ARd.map (by first | omega | (simp only [List.length_map] at *; omega)) ?_; conv => whnf) | (refine VReq.mk (by first | decide | omega) ?_; conv => whnf) | (refine AEq.mk (by kernel_rfl) rfl rfl ?_; conv => whnf) | (refine VReq.mk (app_ok (by (try simp only [List.length_map, List.length_append, List.length_cons, List.length_nil, List.length_take, List.length_drop, List.length_set, List.length_replicate] at *); omega) (by kernel_rfl)) ?_; conv => whnf)))
    all_goals try ((refine acall [] (by kernel_rfl) (same2A r.links r.slots[k].id id hln.2) rfl ?_ ?_; (focus (repeat' (first | rfl | trivial | apply And.intro)))); (conv => whnf); (repeat' (first | (refine And.intro ?_ ?_ <;> (conv => whnf)) | (refine vif_split (fun h => ?_) (fun h => ?_) <;> (try simp only [sEqD, cond_true, cond_false, Bool.not_eq_true', Bool.not_eq_false', decide_eq_true_eq, decide_eq_false_iff_not, beq_iff_eq, bne_iff_ne, beq_eq_false_iff_ne, bne_eq_false_iff_eq, ne_eq, Bool.not_eq_eq_eq_not, Bool.not_true, Bool.not_false, Bool.false_eq_true, Bool.true_eq_false, Decidable.not_not, gt_iff_lt, ge_iff_le, Int.not_lt, Int.not_le] at h) <;> (conv => whnf)) | (refine AAr.i64 (by first | omega | ((try simp only [List.length_map] at *); omega)) ?_; conv => whnf) | (refine AIn.mk' _ rfl (by first | omega | (simp only [List.length_map, List.length_append, List.length_cons, List.length_nil, List.length_take, List.length_drop, List.length_set, List.length_replicate]; omega) | (simp only [List.length_map, List.length_append, List.length_cons, List.length_nil, List.length_take, List.length_drop, List.length_set, List.length_replicate] at *; omega)) ?_; conv => whnf) | (refine ARd.mapAt (by assumption) ?_; conv => whnf) | (refine ARd.set (by (try simp only [List.length_map, List.length_append, List.length_cons, List.length_nil, List.length_take, List.length_drop, List.length_set, List.length_replicate] at *); omega) ?_; conv => whnf) | (refine ARd.map (by first | omega | (simp only [List.length_map] at *; omega)) ?_; conv => whnf) | (refine VReq.mk (by first | decide | omega) ?_; conv => whnf) | (refine AEq.mk (by kernel_rfl) rfl rfl ?_; conv => whnf) | (refine VReq.mk (app_ok (by (try simp only [List.length_map, List.length_append, List.length_cons, List.length_nil, List.length_take, List.length_drop, List.length_set, List.length_replicate] at *); omega) (by kernel_rfl)) ?_; conv => whnf))))
    all_goals first
      | (refine aret [] ?_
         rw [curI_at hlt (fun j hj => hno j hj (by omega)) (by rw [hcp]; simp [*])]
         rfl)
      | ((refine aback (k + 1) [] [] ?_ ?_ ?_ ?_ ?_; (focus rfl); rotate_left 2; (focus (repeat' (first | rfl | trivial | apply And.intro))); (focus (repeat' (first | rfl | trivial | apply And.intro))))
         · show r.slots.length - (k + 1) < r.slots.length - k; omega
         · exact good (by rw [hcp]; simp [*]))
  · have : k = r.slots.length := by simp at hge; omega
    subst this
    conv => whnf
    refine aret [] ?_
    rw [curI_no fun j hj => hno j hj hj]; rfl

/-! Until -/
set_option maxHeartbeats 4000000 in
set_option maxRecDepth 100000 in
theorem until1A (ls : List Lk) (t : Int) (hln : ls.length ≤ 1000000) : AFn Tryd.prog GS 72 [lksA ls, iv t] 0 [] (Own1 40 3 ((unt t ls).map lkF)) := by
  refine afn_of Tryd.func72 rfl mixed (by kernel_rfl) ?_
  conv => whnf
  refine aloop ws72_1 1 [10, 5] (fun k : Nat => [(10, iv k), (5, .own 0)]) (fun k => [(0, .rows 40 3 ((unt t (ls.take k)).map lkF))]) (fun k => k ≤ ls.length) (fun k => ls.length - k) [(0, .nil)] [] 0 (by kernel_rfl) (fun _ => rfl) rfl (Nat.zero_le _) ⟨rfl, trivial⟩ (by repeat' (first | rfl | trivial | apply And.intro)) ?_
  rintro k hk
  conv => whnf
  refine vif_split (fun hlt => ?_) (fun hge => ?_)
  · have hlt : k < ls.length := by simpa using hlt
    have hun : (unt t (ls.take k)).length ≤ ls.length := by
      have h1 := List.length_filter_le (fun x : Lk => decide (x.t ≤ t)) (ls.take k)
      have h2 : unt t (ls.take k) = (ls.take k).filter fun x => decide (x.t ≤ t) := rfl
      rw [← h2, List.length_take] at h1; omega
    conv => whnf
    (repeat' (first | (refine And.intro ?_ ?_ <;> (conv => whnf)) | (refine vif_split (fun h => ?_) (fun h => ?_) <;> (try simp only [sEqD, cond_true, cond_false, Bool.not_eq_true', Bool.not_eq_false', decide_eq_true_eq, decide_eq_false_iff_not, beq_iff_eq, bne_iff_ne, beq_eq_false_iff_ne, bne_eq_false_iff_eq, ne_eq, Bool.not_eq_eq_eq_not, Bool.not_true, Bool.not_false, Bool.false_eq_true, Bool.true_eq_false, Decidable.not_not, gt_iff_lt, ge_iff_le, Int.not_lt, Int.not_le] at h) <;> (conv => whnf)) | (refine AAr.i64 (by first | omega | ((try simp only [List.length_map] at *); omega)) ?_; conv => whnf) | (refine AIn.mk' _ rfl (by first | omega | (simp only [List.length_map, List.length_append, List.length_cons, List.length_nil, List.length_take, List.length_drop, List.length_set, List.length_replicate]; omega) | (simp only [List.length_map, List.length_append, List.length_cons, List.length_nil, List.length_take, List.length_drop, List.length_set, List.length_replicate] at *; omega)) ?_; conv => whnf) | (refine ARd.mapAt (by assumption) ?_; conv => whnf) | (refine ARd.set (by (try simp only [List.length_map, List.length_append, List.length_cons, List.length_nil, List.length_take, List.length_drop, List.length_set, List.length_replicate] at *); omega) ?_; conv => whnf) | (refine ARd.map (by first | omega | (simp only [List.length_map] at *; omega)) ?_; conv => whnf) | (refine VReq.mk (by first | decide | omega) ?_; conv => whnf) | (refine AEq.mk (by kernel_rfl) rfl rfl ?_; conv => whnf) | (refine VReq.mk (app_ok (by (try simp only [List.length_map, List.length_append, List.length_cons, List.length_nil, List.length_take, List.length_drop, List.length_set, List.length_replicate] at *); omega) (by kernel_rfl)) ?_; conv => whnf)))
    · have e : unt t (ls.take (k + 1)) = unt t (ls.take k) ++ [ls[k]] := by rw [List.take_succ_eq_append_getElem hlt, unt_snoc, if_pos h]
      refine aback (k + 1) [(0, .lab 3)] [] rfl ?_ hlt ?_ (by repeat' (first | rfl | trivial | apply And.intro))
      · show ls.length - (k + 1) < ls.length - k; omega
      · refine ⟨⟨rfl, rfl, ?_⟩, trivial⟩
        rw [e, List.map_append]; rfl
    · have e : unt t (ls.take (k + 1)) = unt t (ls.take k) := by rw [List.take_succ_eq_append_getElem hlt, unt_snoc, if_neg (by omega)]
      refine aback (k + 1) [(0, .lab 0)] [] rfl ?_ hlt ?_ (by repeat' (first | rfl | trivial | apply And.intro))
      · show ls.length - (k + 1) < ls.length - k; omega
      · refine ⟨⟨rfl, rfl, ?_⟩, trivial⟩
        rw [e]
  · have : k = ls.length := by simp at hge; omega
    subst this
    conv => whnf
    rw [List.take_length]
    exact aend (.own 0) 1 _ [(0, .lab 0)] [] ⟨rfl, rfl, rfl⟩ rfl (by repeat' (first | rfl | trivial | apply And.intro)) (by repeat' (first | rfl | trivial | apply And.intro))
set_option maxHeartbeats 4000000 in
set_option maxRecDepth 100000 in
theorem until2A (ls : List Lk) (t : Int) (hln : ls.length ≤ 1000000) : AFn Tryd.prog GS 23 [lksA ls, iv t] 0 [] (Own1 40 3 ((unt t ls).map lkF)) := by
  refine afn_of Tryd.func23 rfl mixed (by kernel_rfl) ?_
  conv => whnf
  refine aloop ws23_1 1 [6, 5] (fun k : Nat => [(6, iv k), (5, .own 0)]) (fun k => [(0, .rows 40 3 ((unt t (ls.take k)).map lkF))]) (fun k => k ≤ ls.length) (fun k => ls.length - k) [(0, .nil)] [] 0 (by kernel_rfl) (fun _ => rfl) rfl (Nat.zero_le _) ⟨rfl, trivial⟩ (by repeat' (first | rfl | trivial | apply And.intro)) ?_
  rintro k hk
  conv => whnf
  refine vif_split (fun hlt => ?_) (fun hge => ?_)
  · have hlt : k < ls.length := by simpa using hlt
    have hun : (unt t (ls.take k)).length ≤ ls.length := by
      have h1 := List.length_filter_le (fun x : Lk => decide (x.t ≤ t)) (ls.take k)
      have h2 : unt t (ls.take k) = (ls.take k).filter fun x => decide (x.t ≤ t) := rfl
      rw [← h2, List.length_take] at h1; omega
    conv => whnf
    (repeat' (first | (refine And.intro ?_ ?_ <;> (conv => whnf)) | (refine vif_split (fun h => ?_) (fun h => ?_) <;> (try simp only [sEqD, cond_true, cond_false, Bool.not_eq_true', Bool.not_eq_false', decide_eq_true_eq, decide_eq_false_iff_not, beq_iff_eq, bne_iff_ne, beq_eq_false_iff_ne, bne_eq_false_iff_eq, ne_eq, Bool.not_eq_eq_eq_not, Bool.not_true, Bool.not_false, Bool.false_eq_true, Bool.true_eq_false, Decidable.not_not, gt_iff_lt, ge_iff_le, Int.not_lt, Int.not_le] at h) <;> (conv => whnf)) | (refine AAr.i64 (by first | omega | ((try simp only [List.length_map] at *); omega)) ?_; conv => whnf) | (refine AIn.mk' _ rfl (by first | omega | (simp only [List.length_map, List.length_append, List.length_cons, List.length_nil, List.length_take, List.length_drop, List.length_set, List.length_replicate]; omega) | (simp only [List.length_map, List.length_append, List.length_cons, List.length_nil, List.length_take, List.length_drop, List.length_set, List.length_replicate] at *; omega)) ?_; conv => whnf) | (refine ARd.mapAt (by assumption) ?_; conv => whnf) | (refine ARd.set (by (try simp only [List.length_map, List.length_append, List.length_cons, List.length_nil, List.length_take, List.length_drop, List.length_set, List.length_replicate] at *); omega) ?_; conv => whnf) | (refine ARd.map (by first | omega | (simp only [List.length_map] at *; omega)) ?_; conv => whnf) | (refine VReq.mk (by first | decide | omega) ?_; conv => whnf) | (refine AEq.mk (by kernel_rfl) rfl rfl ?_; conv => whnf) | (refine VReq.mk (app_ok (by (try simp only [List.length_map, List.length_append, List.length_cons, List.length_nil, List.length_take, List.length_drop, List.length_set, List.length_replicate] at *); omega) (by kernel_rfl)) ?_; conv => whnf)))
    · have e : unt t (ls.take (k + 1)) = unt t (ls.take k) ++ [ls[k]] := by rw [List.take_succ_eq_append_getElem hlt, unt_snoc, if_pos h]
      refine aback (k + 1) [(0, .lab 2)] [] rfl ?_ hlt ?_ (by repeat' (first | rfl | trivial | apply And.intro))
      · show ls.length - (k + 1) < ls.length - k; omega
      · refine ⟨⟨rfl, rfl, ?_⟩, trivial⟩
        rw [e, List.map_append]; rfl
    · have e : unt t (ls.take (k + 1)) = unt t (ls.take k) := by rw [List.take_succ_eq_append_getElem hlt, unt_snoc, if_neg (by omega)]
      refine aback (k + 1) [(0, .lab 0)] [] rfl ?_ hlt ?_ (by repeat' (first | rfl | trivial | apply And.intro))
      · show ls.length - (k + 1) < ls.length - k; omega
      · refine ⟨⟨rfl, rfl, ?_⟩, trivial⟩
        rw [e]
  · have : k = ls.length := by simp at hge; omega
    subst this
    conv => whnf
    rw [List.take_length]
    exact aend (.own 0) 1 _ [(0, .lab 0)] [] ⟨rfl, rfl, rfl⟩ rfl (by repeat' (first | rfl | trivial | apply And.intro)) (by repeat' (first | rfl | trivial | apply And.intro))
end Go.Proofs.YtinpgogjkmmjpaaDoor.Sx

namespace Go.Proofs.YtinpgogjkmmjpaaDoor.Sx
open Go Go.RowKit Go.Proofs.YtinpgogjkmmjpaaDoor.Vc Go.Proofs.YtinpgogjkmmjpaaDoor.Ax Go.Proofs.YtinpgogjkmmjpaaDoor.Ky Go.Proofs.YtinpgogjkmmjpaaDoor.Id Go.Proofs.YtinpgogjkmmjpaaDoor.Sp

def sl0 : Sl := ⟨⟨#[]⟩, ⟨#[]⟩, ⟨#[]⟩, 0, 0, 0, 0⟩
def atP (ls : List Lk) (id layer : ByteArray) (t : Int) (s : Sl) : Bool := decide (s.layer = layer) && decide (s.from_ ≤ t) && (decide (s.fin = 0) || decide (t < s.to_)) && decide (rt ls s.id = rt ls id)
def atO (r : Rg) (id layer : ByteArray) (t : Int) : Option Sl := r.slots.find? (atP (unt t r.links) id layer t)
def optA : Option Sl → AV
  | some s => .tup [slA s, bv true]
  | none => .tup [slA sl0, bv false]
theorem find_at {α : Type} {l : List α} {p : α → Bool} {i : Nat} (hi : i < l.length) (h : ∀ j (hj : j < i), p (l[j]'(by omega)) = false) (h2 : p l[i] = true) : l.find? p = some l[i] := by
  rw [List.find?_eq_some_iff_getElem]
  exact ⟨h2, i, hi, rfl, fun j hj => by rw [h j hj]; rfl⟩
theorem find_no {α : Type} {l : List α} {p : α → Bool} (h : ∀ j (hj : j < l.length), p l[j] = false) : l.find? p = none := by
  rw [List.find?_eq_none]
  intro x hx
  obtain ⟨j, hj, rfl⟩ := List.getElem_of_mem hx
  rw [h j hj]; simp
theorem unt_le (t : Int) (l : List Lk) : (unt t l).length ≤ l.length := List.length_filter_le _ _

set_option maxHeartbeats 4000000 in
set_option maxRecDepth 100000 in
theorem atA (r : Rg) (id layer : ByteArray) (t : Int) (hln : r.slots.length ≤ 1000000 ∧ r.links.length ≤ 1000000) : AFn Tryd.prog GS 54 [rgA r, sv id, sv layer, iv t] 0 [] (Is (optA (atO r id layer t))) := by
  have hu := unt_le t r.links
  have hO : atO r id layer t = r.slots.find? (atP (unt t r.links) id layer t) := rfl
  refine afn_of Tryd.func54 rfl mixed (by kernel_rfl) ?_
  conv => whnf
  (refine acallF [] (by kernel_rfl) (until1A r.links t hln.2) ?_ ?_; (focus (repeat' (first | rfl | trivial | apply And.intro))))
  rintro _ _ _ ⟨rfl, rfl, rfl⟩
  conv => whnf
  (refine acall [2] (by kernel_rfl) (rootA (unt t r.links) id (by omega)) rfl ?_ ?_; (focus (repeat' (first | rfl | trivial | apply And.intro))))
  conv => whnf
  refine aloopH ws54_1 [24] (fun k : Nat => [(24, iv k)]) (fun k => k ≤ r.slots.length ∧ ∀ j (hj : j < k) (hjl : j < r.slots.length), atP (unt t r.links) id layer t r.slots[j] = false) (fun k => r.slots.length - k) 0 (by kernel_rfl) (fun _ => rfl) (by kernel_rfl) ⟨Nat.zero_le _, fun j hj => absurd hj (Nat.not_lt_zero j)⟩ (by repeat' (first | rfl | trivial | apply And.intro)) (by repeat' (first | rfl | trivial | apply And.intro)) ?_
  rintro k ⟨hk, hno⟩
  conv => whnf
  refine vif_split (fun hlt => ?_) (fun hge => ?_)
  · have hlt : k < r.slots.length := by simpa using hlt
    have hcp : atP (unt t r.links) id layer t r.slots[k] = (decide (r.slots[k].layer = layer) && decide (r.slots[k].from_ ≤ t) && (decide (r.slots[k].fin = 0) || decide (t < r.slots[k].to_)) && decide (rt (unt t r.links) r.slots[k].id = rt (unt t r.links) id)) := rfl
    have good : atP (unt t r.links) id layer t r.slots[k] = false → k + 1 ≤ r.slots.length ∧ ∀ j (hj : j < k + 1) (hjl : j < r.slots.length), atP (unt t r.links) id layer t r.slots[j] = false := fun h => ⟨hlt, fun j hj hjl => by
      rcases Nat.lt_or_ge j k with h1 | h1
      · exact hno j h1 hjl
      · have : j = k := by omega
        subst this; exact h⟩
    conv => whnf
    (repeat' (first | (refine And.intro ?_ ?_ <;> (conv => whnf)) | (refine vif_split (fun h => ?_) (fun h => ?_) <;> (try simp only [sEqD, cond_true, cond_false, Bool.not_eq_true', Bool.not_eq_false', decide_eq_true_eq, decide_eq_false_iff_not, beq_iff_eq, bne_iff_ne, beq_eq_false_iff_ne, bne_eq_false_iff_eq, ne_eq, Bool.not_eq_eq_eq_not, Bool.not_true, Bool.not_false, Bool.false_eq_true, Bool.true_eq_false, Decidable.not_not, gt_iff_lt, ge_iff_le, Int.not_lt, Int.not_le] at h) <;> (conv => whnf)) | (refine AAr.i64 (by first | omega | ((try simp only [List.length_map] at *); omega)) ?_; conv => whnf) | (refine AIn.mk' _ rfl (by first | omega | (simp only [List.length_map, List.length_append, List.length_cons, List.length_nil, List.length_take, List.length_drop, List.length_set, List.length_replicate]; omega) | (simp only [List.length_map, List.length_append, List.length_cons, List.length_nil, List.length_take, List.length_drop, List.length_set, List.length_replicate] at *; omega)) ?_; conv => whnf) | (refine ARd.mapAt (by assumption) ?_; conv => whnf) | (refine ARd.set (by (try simp only [List.length_map, List.length_append, List.length_cons, List.length_nil, List.length_take, List.length_drop, List.length_set, List.length_replicate] at *); omega) ?_; conv => whnf) | (refine ARd.map (by first | omega | (simp only [List.length_map] at *; omega)) ?_; conv => whnf) | (refine VReq.mk (by first | decide | omega) ?_; conv => whnf) | (refine AEq.mk (by kernel_rfl) rfl rfl ?_; conv => whnf) | (refine VReq.mk (app_ok (by (try simp only [List.length_map, List.length_append, List.length_cons, List.length_nil, List.length_take, List.length_drop, List.length_set, List.length_replicate] at *); omega) (by kernel_rfl)) ?_; conv => whnf)))
    all_goals try ((refine acall [2] (by kernel_rfl) (rootA (unt t r.links) r.slots[k].id (by omega)) rfl ?_ ?_; (focus (repeat' (first | rfl | trivial | apply And.intro)))); (conv => whnf); (repeat' (first | (refine And.intro ?_ ?_ <;> (conv => whnf)) | (refine vif_split (fun h => ?_) (fun h => ?_) <;> (try simp only [sEqD, cond_true, cond_false, Bool.not_eq_true', Bool.not_eq_false', decide_eq_true_eq, decide_eq_false_iff_not, beq_iff_eq, bne_iff_ne, beq_eq_false_iff_ne, bne_eq_false_iff_eq, ne_eq, Bool.not_eq_eq_eq_not, Bool.not_true, Bool.not_false, Bool.false_eq_true, Bool.true_eq_false, Decidable.not_not, gt_iff_lt, ge_iff_le, Int.not_lt, Int.not_le] at h) <;> (conv => whnf)) | (refine AAr.i64 (by first | omega | ((try simp only [List.length_map] at *); omega)) ?_; conv => whnf) | (refine AIn.mk' _ rfl (by first | omega | (simp only [List.length_map, List.length_append, List.length_cons, List.length_nil, List.length_take, List.length_drop, List.length_set, List.length_replicate]; omega) | (simp only [List.length_map, List.length_append, List.length_cons, List.length_nil, List.length_take, List.length_drop, List.length_set, List.length_replicate] at *; omega)) ?_; conv => whnf) | (refine ARd.mapAt (by assumption) ?_; conv => whnf) | (refine ARd.set (by (try simp only [List.length_map, List.length_append, List.length_cons, List.length_nil, List.length_take, List.length_drop, List.length_set, List.length_replicate] at *); omega) ?_; conv => whnf) | (refine ARd.map (by first | omega | (simp only [List.length_map] at *; omega)) ?_; conv => whnf) | (refine VReq.mk (by first | decide | omega) ?_; conv => whnf) | (refine AEq.mk (by kernel_rfl) rfl rfl ?_; conv => whnf) | (refine VReq.mk (app_ok (by (try simp only [List.length_map, List.length_append, List.length_cons, List.length_nil, List.length_take, List.length_drop, List.length_set, List.length_replicate] at *); omega) (by kernel_rfl)) ?_; conv => whnf))))
    all_goals first
      | (refine aret [] ?_
         rw [hO, find_at hlt (fun j hj => hno j hj (by omega)) (by rw [hcp]; simp [*])]
         exact (by repeat' (first | rfl | trivial | apply And.intro)))
      | ((refine aback (k + 1) [] [] ?_ ?_ ?_ ?_ ?_; (focus rfl); rotate_left 2; (focus (repeat' (first | rfl | trivial | apply And.intro))); (focus (repeat' (first | rfl | trivial | apply And.intro))))
         · show r.slots.length - (k + 1) < r.slots.length - k; omega
         · exact good (by rw [hcp]; first | (simp [*]; done) | (simp [*]; omega)))
  · have : k = r.slots.length := by simp at hge; omega
    subst this
    conv => whnf
    refine aret [] ?_
    rw [hO, find_no fun j hj => hno j hj hj]
    exact (by repeat' (first | rfl | trivial | apply And.intro))

def at1O (v : Bool) (r : Rg) (id layer : ByteArray) (t : Int) : Option Sl := bif v then atO r id layer t else none
set_option maxHeartbeats 4000000 in
set_option maxRecDepth 100000 in
theorem at1A (r : Rg) (id layer : ByteArray) (t : Int) (hS : RegS r) (hln : r.slots.length ≤ 1000000 ∧ r.links.length ≤ 1000000) : AFn Tryd.prog GS 30 [rgA r, sv id, sv layer, iv t] 0 [] (Is (optA (at1O (validB r) r id layer t))) := by
  refine afn_of Tryd.func30 rfl mixed (by kernel_rfl) ?_
  conv => whnf
  (refine acall [] (by kernel_rfl) (valid1A r hS) rfl ?_ ?_; (focus (repeat' (first | rfl | trivial | apply And.intro))))
  cases hv : validB r <;> conv => whnf
  · exact aret [] (by repeat' (first | rfl | trivial | apply And.intro))
  have hA := atA r id layer t hln
  have e : at1O true r id layer t = atO r id layer t := rfl
  rw [e]
  generalize atO r id layer t = o at hA ⊢
  cases o
  · (refine acall [] (by kernel_rfl) (hA) rfl ?_ ?_; (focus (repeat' (first | rfl | trivial | apply And.intro))))
    conv => whnf
    exact aret [] (by repeat' (first | rfl | trivial | apply And.intro))
  · (refine acall [] (by kernel_rfl) (hA) rfl ?_ ?_; (focus (repeat' (first | rfl | trivial | apply And.intro))))
    conv => whnf
    exact aret [] (by repeat' (first | rfl | trivial | apply And.intro))
set_option maxHeartbeats 4000000 in
set_option maxRecDepth 100000 in
theorem at2A (r : Rg) (id layer : ByteArray) (t : Int) (hS : RegS r) (hln : r.slots.length ≤ 1000000 ∧ r.links.length ≤ 1000000) : AFn Tryd.prog GS 31 [rgA r, sv id, sv layer, iv t] 0 [] (Is (optA (at1O (valid2B r) r id layer t))) := by
  have hu := unt_le t r.links
  have hO : at1O true r id layer t = r.slots.find? (atP (unt t r.links) id layer t) := rfl
  refine afn_of Tryd.func31 rfl mixed (by kernel_rfl) ?_
  conv => whnf
  (refine acall [] (by kernel_rfl) (valid2A r hS hln) rfl ?_ ?_; (focus (repeat' (first | rfl | trivial | apply And.intro))))
  cases hv : valid2B r <;> conv => whnf
  · exact aret [] (by repeat' (first | rfl | trivial | apply And.intro))
  (refine acallF [] (by kernel_rfl) (until2A r.links t hln.2) ?_ ?_; (focus (repeat' (first | rfl | trivial | apply And.intro))))
  rintro _ _ _ ⟨rfl, rfl, rfl⟩
  conv => whnf
  refine aloopH ws31_1 [11] (fun k : Nat => [(11, iv k)]) (fun k => k ≤ r.slots.length ∧ ∀ j (hj : j < k) (hjl : j < r.slots.length), atP (unt t r.links) id layer t r.slots[j] = false) (fun k => r.slots.length - k) 0 (by kernel_rfl) (fun _ => rfl) (by kernel_rfl) ⟨Nat.zero_le _, fun j hj => absurd hj (Nat.not_lt_zero j)⟩ (by repeat' (first | rfl | trivial | apply And.intro)) (by repeat' (first | rfl | trivial | apply And.intro)) ?_
  rintro k ⟨hk, hno⟩
  conv => whnf
  refine vif_split (fun hlt => ?_) (fun hge => ?_)
  · have hlt : k < r.slots.length := by simpa using hlt
    have hcp : atP (unt t r.links) id layer t r.slots[k] = (decide (r.slots[k].layer = layer) && decide (r.slots[k].from_ ≤ t) && (decide (r.slots[k].fin = 0) || decide (t < r.slots[k].to_)) && decide (rt (unt t r.links) r.slots[k].id = rt (unt t r.links) id)) := rfl
    have good : atP (unt t r.links) id layer t r.slots[k] = false → k + 1 ≤ r.slots.length ∧ ∀ j (hj : j < k + 1) (hjl : j < r.slots.length), atP (unt t r.links) id layer t r.slots[j] = false := fun h => ⟨hlt, fun j hj hjl => by
      rcases Nat.lt_or_ge j k with h1 | h1
      · exact hno j h1 hjl
      · have : j = k := by omega
        subst this; exact h⟩
    conv => whnf
    (repeat' (first | (refine And.intro ?_ ?_ <;> (conv => whnf)) | (refine vif_split (fun h => ?_) (fun h => ?_) <;> (try simp only [sEqD, cond_true, cond_false, Bool.not_eq_true', Bool.not_eq_false', decide_eq_true_eq, decide_eq_false_iff_not, beq_iff_eq, bne_iff_ne, beq_eq_false_iff_ne, bne_eq_false_iff_eq, ne_eq, Bool.not_eq_eq_eq_not, Bool.not_true, Bool.not_false, Bool.false_eq_true, Bool.true_eq_false, Decidable.not_not, gt_iff_lt, ge_iff_le, Int.not_lt, Int.not_le] at h) <;> (conv => whnf)) | (refine AAr.i64 (by first | omega | ((try simp only [List.length_map] at *); omega)) ?_; conv => whnf) | (refine AIn.mk' _ rfl (by first | omega | (simp only [List.length_map, List.length_append, List.length_cons, List.length_nil, List.length_take, List.length_drop, List.length_set, List.length_replicate]; omega) | (simp only [List.length_map, List.length_append, List.length_cons, List.length_nil, List.length_take, List.length_drop, List.length_set, List.length_replicate] at *; omega)) ?_; conv => whnf) | (refine ARd.mapAt (by assumption) ?_; conv => whnf) | (refine ARd.set (by (try simp only [List.length_map, List.length_append, List.length_cons, List.length_nil, List.length_take, List.length_drop, List.length_set, List.length_replicate] at *); omega) ?_; conv => whnf) | (refine ARd.map (by first | omega | (simp only [List.length_map] at *; omega)) ?_; conv => whnf) | (refine VReq.mk (by first | decide | omega) ?_; conv => whnf) | (refine AEq.mk (by kernel_rfl) rfl rfl ?_; conv => whnf) | (refine VReq.mk (app_ok (by (try simp only [List.length_map, List.length_append, List.length_cons, List.length_nil, List.length_take, List.length_drop, List.length_set, List.length_replicate] at *); omega) (by kernel_rfl)) ?_; conv => whnf)))
    all_goals try ((refine acall [2] (by kernel_rfl) (same2A (unt t r.links) r.slots[k].id id (by omega)) rfl ?_ ?_; (focus (repeat' (first | rfl | trivial | apply And.intro)))); (conv => whnf); (repeat' (first | (refine And.intro ?_ ?_ <;> (conv => whnf)) | (refine vif_split (fun h => ?_) (fun h => ?_) <;> (try simp only [sEqD, cond_true, cond_false, Bool.not_eq_true', Bool.not_eq_false', decide_eq_true_eq, decide_eq_false_iff_not, beq_iff_eq, bne_iff_ne, beq_eq_false_iff_ne, bne_eq_false_iff_eq, ne_eq, Bool.not_eq_eq_eq_not, Bool.not_true, Bool.not_false, Bool.false_eq_true, Bool.true_eq_false, Decidable.not_not, gt_iff_lt, ge_iff_le, Int.not_lt, Int.not_le] at h) <;> (conv => whnf)) | (refine AAr.i64 (by first | omega | ((try simp only [List.length_map] at *); omega)) ?_; conv => whnf) | (refine AIn.mk' _ rfl (by first | omega | (simp only [List.length_map, List.length_append, List.length_cons, List.length_nil, List.length_take, List.length_drop, List.length_set, List.length_replicate]; omega) | (simp only [List.length_map, List.length_append, List.length_cons, List.length_nil, List.length_take, List.length_drop, List.length_set, List.length_replicate] at *; omega)) ?_; conv => whnf) | (refine ARd.mapAt (by assumption) ?_; conv => whnf) | (refine ARd.set (by (try simp only [List.length_map, List.length_append, List.length_cons, List.length_nil, List.length_take, List.length_drop, List.length_set, List.length_replicate] at *); omega) ?_; conv => whnf) | (refine ARd.map (by first | omega | (simp only [List.length_map] at *; omega)) ?_; conv => whnf) | (refine VReq.mk (by first | decide | omega) ?_; conv => whnf) | (refine AEq.mk (by kernel_rfl) rfl rfl ?_; conv => whnf) | (refine VReq.mk (app_ok (by (try simp only [List.length_map, List.length_append, List.length_cons, List.length_nil, List.length_take, List.length_drop, List.length_set, List.length_replicate] at *); omega) (by kernel_rfl)) ?_; conv => whnf))))
    all_goals first
      | (refine aret [] ?_
         rw [hO, find_at hlt (fun j hj => hno j hj (by omega)) (by rw [hcp]; simp [*])]
         exact (by repeat' (first | rfl | trivial | apply And.intro)))
      | ((refine aback (k + 1) [] [] ?_ ?_ ?_ ?_ ?_; (focus rfl); rotate_left 2; (focus (repeat' (first | rfl | trivial | apply And.intro))); (focus (repeat' (first | rfl | trivial | apply And.intro))))
         · show r.slots.length - (k + 1) < r.slots.length - k; omega
         · exact good (by rw [hcp]; first | (simp [*]; done) | (simp [*]; omega)))
  · have : k = r.slots.length := by simp at hge; omega
    subst this
    conv => whnf
    refine aret [] ?_
    rw [hO, find_no fun j hj => hno j hj hj]
    exact (by repeat' (first | rfl | trivial | apply And.intro))

def curO (r : Rg) (id layer : ByteArray) : Option Sl := match r.slots.findIdx? (curP r.links id layer) with | some i => r.slots[i]? | none => none
def cur1O (v : Bool) (r : Rg) (id layer : ByteArray) : Option Sl := bif v then curO r id layer else none
theorem cur_cases (r : Rg) (id layer : ByteArray) : (curI r id layer = -1 ∧ curO r id layer = none) ∨ ∃ i, ∃ h : i < r.slots.length, curI r id layer = (i : Int) ∧ curO r id layer = some r.slots[i] := by
  unfold curI curO
  cases h : r.slots.findIdx? (curP r.links id layer) with
  | none => exact .inl ⟨rfl, rfl⟩
  | some i =>
    have := (List.findIdx?_eq_some_iff_getElem.1 h).1
    exact .inr ⟨i, this, rfl, List.getElem?_eq_getElem this⟩
set_option maxHeartbeats 4000000 in
set_option maxRecDepth 100000 in
theorem cur1A (r : Rg) (id layer : ByteArray) (hS : RegS r) (hln : r.slots.length ≤ 1000000 ∧ r.links.length ≤ 1000000) : AFn Tryd.prog GS 29 [rgA r, sv id, sv layer] 0 [] (Is (optA (cur1O (validB r) r id layer))) := by
  refine afn_of Tryd.func29 rfl mixed (by kernel_rfl) ?_
  conv => whnf
  (refine acall [] (by kernel_rfl) (valid1A r hS) rfl ?_ ?_; (focus (repeat' (first | rfl | trivial | apply And.intro))))
  cases hv : validB r <;> conv => whnf
  · exact aret [] (by repeat' (first | rfl | trivial | apply And.intro))
  (refine acall [] (by kernel_rfl) (currentA r id layer hln) rfl ?_ ?_; (focus (repeat' (first | rfl | trivial | apply And.intro))))
  have e : cur1O true r id layer = curO r id layer := rfl
  rw [e]
  rcases cur_cases r id layer with ⟨e1, e2⟩ | ⟨i, hi, e1, e2⟩
  · rw [e1, e2]
    conv => whnf
    exact aret [] (by repeat' (first | rfl | trivial | apply And.intro))
  · rw [e1, e2]
    conv => whnf
    (repeat' (first | (refine And.intro ?_ ?_ <;> (conv => whnf)) | (refine vif_split (fun h => ?_) (fun h => ?_) <;> (try simp only [sEqD, cond_true, cond_false, Bool.not_eq_true', Bool.not_eq_false', decide_eq_true_eq, decide_eq_false_iff_not, beq_iff_eq, bne_iff_ne, beq_eq_false_iff_ne, bne_eq_false_iff_eq, ne_eq, Bool.not_eq_eq_eq_not, Bool.not_true, Bool.not_false, Bool.false_eq_true, Bool.true_eq_false, Decidable.not_not, gt_iff_lt, ge_iff_le, Int.not_lt, Int.not_le] at h) <;> (conv => whnf)) | (refine AAr.i64 (by first | omega | ((try simp only [List.length_map] at *); omega)) ?_; conv => whnf) | (refine AIn.mk' _ rfl (by first | omega | (simp only [List.length_map, List.length_append, List.length_cons, List.length_nil, List.length_take, List.length_drop, List.length_set, List.length_replicate]; omega) | (simp only [List.length_map, List.length_append, List.length_cons, List.length_nil, List.length_take, List.length_drop, List.length_set, List.length_replicate] at *; omega)) ?_; conv => whnf) | (refine ARd.mapAt (by assumption) ?_; conv => whnf) | (refine ARd.set (by (try simp only [List.length_map, List.length_append, List.length_cons, List.length_nil, List.length_take, List.length_drop, List.length_set, List.length_replicate] at *); omega) ?_; conv => whnf) | (refine ARd.map (by first | omega | (simp only [List.length_map] at *; omega)) ?_; conv => whnf) | (refine VReq.mk (by first | decide | omega) ?_; conv => whnf) | (refine AEq.mk (by kernel_rfl) rfl rfl ?_; conv => whnf) | (refine VReq.mk (app_ok (by (try simp only [List.length_map, List.length_append, List.length_cons, List.length_nil, List.length_take, List.length_drop, List.length_set, List.length_replicate] at *); omega) (by kernel_rfl)) ?_; conv => whnf)))
    all_goals first | (exfalso; omega) | exact aret [] (by repeat' (first | rfl | trivial | apply And.intro))
set_option maxHeartbeats 4000000 in
set_option maxRecDepth 100000 in
theorem cur2A (r : Rg) (id layer : ByteArray) (hS : RegS r) (hln : r.slots.length ≤ 1000000 ∧ r.links.length ≤ 1000000) : AFn Tryd.prog GS 32 [rgA r, sv id, sv layer] 0 [] (Is (optA (cur1O (valid2B r) r id layer))) := by
  refine afn_of Tryd.func32 rfl mixed (by kernel_rfl) ?_
  conv => whnf
  (refine acall [] (by kernel_rfl) (valid2A r hS hln) rfl ?_ ?_; (focus (repeat' (first | rfl | trivial | apply And.intro))))
  cases hv : valid2B r <;> conv => whnf
  · exact aret [] (by repeat' (first | rfl | trivial | apply And.intro))
  (refine acall [] (by kernel_rfl) (openA r id layer hln) rfl ?_ ?_; (focus (repeat' (first | rfl | trivial | apply And.intro))))
  have e : cur1O true r id layer = curO r id layer := rfl
  rw [e]
  rcases cur_cases r id layer with ⟨e1, e2⟩ | ⟨i, hi, e1, e2⟩
  · rw [e1, e2]
    conv => whnf
    exact aret [] (by repeat' (first | rfl | trivial | apply And.intro))
  · rw [e1, e2]
    conv => whnf
    (repeat' (first | (refine And.intro ?_ ?_ <;> (conv => whnf)) | (refine vif_split (fun h => ?_) (fun h => ?_) <;> (try simp only [sEqD, cond_true, cond_false, Bool.not_eq_true', Bool.not_eq_false', decide_eq_true_eq, decide_eq_false_iff_not, beq_iff_eq, bne_iff_ne, beq_eq_false_iff_ne, bne_eq_false_iff_eq, ne_eq, Bool.not_eq_eq_eq_not, Bool.not_true, Bool.not_false, Bool.false_eq_true, Bool.true_eq_false, Decidable.not_not, gt_iff_lt, ge_iff_le, Int.not_lt, Int.not_le] at h) <;> (conv => whnf)) | (refine AAr.i64 (by first | omega | ((try simp only [List.length_map] at *); omega)) ?_; conv => whnf) | (refine AIn.mk' _ rfl (by first | omega | (simp only [List.length_map, List.length_append, List.length_cons, List.length_nil, List.length_take, List.length_drop, List.length_set, List.length_replicate]; omega) | (simp only [List.length_map, List.length_append, List.length_cons, List.length_nil, List.length_take, List.length_drop, List.length_set, List.length_replicate] at *; omega)) ?_; conv => whnf) | (refine ARd.mapAt (by assumption) ?_; conv => whnf) | (refine ARd.set (by (try simp only [List.length_map, List.length_append, List.length_cons, List.length_nil, List.length_take, List.length_drop, List.length_set, List.length_replicate] at *); omega) ?_; conv => whnf) | (refine ARd.map (by first | omega | (simp only [List.length_map] at *; omega)) ?_; conv => whnf) | (refine VReq.mk (by first | decide | omega) ?_; conv => whnf) | (refine AEq.mk (by kernel_rfl) rfl rfl ?_; conv => whnf) | (refine VReq.mk (app_ok (by (try simp only [List.length_map, List.length_append, List.length_cons, List.length_nil, List.length_take, List.length_drop, List.length_set, List.length_replicate] at *); omega) (by kernel_rfl)) ?_; conv => whnf)))
    all_goals first | (exfalso; omega) | exact aret [] (by repeat' (first | rfl | trivial | apply And.intro))

def readyE (v : Bool) (r : Rg) (now : Int) : Int := bif v then (if now < r.now ∨ 1099511627776 < now then 26 else 0) else 25
set_option maxHeartbeats 4000000 in
set_option maxRecDepth 100000 in
theorem ready1A (r : Rg) (now : Int) (hS : RegS r) (hln : r.slots.length ≤ 1000000 ∧ r.links.length ≤ 1000000) : AFn Tryd.prog GS 50 [rgA r, iv now] 0 [] (Is (iv (readyE (validB r) r now))) := by
  refine afn_of Tryd.func50 rfl mixed (by kernel_rfl) ?_
  conv => whnf
  (refine acall [] (by kernel_rfl) (valid1A r hS) rfl ?_ ?_; (focus (repeat' (first | rfl | trivial | apply And.intro))))
  cases hv : validB r <;> conv => whnf
  · exact aret [] (by repeat' (first | rfl | trivial | apply And.intro))
  have e : readyE true r now = if now < r.now ∨ 1099511627776 < now then 26 else 0 := rfl
  rw [e]
  (repeat' (first | (refine And.intro ?_ ?_ <;> (conv => whnf)) | (refine vif_split (fun h => ?_) (fun h => ?_) <;> (try simp only [sEqD, cond_true, cond_false, Bool.not_eq_true', Bool.not_eq_false', decide_eq_true_eq, decide_eq_false_iff_not, beq_iff_eq, bne_iff_ne, beq_eq_false_iff_ne, bne_eq_false_iff_eq, ne_eq, Bool.not_eq_eq_eq_not, Bool.not_true, Bool.not_false, Bool.false_eq_true, Bool.true_eq_false, Decidable.not_not, gt_iff_lt, ge_iff_le, Int.not_lt, Int.not_le] at h) <;> (conv => whnf)) | (refine AAr.i64 (by first | omega | ((try simp only [List.length_map] at *); omega)) ?_; conv => whnf) | (refine AIn.mk' _ rfl (by first | omega | (simp only [List.length_map, List.length_append, List.length_cons, List.length_nil, List.length_take, List.length_drop, List.length_set, List.length_replicate]; omega) | (simp only [List.length_map, List.length_append, List.length_cons, List.length_nil, List.length_take, List.length_drop, List.length_set, List.length_replicate] at *; omega)) ?_; conv => whnf) | (refine ARd.mapAt (by assumption) ?_; conv => whnf) | (refine ARd.set (by (try simp only [List.length_map, List.length_append, List.length_cons, List.length_nil, List.length_take, List.length_drop, List.length_set, List.length_replicate] at *); omega) ?_; conv => whnf) | (refine ARd.map (by first | omega | (simp only [List.length_map] at *; omega)) ?_; conv => whnf) | (refine VReq.mk (by first | decide | omega) ?_; conv => whnf) | (refine AEq.mk (by kernel_rfl) rfl rfl ?_; conv => whnf) | (refine VReq.mk (app_ok (by (try simp only [List.length_map, List.length_append, List.length_cons, List.length_nil, List.length_take, List.length_drop, List.length_set, List.length_replicate] at *); omega) (by kernel_rfl)) ?_; conv => whnf)))
  all_goals first
    | (rw [if_pos (by omega)]; exact aret [] (by repeat' (first | rfl | trivial | apply And.intro)))
    | (rw [if_neg (by omega)]; exact aret [] (by repeat' (first | rfl | trivial | apply And.intro)))
set_option maxHeartbeats 4000000 in
set_option maxRecDepth 100000 in
theorem ready2A (r : Rg) (now : Int) (hS : RegS r) (hln : r.slots.length ≤ 1000000 ∧ r.links.length ≤ 1000000) : AFn Tryd.prog GS 57 [rgA r, iv now] 0 [] (Is (iv (readyE (valid2B r) r now))) := by
  refine afn_of Tryd.func57 rfl mixed (by kernel_rfl) ?_
  conv => whnf
  (refine acall [] (by kernel_rfl) (valid2A r hS hln) rfl ?_ ?_; (focus (repeat' (first | rfl | trivial | apply And.intro))))
  cases hv : valid2B r <;> conv => whnf
  · exact aret [] (by repeat' (first | rfl | trivial | apply And.intro))
  have e : readyE true r now = if now < r.now ∨ 1099511627776 < now then 26 else 0 := rfl
  rw [e]
  (repeat' (first | (refine And.intro ?_ ?_ <;> (conv => whnf)) | (refine vif_split (fun h => ?_) (fun h => ?_) <;> (try simp only [sEqD, cond_true, cond_false, Bool.not_eq_true', Bool.not_eq_false', decide_eq_true_eq, decide_eq_false_iff_not, beq_iff_eq, bne_iff_ne, beq_eq_false_iff_ne, bne_eq_false_iff_eq, ne_eq, Bool.not_eq_eq_eq_not, Bool.not_true, Bool.not_false, Bool.false_eq_true, Bool.true_eq_false, Decidable.not_not, gt_iff_lt, ge_iff_le, Int.not_lt, Int.not_le] at h) <;> (conv => whnf)) | (refine AAr.i64 (by first | omega | ((try simp only [List.length_map] at *); omega)) ?_; conv => whnf) | (refine AIn.mk' _ rfl (by first | omega | (simp only [List.length_map, List.length_append, List.length_cons, List.length_nil, List.length_take, List.length_drop, List.length_set, List.length_replicate]; omega) | (simp only [List.length_map, List.length_append, List.length_cons, List.length_nil, List.length_take, List.length_drop, List.length_set, List.length_replicate] at *; omega)) ?_; conv => whnf) | (refine ARd.mapAt (by assumption) ?_; conv => whnf) | (refine ARd.set (by (try simp only [List.length_map, List.length_append, List.length_cons, List.length_nil, List.length_take, List.length_drop, List.length_set, List.length_replicate] at *); omega) ?_; conv => whnf) | (refine ARd.map (by first | omega | (simp only [List.length_map] at *; omega)) ?_; conv => whnf) | (refine VReq.mk (by first | decide | omega) ?_; conv => whnf) | (refine AEq.mk (by kernel_rfl) rfl rfl ?_; conv => whnf) | (refine VReq.mk (app_ok (by (try simp only [List.length_map, List.length_append, List.length_cons, List.length_nil, List.length_take, List.length_drop, List.length_set, List.length_replicate] at *); omega) (by kernel_rfl)) ?_; conv => whnf)))
  all_goals first
    | (rw [if_pos (by omega)]; exact aret [] (by repeat' (first | rfl | trivial | apply And.intro)))
    | (rw [if_neg (by omega)]; exact aret [] (by repeat' (first | rfl | trivial | apply And.intro)))
end Go.Proofs.YtinpgogjkmmjpaaDoor.Sx

namespace Go.Proofs.YtinpgogjkmmjpaaDoor.Sx
open Go Go.RowKit Go.Proofs.YtinpgogjkmmjpaaDoor.Vc Go.Proofs.YtinpgogjkmmjpaaDoor.Ax Go.Proofs.YtinpgogjkmmjpaaDoor.Ky Go.Proofs.YtinpgogjkmmjpaaDoor.Id Go.Proofs.YtinpgogjkmmjpaaDoor.Sp

set_option maxHeartbeats 4000000 in
set_option maxRecDepth 100000 in
theorem cloneL (l : List Lk) (hl : l.length ≤ 1000000) : AFn Tryd.prog GS 68 [.lst 3 (l.map lkF)] 0 [] (Own1 40 3 (l.map lkF)) := by
  refine afn_of Tryd.func68 rfl mixed (by kernel_rfl) ?_
  conv => whnf
  refine ANil.mk fun b hb => ?_
  cases b
  · conv => whnf
    (repeat' (first | (refine And.intro ?_ ?_ <;> (conv => whnf)) | (refine vif_split (fun h => ?_) (fun h => ?_) <;> (try simp only [sEqD, cond_true, cond_false, Bool.not_eq_true', Bool.not_eq_false', decide_eq_true_eq, decide_eq_false_iff_not, beq_iff_eq, bne_iff_ne, beq_eq_false_iff_ne, bne_eq_false_iff_eq, ne_eq, Bool.not_eq_eq_eq_not, Bool.not_true, Bool.not_false, Bool.false_eq_true, Bool.true_eq_false, Decidable.not_not, gt_iff_lt, ge_iff_le, Int.not_lt, Int.not_le] at h) <;> (conv => whnf)) | (refine AAr.i64 (by first | omega | ((try simp only [List.length_map] at *); omega)) ?_; conv => whnf) | (refine AIn.mk' _ rfl (by first | omega | (simp only [List.length_map, List.length_append, List.length_cons, List.length_nil, List.length_take, List.length_drop, List.length_set, List.length_replicate]; omega) | (simp only [List.length_map, List.length_append, List.length_cons, List.length_nil, List.length_take, List.length_drop, List.length_set, List.length_replicate] at *; omega)) ?_; conv => whnf) | (refine ARd.mapAt (by assumption) ?_; conv => whnf) | (refine ARd.set (by (try simp only [List.length_map, List.length_append, List.length_cons, List.length_nil, List.length_take, List.length_drop, List.length_set, List.length_replicate] at *); omega) ?_; conv => whnf) | (refine ARd.map (by first | omega | (simp only [List.length_map] at *; omega)) ?_; conv => whnf) | (refine VReq.mk (by first | decide | omega) ?_; conv => whnf) | (refine AEq.mk (by kernel_rfl) rfl rfl ?_; conv => whnf) | (refine VReq.mk (app_ok (by (try simp only [List.length_map, List.length_append, List.length_cons, List.length_nil, List.length_take, List.length_drop, List.length_set, List.length_replicate] at *); omega) (by kernel_rfl)) ?_; conv => whnf)))
    exact aend (.own 0) 1 _ [(0, .lab 1)] [] ⟨rfl, rfl, rfl⟩ rfl (by repeat' (first | rfl | trivial | apply And.intro)) (by repeat' (first | rfl | trivial | apply And.intro))
  · have h0 : l = [] := by
      cases l with
      | nil => rfl
      | cons a r => exact absurd (hb (by simp)) (by simp)
    subst h0
    conv => whnf
    exact aend (.own 0) 1 [(0, .rows 40 3 [])] [(0, .nil)] [] ⟨rfl, rfl, rfl⟩ rfl (by repeat' (first | rfl | trivial | apply And.intro)) (by repeat' (first | rfl | trivial | apply And.intro))
set_option maxHeartbeats 4000000 in
set_option maxRecDepth 100000 in
theorem cloneS (l : List Sl) (hl : l.length ≤ 1000000) : AFn Tryd.prog GS 69 [.lst 7 (l.map slF)] 0 [] (Own1 43 7 (l.map slF)) := by
  refine afn_of Tryd.func69 rfl mixed (by kernel_rfl) ?_
  conv => whnf
  refine ANil.mk fun b hb => ?_
  cases b
  · conv => whnf
    (repeat' (first | (refine And.intro ?_ ?_ <;> (conv => whnf)) | (refine vif_split (fun h => ?_) (fun h => ?_) <;> (try simp only [sEqD, cond_true, cond_false, Bool.not_eq_true', Bool.not_eq_false', decide_eq_true_eq, decide_eq_false_iff_not, beq_iff_eq, bne_iff_ne, beq_eq_false_iff_ne, bne_eq_false_iff_eq, ne_eq, Bool.not_eq_eq_eq_not, Bool.not_true, Bool.not_false, Bool.false_eq_true, Bool.true_eq_false, Decidable.not_not, gt_iff_lt, ge_iff_le, Int.not_lt, Int.not_le] at h) <;> (conv => whnf)) | (refine AAr.i64 (by first | omega | ((try simp only [List.length_map] at *); omega)) ?_; conv => whnf) | (refine AIn.mk' _ rfl (by first | omega | (simp only [List.length_map, List.length_append, List.length_cons, List.length_nil, List.length_take, List.length_drop, List.length_set, List.length_replicate]; omega) | (simp only [List.length_map, List.length_append, List.length_cons, List.length_nil, List.length_take, List.length_drop, List.length_set, List.length_replicate] at *; omega)) ?_; conv => whnf) | (refine ARd.mapAt (by assumption) ?_; conv => whnf) | (refine ARd.set (by (try simp only [List.length_map, List.length_append, List.length_cons, List.length_nil, List.length_take, List.length_drop, List.length_set, List.length_replicate] at *); omega) ?_; conv => whnf) | (refine ARd.map (by first | omega | (simp only [List.length_map] at *; omega)) ?_; conv => whnf) | (refine VReq.mk (by first | decide | omega) ?_; conv => whnf) | (refine AEq.mk (by kernel_rfl) rfl rfl ?_; conv => whnf) | (refine VReq.mk (app_ok (by (try simp only [List.length_map, List.length_append, List.length_cons, List.length_nil, List.length_take, List.length_drop, List.length_set, List.length_replicate] at *); omega) (by kernel_rfl)) ?_; conv => whnf)))
    exact aend (.own 0) 1 _ [(0, .lab 1)] [] ⟨rfl, rfl, rfl⟩ rfl (by repeat' (first | rfl | trivial | apply And.intro)) (by repeat' (first | rfl | trivial | apply And.intro))
  · have h0 : l = [] := by
      cases l with
      | nil => rfl
      | cons a r => exact absurd (hb (by simp)) (by simp)
    subst h0
    conv => whnf
    exact aend (.own 0) 1 [(0, .rows 43 7 [])] [(0, .nil)] [] ⟨rfl, rfl, rfl⟩ rfl (by repeat' (first | rfl | trivial | apply And.intro)) (by repeat' (first | rfl | trivial | apply And.intro))

/-- a register with lists of its own -/
def RgO (now : Int) (ls : List Lk) (ss : List Sl) (a : AV) (n : Nat) (H : AHeap) : Prop := a = .agg [iv now, .own 0, .own 1] ∧ n = 2 ∧ H = [(0, .rows 40 3 (ls.map lkF)), (1, .rows 43 7 (ss.map slF))]
set_option maxHeartbeats 4000000 in
set_option maxRecDepth 100000 in
theorem copiedA (r : Rg) (now : Int) (hln : r.slots.length ≤ 1000000 ∧ r.links.length ≤ 1000000) : AFn Tryd.prog GS 51 [rgA r, iv now] 0 [] (RgO now r.links r.slots) := by
  refine afn_of Tryd.func51 rfl mixed (by kernel_rfl) ?_
  conv => whnf
  (refine adraw pln51 [] (by kernel_rfl) ?_; conv => whnf)
  (refine acallF [] (by kernel_rfl) (cloneL r.links hln.2) ?_ ?_; (focus (repeat' (first | rfl | trivial | apply And.intro))))
  rintro _ _ _ ⟨rfl, rfl, rfl⟩
  conv => whnf
  (refine acallF [] (by kernel_rfl) (cloneS r.slots hln.1) ?_ ?_; (focus (repeat' (first | rfl | trivial | apply And.intro))))
  rintro _ _ _ ⟨rfl, rfl, rfl⟩
  conv => whnf
  exact aend _ 2 _ [(0, .lab 2), (1, .lab 3)] [] ⟨rfl, rfl, rfl⟩ rfl (by repeat' (first | rfl | trivial | apply And.intro)) (by repeat' (first | rfl | trivial | apply And.intro))
set_option maxHeartbeats 4000000 in
set_option maxRecDepth 100000 in
theorem freshA (r : Rg) (now : Int) (hln : r.slots.length ≤ 1000000 ∧ r.links.length ≤ 1000000) : AFn Tryd.prog GS 58 [rgA r, iv now] 0 [] (RgO now r.links r.slots) := by
  refine afn_of Tryd.func58 rfl mixed (by kernel_rfl) ?_
  conv => whnf
  (refine adraw pln58 [2, 3, 4, 5] (by kernel_rfl) ?_; conv => whnf)
  (repeat' (first | (refine And.intro ?_ ?_ <;> (conv => whnf)) | (refine vif_split (fun h => ?_) (fun h => ?_) <;> (try simp only [sEqD, cond_true, cond_false, Bool.not_eq_true', Bool.not_eq_false', decide_eq_true_eq, decide_eq_false_iff_not, beq_iff_eq, bne_iff_ne, beq_eq_false_iff_ne, bne_eq_false_iff_eq, ne_eq, Bool.not_eq_eq_eq_not, Bool.not_true, Bool.not_false, Bool.false_eq_true, Bool.true_eq_false, Decidable.not_not, gt_iff_lt, ge_iff_le, Int.not_lt, Int.not_le] at h) <;> (conv => whnf)) | (refine AAr.i64 (by first | omega | ((try simp only [List.length_map] at *); omega)) ?_; conv => whnf) | (refine AIn.mk' _ rfl (by first | omega | (simp only [List.length_map, List.length_append, List.length_cons, List.length_nil, List.length_take, List.length_drop, List.length_set, List.length_replicate]; omega) | (simp only [List.length_map, List.length_append, List.length_cons, List.length_nil, List.length_take, List.length_drop, List.length_set, List.length_replicate] at *; omega)) ?_; conv => whnf) | (refine ARd.mapAt (by assumption) ?_; conv => whnf) | (refine ARd.set (by (try simp only [List.length_map, List.length_append, List.length_cons, List.length_nil, List.length_take, List.length_drop, List.length_set, List.length_replicate] at *); omega) ?_; conv => whnf) | (refine ARd.map (by first | omega | (simp only [List.length_map] at *; omega)) ?_; conv => whnf) | (refine VReq.mk (by first | decide | omega) ?_; conv => whnf) | (refine AEq.mk (by kernel_rfl) rfl rfl ?_; conv => whnf) | (refine VReq.mk (app_ok (by (try simp only [List.length_map, List.length_append, List.length_cons, List.length_nil, List.length_take, List.length_drop, List.length_set, List.length_replicate] at *); omega) (by kernel_rfl)) ?_; conv => whnf)))
  all_goals first
    | (refine aend _ 2 _ [(0, .lab 3), (1, .lab 5)] [] ⟨rfl, rfl, rfl⟩ ?_ ?_ ?_; (focus rfl); (focus (repeat' (first | rfl | trivial | apply And.intro))); (focus (repeat' (first | rfl | trivial | apply And.intro))); done)
    | (refine aend _ 2 _ [(0, .lab 5), (1, .lab 3)] [] ⟨rfl, rfl, rfl⟩ ?_ ?_ ?_; (focus rfl); (focus (repeat' (first | rfl | trivial | apply And.intro))); (focus (repeat' (first | rfl | trivial | apply And.intro))); done)
    | (refine aend _ 2 _ [(0, .lab 4), (1, .lab 5)] [] ⟨rfl, rfl, rfl⟩ ?_ ?_ ?_; (focus rfl); (focus (repeat' (first | rfl | trivial | apply And.intro))); (focus (repeat' (first | rfl | trivial | apply And.intro))); done)
    | (refine aend _ 2 _ [(0, .lab 5), (1, .lab 4)] [] ⟨rfl, rfl, rfl⟩ ?_ ?_ ?_; (focus rfl); (focus (repeat' (first | rfl | trivial | apply And.intro))); (focus (repeat' (first | rfl | trivial | apply And.intro))); done)
end Go.Proofs.YtinpgogjkmmjpaaDoor.Sx
