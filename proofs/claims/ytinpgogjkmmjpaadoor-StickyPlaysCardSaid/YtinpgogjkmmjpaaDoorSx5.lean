/- The walks of At, Current, ready and begin. Condition: as Sx1's. -/
import Derived.Test.YtinpgogjkmmjpaaDoorSx4
namespace Go.Proofs.YtinpgogjkmmjpaaDoor.Sx
open Go Go.RowKit Go.Proofs.YtinpgogjkmmjpaaDoor.Vc Go.Proofs.YtinpgogjkmmjpaaDoor.Ax Go.Proofs.YtinpgogjkmmjpaaDoor.Ky Go.Proofs.YtinpgogjkmmjpaaDoor.Id Go.Proofs.YtinpgogjkmmjpaaDoor.Sp

def sl0 : Sl := ⟨⟨#[]⟩, ⟨#[]⟩, ⟨#[]⟩, 0, 0, 0, 0⟩
def atP (ls : List Lk) (id layer : ByteArray) (t : Int) (s : Sl) : Bool := decide (s.layer = layer) && decide (s.from_ ≤ t) && (decide (s.fin = 0) || decide (t < s.to_)) && decide (rt ls s.id = rt ls id)
def atO (r : Rg) (id layer : ByteArray) (t : Int) : Option Sl := r.slots.find? (atP (unt t r.links) id layer t)
def optA : Option Sl → AV
  | some s => .tup [slA s, bv true]
  | none => .tup [slA sl0, bv false]
theorem find_at {α : Type} {l : List α} {p : α → Bool} {i : Nat} (hi : i < l.length) (h : ∀ j (hj : j < i), p (l[j]'(by omega)) = false) (h2 : p l[i] = true) : l.find? p = some l[i] := by
  rw [List.find?_eq_some_iff_getElem]
  exact ⟨h2, i, hi, rfl, fun j hj => by rw [h j hj]; rfl⟩
theorem find_no {α : Type} {l : List α} {p : α → Bool} (h : ∀ j (hj : j < l.length), p l[j] = false) : l.find? p = none := by
  rw [List.find?_eq_none]
  intro x hx
  obtain ⟨j, hj, rfl⟩ := List.getElem_of_mem hx
  rw [h j hj]; simp
theorem unt_le (t : Int) (l : List Lk) : (unt t l).length ≤ l.length := List.length_filter_le _ _

set_option maxHeartbeats 4000000 in
set_option maxRecDepth 100000 in
theorem atA (r : Rg) (id layer : ByteArray) (t : Int) (hln : r.slots.length ≤ 1000000 ∧ r.links.length ≤ 1000000) : AFn Tryd.prog GS 54 [rgA r, sv id, sv layer, iv t] 0 [] (Is (optA (atO r id layer t))) := by
  have hu := unt_le t r.links
  have hO : atO r id layer t = r.slots.find? (atP (unt t r.links) id layer t) := rfl
  refine afn_of Tryd.func54 rfl mixed (by kernel_rfl) ?_
  conv => whnf
  (refine acallF [] (by kernel_rfl) (until1A r.links t hln.2) ?_ ?_; (focus (repeat' (first | rfl | trivial | apply And.intro))))
  rintro _ _ _ ⟨rfl, rfl, rfl⟩
  conv => whnf
  (refine acall [2] (by kernel_rfl) (rootA (unt t r.links) id (by omega)) rfl ?_ ?_; (focus (repeat' (first | rfl | trivial | apply And.intro))))
  conv => whnf
  refine aloopH ws54_1 [24] (fun k : Nat => [(24, iv k)]) (fun k => k ≤ r.slots.length ∧ ∀ j (hj : j < k) (hjl : j < r.slots.length), atP (unt t r.links) id layer t r.slots[j] = false) (fun k => r.slots.length - k) 0 (by kernel_rfl) (fun _ => rfl) (by kernel_rfl) ⟨Nat.zero_le _, fun j hj => absurd hj (Nat.not_lt_zero j)⟩ (by repeat' (first | rfl | trivial | apply And.intro)) (by repeat' (first | rfl | trivial | apply And.intro)) ?_
  rintro k ⟨hk, hno⟩
  conv => whnf
  refine vif_split (fun hlt => ?_) (fun hge => ?_)
  · have hlt : k < r.slots.length := by simpa using hlt
    have hcp : atP (unt t r.links) id layer t r.slots[k] = (decide (r.slots[k].layer = layer) && decide (r.slots[k].from_ ≤ t) && (decide (r.slots[k].fin = 0) || decide (t < r.slots[k].to_)) && decide (rt (unt t r.links) r.slots[k].id = rt (unt t r.links) id)) := rfl
    have good : atP (unt t r.links) id layer t r.slots[k] = false → k + 1 ≤ r.slots.length ∧ ∀ j (hj : j < k + 1) (hjl : j < r.slots.length), atP (unt t r.links) id layer t r.slots[j] = false := fun h => ⟨hlt, fun j hj hjl => by
      rcases Nat.lt_or_ge j k with h1 | h1
      · exact hno j h1 hjl
      · have : j = k := by omega
        subst this; exact h⟩
    conv => whnf
    (repeat' (first | (refine And.intro ?_ ?_ <;> (conv => whnf)) | (refine vif_split (fun h => ?_) (fun h => ?_) <;> (try simp only [sEqD, cond_true, cond_false, Bool.not_eq_true', Bool.not_eq_false', decide_eq_true_eq, decide_eq_false_iff_not, beq_iff_eq, bne_iff_ne, beq_eq_false_iff_ne, bne_eq_false_iff_eq, ne_eq, Bool.not_eq_eq_eq_not, Bool.not_true, Bool.not_false, Bool.false_eq_true, Bool.true_eq_false, Decidable.not_not, gt_iff_lt, ge_iff_le, Int.not_lt, Int.not_le] at h) <;> (conv => whnf)) | (refine AAr.i64 (by omega) ?_; conv => whnf) | (refine AIn.mk' _ rfl (by simp only [List.length_map, List.length_append, List.length_cons, List.length_nil, List.length_take, List.length_drop, List.length_set]; omega) ?_; conv => whnf) | (refine ARd.mapAt (by assumption) ?_; conv => whnf) | (refine ARd.set (by (try simp only [List.length_map, List.length_append, List.length_cons, List.length_nil, List.length_take, List.length_drop, List.length_set] at *); omega) ?_; conv => whnf) | (refine ARd.map (by omega) ?_; conv => whnf) | (refine VReq.mk (by first | decide | omega) ?_; conv => whnf) | (refine AEq.mk rfl rfl rfl ?_; conv => whnf) | (refine VReq.mk (app_ok (by (try simp only [List.length_map, List.length_append, List.length_cons, List.length_nil, List.length_take, List.length_drop, List.length_set] at *); omega) (by kernel_rfl)) ?_; conv => whnf)))
    all_goals try ((refine acall [2] (by kernel_rfl) (rootA (unt t r.links) r.slots[k].id (by omega)) rfl ?_ ?_; (focus (repeat' (first | rfl | trivial | apply And.intro)))); (conv => whnf); (repeat' (first | (refine And.intro ?_ ?_ <;> (conv => whnf)) | (refine vif_split (fun h => ?_) (fun h => ?_) <;> (try simp only [sEqD, cond_true, cond_false, Bool.not_eq_true', Bool.not_eq_false', decide_eq_true_eq, decide_eq_false_iff_not, beq_iff_eq, bne_iff_ne, beq_eq_false_iff_ne, bne_eq_false_iff_eq, ne_eq, Bool.not_eq_eq_eq_not, Bool.not_true, Bool.not_false, Bool.false_eq_true, Bool.true_eq_false, Decidable.not_not, gt_iff_lt, ge_iff_le, Int.not_lt, Int.not_le] at h) <;> (conv => whnf)) | (refine AAr.i64 (by omega) ?_; conv => whnf) | (refine AIn.mk' _ rfl (by simp only [List.length_map, List.length_append, List.length_cons, List.length_nil, List.length_take, List.length_drop, List.length_set]; omega) ?_; conv => whnf) | (refine ARd.mapAt (by assumption) ?_; conv => whnf) | (refine ARd.set (by (try simp only [List.length_map, List.length_append, List.length_cons, List.length_nil, List.length_take, List.length_drop, List.length_set] at *); omega) ?_; conv => whnf) | (refine ARd.map (by omega) ?_; conv => whnf) | (refine VReq.mk (by first | decide | omega) ?_; conv => whnf) | (refine AEq.mk rfl rfl rfl ?_; conv => whnf) | (refine VReq.mk (app_ok (by (try simp only [List.length_map, List.length_append, List.length_cons, List.length_nil, List.length_take, List.length_drop, List.length_set] at *); omega) (by kernel_rfl)) ?_; conv => whnf))))
    all_goals first
      | (refine aret [] ?_
         rw [hO, find_at hlt (fun j hj => hno j hj (by omega)) (by rw [hcp]; simp [*])]
         exact (by repeat' (first | rfl | trivial | apply And.intro)))
      | ((refine aback (k + 1) [] [] ?_ ?_ ?_ ?_ ?_; (focus rfl); rotate_left 2; (focus (repeat' (first | rfl | trivial | apply And.intro))); (focus (repeat' (first | rfl | trivial | apply And.intro))))
         · show r.slots.length - (k + 1) < r.slots.length - k; omega
         · exact good (by rw [hcp]; first | (simp [*]; done) | (simp [*]; omega)))
  · have : k = r.slots.length := by simp at hge; omega
    subst this
    conv => whnf
    refine aret [] ?_
    rw [hO, find_no fun j hj => hno j hj hj]
    exact (by repeat' (first | rfl | trivial | apply And.intro))

def at1O (v : Bool) (r : Rg) (id layer : ByteArray) (t : Int) : Option Sl := bif v then atO r id layer t else none
set_option maxHeartbeats 4000000 in
set_option maxRecDepth 100000 in
theorem at1A (r : Rg) (id layer : ByteArray) (t : Int) (hS : RegS r) (hln : r.slots.length ≤ 1000000 ∧ r.links.length ≤ 1000000) : AFn Tryd.prog GS 30 [rgA r, sv id, sv layer, iv t] 0 [] (Is (optA (at1O (validB r) r id layer t))) := by
  refine afn_of Tryd.func30 rfl mixed (by kernel_rfl) ?_
  conv => whnf
  (refine acall [] (by kernel_rfl) (valid1A r hS) rfl ?_ ?_; (focus (repeat' (first | rfl | trivial | apply And.intro))))
  cases hv : validB r <;> conv => whnf
  · exact aret [] (by repeat' (first | rfl | trivial | apply And.intro))
  have hA := atA r id layer t hln
  have e : at1O true r id layer t = atO r id layer t := rfl
  rw [e]
  generalize atO r id layer t = o at hA ⊢
  cases o
  · (refine acall [] (by kernel_rfl) (hA) rfl ?_ ?_; (focus (repeat' (first | rfl | trivial | apply And.intro))))
    conv => whnf
    exact aret [] (by repeat' (first | rfl | trivial | apply And.intro))
  · (refine acall [] (by kernel_rfl) (hA) rfl ?_ ?_; (focus (repeat' (first | rfl | trivial | apply And.intro))))
    conv => whnf
    exact aret [] (by repeat' (first | rfl | trivial | apply And.intro))
set_option maxHeartbeats 4000000 in
set_option maxRecDepth 100000 in
theorem at2A (r : Rg) (id layer : ByteArray) (t : Int) (hS : RegS r) (hln : r.slots.length ≤ 1000000 ∧ r.links.length ≤ 1000000) : AFn Tryd.prog GS 31 [rgA r, sv id, sv layer, iv t] 0 [] (Is (optA (at1O (valid2B r) r id layer t))) := by
  have hu := unt_le t r.links
  have hO : at1O true r id layer t = r.slots.find? (atP (unt t r.links) id layer t) := rfl
  refine afn_of Tryd.func31 rfl mixed (by kernel_rfl) ?_
  conv => whnf
  (refine acall [] (by kernel_rfl) (valid2A r hS hln) rfl ?_ ?_; (focus (repeat' (first | rfl | trivial | apply And.intro))))
  cases hv : valid2B r <;> conv => whnf
  · exact aret [] (by repeat' (first | rfl | trivial | apply And.intro))
  (refine acallF [] (by kernel_rfl) (until2A r.links t hln.2) ?_ ?_; (focus (repeat' (first | rfl | trivial | apply And.intro))))
  rintro _ _ _ ⟨rfl, rfl, rfl⟩
  conv => whnf
  refine aloopH ws31_1 [11] (fun k : Nat => [(11, iv k)]) (fun k => k ≤ r.slots.length ∧ ∀ j (hj : j < k) (hjl : j < r.slots.length), atP (unt t r.links) id layer t r.slots[j] = false) (fun k => r.slots.length - k) 0 (by kernel_rfl) (fun _ => rfl) (by kernel_rfl) ⟨Nat.zero_le _, fun j hj => absurd hj (Nat.not_lt_zero j)⟩ (by repeat' (first | rfl | trivial | apply And.intro)) (by repeat' (first | rfl | trivial | apply And.intro)) ?_
  rintro k ⟨hk, hno⟩
  conv => whnf
  refine vif_split (fun hlt => ?_) (fun hge => ?_)
  · have hlt : k < r.slots.length := by simpa using hlt
    have hcp : atP (unt t r.links) id layer t r.slots[k] = (decide (r.slots[k].layer = layer) && decide (r.slots[k].from_ ≤ t) && (decide (r.slots[k].fin = 0) || decide (t < r.slots[k].to_)) && decide (rt (unt t r.links) r.slots[k].id = rt (unt t r.links) id)) := rfl
    have good : atP (unt t r.links) id layer t r.slots[k] = false → k + 1 ≤ r.slots.length ∧ ∀ j (hj : j < k + 1) (hjl : j < r.slots.length), atP (unt t r.links) id layer t r.slots[j] = false := fun h => ⟨hlt, fun j hj hjl => by
      rcases Nat.lt_or_ge j k with h1 | h1
      · exact hno j h1 hjl
      · have : j = k := by omega
        subst this; exact h⟩
    conv => whnf
    (repeat' (first | (refine And.intro ?_ ?_ <;> (conv => whnf)) | (refine vif_split (fun h => ?_) (fun h => ?_) <;> (try simp only [sEqD, cond_true, cond_false, Bool.not_eq_true', Bool.not_eq_false', decide_eq_true_eq, decide_eq_false_iff_not, beq_iff_eq, bne_iff_ne, beq_eq_false_iff_ne, bne_eq_false_iff_eq, ne_eq, Bool.not_eq_eq_eq_not, Bool.not_true, Bool.not_false, Bool.false_eq_true, Bool.true_eq_false, Decidable.not_not, gt_iff_lt, ge_iff_le, Int.not_lt, Int.not_le] at h) <;> (conv => whnf)) | (refine AAr.i64 (by omega) ?_; conv => whnf) | (refine AIn.mk' _ rfl (by simp only [List.length_map, List.length_append, List.length_cons, List.length_nil, List.length_take, List.length_drop, List.length_set]; omega) ?_; conv => whnf) | (refine ARd.mapAt (by assumption) ?_; conv => whnf) | (refine ARd.set (by (try simp only [List.length_map, List.length_append, List.length_cons, List.length_nil, List.length_take, List.length_drop, List.length_set] at *); omega) ?_; conv => whnf) | (refine ARd.map (by omega) ?_; conv => whnf) | (refine VReq.mk (by first | decide | omega) ?_; conv => whnf) | (refine AEq.mk rfl rfl rfl ?_; conv => whnf) | (refine VReq.mk (app_ok (by (try simp only [List.length_map, List.length_append, List.length_cons, List.length_nil, List.length_take, List.length_drop, List.length_set] at *); omega) (by kernel_rfl)) ?_; conv => whnf)))
    all_goals try ((refine acall [2] (by kernel_rfl) (same2A (unt t r.links) r.slots[k].id id (by omega)) rfl ?_ ?_; (focus (repeat' (first | rfl | trivial | apply And.intro)))); (conv => whnf); (repeat' (first | (refine And.intro ?_ ?_ <;> (conv => whnf)) | (refine vif_split (fun h => ?_) (fun h => ?_) <;> (try simp only [sEqD, cond_true, cond_false, Bool.not_eq_true', Bool.not_eq_false', decide_eq_true_eq, decide_eq_false_iff_not, beq_iff_eq, bne_iff_ne, beq_eq_false_iff_ne, bne_eq_false_iff_eq, ne_eq, Bool.not_eq_eq_eq_not, Bool.not_true, Bool.not_false, Bool.false_eq_true, Bool.true_eq_false, Decidable.not_not, gt_iff_lt, ge_iff_le, Int.not_lt, Int.not_le] at h) <;> (conv => whnf)) | (refine AAr.i64 (by omega) ?_; conv => whnf) | (refine AIn.mk' _ rfl (by simp only [List.length_map, List.length_append, List.length_cons, List.length_nil, List.length_take, List.length_drop, List.length_set]; omega) ?_; conv => whnf) | (refine ARd.mapAt (by assumption) ?_; conv => whnf) | (refine ARd.set (by (try simp only [List.length_map, List.length_append, List.length_cons, List.length_nil, List.length_take, List.length_drop, List.length_set] at *); omega) ?_; conv => whnf) | (refine ARd.map (by omega) ?_; conv => whnf) | (refine VReq.mk (by first | decide | omega) ?_; conv => whnf) | (refine AEq.mk rfl rfl rfl ?_; conv => whnf) | (refine VReq.mk (app_ok (by (try simp only [List.length_map, List.length_append, List.length_cons, List.length_nil, List.length_take, List.length_drop, List.length_set] at *); omega) (by kernel_rfl)) ?_; conv => whnf))))
    all_goals first
      | (refine aret [] ?_
         rw [hO, find_at hlt (fun j hj => hno j hj (by omega)) (by rw [hcp]; simp [*])]
         exact (by repeat' (first | rfl | trivial | apply And.intro)))
      | ((refine aback (k + 1) [] [] ?_ ?_ ?_ ?_ ?_; (focus rfl); rotate_left 2; (focus (repeat' (first | rfl | trivial | apply And.intro))); (focus (repeat' (first | rfl | trivial | apply And.intro))))
         · show r.slots.length - (k + 1) < r.slots.length - k; omega
         · exact good (by rw [hcp]; first | (simp [*]; done) | (simp [*]; omega)))
  · have : k = r.slots.length := by simp at hge; omega
    subst this
    conv => whnf
    refine aret [] ?_
    rw [hO, find_no fun j hj => hno j hj hj]
    exact (by repeat' (first | rfl | trivial | apply And.intro))

def curO (r : Rg) (id layer : ByteArray) : Option Sl := match r.slots.findIdx? (curP r.links id layer) with | some i => r.slots[i]? | none => none
def cur1O (v : Bool) (r : Rg) (id layer : ByteArray) : Option Sl := bif v then curO r id layer else none
theorem cur_cases (r : Rg) (id layer : ByteArray) : (curI r id layer = -1 ∧ curO r id layer = none) ∨ ∃ i, ∃ h : i < r.slots.length, curI r id layer = (i : Int) ∧ curO r id layer = some r.slots[i] := by
  unfold curI curO
  cases h : r.slots.findIdx? (curP r.links id layer) with
  | none => exact .inl ⟨rfl, rfl⟩
  | some i =>
    have := (List.findIdx?_eq_some_iff_getElem.1 h).1
    exact .inr ⟨i, this, rfl, List.getElem?_eq_getElem this⟩
set_option maxHeartbeats 4000000 in
set_option maxRecDepth 100000 in
theorem cur1A (r : Rg) (id layer : ByteArray) (hS : RegS r) (hln : r.slots.length ≤ 1000000 ∧ r.links.length ≤ 1000000) : AFn Tryd.prog GS 29 [rgA r, sv id, sv layer] 0 [] (Is (optA (cur1O (validB r) r id layer))) := by
  refine afn_of Tryd.func29 rfl mixed (by kernel_rfl) ?_
  conv => whnf
  (refine acall [] (by kernel_rfl) (valid1A r hS) rfl ?_ ?_; (focus (repeat' (first | rfl | trivial | apply And.intro))))
  cases hv : validB r <;> conv => whnf
  · exact aret [] (by repeat' (first | rfl | trivial | apply And.intro))
  (refine acall [] (by kernel_rfl) (currentA r id layer hln) rfl ?_ ?_; (focus (repeat' (first | rfl | trivial | apply And.intro))))
  have e : cur1O true r id layer = curO r id layer := rfl
  rw [e]
  rcases cur_cases r id layer with ⟨e1, e2⟩ | ⟨i, hi, e1, e2⟩
  · rw [e1, e2]
    conv => whnf
    exact aret [] (by repeat' (first | rfl | trivial | apply And.intro))
  · rw [e1, e2]
    conv => whnf
    (repeat' (first | (refine And.intro ?_ ?_ <;> (conv => whnf)) | (refine vif_split (fun h => ?_) (fun h => ?_) <;> (try simp only [sEqD, cond_true, cond_false, Bool.not_eq_true', Bool.not_eq_false', decide_eq_true_eq, decide_eq_false_iff_not, beq_iff_eq, bne_iff_ne, beq_eq_false_iff_ne, bne_eq_false_iff_eq, ne_eq, Bool.not_eq_eq_eq_not, Bool.not_true, Bool.not_false, Bool.false_eq_true, Bool.true_eq_false, Decidable.not_not, gt_iff_lt, ge_iff_le, Int.not_lt, Int.not_le] at h) <;> (conv => whnf)) | (refine AAr.i64 (by omega) ?_; conv => whnf) | (refine AIn.mk' _ rfl (by simp only [List.length_map, List.length_append, List.length_cons, List.length_nil, List.length_take, List.length_drop, List.length_set]; omega) ?_; conv => whnf) | (refine ARd.mapAt (by assumption) ?_; conv => whnf) | (refine ARd.set (by (try simp only [List.length_map, List.length_append, List.length_cons, List.length_nil, List.length_take, List.length_drop, List.length_set] at *); omega) ?_; conv => whnf) | (refine ARd.map (by omega) ?_; conv => whnf) | (refine VReq.mk (by first | decide | omega) ?_; conv => whnf) | (refine AEq.mk rfl rfl rfl ?_; conv => whnf) | (refine VReq.mk (app_ok (by (try simp only [List.length_map, List.length_append, List.length_cons, List.length_nil, List.length_take, List.length_drop, List.length_set] at *); omega) (by kernel_rfl)) ?_; conv => whnf)))
    all_goals first | (exfalso; omega) | exact aret [] (by repeat' (first | rfl | trivial | apply And.intro))
set_option maxHeartbeats 4000000 in
set_option maxRecDepth 100000 in
theorem cur2A (r : Rg) (id layer : ByteArray) (hS : RegS r) (hln : r.slots.length ≤ 1000000 ∧ r.links.length ≤ 1000000) : AFn Tryd.prog GS 32 [rgA r, sv id, sv layer] 0 [] (Is (optA (cur1O (valid2B r) r id layer))) := by
  refine afn_of Tryd.func32 rfl mixed (by kernel_rfl) ?_
  conv => whnf
  (refine acall [] (by kernel_rfl) (valid2A r hS hln) rfl ?_ ?_; (focus (repeat' (first | rfl | trivial | apply And.intro))))
  cases hv : valid2B r <;> conv => whnf
  · exact aret [] (by repeat' (first | rfl | trivial | apply And.intro))
  (refine acall [] (by kernel_rfl) (openA r id layer hln) rfl ?_ ?_; (focus (repeat' (first | rfl | trivial | apply And.intro))))
  have e : cur1O true r id layer = curO r id layer := rfl
  rw [e]
  rcases cur_cases r id layer with ⟨e1, e2⟩ | ⟨i, hi, e1, e2⟩
  · rw [e1, e2]
    conv => whnf
    exact aret [] (by repeat' (first | rfl | trivial | apply And.intro))
  · rw [e1, e2]
    conv => whnf
    (repeat' (first | (refine And.intro ?_ ?_ <;> (conv => whnf)) | (refine vif_split (fun h => ?_) (fun h => ?_) <;> (try simp only [sEqD, cond_true, cond_false, Bool.not_eq_true', Bool.not_eq_false', decide_eq_true_eq, decide_eq_false_iff_not, beq_iff_eq, bne_iff_ne, beq_eq_false_iff_ne, bne_eq_false_iff_eq, ne_eq, Bool.not_eq_eq_eq_not, Bool.not_true, Bool.not_false, Bool.false_eq_true, Bool.true_eq_false, Decidable.not_not, gt_iff_lt, ge_iff_le, Int.not_lt, Int.not_le] at h) <;> (conv => whnf)) | (refine AAr.i64 (by omega) ?_; conv => whnf) | (refine AIn.mk' _ rfl (by simp only [List.length_map, List.length_append, List.length_cons, List.length_nil, List.length_take, List.length_drop, List.length_set]; omega) ?_; conv => whnf) | (refine ARd.mapAt (by assumption) ?_; conv => whnf) | (refine ARd.set (by (try simp only [List.length_map, List.length_append, List.length_cons, List.length_nil, List.length_take, List.length_drop, List.length_set] at *); omega) ?_; conv => whnf) | (refine ARd.map (by omega) ?_; conv => whnf) | (refine VReq.mk (by first | decide | omega) ?_; conv => whnf) | (refine AEq.mk rfl rfl rfl ?_; conv => whnf) | (refine VReq.mk (app_ok (by (try simp only [List.length_map, List.length_append, List.length_cons, List.length_nil, List.length_take, List.length_drop, List.length_set] at *); omega) (by kernel_rfl)) ?_; conv => whnf)))
    all_goals first | (exfalso; omega) | exact aret [] (by repeat' (first | rfl | trivial | apply And.intro))

def readyE (v : Bool) (r : Rg) (now : Int) : Int := bif v then (if now < r.now ∨ 1099511627776 < now then 26 else 0) else 25
set_option maxHeartbeats 4000000 in
set_option maxRecDepth 100000 in
theorem ready1A (r : Rg) (now : Int) (hS : RegS r) (hln : r.slots.length ≤ 1000000 ∧ r.links.length ≤ 1000000) : AFn Tryd.prog GS 50 [rgA r, iv now] 0 [] (Is (iv (readyE (validB r) r now))) := by
  refine afn_of Tryd.func50 rfl mixed (by kernel_rfl) ?_
  conv => whnf
  (refine acall [] (by kernel_rfl) (valid1A r hS) rfl ?_ ?_; (focus (repeat' (first | rfl | trivial | apply And.intro))))
  cases hv : validB r <;> conv => whnf
  · exact aret [] (by repeat' (first | rfl | trivial | apply And.intro))
  have e : readyE true r now = if now < r.now ∨ 1099511627776 < now then 26 else 0 := rfl
  rw [e]
  (repeat' (first | (refine And.intro ?_ ?_ <;> (conv => whnf)) | (refine vif_split (fun h => ?_) (fun h => ?_) <;> (try simp only [sEqD, cond_true, cond_false, Bool.not_eq_true', Bool.not_eq_false', decide_eq_true_eq, decide_eq_false_iff_not, beq_iff_eq, bne_iff_ne, beq_eq_false_iff_ne, bne_eq_false_iff_eq, ne_eq, Bool.not_eq_eq_eq_not, Bool.not_true, Bool.not_false, Bool.false_eq_true, Bool.true_eq_false, Decidable.not_not, gt_iff_lt, ge_iff_le, Int.not_lt, Int.not_le] at h) <;> (conv => whnf)) | (refine AAr.i64 (by omega) ?_; conv => whnf) | (refine AIn.mk' _ rfl (by simp only [List.length_map, List.length_append, List.length_cons, List.length_nil, List.length_take, List.length_drop, List.length_set]; omega) ?_; conv => whnf) | (refine ARd.mapAt (by assumption) ?_; conv => whnf) | (refine ARd.set (by (try simp only [List.length_map, List.length_append, List.length_cons, List.length_nil, List.length_take, List.length_drop, List.length_set] at *); omega) ?_; conv => whnf) | (refine ARd.map (by omega) ?_; conv => whnf) | (refine VReq.mk (by first | decide | omega) ?_; conv => whnf) | (refine AEq.mk rfl rfl rfl ?_; conv => whnf) | (refine VReq.mk (app_ok (by (try simp only [List.length_map, List.length_append, List.length_cons, List.length_nil, List.length_take, List.length_drop, List.length_set] at *); omega) (by kernel_rfl)) ?_; conv => whnf)))
  all_goals first
    | (rw [if_pos (by omega)]; exact aret [] (by repeat' (first | rfl | trivial | apply And.intro)))
    | (rw [if_neg (by omega)]; exact aret [] (by repeat' (first | rfl | trivial | apply And.intro)))
set_option maxHeartbeats 4000000 in
set_option maxRecDepth 100000 in
theorem ready2A (r : Rg) (now : Int) (hS : RegS r) (hln : r.slots.length ≤ 1000000 ∧ r.links.length ≤ 1000000) : AFn Tryd.prog GS 57 [rgA r, iv now] 0 [] (Is (iv (readyE (valid2B r) r now))) := by
  refine afn_of Tryd.func57 rfl mixed (by kernel_rfl) ?_
  conv => whnf
  (refine acall [] (by kernel_rfl) (valid2A r hS hln) rfl ?_ ?_; (focus (repeat' (first | rfl | trivial | apply And.intro))))
  cases hv : valid2B r <;> conv => whnf
  · exact aret [] (by repeat' (first | rfl | trivial | apply And.intro))
  have e : readyE true r now = if now < r.now ∨ 1099511627776 < now then 26 else 0 := rfl
  rw [e]
  (repeat' (first | (refine And.intro ?_ ?_ <;> (conv => whnf)) | (refine vif_split (fun h => ?_) (fun h => ?_) <;> (try simp only [sEqD, cond_true, cond_false, Bool.not_eq_true', Bool.not_eq_false', decide_eq_true_eq, decide_eq_false_iff_not, beq_iff_eq, bne_iff_ne, beq_eq_false_iff_ne, bne_eq_false_iff_eq, ne_eq, Bool.not_eq_eq_eq_not, Bool.not_true, Bool.not_false, Bool.false_eq_true, Bool.true_eq_false, Decidable.not_not, gt_iff_lt, ge_iff_le, Int.not_lt, Int.not_le] at h) <;> (conv => whnf)) | (refine AAr.i64 (by omega) ?_; conv => whnf) | (refine AIn.mk' _ rfl (by simp only [List.length_map, List.length_append, List.length_cons, List.length_nil, List.length_take, List.length_drop, List.length_set]; omega) ?_; conv => whnf) | (refine ARd.mapAt (by assumption) ?_; conv => whnf) | (refine ARd.set (by (try simp only [List.length_map, List.length_append, List.length_cons, List.length_nil, List.length_take, List.length_drop, List.length_set] at *); omega) ?_; conv => whnf) | (refine ARd.map (by omega) ?_; conv => whnf) | (refine VReq.mk (by first | decide | omega) ?_; conv => whnf) | (refine AEq.mk rfl rfl rfl ?_; conv => whnf) | (refine VReq.mk (app_ok (by (try simp only [List.length_map, List.length_append, List.length_cons, List.length_nil, List.length_take, List.length_drop, List.length_set] at *); omega) (by kernel_rfl)) ?_; conv => whnf)))
  all_goals first
    | (rw [if_pos (by omega)]; exact aret [] (by repeat' (first | rfl | trivial | apply And.intro)))
    | (rw [if_neg (by omega)]; exact aret [] (by repeat' (first | rfl | trivial | apply And.intro)))
end Go.Proofs.YtinpgogjkmmjpaaDoor.Sx
