/- The walks of Assign . Condition: as Sx1's. -/
import Derived.Test.YtinpgogjkmmjpaaDoorSx9
import Derived.Test.YtinpgogjkmmjpaaDoorPl2
set_option linter.unusedVariables false
set_option linter.unusedSimpArgs false
namespace Go.Proofs.YtinpgogjkmmjpaaDoor.Sx
open Go Go.RowKit Go.Proofs.YtinpgogjkmmjpaaDoor.Vc Go.Proofs.YtinpgogjkmmjpaaDoor.Ax Go.Proofs.YtinpgogjkmmjpaaDoor.Ky Go.Proofs.YtinpgogjkmmjpaaDoor.Id Go.Proofs.YtinpgogjkmmjpaaDoor.Sp

theorem ready_good {b : Bool} {r : Rg} {now : Int} (hb : b = true → Good r) (h : readyE b r now = 0) : Good r ∧ r.now ≤ now ∧ now ≤ 1099511627776 := by
  unfold readyE at h
  cases b
  · cases h
  · simp only [cond_true] at h
    split at h
    · cases h
    · exact ⟨hb rfl, by omega, by omega⟩
theorem Good.to_ok {r : Rg} (g : Good r) (i : Nat) (h : i < r.slots.length) : 0 ≤ r.slots[i].to_ ∧ r.slots[i].to_ ≤ r.now := by
  have := g.s i h
  unfold slotB at this
  simp only [Bool.and_eq_true, decide_eq_true_eq] at this
  obtain ⟨_, _, _, h3, h4, h5⟩ := this
  have := g.now.1
  omega
def asA (layer exp : ByteArray) (rev arm : Int) (held : Bool) : AV := .agg [sv layer, sv exp, iv rev, iv arm, bv held]
set_option maxHeartbeats 4000000 in
set_option maxRecDepth 100000 in
theorem assign1A (r : Rg) (id layer exp : ByteArray) (rev arm gap now : Int) (held : Bool) (hi : strOK id.size) (hy : strOK layer.size) (hx : strOK exp.size) (hS : RegS r) (hln : r.slots.length ≤ 1000000 ∧ r.links.length ≤ 1000000) : AFn Tryd.prog GS 33 [rgA r, sv id, asA layer exp rev arm held, iv gap, iv now] 0 [] (Is (asgE (readyE (validB r) r now) (keyB id && keyB layer) (held || !keyB exp || decide (arm < 1 ∨ 8 < arm)) r id layer exp arm gap now)) := by
  refine afn_of Tryd.func33 rfl mixed (by kernel_rfl) ?_
  conv => whnf
  (refine acall [] (by kernel_rfl) (ready1A r now hS hln) rfl ?_ ?_; (focus (repeat' (first | rfl | trivial | apply And.intro))))
  have hgd : readyE (validB r) r now = 0 → Good r ∧ r.now ≤ now ∧ now ≤ 1099511627776 := ready_good (valid_iff r).1
  generalize readyE (validB r) r now = e at hgd ⊢
  conv => whnf
  refine vif_split (fun he => ?_) (fun he => ?_)
  · conv => whnf
    try ((refine acallF [] (by kernel_rfl) (fail1A e) ?_ ?_; (focus (repeat' (first | rfl | trivial | apply And.intro)))); rintro _ _ _ ⟨rfl, rfl, rfl⟩; (conv => whnf))
    refine aret [] ?_
    have he : e ≠ 0 := by simpa using he
    unfold asgE asgR
    rw [if_pos he]
    exact (by repeat' (first | rfl | trivial | apply And.intro))
  have he : e = 0 := by simpa using he
  subst he
  obtain ⟨g, hn1, hn2⟩ := hgd rfl
  have hg0 := g.now
  have hgl := g.len
  conv => whnf
  refine vif_split (fun hg => ?_) (fun hg => ?_)
  · conv => whnf
    try ((refine acallF [] (by kernel_rfl) (fail1A 3) ?_ ?_; (focus (repeat' (first | rfl | trivial | apply And.intro)))); rintro _ _ _ ⟨rfl, rfl, rfl⟩; (conv => whnf))
    refine aret [] ?_
    have hg : gap < 0 := by simpa using hg
    unfold asgE asgR
    rw [if_neg (by simp), if_pos hg]
    exact (by repeat' (first | rfl | trivial | apply And.intro))
  have hg : ¬ gap < 0 := by simpa using hg
  conv => whnf
  unfold asgE asgR
  rw [if_neg (by simp), if_neg hg]
  (refine acall [] (by kernel_rfl) (key1A id hi) rfl ?_ ?_; (focus (repeat' (first | rfl | trivial | apply And.intro))))
  cases hk : keyB id <;> conv => whnf
  · try ((refine acallF [] (by kernel_rfl) (fail1A 6) ?_ ?_; (focus (repeat' (first | rfl | trivial | apply And.intro)))); rintro _ _ _ ⟨rfl, rfl, rfl⟩; (conv => whnf))
    exact aret [] (by repeat' (first | rfl | trivial | apply And.intro))
  (refine acall [] (by kernel_rfl) (key1A layer hy) rfl ?_ ?_; (focus (repeat' (first | rfl | trivial | apply And.intro))))
  cases hk2 : keyB layer <;> conv => whnf
  · try ((refine acallF [] (by kernel_rfl) (fail1A 6) ?_ ?_; (focus (repeat' (first | rfl | trivial | apply And.intro)))); rintro _ _ _ ⟨rfl, rfl, rfl⟩; (conv => whnf))
    exact aret [] (by repeat' (first | rfl | trivial | apply And.intro))
  (refine acallF [] (by kernel_rfl) (copiedA r now hln) ?_ ?_; (focus (repeat' (first | rfl | trivial | apply And.intro))))
  rintro _ _ _ ⟨rfl, rfl, rfl⟩
  conv => whnf
  (refine acall [] (by kernel_rfl) (currentA r id layer hln) rfl ?_ ?_; (focus (repeat' (first | rfl | trivial | apply And.intro))))
  conv => whnf
  refine vif_split (fun hc => ?_) (fun hc => ?_)
  · have hc : 0 ≤ curI r id layer := by simpa using hc
    have hb : (curI r id layer).toNat < r.slots.length := by
      unfold curI at hc ⊢
      cases hf : r.slots.findIdx? (curP r.links id layer) with
      | none => rw [hf] at hc; simp at hc
      | some i => have := (List.findIdx?_eq_some_iff_getElem.1 hf).1; simpa using this
    obtain ⟨i, hi2⟩ : ∃ i : Nat, curI r id layer = i := ⟨_, (Int.toNat_of_nonneg hc).symm⟩
    rw [hi2] at hb ⊢
    have hb : i < r.slots.length := by simpa using hb
    rw [if_pos (by omega)]
    conv => whnf
    (refine adraw pln33 [2,3] (by kernel_rfl) ?_; conv => whnf)
    (repeat' (first | (refine And.intro ?_ ?_ <;> (conv => whnf)) | (refine vif_split (fun h => ?_) (fun h => ?_) <;> (try simp only [sEqD, cond_true, cond_false, Bool.not_eq_true', Bool.not_eq_false', decide_eq_true_eq, decide_eq_false_iff_not, beq_iff_eq, bne_iff_ne, beq_eq_false_iff_ne, bne_eq_false_iff_eq, ne_eq, Bool.not_eq_eq_eq_not, Bool.not_true, Bool.not_false, Bool.false_eq_true, Bool.true_eq_false, Decidable.not_not, gt_iff_lt, ge_iff_le, Int.not_lt, Int.not_le] at h) <;> (conv => whnf)) | (refine AAr.i64 (by first | omega | ((try simp only [List.length_map] at *); omega)) ?_; conv => whnf) | (refine AIn.mk' _ rfl (by first | omega | (simp only [List.length_map, List.length_append, List.length_cons, List.length_nil, List.length_take, List.length_drop, List.length_set, List.length_replicate]; omega) | (simp only [List.length_map, List.length_append, List.length_cons, List.length_nil, List.length_take, List.length_drop, List.length_set, List.length_replicate] at *; omega)) ?_; conv => whnf) | (refine ARd.mapAt (by assumption) ?_; conv => whnf) | (refine ARd.set (by (try simp only [List.length_map, List.length_append, List.length_cons, List.length_nil, List.length_take, List.length_drop, List.length_set, List.length_replicate] at *); omega) ?_; conv => whnf) | (refine ARd.map (by first | omega | (simp only [List.length_map] at *; omega)) ?_; conv => whnf) | (refine VReq.mk (by first | decide | omega) ?_; conv => whnf) | (refine AEq.mk (by kernel_rfl) rfl rfl ?_; conv => whnf) | (refine VReq.mk (app_ok (by (try simp only [List.length_map, List.length_append, List.length_cons, List.length_nil, List.length_take, List.length_drop, List.length_set, List.length_replicate] at *); omega) (by kernel_rfl)) ?_; conv => whnf)))
    have eg : r.slots.getD (i : Int).toNat sl0 = r.slots[i] := by simp [List.getD, List.getElem?_eq_getElem hb]
    rw [eg]
    exact aret [4, 5] (by repeat' (first | rfl | trivial | apply And.intro))
  have hc : ¬ 0 ≤ curI r id layer := by simpa using hc
  rw [if_neg hc]
  conv => whnf
  cases held <;> conv => whnf
  rotate_left 1
  · try ((refine acallF [] (by kernel_rfl) (fail1A 11) ?_ ?_; (focus (repeat' (first | rfl | trivial | apply And.intro)))); rintro _ _ _ ⟨rfl, rfl, rfl⟩; (conv => whnf))
    exact aret [] (by repeat' (first | rfl | trivial | apply And.intro))
  (refine acall [] (by kernel_rfl) (key1A exp hx) rfl ?_ ?_; (focus (repeat' (first | rfl | trivial | apply And.intro))))
  cases hk3 : keyB exp <;> conv => whnf
  · try ((refine acallF [] (by kernel_rfl) (fail1A 11) ?_ ?_; (focus (repeat' (first | rfl | trivial | apply And.intro)))); rintro _ _ _ ⟨rfl, rfl, rfl⟩; (conv => whnf))
    exact aret [] (by repeat' (first | rfl | trivial | apply And.intro))
  (repeat' (first | (refine And.intro ?_ ?_ <;> (conv => whnf)) | (refine vif_split (fun h => ?_) (fun h => ?_) <;> (try simp only [sEqD, cond_true, cond_false, Bool.not_eq_true', Bool.not_eq_false', decide_eq_true_eq, decide_eq_false_iff_not, beq_iff_eq, bne_iff_ne, beq_eq_false_iff_ne, bne_eq_false_iff_eq, ne_eq, Bool.not_eq_eq_eq_not, Bool.not_true, Bool.not_false, Bool.false_eq_true, Bool.true_eq_false, Decidable.not_not, gt_iff_lt, ge_iff_le, Int.not_lt, Int.not_le] at h) <;> (conv => whnf)) | (refine AAr.i64 (by first | omega | ((try simp only [List.length_map] at *); omega)) ?_; conv => whnf) | (refine AIn.mk' _ rfl (by first | omega | (simp only [List.length_map, List.length_append, List.length_cons, List.length_nil, List.length_take, List.length_drop, List.length_set, List.length_replicate]; omega) | (simp only [List.length_map, List.length_append, List.length_cons, List.length_nil, List.length_take, List.length_drop, List.length_set, List.length_replicate] at *; omega)) ?_; conv => whnf) | (refine ARd.mapAt (by assumption) ?_; conv => whnf) | (refine ARd.set (by (try simp only [List.length_map, List.length_append, List.length_cons, List.length_nil, List.length_take, List.length_drop, List.length_set, List.length_replicate] at *); omega) ?_; conv => whnf) | (refine ARd.map (by first | omega | (simp only [List.length_map] at *; omega)) ?_; conv => whnf) | (refine VReq.mk (by first | decide | omega) ?_; conv => whnf) | (refine AEq.mk (by kernel_rfl) rfl rfl ?_; conv => whnf) | (refine VReq.mk (app_ok (by (try simp only [List.length_map, List.length_append, List.length_cons, List.length_nil, List.length_take, List.length_drop, List.length_set, List.length_replicate] at *); omega) (by kernel_rfl)) ?_; conv => whnf)))
  all_goals try
    (try ((refine acallF [] (by kernel_rfl) (fail1A 11) ?_ ?_; (focus (repeat' (first | rfl | trivial | apply And.intro)))); rintro _ _ _ ⟨rfl, rfl, rfl⟩; (conv => whnf))
     rw [decide_eq_true (by (try simp only [List.length_map, List.length_append, List.length_cons, List.length_nil, List.length_take, List.length_drop, List.length_set, List.length_replicate] at *); omega)]
     exact aret [] (by repeat' (first | rfl | trivial | apply And.intro)))
  rw [decide_eq_false (by (try simp only [List.length_map, List.length_append, List.length_cons, List.length_nil, List.length_take, List.length_drop, List.length_set, List.length_replicate] at *); omega)]
  try ((refine acall [] (by kernel_rfl) (rootA r.links id (by omega)) rfl ?_ ?_; (focus (repeat' (first | rfl | trivial | apply And.intro)))); (conv => whnf))
  refine aloopH ws33_1 [99] (fun k : Nat => [(99, iv k)]) (fun k => k ≤ r.slots.length ∧ ∀ j (hj : j < k) (hjl : j < r.slots.length), barP r.links id layer gap now r.slots[j] = false) (fun k => r.slots.length - k) 0 (by kernel_rfl) (fun _ => rfl) (by kernel_rfl) ⟨Nat.zero_le _, fun j hj => absurd hj (Nat.not_lt_zero j)⟩ (by repeat' (first | rfl | trivial | apply And.intro)) (by repeat' (first | rfl | trivial | apply And.intro)) ?_
  rintro k ⟨hkl, hno⟩
  conv => whnf
  refine vif_split (fun hlt => ?_) (fun hge => ?_)
  · have hlt : k < r.slots.length := by simpa using hlt
    have hto := g.to_ok k hlt
    have hbp : barP r.links id layer gap now r.slots[k] = (decide (r.slots[k].layer = layer) && decide (r.slots[k].fin ≠ 0) && decide (now - r.slots[k].to_ < gap) && decide (rt r.links r.slots[k].id = rt r.links id)) := rfl
    have good : barP r.links id layer gap now r.slots[k] = false → k + 1 ≤ r.slots.length ∧ ∀ j (hj : j < k + 1) (hjl : j < r.slots.length), barP r.links id layer gap now r.slots[j] = false := fun h => ⟨hlt, fun j hj hjl => by
      rcases Nat.lt_or_ge j k with h1 | h1
      · exact hno j h1 hjl
      · have : j = k := by omega
        subst this; exact h⟩
    conv => whnf
    (repeat' (first | (refine And.intro ?_ ?_ <;> (conv => whnf)) | (refine vif_split (fun h => ?_) (fun h => ?_) <;> (try simp only [sEqD, cond_true, cond_false, Bool.not_eq_true', Bool.not_eq_false', decide_eq_true_eq, decide_eq_false_iff_not, beq_iff_eq, bne_iff_ne, beq_eq_false_iff_ne, bne_eq_false_iff_eq, ne_eq, Bool.not_eq_eq_eq_not, Bool.not_true, Bool.not_false, Bool.false_eq_true, Bool.true_eq_false, Decidable.not_not, gt_iff_lt, ge_iff_le, Int.not_lt, Int.not_le] at h) <;> (conv => whnf)) | (refine AAr.i64 (by first | omega | ((try simp only [List.length_map] at *); omega)) ?_; conv => whnf) | (refine AIn.mk' _ rfl (by first | omega | (simp only [List.length_map, List.length_append, List.length_cons, List.length_nil, List.length_take, List.length_drop, List.length_set, List.length_replicate]; omega) | (simp only [List.length_map, List.length_append, List.length_cons, List.length_nil, List.length_take, List.length_drop, List.length_set, List.length_replicate] at *; omega)) ?_; conv => whnf) | (refine ARd.mapAt (by assumption) ?_; conv => whnf) | (refine ARd.set (by (try simp only [List.length_map, List.length_append, List.length_cons, List.length_nil, List.length_take, List.length_drop, List.length_set, List.length_replicate] at *); omega) ?_; conv => whnf) | (refine ARd.map (by first | omega | (simp only [List.length_map] at *; omega)) ?_; conv => whnf) | (refine VReq.mk (by first | decide | omega) ?_; conv => whnf) | (refine AEq.mk (by kernel_rfl) rfl rfl ?_; conv => whnf) | (refine VReq.mk (app_ok (by (try simp only [List.length_map, List.length_append, List.length_cons, List.length_nil, List.length_take, List.length_drop, List.length_set, List.length_replicate] at *); omega) (by kernel_rfl)) ?_; conv => whnf)))
    all_goals try (first | ((refine acall [] (by kernel_rfl) (rootA r.links r.slots[k].id (by omega)) rfl ?_ ?_; (focus (repeat' (first | rfl | trivial | apply And.intro)))); (conv => whnf); (repeat' (first | (refine And.intro ?_ ?_ <;> (conv => whnf)) | (refine vif_split (fun h => ?_) (fun h => ?_) <;> (try simp only [sEqD, cond_true, cond_false, Bool.not_eq_true', Bool.not_eq_false', decide_eq_true_eq, decide_eq_false_iff_not, beq_iff_eq, bne_iff_ne, beq_eq_false_iff_ne, bne_eq_false_iff_eq, ne_eq, Bool.not_eq_eq_eq_not, Bool.not_true, Bool.not_false, Bool.false_eq_true, Bool.true_eq_false, Decidable.not_not, gt_iff_lt, ge_iff_le, Int.not_lt, Int.not_le] at h) <;> (conv => whnf)) | (refine AAr.i64 (by first | omega | ((try simp only [List.length_map] at *); omega)) ?_; conv => whnf) | (refine AIn.mk' _ rfl (by first | omega | (simp only [List.length_map, List.length_append, List.length_cons, List.length_nil, List.length_take, List.length_drop, List.length_set, List.length_replicate]; omega) | (simp only [List.length_map, List.length_append, List.length_cons, List.length_nil, List.length_take, List.length_drop, List.length_set, List.length_replicate] at *; omega)) ?_; conv => whnf) | (refine ARd.mapAt (by assumption) ?_; conv => whnf) | (refine ARd.set (by (try simp only [List.length_map, List.length_append, List.length_cons, List.length_nil, List.length_take, List.length_drop, List.length_set, List.length_replicate] at *); omega) ?_; conv => whnf) | (refine ARd.map (by first | omega | (simp only [List.length_map] at *; omega)) ?_; conv => whnf) | (refine VReq.mk (by first | decide | omega) ?_; conv => whnf) | (refine AEq.mk (by kernel_rfl) rfl rfl ?_; conv => whnf) | (refine VReq.mk (app_ok (by (try simp only [List.length_map, List.length_append, List.length_cons, List.length_nil, List.length_take, List.length_drop, List.length_set, List.length_replicate] at *); omega) (by kernel_rfl)) ?_; conv => whnf)))) | ((refine acall [] (by kernel_rfl) (same2A r.links r.slots[k].id id hln.2) rfl ?_ ?_; (focus (repeat' (first | rfl | trivial | apply And.intro)))); (conv => whnf); (repeat' (first | (refine And.intro ?_ ?_ <;> (conv => whnf)) | (refine vif_split (fun h => ?_) (fun h => ?_) <;> (try simp only [sEqD, cond_true, cond_false, Bool.not_eq_true', Bool.not_eq_false', decide_eq_true_eq, decide_eq_false_iff_not, beq_iff_eq, bne_iff_ne, beq_eq_false_iff_ne, bne_eq_false_iff_eq, ne_eq, Bool.not_eq_eq_eq_not, Bool.not_true, Bool.not_false, Bool.false_eq_true, Bool.true_eq_false, Decidable.not_not, gt_iff_lt, ge_iff_le, Int.not_lt, Int.not_le] at h) <;> (conv => whnf)) | (refine AAr.i64 (by first | omega | ((try simp only [List.length_map] at *); omega)) ?_; conv => whnf) | (refine AIn.mk' _ rfl (by first | omega | (simp only [List.length_map, List.length_append, List.length_cons, List.length_nil, List.length_take, List.length_drop, List.length_set, List.length_replicate]; omega) | (simp only [List.length_map, List.length_append, List.length_cons, List.length_nil, List.length_take, List.length_drop, List.length_set, List.length_replicate] at *; omega)) ?_; conv => whnf) | (refine ARd.mapAt (by assumption) ?_; conv => whnf) | (refine ARd.set (by (try simp only [List.length_map, List.length_append, List.length_cons, List.length_nil, List.length_take, List.length_drop, List.length_set, List.length_replicate] at *); omega) ?_; conv => whnf) | (refine ARd.map (by first | omega | (simp only [List.length_map] at *; omega)) ?_; conv => whnf) | (refine VReq.mk (by first | decide | omega) ?_; conv => whnf) | (refine AEq.mk (by kernel_rfl) rfl rfl ?_; conv => whnf) | (refine VReq.mk (app_ok (by (try simp only [List.length_map, List.length_append, List.length_cons, List.length_nil, List.length_take, List.length_drop, List.length_set, List.length_replicate] at *); omega) (by kernel_rfl)) ?_; conv => whnf)))))
    all_goals first
      | (try ((refine acallF [] (by kernel_rfl) (fail1A 28) ?_ ?_; (focus (repeat' (first | rfl | trivial | apply And.intro)))); rintro _ _ _ ⟨rfl, rfl, rfl⟩; (conv => whnf))
         have e : r.slots.any (barP r.links id layer gap now) = true := List.any_eq_true.2 ⟨_, List.getElem_mem hlt, by rw [hbp]; simp [*]⟩
         rw [e]
         exact aret [] (by repeat' (first | rfl | trivial | apply And.intro)))
      | ((refine aback (k + 1) [] [] ?_ ?_ ?_ ?_ ?_; (focus rfl); rotate_left 2; (focus (repeat' (first | rfl | trivial | apply And.intro))); (focus (repeat' (first | rfl | trivial | apply And.intro))))
         · show r.slots.length - (k + 1) < r.slots.length - k; omega
         · exact good (by rw [hbp]; first | (simp [*]; done) | (simp [*]; omega)))
  · have : k = r.slots.length := by simp at hge; omega
    subst this
    have e : r.slots.any (barP r.links id layer gap now) = false := by
      rw [List.any_eq_false]
      intro x hx
      obtain ⟨j, hj, rfl⟩ := List.getElem_of_mem hx
      rw [hno j hj hj]; simp
    rw [e]
    conv => whnf
    (refine vif_split (fun h => ?_) (fun h => ?_) <;> (try simp only [sEqD, cond_true, cond_false, Bool.not_eq_true', Bool.not_eq_false', decide_eq_true_eq, decide_eq_false_iff_not, beq_iff_eq, bne_iff_ne, beq_eq_false_iff_ne, bne_eq_false_iff_eq, ne_eq, Bool.not_eq_eq_eq_not, Bool.not_true, Bool.not_false, Bool.false_eq_true, Bool.true_eq_false, Decidable.not_not, gt_iff_lt, ge_iff_le, Int.not_lt, Int.not_le] at h) <;> (conv => whnf))
    · try ((refine acallF [] (by kernel_rfl) (fail1A 19) ?_ ?_; (focus (repeat' (first | rfl | trivial | apply And.intro)))); rintro _ _ _ ⟨rfl, rfl, rfl⟩; (conv => whnf))
      rw [if_pos (by (try simp only [List.length_map, List.length_append, List.length_cons, List.length_nil, List.length_take, List.length_drop, List.length_set, List.length_replicate] at *); omega)]
      exact aret [] (by repeat' (first | rfl | trivial | apply And.intro))
    rw [if_neg (by (try simp only [List.length_map, List.length_append, List.length_cons, List.length_nil, List.length_take, List.length_drop, List.length_set, List.length_replicate] at *); omega)]
    (repeat' (first | (refine And.intro ?_ ?_ <;> (conv => whnf)) | (refine vif_split (fun h => ?_) (fun h => ?_) <;> (try simp only [sEqD, cond_true, cond_false, Bool.not_eq_true', Bool.not_eq_false', decide_eq_true_eq, decide_eq_false_iff_not, beq_iff_eq, bne_iff_ne, beq_eq_false_iff_ne, bne_eq_false_iff_eq, ne_eq, Bool.not_eq_eq_eq_not, Bool.not_true, Bool.not_false, Bool.false_eq_true, Bool.true_eq_false, Decidable.not_not, gt_iff_lt, ge_iff_le, Int.not_lt, Int.not_le] at h) <;> (conv => whnf)) | (refine AAr.i64 (by first | omega | ((try simp only [List.length_map] at *); omega)) ?_; conv => whnf) | (refine AIn.mk' _ rfl (by first | omega | (simp only [List.length_map, List.length_append, List.length_cons, List.length_nil, List.length_take, List.length_drop, List.length_set, List.length_replicate]; omega) | (simp only [List.length_map, List.length_append, List.length_cons, List.length_nil, List.length_take, List.length_drop, List.length_set, List.length_replicate] at *; omega)) ?_; conv => whnf) | (refine ARd.mapAt (by assumption) ?_; conv => whnf) | (refine ARd.set (by (try simp only [List.length_map, List.length_append, List.length_cons, List.length_nil, List.length_take, List.length_drop, List.length_set, List.length_replicate] at *); omega) ?_; conv => whnf) | (refine ARd.map (by first | omega | (simp only [List.length_map] at *; omega)) ?_; conv => whnf) | (refine VReq.mk (by first | decide | omega) ?_; conv => whnf) | (refine AEq.mk (by kernel_rfl) rfl rfl ?_; conv => whnf) | (refine VReq.mk (app_ok (by (try simp only [List.length_map, List.length_append, List.length_cons, List.length_nil, List.length_take, List.length_drop, List.length_set, List.length_replicate] at *); omega) (by kernel_rfl)) ?_; conv => whnf)))
    (refine adraw pln33 [2,3] (by kernel_rfl) ?_; conv => whnf)
    (repeat' (first | (refine And.intro ?_ ?_ <;> (conv => whnf)) | (refine vif_split (fun h => ?_) (fun h => ?_) <;> (try simp only [sEqD, cond_true, cond_false, Bool.not_eq_true', Bool.not_eq_false', decide_eq_true_eq, decide_eq_false_iff_not, beq_iff_eq, bne_iff_ne, beq_eq_false_iff_ne, bne_eq_false_iff_eq, ne_eq, Bool.not_eq_eq_eq_not, Bool.not_true, Bool.not_false, Bool.false_eq_true, Bool.true_eq_false, Decidable.not_not, gt_iff_lt, ge_iff_le, Int.not_lt, Int.not_le] at h) <;> (conv => whnf)) | (refine AAr.i64 (by first | omega | ((try simp only [List.length_map] at *); omega)) ?_; conv => whnf) | (refine AIn.mk' _ rfl (by first | omega | (simp only [List.length_map, List.length_append, List.length_cons, List.length_nil, List.length_take, List.length_drop, List.length_set, List.length_replicate]; omega) | (simp only [List.length_map, List.length_append, List.length_cons, List.length_nil, List.length_take, List.length_drop, List.length_set, List.length_replicate] at *; omega)) ?_; conv => whnf) | (refine ARd.mapAt (by assumption) ?_; conv => whnf) | (refine ARd.set (by (try simp only [List.length_map, List.length_append, List.length_cons, List.length_nil, List.length_take, List.length_drop, List.length_set, List.length_replicate] at *); omega) ?_; conv => whnf) | (refine ARd.map (by first | omega | (simp only [List.length_map] at *; omega)) ?_; conv => whnf) | (refine VReq.mk (by first | decide | omega) ?_; conv => whnf) | (refine AEq.mk (by kernel_rfl) rfl rfl ?_; conv => whnf) | (refine VReq.mk (app_ok (by (try simp only [List.length_map, List.length_append, List.length_cons, List.length_nil, List.length_take, List.length_drop, List.length_set, List.length_replicate] at *); omega) (by kernel_rfl)) ?_; conv => whnf)))
    refine aret [4, 9] ?_
    repeat' (first | rfl | trivial | apply And.intro)
    show _ = List.map slF (r.slots ++ [⟨id, layer, exp, arm, now, 0, 0⟩])
    rw [List.map_append]; rfl
set_option maxHeartbeats 4000000 in
set_option maxRecDepth 100000 in
theorem assign2A (r : Rg) (id layer exp : ByteArray) (rev arm gap now : Int) (held : Bool) (hi : strOK id.size) (hy : strOK layer.size) (hx : strOK exp.size) (hS : RegS r) (hln : r.slots.length ≤ 1000000 ∧ r.links.length ≤ 1000000) : AFn Tryd.prog GS 34 [rgA r, sv id, asA layer exp rev arm held, iv gap, iv now] 0 [] (Is (asgE (readyE (valid2B r) r now) (keyB id && keyB layer) (held || !keyB exp || decide (arm < 1 ∨ 8 < arm)) r id layer exp arm gap now)) := by
  refine afn_of Tryd.func34 rfl mixed (by kernel_rfl) ?_
  conv => whnf
  (refine acall [] (by kernel_rfl) (ready2A r now hS hln) rfl ?_ ?_; (focus (repeat' (first | rfl | trivial | apply And.intro))))
  have hgd : readyE (valid2B r) r now = 0 → Good r ∧ r.now ≤ now ∧ now ≤ 1099511627776 := ready_good (valid2_iff r).1
  generalize readyE (valid2B r) r now = e at hgd ⊢
  conv => whnf
  refine vif_split (fun he => ?_) (fun he => ?_)
  · conv => whnf
    try ((refine acallF [] (by kernel_rfl) (fail1A e) ?_ ?_; (focus (repeat' (first | rfl | trivial | apply And.intro)))); rintro _ _ _ ⟨rfl, rfl, rfl⟩; (conv => whnf))
    refine aret [] ?_
    have he : e ≠ 0 := by simpa using he
    unfold asgE asgR
    rw [if_pos he]
    exact (by repeat' (first | rfl | trivial | apply And.intro))
  have he : e = 0 := by simpa using he
  subst he
  obtain ⟨g, hn1, hn2⟩ := hgd rfl
  have hg0 := g.now
  have hgl := g.len
  conv => whnf
  refine vif_split (fun hg => ?_) (fun hg => ?_)
  · conv => whnf
    try ((refine acallF [] (by kernel_rfl) (fail1A 3) ?_ ?_; (focus (repeat' (first | rfl | trivial | apply And.intro)))); rintro _ _ _ ⟨rfl, rfl, rfl⟩; (conv => whnf))
    refine aret [] ?_
    have hg : gap < 0 := by simpa using hg
    unfold asgE asgR
    rw [if_neg (by simp), if_pos hg]
    exact (by repeat' (first | rfl | trivial | apply And.intro))
  have hg : ¬ gap < 0 := by simpa using hg
  conv => whnf
  unfold asgE asgR
  rw [if_neg (by simp), if_neg hg]
  (refine acall [] (by kernel_rfl) (key2A id hi) rfl ?_ ?_; (focus (repeat' (first | rfl | trivial | apply And.intro))))
  cases hk : keyB id <;> conv => whnf
  · try ((refine acallF [] (by kernel_rfl) (fail1A 6) ?_ ?_; (focus (repeat' (first | rfl | trivial | apply And.intro)))); rintro _ _ _ ⟨rfl, rfl, rfl⟩; (conv => whnf))
    exact aret [] (by repeat' (first | rfl | trivial | apply And.intro))
  (refine acall [] (by kernel_rfl) (key2A layer hy) rfl ?_ ?_; (focus (repeat' (first | rfl | trivial | apply And.intro))))
  cases hk2 : keyB layer <;> conv => whnf
  · try ((refine acallF [] (by kernel_rfl) (fail1A 6) ?_ ?_; (focus (repeat' (first | rfl | trivial | apply And.intro)))); rintro _ _ _ ⟨rfl, rfl, rfl⟩; (conv => whnf))
    exact aret [] (by repeat' (first | rfl | trivial | apply And.intro))
  (refine acallF [] (by kernel_rfl) (freshA r now hln) ?_ ?_; (focus (repeat' (first | rfl | trivial | apply And.intro))))
  rintro _ _ _ ⟨rfl, rfl, rfl⟩
  conv => whnf
  (refine acall [] (by kernel_rfl) (openA r id layer hln) rfl ?_ ?_; (focus (repeat' (first | rfl | trivial | apply And.intro))))
  conv => whnf
  refine vif_split (fun hc => ?_) (fun hc => ?_)
  · have hc : 0 ≤ curI r id layer := by simpa using hc
    have hb : (curI r id layer).toNat < r.slots.length := by
      unfold curI at hc ⊢
      cases hf : r.slots.findIdx? (curP r.links id layer) with
      | none => rw [hf] at hc; simp at hc
      | some i => have := (List.findIdx?_eq_some_iff_getElem.1 hf).1; simpa using this
    obtain ⟨i, hi2⟩ : ∃ i : Nat, curI r id layer = i := ⟨_, (Int.toNat_of_nonneg hc).symm⟩
    rw [hi2] at hb ⊢
    have hb : i < r.slots.length := by simpa using hb
    rw [if_pos (by omega)]
    conv => whnf
    (refine adraw pln34 [2,3] (by kernel_rfl) ?_; conv => whnf)
    (repeat' (first | (refine And.intro ?_ ?_ <;> (conv => whnf)) | (refine vif_split (fun h => ?_) (fun h => ?_) <;> (try simp only [sEqD, cond_true, cond_false, Bool.not_eq_true', Bool.not_eq_false', decide_eq_true_eq, decide_eq_false_iff_not, beq_iff_eq, bne_iff_ne, beq_eq_false_iff_ne, bne_eq_false_iff_eq, ne_eq, Bool.not_eq_eq_eq_not, Bool.not_true, Bool.not_false, Bool.false_eq_true, Bool.true_eq_false, Decidable.not_not, gt_iff_lt, ge_iff_le, Int.not_lt, Int.not_le] at h) <;> (conv => whnf)) | (refine AAr.i64 (by first | omega | ((try simp only [List.length_map] at *); omega)) ?_; conv => whnf) | (refine AIn.mk' _ rfl (by first | omega | (simp only [List.length_map, List.length_append, List.length_cons, List.length_nil, List.length_take, List.length_drop, List.length_set, List.length_replicate]; omega) | (simp only [List.length_map, List.length_append, List.length_cons, List.length_nil, List.length_take, List.length_drop, List.length_set, List.length_replicate] at *; omega)) ?_; conv => whnf) | (refine ARd.mapAt (by assumption) ?_; conv => whnf) | (refine ARd.set (by (try simp only [List.length_map, List.length_append, List.length_cons, List.length_nil, List.length_take, List.length_drop, List.length_set, List.length_replicate] at *); omega) ?_; conv => whnf) | (refine ARd.map (by first | omega | (simp only [List.length_map] at *; omega)) ?_; conv => whnf) | (refine VReq.mk (by first | decide | omega) ?_; conv => whnf) | (refine AEq.mk (by kernel_rfl) rfl rfl ?_; conv => whnf) | (refine VReq.mk (app_ok (by (try simp only [List.length_map, List.length_append, List.length_cons, List.length_nil, List.length_take, List.length_drop, List.length_set, List.length_replicate] at *); omega) (by kernel_rfl)) ?_; conv => whnf)))
    have eg : r.slots.getD (i : Int).toNat sl0 = r.slots[i] := by simp [List.getD, List.getElem?_eq_getElem hb]
    rw [eg]
    exact aret [4, 5] (by repeat' (first | rfl | trivial | apply And.intro))
  have hc : ¬ 0 ≤ curI r id layer := by simpa using hc
  rw [if_neg hc]
  conv => whnf
  cases held <;> conv => whnf
  rotate_left 1
  · try ((refine acallF [] (by kernel_rfl) (fail1A 11) ?_ ?_; (focus (repeat' (first | rfl | trivial | apply And.intro)))); rintro _ _ _ ⟨rfl, rfl, rfl⟩; (conv => whnf))
    exact aret [] (by repeat' (first | rfl | trivial | apply And.intro))
  (refine acall [] (by kernel_rfl) (key2A exp hx) rfl ?_ ?_; (focus (repeat' (first | rfl | trivial | apply And.intro))))
  cases hk3 : keyB exp <;> conv => whnf
  · try ((refine acallF [] (by kernel_rfl) (fail1A 11) ?_ ?_; (focus (repeat' (first | rfl | trivial | apply And.intro)))); rintro _ _ _ ⟨rfl, rfl, rfl⟩; (conv => whnf))
    exact aret [] (by repeat' (first | rfl | trivial | apply And.intro))
  (repeat' (first | (refine And.intro ?_ ?_ <;> (conv => whnf)) | (refine vif_split (fun h => ?_) (fun h => ?_) <;> (try simp only [sEqD, cond_true, cond_false, Bool.not_eq_true', Bool.not_eq_false', decide_eq_true_eq, decide_eq_false_iff_not, beq_iff_eq, bne_iff_ne, beq_eq_false_iff_ne, bne_eq_false_iff_eq, ne_eq, Bool.not_eq_eq_eq_not, Bool.not_true, Bool.not_false, Bool.false_eq_true, Bool.true_eq_false, Decidable.not_not, gt_iff_lt, ge_iff_le, Int.not_lt, Int.not_le] at h) <;> (conv => whnf)) | (refine AAr.i64 (by first | omega | ((try simp only [List.length_map] at *); omega)) ?_; conv => whnf) | (refine AIn.mk' _ rfl (by first | omega | (simp only [List.length_map, List.length_append, List.length_cons, List.length_nil, List.length_take, List.length_drop, List.length_set, List.length_replicate]; omega) | (simp only [List.length_map, List.length_append, List.length_cons, List.length_nil, List.length_take, List.length_drop, List.length_set, List.length_replicate] at *; omega)) ?_; conv => whnf) | (refine ARd.mapAt (by assumption) ?_; conv => whnf) | (refine ARd.set (by (try simp only [List.length_map, List.length_append, List.length_cons, List.length_nil, List.length_take, List.length_drop, List.length_set, List.length_replicate] at *); omega) ?_; conv => whnf) | (refine ARd.map (by first | omega | (simp only [List.length_map] at *; omega)) ?_; conv => whnf) | (refine VReq.mk (by first | decide | omega) ?_; conv => whnf) | (refine AEq.mk (by kernel_rfl) rfl rfl ?_; conv => whnf) | (refine VReq.mk (app_ok (by (try simp only [List.length_map, List.length_append, List.length_cons, List.length_nil, List.length_take, List.length_drop, List.length_set, List.length_replicate] at *); omega) (by kernel_rfl)) ?_; conv => whnf)))
  all_goals try
    (try ((refine acallF [] (by kernel_rfl) (fail1A 11) ?_ ?_; (focus (repeat' (first | rfl | trivial | apply And.intro)))); rintro _ _ _ ⟨rfl, rfl, rfl⟩; (conv => whnf))
     rw [decide_eq_true (by (try simp only [List.length_map, List.length_append, List.length_cons, List.length_nil, List.length_take, List.length_drop, List.length_set, List.length_replicate] at *); omega)]
     exact aret [] (by repeat' (first | rfl | trivial | apply And.intro)))
  rw [decide_eq_false (by (try simp only [List.length_map, List.length_append, List.length_cons, List.length_nil, List.length_take, List.length_drop, List.length_set, List.length_replicate] at *); omega)]
  try ((refine acall [] (by kernel_rfl) (rootA r.links id (by omega)) rfl ?_ ?_; (focus (repeat' (first | rfl | trivial | apply And.intro)))); (conv => whnf))
  refine aloopH ws34_1 [16] (fun k : Nat => [(16, iv k)]) (fun k => k ≤ r.slots.length ∧ ∀ j (hj : j < k) (hjl : j < r.slots.length), barP r.links id layer gap now r.slots[j] = false) (fun k => r.slots.length - k) 0 (by kernel_rfl) (fun _ => rfl) (by kernel_rfl) ⟨Nat.zero_le _, fun j hj => absurd hj (Nat.not_lt_zero j)⟩ (by repeat' (first | rfl | trivial | apply And.intro)) (by repeat' (first | rfl | trivial | apply And.intro)) ?_
  rintro k ⟨hkl, hno⟩
  conv => whnf
  refine vif_split (fun hlt => ?_) (fun hge => ?_)
  · have hlt : k < r.slots.length := by simpa using hlt
    have hto := g.to_ok k hlt
    have hbp : barP r.links id layer gap now r.slots[k] = (decide (r.slots[k].layer = layer) && decide (r.slots[k].fin ≠ 0) && decide (now - r.slots[k].to_ < gap) && decide (rt r.links r.slots[k].id = rt r.links id)) := rfl
    have good : barP r.links id layer gap now r.slots[k] = false → k + 1 ≤ r.slots.length ∧ ∀ j (hj : j < k + 1) (hjl : j < r.slots.length), barP r.links id layer gap now r.slots[j] = false := fun h => ⟨hlt, fun j hj hjl => by
      rcases Nat.lt_or_ge j k with h1 | h1
      · exact hno j h1 hjl
      · have : j = k := by omega
        subst this; exact h⟩
    conv => whnf
    (repeat' (first | (refine And.intro ?_ ?_ <;> (conv => whnf)) | (refine vif_split (fun h => ?_) (fun h => ?_) <;> (try simp only [sEqD, cond_true, cond_false, Bool.not_eq_true', Bool.not_eq_false', decide_eq_true_eq, decide_eq_false_iff_not, beq_iff_eq, bne_iff_ne, beq_eq_false_iff_ne, bne_eq_false_iff_eq, ne_eq, Bool.not_eq_eq_eq_not, Bool.not_true, Bool.not_false, Bool.false_eq_true, Bool.true_eq_false, Decidable.not_not, gt_iff_lt, ge_iff_le, Int.not_lt, Int.not_le] at h) <;> (conv => whnf)) | (refine AAr.i64 (by first | omega | ((try simp only [List.length_map] at *); omega)) ?_; conv => whnf) | (refine AIn.mk' _ rfl (by first | omega | (simp only [List.length_map, List.length_append, List.length_cons, List.length_nil, List.length_take, List.length_drop, List.length_set, List.length_replicate]; omega) | (simp only [List.length_map, List.length_append, List.length_cons, List.length_nil, List.length_take, List.length_drop, List.length_set, List.length_replicate] at *; omega)) ?_; conv => whnf) | (refine ARd.mapAt (by assumption) ?_; conv => whnf) | (refine ARd.set (by (try simp only [List.length_map, List.length_append, List.length_cons, List.length_nil, List.length_take, List.length_drop, List.length_set, List.length_replicate] at *); omega) ?_; conv => whnf) | (refine ARd.map (by first | omega | (simp only [List.length_map] at *; omega)) ?_; conv => whnf) | (refine VReq.mk (by first | decide | omega) ?_; conv => whnf) | (refine AEq.mk (by kernel_rfl) rfl rfl ?_; conv => whnf) | (refine VReq.mk (app_ok (by (try simp only [List.length_map, List.length_append, List.length_cons, List.length_nil, List.length_take, List.length_drop, List.length_set, List.length_replicate] at *); omega) (by kernel_rfl)) ?_; conv => whnf)))
    all_goals try (first | ((refine acall [] (by kernel_rfl) (rootA r.links r.slots[k].id (by omega)) rfl ?_ ?_; (focus (repeat' (first | rfl | trivial | apply And.intro)))); (conv => whnf); (repeat' (first | (refine And.intro ?_ ?_ <;> (conv => whnf)) | (refine vif_split (fun h => ?_) (fun h => ?_) <;> (try simp only [sEqD, cond_true, cond_false, Bool.not_eq_true', Bool.not_eq_false', decide_eq_true_eq, decide_eq_false_iff_not, beq_iff_eq, bne_iff_ne, beq_eq_false_iff_ne, bne_eq_false_iff_eq, ne_eq, Bool.not_eq_eq_eq_not, Bool.not_true, Bool.not_false, Bool.false_eq_true, Bool.true_eq_false, Decidable.not_not, gt_iff_lt, ge_iff_le, Int.not_lt, Int.not_le] at h) <;> (conv => whnf)) | (refine AAr.i64 (by first | omega | ((try simp only [List.length_map] at *); omega)) ?_; conv => whnf) | (refine AIn.mk' _ rfl (by first | omega | (simp only [List.length_map, List.length_append, List.length_cons, List.length_nil, List.length_take, List.length_drop, List.length_set, List.length_replicate]; omega) | (simp only [List.length_map, List.length_append, List.length_cons, List.length_nil, List.length_take, List.length_drop, List.length_set, List.length_replicate] at *; omega)) ?_; conv => whnf) | (refine ARd.mapAt (by assumption) ?_; conv => whnf) | (refine ARd.set (by (try simp only [List.length_map, List.length_append, List.length_cons, List.length_nil, List.length_take, List.length_drop, List.length_set, List.length_replicate] at *); omega) ?_; conv => whnf) | (refine ARd.map (by first | omega | (simp only [List.length_map] at *; omega)) ?_; conv => whnf) | (refine VReq.mk (by first | decide | omega) ?_; conv => whnf) | (refine AEq.mk (by kernel_rfl) rfl rfl ?_; conv => whnf) | (refine VReq.mk (app_ok (by (try simp only [List.length_map, List.length_append, List.length_cons, List.length_nil, List.length_take, List.length_drop, List.length_set, List.length_replicate] at *); omega) (by kernel_rfl)) ?_; conv => whnf)))) | ((refine acall [] (by kernel_rfl) (same2A r.links r.slots[k].id id hln.2) rfl ?_ ?_; (focus (repeat' (first | rfl | trivial | apply And.intro)))); (conv => whnf); (repeat' (first | (refine And.intro ?_ ?_ <;> (conv => whnf)) | (refine vif_split (fun h => ?_) (fun h => ?_) <;> (try simp only [sEqD, cond_true, cond_false, Bool.not_eq_true', Bool.not_eq_false', decide_eq_true_eq, decide_eq_false_iff_not, beq_iff_eq, bne_iff_ne, beq_eq_false_iff_ne, bne_eq_false_iff_eq, ne_eq, Bool.not_eq_eq_eq_not, Bool.not_true, Bool.not_false, Bool.false_eq_true, Bool.true_eq_false, Decidable.not_not, gt_iff_lt, ge_iff_le, Int.not_lt, Int.not_le] at h) <;> (conv => whnf)) | (refine AAr.i64 (by first | omega | ((try simp only [List.length_map] at *); omega)) ?_; conv => whnf) | (refine AIn.mk' _ rfl (by first | omega | (simp only [List.length_map, List.length_append, List.length_cons, List.length_nil, List.length_take, List.length_drop, List.length_set, List.length_replicate]; omega) | (simp only [List.length_map, List.length_append, List.length_cons, List.length_nil, List.length_take, List.length_drop, List.length_set, List.length_replicate] at *; omega)) ?_; conv => whnf) | (refine ARd.mapAt (by assumption) ?_; conv => whnf) | (refine ARd.set (by (try simp only [List.length_map, List.length_append, List.length_cons, List.length_nil, List.length_take, List.length_drop, List.length_set, List.length_replicate] at *); omega) ?_; conv => whnf) | (refine ARd.map (by first | omega | (simp only [List.length_map] at *; omega)) ?_; conv => whnf) | (refine VReq.mk (by first | decide | omega) ?_; conv => whnf) | (refine AEq.mk (by kernel_rfl) rfl rfl ?_; conv => whnf) | (refine VReq.mk (app_ok (by (try simp only [List.length_map, List.length_append, List.length_cons, List.length_nil, List.length_take, List.length_drop, List.length_set, List.length_replicate] at *); omega) (by kernel_rfl)) ?_; conv => whnf)))))
    all_goals first
      | (try ((refine acallF [] (by kernel_rfl) (fail1A 28) ?_ ?_; (focus (repeat' (first | rfl | trivial | apply And.intro)))); rintro _ _ _ ⟨rfl, rfl, rfl⟩; (conv => whnf))
         have e : r.slots.any (barP r.links id layer gap now) = true := List.any_eq_true.2 ⟨_, List.getElem_mem hlt, by rw [hbp]; simp [*]⟩
         rw [e]
         exact aret [] (by repeat' (first | rfl | trivial | apply And.intro)))
      | ((refine aback (k + 1) [] [] ?_ ?_ ?_ ?_ ?_; (focus rfl); rotate_left 2; (focus (repeat' (first | rfl | trivial | apply And.intro))); (focus (repeat' (first | rfl | trivial | apply And.intro))))
         · show r.slots.length - (k + 1) < r.slots.length - k; omega
         · exact good (by rw [hbp]; first | (simp [*]; done) | (simp [*]; omega)))
  · have : k = r.slots.length := by simp at hge; omega
    subst this
    have e : r.slots.any (barP r.links id layer gap now) = false := by
      rw [List.any_eq_false]
      intro x hx
      obtain ⟨j, hj, rfl⟩ := List.getElem_of_mem hx
      rw [hno j hj hj]; simp
    rw [e]
    conv => whnf
    (refine vif_split (fun h => ?_) (fun h => ?_) <;> (try simp only [sEqD, cond_true, cond_false, Bool.not_eq_true', Bool.not_eq_false', decide_eq_true_eq, decide_eq_false_iff_not, beq_iff_eq, bne_iff_ne, beq_eq_false_iff_ne, bne_eq_false_iff_eq, ne_eq, Bool.not_eq_eq_eq_not, Bool.not_true, Bool.not_false, Bool.false_eq_true, Bool.true_eq_false, Decidable.not_not, gt_iff_lt, ge_iff_le, Int.not_lt, Int.not_le] at h) <;> (conv => whnf))
    · try ((refine acallF [] (by kernel_rfl) (fail1A 19) ?_ ?_; (focus (repeat' (first | rfl | trivial | apply And.intro)))); rintro _ _ _ ⟨rfl, rfl, rfl⟩; (conv => whnf))
      rw [if_pos (by (try simp only [List.length_map, List.length_append, List.length_cons, List.length_nil, List.length_take, List.length_drop, List.length_set, List.length_replicate] at *); omega)]
      exact aret [] (by repeat' (first | rfl | trivial | apply And.intro))
    rw [if_neg (by (try simp only [List.length_map, List.length_append, List.length_cons, List.length_nil, List.length_take, List.length_drop, List.length_set, List.length_replicate] at *); omega)]
    (repeat' (first | (refine And.intro ?_ ?_ <;> (conv => whnf)) | (refine vif_split (fun h => ?_) (fun h => ?_) <;> (try simp only [sEqD, cond_true, cond_false, Bool.not_eq_true', Bool.not_eq_false', decide_eq_true_eq, decide_eq_false_iff_not, beq_iff_eq, bne_iff_ne, beq_eq_false_iff_ne, bne_eq_false_iff_eq, ne_eq, Bool.not_eq_eq_eq_not, Bool.not_true, Bool.not_false, Bool.false_eq_true, Bool.true_eq_false, Decidable.not_not, gt_iff_lt, ge_iff_le, Int.not_lt, Int.not_le] at h) <;> (conv => whnf)) | (refine AAr.i64 (by first | omega | ((try simp only [List.length_map] at *); omega)) ?_; conv => whnf) | (refine AIn.mk' _ rfl (by first | omega | (simp only [List.length_map, List.length_append, List.length_cons, List.length_nil, List.length_take, List.length_drop, List.length_set, List.length_replicate]; omega) | (simp only [List.length_map, List.length_append, List.length_cons, List.length_nil, List.length_take, List.length_drop, List.length_set, List.length_replicate] at *; omega)) ?_; conv => whnf) | (refine ARd.mapAt (by assumption) ?_; conv => whnf) | (refine ARd.set (by (try simp only [List.length_map, List.length_append, List.length_cons, List.length_nil, List.length_take, List.length_drop, List.length_set, List.length_replicate] at *); omega) ?_; conv => whnf) | (refine ARd.map (by first | omega | (simp only [List.length_map] at *; omega)) ?_; conv => whnf) | (refine VReq.mk (by first | decide | omega) ?_; conv => whnf) | (refine AEq.mk (by kernel_rfl) rfl rfl ?_; conv => whnf) | (refine VReq.mk (app_ok (by (try simp only [List.length_map, List.length_append, List.length_cons, List.length_nil, List.length_take, List.length_drop, List.length_set, List.length_replicate] at *); omega) (by kernel_rfl)) ?_; conv => whnf)))
    (refine adraw pln34 [2,3] (by kernel_rfl) ?_; conv => whnf)
    (repeat' (first | (refine And.intro ?_ ?_ <;> (conv => whnf)) | (refine vif_split (fun h => ?_) (fun h => ?_) <;> (try simp only [sEqD, cond_true, cond_false, Bool.not_eq_true', Bool.not_eq_false', decide_eq_true_eq, decide_eq_false_iff_not, beq_iff_eq, bne_iff_ne, beq_eq_false_iff_ne, bne_eq_false_iff_eq, ne_eq, Bool.not_eq_eq_eq_not, Bool.not_true, Bool.not_false, Bool.false_eq_true, Bool.true_eq_false, Decidable.not_not, gt_iff_lt, ge_iff_le, Int.not_lt, Int.not_le] at h) <;> (conv => whnf)) | (refine AAr.i64 (by first | omega | ((try simp only [List.length_map] at *); omega)) ?_; conv => whnf) | (refine AIn.mk' _ rfl (by first | omega | (simp only [List.length_map, List.length_append, List.length_cons, List.length_nil, List.length_take, List.length_drop, List.length_set, List.length_replicate]; omega) | (simp only [List.length_map, List.length_append, List.length_cons, List.length_nil, List.length_take, List.length_drop, List.length_set, List.length_replicate] at *; omega)) ?_; conv => whnf) | (refine ARd.mapAt (by assumption) ?_; conv => whnf) | (refine ARd.set (by (try simp only [List.length_map, List.length_append, List.length_cons, List.length_nil, List.length_take, List.length_drop, List.length_set, List.length_replicate] at *); omega) ?_; conv => whnf) | (refine ARd.map (by first | omega | (simp only [List.length_map] at *; omega)) ?_; conv => whnf) | (refine VReq.mk (by first | decide | omega) ?_; conv => whnf) | (refine AEq.mk (by kernel_rfl) rfl rfl ?_; conv => whnf) | (refine VReq.mk (app_ok (by (try simp only [List.length_map, List.length_append, List.length_cons, List.length_nil, List.length_take, List.length_drop, List.length_set, List.length_replicate] at *); omega) (by kernel_rfl)) ?_; conv => whnf)))
    refine aret [4, 9] ?_
    repeat' (first | rfl | trivial | apply And.intro)
    show _ = List.map slF (r.slots ++ [⟨id, layer, exp, arm, now, 0, 0⟩])
    rw [List.map_append]; rfl
end Go.Proofs.YtinpgogjkmmjpaaDoor.Sx
