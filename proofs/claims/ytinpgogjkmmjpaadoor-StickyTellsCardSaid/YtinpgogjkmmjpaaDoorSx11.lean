/- The walks of Merge. Condition: as Sx1's. -/
import Derived.Test.YtinpgogjkmmjpaaDoorSx10
set_option linter.unusedVariables false
set_option linter.unusedSimpArgs false
namespace Go.Proofs.YtinpgogjkmmjpaaDoor.Sx
open Go Go.RowKit Go.Proofs.YtinpgogjkmmjpaaDoor.Vc Go.Proofs.YtinpgogjkmmjpaaDoor.Ax Go.Proofs.YtinpgogjkmmjpaaDoor.Ky Go.Proofs.YtinpgogjkmmjpaaDoor.Id Go.Proofs.YtinpgogjkmmjpaaDoor.Sp

/-- what both Merges answer; d tells which slots end -/
def mrgR (e : Int) (kb : Bool) (r : Rg) (a b : ByteArray) (now : Int) (d : Nat → Bool) : Rg × List Sl × Int :=
  if e ≠ 0 then (rg0, [], e)
  else bif !kb then (rg0, [], 6)
  else if a = b then (rg0, [], 15)
  else if rt r.links a = rt r.links b then (⟨now, r.links, r.slots⟩, [], 0)
  else if 64 ≤ r.links.length then (rg0, [], 19)
  else (⟨now, r.links ++ [⟨a, b, now⟩], mrgL d now r.slots r.slots.length⟩, mrgE d now r.slots r.slots.length, 0)
/-- the map held, as the program keeps it -/
def heldM (ls : List Lk) (a : ByteArray) (l : List Sl) (y : ByteArray) : Option Value := if heldB ls a l y = true then some (.bool true) else none
theorem heldM_look {ls : List Lk} {a : ByteArray} {l : List Sl} {y : ByteArray} {K : Value → Bool → Prop} (c : K (.bool (heldB ls a l y)) (heldB ls a l y)) : ALk (heldM ls a l) y (.bool false) K := by
  refine ⟨?_⟩
  unfold heldM
  cases h : heldB ls a l y <;> rw [h] at c <;> exact c
theorem heldM_yes {ls : List Lk} {a : ByteArray} {l l' : List Sl} {y : ByteArray} (h : ∀ z, heldB ls a l' z = (heldB ls a l z || (true && decide (y = z)))) : (fun k' => if k' = y then some (.bool true) else heldM ls a l k') = heldM ls a l' := by
  funext z
  unfold heldM
  rw [h z]
  by_cases e : z = y
  · subst e; simp
  · have : ¬ y = z := fun q => e q.symm
    simp [e, this]
theorem heldM_no {ls : List Lk} {a : ByteArray} {l l' : List Sl} (h : ∀ z, heldB ls a l' z = heldB ls a l z) : heldM ls a l' = heldM ls a l := by
  funext z
  unfold heldM
  rw [h z]
def mrgV (x : Rg × List Sl × Int) : AV := .tup [rgA x.1, slsA x.2.1, iv x.2.2]
set_option maxHeartbeats 4000000 in
set_option maxRecDepth 100000 in
theorem merge1A (r : Rg) (a b : ByteArray) (now : Int) (ha : strOK a.size) (hb : strOK b.size) (hS : RegS r) (hln : r.slots.length ≤ 1000000 ∧ r.links.length ≤ 1000000) :
    AFn Tryd.prog GS 28 [rgA r, sv a, sv b, iv now] 0 [] (Is (mrgV (mrgR (readyE (validB r) r now) (keyB a && keyB b) r a b now (d1 (r.links ++ [⟨a, b, now⟩]) a r.slots)))) := by
  refine afn_of Tryd.func28 rfl mixed (by kernel_rfl) ?_
  conv => whnf
  (refine acall [] (by kernel_rfl) (ready1A r now hS hln) rfl ?_ ?_; (focus (repeat' (first | rfl | trivial | apply And.intro))))
  have hgd : readyE (validB r) r now = 0 → Good r ∧ r.now ≤ now ∧ now ≤ 1099511627776 := ready_good (valid_iff r).1
  generalize readyE (validB r) r now = e at hgd ⊢
  conv => whnf
  unfold mrgR
  refine vif_split (fun he => ?_) (fun he => ?_)
  · conv => whnf
    have he : e ≠ 0 := by simpa using he
    rw [if_pos he]
    exact aret [] (by repeat' (first | rfl | trivial | apply And.intro))
  have he : e = 0 := by simpa using he
  subst he
  obtain ⟨g, hn1, hn2⟩ := hgd rfl
  have hg0 := g.now
  have hgl := g.len
  rw [if_neg (by simp)]
  conv => whnf
  (refine acall [] (by kernel_rfl) (key1A a ha) rfl ?_ ?_; (focus (repeat' (first | rfl | trivial | apply And.intro))))
  cases hk : keyB a <;> conv => whnf
  · exact aret [] (by repeat' (first | rfl | trivial | apply And.intro))
  (refine acall [] (by kernel_rfl) (key1A b hb) rfl ?_ ?_; (focus (repeat' (first | rfl | trivial | apply And.intro))))
  cases hk2 : keyB b <;> conv => whnf
  · exact aret [] (by repeat' (first | rfl | trivial | apply And.intro))
  (refine vif_split (fun h => ?_) (fun h => ?_) <;> (try simp only [sEqD, cond_true, cond_false, Bool.not_eq_true', Bool.not_eq_false', decide_eq_true_eq, decide_eq_false_iff_not, beq_iff_eq, bne_iff_ne, beq_eq_false_iff_ne, bne_eq_false_iff_eq, ne_eq, Bool.not_eq_eq_eq_not, Bool.not_true, Bool.not_false, Bool.false_eq_true, Bool.true_eq_false, Decidable.not_not, gt_iff_lt, ge_iff_le, Int.not_lt, Int.not_le] at h) <;> (conv => whnf))
  · rw [if_pos h]
    exact aret [] (by repeat' (first | rfl | trivial | apply And.intro))
  rw [if_neg h]
  (refine acallF [] (by kernel_rfl) (copiedA r now hln) ?_ ?_; (focus (repeat' (first | rfl | trivial | apply And.intro))))
  rintro _ _ _ ⟨rfl, rfl, rfl⟩
  conv => whnf
  (refine acall [] (by kernel_rfl) (same1A r.links a b (by omega)) rfl ?_ ?_; (focus (repeat' (first | rfl | trivial | apply And.intro))))
  conv => whnf
  (refine vif_split (fun h => ?_) (fun h => ?_) <;> (try simp only [sEqD, cond_true, cond_false, Bool.not_eq_true', Bool.not_eq_false', decide_eq_true_eq, decide_eq_false_iff_not, beq_iff_eq, bne_iff_ne, beq_eq_false_iff_ne, bne_eq_false_iff_eq, ne_eq, Bool.not_eq_eq_eq_not, Bool.not_true, Bool.not_false, Bool.false_eq_true, Bool.true_eq_false, Decidable.not_not, gt_iff_lt, ge_iff_le, Int.not_lt, Int.not_le] at h) <;> (conv => whnf))
  · rw [if_pos (by assumption)]
    exact aret [2, 3] (by repeat' (first | rfl | trivial | apply And.intro))
  rw [if_neg (by assumption)]
  (refine vif_split (fun h => ?_) (fun h => ?_) <;> (try simp only [sEqD, cond_true, cond_false, Bool.not_eq_true', Bool.not_eq_false', decide_eq_true_eq, decide_eq_false_iff_not, beq_iff_eq, bne_iff_ne, beq_eq_false_iff_ne, bne_eq_false_iff_eq, ne_eq, Bool.not_eq_eq_eq_not, Bool.not_true, Bool.not_false, Bool.false_eq_true, Bool.true_eq_false, Decidable.not_not, gt_iff_lt, ge_iff_le, Int.not_lt, Int.not_le] at h) <;> (conv => whnf))
  · rw [if_pos (by (try simp only [List.length_map, List.length_append, List.length_cons, List.length_nil, List.length_take, List.length_drop, List.length_set, List.length_replicate] at *); omega)]
    exact aret [] (by repeat' (first | rfl | trivial | apply And.intro))
  rw [if_neg (by (try simp only [List.length_map, List.length_append, List.length_cons, List.length_nil, List.length_take, List.length_drop, List.length_set, List.length_replicate] at *); omega)]
  (repeat' (first | (refine And.intro ?_ ?_ <;> (conv => whnf)) | (refine vif_split (fun h => ?_) (fun h => ?_) <;> (try simp only [sEqD, cond_true, cond_false, Bool.not_eq_true', Bool.not_eq_false', decide_eq_true_eq, decide_eq_false_iff_not, beq_iff_eq, bne_iff_ne, beq_eq_false_iff_ne, bne_eq_false_iff_eq, ne_eq, Bool.not_eq_eq_eq_not, Bool.not_true, Bool.not_false, Bool.false_eq_true, Bool.true_eq_false, Decidable.not_not, gt_iff_lt, ge_iff_le, Int.not_lt, Int.not_le] at h) <;> (conv => whnf)) | (refine AAr.i64 (by first | omega | ((try simp only [List.length_map] at *); omega)) ?_; conv => whnf) | (refine AIn.mk' _ rfl (by first | omega | (simp only [List.length_map, List.length_append, List.length_cons, List.length_nil, List.length_take, List.length_drop, List.length_set, List.length_replicate]; omega) | (simp only [List.length_map, List.length_append, List.length_cons, List.length_nil, List.length_take, List.length_drop, List.length_set, List.length_replicate] at *; omega)) ?_; conv => whnf) | (refine ARd.mapAt (by assumption) ?_; conv => whnf) | (refine ARd.set (by (try simp only [List.length_map, List.length_append, List.length_cons, List.length_nil, List.length_take, List.length_drop, List.length_set, List.length_replicate] at *); omega) ?_; conv => whnf) | (refine ARd.map (by first | omega | (simp only [List.length_map] at *; omega)) ?_; conv => whnf) | (refine VReq.mk (by first | decide | omega) ?_; conv => whnf) | (refine AEq.mk (by kernel_rfl) rfl rfl ?_; conv => whnf) | (refine VReq.mk (app_ok (by (try simp only [List.length_map, List.length_append, List.length_cons, List.length_nil, List.length_take, List.length_drop, List.length_set, List.length_replicate] at *); omega) (by kernel_rfl)) ?_; conv => whnf)))
  have hrt : ∀ (x : ByteArray), AFn Tryd.prog GS 45 [lksA (r.links ++ [⟨a, b, now⟩]), sv x] 0 [] (Is (sv (rt (r.links ++ [⟨a, b, now⟩]) x))) := fun x => rootA _ x (by simp; omega)
  have hlm : List.map lkF r.links ++ [lkF ⟨a, b, now⟩] = List.map lkF (r.links ++ [⟨a, b, now⟩]) := by rw [List.map_append]; rfl
  obtain ⟨ls, hls⟩ : ∃ ls, ls = r.links ++ [⟨a, b, now⟩] := ⟨_, rfl⟩
  rw [← hls] at hrt hlm ⊢
  clear hls
  refine acall [6] (by kernel_rfl) (hrt a) rfl ?_ ?_
  · repeat' (first | rfl | trivial | apply And.intro)
  conv => whnf
  refine aloop ws28_1 9 [69, 15] (fun k : Nat => [(69, iv k), (15, .own 8)])
    (fun k => [(0, .var 27 [iv r.now, lksA r.links, slsA r.slots]), (1, .var 27 [iv 0, .v (.slice none 0 0), .v (.slice none 0 0)]), (3, .rows 43 7 ((mrgL (d1 ls a r.slots) now r.slots k).map slF)), (4, .var 27 [iv now, .own 6, .own 3]), (6, .rows 40 3 (ls.map lkF)), (7, .map (heldM ls a (r.slots.take k))), (8, .rows 43 7 ((mrgE (d1 ls a r.slots) now r.slots k).map slF))])
    (fun k => k ≤ r.slots.length) (fun k => r.slots.length - k) [(8, .nil)] [] 0 (by kernel_rfl) (fun _ => rfl) rfl (Nat.zero_le _) ?_ (by repeat' (first | rfl | trivial | apply And.intro)) ?_
  · repeat' (first | rfl | trivial | apply And.intro)
    rw [mrgL_0]
  rintro k hk
  conv => whnf
  refine vif_split (fun hlt => ?_) (fun hge => ?_)
  · have hlt : k < r.slots.length := by simp [mrgL_len] at hlt; omega
    have hget := mrgL_at (d1 ls a r.slots) now r.slots k hlt
    have hlen := mrgL_len (d1 ls a r.slots) now r.slots k
    have hel := mrgE_len (d1 ls a r.slots) now r.slots k
    have hd := d1_at (ls := ls) (a := a) hlt
    have hh := heldB_succ (ls := ls) (a := a) hlt
    have hmp : mP ls a r.slots[k] = (decide (r.slots[k].fin = 0) && decide (rt ls r.slots[k].id = rt ls a)) := rfl
    conv => whnf
    refine AIn.mk' k rfl (by (try simp only [List.length_map, List.length_append, List.length_cons, List.length_nil, List.length_take, List.length_drop, List.length_set, List.length_replicate] at *); omega) ?_
    conv => whnf
    (refine adraw pln28 [6] (by kernel_rfl) ?_; conv => whnf)
    (repeat' (first | (refine And.intro ?_ ?_ <;> (conv => whnf)) | (refine vif_split (fun h => ?_) (fun h => ?_) <;> (try simp only [sEqD, cond_true, cond_false, Bool.not_eq_true', Bool.not_eq_false', decide_eq_true_eq, decide_eq_false_iff_not, beq_iff_eq, bne_iff_ne, beq_eq_false_iff_ne, bne_eq_false_iff_eq, ne_eq, Bool.not_eq_eq_eq_not, Bool.not_true, Bool.not_false, Bool.false_eq_true, Bool.true_eq_false, Decidable.not_not, gt_iff_lt, ge_iff_le, Int.not_lt, Int.not_le] at h) <;> (conv => whnf)) | (refine AAr.i64 (by first | omega | ((try simp only [List.length_map] at *); omega)) ?_; conv => whnf) | (refine AIn.mk' _ rfl (by first | omega | (simp only [List.length_map, List.length_append, List.length_cons, List.length_nil, List.length_take, List.length_drop, List.length_set, List.length_replicate]; omega) | (simp only [List.length_map, List.length_append, List.length_cons, List.length_nil, List.length_take, List.length_drop, List.length_set, List.length_replicate] at *; omega)) ?_; conv => whnf) | (refine ARd.mapAt (by assumption) ?_; conv => whnf) | (refine ARd.set (by (try simp only [List.length_map, List.length_append, List.length_cons, List.length_nil, List.length_take, List.length_drop, List.length_set, List.length_replicate] at *); omega) ?_; conv => whnf) | (refine ARd.map (by first | omega | (simp only [List.length_map] at *; omega)) ?_; conv => whnf) | (refine VReq.mk (by first | decide | omega) ?_; conv => whnf) | (refine AEq.mk (by kernel_rfl) rfl rfl ?_; conv => whnf) | (refine VReq.mk (app_ok (by (try simp only [List.length_map, List.length_append, List.length_cons, List.length_nil, List.length_take, List.length_drop, List.length_set, List.length_replicate] at *); omega) (by kernel_rfl)) ?_; conv => whnf)))
    all_goals try (refine acall [6] (by kernel_rfl) (hrt r.slots[k].id) rfl ?_ ?_; (focus (repeat' (first | rfl | trivial | apply And.intro))); (conv => whnf); (repeat' (first | (refine And.intro ?_ ?_ <;> (conv => whnf)) | (refine vif_split (fun h => ?_) (fun h => ?_) <;> (try simp only [sEqD, cond_true, cond_false, Bool.not_eq_true', Bool.not_eq_false', decide_eq_true_eq, decide_eq_false_iff_not, beq_iff_eq, bne_iff_ne, beq_eq_false_iff_ne, bne_eq_false_iff_eq, ne_eq, Bool.not_eq_eq_eq_not, Bool.not_true, Bool.not_false, Bool.false_eq_true, Bool.true_eq_false, Decidable.not_not, gt_iff_lt, ge_iff_le, Int.not_lt, Int.not_le] at h) <;> (conv => whnf)) | (refine AAr.i64 (by first | omega | ((try simp only [List.length_map] at *); omega)) ?_; conv => whnf) | (refine AIn.mk' _ rfl (by first | omega | (simp only [List.length_map, List.length_append, List.length_cons, List.length_nil, List.length_take, List.length_drop, List.length_set, List.length_replicate]; omega) | (simp only [List.length_map, List.length_append, List.length_cons, List.length_nil, List.length_take, List.length_drop, List.length_set, List.length_replicate] at *; omega)) ?_; conv => whnf) | (refine ARd.mapAt (by assumption) ?_; conv => whnf) | (refine ARd.set (by (try simp only [List.length_map, List.length_append, List.length_cons, List.length_nil, List.length_take, List.length_drop, List.length_set, List.length_replicate] at *); omega) ?_; conv => whnf) | (refine ARd.map (by first | omega | (simp only [List.length_map] at *; omega)) ?_; conv => whnf) | (refine VReq.mk (by first | decide | omega) ?_; conv => whnf) | (refine AEq.mk (by kernel_rfl) rfl rfl ?_; conv => whnf) | (refine VReq.mk (app_ok (by (try simp only [List.length_map, List.length_append, List.length_cons, List.length_nil, List.length_take, List.length_drop, List.length_set, List.length_replicate] at *); omega) (by kernel_rfl)) ?_; conv => whnf))))
    · have hm : mP ls a r.slots[k] = false := by rw [hmp]; simp [*]
      have hd0 : d1 ls a r.slots k = false := by rw [hd, hm]; rfl
      refine aback (k + 1) [(8, .lab 8)] [] rfl (by show r.slots.length - (k + 1) < r.slots.length - k; omega) hlt ?_ (by repeat' (first | rfl | trivial | apply And.intro))
      rw [mrgL_no _ _ _ _ hlt hd0, mrgE_no _ _ _ _ hd0]
      repeat' (first | rfl | trivial | apply And.intro)
      exact (heldM_no fun z => by rw [hh, hm]; simp).symm
    · have hm : mP ls a r.slots[k] = false := by rw [hmp]; simp [*]
      have hd0 : d1 ls a r.slots k = false := by rw [hd, hm]; rfl
      refine aback (k + 1) [(8, .lab 8)] [] rfl (by show r.slots.length - (k + 1) < r.slots.length - k; omega) hlt ?_ (by repeat' (first | rfl | trivial | apply And.intro))
      rw [mrgL_no _ _ _ _ hlt hd0, mrgE_no _ _ _ _ hd0]
      repeat' (first | rfl | trivial | apply And.intro)
      exact (heldM_no fun z => by rw [hh, hm]; simp).symm
    have hm : mP ls a r.slots[k] = true := by rw [hmp]; simp [*]
    rw [hm] at hd hh
    refine heldM_look ?_
    conv => whnf
    refine vif_split (fun hhe => ?_) (fun hhe => ?_)
    · have hd0 : d1 ls a r.slots k = true := by rw [hd, hhe]; rfl
      conv => whnf
      (repeat' (first | (refine And.intro ?_ ?_ <;> (conv => whnf)) | (refine vif_split (fun h => ?_) (fun h => ?_) <;> (try simp only [sEqD, cond_true, cond_false, Bool.not_eq_true', Bool.not_eq_false', decide_eq_true_eq, decide_eq_false_iff_not, beq_iff_eq, bne_iff_ne, beq_eq_false_iff_ne, bne_eq_false_iff_eq, ne_eq, Bool.not_eq_eq_eq_not, Bool.not_true, Bool.not_false, Bool.false_eq_true, Bool.true_eq_false, Decidable.not_not, gt_iff_lt, ge_iff_le, Int.not_lt, Int.not_le] at h) <;> (conv => whnf)) | (refine AAr.i64 (by first | omega | ((try simp only [List.length_map] at *); omega)) ?_; conv => whnf) | (refine AIn.mk' _ rfl (by first | omega | (simp only [List.length_map, List.length_append, List.length_cons, List.length_nil, List.length_take, List.length_drop, List.length_set, List.length_replicate]; omega) | (simp only [List.length_map, List.length_append, List.length_cons, List.length_nil, List.length_take, List.length_drop, List.length_set, List.length_replicate] at *; omega)) ?_; conv => whnf) | (refine ARd.mapAt (by assumption) ?_; conv => whnf) | (refine ARd.set (by (try simp only [List.length_map, List.length_append, List.length_cons, List.length_nil, List.length_take, List.length_drop, List.length_set, List.length_replicate] at *); omega) ?_; conv => whnf) | (refine ARd.map (by first | omega | (simp only [List.length_map] at *; omega)) ?_; conv => whnf) | (refine VReq.mk (by first | decide | omega) ?_; conv => whnf) | (refine AEq.mk (by kernel_rfl) rfl rfl ?_; conv => whnf) | (refine VReq.mk (app_ok (by (try simp only [List.length_map, List.length_append, List.length_cons, List.length_nil, List.length_take, List.length_drop, List.length_set, List.length_replicate] at *); omega) (by kernel_rfl)) ?_; conv => whnf)))
      refine aback (k + 1) [(8, .lab 10)] [] rfl (by show r.slots.length - (k + 1) < r.slots.length - k; omega) hlt ?_ (by repeat' (first | rfl | trivial | apply And.intro))
      rw [mrgL_yes _ _ _ _ hlt hd0, mrgE_yes _ _ _ _ hlt hd0]
      repeat' (first | rfl | trivial | apply And.intro)
      · rw [List.map_set, List.set_set]; rfl
      · exact heldM_yes hh
      · rw [List.map_append]; rfl
    · have hd0 : d1 ls a r.slots k = false := by rw [hd, hhe]; rfl
      conv => whnf
      (repeat' (first | (refine And.intro ?_ ?_ <;> (conv => whnf)) | (refine vif_split (fun h => ?_) (fun h => ?_) <;> (try simp only [sEqD, cond_true, cond_false, Bool.not_eq_true', Bool.not_eq_false', decide_eq_true_eq, decide_eq_false_iff_not, beq_iff_eq, bne_iff_ne, beq_eq_false_iff_ne, bne_eq_false_iff_eq, ne_eq, Bool.not_eq_eq_eq_not, Bool.not_true, Bool.not_false, Bool.false_eq_true, Bool.true_eq_false, Decidable.not_not, gt_iff_lt, ge_iff_le, Int.not_lt, Int.not_le] at h) <;> (conv => whnf)) | (refine AAr.i64 (by first | omega | ((try simp only [List.length_map] at *); omega)) ?_; conv => whnf) | (refine AIn.mk' _ rfl (by first | omega | (simp only [List.length_map, List.length_append, List.length_cons, List.length_nil, List.length_take, List.length_drop, List.length_set, List.length_replicate]; omega) | (simp only [List.length_map, List.length_append, List.length_cons, List.length_nil, List.length_take, List.length_drop, List.length_set, List.length_replicate] at *; omega)) ?_; conv => whnf) | (refine ARd.mapAt (by assumption) ?_; conv => whnf) | (refine ARd.set (by (try simp only [List.length_map, List.length_append, List.length_cons, List.length_nil, List.length_take, List.length_drop, List.length_set, List.length_replicate] at *); omega) ?_; conv => whnf) | (refine ARd.map (by first | omega | (simp only [List.length_map] at *; omega)) ?_; conv => whnf) | (refine VReq.mk (by first | decide | omega) ?_; conv => whnf) | (refine AEq.mk (by kernel_rfl) rfl rfl ?_; conv => whnf) | (refine VReq.mk (app_ok (by (try simp only [List.length_map, List.length_append, List.length_cons, List.length_nil, List.length_take, List.length_drop, List.length_set, List.length_replicate] at *); omega) (by kernel_rfl)) ?_; conv => whnf)))
      refine aback (k + 1) [(8, .lab 8)] [] rfl (by show r.slots.length - (k + 1) < r.slots.length - k; omega) hlt ?_ (by repeat' (first | rfl | trivial | apply And.intro))
      rw [mrgL_no _ _ _ _ hlt hd0, mrgE_no _ _ _ _ hd0]
      repeat' (first | rfl | trivial | apply And.intro)
      exact heldM_yes hh
  · have : k = r.slots.length := by simp [mrgL_len] at hge; omega
    subst this
    conv => whnf
    exact aret [6, 3, 8] (by repeat' (first | rfl | trivial | apply And.intro))

set_option maxHeartbeats 4000000 in
set_option maxRecDepth 100000 in
theorem merge2A (r : Rg) (a b : ByteArray) (now : Int) (ha : strOK a.size) (hb : strOK b.size) (hS : RegS r) (hln : r.slots.length ≤ 1000000 ∧ r.links.length ≤ 1000000) :
    AFn Tryd.prog GS 35 [rgA r, sv a, sv b, iv now] 0 [] (Is (mrgV (mrgR (readyE (valid2B r) r now) (keyB a && keyB b) r a b now (d2 r a b)))) := by
  refine afn_of Tryd.func35 rfl mixed (by kernel_rfl) ?_
  conv => whnf
  (refine acall [] (by kernel_rfl) (ready2A r now hS hln) rfl ?_ ?_; (focus (repeat' (first | rfl | trivial | apply And.intro))))
  have hgd : readyE (valid2B r) r now = 0 → Good r ∧ r.now ≤ now ∧ now ≤ 1099511627776 := ready_good (valid2_iff r).1
  generalize readyE (valid2B r) r now = e at hgd ⊢
  conv => whnf
  unfold mrgR
  refine vif_split (fun he => ?_) (fun he => ?_)
  · conv => whnf
    have he : e ≠ 0 := by simpa using he
    rw [if_pos he]
    exact aret [] (by repeat' (first | rfl | trivial | apply And.intro))
  have he : e = 0 := by simpa using he
  subst he
  obtain ⟨g, hn1, hn2⟩ := hgd rfl
  have hg0 := g.now
  have hgl := g.len
  rw [if_neg (by simp)]
  conv => whnf
  (refine acall [] (by kernel_rfl) (key2A a ha) rfl ?_ ?_; (focus (repeat' (first | rfl | trivial | apply And.intro))))
  cases hk : keyB a <;> conv => whnf
  · exact aret [] (by repeat' (first | rfl | trivial | apply And.intro))
  (refine acall [] (by kernel_rfl) (key2A b hb) rfl ?_ ?_; (focus (repeat' (first | rfl | trivial | apply And.intro))))
  cases hk2 : keyB b <;> conv => whnf
  · exact aret [] (by repeat' (first | rfl | trivial | apply And.intro))
  (refine vif_split (fun h => ?_) (fun h => ?_) <;> (try simp only [sEqD, cond_true, cond_false, Bool.not_eq_true', Bool.not_eq_false', decide_eq_true_eq, decide_eq_false_iff_not, beq_iff_eq, bne_iff_ne, beq_eq_false_iff_ne, bne_eq_false_iff_eq, ne_eq, Bool.not_eq_eq_eq_not, Bool.not_true, Bool.not_false, Bool.false_eq_true, Bool.true_eq_false, Decidable.not_not, gt_iff_lt, ge_iff_le, Int.not_lt, Int.not_le] at h) <;> (conv => whnf))
  · rw [if_pos h]
    exact aret [] (by repeat' (first | rfl | trivial | apply And.intro))
  rw [if_neg h]
  (refine acallF [] (by kernel_rfl) (freshA r now hln) ?_ ?_; (focus (repeat' (first | rfl | trivial | apply And.intro))))
  rintro _ _ _ ⟨rfl, rfl, rfl⟩
  conv => whnf
  (refine acall [] (by kernel_rfl) (same2A r.links a b hln.2) rfl ?_ ?_; (focus (repeat' (first | rfl | trivial | apply And.intro))))
  conv => whnf
  (refine vif_split (fun h => ?_) (fun h => ?_) <;> (try simp only [sEqD, cond_true, cond_false, Bool.not_eq_true', Bool.not_eq_false', decide_eq_true_eq, decide_eq_false_iff_not, beq_iff_eq, bne_iff_ne, beq_eq_false_iff_ne, bne_eq_false_iff_eq, ne_eq, Bool.not_eq_eq_eq_not, Bool.not_true, Bool.not_false, Bool.false_eq_true, Bool.true_eq_false, Decidable.not_not, gt_iff_lt, ge_iff_le, Int.not_lt, Int.not_le] at h) <;> (conv => whnf))
  · rw [if_pos (by assumption)]
    exact aret [2, 3] (by repeat' (first | rfl | trivial | apply And.intro))
  rw [if_neg (by assumption)]
  (refine vif_split (fun h => ?_) (fun h => ?_) <;> (try simp only [sEqD, cond_true, cond_false, Bool.not_eq_true', Bool.not_eq_false', decide_eq_true_eq, decide_eq_false_iff_not, beq_iff_eq, bne_iff_ne, beq_eq_false_iff_ne, bne_eq_false_iff_eq, ne_eq, Bool.not_eq_eq_eq_not, Bool.not_true, Bool.not_false, Bool.false_eq_true, Bool.true_eq_false, Decidable.not_not, gt_iff_lt, ge_iff_le, Int.not_lt, Int.not_le] at h) <;> (conv => whnf))
  · rw [if_pos (by (try simp only [List.length_map, List.length_append, List.length_cons, List.length_nil, List.length_take, List.length_drop, List.length_set, List.length_replicate] at *); omega)]
    exact aret [] (by repeat' (first | rfl | trivial | apply And.intro))
  rw [if_neg (by (try simp only [List.length_map, List.length_append, List.length_cons, List.length_nil, List.length_take, List.length_drop, List.length_set, List.length_replicate] at *); omega)]
  (repeat' (first | (refine And.intro ?_ ?_ <;> (conv => whnf)) | (refine vif_split (fun h => ?_) (fun h => ?_) <;> (try simp only [sEqD, cond_true, cond_false, Bool.not_eq_true', Bool.not_eq_false', decide_eq_true_eq, decide_eq_false_iff_not, beq_iff_eq, bne_iff_ne, beq_eq_false_iff_ne, bne_eq_false_iff_eq, ne_eq, Bool.not_eq_eq_eq_not, Bool.not_true, Bool.not_false, Bool.false_eq_true, Bool.true_eq_false, Decidable.not_not, gt_iff_lt, ge_iff_le, Int.not_lt, Int.not_le] at h) <;> (conv => whnf)) | (refine AAr.i64 (by first | omega | ((try simp only [List.length_map] at *); omega)) ?_; conv => whnf) | (refine AIn.mk' _ rfl (by first | omega | (simp only [List.length_map, List.length_append, List.length_cons, List.length_nil, List.length_take, List.length_drop, List.length_set, List.length_replicate]; omega) | (simp only [List.length_map, List.length_append, List.length_cons, List.length_nil, List.length_take, List.length_drop, List.length_set, List.length_replicate] at *; omega)) ?_; conv => whnf) | (refine ARd.mapAt (by assumption) ?_; conv => whnf) | (refine ARd.set (by (try simp only [List.length_map, List.length_append, List.length_cons, List.length_nil, List.length_take, List.length_drop, List.length_set, List.length_replicate] at *); omega) ?_; conv => whnf) | (refine ARd.map (by first | omega | (simp only [List.length_map] at *; omega)) ?_; conv => whnf) | (refine VReq.mk (by first | decide | omega) ?_; conv => whnf) | (refine AEq.mk (by kernel_rfl) rfl rfl ?_; conv => whnf) | (refine VReq.mk (app_ok (by (try simp only [List.length_map, List.length_append, List.length_cons, List.length_nil, List.length_take, List.length_drop, List.length_set, List.length_replicate] at *); omega) (by kernel_rfl)) ?_; conv => whnf)))
  have hlm : List.map lkF r.links ++ [lkF ⟨a, b, now⟩] = List.map lkF (r.links ++ [⟨a, b, now⟩]) := by rw [List.map_append]; rfl
  obtain ⟨ls, hls⟩ : ∃ ls, ls = r.links ++ [⟨a, b, now⟩] := ⟨_, rfl⟩
  rw [← hls] at hlm ⊢
  clear hls
  refine aloop ws35_1 8 [14, 13] (fun k : Nat => [(14, iv k), (13, .own 7)])
    (fun k => [(0, .var 27 [iv r.now, lksA r.links, slsA r.slots]), (1, .var 27 [iv 0, .v (.slice none 0 0), .v (.slice none 0 0)]), (3, .rows 43 7 ((mrgL (d2 r a b) now r.slots k).map slF)), (4, .var 27 [iv now, .own 6, .own 3]), (6, .rows 40 3 (ls.map lkF)), (7, .rows 43 7 ((mrgE (d2 r a b) now r.slots k).map slF))])
    (fun k => k ≤ r.slots.length) (fun k => r.slots.length - k) [(7, .nil)] [] 0 (by kernel_rfl) (fun _ => rfl) rfl (Nat.zero_le _) ?_ (by repeat' (first | rfl | trivial | apply And.intro)) ?_
  · repeat' (first | rfl | trivial | apply And.intro)
    rw [mrgL_0]
  rintro k hk
  conv => whnf
  refine vif_split (fun hlt => ?_) (fun hge => ?_)
  · have hlt : k < r.slots.length := by simpa using hlt
    have hget := mrgL_at (d2 r a b) now r.slots k hlt
    have hlen := mrgL_len (d2 r a b) now r.slots k
    have hel := mrgE_len (d2 r a b) now r.slots k
    have hd := d2_at (r := r) (a := a) (b := b) hlt
    conv => whnf
    (repeat' (first | (refine And.intro ?_ ?_ <;> (conv => whnf)) | (refine vif_split (fun h => ?_) (fun h => ?_) <;> (try simp only [sEqD, cond_true, cond_false, Bool.not_eq_true', Bool.not_eq_false', decide_eq_true_eq, decide_eq_false_iff_not, beq_iff_eq, bne_iff_ne, beq_eq_false_iff_ne, bne_eq_false_iff_eq, ne_eq, Bool.not_eq_eq_eq_not, Bool.not_true, Bool.not_false, Bool.false_eq_true, Bool.true_eq_false, Decidable.not_not, gt_iff_lt, ge_iff_le, Int.not_lt, Int.not_le] at h) <;> (conv => whnf)) | (refine AAr.i64 (by first | omega | ((try simp only [List.length_map] at *); omega)) ?_; conv => whnf) | (refine AIn.mk' _ rfl (by first | omega | (simp only [List.length_map, List.length_append, List.length_cons, List.length_nil, List.length_take, List.length_drop, List.length_set, List.length_replicate]; omega) | (simp only [List.length_map, List.length_append, List.length_cons, List.length_nil, List.length_take, List.length_drop, List.length_set, List.length_replicate] at *; omega)) ?_; conv => whnf) | (refine ARd.mapAt (by assumption) ?_; conv => whnf) | (refine ARd.set (by (try simp only [List.length_map, List.length_append, List.length_cons, List.length_nil, List.length_take, List.length_drop, List.length_set, List.length_replicate] at *); omega) ?_; conv => whnf) | (refine ARd.map (by first | omega | (simp only [List.length_map] at *; omega)) ?_; conv => whnf) | (refine VReq.mk (by first | decide | omega) ?_; conv => whnf) | (refine AEq.mk (by kernel_rfl) rfl rfl ?_; conv => whnf) | (refine VReq.mk (app_ok (by (try simp only [List.length_map, List.length_append, List.length_cons, List.length_nil, List.length_take, List.length_drop, List.length_set, List.length_replicate] at *); omega) (by kernel_rfl)) ?_; conv => whnf)))
    · have hd0 : d2 r a b k = false := by rw [hd]; simp [*]
      refine aback (k + 1) [(7, .lab 7)] [] rfl (by show r.slots.length - (k + 1) < r.slots.length - k; omega) hlt ?_ (by repeat' (first | rfl | trivial | apply And.intro))
      rw [mrgL_no _ _ _ _ hlt hd0, mrgE_no _ _ _ _ hd0]
      repeat' (first | rfl | trivial | apply And.intro)
    (refine acall [] (by kernel_rfl) (same2A r.links r.slots[k].id a hln.2) rfl ?_ ?_; (focus (repeat' (first | rfl | trivial | apply And.intro))))
    conv => whnf
    (refine vif_split (fun h => ?_) (fun h => ?_) <;> (try simp only [sEqD, cond_true, cond_false, Bool.not_eq_true', Bool.not_eq_false', decide_eq_true_eq, decide_eq_false_iff_not, beq_iff_eq, bne_iff_ne, beq_eq_false_iff_ne, bne_eq_false_iff_eq, ne_eq, Bool.not_eq_eq_eq_not, Bool.not_true, Bool.not_false, Bool.false_eq_true, Bool.true_eq_false, Decidable.not_not, gt_iff_lt, ge_iff_le, Int.not_lt, Int.not_le] at h) <;> (conv => whnf))
    · have hO : oth r a b r.slots[k] = curI r b r.slots[k].layer := by unfold oth; rw [if_pos (by assumption)]
      (refine acall [] (by kernel_rfl) (openA r b r.slots[k].layer hln) rfl ?_ ?_; (focus (repeat' (first | rfl | trivial | apply And.intro))))
      conv => whnf
      rcases cur_cases r b r.slots[k].layer with ⟨e1, _⟩ | ⟨i, hi, e1, _⟩
      · have hd0 : d2 r a b k = false := by rw [hd, hO, e1]; simp
        rw [e1]
        conv => whnf
        (refine adraw pln35 [] (by kernel_rfl) ?_; conv => whnf)
        (repeat' (first | (refine And.intro ?_ ?_ <;> (conv => whnf)) | (refine vif_split (fun h => ?_) (fun h => ?_) <;> (try simp only [sEqD, cond_true, cond_false, Bool.not_eq_true', Bool.not_eq_false', decide_eq_true_eq, decide_eq_false_iff_not, beq_iff_eq, bne_iff_ne, beq_eq_false_iff_ne, bne_eq_false_iff_eq, ne_eq, Bool.not_eq_eq_eq_not, Bool.not_true, Bool.not_false, Bool.false_eq_true, Bool.true_eq_false, Decidable.not_not, gt_iff_lt, ge_iff_le, Int.not_lt, Int.not_le] at h) <;> (conv => whnf)) | (refine AAr.i64 (by first | omega | ((try simp only [List.length_map] at *); omega)) ?_; conv => whnf) | (refine AIn.mk' _ rfl (by first | omega | (simp only [List.length_map, List.length_append, List.length_cons, List.length_nil, List.length_take, List.length_drop, List.length_set, List.length_replicate]; omega) | (simp only [List.length_map, List.length_append, List.length_cons, List.length_nil, List.length_take, List.length_drop, List.length_set, List.length_replicate] at *; omega)) ?_; conv => whnf) | (refine ARd.mapAt (by assumption) ?_; conv => whnf) | (refine ARd.set (by (try simp only [List.length_map, List.length_append, List.length_cons, List.length_nil, List.length_take, List.length_drop, List.length_set, List.length_replicate] at *); omega) ?_; conv => whnf) | (refine ARd.map (by first | omega | (simp only [List.length_map] at *; omega)) ?_; conv => whnf) | (refine VReq.mk (by first | decide | omega) ?_; conv => whnf) | (refine AEq.mk (by kernel_rfl) rfl rfl ?_; conv => whnf) | (refine VReq.mk (app_ok (by (try simp only [List.length_map, List.length_append, List.length_cons, List.length_nil, List.length_take, List.length_drop, List.length_set, List.length_replicate] at *); omega) (by kernel_rfl)) ?_; conv => whnf)))
        refine aback (k + 1) [(7, .lab 7)] [] rfl (by show r.slots.length - (k + 1) < r.slots.length - k; omega) hlt ?_ (by repeat' (first | rfl | trivial | apply And.intro))
        rw [mrgL_no _ _ _ _ hlt hd0, mrgE_no _ _ _ _ hd0]
        repeat' (first | rfl | trivial | apply And.intro)
      · have eg : r.slots.getD (i : Int).toNat sl0 = r.slots[i] := by simp [List.getD, List.getElem?_eq_getElem hi]
        rw [hO, e1, eg, decide_eq_true (by omega : (0 : Int) ≤ i)] at hd
        rw [e1]
        conv => whnf
        (refine adraw pln35 [] (by kernel_rfl) ?_; conv => whnf)
        clear eg hO e1
        (repeat' (first | (refine And.intro ?_ ?_ <;> (conv => whnf)) | (refine vif_split (fun h => ?_) (fun h => ?_) <;> (try simp only [sEqD, cond_true, cond_false, Bool.not_eq_true', Bool.not_eq_false', decide_eq_true_eq, decide_eq_false_iff_not, beq_iff_eq, bne_iff_ne, beq_eq_false_iff_ne, bne_eq_false_iff_eq, ne_eq, Bool.not_eq_eq_eq_not, Bool.not_true, Bool.not_false, Bool.false_eq_true, Bool.true_eq_false, Decidable.not_not, gt_iff_lt, ge_iff_le, Int.not_lt, Int.not_le] at h) <;> (conv => whnf)) | (refine AAr.i64 (by first | omega | ((try simp only [List.length_map] at *); omega)) ?_; conv => whnf) | (refine AIn.mk' _ rfl (by first | omega | (simp only [List.length_map, List.length_append, List.length_cons, List.length_nil, List.length_take, List.length_drop, List.length_set, List.length_replicate]; omega) | (simp only [List.length_map, List.length_append, List.length_cons, List.length_nil, List.length_take, List.length_drop, List.length_set, List.length_replicate] at *; omega)) ?_; conv => whnf) | (refine ARd.mapAt (by assumption) ?_; conv => whnf) | (refine ARd.set (by (try simp only [List.length_map, List.length_append, List.length_cons, List.length_nil, List.length_take, List.length_drop, List.length_set, List.length_replicate] at *); omega) ?_; conv => whnf) | (refine ARd.map (by first | omega | (simp only [List.length_map] at *; omega)) ?_; conv => whnf) | (refine VReq.mk (by first | decide | omega) ?_; conv => whnf) | (refine AEq.mk (by kernel_rfl) rfl rfl ?_; conv => whnf) | (refine VReq.mk (app_ok (by (try simp only [List.length_map, List.length_append, List.length_cons, List.length_nil, List.length_take, List.length_drop, List.length_set, List.length_replicate] at *); omega) (by kernel_rfl)) ?_; conv => whnf)))
        · have hd0 : d2 r a b k = false := by rw [hd]; simp [*]
          refine aback (k + 1) [(7, .lab 7)] [] rfl (by show r.slots.length - (k + 1) < r.slots.length - k; omega) hlt ?_ (by repeat' (first | rfl | trivial | apply And.intro))
          rw [mrgL_no _ _ _ _ hlt hd0, mrgE_no _ _ _ _ hd0]
          repeat' (first | rfl | trivial | apply And.intro)
        · have hd0 : d2 r a b k = false := by rw [hd]; simp [*]
          refine aback (k + 1) [(7, .lab 7)] [] rfl (by show r.slots.length - (k + 1) < r.slots.length - k; omega) hlt ?_ (by repeat' (first | rfl | trivial | apply And.intro))
          rw [mrgL_no _ _ _ _ hlt hd0, mrgE_no _ _ _ _ hd0]
          repeat' (first | rfl | trivial | apply And.intro)
        all_goals (have hd0 : d2 r a b k = true := by rw [hd]; simp [*]; first | done | omega)
        all_goals ((refine adraw pln35 [3] (by kernel_rfl) ?_; conv => whnf); (repeat' (first | (refine And.intro ?_ ?_ <;> (conv => whnf)) | (refine vif_split (fun h => ?_) (fun h => ?_) <;> (try simp only [sEqD, cond_true, cond_false, Bool.not_eq_true', Bool.not_eq_false', decide_eq_true_eq, decide_eq_false_iff_not, beq_iff_eq, bne_iff_ne, beq_eq_false_iff_ne, bne_eq_false_iff_eq, ne_eq, Bool.not_eq_eq_eq_not, Bool.not_true, Bool.not_false, Bool.false_eq_true, Bool.true_eq_false, Decidable.not_not, gt_iff_lt, ge_iff_le, Int.not_lt, Int.not_le] at h) <;> (conv => whnf)) | (refine AAr.i64 (by first | omega | ((try simp only [List.length_map] at *); omega)) ?_; conv => whnf) | (refine AIn.mk' _ rfl (by first | omega | (simp only [List.length_map, List.length_append, List.length_cons, List.length_nil, List.length_take, List.length_drop, List.length_set, List.length_replicate]; omega) | (simp only [List.length_map, List.length_append, List.length_cons, List.length_nil, List.length_take, List.length_drop, List.length_set, List.length_replicate] at *; omega)) ?_; conv => whnf) | (refine ARd.mapAt (by assumption) ?_; conv => whnf) | (refine ARd.set (by (try simp only [List.length_map, List.length_append, List.length_cons, List.length_nil, List.length_take, List.length_drop, List.length_set, List.length_replicate] at *); omega) ?_; conv => whnf) | (refine ARd.map (by first | omega | (simp only [List.length_map] at *; omega)) ?_; conv => whnf) | (refine VReq.mk (by first | decide | omega) ?_; conv => whnf) | (refine AEq.mk (by kernel_rfl) rfl rfl ?_; conv => whnf) | (refine VReq.mk (app_ok (by (try simp only [List.length_map, List.length_append, List.length_cons, List.length_nil, List.length_take, List.length_drop, List.length_set, List.length_replicate] at *); omega) (by kernel_rfl)) ?_; conv => whnf))))
        all_goals
          refine aback (k + 1) [(7, .lab 10)] [] rfl (by show r.slots.length - (k + 1) < r.slots.length - k; omega) hlt ?_ (by repeat' (first | rfl | trivial | apply And.intro))
          rw [mrgL_yes _ _ _ _ hlt hd0, mrgE_yes _ _ _ _ hlt hd0]
          repeat' (first | rfl | trivial | apply And.intro)
          · rw [List.map_set, List.set_set]; rfl
          · rw [List.map_append]; rfl
    · (refine acall [] (by kernel_rfl) (same2A r.links r.slots[k].id b hln.2) rfl ?_ ?_; (focus (repeat' (first | rfl | trivial | apply And.intro))))
      conv => whnf
      (refine vif_split (fun h => ?_) (fun h => ?_) <;> (try simp only [sEqD, cond_true, cond_false, Bool.not_eq_true', Bool.not_eq_false', decide_eq_true_eq, decide_eq_false_iff_not, beq_iff_eq, bne_iff_ne, beq_eq_false_iff_ne, bne_eq_false_iff_eq, ne_eq, Bool.not_eq_eq_eq_not, Bool.not_true, Bool.not_false, Bool.false_eq_true, Bool.true_eq_false, Decidable.not_not, gt_iff_lt, ge_iff_le, Int.not_lt, Int.not_le] at h) <;> (conv => whnf))
      · have hO : oth r a b r.slots[k] = curI r a r.slots[k].layer := by unfold oth; rw [if_neg (by assumption), if_pos (by assumption)]
        (refine acall [] (by kernel_rfl) (openA r a r.slots[k].layer hln) rfl ?_ ?_; (focus (repeat' (first | rfl | trivial | apply And.intro))))
        conv => whnf
        rcases cur_cases r a r.slots[k].layer with ⟨e1, _⟩ | ⟨i, hi, e1, _⟩
        · have hd0 : d2 r a b k = false := by rw [hd, hO, e1]; simp
          rw [e1]
          conv => whnf
          (refine adraw pln35 [] (by kernel_rfl) ?_; conv => whnf)
          (repeat' (first | (refine And.intro ?_ ?_ <;> (conv => whnf)) | (refine vif_split (fun h => ?_) (fun h => ?_) <;> (try simp only [sEqD, cond_true, cond_false, Bool.not_eq_true', Bool.not_eq_false', decide_eq_true_eq, decide_eq_false_iff_not, beq_iff_eq, bne_iff_ne, beq_eq_false_iff_ne, bne_eq_false_iff_eq, ne_eq, Bool.not_eq_eq_eq_not, Bool.not_true, Bool.not_false, Bool.false_eq_true, Bool.true_eq_false, Decidable.not_not, gt_iff_lt, ge_iff_le, Int.not_lt, Int.not_le] at h) <;> (conv => whnf)) | (refine AAr.i64 (by first | omega | ((try simp only [List.length_map] at *); omega)) ?_; conv => whnf) | (refine AIn.mk' _ rfl (by first | omega | (simp only [List.length_map, List.length_append, List.length_cons, List.length_nil, List.length_take, List.length_drop, List.length_set, List.length_replicate]; omega) | (simp only [List.length_map, List.length_append, List.length_cons, List.length_nil, List.length_take, List.length_drop, List.length_set, List.length_replicate] at *; omega)) ?_; conv => whnf) | (refine ARd.mapAt (by assumption) ?_; conv => whnf) | (refine ARd.set (by (try simp only [List.length_map, List.length_append, List.length_cons, List.length_nil, List.length_take, List.length_drop, List.length_set, List.length_replicate] at *); omega) ?_; conv => whnf) | (refine ARd.map (by first | omega | (simp only [List.length_map] at *; omega)) ?_; conv => whnf) | (refine VReq.mk (by first | decide | omega) ?_; conv => whnf) | (refine AEq.mk (by kernel_rfl) rfl rfl ?_; conv => whnf) | (refine VReq.mk (app_ok (by (try simp only [List.length_map, List.length_append, List.length_cons, List.length_nil, List.length_take, List.length_drop, List.length_set, List.length_replicate] at *); omega) (by kernel_rfl)) ?_; conv => whnf)))
          refine aback (k + 1) [(7, .lab 7)] [] rfl (by show r.slots.length - (k + 1) < r.slots.length - k; omega) hlt ?_ (by repeat' (first | rfl | trivial | apply And.intro))
          rw [mrgL_no _ _ _ _ hlt hd0, mrgE_no _ _ _ _ hd0]
          repeat' (first | rfl | trivial | apply And.intro)
        · have eg : r.slots.getD (i : Int).toNat sl0 = r.slots[i] := by simp [List.getD, List.getElem?_eq_getElem hi]
          rw [hO, e1, eg, decide_eq_true (by omega : (0 : Int) ≤ i)] at hd
          rw [e1]
          conv => whnf
          (refine adraw pln35 [] (by kernel_rfl) ?_; conv => whnf)
          clear eg hO e1
          (repeat' (first | (refine And.intro ?_ ?_ <;> (conv => whnf)) | (refine vif_split (fun h => ?_) (fun h => ?_) <;> (try simp only [sEqD, cond_true, cond_false, Bool.not_eq_true', Bool.not_eq_false', decide_eq_true_eq, decide_eq_false_iff_not, beq_iff_eq, bne_iff_ne, beq_eq_false_iff_ne, bne_eq_false_iff_eq, ne_eq, Bool.not_eq_eq_eq_not, Bool.not_true, Bool.not_false, Bool.false_eq_true, Bool.true_eq_false, Decidable.not_not, gt_iff_lt, ge_iff_le, Int.not_lt, Int.not_le] at h) <;> (conv => whnf)) | (refine AAr.i64 (by first | omega | ((try simp only [List.length_map] at *); omega)) ?_; conv => whnf) | (refine AIn.mk' _ rfl (by first | omega | (simp only [List.length_map, List.length_append, List.length_cons, List.length_nil, List.length_take, List.length_drop, List.length_set, List.length_replicate]; omega) | (simp only [List.length_map, List.length_append, List.length_cons, List.length_nil, List.length_take, List.length_drop, List.length_set, List.length_replicate] at *; omega)) ?_; conv => whnf) | (refine ARd.mapAt (by assumption) ?_; conv => whnf) | (refine ARd.set (by (try simp only [List.length_map, List.length_append, List.length_cons, List.length_nil, List.length_take, List.length_drop, List.length_set, List.length_replicate] at *); omega) ?_; conv => whnf) | (refine ARd.map (by first | omega | (simp only [List.length_map] at *; omega)) ?_; conv => whnf) | (refine VReq.mk (by first | decide | omega) ?_; conv => whnf) | (refine AEq.mk (by kernel_rfl) rfl rfl ?_; conv => whnf) | (refine VReq.mk (app_ok (by (try simp only [List.length_map, List.length_append, List.length_cons, List.length_nil, List.length_take, List.length_drop, List.length_set, List.length_replicate] at *); omega) (by kernel_rfl)) ?_; conv => whnf)))
          · have hd0 : d2 r a b k = false := by rw [hd]; simp [*]
            refine aback (k + 1) [(7, .lab 7)] [] rfl (by show r.slots.length - (k + 1) < r.slots.length - k; omega) hlt ?_ (by repeat' (first | rfl | trivial | apply And.intro))
            rw [mrgL_no _ _ _ _ hlt hd0, mrgE_no _ _ _ _ hd0]
            repeat' (first | rfl | trivial | apply And.intro)
          · have hd0 : d2 r a b k = false := by rw [hd]; simp [*]
            refine aback (k + 1) [(7, .lab 7)] [] rfl (by show r.slots.length - (k + 1) < r.slots.length - k; omega) hlt ?_ (by repeat' (first | rfl | trivial | apply And.intro))
            rw [mrgL_no _ _ _ _ hlt hd0, mrgE_no _ _ _ _ hd0]
            repeat' (first | rfl | trivial | apply And.intro)
          all_goals (have hd0 : d2 r a b k = true := by rw [hd]; simp [*]; first | done | omega)
          all_goals ((refine adraw pln35 [3] (by kernel_rfl) ?_; conv => whnf); (repeat' (first | (refine And.intro ?_ ?_ <;> (conv => whnf)) | (refine vif_split (fun h => ?_) (fun h => ?_) <;> (try simp only [sEqD, cond_true, cond_false, Bool.not_eq_true', Bool.not_eq_false', decide_eq_true_eq, decide_eq_false_iff_not, beq_iff_eq, bne_iff_ne, beq_eq_false_iff_ne, bne_eq_false_iff_eq, ne_eq, Bool.not_eq_eq_eq_not, Bool.not_true, Bool.not_false, Bool.false_eq_true, Bool.true_eq_false, Decidable.not_not, gt_iff_lt, ge_iff_le, Int.not_lt, Int.not_le] at h) <;> (conv => whnf)) | (refine AAr.i64 (by first | omega | ((try simp only [List.length_map] at *); omega)) ?_; conv => whnf) | (refine AIn.mk' _ rfl (by first | omega | (simp only [List.length_map, List.length_append, List.length_cons, List.length_nil, List.length_take, List.length_drop, List.length_set, List.length_replicate]; omega) | (simp only [List.length_map, List.length_append, List.length_cons, List.length_nil, List.length_take, List.length_drop, List.length_set, List.length_replicate] at *; omega)) ?_; conv => whnf) | (refine ARd.mapAt (by assumption) ?_; conv => whnf) | (refine ARd.set (by (try simp only [List.length_map, List.length_append, List.length_cons, List.length_nil, List.length_take, List.length_drop, List.length_set, List.length_replicate] at *); omega) ?_; conv => whnf) | (refine ARd.map (by first | omega | (simp only [List.length_map] at *; omega)) ?_; conv => whnf) | (refine VReq.mk (by first | decide | omega) ?_; conv => whnf) | (refine AEq.mk (by kernel_rfl) rfl rfl ?_; conv => whnf) | (refine VReq.mk (app_ok (by (try simp only [List.length_map, List.length_append, List.length_cons, List.length_nil, List.length_take, List.length_drop, List.length_set, List.length_replicate] at *); omega) (by kernel_rfl)) ?_; conv => whnf))))
          all_goals
            refine aback (k + 1) [(7, .lab 10)] [] rfl (by show r.slots.length - (k + 1) < r.slots.length - k; omega) hlt ?_ (by repeat' (first | rfl | trivial | apply And.intro))
            rw [mrgL_yes _ _ _ _ hlt hd0, mrgE_yes _ _ _ _ hlt hd0]
            repeat' (first | rfl | trivial | apply And.intro)
            · rw [List.map_set, List.set_set]; rfl
            · rw [List.map_append]; rfl
      · have hO : oth r a b r.slots[k] = -1 := by unfold oth; rw [if_neg (by assumption), if_neg (by assumption)]
        have hd0 : d2 r a b k = false := by rw [hd, hO]; simp
        (refine adraw pln35 [] (by kernel_rfl) ?_; conv => whnf)
        (repeat' (first | (refine And.intro ?_ ?_ <;> (conv => whnf)) | (refine vif_split (fun h => ?_) (fun h => ?_) <;> (try simp only [sEqD, cond_true, cond_false, Bool.not_eq_true', Bool.not_eq_false', decide_eq_true_eq, decide_eq_false_iff_not, beq_iff_eq, bne_iff_ne, beq_eq_false_iff_ne, bne_eq_false_iff_eq, ne_eq, Bool.not_eq_eq_eq_not, Bool.not_true, Bool.not_false, Bool.false_eq_true, Bool.true_eq_false, Decidable.not_not, gt_iff_lt, ge_iff_le, Int.not_lt, Int.not_le] at h) <;> (conv => whnf)) | (refine AAr.i64 (by first | omega | ((try simp only [List.length_map] at *); omega)) ?_; conv => whnf) | (refine AIn.mk' _ rfl (by first | omega | (simp only [List.length_map, List.length_append, List.length_cons, List.length_nil, List.length_take, List.length_drop, List.length_set, List.length_replicate]; omega) | (simp only [List.length_map, List.length_append, List.length_cons, List.length_nil, List.length_take, List.length_drop, List.length_set, List.length_replicate] at *; omega)) ?_; conv => whnf) | (refine ARd.mapAt (by assumption) ?_; conv => whnf) | (refine ARd.set (by (try simp only [List.length_map, List.length_append, List.length_cons, List.length_nil, List.length_take, List.length_drop, List.length_set, List.length_replicate] at *); omega) ?_; conv => whnf) | (refine ARd.map (by first | omega | (simp only [List.length_map] at *; omega)) ?_; conv => whnf) | (refine VReq.mk (by first | decide | omega) ?_; conv => whnf) | (refine AEq.mk (by kernel_rfl) rfl rfl ?_; conv => whnf) | (refine VReq.mk (app_ok (by (try simp only [List.length_map, List.length_append, List.length_cons, List.length_nil, List.length_take, List.length_drop, List.length_set, List.length_replicate] at *); omega) (by kernel_rfl)) ?_; conv => whnf)))
        refine aback (k + 1) [(7, .lab 7)] [] rfl (by show r.slots.length - (k + 1) < r.slots.length - k; omega) hlt ?_ (by repeat' (first | rfl | trivial | apply And.intro))
        rw [mrgL_no _ _ _ _ hlt hd0, mrgE_no _ _ _ _ hd0]
        repeat' (first | rfl | trivial | apply And.intro)
  · have : k = r.slots.length := by simpa using Nat.le_antisymm hk (by simpa using hge)
    subst this
    conv => whnf
    exact aret [6, 3, 7] (by repeat' (first | rfl | trivial | apply And.intro))
end Go.Proofs.YtinpgogjkmmjpaaDoor.Sx
