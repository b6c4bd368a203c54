/- The walks of Stop. Condition: as Sx1's. -/
import Derived.Test.YtinpgogjkmmjpaaDoorSx6
set_option linter.unusedVariables false
set_option linter.unusedSimpArgs false
namespace Go.Proofs.YtinpgogjkmmjpaaDoor.Sx
open Go Go.RowKit Go.Proofs.YtinpgogjkmmjpaaDoor.Vc Go.Proofs.YtinpgogjkmmjpaaDoor.Ax Go.Proofs.YtinpgogjkmmjpaaDoor.Ky Go.Proofs.YtinpgogjkmmjpaaDoor.Id Go.Proofs.YtinpgogjkmmjpaaDoor.Sp

def rg0 : Rg := ⟨0, [], []⟩
def stp (x : ByteArray) (now : Int) (s : Sl) : Sl := if s.fin = 0 ∧ s.exp = x then { s with to_ := now, fin := 1 } else s
def stpN (x : ByteArray) (l : List Sl) : Nat := l.countP fun s => decide (s.fin = 0 ∧ s.exp = x)
def stopR (e : Int) (kb : Bool) (r : Rg) (x : ByteArray) (now : Int) : Rg × Int × Int :=
  if e ≠ 0 then (rg0, 0, e) else bif kb then (⟨now, r.links, r.slots.map (stp x now)⟩, stpN x r.slots, 0) else (rg0, 0, 6)
def stopV (t : Rg × Int × Int) : AV := .tup [rgA t.1, iv t.2.1, iv t.2.2]
def stopA (e : Int) (kb : Bool) (r : Rg) (x : ByteArray) (now : Int) : AV := stopV (stopR e kb r x now)
/-- the slots behind k rounds -/
def stpL (x : ByteArray) (now : Int) (l : List Sl) (k : Nat) : List Sl := (l.take k).map (stp x now) ++ l.drop k
theorem stpL_len (x : ByteArray) (now : Int) (l : List Sl) (k : Nat) (h : k ≤ l.length) : (stpL x now l k).length = l.length := by unfold stpL; simp; omega
theorem stpL_get (x : ByteArray) (now : Int) (l : List Sl) (k : Nat) (h : k < l.length) : (stpL x now l k)[k]? = some l[k] := by
  unfold stpL
  rw [List.getElem?_append_right (by simp; omega)]
  have e : ((l.take k).map (stp x now)).length = k := by simp; omega
  rw [e, Nat.sub_self, List.getElem?_drop, Nat.add_zero, List.getElem?_eq_getElem h]
theorem stpL_set (x : ByteArray) (now : Int) (l : List Sl) (k : Nat) (h : k < l.length) : (stpL x now l k).set k (stp x now l[k]) = stpL x now l (k + 1) := by
  unfold stpL
  have e : ((l.take k).map (stp x now)).length = k := by simp; omega
  rw [List.set_append_right _ _ (by omega), e, Nat.sub_self]
  have e1 : (l.take (k + 1)).map (stp x now) = (l.take k).map (stp x now) ++ [stp x now l[k]] := by rw [List.take_succ_eq_append_getElem h, List.map_append]; rfl
  rw [e1, List.append_assoc]
  congr 1
  have e2 : l.drop k = l[k] :: l.drop (k + 1) := List.drop_eq_getElem_cons h
  rw [e2]; rfl
theorem stpL_end (x : ByteArray) (now : Int) (l : List Sl) : stpL x now l l.length = l.map (stp x now) := by unfold stpL; simp
theorem stpN_succ (x : ByteArray) (l : List Sl) (k : Nat) (h : k < l.length) : stpN x (l.take (k + 1)) = stpN x (l.take k) + if l[k].fin = 0 ∧ l[k].exp = x then 1 else 0 := by
  unfold stpN
  rw [List.take_succ_eq_append_getElem h, List.countP_append, List.countP_cons, List.countP_nil]
  by_cases hc : l[k].fin = 0 ∧ l[k].exp = x <;> simp [hc]
set_option maxHeartbeats 4000000 in
set_option maxRecDepth 100000 in
theorem stop1A (r : Rg) (x : ByteArray) (now : Int) (hx : strOK x.size) (hS : RegS r) (hln : r.slots.length ≤ 1000000 ∧ r.links.length ≤ 1000000) : AFn Tryd.prog GS 36 [rgA r, sv x, iv now] 0 [] (Is (stopA (readyE (validB r) r now) (keyB x) r x now)) := by
  refine afn_of Tryd.func36 rfl mixed (by kernel_rfl) ?_
  conv => whnf
  (refine acall [] (by kernel_rfl) (ready1A r now hS hln) rfl ?_ ?_; (focus (repeat' (first | rfl | trivial | apply And.intro))))
  generalize readyE (validB r) r now = e
  conv => whnf
  refine vif_split (fun he => ?_) (fun he => ?_)
  · conv => whnf
    refine aret [] ?_
    have he : e ≠ 0 := by simpa using he
    unfold stopA stopR
    rw [if_pos he]
    exact (by repeat' (first | rfl | trivial | apply And.intro))
  have he : e = 0 := by simpa using he
  subst he
  conv => whnf
  (refine acall [] (by kernel_rfl) (key1A x hx) rfl ?_ ?_; (focus (repeat' (first | rfl | trivial | apply And.intro))))
  unfold stopA stopR
  rw [if_neg (by simp)]
  cases hk : keyB x <;> conv => whnf
  · exact aret [] (by repeat' (first | rfl | trivial | apply And.intro))
  (refine acallF [] (by kernel_rfl) (copiedA r now hln) ?_ ?_; (focus (repeat' (first | rfl | trivial | apply And.intro))))
  rintro _ _ _ ⟨rfl, rfl, rfl⟩
  conv => whnf
  refine aloopS ws36_1 [11, 31] (fun k : Nat => [(11, iv (stpN x (r.slots.take k))), (31, iv k)]) 3 (fun k => .rows 43 7 ((stpL x now r.slots k).map slF)) (fun k => k ≤ r.slots.length) (fun k => r.slots.length - k) 0 (by kernel_rfl) (fun _ => rfl) (by kernel_rfl) (Nat.zero_le _) (by repeat' (first | rfl | trivial | apply And.intro)) (by repeat' (first | rfl | trivial | apply And.intro)) ?_
  rintro k hk
  have hsl := stpL_len x now r.slots k hk
  have hcn : stpN x (r.slots.take k) ≤ r.slots.length := by
    have := List.countP_le_length (p := fun s : Sl => decide (s.fin = 0 ∧ s.exp = x)) (l := r.slots.take k)
    unfold stpN; rw [List.length_take] at this; omega
  conv => whnf
  refine vif_split (fun hlt => ?_) (fun hge => ?_)
  · have hlt : k < r.slots.length := by simp at hlt; omega
    conv => whnf
    have hget := stpL_get x now r.slots k hlt
    have hsu := stpN_succ x r.slots k hlt
    have hst := stpL_set x now r.slots k hlt
    have yes : r.slots[k].fin = 0 ∧ r.slots[k].exp = x → stpN x (r.slots.take (k + 1)) = stpN x (r.slots.take k) + 1 ∧ slF (stp x now r.slots[k]) = [.v (.string r.slots[k].id), .v (.string r.slots[k].layer), .v (.string r.slots[k].exp), .v (.int .i64 r.slots[k].arm), .v (.int .i64 r.slots[k].from_), .v (.int .i64 now), .v (.int .i64 1)] := fun h => ⟨by rw [hsu, if_pos h], by unfold stp; rw [if_pos h]; rfl⟩
    have no : ¬ (r.slots[k].fin = 0 ∧ r.slots[k].exp = x) → stpN x (r.slots.take (k + 1)) = stpN x (r.slots.take k) ∧ stpL x now r.slots (k + 1) = stpL x now r.slots k := fun h => by
      refine ⟨by rw [hsu, if_neg h]; rfl, ?_⟩
      rw [← hst]
      have e : stp x now r.slots[k] = r.slots[k] := by unfold stp; rw [if_neg h]
      rw [e]
      exact List.ext_getElem? fun j => by
        rw [List.getElem?_set]
        split
        · rename_i ej; subst ej; rw [hget]; split <;> first | rfl | (rename_i hh; exact absurd (by omega) hh)
        · rfl
    clear hsu
    (repeat' (first | (refine And.intro ?_ ?_ <;> (conv => whnf)) | (refine vif_split (fun h => ?_) (fun h => ?_) <;> (try simp only [sEqD, cond_true, cond_false, Bool.not_eq_true', Bool.not_eq_false', decide_eq_true_eq, decide_eq_false_iff_not, beq_iff_eq, bne_iff_ne, beq_eq_false_iff_ne, bne_eq_false_iff_eq, ne_eq, Bool.not_eq_eq_eq_not, Bool.not_true, Bool.not_false, Bool.false_eq_true, Bool.true_eq_false, Decidable.not_not, gt_iff_lt, ge_iff_le, Int.not_lt, Int.not_le] at h) <;> (conv => whnf)) | (refine AAr.i64 (by first | omega | ((try simp only [List.length_map] at *); omega)) ?_; conv => whnf) | (refine AIn.mk' _ rfl (by first | omega | (simp only [List.length_map, List.length_append, List.length_cons, List.length_nil, List.length_take, List.length_drop, List.length_set, List.length_replicate]; omega) | (simp only [List.length_map, List.length_append, List.length_cons, List.length_nil, List.length_take, List.length_drop, List.length_set, List.length_replicate] at *; omega)) ?_; conv => whnf) | (refine ARd.mapAt (by assumption) ?_; conv => whnf) | (refine ARd.set (by (try simp only [List.length_map, List.length_append, List.length_cons, List.length_nil, List.length_take, List.length_drop, List.length_set, List.length_replicate] at *); omega) ?_; conv => whnf) | (refine ARd.map (by first | omega | (simp only [List.length_map] at *; omega)) ?_; conv => whnf) | (refine VReq.mk (by first | decide | omega) ?_; conv => whnf) | (refine AEq.mk (by kernel_rfl) rfl rfl ?_; conv => whnf) | (refine VReq.mk (app_ok (by (try simp only [List.length_map, List.length_append, List.length_cons, List.length_nil, List.length_take, List.length_drop, List.length_set, List.length_replicate] at *); omega) (by kernel_rfl)) ?_; conv => whnf)))
    all_goals try ((refine adraw pln36 [3] (by kernel_rfl) ?_; conv => whnf); (repeat' (first | (refine And.intro ?_ ?_ <;> (conv => whnf)) | (refine vif_split (fun h => ?_) (fun h => ?_) <;> (try simp only [sEqD, cond_true, cond_false, Bool.not_eq_true', Bool.not_eq_false', decide_eq_true_eq, decide_eq_false_iff_not, beq_iff_eq, bne_iff_ne, beq_eq_false_iff_ne, bne_eq_false_iff_eq, ne_eq, Bool.not_eq_eq_eq_not, Bool.not_true, Bool.not_false, Bool.false_eq_true, Bool.true_eq_false, Decidable.not_not, gt_iff_lt, ge_iff_le, Int.not_lt, Int.not_le] at h) <;> (conv => whnf)) | (refine AAr.i64 (by first | omega | ((try simp only [List.length_map] at *); omega)) ?_; conv => whnf) | (refine AIn.mk' _ rfl (by first | omega | (simp only [List.length_map, List.length_append, List.length_cons, List.length_nil, List.length_take, List.length_drop, List.length_set, List.length_replicate]; omega) | (simp only [List.length_map, List.length_append, List.length_cons, List.length_nil, List.length_take, List.length_drop, List.length_set, List.length_replicate] at *; omega)) ?_; conv => whnf) | (refine ARd.mapAt (by assumption) ?_; conv => whnf) | (refine ARd.set (by (try simp only [List.length_map, List.length_append, List.length_cons, List.length_nil, List.length_take, List.length_drop, List.length_set, List.length_replicate] at *); omega) ?_; conv => whnf) | (refine ARd.map (by first | omega | (simp only [List.length_map] at *; omega)) ?_; conv => whnf) | (refine VReq.mk (by first | decide | omega) ?_; conv => whnf) | (refine AEq.mk (by kernel_rfl) rfl rfl ?_; conv => whnf) | (refine VReq.mk (app_ok (by (try simp only [List.length_map, List.length_append, List.length_cons, List.length_nil, List.length_take, List.length_drop, List.length_set, List.length_replicate] at *); omega) (by kernel_rfl)) ?_; conv => whnf))))
    · obtain ⟨e1, e2⟩ := yes ⟨by assumption, by assumption⟩
      refine aback (k + 1) [] [] ?_ ?_ hlt ?_ ?_
      · rfl
      · show r.slots.length - (k + 1) < r.slots.length - k; omega
      · repeat' (first | rfl | trivial | apply And.intro)
        rw [← hst, List.map_set, e2, List.set_set]
      · repeat' (first | rfl | trivial | apply And.intro)
        rw [e1]; rfl
    · obtain ⟨e1, e2⟩ := no (fun h' => h h'.2)
      refine aback (k + 1) [] [] ?_ ?_ hlt ?_ ?_
      · rfl
      · show r.slots.length - (k + 1) < r.slots.length - k; omega
      · repeat' (first | rfl | trivial | apply And.intro)
        rw [e2]
      · repeat' (first | rfl | trivial | apply And.intro)
        rw [e1]; rfl
    · obtain ⟨e1, e2⟩ := no (fun h' => h h'.1)
      refine aback (k + 1) [] [] ?_ ?_ hlt ?_ ?_
      · rfl
      · show r.slots.length - (k + 1) < r.slots.length - k; omega
      · repeat' (first | rfl | trivial | apply And.intro)
        rw [e2]
      · repeat' (first | rfl | trivial | apply And.intro)
        rw [e1]; rfl
  · have : k = r.slots.length := by simp at hge; omega
    subst this
    conv => whnf
    rw [stpL_end, List.take_length]
    exact aret [2, 3] (by repeat' (first | rfl | trivial | apply And.intro))
set_option maxHeartbeats 4000000 in
set_option maxRecDepth 100000 in
theorem stop2A (r : Rg) (x : ByteArray) (now : Int) (hx : strOK x.size) (hS : RegS r) (hln : r.slots.length ≤ 1000000 ∧ r.links.length ≤ 1000000) : AFn Tryd.prog GS 37 [rgA r, sv x, iv now] 0 [] (Is (stopA (readyE (valid2B r) r now) (keyB x) r x now)) := by
  refine afn_of Tryd.func37 rfl mixed (by kernel_rfl) ?_
  conv => whnf
  (refine acall [] (by kernel_rfl) (ready2A r now hS hln) rfl ?_ ?_; (focus (repeat' (first | rfl | trivial | apply And.intro))))
  generalize readyE (valid2B r) r now = e
  conv => whnf
  refine vif_split (fun he => ?_) (fun he => ?_)
  · conv => whnf
    refine aret [] ?_
    have he : e ≠ 0 := by simpa using he
    unfold stopA stopR
    rw [if_pos he]
    exact (by repeat' (first | rfl | trivial | apply And.intro))
  have he : e = 0 := by simpa using he
  subst he
  conv => whnf
  (refine acall [] (by kernel_rfl) (key2A x hx) rfl ?_ ?_; (focus (repeat' (first | rfl | trivial | apply And.intro))))
  unfold stopA stopR
  rw [if_neg (by simp)]
  cases hk : keyB x <;> conv => whnf
  · exact aret [] (by repeat' (first | rfl | trivial | apply And.intro))
  (refine acallF [] (by kernel_rfl) (freshA r now hln) ?_ ?_; (focus (repeat' (first | rfl | trivial | apply And.intro))))
  rintro _ _ _ ⟨rfl, rfl, rfl⟩
  conv => whnf
  refine aloopS ws37_1 [11, 12] (fun k : Nat => [(11, iv (stpN x (r.slots.take k))), (12, iv k)]) 3 (fun k => .rows 43 7 ((stpL x now r.slots k).map slF)) (fun k => k ≤ r.slots.length) (fun k => r.slots.length - k) 0 (by kernel_rfl) (fun _ => rfl) (by kernel_rfl) (Nat.zero_le _) (by repeat' (first | rfl | trivial | apply And.intro)) (by repeat' (first | rfl | trivial | apply And.intro)) ?_
  rintro k hk
  have hsl := stpL_len x now r.slots k hk
  have hcn : stpN x (r.slots.take k) ≤ r.slots.length := by
    have := List.countP_le_length (p := fun s : Sl => decide (s.fin = 0 ∧ s.exp = x)) (l := r.slots.take k)
    unfold stpN; rw [List.length_take] at this; omega
  conv => whnf
  refine vif_split (fun hlt => ?_) (fun hge => ?_)
  · have hlt : k < r.slots.length := by simp at hlt; omega
    conv => whnf
    have hget := stpL_get x now r.slots k hlt
    have hsu := stpN_succ x r.slots k hlt
    have hst := stpL_set x now r.slots k hlt
    have yes : r.slots[k].fin = 0 ∧ r.slots[k].exp = x → stpN x (r.slots.take (k + 1)) = stpN x (r.slots.take k) + 1 ∧ slF (stp x now r.slots[k]) = [.v (.string r.slots[k].id), .v (.string r.slots[k].layer), .v (.string r.slots[k].exp), .v (.int .i64 r.slots[k].arm), .v (.int .i64 r.slots[k].from_), .v (.int .i64 now), .v (.int .i64 1)] := fun h => ⟨by rw [hsu, if_pos h], by unfold stp; rw [if_pos h]; rfl⟩
    have no : ¬ (r.slots[k].fin = 0 ∧ r.slots[k].exp = x) → stpN x (r.slots.take (k + 1)) = stpN x (r.slots.take k) ∧ stpL x now r.slots (k + 1) = stpL x now r.slots k := fun h => by
      refine ⟨by rw [hsu, if_neg h]; rfl, ?_⟩
      rw [← hst]
      have e : stp x now r.slots[k] = r.slots[k] := by unfold stp; rw [if_neg h]
      rw [e]
      exact List.ext_getElem? fun j => by
        rw [List.getElem?_set]
        split
        · rename_i ej; subst ej; rw [hget]; split <;> first | rfl | (rename_i hh; exact absurd (by omega) hh)
        · rfl
    clear hsu
    (repeat' (first | (refine And.intro ?_ ?_ <;> (conv => whnf)) | (refine vif_split (fun h => ?_) (fun h => ?_) <;> (try simp only [sEqD, cond_true, cond_false, Bool.not_eq_true', Bool.not_eq_false', decide_eq_true_eq, decide_eq_false_iff_not, beq_iff_eq, bne_iff_ne, beq_eq_false_iff_ne, bne_eq_false_iff_eq, ne_eq, Bool.not_eq_eq_eq_not, Bool.not_true, Bool.not_false, Bool.false_eq_true, Bool.true_eq_false, Decidable.not_not, gt_iff_lt, ge_iff_le, Int.not_lt, Int.not_le] at h) <;> (conv => whnf)) | (refine AAr.i64 (by first | omega | ((try simp only [List.length_map] at *); omega)) ?_; conv => whnf) | (refine AIn.mk' _ rfl (by first | omega | (simp only [List.length_map, List.length_append, List.length_cons, List.length_nil, List.length_take, List.length_drop, List.length_set, List.length_replicate]; omega) | (simp only [List.length_map, List.length_append, List.length_cons, List.length_nil, List.length_take, List.length_drop, List.length_set, List.length_replicate] at *; omega)) ?_; conv => whnf) | (refine ARd.mapAt (by assumption) ?_; conv => whnf) | (refine ARd.set (by (try simp only [List.length_map, List.length_append, List.length_cons, List.length_nil, List.length_take, List.length_drop, List.length_set, List.length_replicate] at *); omega) ?_; conv => whnf) | (refine ARd.map (by first | omega | (simp only [List.length_map] at *; omega)) ?_; conv => whnf) | (refine VReq.mk (by first | decide | omega) ?_; conv => whnf) | (refine AEq.mk (by kernel_rfl) rfl rfl ?_; conv => whnf) | (refine VReq.mk (app_ok (by (try simp only [List.length_map, List.length_append, List.length_cons, List.length_nil, List.length_take, List.length_drop, List.length_set, List.length_replicate] at *); omega) (by kernel_rfl)) ?_; conv => whnf)))
    all_goals try ((refine adraw pln37 [3] (by kernel_rfl) ?_; conv => whnf); (repeat' (first | (refine And.intro ?_ ?_ <;> (conv => whnf)) | (refine vif_split (fun h => ?_) (fun h => ?_) <;> (try simp only [sEqD, cond_true, cond_false, Bool.not_eq_true', Bool.not_eq_false', decide_eq_true_eq, decide_eq_false_iff_not, beq_iff_eq, bne_iff_ne, beq_eq_false_iff_ne, bne_eq_false_iff_eq, ne_eq, Bool.not_eq_eq_eq_not, Bool.not_true, Bool.not_false, Bool.false_eq_true, Bool.true_eq_false, Decidable.not_not, gt_iff_lt, ge_iff_le, Int.not_lt, Int.not_le] at h) <;> (conv => whnf)) | (refine AAr.i64 (by first | omega | ((try simp only [List.length_map] at *); omega)) ?_; conv => whnf) | (refine AIn.mk' _ rfl (by first | omega | (simp only [List.length_map, List.length_append, List.length_cons, List.length_nil, List.length_take, List.length_drop, List.length_set, List.length_replicate]; omega) | (simp only [List.length_map, List.length_append, List.length_cons, List.length_nil, List.length_take, List.length_drop, List.length_set, List.length_replicate] at *; omega)) ?_; conv => whnf) | (refine ARd.mapAt (by assumption) ?_; conv => whnf) | (refine ARd.set (by (try simp only [List.length_map, List.length_append, List.length_cons, List.length_nil, List.length_take, List.length_drop, List.length_set, List.length_replicate] at *); omega) ?_; conv => whnf) | (refine ARd.map (by first | omega | (simp only [List.length_map] at *; omega)) ?_; conv => whnf) | (refine VReq.mk (by first | decide | omega) ?_; conv => whnf) | (refine AEq.mk (by kernel_rfl) rfl rfl ?_; conv => whnf) | (refine VReq.mk (app_ok (by (try simp only [List.length_map, List.length_append, List.length_cons, List.length_nil, List.length_take, List.length_drop, List.length_set, List.length_replicate] at *); omega) (by kernel_rfl)) ?_; conv => whnf))))
    · obtain ⟨e1, e2⟩ := yes ⟨by assumption, by assumption⟩
      refine aback (k + 1) [] [] ?_ ?_ hlt ?_ ?_
      · rfl
      · show r.slots.length - (k + 1) < r.slots.length - k; omega
      · repeat' (first | rfl | trivial | apply And.intro)
        rw [← hst, List.map_set, e2, List.set_set]
      · repeat' (first | rfl | trivial | apply And.intro)
        rw [e1]; rfl
    · obtain ⟨e1, e2⟩ := no (fun h' => h h'.2)
      refine aback (k + 1) [] [] ?_ ?_ hlt ?_ ?_
      · rfl
      · show r.slots.length - (k + 1) < r.slots.length - k; omega
      · repeat' (first | rfl | trivial | apply And.intro)
        rw [e2]
      · repeat' (first | rfl | trivial | apply And.intro)
        rw [e1]; rfl
    · obtain ⟨e1, e2⟩ := no (fun h' => h h'.1)
      refine aback (k + 1) [] [] ?_ ?_ hlt ?_ ?_
      · rfl
      · show r.slots.length - (k + 1) < r.slots.length - k; omega
      · repeat' (first | rfl | trivial | apply And.intro)
        rw [e2]
      · repeat' (first | rfl | trivial | apply And.intro)
        rw [e1]; rfl
  · have : k = r.slots.length := by simp at hge; omega
    subst this
    conv => whnf
    rw [stpL_end, List.take_length]
    exact aret [2, 3] (by repeat' (first | rfl | trivial | apply And.intro))
end Go.Proofs.YtinpgogjkmmjpaaDoor.Sx
