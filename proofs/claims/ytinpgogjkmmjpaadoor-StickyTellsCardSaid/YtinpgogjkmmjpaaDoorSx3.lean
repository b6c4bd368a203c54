/- The walk of the sticky reference's Valid, and that it says what the program's says. Condition: as Sx1's. -/
import Derived.Test.YtinpgogjkmmjpaaDoorSx2
set_option linter.unusedVariables false
set_option linter.unusedSimpArgs false
namespace Go.Proofs.YtinpgogjkmmjpaaDoor.Sx
open Go Go.RowKit Go.Proofs.YtinpgogjkmmjpaaDoor.Vc Go.Proofs.YtinpgogjkmmjpaaDoor.Ax Go.Proofs.YtinpgogjkmmjpaaDoor.Ky Go.Proofs.YtinpgogjkmmjpaaDoor.Id Go.Proofs.YtinpgogjkmmjpaaDoor.Sp

def link2B (r : Rg) (i : Nat) (k : Lk) : Bool := keyB k.a && keyB k.b && decide (k.a ≠ k.b ∧ 0 ≤ k.t ∧ k.t ≤ r.now ∧ (i = 0 ∨ (r.links[i - 1]?.getD k).t ≤ k.t))
def links2B (r : Rg) (n : Nat) : Bool := (List.range n).all fun i => match r.links[i]? with | some k => link2B r i k | none => true
def slots2B (r : Rg) (n : Nat) : Bool := (List.range n).all fun i => match r.slots[i]? with | some s => slot2B r i s | none => true
def valid2B (r : Rg) : Bool := boundB r && links2B r r.links.length && slots2B r r.slots.length
theorem links2B_succ (r : Rg) (i : Nat) (h : i < r.links.length) : links2B r (i + 1) = (links2B r i && link2B r i r.links[i]) := by
  unfold links2B
  rw [List.range_succ, List.all_append, List.all_cons, List.all_nil, Bool.and_true, List.getElem?_eq_getElem h]
theorem slots2B_succ (r : Rg) (i : Nat) (h : i < r.slots.length) : slots2B r (i + 1) = (slots2B r i && slot2B r i r.slots[i]) := by
  unfold slots2B
  rw [List.range_succ, List.all_append, List.all_cons, List.all_nil, Bool.and_true, List.getElem?_eq_getElem h]
theorem all_stop {f : Nat → Bool} {k n : Nat} (h : k ≤ n) (e : (List.range k).all f = false) : (List.range n).all f = false := by
  rw [List.all_eq_false] at *
  obtain ⟨x, hx, h2⟩ := e
  exact ⟨x, by rw [List.mem_range] at *; omega, h2⟩

set_option maxHeartbeats 4000000 in
set_option maxRecDepth 100000 in
theorem valid2A (r : Rg) (hS : RegS r) (hln : r.slots.length ≤ 1000000 ∧ r.links.length ≤ 1000000) : AFn Tryd.prog GS 21 [rgA r] 0 [] (Is (bv (valid2B r))) := by
  refine afn_of Tryd.func21 rfl mixed (by kernel_rfl) ?_
  have hV : valid2B r = (boundB r && links2B r r.links.length && slots2B r r.slots.length) := rfl
  have hb : boundB r = decide (0 ≤ r.now ∧ r.now ≤ 1099511627776 ∧ r.links.length ≤ 64 ∧ r.slots.length ≤ 128) := rfl
  conv => whnf
  (repeat' (first | (refine And.intro ?_ ?_ <;> (conv => whnf)) | (refine vif_split (fun h => ?_) (fun h => ?_) <;> (try simp only [sEqD, cond_true, cond_false, Bool.not_eq_true', Bool.not_eq_false', decide_eq_true_eq, decide_eq_false_iff_not, beq_iff_eq, bne_iff_ne, beq_eq_false_iff_ne, bne_eq_false_iff_eq, ne_eq, Bool.not_eq_eq_eq_not, Bool.not_true, Bool.not_false, Bool.false_eq_true, Bool.true_eq_false, Decidable.not_not, gt_iff_lt, ge_iff_le, Int.not_lt, Int.not_le] at h) <;> (conv => whnf)) | (refine AAr.i64 (by first | omega | ((try simp only [List.length_map] at *); omega)) ?_; conv => whnf) | (refine AIn.mk' _ rfl (by first | omega | (simp only [List.length_map, List.length_append, List.length_cons, List.length_nil, List.length_take, List.length_drop, List.length_set, List.length_replicate]; omega) | (simp only [List.length_map, List.length_append, List.length_cons, List.length_nil, List.length_take, List.length_drop, List.length_set, List.length_replicate] at *; omega)) ?_; conv => whnf) | (refine ARd.mapAt (by assumption) ?_; conv => whnf) | (refine ARd.set (by (try simp only [List.length_map, List.length_append, List.length_cons, List.length_nil, List.length_take, List.length_drop, List.length_set, List.length_replicate] at *); omega) ?_; conv => whnf) | (refine ARd.map (by first | omega | (simp only [List.length_map] at *; omega)) ?_; conv => whnf) | (refine VReq.mk (by first | decide | omega) ?_; conv => whnf) | (refine AEq.mk (by kernel_rfl) rfl rfl ?_; conv => whnf) | (refine VReq.mk (app_ok (by (try simp only [List.length_map, List.length_append, List.length_cons, List.length_nil, List.length_take, List.length_drop, List.length_set, List.length_replicate] at *); omega) (by kernel_rfl)) ?_; conv => whnf)))
  all_goals try ((refine aret [] ?_; refine congrArg Value.bool ?_); rw [hV, hb, decide_eq_false (by (try simp only [List.length_map, List.length_append, List.length_cons, List.length_nil, List.length_take, List.length_drop, List.length_set, List.length_replicate] at *); omega)]; rfl)
  have hbt : boundB r = true := by rw [hb]; exact decide_eq_true (by (try simp only [List.length_map, List.length_append, List.length_cons, List.length_nil, List.length_take, List.length_drop, List.length_set, List.length_replicate] at *); omega)
  clear hb
  refine aloopH ws21_1 [3] (fun k : Nat => [(3, iv k)]) (fun k => k ≤ r.links.length ∧ links2B r k = true) (fun k => r.links.length - k) 0 (by kernel_rfl) (fun _ => rfl) (by kernel_rfl) ⟨Nat.zero_le _, rfl⟩ (by repeat' (first | rfl | trivial | apply And.intro)) (by repeat' (first | rfl | trivial | apply And.intro)) ?_
  rintro i ⟨hi, hal⟩
  conv => whnf
  refine vif_split (fun hlt => ?_) (fun hge => ?_)
  · have hlt : i < r.links.length := by simpa using hlt
    have hz := hS.l r.links[i] (List.getElem_mem hlt)
    have hsu := links2B_succ r i hlt
    obtain ⟨k, hk⟩ : ∃ k, k = r.links[i] := ⟨_, rfl⟩
    rw [← hk] at hz hsu
    have hL : link2B r i k = (keyB k.a && keyB k.b && decide (k.a ≠ k.b ∧ 0 ≤ k.t ∧ k.t ≤ r.now ∧ (i = 0 ∨ r.links[i - 1].t ≤ k.t))) := by
      unfold link2B
      rw [List.getElem?_eq_getElem (by omega)]; rfl
    have no : link2B r i k = false → false = valid2B r := fun h => by
      rw [hV, show links2B r r.links.length = false from all_stop hlt (show links2B r (i + 1) = false by rw [hsu, h, Bool.and_false]), Bool.and_false]; rfl
    conv => whnf
    (repeat (first | (refine AAr.i64 (by omega) ?_; conv => whnf) | (refine AIn.mk' _ rfl (by simp only [List.length_map, List.length_append, List.length_cons, List.length_nil, List.length_take, List.length_drop]; omega) ?_; conv => whnf) | (refine ARd.map (by omega) ?_; conv => whnf) | (refine VReq.mk (by first | decide | omega) ?_; conv => whnf) | (refine AEq.mk rfl rfl rfl ?_; conv => whnf)))
    rw [← hk]
    (refine adraw pln21 [] (by kernel_rfl) ?_; conv => whnf)
    (refine acall [] (by kernel_rfl) (key2A k.a hz.1) rfl ?_ ?_; (focus (repeat' (first | rfl | trivial | apply And.intro))))
    cases h1 : keyB k.a <;> rw [h1] at hL <;> conv => whnf
    · (refine aret [] ?_; refine congrArg Value.bool ?_); exact no (by rw [hL]; rfl)
    (refine acall [] (by kernel_rfl) (key2A k.b hz.2) rfl ?_ ?_; (focus (repeat' (first | rfl | trivial | apply And.intro))))
    cases h2 : keyB k.b <;> rw [h2] at hL <;> conv => whnf
    · (refine aret [] ?_; refine congrArg Value.bool ?_); exact no (by rw [hL]; rfl)
    clear hV hk
    have bad : ¬ (k.a ≠ k.b ∧ 0 ≤ k.t ∧ k.t ≤ r.now ∧ (i = 0 ∨ r.links[i - 1].t ≤ k.t)) → false = valid2B r := fun h => no (by rw [hL, decide_eq_false h]; rfl)
    have good : (k.a ≠ k.b ∧ 0 ≤ k.t ∧ k.t ≤ r.now ∧ (i = 0 ∨ r.links[i - 1].t ≤ k.t)) → i + 1 ≤ r.links.length ∧ links2B r (i + 1) = true := fun h => ⟨hlt, by rw [hsu, hal, hL, decide_eq_true h]; rfl⟩
    clear no hL hsu hal hz
    (repeat' (first | (refine And.intro ?_ ?_ <;> (conv => whnf)) | (refine vif_split (fun h => ?_) (fun h => ?_) <;> (try simp only [sEqD, cond_true, cond_false, Bool.not_eq_true', Bool.not_eq_false', decide_eq_true_eq, decide_eq_false_iff_not, beq_iff_eq, bne_iff_ne, beq_eq_false_iff_ne, bne_eq_false_iff_eq, ne_eq, Bool.not_eq_eq_eq_not, Bool.not_true, Bool.not_false, Bool.false_eq_true, Bool.true_eq_false, Decidable.not_not, gt_iff_lt, ge_iff_le, Int.not_lt, Int.not_le] at h) <;> (conv => whnf)) | (refine AAr.i64 (by first | omega | ((try simp only [List.length_map] at *); omega)) ?_; conv => whnf) | (refine AIn.mk' _ rfl (by first | omega | (simp only [List.length_map, List.length_append, List.length_cons, List.length_nil, List.length_take, List.length_drop, List.length_set, List.length_replicate]; omega) | (simp only [List.length_map, List.length_append, List.length_cons, List.length_nil, List.length_take, List.length_drop, List.length_set, List.length_replicate] at *; omega)) ?_; conv => whnf) | (refine ARd.mapAt (by assumption) ?_; conv => whnf) | (refine ARd.set (by (try simp only [List.length_map, List.length_append, List.length_cons, List.length_nil, List.length_take, List.length_drop, List.length_set, List.length_replicate] at *); omega) ?_; conv => whnf) | (refine ARd.map (by first | omega | (simp only [List.length_map] at *; omega)) ?_; conv => whnf) | (refine VReq.mk (by first | decide | omega) ?_; conv => whnf) | (refine AEq.mk (by kernel_rfl) rfl rfl ?_; conv => whnf) | (refine VReq.mk (app_ok (by (try simp only [List.length_map, List.length_append, List.length_cons, List.length_nil, List.length_take, List.length_drop, List.length_set, List.length_replicate] at *); omega) (by kernel_rfl)) ?_; conv => whnf)))
    all_goals try (refine AIn.mk' (i - 1) (by omega) (by (try simp only [List.length_map, List.length_append, List.length_cons, List.length_nil, List.length_take, List.length_drop, List.length_set, List.length_replicate] at *); omega) ?_; (conv => whnf); (repeat' (first | (refine And.intro ?_ ?_ <;> (conv => whnf)) | (refine vif_split (fun h => ?_) (fun h => ?_) <;> (try simp only [sEqD, cond_true, cond_false, Bool.not_eq_true', Bool.not_eq_false', decide_eq_true_eq, decide_eq_false_iff_not, beq_iff_eq, bne_iff_ne, beq_eq_false_iff_ne, bne_eq_false_iff_eq, ne_eq, Bool.not_eq_eq_eq_not, Bool.not_true, Bool.not_false, Bool.false_eq_true, Bool.true_eq_false, Decidable.not_not, gt_iff_lt, ge_iff_le, Int.not_lt, Int.not_le] at h) <;> (conv => whnf)) | (refine AAr.i64 (by first | omega | ((try simp only [List.length_map] at *); omega)) ?_; conv => whnf) | (refine AIn.mk' _ rfl (by first | omega | (simp only [List.length_map, List.length_append, List.length_cons, List.length_nil, List.length_take, List.length_drop, List.length_set, List.length_replicate]; omega) | (simp only [List.length_map, List.length_append, List.length_cons, List.length_nil, List.length_take, List.length_drop, List.length_set, List.length_replicate] at *; omega)) ?_; conv => whnf) | (refine ARd.mapAt (by assumption) ?_; conv => whnf) | (refine ARd.set (by (try simp only [List.length_map, List.length_append, List.length_cons, List.length_nil, List.length_take, List.length_drop, List.length_set, List.length_replicate] at *); omega) ?_; conv => whnf) | (refine ARd.map (by first | omega | (simp only [List.length_map] at *; omega)) ?_; conv => whnf) | (refine VReq.mk (by first | decide | omega) ?_; conv => whnf) | (refine AEq.mk (by kernel_rfl) rfl rfl ?_; conv => whnf) | (refine VReq.mk (app_ok (by (try simp only [List.length_map, List.length_append, List.length_cons, List.length_nil, List.length_take, List.length_drop, List.length_set, List.length_replicate] at *); omega) (by kernel_rfl)) ?_; conv => whnf))))
    all_goals first
      | ((refine aret [] ?_; refine congrArg Value.bool ?_); exact bad (fun ⟨_, _, _, _⟩ => by omega))
      | ((refine aret [] ?_; refine congrArg Value.bool ?_); exact bad (fun ⟨h1, _⟩ => h1 (by assumption)))
      | ((refine aback (i + 1) [] [] ?_ ?_ ?_ ?_ ?_; (focus rfl); rotate_left 2; (focus (repeat' (first | rfl | trivial | apply And.intro))); (focus (repeat' (first | rfl | trivial | apply And.intro))))
         · show r.links.length - (i + 1) < r.links.length - i; omega
         · exact good ⟨by assumption, by omega, by omega, by omega⟩)
  · have hi : i = r.links.length := by simp at hge; omega
    subst hi
    conv => whnf
    refine aloopH ws21_2 [5] (fun k : Nat => [(5, iv k)]) (fun k => k ≤ r.slots.length ∧ slots2B r k = true) (fun k => r.slots.length - k) 0 (by kernel_rfl) (fun _ => rfl) (by kernel_rfl) ⟨Nat.zero_le _, rfl⟩ (by repeat' (first | rfl | trivial | apply And.intro)) (by repeat' (first | rfl | trivial | apply And.intro)) ?_
    rintro k ⟨hk, hsl⟩
    conv => whnf
    refine vif_split (fun hlt => ?_) (fun hge => ?_)
    · have hlt : k < r.slots.length := by simpa using hlt
      have hsu := slots2B_succ r k hlt
      conv => whnf
      (refine acall [] (by kernel_rfl) (slot2A r k hlt hS hln) rfl ?_ ?_; (focus (repeat' (first | rfl | trivial | apply And.intro))))
      cases h1 : slot2B r k r.slots[k] <;> rw [h1] at hsu <;> conv => whnf
      · (refine aret [] ?_; refine congrArg Value.bool ?_)
        rw [hV, show slots2B r r.slots.length = false from all_stop hlt (show slots2B r (k + 1) = false by rw [hsu, Bool.and_false]), Bool.and_false]
      · (repeat' (first | (refine And.intro ?_ ?_ <;> (conv => whnf)) | (refine vif_split (fun h => ?_) (fun h => ?_) <;> (try simp only [sEqD, cond_true, cond_false, Bool.not_eq_true', Bool.not_eq_false', decide_eq_true_eq, decide_eq_false_iff_not, beq_iff_eq, bne_iff_ne, beq_eq_false_iff_ne, bne_eq_false_iff_eq, ne_eq, Bool.not_eq_eq_eq_not, Bool.not_true, Bool.not_false, Bool.false_eq_true, Bool.true_eq_false, Decidable.not_not, gt_iff_lt, ge_iff_le, Int.not_lt, Int.not_le] at h) <;> (conv => whnf)) | (refine AAr.i64 (by first | omega | ((try simp only [List.length_map] at *); omega)) ?_; conv => whnf) | (refine AIn.mk' _ rfl (by first | omega | (simp only [List.length_map, List.length_append, List.length_cons, List.length_nil, List.length_take, List.length_drop, List.length_set, List.length_replicate]; omega) | (simp only [List.length_map, List.length_append, List.length_cons, List.length_nil, List.length_take, List.length_drop, List.length_set, List.length_replicate] at *; omega)) ?_; conv => whnf) | (refine ARd.mapAt (by assumption) ?_; conv => whnf) | (refine ARd.set (by (try simp only [List.length_map, List.length_append, List.length_cons, List.length_nil, List.length_take, List.length_drop, List.length_set, List.length_replicate] at *); omega) ?_; conv => whnf) | (refine ARd.map (by first | omega | (simp only [List.length_map] at *; omega)) ?_; conv => whnf) | (refine VReq.mk (by first | decide | omega) ?_; conv => whnf) | (refine AEq.mk (by kernel_rfl) rfl rfl ?_; conv => whnf) | (refine VReq.mk (app_ok (by (try simp only [List.length_map, List.length_append, List.length_cons, List.length_nil, List.length_take, List.length_drop, List.length_set, List.length_replicate] at *); omega) (by kernel_rfl)) ?_; conv => whnf)))
        (refine aback (k + 1) [] [] ?_ ?_ ?_ ?_ ?_; (focus rfl); rotate_left 2; (focus (repeat' (first | rfl | trivial | apply And.intro))); (focus (repeat' (first | rfl | trivial | apply And.intro))))
        · show r.slots.length - (k + 1) < r.slots.length - k; omega
        · exact ⟨hlt, by rw [hsu, hsl]; rfl⟩
    · have hk : k = r.slots.length := by simp at hge; omega
      subst hk
      conv => whnf
      (refine aret [] ?_; refine congrArg Value.bool ?_)
      rw [hV, hbt, hal, hsl]; rfl
end Go.Proofs.YtinpgogjkmmjpaaDoor.Sx
