/- The walks of the sticky reference's slot and Valid, of begin and ready. Condition: as Sx1's. -/
import Derived.Test.YtinpgogjkmmjpaaDoorSx1
set_option linter.unusedVariables false
set_option linter.unusedSimpArgs false
namespace Go.Proofs.YtinpgogjkmmjpaaDoor.Sx
open Go Go.RowKit Go.Proofs.YtinpgogjkmmjpaaDoor.Vc Go.Proofs.YtinpgogjkmmjpaaDoor.Ax Go.Proofs.YtinpgogjkmmjpaaDoor.Ky Go.Proofs.YtinpgogjkmmjpaaDoor.Id Go.Proofs.YtinpgogjkmmjpaaDoor.Sp


/-- no earlier open slot of the layer in the component, among the first n -/
def aloneB (links : List Lk) (s : Sl) (l : List Sl) : Bool := l.all fun t => !(decide (s.fin = 0) && decide (t.fin = 0) && decide (s.layer = t.layer) && decide (rt links s.id = rt links t.id))
def prevB (l : List Sl) (i : Nat) (s : Sl) : Bool := decide (i = 0) || (match l[i - 1]? with | some t => decide (t.from_ ≤ s.from_) | none => true)
def slot2B (r : Rg) (i : Nat) (s : Sl) : Bool := slotB r.now s && prevB r.slots i s && aloneB r.links s (r.slots.take i)

set_option maxHeartbeats 4000000 in
set_option maxRecDepth 100000 in
theorem slot2A (r : Rg) (i : Nat) (hi : i < r.slots.length) (hS : RegS r) (hln : r.slots.length ≤ 1000000 ∧ r.links.length ≤ 1000000) :
    AFn Tryd.prog GS 47 [rgA r, iv i] 0 [] (Is (bv (slot2B r i r.slots[i]))) := by
  have hsz := hS.s r.slots[i] (List.getElem_mem hi)
  obtain ⟨s, hss⟩ : ∃ s, s = r.slots[i] := ⟨_, rfl⟩
  rw [← hss] at hsz
  refine afn_of Tryd.func47 rfl mixed (by kernel_rfl) ?_
  rw [← hss]
  have hB : slot2B r i s = (keyB s.id && keyB s.layer && keyB s.exp && decide (slotA r.now s) && prevB r.slots i s && aloneB r.links s (r.slots.take i)) := rfl
  conv => whnf
  (repeat (first | (refine AAr.i64 (by omega) ?_; conv => whnf) | (refine AIn.mk' _ rfl (by simp only [List.length_map, List.length_append, List.length_cons, List.length_nil, List.length_take, List.length_drop]; omega) ?_; conv => whnf) | (refine ARd.map (by omega) ?_; conv => whnf) | (refine VReq.mk (by first | decide | omega) ?_; conv => whnf) | (refine AEq.mk rfl rfl rfl ?_; conv => whnf)))
  rw [← hss]
  (refine adraw pln47 [] (by kernel_rfl) ?_; conv => whnf)
  (refine acall [] (by kernel_rfl) (key2A s.id hsz.1) rfl ?_ ?_; (focus (repeat' (first | rfl | trivial | apply And.intro))))
  cases h1 : keyB s.id <;> rw [h1] at hB <;> conv => whnf
  · (refine aret [] ?_; refine congrArg Value.bool ?_); rw [hB]; rfl
  (refine acall [] (by kernel_rfl) (key2A s.layer hsz.2.1) rfl ?_ ?_; (focus (repeat' (first | rfl | trivial | apply And.intro))))
  cases h2 : keyB s.layer <;> rw [h2] at hB <;> conv => whnf
  · (refine aret [] ?_; refine congrArg Value.bool ?_); rw [hB]; rfl
  (refine acall [] (by kernel_rfl) (key2A s.exp hsz.2.2) rfl ?_ ?_; (focus (repeat' (first | rfl | trivial | apply And.intro))))
  cases h3 : keyB s.exp <;> rw [h3] at hB <;> conv => whnf
  · (refine aret [] ?_; refine congrArg Value.bool ?_); rw [hB]; rfl
  have hsA : slotA r.now s ↔ 1 ≤ s.arm ∧ s.arm ≤ 8 ∧ 0 ≤ s.from_ ∧ s.from_ ≤ r.now ∧ ((s.fin = 0 ∧ s.to_ = 0) ∨ ((s.fin = 1 ∨ s.fin = 2) ∧ s.from_ ≤ s.to_ ∧ s.to_ ≤ r.now)) := Iff.rfl
  have hpv : prevB r.slots i s = (decide (i = 0) || decide (r.slots[i - 1].from_ ≤ s.from_)) := by
    unfold prevB
    rw [List.getElem?_eq_getElem (by omega)]
  have no : ¬ (slotA r.now s ∧ (i = 0 ∨ r.slots[i - 1].from_ ≤ s.from_)) → slot2B r i s = false := fun h => by
    rw [hB, hpv]
    cases ha : decide (slotA r.now s) with
    | false => rfl
    | true =>
      have h2 : ¬ (i = 0 ∨ r.slots[i - 1].from_ ≤ s.from_) := fun h3 => h ⟨of_decide_eq_true ha, h3⟩
      have e1 : decide (i = 0) = false := decide_eq_false fun e => h2 (.inl e)
      have e2 : decide (r.slots[i - 1].from_ ≤ s.from_) = false := decide_eq_false fun e => h2 (.inr e)
      rw [e1, e2]; rfl
  have yes : slotA r.now s ∧ (i = 0 ∨ r.slots[i - 1].from_ ≤ s.from_) → slot2B r i s = aloneB r.links s (r.slots.take i) := fun ⟨h, h2⟩ => by
    rw [hB, hpv, decide_eq_true h]
    rcases h2 with h2 | h2
    · rw [decide_eq_true h2]; rfl
    · rw [decide_eq_true h2, Bool.or_true]; rfl
  have step : ∀ k (hk : k < r.slots.length), aloneB r.links s (r.slots.take (k + 1)) = (aloneB r.links s (r.slots.take k) && !(decide (s.fin = 0) && decide (r.slots[k].fin = 0) && decide (s.layer = r.slots[k].layer) && decide (rt r.links s.id = rt r.links r.slots[k].id))) := fun k hk => by
    unfold aloneB
    rw [List.take_succ_eq_append_getElem hk, List.all_append]
    simp only [List.all_cons, List.all_nil, Bool.and_true]
  have stop : ∀ k, k ≤ i → aloneB r.links s (r.slots.take k) = false → aloneB r.links s (r.slots.take i) = false := fun k hk h => by
    unfold aloneB at *
    rw [List.all_eq_false] at *
    obtain ⟨t, ht, h⟩ := h
    exact ⟨t, List.mem_of_mem_take (by rw [List.take_take, Nat.min_eq_left hk]; exact ht), h⟩
  clear hB hpv hss
  (repeat' (first | (refine And.intro ?_ ?_ <;> (conv => whnf)) | (refine vif_split (fun h => ?_) (fun h => ?_) <;> (try simp only [sEqD, cond_true, cond_false, Bool.not_eq_true', Bool.not_eq_false', decide_eq_true_eq, decide_eq_false_iff_not, beq_iff_eq, bne_iff_ne, beq_eq_false_iff_ne, bne_eq_false_iff_eq, ne_eq, Bool.not_eq_eq_eq_not, Bool.not_true, Bool.not_false, Bool.false_eq_true, Bool.true_eq_false, Decidable.not_not, gt_iff_lt, ge_iff_le, Int.not_lt, Int.not_le] at h) <;> (conv => whnf)) | (refine AAr.i64 (by first | omega | ((try simp only [List.length_map] at *); omega)) ?_; conv => whnf) | (refine AIn.mk' _ rfl (by first | omega | (simp only [List.length_map, List.length_append, List.length_cons, List.length_nil, List.length_take, List.length_drop, List.length_set, List.length_replicate]; omega) | (simp only [List.length_map, List.length_append, List.length_cons, List.length_nil, List.length_take, List.length_drop, List.length_set, List.length_replicate] at *; omega)) ?_; conv => whnf) | (refine ARd.mapAt (by assumption) ?_; conv => whnf) | (refine ARd.set (by (try simp only [List.length_map, List.length_append, List.length_cons, List.length_nil, List.length_take, List.length_drop, List.length_set, List.length_replicate] at *); omega) ?_; conv => whnf) | (refine ARd.map (by first | omega | (simp only [List.length_map] at *; omega)) ?_; conv => whnf) | (refine VReq.mk (by first | decide | omega) ?_; conv => whnf) | (refine AEq.mk (by kernel_rfl) rfl rfl ?_; conv => whnf) | (refine VReq.mk (app_ok (by (try simp only [List.length_map, List.length_append, List.length_cons, List.length_nil, List.length_take, List.length_drop, List.length_set, List.length_replicate] at *); omega) (by kernel_rfl)) ?_; conv => whnf)))
  case refine_2.refine_2.refine_2.refine_2.refine_1 =>
    refine AIn.mk' (i - 1) (by omega) (by simp only [List.length_map]; omega) ?_
    conv => whnf
    (repeat' (first | (refine And.intro ?_ ?_ <;> (conv => whnf)) | (refine vif_split (fun h => ?_) (fun h => ?_) <;> (try simp only [sEqD, cond_true, cond_false, Bool.not_eq_true', Bool.not_eq_false', decide_eq_true_eq, decide_eq_false_iff_not, beq_iff_eq, bne_iff_ne, beq_eq_false_iff_ne, bne_eq_false_iff_eq, ne_eq, Bool.not_eq_eq_eq_not, Bool.not_true, Bool.not_false, Bool.false_eq_true, Bool.true_eq_false, Decidable.not_not, gt_iff_lt, ge_iff_le, Int.not_lt, Int.not_le] at h) <;> (conv => whnf)) | (refine AAr.i64 (by first | omega | ((try simp only [List.length_map] at *); omega)) ?_; conv => whnf) | (refine AIn.mk' _ rfl (by first | omega | (simp only [List.length_map, List.length_append, List.length_cons, List.length_nil, List.length_take, List.length_drop, List.length_set, List.length_replicate]; omega) | (simp only [List.length_map, List.length_append, List.length_cons, List.length_nil, List.length_take, List.length_drop, List.length_set, List.length_replicate] at *; omega)) ?_; conv => whnf) | (refine ARd.mapAt (by assumption) ?_; conv => whnf) | (refine ARd.set (by (try simp only [List.length_map, List.length_append, List.length_cons, List.length_nil, List.length_take, List.length_drop, List.length_set, List.length_replicate] at *); omega) ?_; conv => whnf) | (refine ARd.map (by first | omega | (simp only [List.length_map] at *; omega)) ?_; conv => whnf) | (refine VReq.mk (by first | decide | omega) ?_; conv => whnf) | (refine AEq.mk (by kernel_rfl) rfl rfl ?_; conv => whnf) | (refine VReq.mk (app_ok (by (try simp only [List.length_map, List.length_append, List.length_cons, List.length_nil, List.length_take, List.length_drop, List.length_set, List.length_replicate] at *); omega) (by kernel_rfl)) ?_; conv => whnf)))
    all_goals try ((refine aret [] ?_; refine congrArg Value.bool ?_); rw [no (by rw [hsA]; omega)]; done)
    all_goals
      have hyes := yes (by rw [hsA]; omega)
      refine aloopH ws47_1 [6] (fun k : Nat => [(6, iv k)]) (fun k => k ≤ i ∧ aloneB r.links s (r.slots.take k) = true) (fun k => i - k) 0 (by kernel_rfl) (fun _ => rfl) (by kernel_rfl) ⟨Nat.zero_le _, rfl⟩ (by repeat' (first | rfl | trivial | apply And.intro)) (by repeat' (first | rfl | trivial | apply And.intro)) ?_
      rintro k ⟨hk, hal⟩
      have hks := hsz
      conv => whnf
      refine vif_split (fun hlt => ?_) (fun hge => ?_)
      · have hlt : k < i := by simpa using hlt
        have nxt : ∀ b : Bool, b = !(decide (s.fin = 0) && decide (r.slots[k].fin = 0) && decide (s.layer = r.slots[k].layer) && decide (rt r.links s.id = rt r.links r.slots[k].id)) → b = true → k + 1 ≤ i ∧ aloneB r.links s (r.slots.take (k + 1)) = true := fun b e hb => ⟨by omega, by rw [step k (by omega), hal, ← e, hb]; rfl⟩
        conv => whnf
        (repeat' (first | (refine And.intro ?_ ?_ <;> (conv => whnf)) | (refine vif_split (fun h => ?_) (fun h => ?_) <;> (try simp only [sEqD, cond_true, cond_false, Bool.not_eq_true', Bool.not_eq_false', decide_eq_true_eq, decide_eq_false_iff_not, beq_iff_eq, bne_iff_ne, beq_eq_false_iff_ne, bne_eq_false_iff_eq, ne_eq, Bool.not_eq_eq_eq_not, Bool.not_true, Bool.not_false, Bool.false_eq_true, Bool.true_eq_false, Decidable.not_not, gt_iff_lt, ge_iff_le, Int.not_lt, Int.not_le] at h) <;> (conv => whnf)) | (refine AAr.i64 (by first | omega | ((try simp only [List.length_map] at *); omega)) ?_; conv => whnf) | (refine AIn.mk' _ rfl (by first | omega | (simp only [List.length_map, List.length_append, List.length_cons, List.length_nil, List.length_take, List.length_drop, List.length_set, List.length_replicate]; omega) | (simp only [List.length_map, List.length_append, List.length_cons, List.length_nil, List.length_take, List.length_drop, List.length_set, List.length_replicate] at *; omega)) ?_; conv => whnf) | (refine ARd.mapAt (by assumption) ?_; conv => whnf) | (refine ARd.set (by (try simp only [List.length_map, List.length_append, List.length_cons, List.length_nil, List.length_take, List.length_drop, List.length_set, List.length_replicate] at *); omega) ?_; conv => whnf) | (refine ARd.map (by first | omega | (simp only [List.length_map] at *; omega)) ?_; conv => whnf) | (refine VReq.mk (by first | decide | omega) ?_; conv => whnf) | (refine AEq.mk (by kernel_rfl) rfl rfl ?_; conv => whnf) | (refine VReq.mk (app_ok (by (try simp only [List.length_map, List.length_append, List.length_cons, List.length_nil, List.length_take, List.length_drop, List.length_set, List.length_replicate] at *); omega) (by kernel_rfl)) ?_; conv => whnf)))
        all_goals try
          ((refine aback (k + 1) [] [] ?_ ?_ ?_ ?_ ?_; (focus rfl); rotate_left 2; (focus (repeat' (first | rfl | trivial | apply And.intro))); (focus (repeat' (first | rfl | trivial | apply And.intro))))
           · show i - (k + 1) < i - k; omega
           · refine nxt _ rfl ?_
             clear nxt step stop no yes hsA hyes
             first | (exfalso; omega) | (simp only [sEq_dec, decide_eq_false_iff_not] at *; simp [*]; done) | (simp [*]; done))
        (refine acall [] (by kernel_rfl) (same2A r.links s.id r.slots[k].id hln.2) rfl ?_ ?_; (focus (repeat' (first | rfl | trivial | apply And.intro))))
        conv => whnf
        (repeat' (first | (refine And.intro ?_ ?_ <;> (conv => whnf)) | (refine vif_split (fun h => ?_) (fun h => ?_) <;> (try simp only [sEqD, cond_true, cond_false, Bool.not_eq_true', Bool.not_eq_false', decide_eq_true_eq, decide_eq_false_iff_not, beq_iff_eq, bne_iff_ne, beq_eq_false_iff_ne, bne_eq_false_iff_eq, ne_eq, Bool.not_eq_eq_eq_not, Bool.not_true, Bool.not_false, Bool.false_eq_true, Bool.true_eq_false, Decidable.not_not, gt_iff_lt, ge_iff_le, Int.not_lt, Int.not_le] at h) <;> (conv => whnf)) | (refine AAr.i64 (by first | omega | ((try simp only [List.length_map] at *); omega)) ?_; conv => whnf) | (refine AIn.mk' _ rfl (by first | omega | (simp only [List.length_map, List.length_append, List.length_cons, List.length_nil, List.length_take, List.length_drop, List.length_set, List.length_replicate]; omega) | (simp only [List.length_map, List.length_append, List.length_cons, List.length_nil, List.length_take, List.length_drop, List.length_set, List.length_replicate] at *; omega)) ?_; conv => whnf) | (refine ARd.mapAt (by assumption) ?_; conv => whnf) | (refine ARd.set (by (try simp only [List.length_map, List.length_append, List.length_cons, List.length_nil, List.length_take, List.length_drop, List.length_set, List.length_replicate] at *); omega) ?_; conv => whnf) | (refine ARd.map (by first | omega | (simp only [List.length_map] at *; omega)) ?_; conv => whnf) | (refine VReq.mk (by first | decide | omega) ?_; conv => whnf) | (refine AEq.mk (by kernel_rfl) rfl rfl ?_; conv => whnf) | (refine VReq.mk (app_ok (by (try simp only [List.length_map, List.length_append, List.length_cons, List.length_nil, List.length_take, List.length_drop, List.length_set, List.length_replicate] at *); omega) (by kernel_rfl)) ?_; conv => whnf)))
        · (refine aret [] ?_; refine congrArg Value.bool ?_)
          rw [hyes, stop (k + 1) (by omega)]
          rw [step k (by omega), hal]
          clear nxt step stop no yes hsA hyes
          first | (exfalso; omega) | (simp only [sEq_dec, decide_eq_true_eq] at *; simp [*])
        · (refine aback (k + 1) [] [] ?_ ?_ ?_ ?_ ?_; (focus rfl); rotate_left 2; (focus (repeat' (first | rfl | trivial | apply And.intro))); (focus (repeat' (first | rfl | trivial | apply And.intro))))
          · show i - (k + 1) < i - k; omega
          · refine nxt _ rfl ?_
            clear nxt step stop no yes hsA hyes
            first | (exfalso; omega) | simp [*]
      · have e : k = i := by simp at hge; omega
        conv => whnf
        (refine aret [] ?_; refine congrArg Value.bool ?_)
        rw [hyes, ← e, hal]
  all_goals try ((refine aret [] ?_; refine congrArg Value.bool ?_); rw [no (by rw [hsA]; omega)]; done)
  all_goals
    have hyes := yes (by rw [hsA]; omega)
    refine aloopH ws47_1 [6] (fun k : Nat => [(6, iv k)]) (fun k => k ≤ i ∧ aloneB r.links s (r.slots.take k) = true) (fun k => i - k) 0 (by kernel_rfl) (fun _ => rfl) (by kernel_rfl) ⟨Nat.zero_le _, rfl⟩ (by repeat' (first | rfl | trivial | apply And.intro)) (by repeat' (first | rfl | trivial | apply And.intro)) ?_
    rintro k ⟨hk, hal⟩
    have hks := hsz
    conv => whnf
    refine vif_split (fun hlt => ?_) (fun hge => ?_)
    · have hlt : k < i := by simpa using hlt
      have nxt : ∀ b : Bool, b = !(decide (s.fin = 0) && decide (r.slots[k].fin = 0) && decide (s.layer = r.slots[k].layer) && decide (rt r.links s.id = rt r.links r.slots[k].id)) → b = true → k + 1 ≤ i ∧ aloneB r.links s (r.slots.take (k + 1)) = true := fun b e hb => ⟨by omega, by rw [step k (by omega), hal, ← e, hb]; rfl⟩
      conv => whnf
      (repeat' (first | (refine And.intro ?_ ?_ <;> (conv => whnf)) | (refine vif_split (fun h => ?_) (fun h => ?_) <;> (try simp only [sEqD, cond_true, cond_false, Bool.not_eq_true', Bool.not_eq_false', decide_eq_true_eq, decide_eq_false_iff_not, beq_iff_eq, bne_iff_ne, beq_eq_false_iff_ne, bne_eq_false_iff_eq, ne_eq, Bool.not_eq_eq_eq_not, Bool.not_true, Bool.not_false, Bool.false_eq_true, Bool.true_eq_false, Decidable.not_not, gt_iff_lt, ge_iff_le, Int.not_lt, Int.not_le] at h) <;> (conv => whnf)) | (refine AAr.i64 (by first | omega | ((try simp only [List.length_map] at *); omega)) ?_; conv => whnf) | (refine AIn.mk' _ rfl (by first | omega | (simp only [List.length_map, List.length_append, List.length_cons, List.length_nil, List.length_take, List.length_drop, List.length_set, List.length_replicate]; omega) | (simp only [List.length_map, List.length_append, List.length_cons, List.length_nil, List.length_take, List.length_drop, List.length_set, List.length_replicate] at *; omega)) ?_; conv => whnf) | (refine ARd.mapAt (by assumption) ?_; conv => whnf) | (refine ARd.set (by (try simp only [List.length_map, List.length_append, List.length_cons, List.length_nil, List.length_take, List.length_drop, List.length_set, List.length_replicate] at *); omega) ?_; conv => whnf) | (refine ARd.map (by first | omega | (simp only [List.length_map] at *; omega)) ?_; conv => whnf) | (refine VReq.mk (by first | decide | omega) ?_; conv => whnf) | (refine AEq.mk (by kernel_rfl) rfl rfl ?_; conv => whnf) | (refine VReq.mk (app_ok (by (try simp only [List.length_map, List.length_append, List.length_cons, List.length_nil, List.length_take, List.length_drop, List.length_set, List.length_replicate] at *); omega) (by kernel_rfl)) ?_; conv => whnf)))
      all_goals try
        ((refine aback (k + 1) [] [] ?_ ?_ ?_ ?_ ?_; (focus rfl); rotate_left 2; (focus (repeat' (first | rfl | trivial | apply And.intro))); (focus (repeat' (first | rfl | trivial | apply And.intro))))
         · show i - (k + 1) < i - k; omega
         · refine nxt _ rfl ?_
           clear nxt step stop no yes hsA hyes
           first | (exfalso; omega) | (simp only [sEq_dec, decide_eq_false_iff_not] at *; simp [*]; done) | (simp [*]; done))
      (refine acall [] (by kernel_rfl) (same2A r.links s.id r.slots[k].id hln.2) rfl ?_ ?_; (focus (repeat' (first | rfl | trivial | apply And.intro))))
      conv => whnf
      (repeat' (first | (refine And.intro ?_ ?_ <;> (conv => whnf)) | (refine vif_split (fun h => ?_) (fun h => ?_) <;> (try simp only [sEqD, cond_true, cond_false, Bool.not_eq_true', Bool.not_eq_false', decide_eq_true_eq, decide_eq_false_iff_not, beq_iff_eq, bne_iff_ne, beq_eq_false_iff_ne, bne_eq_false_iff_eq, ne_eq, Bool.not_eq_eq_eq_not, Bool.not_true, Bool.not_false, Bool.false_eq_true, Bool.true_eq_false, Decidable.not_not, gt_iff_lt, ge_iff_le, Int.not_lt, Int.not_le] at h) <;> (conv => whnf)) | (refine AAr.i64 (by first | omega | ((try simp only [List.length_map] at *); omega)) ?_; conv => whnf) | (refine AIn.mk' _ rfl (by first | omega | (simp only [List.length_map, List.length_append, List.length_cons, List.length_nil, List.length_take, List.length_drop, List.length_set, List.length_replicate]; omega) | (simp only [List.length_map, List.length_append, List.length_cons, List.length_nil, List.length_take, List.length_drop, List.length_set, List.length_replicate] at *; omega)) ?_; conv => whnf) | (refine ARd.mapAt (by assumption) ?_; conv => whnf) | (refine ARd.set (by (try simp only [List.length_map, List.length_append, List.length_cons, List.length_nil, List.length_take, List.length_drop, List.length_set, List.length_replicate] at *); omega) ?_; conv => whnf) | (refine ARd.map (by first | omega | (simp only [List.length_map] at *; omega)) ?_; conv => whnf) | (refine VReq.mk (by first | decide | omega) ?_; conv => whnf) | (refine AEq.mk (by kernel_rfl) rfl rfl ?_; conv => whnf) | (refine VReq.mk (app_ok (by (try simp only [List.length_map, List.length_append, List.length_cons, List.length_nil, List.length_take, List.length_drop, List.length_set, List.length_replicate] at *); omega) (by kernel_rfl)) ?_; conv => whnf)))
      · (refine aret [] ?_; refine congrArg Value.bool ?_)
        rw [hyes, stop (k + 1) (by omega)]
        rw [step k (by omega), hal]
        clear nxt step stop no yes hsA hyes
        first | (exfalso; omega) | (simp only [sEq_dec, decide_eq_true_eq] at *; simp [*])
      · (refine aback (k + 1) [] [] ?_ ?_ ?_ ?_ ?_; (focus rfl); rotate_left 2; (focus (repeat' (first | rfl | trivial | apply And.intro))); (focus (repeat' (first | rfl | trivial | apply And.intro))))
        · show i - (k + 1) < i - k; omega
        · refine nxt _ rfl ?_
          clear nxt step stop no yes hsA hyes
          first | (exfalso; omega) | simp [*]
    · have e : k = i := by simp at hge; omega
      conv => whnf
      (refine aret [] ?_; refine congrArg Value.bool ?_)
      rw [hyes, ← e, hal]
end Go.Proofs.YtinpgogjkmmjpaaDoor.Sx
