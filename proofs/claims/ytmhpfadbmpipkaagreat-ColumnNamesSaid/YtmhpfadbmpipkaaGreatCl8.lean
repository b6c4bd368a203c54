/- The walks of the library functions that the encoders call: Clone, Min, Max, Less, BinarySearch, Len64. Condition: sizes; BinarySearch: a sorted list that has the number. -/
import Derived.Test.YtmhpfadbmpipkaaGreatCl7
set_option linter.unusedVariables false
set_option linter.unusedSimpArgs false
namespace Go.Proofs.YtmhpfadbmpipkaaGreat.Cl
open Go Go.RowKit Go.Proofs Go.Proofs.YtmhpfadbmpipkaaGreat.Vc Go.Proofs.YtmhpfadbmpipkaaGreat.Ax
attribute [local irreducible] loadVar storeVar Instr.indexAt Instr.index Instr.sliceAt Instr.makeSlice Instr.lookup Instr.mapUpdate Instr.range Instr.next Instr.entry Instr.makeMap Builtin.append_ Builtin.copy_ Builtin.len_ Builtin.min_ Builtin.max_ Builtin.cap_ Builtin.delete_ Builtin.clear_ convert binOp eqGuard Op.unary Calls
/-! Min and Max -/
theorem lo_uniq {l : Li} {m : Int} (h1 : m ∈ l) (h2 : ∀ x ∈ l, m ≤ x) : m = lo l := by
  have := lo_le h1
  have := h2 _ this.2
  omega
theorem hi_uniq {l : Li} {m : Int} (h1 : m ∈ l) (h2 : ∀ x ∈ l, x ≤ m) : m = hi l := by
  have := hi_ge h1
  have := h2 _ this.2
  omega
structure KX where
  k : Nat
  m : Int
set_option maxHeartbeats 4000000 in
set_option maxRecDepth 100000 in
theorem minA (l : Li) (hl : l ≠ []) (hs : l.length ≤ 1000000) : AFn Tryz.prog GC 80 [li l] 0 [] (Is (iv (lo l))) := by
  have h0 : 0 < l.length := List.length_pos_iff.2 hl
  have st : ∀ j (hj : j < 1) (hjl : j < l.length), l[j] = l[0] := fun j hj hjl => by
    have : j = 0 := by omega
    subst this; rfl
  refine afn_of Tryz.func80 rfl mixed (by kernel_rfl) ?_
  conv => whnf
  refine vif_split (fun h => ?_) (fun h => ?_)
  · simp at h; omega
  conv => whnf
  (repeat' (first | (refine And.intro ?_ ?_ <;> (conv => whnf)) | (refine vif_split (fun h => ?_) (fun h => ?_) <;> (try simp only [sEqD, cond_true, cond_false, Bool.not_eq_true', Bool.not_eq_false', decide_eq_true_eq, decide_eq_false_iff_not, beq_iff_eq, bne_iff_ne, beq_eq_false_iff_ne, bne_eq_false_iff_eq, ne_eq, Bool.not_eq_eq_eq_not, Bool.not_true, Bool.not_false, Bool.false_eq_true, Bool.true_eq_false, Decidable.not_not, gt_iff_lt, ge_iff_le, Int.not_lt, Int.not_le] at h) <;> (conv => whnf)) | (refine AAr.i64 (by first | omega | ((try simp only [List.length_map] at *); omega)) ?_; conv => whnf) | (refine AIn.mk' _ rfl (by first | omega | (simp only [List.length_map, List.length_append, List.length_cons, List.length_nil, List.length_take, List.length_drop, List.length_set, List.length_replicate]; omega) | (simp only [List.length_map, List.length_append, List.length_cons, List.length_nil, List.length_take, List.length_drop, List.length_set, List.length_replicate] at *; omega)) ?_; conv => whnf) | (refine ARd.mapAt (by assumption) ?_; conv => whnf) | (refine ARd.set (by (try simp only [List.length_map, List.length_append, List.length_cons, List.length_nil, List.length_take, List.length_drop, List.length_set, List.length_replicate] at *); omega) ?_; conv => whnf) | (refine ARd.map (by first | omega | (simp only [List.length_map] at *; omega)) ?_; conv => whnf) | (refine VReq.mk (by first | decide | omega) ?_; conv => whnf) | (refine AEq.mk (by kernel_rfl) rfl rfl ?_; conv => whnf) | (refine VReq.mk (app_ok (by (try simp only [List.length_map, List.length_append, List.length_cons, List.length_nil, List.length_take, List.length_drop, List.length_set, List.length_replicate] at *); omega) (by kernel_rfl)) ?_; conv => whnf)))
  refine aloop ws80_1 0 [3, 4] (fun x : KX => [(3, iv x.m), (4, iv x.k)]) (fun _ => []) (fun x => x.k ≤ l.length ∧ x.m ∈ l ∧ ∀ j (hj : j < x.k) (hjl : j < l.length), x.m ≤ l[j]) (fun x => l.length - x.k) [] [] ⟨1, l[0]⟩ (by kernel_rfl) (fun _ => rfl) rfl ⟨h0, List.getElem_mem h0, fun j hj hjl => by have := st j hj hjl; simp only; omega⟩ trivial ⟨rfl, rfl, trivial⟩ ?_
  rintro ⟨k, m⟩ ⟨hk, hm, ha⟩
  change k ≤ l.length at hk
  change m ∈ l at hm
  conv => whnf
  refine vif_split (fun h => ?_) (fun h => ?_)
  · have hlt : k < l.length := by simp at h; omega
    conv => whnf
    (repeat' (first | (refine And.intro ?_ ?_ <;> (conv => whnf)) | (refine vif_split (fun h => ?_) (fun h => ?_) <;> (try simp only [sEqD, cond_true, cond_false, Bool.not_eq_true', Bool.not_eq_false', decide_eq_true_eq, decide_eq_false_iff_not, beq_iff_eq, bne_iff_ne, beq_eq_false_iff_ne, bne_eq_false_iff_eq, ne_eq, Bool.not_eq_eq_eq_not, Bool.not_true, Bool.not_false, Bool.false_eq_true, Bool.true_eq_false, Decidable.not_not, gt_iff_lt, ge_iff_le, Int.not_lt, Int.not_le] at h) <;> (conv => whnf)) | (refine AAr.i64 (by first | omega | ((try simp only [List.length_map] at *); omega)) ?_; conv => whnf) | (refine AIn.mk' _ rfl (by first | omega | (simp only [List.length_map, List.length_append, List.length_cons, List.length_nil, List.length_take, List.length_drop, List.length_set, List.length_replicate]; omega) | (simp only [List.length_map, List.length_append, List.length_cons, List.length_nil, List.length_take, List.length_drop, List.length_set, List.length_replicate] at *; omega)) ?_; conv => whnf) | (refine ARd.mapAt (by assumption) ?_; conv => whnf) | (refine ARd.set (by (try simp only [List.length_map, List.length_append, List.length_cons, List.length_nil, List.length_take, List.length_drop, List.length_set, List.length_replicate] at *); omega) ?_; conv => whnf) | (refine ARd.map (by first | omega | (simp only [List.length_map] at *; omega)) ?_; conv => whnf) | (refine VReq.mk (by first | decide | omega) ?_; conv => whnf) | (refine AEq.mk (by kernel_rfl) rfl rfl ?_; conv => whnf) | (refine VReq.mk (app_ok (by (try simp only [List.length_map, List.length_append, List.length_cons, List.length_nil, List.length_take, List.length_drop, List.length_set, List.length_replicate] at *); omega) (by kernel_rfl)) ?_; conv => whnf)))
    refine aback ⟨k + 1, min m l[k]⟩ [] [] rfl (by show l.length - (k + 1) < l.length - k; omega) ⟨hlt, ?_, fun j hj hjl => ?_⟩ trivial ⟨rfl, rfl, trivial⟩
    · show min m l[k] ∈ l
      have hm2 := List.getElem_mem hlt
      rcases Int.le_total m l[k] with h1 | h1
      · rw [Int.min_eq_left h1]; exact hm
      · rw [Int.min_eq_right h1]; exact hm2
    · rcases Nat.lt_or_ge j k with h1 | h1
      · have := ha j h1 hjl; simp only at this ⊢; omega
      · have hj' : j < k + 1 := hj
        have : j = k := by omega
        subst this; simp only; omega
  · have : k = l.length := by simp at h; omega
    subst this
    conv => whnf
    have e : m = lo l := lo_uniq hm fun x hx => by
      obtain ⟨j, hj, e⟩ := List.getElem_of_mem hx
      rw [← e]; exact ha j hj hj
    rw [← e]
    exact aret [] (by repeat' (first | rfl | trivial | apply And.intro))
set_option maxHeartbeats 4000000 in
set_option maxRecDepth 100000 in
theorem maxA (l : Li) (hl : l ≠ []) (hs : l.length ≤ 1000000) : AFn Tryz.prog GC 81 [li l] 0 [] (Is (iv (hi l))) := by
  have h0 : 0 < l.length := List.length_pos_iff.2 hl
  have st : ∀ j (hj : j < 1) (hjl : j < l.length), l[j] = l[0] := fun j hj hjl => by
    have : j = 0 := by omega
    subst this; rfl
  refine afn_of Tryz.func81 rfl mixed (by kernel_rfl) ?_
  conv => whnf
  refine vif_split (fun h => ?_) (fun h => ?_)
  · simp at h; omega
  conv => whnf
  (repeat' (first | (refine And.intro ?_ ?_ <;> (conv => whnf)) | (refine vif_split (fun h => ?_) (fun h => ?_) <;> (try simp only [sEqD, cond_true, cond_false, Bool.not_eq_true', Bool.not_eq_false', decide_eq_true_eq, decide_eq_false_iff_not, beq_iff_eq, bne_iff_ne, beq_eq_false_iff_ne, bne_eq_false_iff_eq, ne_eq, Bool.not_eq_eq_eq_not, Bool.not_true, Bool.not_false, Bool.false_eq_true, Bool.true_eq_false, Decidable.not_not, gt_iff_lt, ge_iff_le, Int.not_lt, Int.not_le] at h) <;> (conv => whnf)) | (refine AAr.i64 (by first | omega | ((try simp only [List.length_map] at *); omega)) ?_; conv => whnf) | (refine AIn.mk' _ rfl (by first | omega | (simp only [List.length_map, List.length_append, List.length_cons, List.length_nil, List.length_take, List.length_drop, List.length_set, List.length_replicate]; omega) | (simp only [List.length_map, List.length_append, List.length_cons, List.length_nil, List.length_take, List.length_drop, List.length_set, List.length_replicate] at *; omega)) ?_; conv => whnf) | (refine ARd.mapAt (by assumption) ?_; conv => whnf) | (refine ARd.set (by (try simp only [List.length_map, List.length_append, List.length_cons, List.length_nil, List.length_take, List.length_drop, List.length_set, List.length_replicate] at *); omega) ?_; conv => whnf) | (refine ARd.map (by first | omega | (simp only [List.length_map] at *; omega)) ?_; conv => whnf) | (refine VReq.mk (by first | decide | omega) ?_; conv => whnf) | (refine AEq.mk (by kernel_rfl) rfl rfl ?_; conv => whnf) | (refine VReq.mk (app_ok (by (try simp only [List.length_map, List.length_append, List.length_cons, List.length_nil, List.length_take, List.length_drop, List.length_set, List.length_replicate] at *); omega) (by kernel_rfl)) ?_; conv => whnf)))
  refine aloop ws81_1 0 [3, 4] (fun x : KX => [(3, iv x.m), (4, iv x.k)]) (fun _ => []) (fun x => x.k ≤ l.length ∧ x.m ∈ l ∧ ∀ j (hj : j < x.k) (hjl : j < l.length), l[j] ≤ x.m) (fun x => l.length - x.k) [] [] ⟨1, l[0]⟩ (by kernel_rfl) (fun _ => rfl) rfl ⟨h0, List.getElem_mem h0, fun j hj hjl => by have := st j hj hjl; simp only; omega⟩ trivial ⟨rfl, rfl, trivial⟩ ?_
  rintro ⟨k, m⟩ ⟨hk, hm, ha⟩
  change k ≤ l.length at hk
  change m ∈ l at hm
  conv => whnf
  refine vif_split (fun h => ?_) (fun h => ?_)
  · have hlt : k < l.length := by simp at h; omega
    conv => whnf
    (repeat' (first | (refine And.intro ?_ ?_ <;> (conv => whnf)) | (refine vif_split (fun h => ?_) (fun h => ?_) <;> (try simp only [sEqD, cond_true, cond_false, Bool.not_eq_true', Bool.not_eq_false', decide_eq_true_eq, decide_eq_false_iff_not, beq_iff_eq, bne_iff_ne, beq_eq_false_iff_ne, bne_eq_false_iff_eq, ne_eq, Bool.not_eq_eq_eq_not, Bool.not_true, Bool.not_false, Bool.false_eq_true, Bool.true_eq_false, Decidable.not_not, gt_iff_lt, ge_iff_le, Int.not_lt, Int.not_le] at h) <;> (conv => whnf)) | (refine AAr.i64 (by first | omega | ((try simp only [List.length_map] at *); omega)) ?_; conv => whnf) | (refine AIn.mk' _ rfl (by first | omega | (simp only [List.length_map, List.length_append, List.length_cons, List.length_nil, List.length_take, List.length_drop, List.length_set, List.length_replicate]; omega) | (simp only [List.length_map, List.length_append, List.length_cons, List.length_nil, List.length_take, List.length_drop, List.length_set, List.length_replicate] at *; omega)) ?_; conv => whnf) | (refine ARd.mapAt (by assumption) ?_; conv => whnf) | (refine ARd.set (by (try simp only [List.length_map, List.length_append, List.length_cons, List.length_nil, List.length_take, List.length_drop, List.length_set, List.length_replicate] at *); omega) ?_; conv => whnf) | (refine ARd.map (by first | omega | (simp only [List.length_map] at *; omega)) ?_; conv => whnf) | (refine VReq.mk (by first | decide | omega) ?_; conv => whnf) | (refine AEq.mk (by kernel_rfl) rfl rfl ?_; conv => whnf) | (refine VReq.mk (app_ok (by (try simp only [List.length_map, List.length_append, List.length_cons, List.length_nil, List.length_take, List.length_drop, List.length_set, List.length_replicate] at *); omega) (by kernel_rfl)) ?_; conv => whnf)))
    refine aback ⟨k + 1, max m l[k]⟩ [] [] rfl (by show l.length - (k + 1) < l.length - k; omega) ⟨hlt, ?_, fun j hj hjl => ?_⟩ trivial ⟨rfl, rfl, trivial⟩
    · show max m l[k] ∈ l
      have hm2 := List.getElem_mem hlt
      rcases Int.le_total m l[k] with h1 | h1
      · rw [Int.max_eq_right h1]; exact hm2
      · rw [Int.max_eq_left h1]; exact hm
    · rcases Nat.lt_or_ge j k with h1 | h1
      · have := ha j h1 hjl; simp only at this ⊢; omega
      · have hj' : j < k + 1 := hj
        have : j = k := by omega
        subst this; simp only; omega
  · have : k = l.length := by simp at h; omega
    subst this
    conv => whnf
    have e : m = hi l := hi_uniq hm fun x hx => by
      obtain ⟨j, hj, e⟩ := List.getElem_of_mem hx
      rw [← e]; exact ha j hj hj
    rw [← e]
    exact aret [] (by repeat' (first | rfl | trivial | apply And.intro))
/-! Clone -/
set_option maxHeartbeats 4000000 in
set_option maxRecDepth 100000 in
theorem cloneA (l : Li) (hl : l ≠ []) (hs : l.length ≤ 1000000) : AFn Tryz.prog GC 76 [li l] 0 [] (Own1 3 1 (l.map enI)) := by
  have h0 : 0 < l.length := List.length_pos_iff.2 hl
  refine afn_of Tryz.func76 rfl mixed (by kernel_rfl) ?_
  conv => whnf
  refine ⟨fun b hb => ?_⟩
  rw [hb (by rw [List.length_map]; exact h0)]
  conv => whnf
  (repeat' (first | (refine And.intro ?_ ?_ <;> (conv => whnf)) | (refine vif_split (fun h => ?_) (fun h => ?_) <;> (try simp only [sEqD, cond_true, cond_false, Bool.not_eq_true', Bool.not_eq_false', decide_eq_true_eq, decide_eq_false_iff_not, beq_iff_eq, bne_iff_ne, beq_eq_false_iff_ne, bne_eq_false_iff_eq, ne_eq, Bool.not_eq_eq_eq_not, Bool.not_true, Bool.not_false, Bool.false_eq_true, Bool.true_eq_false, Decidable.not_not, gt_iff_lt, ge_iff_le, Int.not_lt, Int.not_le] at h) <;> (conv => whnf)) | (refine AAr.i64 (by first | omega | ((try simp only [List.length_map] at *); omega)) ?_; conv => whnf) | (refine AIn.mk' _ rfl (by first | omega | (simp only [List.length_map, List.length_append, List.length_cons, List.length_nil, List.length_take, List.length_drop, List.length_set, List.length_replicate]; omega) | (simp only [List.length_map, List.length_append, List.length_cons, List.length_nil, List.length_take, List.length_drop, List.length_set, List.length_replicate] at *; omega)) ?_; conv => whnf) | (refine ARd.mapAt (by assumption) ?_; conv => whnf) | (refine ARd.set (by (try simp only [List.length_map, List.length_append, List.length_cons, List.length_nil, List.length_take, List.length_drop, List.length_set, List.length_replicate] at *); omega) ?_; conv => whnf) | (refine ARd.map (by first | omega | (simp only [List.length_map] at *; omega)) ?_; conv => whnf) | (refine VReq.mk (by first | decide | omega) ?_; conv => whnf) | (refine AEq.mk (by kernel_rfl) rfl rfl ?_; conv => whnf) | (refine VReq.mk (app_ok (by (try simp only [List.length_map, List.length_append, List.length_cons, List.length_nil, List.length_take, List.length_drop, List.length_set, List.length_replicate] at *); omega) (by kernel_rfl)) ?_; conv => whnf)))
  exact aend (.own 0) 1 _ [(0, .lab 1)] [] ⟨rfl, rfl, rfl⟩ rfl (by repeat' (first | rfl | trivial | apply And.intro)) (by repeat' (first | rfl | trivial | apply And.intro))
/-! Less -/
theorem ss_lt {d : Li} (hd : SS d) {i j : Nat} {x y : Int} (h : i < j) (h1 : d[i]? = some x) (h2 : d[j]? = some y) : x < y := by
  obtain ⟨hi, e1⟩ := List.getElem?_eq_some_iff.1 h1
  obtain ⟨hj, e2⟩ := List.getElem?_eq_some_iff.1 h2
  rw [← e1, ← e2]
  exact List.pairwise_iff_getElem.1 hd i j hi hj h
theorem shrk1 (u : Nat) : Int.fdiv (u : Int) (2 ^ min (Int.toNat 1) IntKind.u64.bits) = ((u / 2 : Nat) : Int) := by rw [p2_1]; exact shr1 u
theorem ne_self (n : Int) : (n != n) = false := by simp
set_option maxHeartbeats 4000000 in
set_option maxRecDepth 100000 in
theorem nan1A (n : Int) : AFn Tryz.prog GC 102 [iv n] 0 [] (Is (bv false)) := by
  refine afn_of Tryz.func102 rfl mixed (by kernel_rfl) ?_
  conv => whnf
  rw [ne_self]
  exact aret [] (by repeat' (first | rfl | trivial | apply And.intro))
set_option maxHeartbeats 4000000 in
set_option maxRecDepth 100000 in
theorem nan2A (n : Int) : AFn Tryz.prog GC 90 [iv n] 0 [] (Is (bv false)) := by
  refine afn_of Tryz.func90 rfl mixed (by kernel_rfl) ?_
  conv => whnf
  rw [ne_self]
  exact aret [] (by repeat' (first | rfl | trivial | apply And.intro))
set_option maxHeartbeats 4000000 in
set_option maxRecDepth 100000 in
theorem lessA (x y : Int) : AFn Tryz.prog GC 89 [iv x, iv y] 0 [] (Is (bv (decide (x < y)))) := by
  refine afn_of Tryz.func89 rfl mixed (by kernel_rfl) ?_
  conv => whnf
  (refine acall [] (by kernel_rfl) (nan1A x) rfl ?_ ?_; (focus (repeat' (first | rfl | trivial | apply And.intro))))
  conv => whnf
  (repeat' (first | (refine And.intro ?_ ?_ <;> (conv => whnf)) | (refine vif_split (fun h => ?_) (fun h => ?_) <;> (try simp only [sEqD, cond_true, cond_false, Bool.not_eq_true', Bool.not_eq_false', decide_eq_true_eq, decide_eq_false_iff_not, beq_iff_eq, bne_iff_ne, beq_eq_false_iff_ne, bne_eq_false_iff_eq, ne_eq, Bool.not_eq_eq_eq_not, Bool.not_true, Bool.not_false, Bool.false_eq_true, Bool.true_eq_false, Decidable.not_not, gt_iff_lt, ge_iff_le, Int.not_lt, Int.not_le] at h) <;> (conv => whnf)) | (refine AAr.i64 (by first | omega | ((try simp only [List.length_map] at *); omega)) ?_; conv => whnf) | (refine AIn.mk' _ rfl (by first | omega | (simp only [List.length_map, List.length_append, List.length_cons, List.length_nil, List.length_take, List.length_drop, List.length_set, List.length_replicate]; omega) | (simp only [List.length_map, List.length_append, List.length_cons, List.length_nil, List.length_take, List.length_drop, List.length_set, List.length_replicate] at *; omega)) ?_; conv => whnf) | (refine ARd.mapAt (by assumption) ?_; conv => whnf) | (refine ARd.set (by (try simp only [List.length_map, List.length_append, List.length_cons, List.length_nil, List.length_take, List.length_drop, List.length_set, List.length_replicate] at *); omega) ?_; conv => whnf) | (refine ARd.map (by first | omega | (simp only [List.length_map] at *; omega)) ?_; conv => whnf) | (refine VReq.mk (by first | decide | omega) ?_; conv => whnf) | (refine AEq.mk (by kernel_rfl) rfl rfl ?_; conv => whnf) | (refine VReq.mk (app_ok (by (try simp only [List.length_map, List.length_append, List.length_cons, List.length_nil, List.length_take, List.length_drop, List.length_set, List.length_replicate] at *); omega) (by kernel_rfl)) ?_; conv => whnf)))
  exact aret [] (by repeat' (first | rfl | trivial | apply And.intro))
set_option maxHeartbeats 4000000 in
set_option maxRecDepth 100000 in
theorem searchA (d : Li) (x : Int) (hd : SS d) (hx : x ∈ d) (hs : d.length ≤ 1000000) : AFn Tryz.prog GC 79 [li d, iv x] 0 [] (Is (.tup [iv (idx d x), bv true])) := by
  have hi := idx_lt hx
  refine afn_of Tryz.func79 rfl mixed (by kernel_rfl) ?_
  conv => whnf
  refine aloop ws79_1 0 [7, 8] (fun x : Nat × Nat => [(7, iv x.1), (8, iv x.2)]) (fun _ => []) (fun y => y.1 ≤ idx d x ∧ idx d x ≤ y.2 ∧ y.2 ≤ d.length) (fun y => y.2 - y.1) [] [] (0, d.length) (by kernel_rfl) (fun _ => rfl) rfl ⟨Nat.zero_le _, Nat.le_of_lt hi.1, Nat.le_refl _⟩ trivial ⟨rfl, congrArg (fun n : Nat => Value.int .i64 (n : Int)) (List.length_map _), trivial⟩ ?_
  rintro ⟨i, j⟩ ⟨h1, h2, h3⟩
  change i ≤ idx d x at h1
  change idx d x ≤ j at h2
  change j ≤ d.length at h3
  conv => whnf
  refine vif_split (fun h => ?_) (fun h => ?_)
  · have hlt : i < j := by simp at h; omega
    conv => whnf
    (repeat' (first | (refine And.intro ?_ ?_ <;> (conv => whnf)) | (refine vif_split (fun h => ?_) (fun h => ?_) <;> (try simp only [sEqD, cond_true, cond_false, Bool.not_eq_true', Bool.not_eq_false', decide_eq_true_eq, decide_eq_false_iff_not, beq_iff_eq, bne_iff_ne, beq_eq_false_iff_ne, bne_eq_false_iff_eq, ne_eq, Bool.not_eq_eq_eq_not, Bool.not_true, Bool.not_false, Bool.false_eq_true, Bool.true_eq_false, Decidable.not_not, gt_iff_lt, ge_iff_le, Int.not_lt, Int.not_le] at h) <;> (conv => whnf)) | (refine AAr.i64 (by first | omega | ((try simp only [List.length_map] at *); omega)) ?_; conv => whnf) | (refine AIn.mk' _ rfl (by first | omega | (simp only [List.length_map, List.length_append, List.length_cons, List.length_nil, List.length_take, List.length_drop, List.length_set, List.length_replicate]; omega) | (simp only [List.length_map, List.length_append, List.length_cons, List.length_nil, List.length_take, List.length_drop, List.length_set, List.length_replicate] at *; omega)) ?_; conv => whnf) | (refine ARd.mapAt (by assumption) ?_; conv => whnf) | (refine ARd.set (by (try simp only [List.length_map, List.length_append, List.length_cons, List.length_nil, List.length_take, List.length_drop, List.length_set, List.length_replicate] at *); omega) ?_; conv => whnf) | (refine ARd.map (by first | omega | (simp only [List.length_map] at *; omega)) ?_; conv => whnf) | (refine VReq.mk (by first | decide | omega) ?_; conv => whnf) | (refine AEq.mk (by kernel_rfl) rfl rfl ?_; conv => whnf) | (refine VReq.mk (app_ok (by (try simp only [List.length_map, List.length_append, List.length_cons, List.length_nil, List.length_take, List.length_drop, List.length_set, List.length_replicate] at *); omega) (by kernel_rfl)) ?_; conv => whnf)))
    refine AAr.to (y := ((i + j : Nat) : Int)) (by rw [← Int.natCast_add]; exact wr_u64 (by omega)) ?_
    conv => whnf
    refine VReq.mk (by decide) ?_
    rw [shrk1]
    conv => whnf
    refine AAr.i64 (by omega) ?_
    conv => whnf
    have hm : (i + j) / 2 < d.length := by omega
    (repeat' (first | (refine And.intro ?_ ?_ <;> (conv => whnf)) | (refine vif_split (fun h => ?_) (fun h => ?_) <;> (try simp only [sEqD, cond_true, cond_false, Bool.not_eq_true', Bool.not_eq_false', decide_eq_true_eq, decide_eq_false_iff_not, beq_iff_eq, bne_iff_ne, beq_eq_false_iff_ne, bne_eq_false_iff_eq, ne_eq, Bool.not_eq_eq_eq_not, Bool.not_true, Bool.not_false, Bool.false_eq_true, Bool.true_eq_false, Decidable.not_not, gt_iff_lt, ge_iff_le, Int.not_lt, Int.not_le] at h) <;> (conv => whnf)) | (refine AAr.i64 (by first | omega | ((try simp only [List.length_map] at *); omega)) ?_; conv => whnf) | (refine AIn.mk' _ rfl (by first | omega | (simp only [List.length_map, List.length_append, List.length_cons, List.length_nil, List.length_take, List.length_drop, List.length_set, List.length_replicate]; omega) | (simp only [List.length_map, List.length_append, List.length_cons, List.length_nil, List.length_take, List.length_drop, List.length_set, List.length_replicate] at *; omega)) ?_; conv => whnf) | (refine ARd.mapAt (by assumption) ?_; conv => whnf) | (refine ARd.set (by (try simp only [List.length_map, List.length_append, List.length_cons, List.length_nil, List.length_take, List.length_drop, List.length_set, List.length_replicate] at *); omega) ?_; conv => whnf) | (refine ARd.map (by first | omega | (simp only [List.length_map] at *; omega)) ?_; conv => whnf) | (refine VReq.mk (by first | decide | omega) ?_; conv => whnf) | (refine AEq.mk (by kernel_rfl) rfl rfl ?_; conv => whnf) | (refine VReq.mk (app_ok (by (try simp only [List.length_map, List.length_append, List.length_cons, List.length_nil, List.length_take, List.length_drop, List.length_set, List.length_replicate] at *); omega) (by kernel_rfl)) ?_; conv => whnf)))
    (refine acall [] (by kernel_rfl) (lessA d[(i + j) / 2] x) rfl ?_ ?_; (focus (repeat' (first | rfl | trivial | apply And.intro))))
    conv => whnf
    have hat := List.getElem?_eq_getElem hm
    refine vif_split (fun h => ?_) (fun h => ?_)
    · conv => whnf
      refine AAr.i64 (by omega) ?_
      conv => whnf
      have hlt2 : d[(i + j) / 2] < x := by simpa using h
      have hc : (i + j) / 2 < idx d x := by
        rcases Nat.lt_trichotomy ((i + j) / 2) (idx d x) with h4 | h4 | h4
        · exact h4
        · have := hi.2; rw [← h4, hat] at this; injection this with this; omega
        · have := ss_lt hd h4 hi.2 hat; omega
      exact aback ((i + j) / 2 + 1, j) [] [] rfl (by show j - ((i + j) / 2 + 1) < j - i; omega) ⟨hc, h2, h3⟩ trivial ⟨rfl, rfl, trivial⟩
    · conv => whnf
      have hlt2 : x ≤ d[(i + j) / 2] := by simp at h; omega
      have hc : idx d x ≤ (i + j) / 2 := by
        rcases Nat.lt_or_ge ((i + j) / 2) (idx d x) with h4 | h4
        · have := ss_lt hd h4 hat hi.2; omega
        · exact h4
      exact aback (i, (i + j) / 2) [] [] rfl (by show (i + j) / 2 - i < j - i; omega) ⟨h1, hc, by show (i + j) / 2 ≤ _; omega⟩ trivial ⟨rfl, rfl, trivial⟩
  · have hij : i = idx d x := by simp at h; omega
    have hil : i < d.length := by omega
    have hat : d[i]? = some x := by rw [hij]; exact hi.2
    rw [← hij]
    conv => whnf
    (repeat' (first | (refine And.intro ?_ ?_ <;> (conv => whnf)) | (refine vif_split (fun h => ?_) (fun h => ?_) <;> (try simp only [sEqD, cond_true, cond_false, Bool.not_eq_true', Bool.not_eq_false', decide_eq_true_eq, decide_eq_false_iff_not, beq_iff_eq, bne_iff_ne, beq_eq_false_iff_ne, bne_eq_false_iff_eq, ne_eq, Bool.not_eq_eq_eq_not, Bool.not_true, Bool.not_false, Bool.false_eq_true, Bool.true_eq_false, Decidable.not_not, gt_iff_lt, ge_iff_le, Int.not_lt, Int.not_le] at h) <;> (conv => whnf)) | (refine AAr.i64 (by first | omega | ((try simp only [List.length_map] at *); omega)) ?_; conv => whnf) | (refine AIn.mk' _ rfl (by first | omega | (simp only [List.length_map, List.length_append, List.length_cons, List.length_nil, List.length_take, List.length_drop, List.length_set, List.length_replicate]; omega) | (simp only [List.length_map, List.length_append, List.length_cons, List.length_nil, List.length_take, List.length_drop, List.length_set, List.length_replicate] at *; omega)) ?_; conv => whnf) | (refine ARd.mapAt (by assumption) ?_; conv => whnf) | (refine ARd.set (by (try simp only [List.length_map, List.length_append, List.length_cons, List.length_nil, List.length_take, List.length_drop, List.length_set, List.length_replicate] at *); omega) ?_; conv => whnf) | (refine ARd.map (by first | omega | (simp only [List.length_map] at *; omega)) ?_; conv => whnf) | (refine VReq.mk (by first | decide | omega) ?_; conv => whnf) | (refine AEq.mk (by kernel_rfl) rfl rfl ?_; conv => whnf) | (refine VReq.mk (app_ok (by (try simp only [List.length_map, List.length_append, List.length_cons, List.length_nil, List.length_take, List.length_drop, List.length_set, List.length_replicate] at *); omega) (by kernel_rfl)) ?_; conv => whnf)))
    all_goals first
      | (exfalso; omega)
      | (exfalso; simp only [List.length_map] at h; omega)
      | (exfalso; simp at h; done)
      | exact aret [] (by repeat' (first | rfl | trivial | apply And.intro))
/-! Len64 -/
def l8 : List UInt8 := [0, 1, 2, 2, 3, 3, 3, 3, 4, 4, 4, 4, 4, 4, 4, 4, 5, 5, 5, 5, 5, 5, 5, 5, 5, 5, 5, 5, 5, 5, 5, 5, 6, 6, 6, 6, 6, 6, 6, 6, 6, 6, 6, 6, 6, 6, 6, 6, 6, 6, 6, 6, 6, 6, 6, 6, 6, 6, 6, 6, 6, 6, 6, 6, 7, 7, 7, 7, 7, 7, 7, 7, 7, 7, 7, 7, 7, 7, 7, 7, 7, 7, 7, 7, 7, 7, 7, 7, 7, 7, 7, 7, 7, 7, 7, 7, 7, 7, 7, 7, 7, 7, 7, 7, 7, 7, 7, 7, 7, 7, 7, 7, 7, 7, 7, 7, 7, 7, 7, 7, 7, 7, 7, 7, 7, 7, 7, 7, 8, 8, 8, 8, 8, 8, 8, 8, 8, 8, 8, 8, 8, 8, 8, 8, 8, 8, 8, 8, 8, 8, 8, 8, 8, 8, 8, 8, 8, 8, 8, 8, 8, 8, 8, 8, 8, 8, 8, 8, 8, 8, 8, 8, 8, 8, 8, 8, 8, 8, 8, 8, 8, 8, 8, 8, 8, 8, 8, 8, 8, 8, 8, 8, 8, 8, 8, 8, 8, 8, 8, 8, 8, 8, 8, 8, 8, 8, 8, 8, 8, 8, 8, 8, 8, 8, 8, 8, 8, 8, 8, 8, 8, 8, 8, 8, 8, 8, 8, 8, 8, 8, 8, 8, 8, 8, 8, 8, 8, 8, 8, 8, 8, 8, 8, 8, 8, 8, 8, 8, 8, 8, 8, 8, 8, 8, 8, 8]
set_option maxRecDepth 100000 in
theorem l8_at : ∀ j, j < 256 → (l8.getD j 0).toNat = wid 8 j := by decide
theorem wid_low : ∀ (f u : Nat), u < 2 ^ f → 0 < u → 0 < wid f u ∧ 2 ^ (wid f u - 1) ≤ u := by
  intro f
  induction f with
  | zero => intro u h h0; simp at h; omega
  | succ f ih =>
    intro u h h0
    unfold wid
    rw [if_neg (by omega)]
    refine ⟨by omega, ?_⟩
    rw [Nat.add_sub_cancel]
    rcases Nat.eq_zero_or_pos (u / 2) with e | e
    · rw [e]
      have : wid f 0 = 0 := by cases f <;> simp [wid]
      rw [this]; simp; omega
    · have := ih (u / 2) (by rw [Nat.pow_succ] at h; omega) e
      obtain ⟨w, hw⟩ : ∃ w, wid f (u / 2) = w + 1 := ⟨wid f (u / 2) - 1, by omega⟩
      rw [hw] at this ⊢
      rw [Nat.add_sub_cancel] at this
      rw [Nat.pow_succ]
      omega
theorem wid_uniq {f u w : Nat} (hu : u < 2 ^ f) (h1 : u < 2 ^ w) (h2 : w = 0 ∨ 2 ^ (w - 1) ≤ u) : wid f u = w := by
  have h3 := wid_min f u w h1
  rcases Nat.lt_or_ge (wid f u) w with h | h
  · exfalso
    have h4 := (wid_spec f u hu).1
    have h5 : 2 ^ (wid f u) ≤ 2 ^ (w - 1) := Nat.pow_le_pow_right (by decide) (by omega)
    omega
  · omega
theorem wid_leaf {u : Nat} (hu : u < 18446744073709551616) (s : Nat) (h8 : u / 2 ^ s < 256) (h1 : s = 0 ∨ 1 ≤ u / 2 ^ s) : wid 64 u = s + wid 8 (u / 2 ^ s) := by
  have h2 := wid_spec 8 (u / 2 ^ s) h8
  refine wid_uniq hu ?_ ?_
  · rw [Nat.pow_add]
    have := (Nat.div_lt_iff_lt_mul (Nat.pow_pos (by decide) : 0 < 2 ^ s)).1 h2.1
    rwa [Nat.mul_comm] at this
  · rcases Nat.eq_zero_or_pos (u / 2 ^ s) with h0 | h0
    · left; rw [h0]; have : s = 0 := by omega
      subst this; decide
    · right
      have h3 := wid_low 8 _ h8 h0
      obtain ⟨w, hw⟩ : ∃ w, wid 8 (u / 2 ^ s) = w + 1 := ⟨wid 8 (u / 2 ^ s) - 1, by omega⟩
      rw [hw] at h3 ⊢
      rw [Nat.add_sub_cancel] at h3
      rw [show s + (w + 1) - 1 = s + w by omega, Nat.pow_add]
      exact Nat.le_trans (Nat.mul_le_mul_left _ h3.2) (Nat.mul_div_le u _)
theorem shrk (u s : Nat) (hs : s ≤ 64) : Int.fdiv (u : Int) (2 ^ min (Int.toNat (s : Int)) IntKind.u64.bits) = ((u / 2 ^ s : Nat) : Int) := by
  have e : IntKind.u64.bits = 64 := rfl
  rw [e, Int.toNat_natCast, Nat.min_eq_left hs, Int.fdiv_eq_ediv_of_nonneg _ (by exact Int.pow_nonneg (by decide))]
  simp
theorem shr32 (u : Nat) : Int.fdiv (u : Int) (2 ^ min (Int.toNat 32) IntKind.u64.bits) = ((u / 4294967296 : Nat) : Int) := shrk u 32 (by decide)
theorem shr16 (u : Nat) : Int.fdiv (u : Int) (2 ^ min (Int.toNat 16) IntKind.u64.bits) = ((u / 65536 : Nat) : Int) := shrk u 16 (by decide)
theorem shr8 (u : Nat) : Int.fdiv (u : Int) (2 ^ min (Int.toNat 8) IntKind.u64.bits) = ((u / 256 : Nat) : Int) := shrk u 8 (by decide)
theorem leaf {u v : Nat} (hu : u < 18446744073709551616) (s : Nat) (hv : v = u / 2 ^ s) (h8 : v < 256) (h1 : s = 0 ∨ 1 ≤ v) : wid 64 u = s + wid 8 v := by
  subst hv; exact wid_leaf hu s h8 h1
theorem l8_wr {j : Nat} (h : j < 256) : IntKind.i64.wrap (((l8.getD j 0).toNat : Nat) : Int) = (wid 8 j : Int) := by
  rw [l8_at j h]
  have := (wid_spec 8 j h).2
  exact IntWalk.i64_in _ (by omega)
set_option maxHeartbeats 4000000 in
set_option maxRecDepth 100000 in
theorem len64A (u : Nat) (hu : u < 18446744073709551616) : AFn Tryz.prog GC 69 [uv u] 0 [] (Is (iv (wid 64 u))) := by
  refine afn_of Tryz.func69 rfl mixed (by kernel_rfl) ?_
  conv => whnf
  refine vif_split (fun h1 => ?_) (fun h1 => ?_) <;> (simp at h1; conv => whnf)
  · refine VReq.mk (by decide) ?_
    rw [shr32]
    conv => whnf
    refine vif_split (fun h2 => ?_) (fun h2 => ?_) <;> (simp at h2; conv => whnf)
    refine VReq.mk (by decide) ?_
    rw [shr16]
    conv => whnf
    refine AAr.i64 (by omega) ?_
    conv => whnf
    refine vif_split (fun h3 => ?_) (fun h3 => ?_) <;> (simp at h3; conv => whnf)
    · refine VReq.mk (by decide) ?_
      rw [shr8]
      conv => whnf
      refine AAr.i64 (by omega) ?_
      conv => whnf
      refine AAr.to (wr_u8 (by omega)) ?_
      conv => whnf
      refine AIn.mk' _ rfl (by show _ < 256; omega) ?_
      conv => whnf
      refine AAr.to (l8_wr (by omega)) ?_
      conv => whnf
      refine AAr.to (y := (wid 64 u : Int)) (by
        have hw := wid_spec 64 u hu
        have := leaf (v := u / 4294967296 / 65536 / 256) hu 56 (by first | rfl | (show _ = u / 72057594037927936; omega)) (by omega) (by omega)
        rw [IntWalk.i64_in _ (by omega)]; omega) ?_
      conv => whnf
      exact aret [] (by repeat' (first | rfl | trivial | apply And.intro))
    · skip
      refine AAr.to (wr_u8 (by omega)) ?_
      conv => whnf
      refine AIn.mk' _ rfl (by show _ < 256; omega) ?_
      conv => whnf
      refine AAr.to (l8_wr (by omega)) ?_
      conv => whnf
      refine AAr.to (y := (wid 64 u : Int)) (by
        have hw := wid_spec 64 u hu
        have := leaf (v := u / 4294967296 / 65536) hu 48 (by first | rfl | (show _ = u / 281474976710656; omega)) (by omega) (by omega)
        rw [IntWalk.i64_in _ (by omega)]; omega) ?_
      conv => whnf
      exact aret [] (by repeat' (first | rfl | trivial | apply And.intro))
    refine vif_split (fun h3 => ?_) (fun h3 => ?_) <;> (simp at h3; conv => whnf)
    · refine VReq.mk (by decide) ?_
      rw [shr8]
      conv => whnf
      refine AAr.i64 (by omega) ?_
      conv => whnf
      refine AAr.to (wr_u8 (by omega)) ?_
      conv => whnf
      refine AIn.mk' _ rfl (by show _ < 256; omega) ?_
      conv => whnf
      refine AAr.to (l8_wr (by omega)) ?_
      conv => whnf
      refine AAr.to (y := (wid 64 u : Int)) (by
        have hw := wid_spec 64 u hu
        have := leaf (v := u / 4294967296 / 256) hu 40 (by first | rfl | (show _ = u / 1099511627776; omega)) (by omega) (by omega)
        rw [IntWalk.i64_in _ (by omega)]; omega) ?_
      conv => whnf
      exact aret [] (by repeat' (first | rfl | trivial | apply And.intro))
    · skip
      refine AAr.to (wr_u8 (by omega)) ?_
      conv => whnf
      refine AIn.mk' _ rfl (by show _ < 256; omega) ?_
      conv => whnf
      refine AAr.to (l8_wr (by omega)) ?_
      conv => whnf
      refine AAr.to (y := (wid 64 u : Int)) (by
        have hw := wid_spec 64 u hu
        have := leaf (v := u / 4294967296) hu 32 (by first | rfl | (show _ = u / 4294967296; omega)) (by omega) (by omega)
        rw [IntWalk.i64_in _ (by omega)]; omega) ?_
      conv => whnf
      exact aret [] (by repeat' (first | rfl | trivial | apply And.intro))
  · refine vif_split (fun h2 => ?_) (fun h2 => ?_) <;> (simp at h2; conv => whnf)
    refine VReq.mk (by decide) ?_
    rw [shr16]
    conv => whnf
    refine AAr.i64 (by omega) ?_
    conv => whnf
    refine vif_split (fun h3 => ?_) (fun h3 => ?_) <;> (simp at h3; conv => whnf)
    · refine VReq.mk (by decide) ?_
      rw [shr8]
      conv => whnf
      refine AAr.i64 (by omega) ?_
      conv => whnf
      refine AAr.to (wr_u8 (by omega)) ?_
      conv => whnf
      refine AIn.mk' _ rfl (by show _ < 256; omega) ?_
      conv => whnf
      refine AAr.to (l8_wr (by omega)) ?_
      conv => whnf
      refine AAr.to (y := (wid 64 u : Int)) (by
        have hw := wid_spec 64 u hu
        have := leaf (v := u / 65536 / 256) hu 24 (by first | rfl | (show _ = u / 16777216; omega)) (by omega) (by omega)
        rw [IntWalk.i64_in _ (by omega)]; omega) ?_
      conv => whnf
      exact aret [] (by repeat' (first | rfl | trivial | apply And.intro))
    · skip
      refine AAr.to (wr_u8 (by omega)) ?_
      conv => whnf
      refine AIn.mk' _ rfl (by show _ < 256; omega) ?_
      conv => whnf
      refine AAr.to (l8_wr (by omega)) ?_
      conv => whnf
      refine AAr.to (y := (wid 64 u : Int)) (by
        have hw := wid_spec 64 u hu
        have := leaf (v := u / 65536) hu 16 (by first | rfl | (show _ = u / 65536; omega)) (by omega) (by omega)
        rw [IntWalk.i64_in _ (by omega)]; omega) ?_
      conv => whnf
      exact aret [] (by repeat' (first | rfl | trivial | apply And.intro))
    refine vif_split (fun h3 => ?_) (fun h3 => ?_) <;> (simp at h3; conv => whnf)
    · refine VReq.mk (by decide) ?_
      rw [shr8]
      conv => whnf
      refine AAr.i64 (by omega) ?_
      conv => whnf
      refine AAr.to (wr_u8 (by omega)) ?_
      conv => whnf
      refine AIn.mk' _ rfl (by show _ < 256; omega) ?_
      conv => whnf
      refine AAr.to (l8_wr (by omega)) ?_
      conv => whnf
      refine AAr.to (y := (wid 64 u : Int)) (by
        have hw := wid_spec 64 u hu
        have := leaf (v := u / 256) hu 8 (by first | rfl | (show _ = u / 256; omega)) (by omega) (by omega)
        rw [IntWalk.i64_in _ (by omega)]; omega) ?_
      conv => whnf
      exact aret [] (by repeat' (first | rfl | trivial | apply And.intro))
    · skip
      refine AAr.to (wr_u8 (by omega)) ?_
      conv => whnf
      refine AIn.mk' _ rfl (by show _ < 256; omega) ?_
      conv => whnf
      refine AAr.to (l8_wr (by omega)) ?_
      conv => whnf
      refine AAr.to (y := (wid 64 u : Int)) (by
        have hw := wid_spec 64 u hu
        have := leaf (v := u) hu 0 (by first | rfl | (show _ = u / 1; omega)) (by omega) (by omega)
        rw [IntWalk.i64_in _ (by omega)]; omega) ?_
      conv => whnf
      exact aret [] (by repeat' (first | rfl | trivial | apply And.intro))
end Go.Proofs.YtmhpfadbmpipkaaGreat.Cl
