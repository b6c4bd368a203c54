/- The walks of column's encoders: plain numbers, runs, steps, and the list of codecs. Condition: sizes. -/
import Derived.Test.YtmhpfadbmpipkaaCl3
set_option linter.unusedVariables false
set_option linter.unusedSimpArgs false
namespace Go.Proofs.Ytmhpfadbmpipkaa.Cl
open Go Go.RowKit Go.Proofs Go.Proofs.Ytmhpfadbmpipkaa.Vc Go.Proofs.Ytmhpfadbmpipkaa.Ax
attribute [local irreducible] loadVar storeVar Instr.indexAt Instr.index Instr.sliceAt Instr.makeSlice Instr.lookup Instr.mapUpdate Instr.range Instr.next Instr.entry Instr.makeMap Builtin.append_ Builtin.copy_ Builtin.len_ Builtin.min_ Builtin.max_ Builtin.cap_ Builtin.delete_ Builtin.clear_ convert binOp eqGuard Op.unary Calls
structure LX where
  k : Nat
  p : Int
  out : By
theorem b1_snoc (l : Li) (x : Int) : b1 (l ++ [x]) = b1 l ++ num x := by simp [b1]
theorem b1_take {l : Li} {k : Nat} (h : k < l.length) : b1 (l.take (k + 1)) = b1 (l.take k) ++ num l[k] := by rw [List.take_succ_eq_append_getElem h, b1_snoc]
theorem b1_take_len (l : Li) (k : Nat) : (b1 (l.take k)).length ≤ 10 * l.length := by
  have := b1_len (l.take k); rw [List.length_take] at this; omega
set_option maxHeartbeats 4000000 in
set_option maxRecDepth 100000 in
theorem putPlainA (b : By) (l : Li) (hl : AllI l) (hs : b.length + 10 * l.length ≤ 3000000) : AFn Try.prog GC 26 [bs b, li l] 0 [] (Is (bs (b ++ b1 l))) := by
  refine afn_of Try.func26 rfl mixed (by kernel_rfl) ?_
  conv => whnf
  refine aloop ws26_1 0 [0, 9] (fun k : Nat => [(0, bs (b ++ b1 (l.take k))), (9, iv k)]) (fun _ => []) (fun k => k ≤ l.length) (fun k => l.length - k) [] [] 0 (by kernel_rfl) (fun _ => rfl) rfl (Nat.zero_le _) trivial ⟨⟨rfl, by simp [b1]⟩, rfl, trivial⟩ ?_
  rintro k hk
  have hbl := b1_take_len l k
  conv => whnf
  refine vif_split (fun hlt => ?_) (fun hge => ?_)
  · have hlt : k < l.length := by simpa using hlt
    conv => whnf
    (repeat' (first | (refine And.intro ?_ ?_ <;> (conv => whnf)) | (refine vif_split (fun h => ?_) (fun h => ?_) <;> (try simp only [sEqD, cond_true, cond_false, Bool.not_eq_true', Bool.not_eq_false', decide_eq_true_eq, decide_eq_false_iff_not, beq_iff_eq, bne_iff_ne, beq_eq_false_iff_ne, bne_eq_false_iff_eq, ne_eq, Bool.not_eq_eq_eq_not, Bool.not_true, Bool.not_false, Bool.false_eq_true, Bool.true_eq_false, Decidable.not_not, gt_iff_lt, ge_iff_le, Int.not_lt, Int.not_le] at h) <;> (conv => whnf)) | (refine AAr.i64 (by first | omega | ((try simp only [List.length_map] at *); omega)) ?_; conv => whnf) | (refine AIn.mk' _ rfl (by first | omega | (simp only [List.length_map, List.length_append, List.length_cons, List.length_nil, List.length_take, List.length_drop, List.length_set, List.length_replicate]; omega) | (simp only [List.length_map, List.length_append, List.length_cons, List.length_nil, List.length_take, List.length_drop, List.length_set, List.length_replicate] at *; omega)) ?_; conv => whnf) | (refine ARd.mapAt (by assumption) ?_; conv => whnf) | (refine ARd.set (by (try simp only [List.length_map, List.length_append, List.length_cons, List.length_nil, List.length_take, List.length_drop, List.length_set, List.length_replicate] at *); omega) ?_; conv => whnf) | (refine ARd.map (by first | omega | (simp only [List.length_map] at *; omega)) ?_; conv => whnf) | (refine VReq.mk (by first | decide | omega) ?_; conv => whnf) | (refine AEq.mk (by kernel_rfl) rfl rfl ?_; conv => whnf) | (refine VReq.mk (app_ok (by (try simp only [List.length_map, List.length_append, List.length_cons, List.length_nil, List.length_take, List.length_drop, List.length_set, List.length_replicate] at *); omega) (by kernel_rfl)) ?_; conv => whnf)))
    (refine acallF [] (by kernel_rfl) (putA (b ++ b1 (l.take k)) l[k] (hl _ (List.getElem_mem hlt)) (by rw [List.length_append]; omega)) ?_ ?_; (focus (repeat' (first | rfl | trivial | apply And.intro))))
    rintro _ _ _ ⟨rfl, rfl, rfl⟩
    conv => whnf
    (repeat' (first | (refine And.intro ?_ ?_ <;> (conv => whnf)) | (refine vif_split (fun h => ?_) (fun h => ?_) <;> (try simp only [sEqD, cond_true, cond_false, Bool.not_eq_true', Bool.not_eq_false', decide_eq_true_eq, decide_eq_false_iff_not, beq_iff_eq, bne_iff_ne, beq_eq_false_iff_ne, bne_eq_false_iff_eq, ne_eq, Bool.not_eq_eq_eq_not, Bool.not_true, Bool.not_false, Bool.false_eq_true, Bool.true_eq_false, Decidable.not_not, gt_iff_lt, ge_iff_le, Int.not_lt, Int.not_le] at h) <;> (conv => whnf)) | (refine AAr.i64 (by first | omega | ((try simp only [List.length_map] at *); omega)) ?_; conv => whnf) | (refine AIn.mk' _ rfl (by first | omega | (simp only [List.length_map, List.length_append, List.length_cons, List.length_nil, List.length_take, List.length_drop, List.length_set, List.length_replicate]; omega) | (simp only [List.length_map, List.length_append, List.length_cons, List.length_nil, List.length_take, List.length_drop, List.length_set, List.length_replicate] at *; omega)) ?_; conv => whnf) | (refine ARd.mapAt (by assumption) ?_; conv => whnf) | (refine ARd.set (by (try simp only [List.length_map, List.length_append, List.length_cons, List.length_nil, List.length_take, List.length_drop, List.length_set, List.length_replicate] at *); omega) ?_; conv => whnf) | (refine ARd.map (by first | omega | (simp only [List.length_map] at *; omega)) ?_; conv => whnf) | (refine VReq.mk (by first | decide | omega) ?_; conv => whnf) | (refine AEq.mk (by kernel_rfl) rfl rfl ?_; conv => whnf) | (refine VReq.mk (app_ok (by (try simp only [List.length_map, List.length_append, List.length_cons, List.length_nil, List.length_take, List.length_drop, List.length_set, List.length_replicate] at *); omega) (by kernel_rfl)) ?_; conv => whnf)))
    refine aback (k + 1) [] [0] rfl (by show l.length - (k + 1) < l.length - k; omega) hlt trivial ⟨⟨rfl, rfl, by rw [b1_take hlt, List.append_assoc]⟩, rfl, trivial⟩
  · have : k = l.length := by simp at hge; omega
    subst this
    conv => whnf
    rw [List.take_length]
    exact aret [] (by repeat' (first | rfl | trivial | apply And.intro))
theorem drop_cons {l : Li} {k : Nat} (h : k < l.length) : l.drop k = l[k] :: l.drop (k + 1) := List.drop_eq_getElem_cons h
set_option maxHeartbeats 4000000 in
set_option maxRecDepth 100000 in
theorem putStepsA (b : By) (l : Li) (hs : b.length + 10 * l.length ≤ 3000000) : AFn Try.prog GC 30 [bs b, li l] 0 [] (Is (bs (b ++ b3 l))) := by
  refine afn_of Try.func30 rfl mixed (by kernel_rfl) ?_
  conv => whnf
  refine aloop ws30_1 0 [0, 5, 10] (fun x : LX => [(0, bs x.out), (5, iv x.p), (10, iv x.k)]) (fun _ => []) (fun x => x.k ≤ l.length ∧ x.out ++ st x.p (l.drop x.k) = b ++ b3 l) (fun x => l.length - x.k) [] [] ⟨0, 0, b⟩ (by kernel_rfl) (fun _ => rfl) rfl ⟨Nat.zero_le _, rfl⟩ trivial ⟨⟨rfl, rfl⟩, rfl, rfl, trivial⟩ ?_
  rintro ⟨k, p, out⟩ ⟨hk, ho⟩
  change k ≤ l.length at hk
  change out ++ st p (l.drop k) = b ++ b3 l at ho
  have hbl := st_len l 0
  have hol : out.length ≤ b.length + 10 * l.length := by have := congrArg List.length ho; simp only [List.length_append, b3] at this; omega
  conv => whnf
  refine vif_split (fun hlt => ?_) (fun hge => ?_)
  · have hlt : k < l.length := by simp at hlt; omega
    simp only [drop_cons hlt, st] at ho
    conv => whnf
    (repeat' (first | (refine And.intro ?_ ?_ <;> (conv => whnf)) | (refine vif_split (fun h => ?_) (fun h => ?_) <;> (try simp only [sEqD, cond_true, cond_false, Bool.not_eq_true', Bool.not_eq_false', decide_eq_true_eq, decide_eq_false_iff_not, beq_iff_eq, bne_iff_ne, beq_eq_false_iff_ne, bne_eq_false_iff_eq, ne_eq, Bool.not_eq_eq_eq_not, Bool.not_true, Bool.not_false, Bool.false_eq_true, Bool.true_eq_false, Decidable.not_not, gt_iff_lt, ge_iff_le, Int.not_lt, Int.not_le] at h) <;> (conv => whnf)) | (refine AAr.i64 (by first | omega | ((try simp only [List.length_map] at *); omega)) ?_; conv => whnf) | (refine AIn.mk' _ rfl (by first | omega | (simp only [List.length_map, List.length_append, List.length_cons, List.length_nil, List.length_take, List.length_drop, List.length_set, List.length_replicate]; omega) | (simp only [List.length_map, List.length_append, List.length_cons, List.length_nil, List.length_take, List.length_drop, List.length_set, List.length_replicate] at *; omega)) ?_; conv => whnf) | (refine ARd.mapAt (by assumption) ?_; conv => whnf) | (refine ARd.set (by (try simp only [List.length_map, List.length_append, List.length_cons, List.length_nil, List.length_take, List.length_drop, List.length_set, List.length_replicate] at *); omega) ?_; conv => whnf) | (refine ARd.map (by first | omega | (simp only [List.length_map] at *; omega)) ?_; conv => whnf) | (refine VReq.mk (by first | decide | omega) ?_; conv => whnf) | (refine AEq.mk (by kernel_rfl) rfl rfl ?_; conv => whnf) | (refine VReq.mk (app_ok (by (try simp only [List.length_map, List.length_append, List.length_cons, List.length_nil, List.length_take, List.length_drop, List.length_set, List.length_replicate] at *); omega) (by kernel_rfl)) ?_; conv => whnf)))
    refine AAr.to rfl ?_
    conv => whnf
    (refine acallF [] (by kernel_rfl) (putA out (w64 (l[k] - p)) (w64_i _) (by omega)) ?_ ?_; (focus (repeat' (first | rfl | trivial | apply And.intro))))
    rintro _ _ _ ⟨rfl, rfl, rfl⟩
    conv => whnf
    (repeat' (first | (refine And.intro ?_ ?_ <;> (conv => whnf)) | (refine vif_split (fun h => ?_) (fun h => ?_) <;> (try simp only [sEqD, cond_true, cond_false, Bool.not_eq_true', Bool.not_eq_false', decide_eq_true_eq, decide_eq_false_iff_not, beq_iff_eq, bne_iff_ne, beq_eq_false_iff_ne, bne_eq_false_iff_eq, ne_eq, Bool.not_eq_eq_eq_not, Bool.not_true, Bool.not_false, Bool.false_eq_true, Bool.true_eq_false, Decidable.not_not, gt_iff_lt, ge_iff_le, Int.not_lt, Int.not_le] at h) <;> (conv => whnf)) | (refine AAr.i64 (by first | omega | ((try simp only [List.length_map] at *); omega)) ?_; conv => whnf) | (refine AIn.mk' _ rfl (by first | omega | (simp only [List.length_map, List.length_append, List.length_cons, List.length_nil, List.length_take, List.length_drop, List.length_set, List.length_replicate]; omega) | (simp only [List.length_map, List.length_append, List.length_cons, List.length_nil, List.length_take, List.length_drop, List.length_set, List.length_replicate] at *; omega)) ?_; conv => whnf) | (refine ARd.mapAt (by assumption) ?_; conv => whnf) | (refine ARd.set (by (try simp only [List.length_map, List.length_append, List.length_cons, List.length_nil, List.length_take, List.length_drop, List.length_set, List.length_replicate] at *); omega) ?_; conv => whnf) | (refine ARd.map (by first | omega | (simp only [List.length_map] at *; omega)) ?_; conv => whnf) | (refine VReq.mk (by first | decide | omega) ?_; conv => whnf) | (refine AEq.mk (by kernel_rfl) rfl rfl ?_; conv => whnf) | (refine VReq.mk (app_ok (by (try simp only [List.length_map, List.length_append, List.length_cons, List.length_nil, List.length_take, List.length_drop, List.length_set, List.length_replicate] at *); omega) (by kernel_rfl)) ?_; conv => whnf)))
    refine aback ⟨k + 1, l[k], out ++ num (w64 (l[k] - p))⟩ [] [0] rfl (by show l.length - (k + 1) < l.length - k; omega) ⟨hlt, by rw [← ho, List.append_assoc]⟩ trivial ⟨⟨rfl, rfl, rfl⟩, rfl, rfl, trivial⟩
  · have : k = l.length := by simp at hge; omega
    subst this
    simp only [List.drop_length, st, List.append_nil] at ho
    conv => whnf
    rw [← ho]
    exact aret [] (by repeat' (first | rfl | trivial | apply And.intro))
/-- a run of equal numbers from i to k -/
def RunI (l : Li) (i k : Nat) : Prop := i ≤ k ∧ k ≤ l.length ∧ l.drop i = List.replicate (k - i) (l.getD i 0) ++ l.drop k
theorem RunI.next {l : Li} {i k : Nat} (h : RunI l i k) (hk : k < l.length) (e : l[k] = l.getD i 0) : RunI l i (k + 1) := by
  obtain ⟨h1, h2, h3⟩ := h
  refine ⟨by omega, hk, ?_⟩
  rw [h3, drop_cons hk, e, show k + 1 - i = (k - i) + 1 by omega, List.replicate_succ']
  simp
theorem RunI.fin {l : Li} {i k : Nat} (h : RunI l i k) (hi : i < l.length) (e : ∀ hk : k < l.length, l[k] ≠ l.getD i 0) : i < k ∧ b2 (l.drop i) = num (l.getD i 0) ++ (num ((k - i : Nat) : Int) ++ b2 (l.drop k)) := by
  obtain ⟨h1, h2, h3⟩ := h
  have hlt : i < k := by
    rcases Nat.lt_or_ge i k with h | h
    · exact h
    · have : k = i := by omega
      subst this
      exact absurd (by rw [List.getD_eq_getElem?_getD, List.getElem?_eq_getElem hi]; rfl) (e hi)
  refine ⟨hlt, ?_⟩
  obtain ⟨m, hm⟩ : ∃ m, k - i = m + 1 := ⟨k - i - 1, by omega⟩
  rw [h3, hm]
  unfold b2
  rw [rl_rep _ m _ (by
    rcases Nat.lt_or_ge k l.length with h | h
    · rw [drop_cons h]; intro e2; exact e h (by simpa [List.getElem?_eq_getElem h] using e2)
    · rw [List.drop_eq_nil_of_le h]; simp)]
  simp [enP]
set_option maxHeartbeats 4000000 in
set_option maxRecDepth 100000 in
theorem putRunsA (b : By) (l : Li) (hl : AllI l) (hs : b.length + 20 * l.length ≤ 3000000) : AFn Try.prog GC 28 [bs b, li l] 0 [] (Is (bs (b ++ b2 l))) := by
  have hbl := b2_len l
  refine afn_of Try.func28 rfl mixed (by kernel_rfl) ?_
  conv => whnf
  refine aloop ws28_1 0 [0, 5] (fun x : LX => [(0, bs x.out), (5, iv x.k)]) (fun _ => []) (fun x => x.k ≤ l.length ∧ x.out ++ b2 (l.drop x.k) = b ++ b2 l) (fun x => l.length - x.k) [] [] ⟨0, 0, b⟩ (by kernel_rfl) (fun _ => rfl) rfl ⟨Nat.zero_le _, rfl⟩ trivial ⟨⟨rfl, rfl⟩, rfl, trivial⟩ ?_
  rintro ⟨i, p, out⟩ ⟨hi, ho⟩
  change i ≤ l.length at hi
  change out ++ b2 (l.drop i) = b ++ b2 l at ho
  have hol : out.length ≤ b.length + 20 * l.length := by have := congrArg List.length ho; simp only [List.length_append] at this; omega
  conv => whnf
  (repeat' (first | (refine And.intro ?_ ?_ <;> (conv => whnf)) | (refine vif_split (fun h => ?_) (fun h => ?_) <;> (try simp only [sEqD, cond_true, cond_false, Bool.not_eq_true', Bool.not_eq_false', decide_eq_true_eq, decide_eq_false_iff_not, beq_iff_eq, bne_iff_ne, beq_eq_false_iff_ne, bne_eq_false_iff_eq, ne_eq, Bool.not_eq_eq_eq_not, Bool.not_true, Bool.not_false, Bool.false_eq_true, Bool.true_eq_false, Decidable.not_not, gt_iff_lt, ge_iff_le, Int.not_lt, Int.not_le] at h) <;> (conv => whnf)) | (refine AAr.i64 (by first | omega | ((try simp only [List.length_map] at *); omega)) ?_; conv => whnf) | (refine AIn.mk' _ rfl (by first | omega | (simp only [List.length_map, List.length_append, List.length_cons, List.length_nil, List.length_take, List.length_drop, List.length_set, List.length_replicate]; omega) | (simp only [List.length_map, List.length_append, List.length_cons, List.length_nil, List.length_take, List.length_drop, List.length_set, List.length_replicate] at *; omega)) ?_; conv => whnf) | (refine ARd.mapAt (by assumption) ?_; conv => whnf) | (refine ARd.set (by (try simp only [List.length_map, List.length_append, List.length_cons, List.length_nil, List.length_take, List.length_drop, List.length_set, List.length_replicate] at *); omega) ?_; conv => whnf) | (refine ARd.map (by first | omega | (simp only [List.length_map] at *; omega)) ?_; conv => whnf) | (refine VReq.mk (by first | decide | omega) ?_; conv => whnf) | (refine AEq.mk (by kernel_rfl) rfl rfl ?_; conv => whnf) | (refine VReq.mk (app_ok (by (try simp only [List.length_map, List.length_append, List.length_cons, List.length_nil, List.length_take, List.length_drop, List.length_set, List.length_replicate] at *); omega) (by kernel_rfl)) ?_; conv => whnf)))
  · have hlt : i < l.length := by simp at h; omega
    conv => whnf
    refine aloop ws28_2 0 [6] (fun k : Nat => [(6, iv k)]) (fun _ => []) (fun k => RunI l i k) (fun k => l.length - k) [] [] i (by kernel_rfl) (fun _ => rfl) rfl ⟨Nat.le_refl _, hi, by simp⟩ trivial ⟨rfl, trivial⟩ ?_
    rintro k hr
    have hk := hr.2.1
    conv => whnf
    (refine adraw pln28 [] (by kernel_rfl) ?_; conv => whnf)
    have hgi : l.getD i 0 = l[i] := by rw [List.getD_eq_getElem?_getD, List.getElem?_eq_getElem hlt]; rfl
    have done : (∀ hk : k < l.length, l[k] ≠ l.getD i 0) → i < k ∧ out ++ num l[i] ++ num ((k - i : Nat) : Int) ++ b2 (l.drop k) = b ++ b2 l := fun e => by
      have := hr.fin hlt e
      refine ⟨this.1, ?_⟩
      rw [← ho, this.2, hgi]
      simp only [List.append_assoc]
    (repeat' (first | (refine And.intro ?_ ?_ <;> (conv => whnf)) | (refine vif_split (fun h => ?_) (fun h => ?_) <;> (try simp only [sEqD, cond_true, cond_false, Bool.not_eq_true', Bool.not_eq_false', decide_eq_true_eq, decide_eq_false_iff_not, beq_iff_eq, bne_iff_ne, beq_eq_false_iff_ne, bne_eq_false_iff_eq, ne_eq, Bool.not_eq_eq_eq_not, Bool.not_true, Bool.not_false, Bool.false_eq_true, Bool.true_eq_false, Decidable.not_not, gt_iff_lt, ge_iff_le, Int.not_lt, Int.not_le] at h) <;> (conv => whnf)) | (refine AAr.i64 (by first | omega | ((try simp only [List.length_map] at *); omega)) ?_; conv => whnf) | (refine AIn.mk' _ rfl (by first | omega | (simp only [List.length_map, List.length_append, List.length_cons, List.length_nil, List.length_take, List.length_drop, List.length_set, List.length_replicate]; omega) | (simp only [List.length_map, List.length_append, List.length_cons, List.length_nil, List.length_take, List.length_drop, List.length_set, List.length_replicate] at *; omega)) ?_; conv => whnf) | (refine ARd.mapAt (by assumption) ?_; conv => whnf) | (refine ARd.set (by (try simp only [List.length_map, List.length_append, List.length_cons, List.length_nil, List.length_take, List.length_drop, List.length_set, List.length_replicate] at *); omega) ?_; conv => whnf) | (refine ARd.map (by first | omega | (simp only [List.length_map] at *; omega)) ?_; conv => whnf) | (refine VReq.mk (by first | decide | omega) ?_; conv => whnf) | (refine AEq.mk (by kernel_rfl) rfl rfl ?_; conv => whnf) | (refine VReq.mk (app_ok (by (try simp only [List.length_map, List.length_append, List.length_cons, List.length_nil, List.length_take, List.length_drop, List.length_set, List.length_replicate] at *); omega) (by kernel_rfl)) ?_; conv => whnf)))
    · rename_i h1
      have hkl : k < l.length := by simp at h1; omega
      have e : l[k] = l.getD i 0 := by rw [hgi]; exact h
      exact aback (k + 1) [] [] rfl (by show l.length - (k + 1) < l.length - k; omega) (hr.next hkl e) trivial ⟨rfl, trivial⟩
    all_goals
      have ⟨hik, hd⟩ := done (by first | (intro hkl e; rw [hgi] at e; exact absurd e h) | (intro hkl; simp at h; omega))
      have h10 := (num_len l[i]).2
      have h20 := congrArg List.length hd
      simp only [List.length_append] at h20
      (refine acallF [] (by kernel_rfl) (putA out l[i] (hl _ (List.getElem_mem hlt)) (by omega)) ?_ ?_; (focus (repeat' (first | rfl | trivial | apply And.intro))))
      rintro _ _ _ ⟨rfl, rfl, rfl⟩
      conv => whnf
      (repeat' (first | (refine And.intro ?_ ?_ <;> (conv => whnf)) | (refine vif_split (fun h => ?_) (fun h => ?_) <;> (try simp only [sEqD, cond_true, cond_false, Bool.not_eq_true', Bool.not_eq_false', decide_eq_true_eq, decide_eq_false_iff_not, beq_iff_eq, bne_iff_ne, beq_eq_false_iff_ne, bne_eq_false_iff_eq, ne_eq, Bool.not_eq_eq_eq_not, Bool.not_true, Bool.not_false, Bool.false_eq_true, Bool.true_eq_false, Decidable.not_not, gt_iff_lt, ge_iff_le, Int.not_lt, Int.not_le] at h) <;> (conv => whnf)) | (refine AAr.i64 (by first | omega | ((try simp only [List.length_map] at *); omega)) ?_; conv => whnf) | (refine AIn.mk' _ rfl (by first | omega | (simp only [List.length_map, List.length_append, List.length_cons, List.length_nil, List.length_take, List.length_drop, List.length_set, List.length_replicate]; omega) | (simp only [List.length_map, List.length_append, List.length_cons, List.length_nil, List.length_take, List.length_drop, List.length_set, List.length_replicate] at *; omega)) ?_; conv => whnf) | (refine ARd.mapAt (by assumption) ?_; conv => whnf) | (refine ARd.set (by (try simp only [List.length_map, List.length_append, List.length_cons, List.length_nil, List.length_take, List.length_drop, List.length_set, List.length_replicate] at *); omega) ?_; conv => whnf) | (refine ARd.map (by first | omega | (simp only [List.length_map] at *; omega)) ?_; conv => whnf) | (refine VReq.mk (by first | decide | omega) ?_; conv => whnf) | (refine AEq.mk (by kernel_rfl) rfl rfl ?_; conv => whnf) | (refine VReq.mk (app_ok (by (try simp only [List.length_map, List.length_append, List.length_cons, List.length_nil, List.length_take, List.length_drop, List.length_set, List.length_replicate] at *); omega) (by kernel_rfl)) ?_; conv => whnf)))
      have hp : AFn Try.prog GC 16 [bs (out ++ num l[i]), iv ((k : Int) - (i : Int))] 0 [] (Own1 5 1 ((out ++ num l[i] ++ num ((k - i : Nat) : Int)).map enB)) := by
        rw [← show ((k - i : Nat) : Int) = (k : Int) - (i : Int) by omega]
        exact putA (out ++ num l[i]) ((k - i : Nat) : Int) (i64_nat (by omega)) (by rw [List.length_append]; omega)
      (refine acallF [0] (by kernel_rfl) (hp) ?_ ?_; (focus (repeat' (first | rfl | trivial | apply And.intro))))
      rintro _ _ _ ⟨rfl, rfl, rfl⟩
      conv => whnf
      (repeat' (first | (refine And.intro ?_ ?_ <;> (conv => whnf)) | (refine vif_split (fun h => ?_) (fun h => ?_) <;> (try simp only [sEqD, cond_true, cond_false, Bool.not_eq_true', Bool.not_eq_false', decide_eq_true_eq, decide_eq_false_iff_not, beq_iff_eq, bne_iff_ne, beq_eq_false_iff_ne, bne_eq_false_iff_eq, ne_eq, Bool.not_eq_eq_eq_not, Bool.not_true, Bool.not_false, Bool.false_eq_true, Bool.true_eq_false, Decidable.not_not, gt_iff_lt, ge_iff_le, Int.not_lt, Int.not_le] at h) <;> (conv => whnf)) | (refine AAr.i64 (by first | omega | ((try simp only [List.length_map] at *); omega)) ?_; conv => whnf) | (refine AIn.mk' _ rfl (by first | omega | (simp only [List.length_map, List.length_append, List.length_cons, List.length_nil, List.length_take, List.length_drop, List.length_set, List.length_replicate]; omega) | (simp only [List.length_map, List.length_append, List.length_cons, List.length_nil, List.length_take, List.length_drop, List.length_set, List.length_replicate] at *; omega)) ?_; conv => whnf) | (refine ARd.mapAt (by assumption) ?_; conv => whnf) | (refine ARd.set (by (try simp only [List.length_map, List.length_append, List.length_cons, List.length_nil, List.length_take, List.length_drop, List.length_set, List.length_replicate] at *); omega) ?_; conv => whnf) | (refine ARd.map (by first | omega | (simp only [List.length_map] at *; omega)) ?_; conv => whnf) | (refine VReq.mk (by first | decide | omega) ?_; conv => whnf) | (refine AEq.mk (by kernel_rfl) rfl rfl ?_; conv => whnf) | (refine VReq.mk (app_ok (by (try simp only [List.length_map, List.length_append, List.length_cons, List.length_nil, List.length_take, List.length_drop, List.length_set, List.length_replicate] at *); omega) (by kernel_rfl)) ?_; conv => whnf)))
      exact aback ⟨k, 0, out ++ num l[i] ++ num ((k - i : Nat) : Int)⟩ [] [1] rfl (by show l.length - k < l.length - i; omega) ⟨hk, hd⟩ trivial ⟨⟨rfl, rfl, rfl⟩, rfl, trivial⟩
  · have : i = l.length := by simp at h; omega
    subst this
    simp only [List.drop_length, b2, rl, List.flatMap_nil, List.append_nil] at ho
    rw [ho]
    exact aret [] (by repeat' (first | rfl | trivial | apply And.intro))
def fnv (f : FuncId) : AV := .v (.func (.func f) #[] #[])
def cds : List AV := [fnv 26, fnv 27, fnv 28, fnv 29, fnv 30, fnv 31, fnv 32, fnv 33, fnv 34, fnv 35]
set_option maxHeartbeats 4000000 in
set_option maxRecDepth 100000 in
theorem codecsA : AFn Try.prog GC 15 [] 0 [] (Is (.agg cds)) := by
  refine afn_of Try.func15 rfl mixed (by kernel_rfl) ?_
  conv => whnf
  exact aret [] (by repeat' (first | rfl | trivial | apply And.intro))
end Go.Proofs.Ytmhpfadbmpipkaa.Cl
