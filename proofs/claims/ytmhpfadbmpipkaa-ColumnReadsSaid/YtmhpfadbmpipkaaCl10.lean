/- slices.Sort and slices.Compact on a list of the caller's own, and the walk of column's putIndex. Condition: the list is not empty; sizes. -/
import Derived.Test.YtmhpfadbmpipkaaCl9
import Derived.Test.YtmhpfadbmpipkaaAx11
import Derived.Test.YtmhpfadbmpipkaaShl
set_option linter.unusedVariables false
set_option linter.unusedSimpArgs false
namespace Go.Proofs.Ytmhpfadbmpipkaa.Cl
open Go Go.RowKit Go.Proofs Go.Proofs.Ytmhpfadbmpipkaa.Vc Go.Proofs.Ytmhpfadbmpipkaa.Ax
attribute [local irreducible] loadVar storeVar Instr.indexAt Instr.index Instr.sliceAt Instr.makeSlice Instr.lookup Instr.mapUpdate Instr.range Instr.next Instr.entry Instr.makeMap Builtin.append_ Builtin.copy_ Builtin.len_ Builtin.min_ Builtin.max_ Builtin.cap_ Builtin.delete_ Builtin.clear_ convert binOp eqGuard Op.unary Calls
def srt (l : Li) : Li := l.mergeSort fun x y => decide (x ≤ y)
theorem srt_len (l : Li) : (srt l).length = l.length := List.length_mergeSort l
theorem srt_mem (l : Li) (y : Int) : y ∈ srt l ↔ y ∈ l := List.mem_mergeSort
theorem srt_sorted (l : Li) : (srt l).Pairwise (· ≤ ·) := by
  have := List.pairwise_mergeSort (le := fun x y : Int => decide (x ≤ y)) (fun a b c h1 h2 => by simp at *; omega) (fun a b => by simp; omega) l
  exact this.imp fun h => by simpa using h
theorem cmp_spec (z : Li) (hs : z.Pairwise (· ≤ ·)) : ∀ m, m ≤ z.length → SS (Lib.compactUpTo z.toArray m) ∧ ∀ y, y ∈ Lib.compactUpTo z.toArray m ↔ y ∈ z.take m := by
  intro m
  induction m with
  | zero => intro _; simp [Lib.compactUpTo, SS]
  | succ m ih =>
    intro hm
    have hlt : m < z.length := by omega
    obtain ⟨h1, h2⟩ := ih (by omega)
    have em : z.toArray[m]! = z[m] := by simp [hlt]
    have le : ∀ j (hj : j < m), z[j]'(by omega) ≤ z[m] := fun j hj => List.pairwise_iff_getElem.1 hs j m (by omega) hlt hj
    rw [Lib.compactUpTo_succ, List.take_succ_eq_append_getElem hlt, em]
    by_cases hk : Lib.keeps z.toArray m = true
    · rw [if_pos hk]
      refine ⟨List.pairwise_append.2 ⟨h1, List.pairwise_singleton _ _, fun a ha b hb => ?_⟩, fun y => by simp only [List.mem_append, h2, List.mem_singleton]⟩
      rw [List.mem_singleton.1 hb]
      obtain ⟨j, hj, e⟩ := List.getElem_of_mem ((h2 a).1 ha)
      rw [List.length_take] at hj
      rw [List.getElem_take] at e
      have hjm : j < m := by omega
      have hne : z[m - 1]'(by omega) ≠ z[m] := by
        unfold Lib.keeps at hk
        rw [decide_eq_true_eq] at hk
        rcases hk with h | h
        · omega
        · rw [em] at h
          have e1 : z.toArray[m - 1]! = z[m - 1]'(by omega) := by simp [show m - 1 < z.length by omega]
          rw [e1] at h
          exact fun e => h e.symm
      have l1 : z[m - 1]'(by omega) ≤ z[m] := le (m - 1) (by omega)
      have l2 : z[j]'(by omega) ≤ z[m - 1]'(by omega) := by
        rcases Nat.lt_or_ge j (m - 1) with h | h
        · exact List.pairwise_iff_getElem.1 hs j (m - 1) (by omega) (by omega) h
        · have : j = m - 1 := by omega
          subst this; exact Int.le_refl _
      rw [← e]; omega
    · rw [if_neg hk, List.append_nil]
      refine ⟨h1, fun y => ?_⟩
      rw [h2, List.mem_append, List.mem_singleton]
      constructor
      · exact .inl
      · rintro (h | h)
        · exact h
        · unfold Lib.keeps at hk
          rw [decide_eq_true_eq] at hk
          have h0 : 0 < m := by
            rcases Nat.eq_zero_or_pos m with e | e
            · exact absurd (.inl e) hk
            · exact e
          have e1 : z.toArray[m - 1]! = z[m - 1]'(by omega) := by simp [show m - 1 < z.length by omega]
          have e2 : z[m] = z[m - 1]'(by omega) := by
            rw [em, e1] at hk
            exact Classical.byContradiction fun h => hk (.inr h)
          rw [h, e2]
          exact List.mem_iff_getElem.2 ⟨m - 1, by rw [List.length_take]; omega, by rw [List.getElem_take]⟩
theorem compact_ds (l : Li) : Lib.compact (srt l) = ds l := by
  have h := cmp_spec (srt l) (srt_sorted l) (srt l).length (Nat.le_refl _)
  rw [List.take_length] at h
  exact ds_of h.1 fun y => by
    have := h.2 y
    rw [srt_mem] at this
    exact this
theorem oneI (a : Int) : (Value.int .i64 a).oneCell' = true := rfl
/-- slices.Sort -/
theorem sortA (l : Li) (hne : l ≠ []) (hs : l.length ≤ 1000000) : AFn Try.prog GC 49 [.own 0] 1 [(0, .rows 3 1 (l.map enI))] (fun a n H => a = .tup [] ∧ n = 1 ∧ H = [(0, .rows 3 1 ((srt l).map enI))]) :=
  afn_place (enc := Value.int .i64) (V := fun _ _ v => v = .tuple #[]) oneI hne (srt_len l)
    (fun w blk cap hH hb _ => Calls.mono (Try.slices_Sort_int blk 0 cap l w hH hb (by omega)) fun e w' ⟨h1, h2⟩ => ⟨_, h1, rfl, h2⟩)
    (fun w σ F blk cap v _ _ hv => by subst hv; exact RepL.tup («as» := []) (vs := []) trivial)
theorem cmp_len (z : Li) : ∀ m, (Lib.compactUpTo z.toArray m).length ≤ m := by
  intro m
  unfold Lib.compactUpTo
  rw [List.length_map]
  exact Nat.le_trans (List.length_filter_le _ _) (by simp)
/-- slices.Compact of a sorted list -/
theorem compactA (l : Li) (hne : l ≠ []) (hs : l.length ≤ 1000000) : AFn Try.prog GC 50 [.own 0] 1 [(0, .rows 3 1 ((srt l).map enI))] (fun a n H => a = .sub 0 0 (ds l).length ∧ n = 1 ∧ H = [(0, .rows 3 1 ((ds l ++ List.replicate (l.length - (ds l).length) 0).map enI))]) :=
  afn_place (enc := Value.int .i64) (zs' := ds l ++ List.replicate (l.length - (ds l).length) 0) (V := fun blk cap v => v = .slice (some ⟨blk, 0, none⟩) (ds l).length cap) oneI (by intro h; have := srt_len l; rw [h] at this; exact hne (List.eq_nil_of_length_eq_zero this.symm))
    (by have := ds_len l; rw [srt_len, List.length_append, List.length_replicate]; omega)
    (fun w blk cap hH hb hc => Calls.mono (Try.slices_Compact_int blk 0 cap (srt l) w hH (by rw [srt_len]; omega) hc) fun e w' ⟨h1, q, h2⟩ => ⟨_, h1, by rw [compact_ds], q, #[], by rw [h2, compact_ds, Sort.grow_empty, srt_len]⟩)
    (fun w σ F blk cap v hσ hc hv => by
      subst hv
      have hd := ds_len l
      rw [srt_len] at hσ hc
      refine .sub 0 0 _ _ cap (by decide) (by rw [hσ]; show 0 + _ ≤ l.length; omega) (by omega) (fun h => by cases h) fun _ => ⟨blk, by rw [hσ], by rw [Nat.zero_mul]⟩)
theorem take_ds (l : Li) (x : Li) : (((ds l ++ x).map enI).drop 0).take (ds l).length = (ds l).map enI := by
  rw [List.drop_zero, List.map_append]
  exact List.take_left' (List.length_map _)
theorem ixs_take {d l : Li} {k : Nat} (h : k < l.length) : ixs d (l.take (k + 1)) = ixs d (l.take k) ++ num (idx d l[k]) := by
  rw [List.take_succ_eq_append_getElem h]
  unfold ixs
  rw [List.flatMap_append, List.flatMap_cons, List.flatMap_nil, List.append_nil]
set_option maxHeartbeats 4000000 in
set_option maxRecDepth 100000 in
theorem putIndexA (b : By) (l : Li) (hl : AllI l) (hne : l ≠ []) (hb : b.length + 20 * l.length ≤ 2000000) : AFn Try.prog GC 32 [bs b, li l] 0 [] (Is (bs (b ++ b4 l))) := by
  have hdl := ds_len l
  have hda : AllI (ds l) := fun x hx => hl x ((ds_mem l x).1 hx)
  have n1 := (num_len ((ds l).length : Int)).2
  have n2 := b1_len (ds l)
  refine afn_of Try.func32 rfl mixed (by kernel_rfl) ?_
  conv => whnf
  (refine acallF [] (by kernel_rfl) (cloneA l hne (by omega)) ?_ ?_; (focus (repeat' (first | rfl | trivial | apply And.intro))))
  rintro _ _ _ ⟨rfl, rfl, rfl⟩
  conv => whnf
  refine acallM [0] [] (by kernel_rfl) (sortA l hne (by omega)) rfl (by repeat' (first | rfl | trivial | apply And.intro)) (by repeat' (first | rfl | trivial | apply And.intro)) ?_
  rintro _ _ _ ⟨rfl, rfl, rfl⟩
  refine ⟨rfl, ?_⟩
  conv => whnf
  refine acallM [0] [] (by kernel_rfl) (compactA l hne (by omega)) rfl (by repeat' (first | rfl | trivial | apply And.intro)) (by repeat' (first | rfl | trivial | apply And.intro)) ?_
  rintro _ _ _ ⟨rfl, rfl, rfl⟩
  refine ⟨rfl, ?_⟩
  conv => whnf
  (refine acallF [] (by kernel_rfl) (putA b ((ds l).length : Int) (i64_nat (by omega)) (by omega)) ?_ ?_; (focus (repeat' (first | rfl | trivial | apply And.intro))))
  rintro _ _ _ ⟨rfl, rfl, rfl⟩
  conv => whnf
  refine acallF [1, 0] (by kernel_rfl) (putPlainA (b ++ num ((ds l).length : Int)) (ds l) hda (by rw [List.length_append]; omega)) ⟨⟨rfl, rfl, rfl⟩, ⟨rfl, rfl, take_ds l _⟩, trivial⟩ ?_
  rintro _ _ _ ⟨rfl, rfl, rfl⟩
  conv => whnf
  have hix : ∀ k, (ixs (ds l) (l.take k)).length ≤ 10 * l.length := fun k => by
    have h1 := fm_len (fun x => num (idx (ds l) x)) 10 (l.take k) fun x _ => (num_len _).2
    rw [List.length_take] at h1
    have h2 : (ixs (ds l) (l.take k)).length ≤ 10 * min k l.length := h1
    omega
  refine aloop ws32_1 2 [0, 24] (fun k : Nat => [(0, bs (b ++ num ((ds l).length : Int) ++ b1 (ds l) ++ ixs (ds l) (l.take k))), (24, iv k)]) (fun _ => [(0, .fz 1 ((ds l ++ List.replicate (l.length - (ds l).length) 0).map enI))]) (fun k => k ≤ l.length) (fun k => l.length - k) [] [] 0 (by kernel_rfl) (fun _ => rfl) rfl (Nat.zero_le _) ⟨⟨rfl, rfl⟩, trivial⟩ ⟨⟨rfl, by rw [List.take_zero]; simp [ixs]⟩, rfl, trivial⟩ ?_
  rintro k hk
  have hx := hix k
  conv => whnf
  refine vif_split (fun h => ?_) (fun h => ?_)
  · have hlt : k < l.length := by simp at h; omega
    have hmem : l[k] ∈ ds l := (ds_mem l _).2 (List.getElem_mem hlt)
    have hil := (idx_lt hmem).1
    conv => whnf
    (repeat' (first | (refine And.intro ?_ ?_ <;> (conv => whnf)) | (refine vif_split (fun h => ?_) (fun h => ?_) <;> (try simp only [sEqD, cond_true, cond_false, Bool.not_eq_true', Bool.not_eq_false', decide_eq_true_eq, decide_eq_false_iff_not, beq_iff_eq, bne_iff_ne, beq_eq_false_iff_ne, bne_eq_false_iff_eq, ne_eq, Bool.not_eq_eq_eq_not, Bool.not_true, Bool.not_false, Bool.false_eq_true, Bool.true_eq_false, Decidable.not_not, gt_iff_lt, ge_iff_le, Int.not_lt, Int.not_le] at h) <;> (conv => whnf)) | (refine AAr.i64 (by first | omega | ((try simp only [List.length_map] at *); omega)) ?_; conv => whnf) | (refine AIn.mk' _ rfl (by first | omega | (simp only [List.length_map, List.length_append, List.length_cons, List.length_nil, List.length_take, List.length_drop, List.length_set, List.length_replicate]; omega) | (simp only [List.length_map, List.length_append, List.length_cons, List.length_nil, List.length_take, List.length_drop, List.length_set, List.length_replicate] at *; omega)) ?_; conv => whnf) | (refine ARd.mapAt (by assumption) ?_; conv => whnf) | (refine ARd.set (by (try simp only [List.length_map, List.length_append, List.length_cons, List.length_nil, List.length_take, List.length_drop, List.length_set, List.length_replicate] at *); omega) ?_; conv => whnf) | (refine ARd.map (by first | omega | (simp only [List.length_map] at *; omega)) ?_; conv => whnf) | (refine VReq.mk (by first | decide | omega) ?_; conv => whnf) | (refine AEq.mk (by kernel_rfl) rfl rfl ?_; conv => whnf) | (refine VReq.mk (app_ok (by (try simp only [List.length_map, List.length_append, List.length_cons, List.length_nil, List.length_take, List.length_drop, List.length_set, List.length_replicate] at *); omega) (by kernel_rfl)) ?_; conv => whnf)))
    refine acall [] (by kernel_rfl) (searchA (ds l) l[k] (ds_ss l) hmem (by omega)) rfl ⟨⟨rfl, take_ds l _⟩, rfl, trivial⟩ ?_
    conv => whnf
    (refine acallF [] (by kernel_rfl) (putA (b ++ num ((ds l).length : Int) ++ b1 (ds l) ++ ixs (ds l) (l.take k)) (idx (ds l) l[k] : Int) (i64_nat (by omega)) (by simp only [List.length_append]; omega)) ?_ ?_; (focus (repeat' (first | rfl | trivial | apply And.intro))))
    rintro _ _ _ ⟨rfl, rfl, rfl⟩
    conv => whnf
    (repeat' (first | (refine And.intro ?_ ?_ <;> (conv => whnf)) | (refine vif_split (fun h => ?_) (fun h => ?_) <;> (try simp only [sEqD, cond_true, cond_false, Bool.not_eq_true', Bool.not_eq_false', decide_eq_true_eq, decide_eq_false_iff_not, beq_iff_eq, bne_iff_ne, beq_eq_false_iff_ne, bne_eq_false_iff_eq, ne_eq, Bool.not_eq_eq_eq_not, Bool.not_true, Bool.not_false, Bool.false_eq_true, Bool.true_eq_false, Decidable.not_not, gt_iff_lt, ge_iff_le, Int.not_lt, Int.not_le] at h) <;> (conv => whnf)) | (refine AAr.i64 (by first | omega | ((try simp only [List.length_map] at *); omega)) ?_; conv => whnf) | (refine AIn.mk' _ rfl (by first | omega | (simp only [List.length_map, List.length_append, List.length_cons, List.length_nil, List.length_take, List.length_drop, List.length_set, List.length_replicate]; omega) | (simp only [List.length_map, List.length_append, List.length_cons, List.length_nil, List.length_take, List.length_drop, List.length_set, List.length_replicate] at *; omega)) ?_; conv => whnf) | (refine ARd.mapAt (by assumption) ?_; conv => whnf) | (refine ARd.set (by (try simp only [List.length_map, List.length_append, List.length_cons, List.length_nil, List.length_take, List.length_drop, List.length_set, List.length_replicate] at *); omega) ?_; conv => whnf) | (refine ARd.map (by first | omega | (simp only [List.length_map] at *; omega)) ?_; conv => whnf) | (refine VReq.mk (by first | decide | omega) ?_; conv => whnf) | (refine AEq.mk (by kernel_rfl) rfl rfl ?_; conv => whnf) | (refine VReq.mk (app_ok (by (try simp only [List.length_map, List.length_append, List.length_cons, List.length_nil, List.length_take, List.length_drop, List.length_set, List.length_replicate] at *); omega) (by kernel_rfl)) ?_; conv => whnf)))
    refine aback (k + 1) [] [2] rfl (by show l.length - (k + 1) < l.length - k; omega) hlt ⟨⟨rfl, rfl⟩, trivial⟩ ⟨⟨rfl, rfl, ?_⟩, rfl, trivial⟩
    rw [ixs_take hlt, ← List.append_assoc]
  · have : k = l.length := by simp at h; omega
    subst this
    conv => whnf
    have e : b ++ b4 l = b ++ num ((ds l).length : Int) ++ b1 (ds l) ++ ixs (ds l) (l.take l.length) := by
      rw [List.take_length]
      unfold b4 ixs
      simp only [List.append_assoc]
    rw [e]
    exact aret [] (by repeat' (first | rfl | trivial | apply And.intro))
end Go.Proofs.Ytmhpfadbmpipkaa.Cl
