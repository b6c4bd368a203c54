/- The walks of the library functions over texts: Clone, Less, BinarySearch, Sort, Compact; and of both PutText. Condition: sizes; BinarySearch: a sorted list that has the text. -/
import Derived.Test.YtmhpfadbmpipkaaGreatCt1
import Derived.Sort.Walk0
set_option linter.unusedVariables false
set_option linter.unusedSimpArgs false
namespace Go.Proofs.YtmhpfadbmpipkaaGreat.Cl
open Go Go.RowKit Go.Proofs Go.Proofs.YtmhpfadbmpipkaaGreat.Vc Go.Proofs.YtmhpfadbmpipkaaGreat.Ax
attribute [local irreducible] loadVar storeVar Instr.indexAt Instr.index Instr.sliceAt Instr.makeSlice Instr.lookup Instr.mapUpdate Instr.range Instr.next Instr.entry Instr.makeMap Builtin.append_ Builtin.copy_ Builtin.len_ Builtin.min_ Builtin.max_ Builtin.cap_ Builtin.delete_ Builtin.clear_ convert binOp eqGuard Op.unary Calls
abbrev tv (s : By) : AV := .v (.string ⟨s.toArray⟩)
def enT (s : By) : List FV := [.v (.string ⟨s.toArray⟩)]
abbrev tl (l : Tx) : AV := .lst 1 (l.map enT)
theorem sLt_by (a b : By) : sLt ⟨a.toArray⟩ ⟨b.toArray⟩ = decide (a < b) := by
  unfold sLt
  rw [bytesLess_eq, Lib.toList_data, Lib.toList_data]
theorem enT_snoc (l : Tx) (s : By) : (l ++ [s]).map enT = l.map enT ++ [[FV.v (.string ⟨s.toArray⟩)]] := by rw [List.map_append]; rfl
theorem app_s {l : Nat} (h : l ≤ 4194304) : l ≤ 140737488355328 ∧ l ≤ maxLen := ⟨by omega, by unfold maxLen; omega⟩
/-! PutText -/
set_option maxHeartbeats 4000000 in
set_option maxRecDepth 100000 in
theorem putTA (b s : By) (hb : b.length ≤ 2000000) (hs : s.length ≤ 200) : AFn Tryz.prog GC 18 [bs b, tv s] 0 [] (Own1 5 1 ((b ++ putT s).map enB)) := by
  have hl := (num_len (s.length : Int)).2
  refine afn_of Tryz.func18 rfl mixed (by kernel_rfl) ?_
  conv => whnf
  (refine acallF [] (by kernel_rfl) (groupsA (s.length : Int) (i64_nat (by omega))) ?_ ?_; (focus (repeat' (first | rfl | trivial | apply And.intro))))
  rintro _ _ _ ⟨rfl, rfl, rfl⟩
  conv => whnf
  refine VReq.mk (app_s (by rw [List.length_map]; show _ + s.length ≤ _; omega)) ?_
  conv => whnf
  have h := ownA b (putT s) (by have := putT_len s hs; omega)
  refine acallF [1] (by kernel_rfl) h ⟨⟨rfl, rfl⟩, ⟨rfl, rfl, by unfold putT; rw [List.map_append]⟩, trivial⟩ ?_
  rintro _ _ _ ⟨rfl, rfl, rfl⟩
  conv => whnf
  exact aend (.own 0) 1 _ [(0, .lab 2)] [] ⟨rfl, rfl, rfl⟩ rfl (by repeat' (first | rfl | trivial | apply And.intro)) (by repeat' (first | rfl | trivial | apply And.intro))
set_option maxHeartbeats 4000000 in
set_option maxRecDepth 100000 in
theorem putT2A (b s : By) (hb : b.length ≤ 2000000) (hs : s.length ≤ 200) : AFn Tryz.prog GC 27 [bs b, tv s] 0 [] (Own1 5 1 ((b ++ putT s).map enB)) := by
  have hl := (num_len (s.length : Int)).2
  refine afn_of Tryz.func27 rfl mixed (by kernel_rfl) ?_
  conv => whnf
  (refine acallF [] (by kernel_rfl) (put2A b (s.length : Int) (i64_nat (by omega)) (by omega)) ?_ ?_; (focus (repeat' (first | rfl | trivial | apply And.intro))))
  rintro _ _ _ ⟨rfl, rfl, rfl⟩
  conv => whnf
  refine VReq.mk (app_s (by rw [List.length_map, List.length_append]; show _ + s.length ≤ _; omega)) ?_
  conv => whnf
  refine aend (.own 0) 1 _ [(0, .lab 1)] [] ⟨rfl, rfl, rfl⟩ rfl ⟨⟨rfl, rfl, ?_⟩, trivial⟩ (by repeat' (first | rfl | trivial | apply And.intro))
  unfold putT
  simp only [List.map_append, List.append_assoc]
/-! Clone, Less, BinarySearch -/
set_option maxHeartbeats 4000000 in
set_option maxRecDepth 100000 in
theorem cloneTA (l : Tx) (hl : l ≠ []) (hs : l.length ≤ 100000) : AFn Tryz.prog GC 14 [tl l] 0 [] (Own1 9 1 (l.map enT)) := by
  have h0 : 0 < l.length := List.length_pos_iff.2 hl
  refine afn_of Tryz.func14 rfl mixed (by kernel_rfl) ?_
  conv => whnf
  refine ⟨fun b hb => ?_⟩
  rw [hb (by rw [List.length_map]; exact h0)]
  conv => whnf
  (repeat' (first | (refine And.intro ?_ ?_ <;> (conv => whnf)) | (refine vif_split (fun h => ?_) (fun h => ?_) <;> (try simp only [sEqD, cond_true, cond_false, Bool.not_eq_true', Bool.not_eq_false', decide_eq_true_eq, decide_eq_false_iff_not, beq_iff_eq, bne_iff_ne, beq_eq_false_iff_ne, bne_eq_false_iff_eq, ne_eq, Bool.not_eq_eq_eq_not, Bool.not_true, Bool.not_false, Bool.false_eq_true, Bool.true_eq_false, Decidable.not_not, gt_iff_lt, ge_iff_le, Int.not_lt, Int.not_le] at h) <;> (conv => whnf)) | (refine AAr.i64 (by first | omega | ((try simp only [List.length_map] at *); omega)) ?_; conv => whnf) | (refine AIn.mk' _ rfl (by first | omega | (simp only [List.length_map, List.length_append, List.length_cons, List.length_nil, List.length_take, List.length_drop, List.length_set, List.length_replicate]; omega) | (simp only [List.length_map, List.length_append, List.length_cons, List.length_nil, List.length_take, List.length_drop, List.length_set, List.length_replicate] at *; omega)) ?_; conv => whnf) | (refine ARd.mapAt (by assumption) ?_; conv => whnf) | (refine ARd.set (by (try simp only [List.length_map, List.length_append, List.length_cons, List.length_nil, List.length_take, List.length_drop, List.length_set, List.length_replicate] at *); omega) ?_; conv => whnf) | (refine ARd.map (by first | omega | (simp only [List.length_map] at *; omega)) ?_; conv => whnf) | (refine VReq.mk (by first | decide | omega) ?_; conv => whnf) | (refine AEq.mk (by kernel_rfl) rfl rfl ?_; conv => whnf) | (refine VReq.mk (app_ok (by (try simp only [List.length_map, List.length_append, List.length_cons, List.length_nil, List.length_take, List.length_drop, List.length_set, List.length_replicate] at *); omega) (by kernel_rfl)) ?_; conv => whnf)))
  exact aend (.own 0) 1 _ [(0, .lab 1)] [] ⟨rfl, rfl, rfl⟩ rfl (by repeat' (first | rfl | trivial | apply And.intro)) (by repeat' (first | rfl | trivial | apply And.intro))
theorem sEq_self (s : ByteArray) : (!sEq s s) = false := by rw [sEqD]; simp
set_option maxHeartbeats 4000000 in
set_option maxRecDepth 100000 in
theorem nan3A (s : By) : AFn Tryz.prog GC 70 [tv s] 0 [] (Is (bv false)) := by
  refine afn_of Tryz.func70 rfl mixed (by kernel_rfl) ?_
  conv => whnf
  exact aret [] (congrArg Value.bool (sEq_self _))
set_option maxHeartbeats 4000000 in
set_option maxRecDepth 100000 in
theorem nan4A (s : By) : AFn Tryz.prog GC 41 [tv s] 0 [] (Is (bv false)) := by
  refine afn_of Tryz.func41 rfl mixed (by kernel_rfl) ?_
  conv => whnf
  exact aret [] (congrArg Value.bool (sEq_self _))
set_option maxHeartbeats 4000000 in
set_option maxRecDepth 100000 in
theorem lessTA (x y : By) : AFn Tryz.prog GC 40 [tv x, tv y] 0 [] (Is (bv (decide (x < y)))) := by
  have e := sLt_by x y
  refine afn_of Tryz.func40 rfl mixed (by kernel_rfl) ?_
  conv => whnf
  (refine acall [] (by kernel_rfl) (nan3A x) rfl ?_ ?_; (focus (repeat' (first | rfl | trivial | apply And.intro))))
  conv => whnf
  rw [← e]
  (repeat' (first | (refine And.intro ?_ ?_ <;> (conv => whnf)) | (refine vif_split (fun h => ?_) (fun h => ?_) <;> (try simp only [sEqD, cond_true, cond_false, Bool.not_eq_true', Bool.not_eq_false', decide_eq_true_eq, decide_eq_false_iff_not, beq_iff_eq, bne_iff_ne, beq_eq_false_iff_ne, bne_eq_false_iff_eq, ne_eq, Bool.not_eq_eq_eq_not, Bool.not_true, Bool.not_false, Bool.false_eq_true, Bool.true_eq_false, Decidable.not_not, gt_iff_lt, ge_iff_le, Int.not_lt, Int.not_le] at h) <;> (conv => whnf)) | (refine AAr.i64 (by first | omega | ((try simp only [List.length_map] at *); omega)) ?_; conv => whnf) | (refine AIn.mk' _ rfl (by first | omega | (simp only [List.length_map, List.length_append, List.length_cons, List.length_nil, List.length_take, List.length_drop, List.length_set, List.length_replicate]; omega) | (simp only [List.length_map, List.length_append, List.length_cons, List.length_nil, List.length_take, List.length_drop, List.length_set, List.length_replicate] at *; omega)) ?_; conv => whnf) | (refine ARd.mapAt (by assumption) ?_; conv => whnf) | (refine ARd.set (by (try simp only [List.length_map, List.length_append, List.length_cons, List.length_nil, List.length_take, List.length_drop, List.length_set, List.length_replicate] at *); omega) ?_; conv => whnf) | (refine ARd.map (by first | omega | (simp only [List.length_map] at *; omega)) ?_; conv => whnf) | (refine VReq.mk (by first | decide | omega) ?_; conv => whnf) | (refine AEq.mk (by kernel_rfl) rfl rfl ?_; conv => whnf) | (refine VReq.mk (app_ok (by (try simp only [List.length_map, List.length_append, List.length_cons, List.length_nil, List.length_take, List.length_drop, List.length_set, List.length_replicate] at *); omega) (by kernel_rfl)) ?_; conv => whnf)))
  all_goals first
    | exact aret [] (by repeat' (first | rfl | trivial | apply And.intro))
    | exact aret [] (congrArg Value.bool (by assumption))
set_option maxHeartbeats 4000000 in
set_option maxRecDepth 100000 in
theorem searchTA (d : Tx) (x : By) (hd : SST d) (hx : x ∈ d) (hs : d.length ≤ 1000000) : AFn Tryz.prog GC 19 [tl d, tv x] 0 [] (Is (.tup [iv (idxT d x), bv true])) := by
  have hi := idxT_lt hx
  refine afn_of Tryz.func19 rfl mixed (by kernel_rfl) ?_
  conv => whnf
  refine aloop ws19_1 0 [7, 8] (fun x : Nat × Nat => [(7, iv x.1), (8, iv x.2)]) (fun _ => []) (fun y => y.1 ≤ idxT d x ∧ idxT d x ≤ y.2 ∧ y.2 ≤ d.length) (fun y => y.2 - y.1) [] [] (0, d.length) (by kernel_rfl) (fun _ => rfl) rfl ⟨Nat.zero_le _, Nat.le_of_lt hi.1, Nat.le_refl _⟩ trivial ⟨rfl, congrArg (fun n : Nat => Value.int .i64 (n : Int)) (List.length_map _), trivial⟩ ?_
  rintro ⟨i, j⟩ ⟨h1, h2, h3⟩
  change i ≤ idxT d x at h1
  change idxT d x ≤ j at h2
  change j ≤ d.length at h3
  conv => whnf
  refine vif_split (fun h => ?_) (fun h => ?_)
  · have hlt : i < j := by simp at h; omega
    conv => whnf
    (repeat' (first | (refine And.intro ?_ ?_ <;> (conv => whnf)) | (refine vif_split (fun h => ?_) (fun h => ?_) <;> (try simp only [sEqD, cond_true, cond_false, Bool.not_eq_true', Bool.not_eq_false', decide_eq_true_eq, decide_eq_false_iff_not, beq_iff_eq, bne_iff_ne, beq_eq_false_iff_ne, bne_eq_false_iff_eq, ne_eq, Bool.not_eq_eq_eq_not, Bool.not_true, Bool.not_false, Bool.false_eq_true, Bool.true_eq_false, Decidable.not_not, gt_iff_lt, ge_iff_le, Int.not_lt, Int.not_le] at h) <;> (conv => whnf)) | (refine AAr.i64 (by first | omega | ((try simp only [List.length_map] at *); omega)) ?_; conv => whnf) | (refine AIn.mk' _ rfl (by first | omega | (simp only [List.length_map, List.length_append, List.length_cons, List.length_nil, List.length_take, List.length_drop, List.length_set, List.length_replicate]; omega) | (simp only [List.length_map, List.length_append, List.length_cons, List.length_nil, List.length_take, List.length_drop, List.length_set, List.length_replicate] at *; omega)) ?_; conv => whnf) | (refine ARd.mapAt (by assumption) ?_; conv => whnf) | (refine ARd.set (by (try simp only [List.length_map, List.length_append, List.length_cons, List.length_nil, List.length_take, List.length_drop, List.length_set, List.length_replicate] at *); omega) ?_; conv => whnf) | (refine ARd.map (by first | omega | (simp only [List.length_map] at *; omega)) ?_; conv => whnf) | (refine VReq.mk (by first | decide | omega) ?_; conv => whnf) | (refine AEq.mk (by kernel_rfl) rfl rfl ?_; conv => whnf) | (refine VReq.mk (app_ok (by (try simp only [List.length_map, List.length_append, List.length_cons, List.length_nil, List.length_take, List.length_drop, List.length_set, List.length_replicate] at *); omega) (by kernel_rfl)) ?_; conv => whnf)))
    refine AAr.to (y := ((i + j : Nat) : Int)) (by rw [← Int.natCast_add]; exact wr_u64 (by omega)) ?_
    conv => whnf
    refine VReq.mk (by decide) ?_
    rw [shrk1]
    conv => whnf
    refine AAr.i64 (by omega) ?_
    conv => whnf
    have hm : (i + j) / 2 < d.length := by omega
    (repeat' (first | (refine And.intro ?_ ?_ <;> (conv => whnf)) | (refine vif_split (fun h => ?_) (fun h => ?_) <;> (try simp only [sEqD, cond_true, cond_false, Bool.not_eq_true', Bool.not_eq_false', decide_eq_true_eq, decide_eq_false_iff_not, beq_iff_eq, bne_iff_ne, beq_eq_false_iff_ne, bne_eq_false_iff_eq, ne_eq, Bool.not_eq_eq_eq_not, Bool.not_true, Bool.not_false, Bool.false_eq_true, Bool.true_eq_false, Decidable.not_not, gt_iff_lt, ge_iff_le, Int.not_lt, Int.not_le] at h) <;> (conv => whnf)) | (refine AAr.i64 (by first | omega | ((try simp only [List.length_map] at *); omega)) ?_; conv => whnf) | (refine AIn.mk' _ rfl (by first | omega | (simp only [List.length_map, List.length_append, List.length_cons, List.length_nil, List.length_take, List.length_drop, List.length_set, List.length_replicate]; omega) | (simp only [List.length_map, List.length_append, List.length_cons, List.length_nil, List.length_take, List.length_drop, List.length_set, List.length_replicate] at *; omega)) ?_; conv => whnf) | (refine ARd.mapAt (by assumption) ?_; conv => whnf) | (refine ARd.set (by (try simp only [List.length_map, List.length_append, List.length_cons, List.length_nil, List.length_take, List.length_drop, List.length_set, List.length_replicate] at *); omega) ?_; conv => whnf) | (refine ARd.map (by first | omega | (simp only [List.length_map] at *; omega)) ?_; conv => whnf) | (refine VReq.mk (by first | decide | omega) ?_; conv => whnf) | (refine AEq.mk (by kernel_rfl) rfl rfl ?_; conv => whnf) | (refine VReq.mk (app_ok (by (try simp only [List.length_map, List.length_append, List.length_cons, List.length_nil, List.length_take, List.length_drop, List.length_set, List.length_replicate] at *); omega) (by kernel_rfl)) ?_; conv => whnf)))
    (refine acall [] (by kernel_rfl) (lessTA d[(i + j) / 2] x) rfl ?_ ?_; (focus (repeat' (first | rfl | trivial | apply And.intro))))
    conv => whnf
    have hat := List.getElem?_eq_getElem hm
    refine vif_split (fun h => ?_) (fun h => ?_)
    · conv => whnf
      refine AAr.i64 (by omega) ?_
      conv => whnf
      have hlt2 : d[(i + j) / 2] < x := of_decide_eq_true h
      have hc : (i + j) / 2 < idxT d x := by
        rcases Nat.lt_trichotomy ((i + j) / 2) (idxT d x) with h4 | h4 | h4
        · exact h4
        · have := hi.2; rw [← h4, hat] at this; injection this with this; rw [this] at hlt2; exact (tlt_irr _ hlt2).elim
        · exact (tlt_asym hlt2 (ssT_lt hd h4 hi.2 hat)).elim
      exact aback ((i + j) / 2 + 1, j) [] [] rfl (by show j - ((i + j) / 2 + 1) < j - i; omega) ⟨hc, h2, h3⟩ trivial ⟨rfl, rfl, trivial⟩
    · conv => whnf
      have hlt2 : ¬ d[(i + j) / 2] < x := of_decide_eq_false h
      have hc : idxT d x ≤ (i + j) / 2 := by
        rcases Nat.lt_or_ge ((i + j) / 2) (idxT d x) with h4 | h4
        · exact absurd (ssT_lt hd h4 hat hi.2) hlt2
        · exact h4
      exact aback (i, (i + j) / 2) [] [] rfl (by show (i + j) / 2 - i < j - i; omega) ⟨h1, hc, by show (i + j) / 2 ≤ _; omega⟩ trivial ⟨rfl, rfl, trivial⟩
  · have hij : i = idxT d x := by simp at h; omega
    have hil : i < d.length := by omega
    have hat : d[i]? = some x := by rw [hij]; exact hi.2
    rw [← hij]
    conv => whnf
    (repeat' (first | (refine And.intro ?_ ?_ <;> (conv => whnf)) | (refine vif_split (fun h => ?_) (fun h => ?_) <;> (try simp only [sEqD, cond_true, cond_false, Bool.not_eq_true', Bool.not_eq_false', decide_eq_true_eq, decide_eq_false_iff_not, beq_iff_eq, bne_iff_ne, beq_eq_false_iff_ne, bne_eq_false_iff_eq, ne_eq, Bool.not_eq_eq_eq_not, Bool.not_true, Bool.not_false, Bool.false_eq_true, Bool.true_eq_false, Decidable.not_not, gt_iff_lt, ge_iff_le, Int.not_lt, Int.not_le] at h) <;> (conv => whnf)) | (refine AAr.i64 (by first | omega | ((try simp only [List.length_map] at *); omega)) ?_; conv => whnf) | (refine AIn.mk' _ rfl (by first | omega | (simp only [List.length_map, List.length_append, List.length_cons, List.length_nil, List.length_take, List.length_drop, List.length_set, List.length_replicate]; omega) | (simp only [List.length_map, List.length_append, List.length_cons, List.length_nil, List.length_take, List.length_drop, List.length_set, List.length_replicate] at *; omega)) ?_; conv => whnf) | (refine ARd.mapAt (by assumption) ?_; conv => whnf) | (refine ARd.set (by (try simp only [List.length_map, List.length_append, List.length_cons, List.length_nil, List.length_take, List.length_drop, List.length_set, List.length_replicate] at *); omega) ?_; conv => whnf) | (refine ARd.map (by first | omega | (simp only [List.length_map] at *; omega)) ?_; conv => whnf) | (refine VReq.mk (by first | decide | omega) ?_; conv => whnf) | (refine AEq.mk (by kernel_rfl) rfl rfl ?_; conv => whnf) | (refine VReq.mk (app_ok (by (try simp only [List.length_map, List.length_append, List.length_cons, List.length_nil, List.length_take, List.length_drop, List.length_set, List.length_replicate] at *); omega) (by kernel_rfl)) ?_; conv => whnf)))
    all_goals first
      | (exfalso; omega)
      | (exfalso; simp only [List.length_map] at h; omega)
      | (exfalso; simp at h; done)
      | exact aret [] (by repeat' (first | rfl | trivial | apply And.intro))
/-! Sort, Compact -/
theorem oneT (a : By) : (encStr a).oneCell' = true := rfl
theorem sortTA (l : Tx) (hne : l ≠ []) (hs : l.length ≤ 1000000) : AFn Tryz.prog GC 15 [.own 0] 1 [(0, .rows 9 1 (l.map enT))] (fun a n H => a = .tup [] ∧ n = 1 ∧ H = [(0, .rows 9 1 ((srtT l).map enT))]) :=
  afn_place (enc := encStr) (V := fun _ _ v => v = .tuple #[]) oneT hne (srtT_len l)
    (fun w blk cap hH hb _ => Calls.mono (Tryz.slices_Sort_string blk 0 cap l w hH hb (by omega)) fun e w' ⟨h1, h2⟩ => ⟨_, h1, rfl, h2⟩)
    (fun w σ F blk cap v _ _ hv => by subst hv; exact RepL.tup («as» := []) (vs := []) trivial)
theorem compactTA (l : Tx) (hne : l ≠ []) (hs : l.length ≤ 1000000) : AFn Tryz.prog GC 16 [.own 0] 1 [(0, .rows 9 1 ((srtT l).map enT))] (fun a n H => a = .sub 0 0 (dsT l).length ∧ n = 1 ∧ H = [(0, .rows 9 1 ((dsT l ++ List.replicate (l.length - (dsT l).length) []).map enT))]) :=
  afn_place (enc := encStr) (zs' := dsT l ++ List.replicate (l.length - (dsT l).length) []) (V := fun blk cap v => v = .slice (some ⟨blk, 0, none⟩) (dsT l).length cap) oneT (by intro h; have := srtT_len l; rw [h] at this; exact hne (List.eq_nil_of_length_eq_zero this.symm))
    (by have := dsT_len l; rw [srtT_len, List.length_append, List.length_replicate]; omega)
    (fun w blk cap hH hb hc => Calls.mono (Tryz.slices_Compact_string blk 0 cap (srtT l) w hH (by rw [srtT_len]; omega) hc) fun e w' ⟨h1, q, h2⟩ => ⟨_, h1, by rw [compact_dsT], q, #[], by rw [h2, compact_dsT, Sort.grow_empty, srtT_len]⟩)
    (fun w σ F blk cap v hσ hc hv => by
      subst hv
      have hd := dsT_len l
      rw [srtT_len] at hσ hc
      refine .sub 0 0 _ _ cap (by decide) (by rw [hσ]; show 0 + _ ≤ l.length; omega) (by omega) (fun h => by cases h) fun _ => ⟨blk, by rw [hσ], by rw [Nat.zero_mul]⟩)
theorem take_dsT (l : Tx) (x : Tx) : (((dsT l ++ x).map enT).drop 0).take (dsT l).length = (dsT l).map enT := by
  rw [List.drop_zero, List.map_append]
  exact List.take_left' (List.length_map _)
end Go.Proofs.YtmhpfadbmpipkaaGreat.Cl
